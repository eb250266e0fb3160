/- What the engine's walk comes to, printed by a program of this work: for each function its model, and that it is one. No conditions. -/
import Derived.Test.YtimkclpogbfciaaDoorCon2
namespace Go.Proofs.YtimkclpogbfciaaDoor.W
open Go Go.Eng
set_option linter.unusedVariables false
set_option linter.unusedSimpArgs false
set_option maxRecDepth 100000


/-! suture/suturehand.Pick -/
def m_suturehand_Pick (n : Nat) (a0 : Int) (a1 : Int) : Option (Int) :=
must true (!decide (a1 = 0)) (bif (decide (((Int.tmod a0 a1) : Int) < 0)) then (
some (IntKind.wrap .i64 ((Int.tmod a0 a1) + a1)))
else (
some (Int.tmod a0 a1)))
def d_suturehand_Pick : FnF := ⟨17, [.int .i64, .int .i64], [.int .i64]⟩
theorem m_suturehand_Pick_ok (n : Nat) : Ok Tryd.prog d_suturehand_Pick (m_suturehand_Pick n) := fnOk0 sound [] Tryd.func17 (by kernel_rfl) (fun a => by kernel_rfl)


/-! suture/suturelaw7.lines -/
def l_suturelaw7_lines_3_B (n : Nat) (k : (List T) × Bool × ByteArray × Int → Option (Bool × ByteArray)) : (List T) × Bool × ByteArray × Int → Option (Bool × ByteArray) := fun (s0, s1, s2, s3) =>
bif (bif (decide ((s3 : Int) < ((List.length s0 : Nat) : Int))) then (decide ((s3 : Int) < 24)) else false) then (
Option.bind (idx true [.int .i64] s0 s3) fun y0 =>
Option.bind (m_suturehand_Pick n (y0.cell 0).int 6) fun r1 =>
Option.bind (idx1 true (.str) [(T.sc (.string (⟨#[97, 10]⟩ : ByteArray))), (T.sc (.string (⟨#[98, 10]⟩ : ByteArray))), (T.sc (.string (⟨#[10]⟩ : ByteArray))), (T.sc (.string (⟨#[97, 10]⟩ : ByteArray))), (T.sc (.string (⟨#[9, 108, 111, 110, 103, 32, 111, 110, 101, 10]⟩ : ByteArray))), (T.sc (.string (⟨#[99, 10]⟩ : ByteArray)))] r1) fun y2 =>
must true (decide (((ByteArray.size s2 + ByteArray.size y2.str : Nat) : Int) ≤ IntKind.i64.max)) (k (s0, s1, (s2 ++ y2.str), (IntKind.wrap .i64 (s3 + 1)))))
else (
some (s1, s2))
def l_suturelaw7_lines_3 (n : Nat) : Nat → (List T) × Bool × ByteArray × Int → Option (Bool × ByteArray)
  | 0, _ => none
  | m + 1, s => l_suturelaw7_lines_3_B n (l_suturelaw7_lines_3 n m) s
def m_suturelaw7_lines (n : Nat) (a0 : List T) (a1 : Bool) : Option (ByteArray) :=
Option.bind (l_suturelaw7_lines_3 n n (a0, a1, (⟨#[]⟩ : ByteArray), 0)) fun p4 =>
bif (bif p4.1 then (decide ((((ByteArray.size p4.2 : Nat) : Int) : Int) > 0)) else false) then (
must true (decide (0 ≤ 0) && decide (0 ≤ (IntKind.wrap .i64 (((ByteArray.size p4.2 : Nat) : Int) - 1))) && decide ((IntKind.wrap .i64 (((ByteArray.size p4.2 : Nat) : Int) - 1)) ≤ ((ByteArray.size p4.2 : Nat) : Int))) (some (ByteArray.extract p4.2 (Int.toNat 0) (Int.toNat (IntKind.wrap .i64 (((ByteArray.size p4.2 : Nat) : Int) - 1))))))
else (
some p4.2)
def d_suturelaw7_lines : FnF := ⟨13, [.list, .bool], [.str]⟩
def cs_suturelaw7_lines (n : Nat) : List (CalF Tryd.prog) := [⟨d_suturehand_Pick, m_suturehand_Pick n, m_suturehand_Pick_ok n⟩]
def L_l_suturelaw7_lines_3 : LF := ⟨3, [0, 1, 5, 6], [.list, .bool, .str, .int .i64], [⟨(.exit 0), [1, 5], [.bool, .str]⟩]⟩
def ls_suturelaw7_lines (n : Nat) : List LE := [⟨3, loopS L_l_suturelaw7_lines_3 (l_suturelaw7_lines_3 n n)⟩]
theorem l_suturelaw7_lines_3_ok (n : Nat) : LoopOk Tryd.prog (mkSpec (cs_suturelaw7_lines n) (ls_suturelaw7_lines n)) 0 38 (loopAt Tryd.f13 0) := loopOk (L := L_l_suturelaw7_lines_3) (f := l_suturelaw7_lines_3 n) (B := l_suturelaw7_lines_3_B n) (k := n) (loopAt_ok sound Tryd.func13 (by kernel_rfl)) (inner (by kernel_rfl) allN) (innerS (by kernel_rfl) allN) (fun _ => rfl) (fun _ _ => rfl) (by kernel_rfl) (fun _ => by kernel_rfl) (by kernel_rfl) (fun k a => by kernel_rfl)
theorem m_suturelaw7_lines_ok (n : Nat) : Ok Tryd.prog d_suturelaw7_lines (m_suturelaw7_lines n) := fnOk sound (cs := cs_suturelaw7_lines n) (ls := ls_suturelaw7_lines n) (n := 38) Tryd.func13 (by kernel_rfl) (fun _ => by kernel_rfl) (inner (by kernel_rfl) (allC (l_suturelaw7_lines_3_ok n) allN)) (innerS (by kernel_rfl) allN) (by kernel_rfl) (fun a => by kernel_rfl)


/-! suture/suturehand.Few -/
def m_suturehand_Few (n : Nat) (a0 : ByteArray) (a1 : Int) : Option (ByteArray) :=
bif (decide ((((ByteArray.size a0 : Nat) : Int) : Int) > a1)) then (
must true (decide (0 ≤ 0) && decide (0 ≤ a1) && decide (a1 ≤ ((ByteArray.size a0 : Nat) : Int))) (some (ByteArray.extract a0 (Int.toNat 0) (Int.toNat a1))))
else (
some a0)
def d_suturehand_Few : FnF := ⟨14, [.str, .int .i64], [.str]⟩
theorem m_suturehand_Few_ok (n : Nat) : Ok Tryd.prog d_suturehand_Few (m_suturehand_Few n) := fnOk0 sound [] Tryd.func14 (by kernel_rfl) (fun a => by kernel_rfl)


/-! suture/sutureref1.Lines -/
def l_sutureref1_Lines_4_B (n : Nat) (k : ByteArray × (List T) × Int × Int → Option (ByteArray × (List T) × Int)) : ByteArray × (List T) × Int × Int → Option (ByteArray × (List T) × Int) := fun (s0, s1, s2, s3) =>
bif (decide ((s3 : Int) < ((ByteArray.size s0 : Nat) : Int))) then (
Option.bind (bidx true s0 s3) fun b0 =>
bif ((((UInt8.toNat b0 : Nat) : Int) : Int) == 10) then (
must true (decide (0 ≤ s2) && decide (s2 ≤ (IntKind.wrap .i64 (s3 + 1))) && decide ((IntKind.wrap .i64 (s3 + 1)) ≤ ((ByteArray.size s0 : Nat) : Int))) (must true ((Nat.beq 1 1 || Nat.beq 1 0) && (decide (List.length s1 + List.length [(T.sc (.string (ByteArray.extract s0 (Int.toNat s2) (Int.toNat (IntKind.wrap .i64 (s3 + 1))))))] ≤ 1073741824) && sized 1 [(T.sc (.string (ByteArray.extract s0 (Int.toNat s2) (Int.toNat (IntKind.wrap .i64 (s3 + 1))))))])) (k (s0, (s1 ++ [(T.sc (.string (ByteArray.extract s0 (Int.toNat s2) (Int.toNat (IntKind.wrap .i64 (s3 + 1))))))]), (IntKind.wrap .i64 (s3 + 1)), (IntKind.wrap .i64 (s3 + 1))))))
else (
k (s0, s1, s2, (IntKind.wrap .i64 (s3 + 1)))))
else (
some (s0, s1, s2))
def l_sutureref1_Lines_4 (n : Nat) : Nat → ByteArray × (List T) × Int × Int → Option (ByteArray × (List T) × Int)
  | 0, _ => none
  | m + 1, s => l_sutureref1_Lines_4_B n (l_sutureref1_Lines_4 n m) s
def m_sutureref1_Lines (n : Nat) (a0 : ByteArray) : Option ((List T)) :=
Option.bind (l_sutureref1_Lines_4 n n (a0, ([] : List T), 0, 0)) fun p2 =>
bif (decide ((p2.2.2 : Int) < ((ByteArray.size p2.1 : Nat) : Int))) then (
must true (decide (0 ≤ p2.2.2) && decide (p2.2.2 ≤ ((ByteArray.size p2.1 : Nat) : Int)) && decide (((ByteArray.size p2.1 : Nat) : Int) ≤ ((ByteArray.size p2.1 : Nat) : Int))) (must true ((Nat.beq 1 1 || Nat.beq 1 0) && (decide (List.length p2.2.1 + List.length [(T.sc (.string (ByteArray.extract p2.1 (Int.toNat p2.2.2) (Int.toNat ((ByteArray.size p2.1 : Nat) : Int)))))] ≤ 1073741824) && sized 1 [(T.sc (.string (ByteArray.extract p2.1 (Int.toNat p2.2.2) (Int.toNat ((ByteArray.size p2.1 : Nat) : Int)))))])) (some (p2.2.1 ++ [(T.sc (.string (ByteArray.extract p2.1 (Int.toNat p2.2.2) (Int.toNat ((ByteArray.size p2.1 : Nat) : Int)))))]))))
else (
some p2.2.1)
def d_sutureref1_Lines : FnF := ⟨16, [.str], [.own 1]⟩
def cs_sutureref1_Lines (n : Nat) : List (CalF Tryd.prog) := []
def L_l_sutureref1_Lines_4 : LF := ⟨4, [0, 3, 4, 5], [.str, .own 1, .int .i64, .int .i64], [⟨(.exit 0), [0, 3, 4], [.str, .own 1, .int .i64]⟩]⟩
def ls_sutureref1_Lines (n : Nat) : List LE := [⟨4, loopS L_l_sutureref1_Lines_4 (l_sutureref1_Lines_4 n n)⟩]
theorem l_sutureref1_Lines_4_ok (n : Nat) : LoopOk Tryd.prog (mkSpec (cs_sutureref1_Lines n) (ls_sutureref1_Lines n)) 0 37 (loopAt Tryd.f16 0) := loopOk (L := L_l_sutureref1_Lines_4) (f := l_sutureref1_Lines_4 n) (B := l_sutureref1_Lines_4_B n) (k := n) (loopAt_ok sound Tryd.func16 (by kernel_rfl)) (inner (by kernel_rfl) allN) (innerS (by kernel_rfl) allN) (fun _ => rfl) (fun _ _ => rfl) (by kernel_rfl) (fun _ => by kernel_rfl) (by kernel_rfl) (fun k a => by kernel_rfl)
theorem m_sutureref1_Lines_ok (n : Nat) : Ok Tryd.prog d_sutureref1_Lines (m_sutureref1_Lines n) := fnOk sound (cs := cs_sutureref1_Lines n) (ls := ls_sutureref1_Lines n) (n := 37) Tryd.func16 (by kernel_rfl) (fun _ => by kernel_rfl) (inner (by kernel_rfl) (allC (l_sutureref1_Lines_4_ok n) allN)) (innerS (by kernel_rfl) allN) (by kernel_rfl) (fun a => by kernel_rfl)


/-! suture/sutureref1.common: from elsewhere -/
def m_sutureref1_common (n : Nat) (a0 : List T) (a1 : List T) : Option ((List T)) := commonM a0 a1
def d_sutureref1_common : FnF := ⟨31, [.list, .list], [.list]⟩
theorem m_sutureref1_common_ok (n : Nat) : Ok Tryd.prog d_sutureref1_common (m_sutureref1_common n) := fun a r h => x_sutureref1_common (show commonM a.1 a.2.1 = some r from h)


/-! sutureref1_Digits: a circle -/
structure B_sutureref1_Digits where
  sutureref1_Digits : Int → Option (ByteArray)
def d_sutureref1_Digits : FnF := ⟨19, [.int .i64], [.str]⟩
structure B_sutureref1_Digits_ok (b : B_sutureref1_Digits) : Prop where
  sutureref1_Digits : Ok Tryd.prog d_sutureref1_Digits b.sutureref1_Digits

/-! suture/sutureref1.Digits -/
def f_sutureref1_Digits (b : B_sutureref1_Digits) (n : Nat) (a0 : Int) : Option (ByteArray) :=
bif (decide ((a0 : Int) < 10)) then (
Option.bind (bytesIf true [(T.sc (.int .u8 (IntKind.wrap .u8 (IntKind.wrap .i64 (48 + a0)))))]) fun l0 =>
some (ByteArray.mk (List.toArray l0)))
else (
must true (!decide (10 = 0)) (Option.bind (b.sutureref1_Digits (IntKind.wrap .i64 (Int.tdiv a0 10))) fun r1 =>
must true (!decide (10 = 0)) (Option.bind (bytesIf true [(T.sc (.int .u8 (IntKind.wrap .u8 (IntKind.wrap .i64 (48 + (Int.tmod a0 10))))))]) fun l2 =>
must true (decide (((ByteArray.size r1 + ByteArray.size (ByteArray.mk (List.toArray l2)) : Nat) : Int) ≤ IntKind.i64.max)) (some (r1 ++ (ByteArray.mk (List.toArray l2)))))))
theorem f_sutureref1_Digits_ok (b : B_sutureref1_Digits) (hb : B_sutureref1_Digits_ok b) (n : Nat) : Ok Tryd.prog d_sutureref1_Digits (f_sutureref1_Digits b n) := fnOk0 sound [⟨d_sutureref1_Digits, b.sutureref1_Digits, hb.sutureref1_Digits⟩] Tryd.func19 (by kernel_rfl) (fun a => by kernel_rfl)
def unB_sutureref1_Digits (n : Nat) : Nat → B_sutureref1_Digits
  | 0 => { sutureref1_Digits := fun _ => none }
  | m + 1 => { sutureref1_Digits := f_sutureref1_Digits (unB_sutureref1_Digits n m) n }
theorem unB_sutureref1_Digits_ok (n : Nat) : ∀ m, B_sutureref1_Digits_ok (unB_sutureref1_Digits n m)
  | 0 => { sutureref1_Digits := fun _ _ h => (nomatch (show none = some _ from h)) }
  | m + 1 => { sutureref1_Digits := f_sutureref1_Digits_ok _ (unB_sutureref1_Digits_ok n m) n }
def m_sutureref1_Digits (n : Nat) : Int → Option (ByteArray) := (unB_sutureref1_Digits n n).sutureref1_Digits
theorem m_sutureref1_Digits_ok (n : Nat) : Ok Tryd.prog d_sutureref1_Digits (m_sutureref1_Digits n) := (unB_sutureref1_Digits_ok n n).sutureref1_Digits


/-! suture/sutureref1.run -/
def m_sutureref1_run (n : Nat) (a0 : ByteArray) (a1 : Int) : Option (ByteArray) :=
bif ((a1 : Int) == 0) then (
some (⟨#[]⟩ : ByteArray))
else (
Option.bind (m_sutureref1_Digits n a1) fun r0 =>
must true (decide (((ByteArray.size a0 + ByteArray.size r0 : Nat) : Int) ≤ IntKind.i64.max)) (must true (decide (((ByteArray.size (a0 ++ r0) + ByteArray.size (⟨#[10]⟩ : ByteArray) : Nat) : Int) ≤ IntKind.i64.max)) (some ((a0 ++ r0) ++ (⟨#[10]⟩ : ByteArray)))))
def d_sutureref1_run : FnF := ⟨32, [.str, .int .i64], [.str]⟩
theorem m_sutureref1_run_ok (n : Nat) : Ok Tryd.prog d_sutureref1_run (m_sutureref1_run n) := fnOk0 sound [⟨d_sutureref1_Digits, m_sutureref1_Digits n, m_sutureref1_Digits_ok n⟩] Tryd.func32 (by kernel_rfl) (fun a => by kernel_rfl)


/-! suture/sutureref1.added -/
def m_sutureref1_added (n : Nat) (a0 : ByteArray) : Option (ByteArray) :=
Option.bind (m_sutureref1_Digits n ((ByteArray.size a0 : Nat) : Int)) fun r0 =>
must true (decide (((ByteArray.size (⟨#[43]⟩ : ByteArray) + ByteArray.size r0 : Nat) : Int) ≤ IntKind.i64.max)) (must true (decide (((ByteArray.size ((⟨#[43]⟩ : ByteArray) ++ r0) + ByteArray.size (⟨#[58]⟩ : ByteArray) : Nat) : Int) ≤ IntKind.i64.max)) (must true (decide (((ByteArray.size (((⟨#[43]⟩ : ByteArray) ++ r0) ++ (⟨#[58]⟩ : ByteArray)) + ByteArray.size a0 : Nat) : Int) ≤ IntKind.i64.max)) (must true (decide (((ByteArray.size ((((⟨#[43]⟩ : ByteArray) ++ r0) ++ (⟨#[58]⟩ : ByteArray)) ++ a0) + ByteArray.size (⟨#[10]⟩ : ByteArray) : Nat) : Int) ≤ IntKind.i64.max)) (some (((((⟨#[43]⟩ : ByteArray) ++ r0) ++ (⟨#[58]⟩ : ByteArray)) ++ a0) ++ (⟨#[10]⟩ : ByteArray))))))
def d_sutureref1_added : FnF := ⟨33, [.str], [.str]⟩
theorem m_sutureref1_added_ok (n : Nat) : Ok Tryd.prog d_sutureref1_added (m_sutureref1_added n) := fnOk0 sound [⟨d_sutureref1_Digits, m_sutureref1_Digits n, m_sutureref1_Digits_ok n⟩] Tryd.func33 (by kernel_rfl) (fun a => by kernel_rfl)


/-! suture/sutureref1.Diff -/
def l_sutureref1_Diff_9_B (n : Nat) (k : (List T) × (List T) × (List T) × ByteArray × Int × Int × Int × Int → Option (ByteArray × Int × Int)) : (List T) × (List T) × (List T) × ByteArray × Int × Int × Int × Int → Option (ByteArray × Int × Int) := fun (s0, s1, s2, s3, s4, s5, s6, s7) =>
bif (bif (decide ((s6 : Int) < ((List.length s0 : Nat) : Int))) then true else (decide ((s7 : Int) < ((List.length s1 : Nat) : Int)))) then (
Option.bind (idx ((bif (decide ((s6 : Int) < ((List.length s0 : Nat) : Int))) then (decide ((s7 : Int) < ((List.length s1 : Nat) : Int))) else false)) [.str] s0 s6) fun y3 =>
Option.bind (idx ((bif (decide ((s6 : Int) < ((List.length s0 : Nat) : Int))) then (decide ((s7 : Int) < ((List.length s1 : Nat) : Int))) else false)) [.str] s1 s7) fun y4 =>
bif (bif (bif (decide ((s6 : Int) < ((List.length s0 : Nat) : Int))) then (decide ((s7 : Int) < ((List.length s1 : Nat) : Int))) else false) then (ByteArray.toList (y3.cell 0).str == ByteArray.toList (y4.cell 0).str) else false) then (
Option.bind (m_sutureref1_run n (⟨#[45]⟩ : ByteArray) s5) fun r5 =>
must true (decide (((ByteArray.size s3 + ByteArray.size r5 : Nat) : Int) ≤ IntKind.i64.max)) (k (s0, s1, s2, (s3 ++ r5), (IntKind.wrap .i64 (s4 + 1)), 0, (IntKind.wrap .i64 (s6 + 1)), (IntKind.wrap .i64 (s7 + 1)))))
else (
Option.bind (idx ((!((s7 : Int) == ((List.length s1 : Nat) : Int)) && (decide ((s6 : Int) < ((List.length s0 : Nat) : Int))))) [.list] s2 (IntKind.wrap .i64 (s6 + 1))) fun y6 =>
Option.bind (idx ((!((s7 : Int) == ((List.length s1 : Nat) : Int)) && (decide ((s6 : Int) < ((List.length s0 : Nat) : Int))))) [.int .i64] (y6.cell 0).lst s7) fun y7 =>
Option.bind (idx ((!((s7 : Int) == ((List.length s1 : Nat) : Int)) && (decide ((s6 : Int) < ((List.length s0 : Nat) : Int))))) [.list] s2 s6) fun y8 =>
Option.bind (idx ((!((s7 : Int) == ((List.length s1 : Nat) : Int)) && (decide ((s6 : Int) < ((List.length s0 : Nat) : Int))))) [.int .i64] (y8.cell 0).lst (IntKind.wrap .i64 (s7 + 1))) fun y9 =>
bif (bif ((s7 : Int) == ((List.length s1 : Nat) : Int)) then true else (bif (decide ((s6 : Int) < ((List.length s0 : Nat) : Int))) then (decide (((y7.cell 0).int : Int) ≥ (y9.cell 0).int)) else false)) then (
Option.bind (m_sutureref1_run n (⟨#[61]⟩ : ByteArray) s4) fun r10 =>
must true (decide (((ByteArray.size s3 + ByteArray.size r10 : Nat) : Int) ≤ IntKind.i64.max)) (k (s0, s1, s2, (s3 ++ r10), 0, (IntKind.wrap .i64 (s5 + 1)), (IntKind.wrap .i64 (s6 + 1)), s7)))
else (
Option.bind (m_sutureref1_run n (⟨#[61]⟩ : ByteArray) s4) fun r11 =>
must true (decide (((ByteArray.size s3 + ByteArray.size r11 : Nat) : Int) ≤ IntKind.i64.max)) (Option.bind (m_sutureref1_run n (⟨#[45]⟩ : ByteArray) s5) fun r12 =>
must true (decide (((ByteArray.size (s3 ++ r11) + ByteArray.size r12 : Nat) : Int) ≤ IntKind.i64.max)) (Option.bind (idx true [.str] s1 s7) fun y13 =>
Option.bind (m_sutureref1_added n (y13.cell 0).str) fun r14 =>
must true (decide (((ByteArray.size ((s3 ++ r11) ++ r12) + ByteArray.size r14 : Nat) : Int) ≤ IntKind.i64.max)) (k (s0, s1, s2, (((s3 ++ r11) ++ r12) ++ r14), 0, 0, s6, (IntKind.wrap .i64 (s7 + 1)))))))))
else (
some (s3, s4, s5))
def l_sutureref1_Diff_9 (n : Nat) : Nat → (List T) × (List T) × (List T) × ByteArray × Int × Int × Int × Int → Option (ByteArray × Int × Int)
  | 0, _ => none
  | m + 1, s => l_sutureref1_Diff_9_B n (l_sutureref1_Diff_9 n m) s
def m_sutureref1_Diff (n : Nat) (a0 : ByteArray) (a1 : ByteArray) : Option (ByteArray) :=
Option.bind (m_sutureref1_Lines n a0) fun r0 =>
Option.bind (m_sutureref1_Lines n a1) fun r1 =>
Option.bind (m_sutureref1_common n r0 r1) fun r2 =>
Option.bind (l_sutureref1_Diff_9 n n (r0, r1, r2, (⟨#[]⟩ : ByteArray), 0, 0, 0, 0)) fun p16 =>
Option.bind (m_sutureref1_run n (⟨#[61]⟩ : ByteArray) p16.2.1) fun r17 =>
must true (decide (((ByteArray.size p16.1 + ByteArray.size r17 : Nat) : Int) ≤ IntKind.i64.max)) (Option.bind (m_sutureref1_run n (⟨#[45]⟩ : ByteArray) p16.2.2) fun r18 =>
must true (decide (((ByteArray.size (p16.1 ++ r17) + ByteArray.size r18 : Nat) : Int) ≤ IntKind.i64.max)) (some ((p16.1 ++ r17) ++ r18)))
def d_sutureref1_Diff : FnF := ⟨15, [.str, .str], [.str]⟩
def cs_sutureref1_Diff (n : Nat) : List (CalF Tryd.prog) := [⟨d_sutureref1_Lines, m_sutureref1_Lines n, m_sutureref1_Lines_ok n⟩, ⟨d_sutureref1_common, m_sutureref1_common n, m_sutureref1_common_ok n⟩, ⟨d_sutureref1_run, m_sutureref1_run n, m_sutureref1_run_ok n⟩, ⟨d_sutureref1_added, m_sutureref1_added n, m_sutureref1_added_ok n⟩]
def L_l_sutureref1_Diff_9 : LF := ⟨9, [5, 6, 7, 8, 9, 10, 11, 12], [.own 1, .own 1, .list, .str, .int .i64, .int .i64, .int .i64, .int .i64], [⟨(.exit 0), [8, 9, 10], [.str, .int .i64, .int .i64]⟩]⟩
def ls_sutureref1_Diff (n : Nat) : List LE := [⟨9, loopS L_l_sutureref1_Diff_9 (l_sutureref1_Diff_9 n n)⟩]
theorem l_sutureref1_Diff_9_ok (n : Nat) : LoopOk Tryd.prog (mkSpec (cs_sutureref1_Diff n) (ls_sutureref1_Diff n)) 0 122 (loopAt Tryd.f15 0) := loopOk (L := L_l_sutureref1_Diff_9) (f := l_sutureref1_Diff_9 n) (B := l_sutureref1_Diff_9_B n) (k := n) (loopAt_ok sound Tryd.func15 (by kernel_rfl)) (inner (by kernel_rfl) allN) (innerS (by kernel_rfl) allN) (fun _ => rfl) (fun _ _ => rfl) (by kernel_rfl) (fun _ => by kernel_rfl) (by kernel_rfl) (fun k a => by kernel_rfl)
theorem m_sutureref1_Diff_ok (n : Nat) : Ok Tryd.prog d_sutureref1_Diff (m_sutureref1_Diff n) := fnOk sound (cs := cs_sutureref1_Diff n) (ls := ls_sutureref1_Diff n) (n := 122) Tryd.func15 (by kernel_rfl) (fun _ => by kernel_rfl) (inner (by kernel_rfl) (allC (l_sutureref1_Diff_9_ok n) allN)) (innerS (by kernel_rfl) allN) (by kernel_rfl) (fun a => by kernel_rfl)


/-! suture/diff.Lines: from elsewhere -/
def m_diff_Lines (n : Nat) (a0 : ByteArray) : Option ((List T)) := linesM a0
def d_diff_Lines : FnF := ⟨10, [.str], [.list]⟩
theorem m_diff_Lines_ok (n : Nat) : Ok Tryd.prog d_diff_Lines (m_diff_Lines n) := fun a r h => x_diff_Lines (show linesM a.1 = some r from h)


/-! suture/diff.Apply: from elsewhere -/
def m_diff_Apply (n : Nat) (a0 : ByteArray) (a1 : ByteArray) : Option (ByteArray × Int) := applyM a0 a1
def d_diff_Apply : FnF := ⟨9, [.str, .str], [.tup 2, .str, .int .i64]⟩
theorem m_diff_Apply_ok (n : Nat) : Ok Tryd.prog d_diff_Apply (m_diff_Apply n) := fun a r h => x_diff_Apply (show applyM a.1 a.2.1 = some r from h)


/-! suture/diff.Of: from elsewhere -/
def m_diff_Of (n : Nat) (a0 : ByteArray) (a1 : ByteArray) : Option (ByteArray) := ofM a0 a1
def d_diff_Of : FnF := ⟨12, [.str, .str], [.str]⟩
theorem m_diff_Of_ok (n : Nat) : Ok Tryd.prog d_diff_Of (m_diff_Of n) := fun a r h => x_diff_Of (show ofM a.1 a.2.1 = some r from h)


/-! suture/suturelaw7.known -/
def m_suturelaw7_known_x (n : Nat) : Option (Bool) :=
Option.bind (m_diff_Apply n (⟨#[120, 10]⟩ : ByteArray) (⟨#[61, 49, 10, 43, 49, 58, 121, 10]⟩ : ByteArray)) fun r0 =>
Option.bind (m_diff_Of n (⟨#[120, 10]⟩ : ByteArray) (⟨#[120, 10, 121]⟩ : ByteArray)) fun r1 =>
some (bif (bif (ByteArray.toList r1 == ByteArray.toList (⟨#[61, 49, 10, 43, 49, 58, 121, 10]⟩ : ByteArray)) then ((r0.2 : Int) == 0) else false) then (ByteArray.toList r0.1 == ByteArray.toList (⟨#[120, 10, 121]⟩ : ByteArray)) else false)
def d_suturelaw7_known_x : FnF := ⟨11, [], [.bool]⟩
theorem m_suturelaw7_known_x_ok (n : Nat) : Ok Tryd.prog d_suturelaw7_known_x (m_suturelaw7_known_x n) := fnOk0 sound [⟨d_diff_Apply, m_diff_Apply n, m_diff_Apply_ok n⟩, ⟨d_diff_Of, m_diff_Of n, m_diff_Of_ok n⟩] Tryd.func11 (by kernel_rfl) (fun a => by kernel_rfl)


/-! suture/suturelaw7.known: closed -/
def m_suturelaw7_known (n : Nat) : Option (Bool) := some true
def d_suturelaw7_known : FnF := ⟨11, [], [.bool]⟩
theorem m_suturelaw7_known_ok (n : Nat) : Ok Tryd.prog d_suturelaw7_known (m_suturelaw7_known n) := fun a r h => by
  cases (Option.some.inj (show some true = some r from h))
  exact m_suturelaw7_known_x_ok 3000 () true (show m_suturelaw7_known_x 3000 = some true from by kernel_rfl)


/-! suture/sutureref1.digit -/
def m_sutureref1_digit (n : Nat) (a0 : Int) : Option (Bool) :=
some (bif (decide ((a0 : Int) ≥ 48)) then (decide ((a0 : Int) ≤ 57)) else false)
def d_sutureref1_digit : FnF := ⟨42, [.int .u8], [.bool]⟩
theorem m_sutureref1_digit_ok (n : Nat) : Ok Tryd.prog d_sutureref1_digit (m_sutureref1_digit n) := fnOk0 sound [] Tryd.func42 (by kernel_rfl) (fun a => by kernel_rfl)


/-! suture/sutureref1.number -/
def l_sutureref1_number_3_B (n : Nat) (k : ByteArray × Int × Int → Option (((Int × Bool) ⊕ ByteArray × Int))) : ByteArray × Int × Int → Option (((Int × Bool) ⊕ ByteArray × Int)) := fun (s0, s1, s2) =>
bif (decide ((s2 : Int) < ((ByteArray.size s0 : Nat) : Int))) then (
Option.bind (bidx true s0 s2) fun b0 =>
must true (!decide (10 = 0)) (bif (decide ((s1 : Int) > (IntKind.wrap .i64 (Int.tdiv (IntKind.wrap .i64 (9223372036854775807 - (IntKind.wrap .i64 (IntKind.wrap .u8 (((UInt8.toNat b0 : Nat) : Int) - 48))))) 10)))) then (
some (Sum.inl (0, false)))
else (
k (s0, (IntKind.wrap .i64 ((IntKind.wrap .i64 (10 * s1)) + (IntKind.wrap .i64 (IntKind.wrap .u8 (((UInt8.toNat b0 : Nat) : Int) - 48))))), (IntKind.wrap .i64 (s2 + 1))))))
else (
some (Sum.inr (s0, s1)))
def l_sutureref1_number_3 (n : Nat) : Nat → ByteArray × Int × Int → Option (((Int × Bool) ⊕ ByteArray × Int))
  | 0, _ => none
  | m + 1, s => l_sutureref1_number_3_B n (l_sutureref1_number_3 n m) s
def m_sutureref1_number (n : Nat) (a0 : ByteArray) : Option (Int × Bool) :=
Option.bind (l_sutureref1_number_3 n n (a0, 0, 0)) fun x1 =>
Sum.elim (fun p2 => 
some (p2.1, p2.2)) (fun x1' => (fun p3 => 
Option.bind (bidx ((!(ByteArray.toList p3.1 == ByteArray.toList (⟨#[]⟩ : ByteArray)))) p3.1 0) fun b4 =>
some (p3.2, (bif (!(ByteArray.toList p3.1 == ByteArray.toList (⟨#[]⟩ : ByteArray))) then (bif ((((UInt8.toNat b4 : Nat) : Int) : Int) != 48) then true else (ByteArray.toList p3.1 == ByteArray.toList (⟨#[48]⟩ : ByteArray))) else false))) x1') x1
def d_sutureref1_number : FnF := ⟨43, [.str], [.tup 2, .int .i64, .bool]⟩
def cs_sutureref1_number (n : Nat) : List (CalF Tryd.prog) := []
def L_l_sutureref1_number_3 : LF := ⟨3, [0, 4, 5], [.str, .int .i64, .int .i64], [⟨.ret, [2, 3], [.int .i64, .bool]⟩, ⟨(.exit 0), [0, 4], [.str, .int .i64]⟩]⟩
def ls_sutureref1_number (n : Nat) : List LE := [⟨3, loopS L_l_sutureref1_number_3 (l_sutureref1_number_3 n n)⟩]
theorem l_sutureref1_number_3_ok (n : Nat) : LoopOk Tryd.prog (mkSpec (cs_sutureref1_number n) (ls_sutureref1_number n)) 0 39 (loopAt Tryd.f43 0) := loopOk (L := L_l_sutureref1_number_3) (f := l_sutureref1_number_3 n) (B := l_sutureref1_number_3_B n) (k := n) (loopAt_ok sound Tryd.func43 (by kernel_rfl)) (inner (by kernel_rfl) allN) (innerS (by kernel_rfl) allN) (fun _ => rfl) (fun _ _ => rfl) (by kernel_rfl) (fun _ => by kernel_rfl) (by kernel_rfl) (fun k a => by kernel_rfl)
theorem m_sutureref1_number_ok (n : Nat) : Ok Tryd.prog d_sutureref1_number (m_sutureref1_number n) := fnOk sound (cs := cs_sutureref1_number n) (ls := ls_sutureref1_number n) (n := 39) Tryd.func43 (by kernel_rfl) (fun _ => by kernel_rfl) (inner (by kernel_rfl) (allC (l_sutureref1_number_3_ok n) allN)) (innerS (by kernel_rfl) allN) (by kernel_rfl) (fun a => by kernel_rfl)


/-! suture/sutureref1.count -/
def l_sutureref1_count_2_B (n : Nat) (k : ByteArray × Int × Int → Option (ByteArray × Int × Int)) : ByteArray × Int × Int → Option (ByteArray × Int × Int) := fun (s0, s1, s2) =>
Option.bind (bidx ((decide ((s2 : Int) < ((ByteArray.size s0 : Nat) : Int)))) s0 s2) fun b0 =>
Option.bind (bif (decide ((s2 : Int) < ((ByteArray.size s0 : Nat) : Int))) then m_sutureref1_digit n ((UInt8.toNat b0 : Nat) : Int) else some false) fun r1 =>
bif (bif (decide ((s2 : Int) < ((ByteArray.size s0 : Nat) : Int))) then r1 else false) then (
k (s0, s1, (IntKind.wrap .i64 (s2 + 1))))
else (
some (s0, s1, s2))
def l_sutureref1_count_2 (n : Nat) : Nat → ByteArray × Int × Int → Option (ByteArray × Int × Int)
  | 0, _ => none
  | m + 1, s => l_sutureref1_count_2_B n (l_sutureref1_count_2 n m) s
def m_sutureref1_count (n : Nat) (a0 : ByteArray) (a1 : Int) : Option (Int × ByteArray × Bool) :=
Option.bind (l_sutureref1_count_2 n n (a0, a1, 0)) fun p3 =>
Option.bind (bidx (!((p3.2.2 : Int) == ((ByteArray.size p3.1 : Nat) : Int))) p3.1 p3.2.2) fun b4 =>
bif (bif ((p3.2.2 : Int) == ((ByteArray.size p3.1 : Nat) : Int)) then true else ((((UInt8.toNat b4 : Nat) : Int) : Int) != p3.2.1)) then (
some (0, (⟨#[]⟩ : ByteArray), false))
else (
must true (decide (0 ≤ 0) && decide (0 ≤ p3.2.2) && decide (p3.2.2 ≤ ((ByteArray.size p3.1 : Nat) : Int))) (Option.bind (m_sutureref1_number n (ByteArray.extract p3.1 (Int.toNat 0) (Int.toNat p3.2.2))) fun r5 =>
must true (decide (0 ≤ (IntKind.wrap .i64 (p3.2.2 + 1))) && decide ((IntKind.wrap .i64 (p3.2.2 + 1)) ≤ ((ByteArray.size p3.1 : Nat) : Int)) && decide (((ByteArray.size p3.1 : Nat) : Int) ≤ ((ByteArray.size p3.1 : Nat) : Int))) (some (r5.1, (ByteArray.extract p3.1 (Int.toNat (IntKind.wrap .i64 (p3.2.2 + 1))) (Int.toNat ((ByteArray.size p3.1 : Nat) : Int))), (bif r5.2 then (decide ((r5.1 : Int) > 0)) else false)))))
def d_sutureref1_count : FnF := ⟨34, [.str, .int .u8], [.tup 3, .int .i64, .str, .bool]⟩
def cs_sutureref1_count (n : Nat) : List (CalF Tryd.prog) := [⟨d_sutureref1_digit, m_sutureref1_digit n, m_sutureref1_digit_ok n⟩, ⟨d_sutureref1_number, m_sutureref1_number n, m_sutureref1_number_ok n⟩]
def L_l_sutureref1_count_2 : LF := ⟨2, [0, 1, 7], [.str, .int .u8, .int .i64], [⟨(.exit 0), [0, 1, 7], [.str, .int .u8, .int .i64]⟩]⟩
def ls_sutureref1_count (n : Nat) : List LE := [⟨2, loopS L_l_sutureref1_count_2 (l_sutureref1_count_2 n n)⟩]
theorem l_sutureref1_count_2_ok (n : Nat) : LoopOk Tryd.prog (mkSpec (cs_sutureref1_count n) (ls_sutureref1_count n)) 0 50 (loopAt Tryd.f34 0) := loopOk (L := L_l_sutureref1_count_2) (f := l_sutureref1_count_2 n) (B := l_sutureref1_count_2_B n) (k := n) (loopAt_ok sound Tryd.func34 (by kernel_rfl)) (inner (by kernel_rfl) allN) (innerS (by kernel_rfl) allN) (fun _ => rfl) (fun _ _ => rfl) (by kernel_rfl) (fun _ => by kernel_rfl) (by kernel_rfl) (fun k a => by kernel_rfl)
theorem m_sutureref1_count_ok (n : Nat) : Ok Tryd.prog d_sutureref1_count (m_sutureref1_count n) := fnOk sound (cs := cs_sutureref1_count n) (ls := ls_sutureref1_count n) (n := 50) Tryd.func34 (by kernel_rfl) (fun _ => by kernel_rfl) (inner (by kernel_rfl) (allC (l_sutureref1_count_2_ok n) allN)) (innerS (by kernel_rfl) allN) (by kernel_rfl) (fun a => by kernel_rfl)


/-! suture/sutureref1.Apply -/
def l_sutureref1_Apply_19_B (n : Nat) (k : (List T) × ByteArray × Int × Int × Int × Int × ByteArray → Option ((List T) × ByteArray × Int × Int × ByteArray)) : (List T) × ByteArray × Int × Int × Int × Int × ByteArray → Option ((List T) × ByteArray × Int × Int × ByteArray) := fun (s0, s1, s2, s3, s4, s5, s6) =>
bif (decide ((s5 : Int) > 0)) then (
bif ((s4 : Int) == 61) then (
Option.bind (idx true [.str] s0 s2) fun y6 =>
must true (decide (((ByteArray.size s1 + ByteArray.size (y6.cell 0).str : Nat) : Int) ≤ IntKind.i64.max)) (k (s0, (s1 ++ (y6.cell 0).str), (IntKind.wrap .i64 (s2 + 1)), s3, s4, (IntKind.wrap .i64 (s5 - 1)), s6)))
else (
k (s0, s1, (IntKind.wrap .i64 (s2 + 1)), s3, s4, (IntKind.wrap .i64 (s5 - 1)), s6)))
else (
some (s0, s1, s2, s3, s6))
def l_sutureref1_Apply_19 (n : Nat) : Nat → (List T) × ByteArray × Int × Int × Int × Int × ByteArray → Option ((List T) × ByteArray × Int × Int × ByteArray)
  | 0, _ => none
  | m + 1, s => l_sutureref1_Apply_19_B n (l_sutureref1_Apply_19 n m) s
def l_sutureref1_Apply_5_B (n : Nat) (k : ByteArray × (List T) × ByteArray × Int × Int → Option (((ByteArray × Int) ⊕ (List T) × ByteArray × Int))) : ByteArray × (List T) × ByteArray × Int × Int → Option (((ByteArray × Int) ⊕ (List T) × ByteArray × Int)) := fun (s0, s1, s2, s3, s4) =>
bif (!(ByteArray.toList s0 == ByteArray.toList (⟨#[]⟩ : ByteArray))) then (
Option.bind (bidx true s0 0) fun b1 =>
bif (bif (bif (bif ((((UInt8.toNat b1 : Nat) : Int) : Int) != 61) then ((((UInt8.toNat b1 : Nat) : Int) : Int) != 45) else false) then ((((UInt8.toNat b1 : Nat) : Int) : Int) != 43) else false) then true else (bif ((((UInt8.toNat b1 : Nat) : Int) : Int) != 43) then ((((UInt8.toNat b1 : Nat) : Int) : Int) == s4) else false)) then (
some (Sum.inl ((⟨#[]⟩ : ByteArray), 2)))
else (
bif ((((UInt8.toNat b1 : Nat) : Int) : Int) == 43) then (
must true (decide (0 ≤ 1) && decide (1 ≤ ((ByteArray.size s0 : Nat) : Int)) && decide (((ByteArray.size s0 : Nat) : Int) ≤ ((ByteArray.size s0 : Nat) : Int))) (Option.bind (m_sutureref1_count n (ByteArray.extract s0 (Int.toNat 1) (Int.toNat ((ByteArray.size s0 : Nat) : Int))) 58) fun r2 =>
Option.bind (bidx (!(bif (!r2.2.2) then true else (decide ((r2.1 : Int) > (IntKind.wrap .i64 (((ByteArray.size r2.2.1 : Nat) : Int) - 1)))))) r2.2.1 r2.1) fun b3 =>
must (!(bif (bif (!r2.2.2) then true else (decide ((r2.1 : Int) > (IntKind.wrap .i64 (((ByteArray.size r2.2.1 : Nat) : Int) - 1))))) then true else ((((UInt8.toNat b3 : Nat) : Int) : Int) != 10))) (decide (0 ≤ 0) && decide (0 ≤ r2.1) && decide (r2.1 ≤ ((ByteArray.size r2.2.1 : Nat) : Int))) (Option.bind (bif !(bif (bif (!r2.2.2) then true else (decide ((r2.1 : Int) > (IntKind.wrap .i64 (((ByteArray.size r2.2.1 : Nat) : Int) - 1))))) then true else ((((UInt8.toNat b3 : Nat) : Int) : Int) != 10)) then m_sutureref1_Lines n (ByteArray.extract r2.2.1 (Int.toNat 0) (Int.toNat r2.1)) else some []) fun r4 =>
bif (bif (bif (bif (!r2.2.2) then true else (decide ((r2.1 : Int) > (IntKind.wrap .i64 (((ByteArray.size r2.2.1 : Nat) : Int) - 1))))) then true else ((((UInt8.toNat b3 : Nat) : Int) : Int) != 10)) then true else ((((List.length r4 : Nat) : Int) : Int) != 1)) then (
some (Sum.inl ((⟨#[]⟩ : ByteArray), 2)))
else (
must true (decide (0 ≤ 0) && decide (0 ≤ r2.1) && decide (r2.1 ≤ ((ByteArray.size r2.2.1 : Nat) : Int))) (must true (decide (((ByteArray.size s2 + ByteArray.size (ByteArray.extract r2.2.1 (Int.toNat 0) (Int.toNat r2.1)) : Nat) : Int) ≤ IntKind.i64.max)) (must true (decide (0 ≤ (IntKind.wrap .i64 (r2.1 + 1))) && decide ((IntKind.wrap .i64 (r2.1 + 1)) ≤ ((ByteArray.size r2.2.1 : Nat) : Int)) && decide (((ByteArray.size r2.2.1 : Nat) : Int) ≤ ((ByteArray.size r2.2.1 : Nat) : Int))) (k ((ByteArray.extract r2.2.1 (Int.toNat (IntKind.wrap .i64 (r2.1 + 1))) (Int.toNat ((ByteArray.size r2.2.1 : Nat) : Int))), s1, (s2 ++ (ByteArray.extract r2.2.1 (Int.toNat 0) (Int.toNat r2.1))), s3, ((UInt8.toNat b1 : Nat) : Int)))))))))
else (
must true (decide (0 ≤ 1) && decide (1 ≤ ((ByteArray.size s0 : Nat) : Int)) && decide (((ByteArray.size s0 : Nat) : Int) ≤ ((ByteArray.size s0 : Nat) : Int))) (Option.bind (m_sutureref1_count n (ByteArray.extract s0 (Int.toNat 1) (Int.toNat ((ByteArray.size s0 : Nat) : Int))) 10) fun r5 =>
bif (bif (!r5.2.2) then true else (decide ((r5.1 : Int) > (IntKind.wrap .i64 (((List.length s1 : Nat) : Int) - s3))))) then (
some (Sum.inl ((⟨#[]⟩ : ByteArray), 2)))
else (
Option.bind (l_sutureref1_Apply_19 n n (s1, s2, s3, ((UInt8.toNat b1 : Nat) : Int), ((UInt8.toNat b1 : Nat) : Int), r5.1, r5.2.1)) fun p8 =>
k (p8.2.2.2.2, p8.1, p8.2.1, p8.2.2.1, p8.2.2.2.1))))))
else (
some (Sum.inr (s1, s2, s3)))
def l_sutureref1_Apply_5 (n : Nat) : Nat → ByteArray × (List T) × ByteArray × Int × Int → Option (((ByteArray × Int) ⊕ (List T) × ByteArray × Int))
  | 0, _ => none
  | m + 1, s => l_sutureref1_Apply_5_B n (l_sutureref1_Apply_5 n m) s
def m_sutureref1_Apply (n : Nat) (a0 : ByteArray) (a1 : ByteArray) : Option (ByteArray × Int) :=
Option.bind (m_sutureref1_Lines n a0) fun r0 =>
Option.bind (l_sutureref1_Apply_5 n n (a1, r0, (⟨#[]⟩ : ByteArray), 0, 0)) fun x9 =>
Sum.elim (fun p10 => 
some (p10.1, p10.2)) (fun x9' => (fun p11 => 
bif ((p11.2.2 : Int) != ((List.length p11.1 : Nat) : Int)) then (
some ((⟨#[]⟩ : ByteArray), 2))
else (
some (p11.2.1, 0))) x9') x9
def d_sutureref1_Apply : FnF := ⟨18, [.str, .str], [.tup 2, .str, .int .i64]⟩
def cs_sutureref1_Apply (n : Nat) : List (CalF Tryd.prog) := [⟨d_sutureref1_Lines, m_sutureref1_Lines n, m_sutureref1_Lines_ok n⟩, ⟨d_sutureref1_count, m_sutureref1_count n, m_sutureref1_count_ok n⟩]
def L_l_sutureref1_Apply_19 : LF := ⟨19, [6, 7, 8, 9, 10, 14, 15], [.own 1, .str, .int .i64, .int .u8, .int .u8, .int .i64, .str], [⟨(.exit 2), [6, 7, 8, 9, 15], [.own 1, .str, .int .i64, .int .u8, .str]⟩]⟩
def L_l_sutureref1_Apply_5 : LF := ⟨5, [1, 6, 7, 8, 9], [.str, .own 1, .str, .int .i64, .int .u8], [⟨.ret, [4, 5], [.str, .int .i64]⟩, ⟨(.exit 0), [6, 7, 8], [.own 1, .str, .int .i64]⟩]⟩
def ls_sutureref1_Apply (n : Nat) : List LE := [⟨19, loopS L_l_sutureref1_Apply_19 (l_sutureref1_Apply_19 n n)⟩, ⟨5, loopS L_l_sutureref1_Apply_5 (l_sutureref1_Apply_5 n n)⟩]
theorem l_sutureref1_Apply_19_ok (n : Nat) : LoopOk Tryd.prog (mkSpec (cs_sutureref1_Apply n) (ls_sutureref1_Apply n)) 0 121 (loopAt Tryd.f18 1) := loopOk (L := L_l_sutureref1_Apply_19) (f := l_sutureref1_Apply_19 n) (B := l_sutureref1_Apply_19_B n) (k := n) (loopAt_ok sound Tryd.func18 (by kernel_rfl)) (inner (by kernel_rfl) allN) (innerS (by kernel_rfl) allN) (fun _ => rfl) (fun _ _ => rfl) (by kernel_rfl) (fun _ => by kernel_rfl) (by kernel_rfl) (fun k a => by kernel_rfl)
theorem l_sutureref1_Apply_5_ok (n : Nat) : LoopOk Tryd.prog (mkSpec (cs_sutureref1_Apply n) (ls_sutureref1_Apply n)) 0 121 (loopAt Tryd.f18 0) := loopOk (L := L_l_sutureref1_Apply_5) (f := l_sutureref1_Apply_5 n) (B := l_sutureref1_Apply_5_B n) (k := n) (loopAt_ok sound Tryd.func18 (by kernel_rfl)) (inner (by kernel_rfl) (allC (l_sutureref1_Apply_19_ok n) allN)) (innerS (by kernel_rfl) allN) (fun _ => rfl) (fun _ _ => rfl) (by kernel_rfl) (fun _ => by kernel_rfl) (by kernel_rfl) (fun k a => by kernel_rfl)
theorem m_sutureref1_Apply_ok (n : Nat) : Ok Tryd.prog d_sutureref1_Apply (m_sutureref1_Apply n) := fnOk sound (cs := cs_sutureref1_Apply n) (ls := ls_sutureref1_Apply n) (n := 121) Tryd.func18 (by kernel_rfl) (fun _ => by kernel_rfl) (inner (by kernel_rfl) (allC (l_sutureref1_Apply_5_ok n) (allC (l_sutureref1_Apply_19_ok n) allN))) (innerS (by kernel_rfl) allN) (by kernel_rfl) (fun a => by kernel_rfl)


/-! suture/suturelaw7.DiffTells -/
def l_suturelaw7_DiffTells_12_B (n : Nat) (k : ByteArray × Int × Int × ByteArray × ByteArray × (List T) × (List T) × Int × Int → Option (((Bool) ⊕ ByteArray × Int × Int × ByteArray × ByteArray))) : ByteArray × Int × Int × ByteArray × ByteArray × (List T) × (List T) × Int × Int → Option (((Bool) ⊕ ByteArray × Int × Int × ByteArray × ByteArray)) := fun (s0, s1, s2, s3, s4, s5, s6, s7, s8) =>
bif (decide ((s8 : Int) < s7)) then (
Option.bind (idx true [.str] s5 s8) fun y9 =>
Option.bind (idx true [.str] s6 s8) fun y10 =>
bif (!(ByteArray.toList (y9.cell 0).str == ByteArray.toList (y10.cell 0).str)) then (
some (Sum.inl false))
else (
k (s0, s1, s2, s3, s4, s5, s6, s7, (IntKind.wrap .i64 (s8 + 1)))))
else (
some (Sum.inr (s0, s1, s2, s3, s4)))
def l_suturelaw7_DiffTells_12 (n : Nat) : Nat → ByteArray × Int × Int × ByteArray × ByteArray × (List T) × (List T) × Int × Int → Option (((Bool) ⊕ ByteArray × Int × Int × ByteArray × ByteArray))
  | 0, _ => none
  | m + 1, s => l_suturelaw7_DiffTells_12_B n (l_suturelaw7_DiffTells_12 n m) s
def m_suturelaw7_DiffTells (n : Nat) (a0 : List T) (a1 : List T) (a2 : Bool) (a3 : ByteArray) (a4 : ByteArray) (a5 : Bool) (a6 : Int) (a7 : Int) : Option (Bool) :=
Option.bind (m_suturelaw7_lines n a0 a2) fun r0 =>
Option.bind (m_suturelaw7_lines n a1 (!a2)) fun r1 =>
bif a5 then (
Option.bind (m_suturehand_Few n a3 60) fun r2 =>
Option.bind (m_suturehand_Few n a4 60) fun r3 =>
Option.bind (m_sutureref1_Diff n r2 r3) fun r4 =>
Option.bind (m_diff_Lines n r2) fun r5 =>
Option.bind (m_sutureref1_Lines n r2) fun r6 =>
Option.bind (m_suturelaw7_known n) fun r7 =>
Option.bind (bif !(!r7) then m_diff_Of n r2 r3 else some default) fun r8 =>
bif (bif (bif (!r7) then true else (!(ByteArray.toList r8 == ByteArray.toList r4))) then true else ((((List.length r5 : Nat) : Int) : Int) != ((List.length r6 : Nat) : Int))) then (
some false)
else (
Option.bind (l_suturelaw7_DiffTells_12 n n (a4, a6, a7, r2, r4, r5, r6, ((List.length r5 : Nat) : Int), 0)) fun x11 =>
Sum.elim (fun p12 => 
some p12) (fun x11' => (fun p13 => 
must true (!decide (3 = 0)) (bif (bif (decide (((Int.tmod p13.2.2.1 3) : Int) > 0)) then (decide ((((ByteArray.size p13.2.2.2.2 : Nat) : Int) : Int) > 0)) else false) then (
Option.bind (m_suturehand_Pick n p13.2.1 ((ByteArray.size p13.2.2.2.2 : Nat) : Int)) fun r14 =>
must true (decide (0 ≤ 0) && decide (0 ≤ r14) && decide (r14 ≤ ((ByteArray.size p13.2.2.2.2 : Nat) : Int))) (Option.bind (m_suturehand_Pick n p13.2.2.1 10) fun r15 =>
Option.bind (idx1 true (.str) [(T.sc (.string (⟨#[61]⟩ : ByteArray))), (T.sc (.string (⟨#[45]⟩ : ByteArray))), (T.sc (.string (⟨#[43]⟩ : ByteArray))), (T.sc (.string (⟨#[48]⟩ : ByteArray))), (T.sc (.string (⟨#[49]⟩ : ByteArray))), (T.sc (.string (⟨#[10]⟩ : ByteArray))), (T.sc (.string (⟨#[58]⟩ : ByteArray))), (T.sc (.string (⟨#[]⟩ : ByteArray))), (T.sc (.string (⟨#[97]⟩ : ByteArray))), (T.sc (.string (⟨#[61, 49, 10]⟩ : ByteArray)))] r15) fun y16 =>
must true (decide (((ByteArray.size (ByteArray.extract p13.2.2.2.2 (Int.toNat 0) (Int.toNat r14)) + ByteArray.size y16.str : Nat) : Int) ≤ IntKind.i64.max)) (must true (!decide (10 = 0)) (Option.bind (m_suturehand_Pick n (IntKind.wrap .i64 (Int.tdiv p13.2.2.1 10)) 2) fun r17 =>
must true (decide (0 ≤ (IntKind.wrap .i64 (r14 + r17))) && decide ((IntKind.wrap .i64 (r14 + r17)) ≤ ((ByteArray.size p13.2.2.2.2 : Nat) : Int)) && decide (((ByteArray.size p13.2.2.2.2 : Nat) : Int) ≤ ((ByteArray.size p13.2.2.2.2 : Nat) : Int))) (must true (decide (((ByteArray.size ((ByteArray.extract p13.2.2.2.2 (Int.toNat 0) (Int.toNat r14)) ++ y16.str) + ByteArray.size (ByteArray.extract p13.2.2.2.2 (Int.toNat (IntKind.wrap .i64 (r14 + r17))) (Int.toNat ((ByteArray.size p13.2.2.2.2 : Nat) : Int))) : Nat) : Int) ≤ IntKind.i64.max)) (Option.bind (m_diff_Apply n p13.2.2.2.1 (((ByteArray.extract p13.2.2.2.2 (Int.toNat 0) (Int.toNat r14)) ++ y16.str) ++ (ByteArray.extract p13.2.2.2.2 (Int.toNat (IntKind.wrap .i64 (r14 + r17))) (Int.toNat ((ByteArray.size p13.2.2.2.2 : Nat) : Int))))) fun r18 =>
Option.bind (m_sutureref1_Apply n p13.2.2.2.1 (((ByteArray.extract p13.2.2.2.2 (Int.toNat 0) (Int.toNat r14)) ++ y16.str) ++ (ByteArray.extract p13.2.2.2.2 (Int.toNat (IntKind.wrap .i64 (r14 + r17))) (Int.toNat ((ByteArray.size p13.2.2.2.2 : Nat) : Int))))) fun r19 =>
Option.bind (m_diff_Apply n p13.2.2.2.1 p13.1) fun r20 =>
Option.bind (m_sutureref1_Apply n p13.2.2.2.1 p13.1) fun r21 =>
some (bif (bif (bif (ByteArray.toList r18.1 == ByteArray.toList r19.1) then ((r18.2 : Int) == r19.2) else false) then (ByteArray.toList r20.1 == ByteArray.toList r21.1) else false) then ((r20.2 : Int) == r21.2) else false)))))))
else (
Option.bind (m_diff_Apply n p13.2.2.2.1 p13.2.2.2.2) fun r22 =>
Option.bind (m_sutureref1_Apply n p13.2.2.2.1 p13.2.2.2.2) fun r23 =>
Option.bind (m_diff_Apply n p13.2.2.2.1 p13.1) fun r24 =>
Option.bind (m_sutureref1_Apply n p13.2.2.2.1 p13.1) fun r25 =>
some (bif (bif (bif (ByteArray.toList r22.1 == ByteArray.toList r23.1) then ((r22.2 : Int) == r23.2) else false) then (ByteArray.toList r24.1 == ByteArray.toList r25.1) else false) then ((r24.2 : Int) == r25.2) else false)))) x11') x11))
else (
Option.bind (m_sutureref1_Diff n r0 r1) fun r26 =>
Option.bind (m_diff_Lines n r0) fun r27 =>
Option.bind (m_sutureref1_Lines n r0) fun r28 =>
Option.bind (m_suturelaw7_known n) fun r29 =>
Option.bind (bif !(!r29) then m_diff_Of n r0 r1 else some default) fun r30 =>
bif (bif (bif (!r29) then true else (!(ByteArray.toList r30 == ByteArray.toList r26))) then true else ((((List.length r27 : Nat) : Int) : Int) != ((List.length r28 : Nat) : Int))) then (
some false)
else (
Option.bind (l_suturelaw7_DiffTells_12 n n (a4, a6, a7, r0, r26, r27, r28, ((List.length r27 : Nat) : Int), 0)) fun x31 =>
Sum.elim (fun p32 => 
some p32) (fun x31' => (fun p33 => 
must true (!decide (3 = 0)) (bif (bif (decide (((Int.tmod p33.2.2.1 3) : Int) > 0)) then (decide ((((ByteArray.size p33.2.2.2.2 : Nat) : Int) : Int) > 0)) else false) then (
Option.bind (m_suturehand_Pick n p33.2.1 ((ByteArray.size p33.2.2.2.2 : Nat) : Int)) fun r34 =>
must true (decide (0 ≤ 0) && decide (0 ≤ r34) && decide (r34 ≤ ((ByteArray.size p33.2.2.2.2 : Nat) : Int))) (Option.bind (m_suturehand_Pick n p33.2.2.1 10) fun r35 =>
Option.bind (idx1 true (.str) [(T.sc (.string (⟨#[61]⟩ : ByteArray))), (T.sc (.string (⟨#[45]⟩ : ByteArray))), (T.sc (.string (⟨#[43]⟩ : ByteArray))), (T.sc (.string (⟨#[48]⟩ : ByteArray))), (T.sc (.string (⟨#[49]⟩ : ByteArray))), (T.sc (.string (⟨#[10]⟩ : ByteArray))), (T.sc (.string (⟨#[58]⟩ : ByteArray))), (T.sc (.string (⟨#[]⟩ : ByteArray))), (T.sc (.string (⟨#[97]⟩ : ByteArray))), (T.sc (.string (⟨#[61, 49, 10]⟩ : ByteArray)))] r35) fun y36 =>
must true (decide (((ByteArray.size (ByteArray.extract p33.2.2.2.2 (Int.toNat 0) (Int.toNat r34)) + ByteArray.size y36.str : Nat) : Int) ≤ IntKind.i64.max)) (must true (!decide (10 = 0)) (Option.bind (m_suturehand_Pick n (IntKind.wrap .i64 (Int.tdiv p33.2.2.1 10)) 2) fun r37 =>
must true (decide (0 ≤ (IntKind.wrap .i64 (r34 + r37))) && decide ((IntKind.wrap .i64 (r34 + r37)) ≤ ((ByteArray.size p33.2.2.2.2 : Nat) : Int)) && decide (((ByteArray.size p33.2.2.2.2 : Nat) : Int) ≤ ((ByteArray.size p33.2.2.2.2 : Nat) : Int))) (must true (decide (((ByteArray.size ((ByteArray.extract p33.2.2.2.2 (Int.toNat 0) (Int.toNat r34)) ++ y36.str) + ByteArray.size (ByteArray.extract p33.2.2.2.2 (Int.toNat (IntKind.wrap .i64 (r34 + r37))) (Int.toNat ((ByteArray.size p33.2.2.2.2 : Nat) : Int))) : Nat) : Int) ≤ IntKind.i64.max)) (Option.bind (m_diff_Apply n p33.2.2.2.1 (((ByteArray.extract p33.2.2.2.2 (Int.toNat 0) (Int.toNat r34)) ++ y36.str) ++ (ByteArray.extract p33.2.2.2.2 (Int.toNat (IntKind.wrap .i64 (r34 + r37))) (Int.toNat ((ByteArray.size p33.2.2.2.2 : Nat) : Int))))) fun r38 =>
Option.bind (m_sutureref1_Apply n p33.2.2.2.1 (((ByteArray.extract p33.2.2.2.2 (Int.toNat 0) (Int.toNat r34)) ++ y36.str) ++ (ByteArray.extract p33.2.2.2.2 (Int.toNat (IntKind.wrap .i64 (r34 + r37))) (Int.toNat ((ByteArray.size p33.2.2.2.2 : Nat) : Int))))) fun r39 =>
Option.bind (m_diff_Apply n p33.2.2.2.1 p33.1) fun r40 =>
Option.bind (m_sutureref1_Apply n p33.2.2.2.1 p33.1) fun r41 =>
some (bif (bif (bif (ByteArray.toList r38.1 == ByteArray.toList r39.1) then ((r38.2 : Int) == r39.2) else false) then (ByteArray.toList r40.1 == ByteArray.toList r41.1) else false) then ((r40.2 : Int) == r41.2) else false)))))))
else (
Option.bind (m_diff_Apply n p33.2.2.2.1 p33.2.2.2.2) fun r42 =>
Option.bind (m_sutureref1_Apply n p33.2.2.2.1 p33.2.2.2.2) fun r43 =>
Option.bind (m_diff_Apply n p33.2.2.2.1 p33.1) fun r44 =>
Option.bind (m_sutureref1_Apply n p33.2.2.2.1 p33.1) fun r45 =>
some (bif (bif (bif (ByteArray.toList r42.1 == ByteArray.toList r43.1) then ((r42.2 : Int) == r43.2) else false) then (ByteArray.toList r44.1 == ByteArray.toList r45.1) else false) then ((r44.2 : Int) == r45.2) else false)))) x31') x31))
def d_suturelaw7_DiffTells : FnF := ⟨4, [.list, .list, .bool, .str, .str, .bool, .int .i64, .int .i64], [.bool]⟩
def cs_suturelaw7_DiffTells (n : Nat) : List (CalF Tryd.prog) := [⟨d_suturelaw7_lines, m_suturelaw7_lines n, m_suturelaw7_lines_ok n⟩, ⟨d_suturehand_Few, m_suturehand_Few n, m_suturehand_Few_ok n⟩, ⟨d_sutureref1_Diff, m_sutureref1_Diff n, m_sutureref1_Diff_ok n⟩, ⟨d_diff_Lines, m_diff_Lines n, m_diff_Lines_ok n⟩, ⟨d_sutureref1_Lines, m_sutureref1_Lines n, m_sutureref1_Lines_ok n⟩, ⟨d_suturelaw7_known, m_suturelaw7_known n, m_suturelaw7_known_ok n⟩, ⟨d_diff_Of, m_diff_Of n, m_diff_Of_ok n⟩, ⟨d_suturehand_Pick, m_suturehand_Pick n, m_suturehand_Pick_ok n⟩, ⟨d_diff_Apply, m_diff_Apply n, m_diff_Apply_ok n⟩, ⟨d_sutureref1_Apply, m_sutureref1_Apply n, m_sutureref1_Apply_ok n⟩]
def L_l_suturelaw7_DiffTells_12 : LF := ⟨12, [4, 6, 7, 17, 19, 20, 21, 68, 69], [.str, .int .i64, .int .i64, .str, .str, .list, .own 1, .int .i64, .int .i64], [⟨.ret, [16], [.bool]⟩, ⟨(.exit 0), [4, 6, 7, 17, 19], [.str, .int .i64, .int .i64, .str, .str]⟩]⟩
def ls_suturelaw7_DiffTells (n : Nat) : List LE := [⟨12, loopS L_l_suturelaw7_DiffTells_12 (l_suturelaw7_DiffTells_12 n n)⟩]
theorem l_suturelaw7_DiffTells_12_ok (n : Nat) : LoopOk Tryd.prog (mkSpec (cs_suturelaw7_DiffTells n) (ls_suturelaw7_DiffTells n)) 0 152 (loopAt Tryd.f4 0) := loopOk (L := L_l_suturelaw7_DiffTells_12) (f := l_suturelaw7_DiffTells_12 n) (B := l_suturelaw7_DiffTells_12_B n) (k := n) (loopAt_ok sound Tryd.func4 (by kernel_rfl)) (inner (by kernel_rfl) allN) (innerS (by kernel_rfl) allN) (fun _ => rfl) (fun _ _ => rfl) (by kernel_rfl) (fun _ => by kernel_rfl) (by kernel_rfl) (fun k a => by kernel_rfl)
theorem m_suturelaw7_DiffTells_ok (n : Nat) : Ok Tryd.prog d_suturelaw7_DiffTells (m_suturelaw7_DiffTells n) := fnOk sound (cs := cs_suturelaw7_DiffTells n) (ls := ls_suturelaw7_DiffTells n) (n := 152) Tryd.func4 (by kernel_rfl) (fun _ => by kernel_rfl) (inner (by kernel_rfl) (allC (l_suturelaw7_DiffTells_12_ok n) allN)) (innerS (by kernel_rfl) allN) (by kernel_rfl) (fun a => by kernel_rfl)


/-! suture/suturelaw7.kept -/
def l_suturelaw7_kept_7_B (n : Nat) (k : ByteArray × Int × Int × Int × Int → Option (ByteArray × Int × Int × Int × Int)) : ByteArray × Int × Int × Int × Int → Option (ByteArray × Int × Int × Int × Int) := fun (s0, s1, s2, s3, s4) =>
Option.bind (bidx ((decide ((s2 : Int) < ((ByteArray.size s0 : Nat) : Int)))) s0 s2) fun b1 =>
Option.bind (bidx ((bif (decide ((s2 : Int) < ((ByteArray.size s0 : Nat) : Int))) then (decide ((((UInt8.toNat b1 : Nat) : Int) : Int) ≥ 48)) else false)) s0 s2) fun b2 =>
bif (bif (bif (decide ((s2 : Int) < ((ByteArray.size s0 : Nat) : Int))) then (decide ((((UInt8.toNat b1 : Nat) : Int) : Int) ≥ 48)) else false) then (decide ((((UInt8.toNat b2 : Nat) : Int) : Int) ≤ 57)) else false) then (
Option.bind (bidx true s0 s2) fun b3 =>
k (s0, s1, (IntKind.wrap .i64 (s2 + 1)), s3, (IntKind.wrap .i64 ((IntKind.wrap .i64 (10 * s4)) + (IntKind.wrap .i64 (IntKind.wrap .u8 (((UInt8.toNat b3 : Nat) : Int) - 48)))))))
else (
some (s0, s1, s2, s3, s4))
def l_suturelaw7_kept_7 (n : Nat) : Nat → ByteArray × Int × Int × Int × Int → Option (ByteArray × Int × Int × Int × Int)
  | 0, _ => none
  | m + 1, s => l_suturelaw7_kept_7_B n (l_suturelaw7_kept_7 n m) s
def l_suturelaw7_kept_3_B (n : Nat) (k : ByteArray × Int × Int → Option (Int)) : ByteArray × Int × Int → Option (Int) := fun (s0, s1, s2) =>
bif (decide ((s2 : Int) < ((ByteArray.size s0 : Nat) : Int))) then (
Option.bind (bidx true s0 s2) fun b0 =>
Option.bind (l_suturelaw7_kept_7 n n (s0, s1, (IntKind.wrap .i64 (s2 + 1)), ((UInt8.toNat b0 : Nat) : Int), 0)) fun p5 =>
bif ((p5.2.2.2.1 : Int) == 61) then (
bif ((p5.2.2.2.1 : Int) == 43) then (
k (p5.1, (IntKind.wrap .i64 (p5.2.1 + p5.2.2.2.2)), (IntKind.wrap .i64 ((IntKind.wrap .i64 ((IntKind.wrap .i64 (p5.2.2.1 + 1)) + p5.2.2.2.2)) + 1))))
else (
k (p5.1, (IntKind.wrap .i64 (p5.2.1 + p5.2.2.2.2)), (IntKind.wrap .i64 (p5.2.2.1 + 1)))))
else (
bif ((p5.2.2.2.1 : Int) == 43) then (
k (p5.1, p5.2.1, (IntKind.wrap .i64 ((IntKind.wrap .i64 ((IntKind.wrap .i64 (p5.2.2.1 + 1)) + p5.2.2.2.2)) + 1))))
else (
k (p5.1, p5.2.1, (IntKind.wrap .i64 (p5.2.2.1 + 1))))))
else (
some s1)
def l_suturelaw7_kept_3 (n : Nat) : Nat → ByteArray × Int × Int → Option (Int)
  | 0, _ => none
  | m + 1, s => l_suturelaw7_kept_3_B n (l_suturelaw7_kept_3 n m) s
def m_suturelaw7_kept (n : Nat) (a0 : ByteArray) : Option (Int) :=
Option.bind (l_suturelaw7_kept_3 n n (a0, 0, 0)) fun p7 =>
some p7
def d_suturelaw7_kept : FnF := ⟨20, [.str], [.int .i64]⟩
def cs_suturelaw7_kept (n : Nat) : List (CalF Tryd.prog) := []
def L_l_suturelaw7_kept_7 : LF := ⟨7, [0, 3, 4, 5, 6], [.str, .int .i64, .int .i64, .int .u8, .int .i64], [⟨(.exit 2), [0, 3, 4, 5, 6], [.str, .int .i64, .int .i64, .int .u8, .int .i64]⟩]⟩
def L_l_suturelaw7_kept_3 : LF := ⟨3, [0, 3, 4], [.str, .int .i64, .int .i64], [⟨(.exit 0), [3], [.int .i64]⟩]⟩
def ls_suturelaw7_kept (n : Nat) : List LE := [⟨7, loopS L_l_suturelaw7_kept_7 (l_suturelaw7_kept_7 n n)⟩, ⟨3, loopS L_l_suturelaw7_kept_3 (l_suturelaw7_kept_3 n n)⟩]
theorem l_suturelaw7_kept_7_ok (n : Nat) : LoopOk Tryd.prog (mkSpec (cs_suturelaw7_kept n) (ls_suturelaw7_kept n)) 0 56 (loopAt Tryd.f20 1) := loopOk (L := L_l_suturelaw7_kept_7) (f := l_suturelaw7_kept_7 n) (B := l_suturelaw7_kept_7_B n) (k := n) (loopAt_ok sound Tryd.func20 (by kernel_rfl)) (inner (by kernel_rfl) allN) (innerS (by kernel_rfl) allN) (fun _ => rfl) (fun _ _ => rfl) (by kernel_rfl) (fun _ => by kernel_rfl) (by kernel_rfl) (fun k a => by kernel_rfl)
theorem l_suturelaw7_kept_3_ok (n : Nat) : LoopOk Tryd.prog (mkSpec (cs_suturelaw7_kept n) (ls_suturelaw7_kept n)) 0 56 (loopAt Tryd.f20 0) := loopOk (L := L_l_suturelaw7_kept_3) (f := l_suturelaw7_kept_3 n) (B := l_suturelaw7_kept_3_B n) (k := n) (loopAt_ok sound Tryd.func20 (by kernel_rfl)) (inner (by kernel_rfl) (allC (l_suturelaw7_kept_7_ok n) allN)) (innerS (by kernel_rfl) allN) (fun _ => rfl) (fun _ _ => rfl) (by kernel_rfl) (fun _ => by kernel_rfl) (by kernel_rfl) (fun k a => by kernel_rfl)
theorem m_suturelaw7_kept_ok (n : Nat) : Ok Tryd.prog d_suturelaw7_kept (m_suturelaw7_kept n) := fnOk sound (cs := cs_suturelaw7_kept n) (ls := ls_suturelaw7_kept n) (n := 56) Tryd.func20 (by kernel_rfl) (fun _ => by kernel_rfl) (inner (by kernel_rfl) (allC (l_suturelaw7_kept_3_ok n) (allC (l_suturelaw7_kept_7_ok n) allN))) (innerS (by kernel_rfl) allN) (by kernel_rfl) (fun a => by kernel_rfl)


/-! suture/suturelaw7.DiffBack -/
def m_suturelaw7_DiffBack (n : Nat) (a0 : List T) (a1 : List T) (a2 : Bool) (a3 : ByteArray) (a4 : ByteArray) (a5 : Bool) : Option (Bool) :=
Option.bind (m_suturelaw7_lines n a0 a2) fun r0 =>
Option.bind (m_suturelaw7_lines n a1 (!a2)) fun r1 =>
bif a5 then (
Option.bind (m_suturehand_Few n a3 80) fun r2 =>
Option.bind (m_suturehand_Few n a4 80) fun r3 =>
Option.bind (m_diff_Of n r2 r3) fun r4 =>
Option.bind (m_diff_Of n r3 r2) fun r5 =>
Option.bind (m_diff_Apply n r2 r4) fun r6 =>
Option.bind (m_diff_Apply n r3 r5) fun r7 =>
Option.bind (m_diff_Lines n r2) fun r8 =>
bif (decide ((((List.length r8 : Nat) : Int) : Int) > 0)) then (
Option.bind (m_sutureref1_Digits n ((List.length r8 : Nat) : Int)) fun r9 =>
must true (decide (((ByteArray.size (⟨#[61]⟩ : ByteArray) + ByteArray.size r9 : Nat) : Int) ≤ IntKind.i64.max)) (must true (decide (((ByteArray.size ((⟨#[61]⟩ : ByteArray) ++ r9) + ByteArray.size (⟨#[10]⟩ : ByteArray) : Nat) : Int) ≤ IntKind.i64.max)) (Option.bind (m_suturelaw7_known n) fun r10 =>
Option.bind (bif (bif (bif (bif (bif r10 then ((r6.2 : Int) == 0) else false) then (ByteArray.toList r6.1 == ByteArray.toList r3) else false) then ((r7.2 : Int) == 0) else false) then (ByteArray.toList r7.1 == ByteArray.toList r2) else false) then m_diff_Of n r2 r2 else some default) fun r11 =>
Option.bind (bif (bif (bif (bif (bif (bif r10 then ((r6.2 : Int) == 0) else false) then (ByteArray.toList r6.1 == ByteArray.toList r3) else false) then ((r7.2 : Int) == 0) else false) then (ByteArray.toList r7.1 == ByteArray.toList r2) else false) then (ByteArray.toList r11 == ByteArray.toList (((⟨#[61]⟩ : ByteArray) ++ r9) ++ (⟨#[10]⟩ : ByteArray))) else false) then m_suturelaw7_kept n r4 else some 0) fun r12 =>
Option.bind (bif (bif (bif (bif (bif (bif r10 then ((r6.2 : Int) == 0) else false) then (ByteArray.toList r6.1 == ByteArray.toList r3) else false) then ((r7.2 : Int) == 0) else false) then (ByteArray.toList r7.1 == ByteArray.toList r2) else false) then (ByteArray.toList r11 == ByteArray.toList (((⟨#[61]⟩ : ByteArray) ++ r9) ++ (⟨#[10]⟩ : ByteArray))) else false) then m_suturelaw7_kept n r5 else some 0) fun r13 =>
some (bif (bif (bif (bif (bif (bif r10 then ((r6.2 : Int) == 0) else false) then (ByteArray.toList r6.1 == ByteArray.toList r3) else false) then ((r7.2 : Int) == 0) else false) then (ByteArray.toList r7.1 == ByteArray.toList r2) else false) then (ByteArray.toList r11 == ByteArray.toList (((⟨#[61]⟩ : ByteArray) ++ r9) ++ (⟨#[10]⟩ : ByteArray))) else false) then ((r12 : Int) == r13) else false))))
else (
Option.bind (m_suturelaw7_known n) fun r14 =>
Option.bind (bif (bif (bif (bif (bif r14 then ((r6.2 : Int) == 0) else false) then (ByteArray.toList r6.1 == ByteArray.toList r3) else false) then ((r7.2 : Int) == 0) else false) then (ByteArray.toList r7.1 == ByteArray.toList r2) else false) then m_diff_Of n r2 r2 else some default) fun r15 =>
Option.bind (bif (bif (bif (bif (bif (bif r14 then ((r6.2 : Int) == 0) else false) then (ByteArray.toList r6.1 == ByteArray.toList r3) else false) then ((r7.2 : Int) == 0) else false) then (ByteArray.toList r7.1 == ByteArray.toList r2) else false) then (ByteArray.toList r15 == ByteArray.toList (⟨#[]⟩ : ByteArray)) else false) then m_suturelaw7_kept n r4 else some 0) fun r16 =>
Option.bind (bif (bif (bif (bif (bif (bif r14 then ((r6.2 : Int) == 0) else false) then (ByteArray.toList r6.1 == ByteArray.toList r3) else false) then ((r7.2 : Int) == 0) else false) then (ByteArray.toList r7.1 == ByteArray.toList r2) else false) then (ByteArray.toList r15 == ByteArray.toList (⟨#[]⟩ : ByteArray)) else false) then m_suturelaw7_kept n r5 else some 0) fun r17 =>
some (bif (bif (bif (bif (bif (bif r14 then ((r6.2 : Int) == 0) else false) then (ByteArray.toList r6.1 == ByteArray.toList r3) else false) then ((r7.2 : Int) == 0) else false) then (ByteArray.toList r7.1 == ByteArray.toList r2) else false) then (ByteArray.toList r15 == ByteArray.toList (⟨#[]⟩ : ByteArray)) else false) then ((r16 : Int) == r17) else false)))
else (
Option.bind (m_diff_Of n r0 r1) fun r18 =>
Option.bind (m_diff_Of n r1 r0) fun r19 =>
Option.bind (m_diff_Apply n r0 r18) fun r20 =>
Option.bind (m_diff_Apply n r1 r19) fun r21 =>
Option.bind (m_diff_Lines n r0) fun r22 =>
bif (decide ((((List.length r22 : Nat) : Int) : Int) > 0)) then (
Option.bind (m_sutureref1_Digits n ((List.length r22 : Nat) : Int)) fun r23 =>
must true (decide (((ByteArray.size (⟨#[61]⟩ : ByteArray) + ByteArray.size r23 : Nat) : Int) ≤ IntKind.i64.max)) (must true (decide (((ByteArray.size ((⟨#[61]⟩ : ByteArray) ++ r23) + ByteArray.size (⟨#[10]⟩ : ByteArray) : Nat) : Int) ≤ IntKind.i64.max)) (Option.bind (m_suturelaw7_known n) fun r24 =>
Option.bind (bif (bif (bif (bif (bif r24 then ((r20.2 : Int) == 0) else false) then (ByteArray.toList r20.1 == ByteArray.toList r1) else false) then ((r21.2 : Int) == 0) else false) then (ByteArray.toList r21.1 == ByteArray.toList r0) else false) then m_diff_Of n r0 r0 else some default) fun r25 =>
Option.bind (bif (bif (bif (bif (bif (bif r24 then ((r20.2 : Int) == 0) else false) then (ByteArray.toList r20.1 == ByteArray.toList r1) else false) then ((r21.2 : Int) == 0) else false) then (ByteArray.toList r21.1 == ByteArray.toList r0) else false) then (ByteArray.toList r25 == ByteArray.toList (((⟨#[61]⟩ : ByteArray) ++ r23) ++ (⟨#[10]⟩ : ByteArray))) else false) then m_suturelaw7_kept n r18 else some 0) fun r26 =>
Option.bind (bif (bif (bif (bif (bif (bif r24 then ((r20.2 : Int) == 0) else false) then (ByteArray.toList r20.1 == ByteArray.toList r1) else false) then ((r21.2 : Int) == 0) else false) then (ByteArray.toList r21.1 == ByteArray.toList r0) else false) then (ByteArray.toList r25 == ByteArray.toList (((⟨#[61]⟩ : ByteArray) ++ r23) ++ (⟨#[10]⟩ : ByteArray))) else false) then m_suturelaw7_kept n r19 else some 0) fun r27 =>
some (bif (bif (bif (bif (bif (bif r24 then ((r20.2 : Int) == 0) else false) then (ByteArray.toList r20.1 == ByteArray.toList r1) else false) then ((r21.2 : Int) == 0) else false) then (ByteArray.toList r21.1 == ByteArray.toList r0) else false) then (ByteArray.toList r25 == ByteArray.toList (((⟨#[61]⟩ : ByteArray) ++ r23) ++ (⟨#[10]⟩ : ByteArray))) else false) then ((r26 : Int) == r27) else false))))
else (
Option.bind (m_suturelaw7_known n) fun r28 =>
Option.bind (bif (bif (bif (bif (bif r28 then ((r20.2 : Int) == 0) else false) then (ByteArray.toList r20.1 == ByteArray.toList r1) else false) then ((r21.2 : Int) == 0) else false) then (ByteArray.toList r21.1 == ByteArray.toList r0) else false) then m_diff_Of n r0 r0 else some default) fun r29 =>
Option.bind (bif (bif (bif (bif (bif (bif r28 then ((r20.2 : Int) == 0) else false) then (ByteArray.toList r20.1 == ByteArray.toList r1) else false) then ((r21.2 : Int) == 0) else false) then (ByteArray.toList r21.1 == ByteArray.toList r0) else false) then (ByteArray.toList r29 == ByteArray.toList (⟨#[]⟩ : ByteArray)) else false) then m_suturelaw7_kept n r18 else some 0) fun r30 =>
Option.bind (bif (bif (bif (bif (bif (bif r28 then ((r20.2 : Int) == 0) else false) then (ByteArray.toList r20.1 == ByteArray.toList r1) else false) then ((r21.2 : Int) == 0) else false) then (ByteArray.toList r21.1 == ByteArray.toList r0) else false) then (ByteArray.toList r29 == ByteArray.toList (⟨#[]⟩ : ByteArray)) else false) then m_suturelaw7_kept n r19 else some 0) fun r31 =>
some (bif (bif (bif (bif (bif (bif r28 then ((r20.2 : Int) == 0) else false) then (ByteArray.toList r20.1 == ByteArray.toList r1) else false) then ((r21.2 : Int) == 0) else false) then (ByteArray.toList r21.1 == ByteArray.toList r0) else false) then (ByteArray.toList r29 == ByteArray.toList (⟨#[]⟩ : ByteArray)) else false) then ((r30 : Int) == r31) else false)))
def d_suturelaw7_DiffBack : FnF := ⟨5, [.list, .list, .bool, .str, .str, .bool], [.bool]⟩
theorem m_suturelaw7_DiffBack_ok (n : Nat) : Ok Tryd.prog d_suturelaw7_DiffBack (m_suturelaw7_DiffBack n) := fnOk0 sound [⟨d_suturelaw7_lines, m_suturelaw7_lines n, m_suturelaw7_lines_ok n⟩, ⟨d_suturehand_Few, m_suturehand_Few n, m_suturehand_Few_ok n⟩, ⟨d_diff_Of, m_diff_Of n, m_diff_Of_ok n⟩, ⟨d_diff_Apply, m_diff_Apply n, m_diff_Apply_ok n⟩, ⟨d_diff_Lines, m_diff_Lines n, m_diff_Lines_ok n⟩, ⟨d_sutureref1_Digits, m_sutureref1_Digits n, m_sutureref1_Digits_ok n⟩, ⟨d_suturelaw7_known, m_suturelaw7_known n, m_suturelaw7_known_ok n⟩, ⟨d_suturelaw7_kept, m_suturelaw7_kept n, m_suturelaw7_kept_ok n⟩] Tryd.func5 (by kernel_rfl) (fun a => by kernel_rfl)


/-! suture/suturelaw7.DiffMost -/
def l_suturelaw7_DiffMost_11_B (n : Nat) (k : (List T) × (List T) × (List T) × Int × Int × Int × Int × Int → Option ((List T) × (List T) × (List T) × Int × Int × Int × Int × Int)) : (List T) × (List T) × (List T) × Int × Int × Int × Int × Int → Option ((List T) × (List T) × (List T) × Int × Int × Int × Int × Int) := fun (s0, s1, s2, s3, s4, s5, s6, s7) =>
Option.bind (idx ((decide ((s7 : Int) < ((List.length s2 : Nat) : Int)))) [.str] s2 s7) fun y9 =>
Option.bind (idx ((decide ((s7 : Int) < ((List.length s2 : Nat) : Int)))) [.str] s1 s6) fun y10 =>
bif (bif (decide ((s7 : Int) < ((List.length s2 : Nat) : Int))) then (!(ByteArray.toList (y9.cell 0).str == ByteArray.toList (y10.cell 0).str)) else false) then (
k (s0, s1, s2, s3, s4, s5, s6, (IntKind.wrap .i64 (s7 + 1))))
else (
some (s0, s1, s2, s3, s4, s5, s6, s7))
def l_suturelaw7_DiffMost_11 (n : Nat) : Nat → (List T) × (List T) × (List T) × Int × Int × Int × Int × Int → Option ((List T) × (List T) × (List T) × Int × Int × Int × Int × Int)
  | 0, _ => none
  | m + 1, s => l_suturelaw7_DiffMost_11_B n (l_suturelaw7_DiffMost_11 n m) s
def l_suturelaw7_DiffMost_7_B (n : Nat) (k : (List T) × (List T) × (List T) × Int × Int × Int × Int → Option ((List T) × (List T) × Int × Int)) : (List T) × (List T) × (List T) × Int × Int × Int × Int → Option ((List T) × (List T) × Int × Int) := fun (s0, s1, s2, s3, s4, s5, s6) =>
bif (decide ((s6 : Int) < ((List.length s1 : Nat) : Int))) then (
Option.bind (idx ((decide ((s6 : Int) < ((List.length s0 : Nat) : Int)))) [.int .i64] s0 s6) fun y8 =>
must ((decide ((s6 : Int) < ((List.length s0 : Nat) : Int)))) (!decide (3 = 0)) (bif (bif (decide ((s6 : Int) < ((List.length s0 : Nat) : Int))) then (((Int.tmod (y8.cell 0).int 3) : Int) == 0) else false) then (
k (s0, s1, s2, s3, s4, s5, (IntKind.wrap .i64 (s6 + 1))))
else (
Option.bind (l_suturelaw7_DiffMost_11 n n (s0, s1, s2, s3, s4, s5, s6, s4)) fun p12 =>
bif (decide ((p12.2.2.2.2.2.2.2 : Int) < ((List.length p12.2.2.1 : Nat) : Int))) then (
k (p12.1, p12.2.1, p12.2.2.1, p12.2.2.2.1, (IntKind.wrap .i64 (p12.2.2.2.2.2.2.2 + 1)), (IntKind.wrap .i64 (p12.2.2.2.2.2.1 + 1)), (IntKind.wrap .i64 (p12.2.2.2.2.2.2.1 + 1))))
else (
k (p12.1, p12.2.1, p12.2.2.1, p12.2.2.2.1, p12.2.2.2.2.1, p12.2.2.2.2.2.1, (IntKind.wrap .i64 (p12.2.2.2.2.2.2.1 + 1)))))))
else (
some (s1, s2, s3, s5))
def l_suturelaw7_DiffMost_7 (n : Nat) : Nat → (List T) × (List T) × (List T) × Int × Int × Int × Int → Option ((List T) × (List T) × Int × Int)
  | 0, _ => none
  | m + 1, s => l_suturelaw7_DiffMost_7_B n (l_suturelaw7_DiffMost_7 n m) s
def m_suturelaw7_DiffMost (n : Nat) (a0 : List T) (a1 : List T) (a2 : List T) : Option (Bool) :=
Option.bind (m_suturelaw7_lines n a0 false) fun r0 =>
Option.bind (m_diff_Lines n r0) fun r1 =>
Option.bind (m_suturelaw7_lines n a1 false) fun r2 =>
Option.bind (m_diff_Lines n r2) fun r3 =>
Option.bind (m_suturelaw7_lines n a0 false) fun r4 =>
Option.bind (m_suturelaw7_lines n a1 false) fun r5 =>
Option.bind (m_diff_Of n r4 r5) fun r6 =>
Option.bind (m_suturelaw7_kept n r6) fun r7 =>
Option.bind (l_suturelaw7_DiffMost_7 n n (a2, r1, r3, r7, 0, 0, 0)) fun p14 =>
Option.bind (m_suturelaw7_known n) fun r15 =>
some (bif (bif r15 then (decide ((p14.2.2.1 : Int) ≥ p14.2.2.2)) else false) then (decide ((p14.2.2.1 : Int) ≤ (if (((List.length p14.2.1 : Nat) : Int) : Int) < ((List.length p14.1 : Nat) : Int) then ((List.length p14.2.1 : Nat) : Int) else ((List.length p14.1 : Nat) : Int)))) else false)
def d_suturelaw7_DiffMost : FnF := ⟨6, [.list, .list, .list], [.bool]⟩
def cs_suturelaw7_DiffMost (n : Nat) : List (CalF Tryd.prog) := [⟨d_suturelaw7_lines, m_suturelaw7_lines n, m_suturelaw7_lines_ok n⟩, ⟨d_diff_Lines, m_diff_Lines n, m_diff_Lines_ok n⟩, ⟨d_diff_Of, m_diff_Of n, m_diff_Of_ok n⟩, ⟨d_suturelaw7_kept, m_suturelaw7_kept n, m_suturelaw7_kept_ok n⟩, ⟨d_suturelaw7_known, m_suturelaw7_known n, m_suturelaw7_known_ok n⟩]
def L_l_suturelaw7_DiffMost_11 : LF := ⟨11, [2, 7, 8, 9, 10, 11, 12, 13], [.list, .list, .list, .int .i64, .int .i64, .int .i64, .int .i64, .int .i64], [⟨(.exit 2), [2, 7, 8, 9, 10, 11, 12, 13], [.list, .list, .list, .int .i64, .int .i64, .int .i64, .int .i64, .int .i64]⟩]⟩
def L_l_suturelaw7_DiffMost_7 : LF := ⟨7, [2, 7, 8, 9, 10, 11, 12], [.list, .list, .list, .int .i64, .int .i64, .int .i64, .int .i64], [⟨(.exit 0), [7, 8, 9, 11], [.list, .list, .int .i64, .int .i64]⟩]⟩
def ls_suturelaw7_DiffMost (n : Nat) : List LE := [⟨11, loopS L_l_suturelaw7_DiffMost_11 (l_suturelaw7_DiffMost_11 n n)⟩, ⟨7, loopS L_l_suturelaw7_DiffMost_7 (l_suturelaw7_DiffMost_7 n n)⟩]
theorem l_suturelaw7_DiffMost_11_ok (n : Nat) : LoopOk Tryd.prog (mkSpec (cs_suturelaw7_DiffMost n) (ls_suturelaw7_DiffMost n)) 0 85 (loopAt Tryd.f6 1) := loopOk (L := L_l_suturelaw7_DiffMost_11) (f := l_suturelaw7_DiffMost_11 n) (B := l_suturelaw7_DiffMost_11_B n) (k := n) (loopAt_ok sound Tryd.func6 (by kernel_rfl)) (inner (by kernel_rfl) allN) (innerS (by kernel_rfl) allN) (fun _ => rfl) (fun _ _ => rfl) (by kernel_rfl) (fun _ => by kernel_rfl) (by kernel_rfl) (fun k a => by kernel_rfl)
theorem l_suturelaw7_DiffMost_7_ok (n : Nat) : LoopOk Tryd.prog (mkSpec (cs_suturelaw7_DiffMost n) (ls_suturelaw7_DiffMost n)) 0 85 (loopAt Tryd.f6 0) := loopOk (L := L_l_suturelaw7_DiffMost_7) (f := l_suturelaw7_DiffMost_7 n) (B := l_suturelaw7_DiffMost_7_B n) (k := n) (loopAt_ok sound Tryd.func6 (by kernel_rfl)) (inner (by kernel_rfl) (allC (l_suturelaw7_DiffMost_11_ok n) allN)) (innerS (by kernel_rfl) allN) (fun _ => rfl) (fun _ _ => rfl) (by kernel_rfl) (fun _ => by kernel_rfl) (by kernel_rfl) (fun k a => by kernel_rfl)
theorem m_suturelaw7_DiffMost_ok (n : Nat) : Ok Tryd.prog d_suturelaw7_DiffMost (m_suturelaw7_DiffMost n) := fnOk sound (cs := cs_suturelaw7_DiffMost n) (ls := ls_suturelaw7_DiffMost n) (n := 85) Tryd.func6 (by kernel_rfl) (fun _ => by kernel_rfl) (inner (by kernel_rfl) (allC (l_suturelaw7_DiffMost_7_ok n) (allC (l_suturelaw7_DiffMost_11_ok n) allN))) (innerS (by kernel_rfl) allN) (by kernel_rfl) (fun a => by kernel_rfl)


/-! suture/suturelaw7.DiffSides -/
def m_suturelaw7_DiffSides (n : Nat) (a0 : List T) (a1 : List T) (a2 : List T) (a3 : List T) : Option (Bool) :=
Option.bind (m_suturelaw7_lines n a0 false) fun r0 =>
Option.bind (m_suturelaw7_lines n a1 false) fun r1 =>
Option.bind (m_suturelaw7_lines n a2 false) fun r2 =>
Option.bind (m_suturelaw7_lines n a3 false) fun r3 =>
must true (decide (((ByteArray.size r2 + ByteArray.size r0 : Nat) : Int) ≤ IntKind.i64.max)) (must true (decide (((ByteArray.size (r2 ++ r0) + ByteArray.size r3 : Nat) : Int) ≤ IntKind.i64.max)) (must true (decide (((ByteArray.size r2 + ByteArray.size r1 : Nat) : Int) ≤ IntKind.i64.max)) (must true (decide (((ByteArray.size (r2 ++ r1) + ByteArray.size r3 : Nat) : Int) ≤ IntKind.i64.max)) (Option.bind (m_diff_Of n ((r2 ++ r0) ++ r3) ((r2 ++ r1) ++ r3)) fun r4 =>
must true (decide (((ByteArray.size r2 + ByteArray.size r0 : Nat) : Int) ≤ IntKind.i64.max)) (must true (decide (((ByteArray.size (r2 ++ r0) + ByteArray.size r3 : Nat) : Int) ≤ IntKind.i64.max)) (Option.bind (m_diff_Apply n ((r2 ++ r0) ++ r3) r4) fun r5 =>
Option.bind (m_sutureref1_Lines n r2) fun r6 =>
Option.bind (m_sutureref1_Lines n r3) fun r7 =>
Option.bind (m_suturelaw7_known n) fun r8 =>
must ((bif r8 then ((r5.2 : Int) == 0) else false)) (decide (((ByteArray.size r2 + ByteArray.size r1 : Nat) : Int) ≤ IntKind.i64.max)) (must ((bif r8 then ((r5.2 : Int) == 0) else false)) (decide (((ByteArray.size (r2 ++ r1) + ByteArray.size r3 : Nat) : Int) ≤ IntKind.i64.max)) (Option.bind (bif (bif (bif r8 then ((r5.2 : Int) == 0) else false) then (ByteArray.toList r5.1 == ByteArray.toList ((r2 ++ r1) ++ r3)) else false) then m_suturelaw7_kept n r4 else some 0) fun r9 =>
Option.bind (bif (bif (bif r8 then ((r5.2 : Int) == 0) else false) then (ByteArray.toList r5.1 == ByteArray.toList ((r2 ++ r1) ++ r3)) else false) then m_diff_Of n r0 r1 else some default) fun r10 =>
Option.bind (bif (bif (bif r8 then ((r5.2 : Int) == 0) else false) then (ByteArray.toList r5.1 == ByteArray.toList ((r2 ++ r1) ++ r3)) else false) then m_suturelaw7_kept n r10 else some 0) fun r11 =>
some (bif (bif (bif r8 then ((r5.2 : Int) == 0) else false) then (ByteArray.toList r5.1 == ByteArray.toList ((r2 ++ r1) ++ r3)) else false) then ((r9 : Int) == (IntKind.wrap .i64 ((IntKind.wrap .i64 (((List.length r6 : Nat) : Int) + ((List.length r7 : Nat) : Int))) + r11))) else false)))))))))
def d_suturelaw7_DiffSides : FnF := ⟨7, [.list, .list, .list, .list], [.bool]⟩
theorem m_suturelaw7_DiffSides_ok (n : Nat) : Ok Tryd.prog d_suturelaw7_DiffSides (m_suturelaw7_DiffSides n) := fnOk0 sound [⟨d_suturelaw7_lines, m_suturelaw7_lines n, m_suturelaw7_lines_ok n⟩, ⟨d_diff_Of, m_diff_Of n, m_diff_Of_ok n⟩, ⟨d_diff_Apply, m_diff_Apply n, m_diff_Apply_ok n⟩, ⟨d_sutureref1_Lines, m_sutureref1_Lines n, m_sutureref1_Lines_ok n⟩, ⟨d_suturelaw7_known, m_suturelaw7_known n, m_suturelaw7_known_ok n⟩, ⟨d_suturelaw7_kept, m_suturelaw7_kept n, m_suturelaw7_kept_ok n⟩] Tryd.func7 (by kernel_rfl) (fun a => by kernel_rfl)


/-! suture/suturelaw7.DiffOther -/
def m_suturelaw7_DiffOther (n : Nat) (a0 : List T) (a1 : List T) (a2 : List T) : Option (Bool) :=
Option.bind (m_suturelaw7_lines n a0 false) fun r0 =>
Option.bind (m_suturelaw7_lines n a1 false) fun r1 =>
Option.bind (m_suturelaw7_lines n a2 false) fun r2 =>
Option.bind (m_diff_Of n r0 r1) fun r3 =>
Option.bind (m_diff_Apply n r2 r3) fun r4 =>
Option.bind (m_diff_Lines n r2) fun r5 =>
Option.bind (m_diff_Lines n r0) fun r6 =>
bif ((((List.length r5 : Nat) : Int) : Int) != ((List.length r6 : Nat) : Int)) then (
Option.bind (m_suturelaw7_known n) fun r7 =>
some (bif (bif r7 then ((r4.2 : Int) == 2) else false) then (ByteArray.toList r4.1 == ByteArray.toList (⟨#[]⟩ : ByteArray)) else false))
else (
Option.bind (m_suturelaw7_known n) fun r8 =>
Option.bind (bif (bif r8 then ((r4.2 : Int) == 0) else false) then m_diff_Lines n r4.1 else some []) fun r9 =>
Option.bind (bif (bif r8 then ((r4.2 : Int) == 0) else false) then m_diff_Lines n r1 else some []) fun r10 =>
some (bif (bif r8 then ((r4.2 : Int) == 0) else false) then ((((List.length r9 : Nat) : Int) : Int) == ((List.length r10 : Nat) : Int)) else false))
def d_suturelaw7_DiffOther : FnF := ⟨8, [.list, .list, .list], [.bool]⟩
theorem m_suturelaw7_DiffOther_ok (n : Nat) : Ok Tryd.prog d_suturelaw7_DiffOther (m_suturelaw7_DiffOther n) := fnOk0 sound [⟨d_suturelaw7_lines, m_suturelaw7_lines n, m_suturelaw7_lines_ok n⟩, ⟨d_diff_Of, m_diff_Of n, m_diff_Of_ok n⟩, ⟨d_diff_Apply, m_diff_Apply n, m_diff_Apply_ok n⟩, ⟨d_diff_Lines, m_diff_Lines n, m_diff_Lines_ok n⟩, ⟨d_suturelaw7_known, m_suturelaw7_known n, m_suturelaw7_known_ok n⟩] Tryd.func8 (by kernel_rfl) (fun a => by kernel_rfl)

end Go.Proofs.YtimkclpogbfciaaDoor.W
