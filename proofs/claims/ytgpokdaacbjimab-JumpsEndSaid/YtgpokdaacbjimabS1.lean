/- What the engine's walk comes to, printed by a program of this work: for each function its model, and that it is one. No conditions. -/
import Derived.Test.YtgpokdaacbjimabDecls
namespace Go.Proofs.Ytgpokdaacbjimab.W
open Go Go.Eng
set_option linter.unusedVariables false
set_option linter.unusedSimpArgs false
set_option maxRecDepth 100000


/-! suture/suturehand.Pick -/
def m_suturehand_Pick (n : Nat) (a0 : Int) (a1 : Int) : Option (Int) :=
must true (!decide (a1 = 0)) (bif (decide (((Int.tmod a0 a1) : Int) < 0)) then (
some (IntKind.wrap .i64 ((Int.tmod a0 a1) + a1)))
else (
some (Int.tmod a0 a1)))
def d_suturehand_Pick : FnF := ⟨19, [.int .i64, .int .i64], [.int .i64]⟩
theorem m_suturehand_Pick_ok (n : Nat) : Ok Try.prog d_suturehand_Pick (m_suturehand_Pick n) := fnOk0 sound [] Try.func19 (by kernel_rfl) (fun a => by kernel_rfl)


/-! suture/sutureref1.letter -/
def m_sutureref1_letter (n : Nat) (a0 : Int) : Option (Bool) :=
some (bif (decide ((a0 : Int) ≥ 97)) then (decide ((a0 : Int) ≤ 122)) else false)
def d_sutureref1_letter : FnF := ⟨57, [.int .u8], [.bool]⟩
theorem m_sutureref1_letter_ok (n : Nat) : Ok Try.prog d_sutureref1_letter (m_sutureref1_letter n) := fnOk0 sound [] Try.func57 (by kernel_rfl) (fun a => by kernel_rfl)


/-! suture/sutureref1.digit -/
def m_sutureref1_digit (n : Nat) (a0 : Int) : Option (Bool) :=
some (bif (decide ((a0 : Int) ≥ 48)) then (decide ((a0 : Int) ≤ 57)) else false)
def d_sutureref1_digit : FnF := ⟨58, [.int .u8], [.bool]⟩
theorem m_sutureref1_digit_ok (n : Nat) : Ok Try.prog d_sutureref1_digit (m_sutureref1_digit n) := fnOk0 sound [] Try.func58 (by kernel_rfl) (fun a => by kernel_rfl)


/-! suture/sutureref1.number -/
def l_sutureref1_number_3_B (n : Nat) (k : ByteArray × Int × Int → Option (((Int × Bool) ⊕ ByteArray × Int))) : ByteArray × Int × Int → Option (((Int × Bool) ⊕ ByteArray × Int)) := fun (s0, s1, s2) =>
bif (decide ((s2 : Int) < ((ByteArray.size s0 : Nat) : Int))) then (
Option.bind (bidx true s0 s2) fun b0 =>
must true (!decide (10 = 0)) (bif (decide ((s1 : Int) > (IntKind.wrap .i64 (Int.tdiv (IntKind.wrap .i64 (9223372036854775807 - (IntKind.wrap .i64 (IntKind.wrap .u8 (((UInt8.toNat b0 : Nat) : Int) - 48))))) 10)))) then (
some (Sum.inl (0, false)))
else (
k (s0, (IntKind.wrap .i64 ((IntKind.wrap .i64 (10 * s1)) + (IntKind.wrap .i64 (IntKind.wrap .u8 (((UInt8.toNat b0 : Nat) : Int) - 48))))), (IntKind.wrap .i64 (s2 + 1))))))
else (
some (Sum.inr (s0, s1)))
def l_sutureref1_number_3 (n : Nat) : Nat → ByteArray × Int × Int → Option (((Int × Bool) ⊕ ByteArray × Int))
  | 0, _ => none
  | m + 1, s => l_sutureref1_number_3_B n (l_sutureref1_number_3 n m) s
def m_sutureref1_number (n : Nat) (a0 : ByteArray) : Option (Int × Bool) :=
Option.bind (l_sutureref1_number_3 n n (a0, 0, 0)) fun x1 =>
Sum.elim (fun p2 => 
some (p2.1, p2.2)) (fun x1' => (fun p3 => 
Option.bind (bidx ((!(ByteArray.toList p3.1 == ByteArray.toList (⟨#[]⟩ : ByteArray)))) p3.1 0) fun b4 =>
some (p3.2, (bif (!(ByteArray.toList p3.1 == ByteArray.toList (⟨#[]⟩ : ByteArray))) then (bif ((((UInt8.toNat b4 : Nat) : Int) : Int) != 48) then true else (ByteArray.toList p3.1 == ByteArray.toList (⟨#[48]⟩ : ByteArray))) else false))) x1') x1
def d_sutureref1_number : FnF := ⟨59, [.str], [.tup 2, .int .i64, .bool]⟩
def cs_sutureref1_number (n : Nat) : List (CalF Try.prog) := []
def L_l_sutureref1_number_3 : LF := ⟨3, [0, 4, 5], [.str, .int .i64, .int .i64], [⟨.ret, [2, 3], [.int .i64, .bool]⟩, ⟨(.exit 0), [0, 4], [.str, .int .i64]⟩]⟩
def ls_sutureref1_number (n : Nat) : List LE := [⟨3, loopS L_l_sutureref1_number_3 (l_sutureref1_number_3 n n)⟩]
theorem l_sutureref1_number_3_ok (n : Nat) : LoopOk Try.prog (mkSpec (cs_sutureref1_number n) (ls_sutureref1_number n)) 0 39 (loopAt Try.f59 0) := loopOk (L := L_l_sutureref1_number_3) (f := l_sutureref1_number_3 n) (B := l_sutureref1_number_3_B n) (k := n) (loopAt_ok sound Try.func59 (by kernel_rfl)) (inner (by kernel_rfl) allN) (innerS (by kernel_rfl) allN) (fun _ => rfl) (fun _ _ => rfl) (by kernel_rfl) (fun _ => by kernel_rfl) (by kernel_rfl) (fun k a => by kernel_rfl)
theorem m_sutureref1_number_ok (n : Nat) : Ok Try.prog d_sutureref1_number (m_sutureref1_number n) := fnOk sound (cs := cs_sutureref1_number n) (ls := ls_sutureref1_number n) (n := 39) Try.func59 (by kernel_rfl) (fun _ => by kernel_rfl) (inner (by kernel_rfl) (allC (l_sutureref1_number_3_ok n) allN)) (innerS (by kernel_rfl) allN) (by kernel_rfl) (fun a => by kernel_rfl)


/-! suture/sutureref1.one -/
def l_sutureref1_one_4_B (n : Nat) (k : ByteArray × Int × Int × Int × ByteArray × Int × Int → Option (ByteArray × Int × Int × Int × ByteArray × Int × Int)) : ByteArray × Int × Int × Int × ByteArray × Int × Int → Option (ByteArray × Int × Int × Int × ByteArray × Int × Int) := fun (s0, s1, s2, s3, s4, s5, s6) =>
Option.bind (bidx ((decide ((s2 : Int) < ((ByteArray.size s0 : Nat) : Int)))) s0 s2) fun b2 =>
Option.bind (bif (decide ((s2 : Int) < ((ByteArray.size s0 : Nat) : Int))) then m_sutureref1_letter n ((UInt8.toNat b2 : Nat) : Int) else some false) fun r3 =>
Option.bind (bidx (((decide ((s2 : Int) < ((ByteArray.size s0 : Nat) : Int))) && !r3)) s0 s2) fun b4 =>
Option.bind (bif ((decide ((s2 : Int) < ((ByteArray.size s0 : Nat) : Int))) && !r3) then m_sutureref1_digit n ((UInt8.toNat b4 : Nat) : Int) else some false) fun r5 =>
bif (bif (decide ((s2 : Int) < ((ByteArray.size s0 : Nat) : Int))) then (bif r3 then true else r5) else false) then (
k (s0, s1, (IntKind.wrap .i64 (s2 + 1)), s3, s4, s5, s6))
else (
some (s0, s1, s2, s3, s4, s5, s6))
def l_sutureref1_one_4 (n : Nat) : Nat → ByteArray × Int × Int × Int × ByteArray × Int × Int → Option (ByteArray × Int × Int × Int × ByteArray × Int × Int)
  | 0, _ => none
  | m + 1, s => l_sutureref1_one_4_B n (l_sutureref1_one_4 n m) s
def l_sutureref1_one_10_B (n : Nat) (k : ByteArray × Int × Int × Int × ByteArray × Int × Int → Option (ByteArray × Int × Int × Int × ByteArray × Int × Int)) : ByteArray × Int × Int × Int × ByteArray × Int × Int → Option (ByteArray × Int × Int × Int × ByteArray × Int × Int) := fun (s0, s1, s2, s3, s4, s5, s6) =>
Option.bind (bidx ((decide ((s2 : Int) < ((ByteArray.size s0 : Nat) : Int)))) s0 s2) fun b9 =>
Option.bind (bif (decide ((s2 : Int) < ((ByteArray.size s0 : Nat) : Int))) then m_sutureref1_digit n ((UInt8.toNat b9 : Nat) : Int) else some false) fun r10 =>
bif (bif (decide ((s2 : Int) < ((ByteArray.size s0 : Nat) : Int))) then r10 else false) then (
k (s0, s1, (IntKind.wrap .i64 (s2 + 1)), s3, s4, s5, s6))
else (
some (s0, s1, s2, s3, s4, s5, s6))
def l_sutureref1_one_10 (n : Nat) : Nat → ByteArray × Int × Int × Int × ByteArray × Int × Int → Option (ByteArray × Int × Int × Int × ByteArray × Int × Int)
  | 0, _ => none
  | m + 1, s => l_sutureref1_one_10_B n (l_sutureref1_one_10 n m) s
def l_sutureref1_one_19_B (n : Nat) (k : ByteArray × Int × Int × Int × Int × Int × ByteArray × Int × Int → Option (((Int × Int × ByteArray × Int × Int) ⊕ Int × ByteArray × Int × Int))) : ByteArray × Int × Int × Int × Int × Int × ByteArray × Int × Int → Option (((Int × Int × ByteArray × Int × Int) ⊕ Int × ByteArray × Int × Int)) := fun (s0, s1, s2, s3, s4, s5, s6, s7, s8) =>
bif (decide ((s4 : Int) < 11)) then (
Option.bind (bidx true (⟨#[61, 60, 43, 45, 42, 47, 37, 40, 41, 123, 125]⟩ : ByteArray) s4) fun b15 =>
bif ((((UInt8.toNat b15 : Nat) : Int) : Int) == s2) then (
must true (decide (0 ≤ s1) && decide (s1 ≤ s3) && decide (s3 ≤ ((ByteArray.size s0 : Nat) : Int))) (some (Sum.inl (1, 3, (ByteArray.extract s0 (Int.toNat s1) (Int.toNat s3)), 0, s1))))
else (
k (s0, s1, s2, s3, (IntKind.wrap .i64 (s4 + 1)), s5, s6, s7, s8)))
else (
some (Sum.inr (s5, s6, s7, s8)))
def l_sutureref1_one_19 (n : Nat) : Nat → ByteArray × Int × Int × Int × Int × Int × ByteArray × Int × Int → Option (((Int × Int × ByteArray × Int × Int) ⊕ Int × ByteArray × Int × Int))
  | 0, _ => none
  | m + 1, s => l_sutureref1_one_19_B n (l_sutureref1_one_19 n m) s
def m_sutureref1_one (n : Nat) (a0 : ByteArray) (a1 : Int) : Option (Int × ByteArray × Int × Int × Int) :=
Option.bind (bidx true a0 a1) fun b0 =>
Option.bind (m_sutureref1_letter n ((UInt8.toNat b0 : Nat) : Int)) fun r1 =>
bif r1 then (
Option.bind (l_sutureref1_one_4 n n (a0, a1, (IntKind.wrap .i64 (a1 + 1)), 0, (⟨#[]⟩ : ByteArray), 0, 0)) fun p7 =>
bif (decide (((IntKind.wrap .i64 (p7.2.2.1 - p7.2.1)) : Int) > 12)) then (
some (0, (⟨#[]⟩ : ByteArray), 0, 0, 0))
else (
must true (decide (0 ≤ p7.2.1) && decide (p7.2.1 ≤ p7.2.2.1) && decide (p7.2.2.1 ≤ ((ByteArray.size p7.1 : Nat) : Int))) (some (1, (ByteArray.extract p7.1 (Int.toNat p7.2.1) (Int.toNat p7.2.2.1)), 0, p7.2.1, (IntKind.wrap .i64 (p7.2.2.1 - p7.2.1))))))
else (
Option.bind (m_sutureref1_digit n ((UInt8.toNat b0 : Nat) : Int)) fun r8 =>
bif r8 then (
Option.bind (l_sutureref1_one_10 n n (a0, a1, (IntKind.wrap .i64 (a1 + 1)), 0, (⟨#[]⟩ : ByteArray), 0, 0)) fun p12 =>
must true (decide (0 ≤ p12.2.1) && decide (p12.2.1 ≤ p12.2.2.1) && decide (p12.2.2.1 ≤ ((ByteArray.size p12.1 : Nat) : Int))) (Option.bind (m_sutureref1_number n (ByteArray.extract p12.1 (Int.toNat p12.2.1) (Int.toNat p12.2.2.1))) fun r13 =>
bif (!r13.2) then (
some (0, (⟨#[]⟩ : ByteArray), 0, 0, 0))
else (
must true (decide (0 ≤ p12.2.1) && decide (p12.2.1 ≤ p12.2.2.1) && decide (p12.2.2.1 ≤ ((ByteArray.size p12.1 : Nat) : Int))) (some (2, (ByteArray.extract p12.1 (Int.toNat p12.2.1) (Int.toNat p12.2.2.1)), r13.1, p12.2.1, (IntKind.wrap .i64 (p12.2.2.1 - p12.2.1)))))))
else (
Option.bind (bidx ((bif ((((UInt8.toNat b0 : Nat) : Int) : Int) == 61) then (decide (((IntKind.wrap .i64 (a1 + 1)) : Int) < ((ByteArray.size a0 : Nat) : Int))) else false)) a0 (IntKind.wrap .i64 (a1 + 1))) fun b14 =>
bif (bif (bif ((((UInt8.toNat b0 : Nat) : Int) : Int) == 61) then (decide (((IntKind.wrap .i64 (a1 + 1)) : Int) < ((ByteArray.size a0 : Nat) : Int))) else false) then ((((UInt8.toNat b14 : Nat) : Int) : Int) == 61) else false) then (
some (3, (⟨#[61, 61]⟩ : ByteArray), 0, a1, 2))
else (
Option.bind (l_sutureref1_one_19 n n (a0, a1, ((UInt8.toNat b0 : Nat) : Int), (IntKind.wrap .i64 (a1 + 1)), 0, 0, (⟨#[]⟩ : ByteArray), 0, 0)) fun x16 =>
Sum.elim (fun p17 => 
some (p17.2.1, p17.2.2.1, p17.2.2.2.1, p17.2.2.2.2, p17.1)) (fun x16' => (fun p18 => 
some (0, (⟨#[]⟩ : ByteArray), 0, 0, 0)) x16') x16)))
def d_sutureref1_one : FnF := ⟨50, [.str, .int .i64], [.tup 2, .agg 4, .int .i64, .str, .int .i64, .int .i64, .int .i64]⟩
def cs_sutureref1_one (n : Nat) : List (CalF Try.prog) := [⟨d_sutureref1_letter, m_sutureref1_letter n, m_sutureref1_letter_ok n⟩, ⟨d_sutureref1_digit, m_sutureref1_digit n, m_sutureref1_digit_ok n⟩, ⟨d_sutureref1_number, m_sutureref1_number n, m_sutureref1_number_ok n⟩]
def L_l_sutureref1_one_4 : LF := ⟨4, [0, 1, 4, 7], [.str, .int .i64, .ptr 0 0, .int .i64, .box 4, .int .i64, .str, .int .i64, .int .i64], [⟨(.exit 1), [0, 1, 4, 7], [.str, .int .i64, .ptr 0 0, .int .i64, .box 4, .int .i64, .str, .int .i64, .int .i64]⟩]⟩
def L_l_sutureref1_one_10 : LF := ⟨10, [0, 1, 4, 7], [.str, .int .i64, .ptr 0 0, .int .i64, .box 4, .int .i64, .str, .int .i64, .int .i64], [⟨(.exit 3), [0, 1, 4, 7], [.str, .int .i64, .ptr 0 0, .int .i64, .box 4, .int .i64, .str, .int .i64, .int .i64]⟩]⟩
def L_l_sutureref1_one_19 : LF := ⟨19, [0, 1, 4, 6, 7, 10], [.str, .int .i64, .ptr 0 0, .int .u8, .int .i64, .int .i64, .box 4, .int .i64, .str, .int .i64, .int .i64], [⟨.ret, [4, 5], [.ptr 0 0, .int .i64, .box 4, .int .i64, .str, .int .i64, .int .i64]⟩, ⟨(.exit 5), [4], [.ptr 0 0, .box 4, .int .i64, .str, .int .i64, .int .i64]⟩]⟩
def ls_sutureref1_one (n : Nat) : List LE := [⟨4, loopS L_l_sutureref1_one_4 (l_sutureref1_one_4 n n)⟩, ⟨10, loopS L_l_sutureref1_one_10 (l_sutureref1_one_10 n n)⟩, ⟨19, loopS L_l_sutureref1_one_19 (l_sutureref1_one_19 n n)⟩]
theorem l_sutureref1_one_4_ok (n : Nat) : LoopOk Try.prog (mkSpec (cs_sutureref1_one n) (ls_sutureref1_one n)) 0 119 (loopAt Try.f50 0) := loopOk (L := L_l_sutureref1_one_4) (f := l_sutureref1_one_4 n) (B := l_sutureref1_one_4_B n) (k := n) (loopAt_ok sound Try.func50 (by kernel_rfl)) (inner (by kernel_rfl) allN) (innerS (by kernel_rfl) allN) (fun _ => rfl) (fun _ _ => rfl) (by kernel_rfl) (fun _ => by kernel_rfl) (by kernel_rfl) (fun k a => by kernel_rfl)
theorem l_sutureref1_one_10_ok (n : Nat) : LoopOk Try.prog (mkSpec (cs_sutureref1_one n) (ls_sutureref1_one n)) 0 119 (loopAt Try.f50 1) := loopOk (L := L_l_sutureref1_one_10) (f := l_sutureref1_one_10 n) (B := l_sutureref1_one_10_B n) (k := n) (loopAt_ok sound Try.func50 (by kernel_rfl)) (inner (by kernel_rfl) allN) (innerS (by kernel_rfl) allN) (fun _ => rfl) (fun _ _ => rfl) (by kernel_rfl) (fun _ => by kernel_rfl) (by kernel_rfl) (fun k a => by kernel_rfl)
theorem l_sutureref1_one_19_ok (n : Nat) : LoopOk Try.prog (mkSpec (cs_sutureref1_one n) (ls_sutureref1_one n)) 0 119 (loopAt Try.f50 2) := loopOk (L := L_l_sutureref1_one_19) (f := l_sutureref1_one_19 n) (B := l_sutureref1_one_19_B n) (k := n) (loopAt_ok sound Try.func50 (by kernel_rfl)) (inner (by kernel_rfl) allN) (innerS (by kernel_rfl) allN) (fun _ => rfl) (fun _ _ => rfl) (by kernel_rfl) (fun _ => by kernel_rfl) (by kernel_rfl) (fun k a => by kernel_rfl)
theorem m_sutureref1_one_ok (n : Nat) : Ok Try.prog d_sutureref1_one (m_sutureref1_one n) := fnOk sound (cs := cs_sutureref1_one n) (ls := ls_sutureref1_one n) (n := 119) Try.func50 (by kernel_rfl) (fun _ => by kernel_rfl) (inner (by kernel_rfl) (allC (l_sutureref1_one_4_ok n) (allC (l_sutureref1_one_10_ok n) (allC (l_sutureref1_one_19_ok n) allN)))) (innerS (by kernel_rfl) allN) (by kernel_rfl) (fun a => by kernel_rfl)


/-! suture/sutureref1.Tokens -/
def l_sutureref1_Tokens_10_B (n : Nat) (k : ByteArray × (List T) × Int → Option (ByteArray × (List T) × Int)) : ByteArray × (List T) × Int → Option (ByteArray × (List T) × Int) := fun (s0, s1, s2) =>
Option.bind (bidx ((decide ((s2 : Int) < ((ByteArray.size s0 : Nat) : Int)))) s0 s2) fun b1 =>
bif (bif (decide ((s2 : Int) < ((ByteArray.size s0 : Nat) : Int))) then ((((UInt8.toNat b1 : Nat) : Int) : Int) != 10) else false) then (
k (s0, s1, (IntKind.wrap .i64 (s2 + 1))))
else (
some (s0, s1, s2))
def l_sutureref1_Tokens_10 (n : Nat) : Nat → ByteArray × (List T) × Int → Option (ByteArray × (List T) × Int)
  | 0, _ => none
  | m + 1, s => l_sutureref1_Tokens_10_B n (l_sutureref1_Tokens_10 n m) s
def l_sutureref1_Tokens_5_B (n : Nat) (k : ByteArray × (List T) × Int → Option ((((List T) × Int × Int) ⊕ (List T) × Int))) : ByteArray × (List T) × Int → Option ((((List T) × Int × Int) ⊕ (List T) × Int)) := fun (s0, s1, s2) =>
bif (decide ((s2 : Int) < ((ByteArray.size s0 : Nat) : Int))) then (
Option.bind (bidx true s0 s2) fun b0 =>
bif (bif (bif ((((UInt8.toNat b0 : Nat) : Int) : Int) == 32) then true else ((((UInt8.toNat b0 : Nat) : Int) : Int) == 9)) then true else ((((UInt8.toNat b0 : Nat) : Int) : Int) == 10)) then (
k (s0, s1, (IntKind.wrap .i64 (s2 + 1))))
else (
bif ((((UInt8.toNat b0 : Nat) : Int) : Int) == 35) then (
Option.bind (l_sutureref1_Tokens_10 n n (s0, s1, s2)) fun p3 =>
k (p3.1, p3.2.1, p3.2.2))
else (
Option.bind (m_sutureref1_one n s0 s2) fun r4 =>
bif ((r4.2.2.2.2 : Int) == 0) then (
some (Sum.inl (([] : List T), s2, 2)))
else (
must true ((Nat.beq 4 4 || Nat.beq 4 0) && (decide (List.length s1 + List.length [(T.agg [(T.sc (.int .i64 r4.1)), (T.sc (.string r4.2.1)), (T.sc (.int .i64 r4.2.2.1)), (T.sc (.int .i64 r4.2.2.2.1))])] ≤ 1073741824) && sized 4 [(T.agg [(T.sc (.int .i64 r4.1)), (T.sc (.string r4.2.1)), (T.sc (.int .i64 r4.2.2.1)), (T.sc (.int .i64 r4.2.2.2.1))])])) (k (s0, (s1 ++ [(T.agg [(T.sc (.int .i64 r4.1)), (T.sc (.string r4.2.1)), (T.sc (.int .i64 r4.2.2.1)), (T.sc (.int .i64 r4.2.2.2.1))])]), (IntKind.wrap .i64 (s2 + r4.2.2.2.2))))))))
else (
some (Sum.inr (s1, s2)))
def l_sutureref1_Tokens_5 (n : Nat) : Nat → ByteArray × (List T) × Int → Option ((((List T) × Int × Int) ⊕ (List T) × Int))
  | 0, _ => none
  | m + 1, s => l_sutureref1_Tokens_5_B n (l_sutureref1_Tokens_5 n m) s
def m_sutureref1_Tokens (n : Nat) (a0 : ByteArray) : Option ((List T) × Int × Int) :=
bif (decide ((((ByteArray.size a0 : Nat) : Int) : Int) > 6000)) then (
some (([] : List T), 6000, 2))
else (
Option.bind (l_sutureref1_Tokens_5 n n (a0, ([] : List T), 0)) fun x5 =>
Sum.elim (fun p6 => 
some (p6.1, p6.2.1, p6.2.2)) (fun x5' => (fun p7 => 
must true ((Nat.beq 4 4 || Nat.beq 4 0) && (decide (List.length p7.1 + List.length [(T.agg [(T.sc (.int .i64 4)), (T.sc (.string (⟨#[]⟩ : ByteArray))), (T.sc (.int .i64 0)), (T.sc (.int .i64 p7.2))])] ≤ 1073741824) && sized 4 [(T.agg [(T.sc (.int .i64 4)), (T.sc (.string (⟨#[]⟩ : ByteArray))), (T.sc (.int .i64 0)), (T.sc (.int .i64 p7.2))])])) (some ((p7.1 ++ [(T.agg [(T.sc (.int .i64 4)), (T.sc (.string (⟨#[]⟩ : ByteArray))), (T.sc (.int .i64 0)), (T.sc (.int .i64 p7.2))])]), 0, 0))) x5') x5)
def d_sutureref1_Tokens : FnF := ⟨35, [.str], [.tup 3, .list, .int .i64, .int .i64]⟩
def cs_sutureref1_Tokens (n : Nat) : List (CalF Try.prog) := [⟨d_sutureref1_one, m_sutureref1_one n, m_sutureref1_one_ok n⟩]
def L_l_sutureref1_Tokens_10 : LF := ⟨10, [0, 5, 6], [.str, .own 4, .int .i64], [⟨(.exit 2), [0, 5, 6], [.str, .own 4, .int .i64]⟩]⟩
def L_l_sutureref1_Tokens_5 : LF := ⟨5, [0, 5, 6], [.str, .own 4, .int .i64], [⟨.ret, [2, 3, 4], [.own 0, .int .i64, .int .i64]⟩, ⟨(.exit 0), [5, 6], [.own 4, .int .i64]⟩]⟩
def ls_sutureref1_Tokens (n : Nat) : List LE := [⟨10, loopS L_l_sutureref1_Tokens_10 (l_sutureref1_Tokens_10 n n)⟩, ⟨5, loopS L_l_sutureref1_Tokens_5 (l_sutureref1_Tokens_5 n n)⟩]
theorem l_sutureref1_Tokens_10_ok (n : Nat) : LoopOk Try.prog (mkSpec (cs_sutureref1_Tokens n) (ls_sutureref1_Tokens n)) 0 67 (loopAt Try.f35 1) := loopOk (L := L_l_sutureref1_Tokens_10) (f := l_sutureref1_Tokens_10 n) (B := l_sutureref1_Tokens_10_B n) (k := n) (loopAt_ok sound Try.func35 (by kernel_rfl)) (inner (by kernel_rfl) allN) (innerS (by kernel_rfl) allN) (fun _ => rfl) (fun _ _ => rfl) (by kernel_rfl) (fun _ => by kernel_rfl) (by kernel_rfl) (fun k a => by kernel_rfl)
theorem l_sutureref1_Tokens_5_ok (n : Nat) : LoopOk Try.prog (mkSpec (cs_sutureref1_Tokens n) (ls_sutureref1_Tokens n)) 0 67 (loopAt Try.f35 0) := loopOk (L := L_l_sutureref1_Tokens_5) (f := l_sutureref1_Tokens_5 n) (B := l_sutureref1_Tokens_5_B n) (k := n) (loopAt_ok sound Try.func35 (by kernel_rfl)) (inner (by kernel_rfl) (allC (l_sutureref1_Tokens_10_ok n) allN)) (innerS (by kernel_rfl) allN) (fun _ => rfl) (fun _ _ => rfl) (by kernel_rfl) (fun _ => by kernel_rfl) (by kernel_rfl) (fun k a => by kernel_rfl)
theorem m_sutureref1_Tokens_ok (n : Nat) : Ok Try.prog d_sutureref1_Tokens (m_sutureref1_Tokens n) := fnOk sound (cs := cs_sutureref1_Tokens n) (ls := ls_sutureref1_Tokens n) (n := 67) Try.func35 (by kernel_rfl) (fun _ => by kernel_rfl) (inner (by kernel_rfl) (allC (l_sutureref1_Tokens_5_ok n) (allC (l_sutureref1_Tokens_10_ok n) allN))) (innerS (by kernel_rfl) allN) (by kernel_rfl) (fun a => by kernel_rfl)


/-! suture/sutureref1.declKind -/
def l_sutureref1_declKind_2_B (n : Nat) (k : ByteArray × ByteArray × ByteArray × ByteArray × ByteArray × ByteArray × ByteArray × Int → Option (((Int) ⊕ Unit))) : ByteArray × ByteArray × ByteArray × ByteArray × ByteArray × ByteArray × ByteArray × Int → Option (((Int) ⊕ Unit)) := fun (s0, s1, s2, s3, s4, s5, s6, s7) =>
bif (decide ((s7 : Int) < 6)) then (
Option.bind (idx1 true (.str) [(T.sc (.string s1)), (T.sc (.string s2)), (T.sc (.string s3)), (T.sc (.string s4)), (T.sc (.string s5)), (T.sc (.string s6))] s7) fun y0 =>
bif (ByteArray.toList s0 == ByteArray.toList y0.str) then (
some (Sum.inl (IntKind.wrap .i64 (1 + s7))))
else (
k (s0, s1, s2, s3, s4, s5, s6, (IntKind.wrap .i64 (s7 + 1)))))
else (
some (Sum.inr ()))
def l_sutureref1_declKind_2 (n : Nat) : Nat → ByteArray × ByteArray × ByteArray × ByteArray × ByteArray × ByteArray × ByteArray × Int → Option (((Int) ⊕ Unit))
  | 0, _ => none
  | m + 1, s => l_sutureref1_declKind_2_B n (l_sutureref1_declKind_2 n m) s
def m_sutureref1_declKind (n : Nat) (a0 : ByteArray) : Option (Int) :=
Option.bind (l_sutureref1_declKind_2 n n (a0, (⟨#[118, 97, 114]⟩ : ByteArray), (⟨#[119, 105, 100, 101]⟩ : ByteArray), (⟨#[97, 116, 111, 109, 105, 99]⟩ : ByteArray), (⟨#[108, 111, 99, 97, 108]⟩ : ByteArray), (⟨#[109, 117, 116, 101, 120]⟩ : ByteArray), (⟨#[99, 104, 97, 110]⟩ : ByteArray), 0)) fun x1 =>
Sum.elim (fun p2 => 
some p2) (fun x1' => (fun p3 => 
some 0) x1') x1
def d_sutureref1_declKind : FnF := ⟨36, [.str], [.int .i64]⟩
def cs_sutureref1_declKind (n : Nat) : List (CalF Try.prog) := []
def L_l_sutureref1_declKind_2 : LF := ⟨2, [0, 5, 6], [.str, .agg 6, .str, .str, .str, .str, .str, .str, .int .i64], [⟨.ret, [2], [.int .i64]⟩, ⟨(.exit 0), [], []⟩]⟩
def ls_sutureref1_declKind (n : Nat) : List LE := [⟨2, loopS L_l_sutureref1_declKind_2 (l_sutureref1_declKind_2 n n)⟩]
theorem l_sutureref1_declKind_2_ok (n : Nat) : LoopOk Try.prog (mkSpec (cs_sutureref1_declKind n) (ls_sutureref1_declKind n)) 0 16 (loopAt Try.f36 0) := loopOk (L := L_l_sutureref1_declKind_2) (f := l_sutureref1_declKind_2 n) (B := l_sutureref1_declKind_2_B n) (k := n) (loopAt_ok sound Try.func36 (by kernel_rfl)) (inner (by kernel_rfl) allN) (innerS (by kernel_rfl) allN) (fun _ => rfl) (fun _ _ => rfl) (by kernel_rfl) (fun _ => by kernel_rfl) (by kernel_rfl) (fun k a => by kernel_rfl)
theorem m_sutureref1_declKind_ok (n : Nat) : Ok Try.prog d_sutureref1_declKind (m_sutureref1_declKind n) := fnOk sound (cs := cs_sutureref1_declKind n) (ls := ls_sutureref1_declKind n) (n := 16) Try.func36 (by kernel_rfl) (fun _ => by kernel_rfl) (inner (by kernel_rfl) (allC (l_sutureref1_declKind_2_ok n) allN)) (innerS (by kernel_rfl) allN) (by kernel_rfl) (fun a => by kernel_rfl)


/-! (*suture/sutureref1.Reader).failAt -/
def m___sutureref1_Reader__failAt (n : Nat) (a0 : Int) (a1 : List T) (a2 : Int) (a3 : Bool) (a4 : Int) : Option ((List T) × Int × Bool × Int) :=
bif (!a3) then (
some (a1, a2, true, a0))
else (
some (a1, a2, a3, a4))
def d___sutureref1_Reader__failAt : FnF := ⟨51, [.ptr 0 0, .int .i64, .box 4, .list, .int .i64, .bool, .int .i64], [.tup 0, .box 4, .list, .int .i64, .bool, .int .i64]⟩
theorem m___sutureref1_Reader__failAt_ok (n : Nat) : Ok Try.prog d___sutureref1_Reader__failAt (m___sutureref1_Reader__failAt n) := fnOk0 sound [] Try.func51 (by kernel_rfl) (fun a => by kernel_rfl)


/-! (*suture/sutureref1.Reader).fail -/
def m___sutureref1_Reader__fail (n : Nat) (a0 : List T) (a1 : Int) (a2 : Bool) (a3 : Int) : Option ((List T) × Int × Bool × Int) :=
Option.bind (m___sutureref1_Reader__failAt n a1 a0 a1 a2 a3) fun r0 =>
some (r0.1, r0.2.1, r0.2.2.1, r0.2.2.2)
def d___sutureref1_Reader__fail : FnF := ⟨37, [.ptr 0 0, .box 4, .list, .int .i64, .bool, .int .i64], [.tup 0, .box 4, .list, .int .i64, .bool, .int .i64]⟩
theorem m___sutureref1_Reader__fail_ok (n : Nat) : Ok Try.prog d___sutureref1_Reader__fail (m___sutureref1_Reader__fail n) := fnOk0 sound [⟨d___sutureref1_Reader__failAt, m___sutureref1_Reader__failAt n, m___sutureref1_Reader__failAt_ok n⟩] Try.func37 (by kernel_rfl) (fun a => by kernel_rfl)


/-! suture/sutureref1.Within -/
def m_sutureref1_Within (n : Nat) (a0 : Int) (a1 : Int) (a2 : Int) : Option (Int) :=
some (if (a1 : Int) < (if (a0 : Int) < a2 then a0 else a2) then (if (a0 : Int) < a2 then a0 else a2) else a1)
def d_sutureref1_Within : FnF := ⟨42, [.int .i64, .int .i64, .int .i64], [.int .i64]⟩
theorem m_sutureref1_Within_ok (n : Nat) : Ok Try.prog d_sutureref1_Within (m_sutureref1_Within n) := fnOk0 sound [] Try.func42 (by kernel_rfl) (fun a => by kernel_rfl)


/-! suture/sutureref1.Spot -/
def l_sutureref1_Spot_5_B (n : Nat) (k : ByteArray × Int × Int × Int × Int → Option (Int × Int)) : ByteArray × Int × Int × Int × Int → Option (Int × Int) := fun (s0, s1, s2, s3, s4) =>
bif (decide ((s4 : Int) < s1)) then (
Option.bind (bidx true s0 s4) fun b1 =>
bif ((((UInt8.toNat b1 : Nat) : Int) : Int) == 10) then (
k (s0, s1, (IntKind.wrap .i64 (s2 + 1)), 1, (IntKind.wrap .i64 (s4 + 1))))
else (
k (s0, s1, s2, (IntKind.wrap .i64 (s3 + 1)), (IntKind.wrap .i64 (s4 + 1)))))
else (
some (s2, s3))
def l_sutureref1_Spot_5 (n : Nat) : Nat → ByteArray × Int × Int × Int × Int → Option (Int × Int)
  | 0, _ => none
  | m + 1, s => l_sutureref1_Spot_5_B n (l_sutureref1_Spot_5 n m) s
def m_sutureref1_Spot (n : Nat) (a0 : ByteArray) (a1 : Int) : Option (Int × Int) :=
Option.bind (m_sutureref1_Within n a1 0 ((ByteArray.size a0 : Nat) : Int)) fun r0 =>
Option.bind (l_sutureref1_Spot_5 n n (a0, r0, 1, 1, 0)) fun p3 =>
some (p3.1, p3.2)
def d_sutureref1_Spot : FnF := ⟨24, [.str, .int .i64], [.tup 2, .int .i64, .int .i64]⟩
def cs_sutureref1_Spot (n : Nat) : List (CalF Try.prog) := [⟨d_sutureref1_Within, m_sutureref1_Within n, m_sutureref1_Within_ok n⟩]
def L_l_sutureref1_Spot_5 : LF := ⟨5, [0, 1, 6, 7, 8], [.str, .int .i64, .int .i64, .int .i64, .int .i64], [⟨(.exit 0), [6, 7], [.int .i64, .int .i64]⟩]⟩
def ls_sutureref1_Spot (n : Nat) : List LE := [⟨5, loopS L_l_sutureref1_Spot_5 (l_sutureref1_Spot_5 n n)⟩]
theorem l_sutureref1_Spot_5_ok (n : Nat) : LoopOk Try.prog (mkSpec (cs_sutureref1_Spot n) (ls_sutureref1_Spot n)) 0 28 (loopAt Try.f24 0) := loopOk (L := L_l_sutureref1_Spot_5) (f := l_sutureref1_Spot_5 n) (B := l_sutureref1_Spot_5_B n) (k := n) (loopAt_ok sound Try.func24 (by kernel_rfl)) (inner (by kernel_rfl) allN) (innerS (by kernel_rfl) allN) (fun _ => rfl) (fun _ _ => rfl) (by kernel_rfl) (fun _ => by kernel_rfl) (by kernel_rfl) (fun k a => by kernel_rfl)
theorem m_sutureref1_Spot_ok (n : Nat) : Ok Try.prog d_sutureref1_Spot (m_sutureref1_Spot n) := fnOk sound (cs := cs_sutureref1_Spot n) (ls := ls_sutureref1_Spot n) (n := 28) Try.func24 (by kernel_rfl) (fun _ => by kernel_rfl) (inner (by kernel_rfl) (allC (l_sutureref1_Spot_5_ok n) allN)) (innerS (by kernel_rfl) allN) (by kernel_rfl) (fun a => by kernel_rfl)


/-! suture/sutureref1.Place -/
def m_sutureref1_Place (n : Nat) (a0 : ByteArray) (a1 : Int) : Option ((Nat × Nat)) :=
Option.bind (m_sutureref1_Spot n a0 a1) fun r0 =>
some ((FloatKind.nearest .f64 r0.1), (FloatKind.nearest .f64 r0.2))
def d_sutureref1_Place : FnF := ⟨9, [.str, .int .i64], [.cplx .f64]⟩
theorem m_sutureref1_Place_ok (n : Nat) : Ok Try.prog d_sutureref1_Place (m_sutureref1_Place n) := fnOk0 sound [⟨d_sutureref1_Spot, m_sutureref1_Spot n, m_sutureref1_Spot_ok n⟩] Try.func9 (by kernel_rfl) (fun a => by kernel_rfl)


/-! suture/sutureref1.Keyword -/
def l_sutureref1_Keyword_2_B (n : Nat) (k : ByteArray × ByteArray × ByteArray × ByteArray × ByteArray × ByteArray × ByteArray × ByteArray × ByteArray × ByteArray × ByteArray × ByteArray × ByteArray × ByteArray × ByteArray × ByteArray × ByteArray × ByteArray × Int → Option (((Bool) ⊕ Unit))) : ByteArray × ByteArray × ByteArray × ByteArray × ByteArray × ByteArray × ByteArray × ByteArray × ByteArray × ByteArray × ByteArray × ByteArray × ByteArray × ByteArray × ByteArray × ByteArray × ByteArray × ByteArray × Int → Option (((Bool) ⊕ Unit)) := fun (s0, s1, s2, s3, s4, s5, s6, s7, s8, s9, s10, s11, s12, s13, s14, s15, s16, s17, s18) =>
bif (decide ((s18 : Int) < 17)) then (
Option.bind (idx1 true (.str) [(T.sc (.string s1)), (T.sc (.string s2)), (T.sc (.string s3)), (T.sc (.string s4)), (T.sc (.string s5)), (T.sc (.string s6)), (T.sc (.string s7)), (T.sc (.string s8)), (T.sc (.string s9)), (T.sc (.string s10)), (T.sc (.string s11)), (T.sc (.string s12)), (T.sc (.string s13)), (T.sc (.string s14)), (T.sc (.string s15)), (T.sc (.string s16)), (T.sc (.string s17))] s18) fun y0 =>
bif (ByteArray.toList s0 == ByteArray.toList y0.str) then (
some (Sum.inl true))
else (
k (s0, s1, s2, s3, s4, s5, s6, s7, s8, s9, s10, s11, s12, s13, s14, s15, s16, s17, (IntKind.wrap .i64 (s18 + 1)))))
else (
some (Sum.inr ()))
def l_sutureref1_Keyword_2 (n : Nat) : Nat → ByteArray × ByteArray × ByteArray × ByteArray × ByteArray × ByteArray × ByteArray × ByteArray × ByteArray × ByteArray × ByteArray × ByteArray × ByteArray × ByteArray × ByteArray × ByteArray × ByteArray × ByteArray × Int → Option (((Bool) ⊕ Unit))
  | 0, _ => none
  | m + 1, s => l_sutureref1_Keyword_2_B n (l_sutureref1_Keyword_2 n m) s
def m_sutureref1_Keyword (n : Nat) (a0 : ByteArray) : Option (Bool) :=
Option.bind (l_sutureref1_Keyword_2 n n (a0, (⟨#[118, 97, 114]⟩ : ByteArray), (⟨#[119, 105, 100, 101]⟩ : ByteArray), (⟨#[97, 116, 111, 109, 105, 99]⟩ : ByteArray), (⟨#[108, 111, 99, 97, 108]⟩ : ByteArray), (⟨#[109, 117, 116, 101, 120]⟩ : ByteArray), (⟨#[99, 104, 97, 110]⟩ : ByteArray), (⟨#[103, 111]⟩ : ByteArray), (⟨#[108, 111, 99, 107]⟩ : ByteArray), (⟨#[117, 110, 108, 111, 99, 107]⟩ : ByteArray), (⟨#[115, 101, 110, 100]⟩ : ByteArray), (⟨#[114, 101, 99, 118]⟩ : ByteArray), (⟨#[112, 114, 105, 110, 116]⟩ : ByteArray), (⟨#[105, 102]⟩ : ByteArray), (⟨#[101, 108, 115, 101]⟩ : ByteArray), (⟨#[114, 101, 112, 101, 97, 116]⟩ : ByteArray), (⟨#[103, 111, 116, 111]⟩ : ByteArray), (⟨#[108, 97, 98, 101, 108]⟩ : ByteArray), 0)) fun x1 =>
Sum.elim (fun p2 => 
some p2) (fun x1' => (fun p3 => 
some false) x1') x1
def d_sutureref1_Keyword : FnF := ⟨52, [.str], [.bool]⟩
def cs_sutureref1_Keyword (n : Nat) : List (CalF Try.prog) := []
def L_l_sutureref1_Keyword_2 : LF := ⟨2, [0, 5, 6], [.str, .agg 17, .str, .str, .str, .str, .str, .str, .str, .str, .str, .str, .str, .str, .str, .str, .str, .str, .str, .int .i64], [⟨.ret, [2], [.bool]⟩, ⟨(.exit 0), [], []⟩]⟩
def ls_sutureref1_Keyword (n : Nat) : List LE := [⟨2, loopS L_l_sutureref1_Keyword_2 (l_sutureref1_Keyword_2 n n)⟩]
theorem l_sutureref1_Keyword_2_ok (n : Nat) : LoopOk Try.prog (mkSpec (cs_sutureref1_Keyword n) (ls_sutureref1_Keyword n)) 0 13 (loopAt Try.f52 0) := loopOk (L := L_l_sutureref1_Keyword_2) (f := l_sutureref1_Keyword_2 n) (B := l_sutureref1_Keyword_2_B n) (k := n) (loopAt_ok sound Try.func52 (by kernel_rfl)) (inner (by kernel_rfl) allN) (innerS (by kernel_rfl) allN) (fun _ => rfl) (fun _ _ => rfl) (by kernel_rfl) (fun _ => by kernel_rfl) (by kernel_rfl) (fun k a => by kernel_rfl)
theorem m_sutureref1_Keyword_ok (n : Nat) : Ok Try.prog d_sutureref1_Keyword (m_sutureref1_Keyword n) := fnOk sound (cs := cs_sutureref1_Keyword n) (ls := ls_sutureref1_Keyword n) (n := 13) Try.func52 (by kernel_rfl) (fun _ => by kernel_rfl) (inner (by kernel_rfl) (allC (l_sutureref1_Keyword_2_ok n) allN)) (innerS (by kernel_rfl) allN) (by kernel_rfl) (fun a => by kernel_rfl)


/-! (*suture/sutureref1.Reader).name -/
def m___sutureref1_Reader__name (n : Nat) (a0 : List T) (a1 : Int) (a2 : Bool) (a3 : Int) : Option (ByteArray × (List T) × Int × Bool × Int) :=
Option.bind (idx (!a2) [.int .i64, .str, .int .i64, .int .i64] a0 a1) fun y0 =>
Option.bind (idx (!(bif a2 then true else (((y0.cell 0).int : Int) != 1))) [.int .i64, .str, .int .i64, .int .i64] a0 a1) fun y1 =>
Option.bind (bif !(bif a2 then true else (((y0.cell 0).int : Int) != 1)) then m_sutureref1_Keyword n (y1.cell 1).str else some false) fun r2 =>
bif (bif (bif a2 then true else (((y0.cell 0).int : Int) != 1)) then true else r2) then (
Option.bind (m___sutureref1_Reader__fail n a0 a1 a2 a3) fun r3 =>
some ((⟨#[]⟩ : ByteArray), r3.1, r3.2.1, r3.2.2.1, r3.2.2.2))
else (
Option.bind (idx true [.int .i64, .str, .int .i64, .int .i64] a0 (IntKind.wrap .i64 ((IntKind.wrap .i64 (a1 + 1)) - 1))) fun y4 =>
some ((y4.cell 1).str, a0, (IntKind.wrap .i64 (a1 + 1)), a2, a3))
def d___sutureref1_Reader__name : FnF := ⟨38, [.ptr 0 0, .box 4, .list, .int .i64, .bool, .int .i64], [.str, .box 4, .list, .int .i64, .bool, .int .i64]⟩
theorem m___sutureref1_Reader__name_ok (n : Nat) : Ok Try.prog d___sutureref1_Reader__name (m___sutureref1_Reader__name n) := fnOk0 sound [⟨d_sutureref1_Keyword, m_sutureref1_Keyword n, m_sutureref1_Keyword_ok n⟩, ⟨d___sutureref1_Reader__fail, m___sutureref1_Reader__fail n, m___sutureref1_Reader__fail_ok n⟩] Try.func38 (by kernel_rfl) (fun a => by kernel_rfl)


/-! (*suture/sutureref1.Reader).number -/
def m___sutureref1_Reader__number (n : Nat) (a0 : Int) (a1 : List T) (a2 : Int) (a3 : Bool) (a4 : Int) : Option (Int × (List T) × Int × Bool × Int) :=
Option.bind (idx (!a3) [.int .i64, .str, .int .i64, .int .i64] a1 a2) fun y0 =>
Option.bind (idx (!(bif a3 then true else (((y0.cell 0).int : Int) != 2))) [.int .i64, .str, .int .i64, .int .i64] a1 a2) fun y1 =>
bif (bif (bif a3 then true else (((y0.cell 0).int : Int) != 2)) then true else (decide (((y1.cell 2).int : Int) > a0))) then (
Option.bind (m___sutureref1_Reader__fail n a1 a2 a3 a4) fun r2 =>
some (0, r2.1, r2.2.1, r2.2.2.1, r2.2.2.2))
else (
Option.bind (idx true [.int .i64, .str, .int .i64, .int .i64] a1 (IntKind.wrap .i64 ((IntKind.wrap .i64 (a2 + 1)) - 1))) fun y3 =>
some ((y3.cell 2).int, a1, (IntKind.wrap .i64 (a2 + 1)), a3, a4))
def d___sutureref1_Reader__number : FnF := ⟨39, [.ptr 0 0, .int .i64, .box 4, .list, .int .i64, .bool, .int .i64], [.int .i64, .box 4, .list, .int .i64, .bool, .int .i64]⟩
theorem m___sutureref1_Reader__number_ok (n : Nat) : Ok Try.prog d___sutureref1_Reader__number (m___sutureref1_Reader__number n) := fnOk0 sound [⟨d___sutureref1_Reader__fail, m___sutureref1_Reader__fail n, m___sutureref1_Reader__fail_ok n⟩] Try.func39 (by kernel_rfl) (fun a => by kernel_rfl)


/-! (*suture/sutureref1.Reader).word -/
def m___sutureref1_Reader__word (n : Nat) (a0 : ByteArray) (a1 : List T) (a2 : Int) (a3 : Bool) (a4 : Int) : Option (Bool × (List T) × Int × Bool × Int) :=
Option.bind (idx ((!a3)) [.int .i64, .str, .int .i64, .int .i64] a1 a2) fun y0 =>
Option.bind (idx ((bif (!a3) then (((y0.cell 0).int : Int) == 1) else false)) [.int .i64, .str, .int .i64, .int .i64] a1 a2) fun y1 =>
some ((bif (bif (!a3) then (((y0.cell 0).int : Int) == 1) else false) then (ByteArray.toList (y1.cell 1).str == ByteArray.toList a0) else false), a1, a2, a3, a4)
def d___sutureref1_Reader__word : FnF := ⟨40, [.ptr 0 0, .str, .box 4, .list, .int .i64, .bool, .int .i64], [.bool, .box 4, .list, .int .i64, .bool, .int .i64]⟩
theorem m___sutureref1_Reader__word_ok (n : Nat) : Ok Try.prog d___sutureref1_Reader__word (m___sutureref1_Reader__word n) := fnOk0 sound [] Try.func40 (by kernel_rfl) (fun a => by kernel_rfl)


/-! (*suture/sutureref1.Reader).sign -/
def m___sutureref1_Reader__sign (n : Nat) (a0 : ByteArray) (a1 : List T) (a2 : Int) (a3 : Bool) (a4 : Int) : Option (Bool × (List T) × Int × Bool × Int) :=
Option.bind (idx ((!a3)) [.int .i64, .str, .int .i64, .int .i64] a1 a2) fun y0 =>
Option.bind (idx ((bif (!a3) then (((y0.cell 0).int : Int) == 3) else false)) [.int .i64, .str, .int .i64, .int .i64] a1 a2) fun y1 =>
some ((bif (bif (!a3) then (((y0.cell 0).int : Int) == 3) else false) then (ByteArray.toList (y1.cell 1).str == ByteArray.toList a0) else false), a1, a2, a3, a4)
def d___sutureref1_Reader__sign : FnF := ⟨54, [.ptr 0 0, .str, .box 4, .list, .int .i64, .bool, .int .i64], [.bool, .box 4, .list, .int .i64, .bool, .int .i64]⟩
theorem m___sutureref1_Reader__sign_ok (n : Nat) : Ok Try.prog d___sutureref1_Reader__sign (m___sutureref1_Reader__sign n) := fnOk0 sound [] Try.func54 (by kernel_rfl) (fun a => by kernel_rfl)


/-! (*suture/sutureref1.Reader).must -/
def m___sutureref1_Reader__must (n : Nat) (a0 : ByteArray) (a1 : List T) (a2 : Int) (a3 : Bool) (a4 : Int) : Option ((List T) × Int × Bool × Int) :=
Option.bind (m___sutureref1_Reader__sign n a0 a1 a2 a3 a4) fun r0 =>
bif (!r0.1) then (
Option.bind (m___sutureref1_Reader__fail n r0.2.1 r0.2.2.1 r0.2.2.2.1 r0.2.2.2.2) fun r1 =>
some (r1.1, r1.2.1, r1.2.2.1, r1.2.2.2))
else (
some (r0.2.1, (IntKind.wrap .i64 (r0.2.2.1 + 1)), r0.2.2.2.1, r0.2.2.2.2))
def d___sutureref1_Reader__must : FnF := ⟨53, [.ptr 0 0, .str, .box 4, .list, .int .i64, .bool, .int .i64], [.tup 0, .box 4, .list, .int .i64, .bool, .int .i64]⟩
theorem m___sutureref1_Reader__must_ok (n : Nat) : Ok Try.prog d___sutureref1_Reader__must (m___sutureref1_Reader__must n) := fnOk0 sound [⟨d___sutureref1_Reader__sign, m___sutureref1_Reader__sign n, m___sutureref1_Reader__sign_ok n⟩, ⟨d___sutureref1_Reader__fail, m___sutureref1_Reader__fail n, m___sutureref1_Reader__fail_ok n⟩] Try.func53 (by kernel_rfl) (fun a => by kernel_rfl)


/-! suture/sutureref1.binary -/
def m_sutureref1_binary (n : Nat) (a0 : Int) (a1 : Int) (a2 : Int) (a3 : ByteArray) (a4 : List T) (a5 : Int) (a6 : Int) (a7 : ByteArray) (a8 : List T) : Option (Int × Int × ByteArray × (List T)) :=
some (a0, 0, (⟨#[]⟩ : ByteArray), [(T.agg [(T.sc (.int .i64 a1)), (T.sc (.int .i64 a2)), (T.sc (.string a3)), (T.list a4)]), (T.agg [(T.sc (.int .i64 a5)), (T.sc (.int .i64 a6)), (T.sc (.string a7)), (T.list a8)])])
def d_sutureref1_binary : FnF := ⟨63, [.int .i64, .agg 4, .int .i64, .int .i64, .str, .list, .agg 4, .int .i64, .int .i64, .str, .list], [.agg 4, .int .i64, .int .i64, .str, .list]⟩
theorem m_sutureref1_binary_ok (n : Nat) : Ok Try.prog d_sutureref1_binary (m_sutureref1_binary n) := fnOk0 sound [] Try.func63 (by kernel_rfl) (fun a => by kernel_rfl)


/-! __sutureref1_Reader__expr, __sutureref1_Reader__sum, __sutureref1_Reader__term, __sutureref1_Reader__factor: a circle -/
structure B___sutureref1_Reader__expr where
  __sutureref1_Reader__expr : Int → List T → Int → Bool → Int → Option (Int × Int × ByteArray × (List T) × (List T) × Int × Bool × Int)
  __sutureref1_Reader__sum : Int → List T → Int → Bool → Int → Option (Int × Int × ByteArray × (List T) × (List T) × Int × Bool × Int)
  __sutureref1_Reader__term : Int → List T → Int → Bool → Int → Option (Int × Int × ByteArray × (List T) × (List T) × Int × Bool × Int)
  __sutureref1_Reader__factor : Int → List T → Int → Bool → Int → Option (Int × Int × ByteArray × (List T) × (List T) × Int × Bool × Int)
def d___sutureref1_Reader__expr : FnF := ⟨61, [.ptr 0 0, .int .i64, .box 4, .list, .int .i64, .bool, .int .i64], [.agg 4, .int .i64, .int .i64, .str, .list, .box 4, .list, .int .i64, .bool, .int .i64]⟩
def d___sutureref1_Reader__sum : FnF := ⟨62, [.ptr 0 0, .int .i64, .box 4, .list, .int .i64, .bool, .int .i64], [.agg 4, .int .i64, .int .i64, .str, .list, .box 4, .list, .int .i64, .bool, .int .i64]⟩
def d___sutureref1_Reader__term : FnF := ⟨64, [.ptr 0 0, .int .i64, .box 4, .list, .int .i64, .bool, .int .i64], [.agg 4, .int .i64, .int .i64, .str, .list, .box 4, .list, .int .i64, .bool, .int .i64]⟩
def d___sutureref1_Reader__factor : FnF := ⟨65, [.ptr 0 0, .int .i64, .box 4, .list, .int .i64, .bool, .int .i64], [.agg 4, .int .i64, .int .i64, .str, .list, .box 4, .list, .int .i64, .bool, .int .i64]⟩
structure B___sutureref1_Reader__expr_ok (b : B___sutureref1_Reader__expr) : Prop where
  __sutureref1_Reader__expr : Ok Try.prog d___sutureref1_Reader__expr b.__sutureref1_Reader__expr
  __sutureref1_Reader__sum : Ok Try.prog d___sutureref1_Reader__sum b.__sutureref1_Reader__sum
  __sutureref1_Reader__term : Ok Try.prog d___sutureref1_Reader__term b.__sutureref1_Reader__term
  __sutureref1_Reader__factor : Ok Try.prog d___sutureref1_Reader__factor b.__sutureref1_Reader__factor

/-! (*suture/sutureref1.Reader).expr -/
def f___sutureref1_Reader__expr (b : B___sutureref1_Reader__expr) (n : Nat) (a0 : Int) (a1 : List T) (a2 : Int) (a3 : Bool) (a4 : Int) : Option (Int × Int × ByteArray × (List T) × (List T) × Int × Bool × Int) :=
Option.bind (b.__sutureref1_Reader__sum a0 a1 a2 a3 a4) fun r0 =>
Option.bind (m___sutureref1_Reader__sign n (⟨#[60]⟩ : ByteArray) r0.2.2.2.2.1 r0.2.2.2.2.2.1 r0.2.2.2.2.2.2.1 r0.2.2.2.2.2.2.2) fun r1 =>
bif r1.1 then (
bif ((9 : Int) == 0) then (
some (r0.1, r0.2.1, r0.2.2.1, r0.2.2.2.1, r1.2.1, r1.2.2.1, r1.2.2.2.1, r1.2.2.2.2))
else (
Option.bind (b.__sutureref1_Reader__sum a0 r1.2.1 (IntKind.wrap .i64 (r1.2.2.1 + 1)) r1.2.2.2.1 r1.2.2.2.2) fun r2 =>
Option.bind (m_sutureref1_binary n 9 r0.1 r0.2.1 r0.2.2.1 r0.2.2.2.1 r2.1 r2.2.1 r2.2.2.1 r2.2.2.2.1) fun r3 =>
some (r3.1, r3.2.1, r3.2.2.1, r3.2.2.2, r2.2.2.2.2.1, r2.2.2.2.2.2.1, r2.2.2.2.2.2.2.1, r2.2.2.2.2.2.2.2)))
else (
Option.bind (m___sutureref1_Reader__sign n (⟨#[61, 61]⟩ : ByteArray) r1.2.1 r1.2.2.1 r1.2.2.2.1 r1.2.2.2.2) fun r4 =>
bif r4.1 then (
bif ((10 : Int) == 0) then (
some (r0.1, r0.2.1, r0.2.2.1, r0.2.2.2.1, r4.2.1, r4.2.2.1, r4.2.2.2.1, r4.2.2.2.2))
else (
Option.bind (b.__sutureref1_Reader__sum a0 r4.2.1 (IntKind.wrap .i64 (r4.2.2.1 + 1)) r4.2.2.2.1 r4.2.2.2.2) fun r5 =>
Option.bind (m_sutureref1_binary n 10 r0.1 r0.2.1 r0.2.2.1 r0.2.2.2.1 r5.1 r5.2.1 r5.2.2.1 r5.2.2.2.1) fun r6 =>
some (r6.1, r6.2.1, r6.2.2.1, r6.2.2.2, r5.2.2.2.2.1, r5.2.2.2.2.2.1, r5.2.2.2.2.2.2.1, r5.2.2.2.2.2.2.2)))
else (
bif ((0 : Int) == 0) then (
some (r0.1, r0.2.1, r0.2.2.1, r0.2.2.2.1, r4.2.1, r4.2.2.1, r4.2.2.2.1, r4.2.2.2.2))
else (
Option.bind (b.__sutureref1_Reader__sum a0 r4.2.1 (IntKind.wrap .i64 (r4.2.2.1 + 1)) r4.2.2.2.1 r4.2.2.2.2) fun r7 =>
Option.bind (m_sutureref1_binary n 0 r0.1 r0.2.1 r0.2.2.1 r0.2.2.2.1 r7.1 r7.2.1 r7.2.2.1 r7.2.2.2.1) fun r8 =>
some (r8.1, r8.2.1, r8.2.2.1, r8.2.2.2, r7.2.2.2.2.1, r7.2.2.2.2.2.1, r7.2.2.2.2.2.2.1, r7.2.2.2.2.2.2.2))))
theorem f___sutureref1_Reader__expr_ok (b : B___sutureref1_Reader__expr) (hb : B___sutureref1_Reader__expr_ok b) (n : Nat) : Ok Try.prog d___sutureref1_Reader__expr (f___sutureref1_Reader__expr b n) := fnOk0 sound [⟨d___sutureref1_Reader__sum, b.__sutureref1_Reader__sum, hb.__sutureref1_Reader__sum⟩, ⟨d___sutureref1_Reader__sign, m___sutureref1_Reader__sign n, m___sutureref1_Reader__sign_ok n⟩, ⟨d_sutureref1_binary, m_sutureref1_binary n, m_sutureref1_binary_ok n⟩] Try.func61 (by kernel_rfl) (fun a => by kernel_rfl)

/-! (*suture/sutureref1.Reader).sum -/
def l___sutureref1_Reader__sum_2_B (b : B___sutureref1_Reader__expr) (n : Nat) (k : Int × (List T) × Int × Bool × Int × Int × Int × ByteArray × (List T) × Int × Int × ByteArray × (List T) → Option ((List T) × Int × Bool × Int × Int × Int × ByteArray × (List T) × Int × Int × ByteArray × (List T))) : Int × (List T) × Int × Bool × Int × Int × Int × ByteArray × (List T) × Int × Int × ByteArray × (List T) → Option ((List T) × Int × Bool × Int × Int × Int × ByteArray × (List T) × Int × Int × ByteArray × (List T)) := fun (s0, s1, s2, s3, s4, s5, s6, s7, s8, s9, s10, s11, s12) =>
bif (!s3) then (
Option.bind (m___sutureref1_Reader__sign n (⟨#[43]⟩ : ByteArray) s1 s2 s3 s4) fun r1 =>
bif r1.1 then (
bif ((4 : Int) == 0) then (
some (r1.2.1, r1.2.2.1, r1.2.2.2.1, r1.2.2.2.2, s5, s6, s7, s8, s9, s10, s11, s12))
else (
Option.bind (b.__sutureref1_Reader__term s0 r1.2.1 (IntKind.wrap .i64 (r1.2.2.1 + 1)) r1.2.2.2.1 r1.2.2.2.2) fun r2 =>
Option.bind (m_sutureref1_binary n 4 s9 s10 s11 s12 r2.1 r2.2.1 r2.2.2.1 r2.2.2.2.1) fun r3 =>
k (s0, r2.2.2.2.2.1, r2.2.2.2.2.2.1, r2.2.2.2.2.2.2.1, r2.2.2.2.2.2.2.2, s5, s6, s7, s8, r3.1, r3.2.1, r3.2.2.1, r3.2.2.2)))
else (
Option.bind (m___sutureref1_Reader__sign n (⟨#[45]⟩ : ByteArray) r1.2.1 r1.2.2.1 r1.2.2.2.1 r1.2.2.2.2) fun r4 =>
bif r4.1 then (
bif ((5 : Int) == 0) then (
some (r4.2.1, r4.2.2.1, r4.2.2.2.1, r4.2.2.2.2, s5, s6, s7, s8, s9, s10, s11, s12))
else (
Option.bind (b.__sutureref1_Reader__term s0 r4.2.1 (IntKind.wrap .i64 (r4.2.2.1 + 1)) r4.2.2.2.1 r4.2.2.2.2) fun r5 =>
Option.bind (m_sutureref1_binary n 5 s9 s10 s11 s12 r5.1 r5.2.1 r5.2.2.1 r5.2.2.2.1) fun r6 =>
k (s0, r5.2.2.2.2.1, r5.2.2.2.2.2.1, r5.2.2.2.2.2.2.1, r5.2.2.2.2.2.2.2, s5, s6, s7, s8, r6.1, r6.2.1, r6.2.2.1, r6.2.2.2)))
else (
bif ((0 : Int) == 0) then (
some (r4.2.1, r4.2.2.1, r4.2.2.2.1, r4.2.2.2.2, s5, s6, s7, s8, s9, s10, s11, s12))
else (
Option.bind (b.__sutureref1_Reader__term s0 r4.2.1 (IntKind.wrap .i64 (r4.2.2.1 + 1)) r4.2.2.2.1 r4.2.2.2.2) fun r7 =>
Option.bind (m_sutureref1_binary n 0 s9 s10 s11 s12 r7.1 r7.2.1 r7.2.2.1 r7.2.2.2.1) fun r8 =>
k (s0, r7.2.2.2.2.1, r7.2.2.2.2.2.1, r7.2.2.2.2.2.2.1, r7.2.2.2.2.2.2.2, s5, s6, s7, s8, r8.1, r8.2.1, r8.2.2.1, r8.2.2.2)))))
else (
some (s1, s2, s3, s4, s5, s6, s7, s8, s9, s10, s11, s12))
def l___sutureref1_Reader__sum_2 (b : B___sutureref1_Reader__expr) (n : Nat) : Nat → Int × (List T) × Int × Bool × Int × Int × Int × ByteArray × (List T) × Int × Int × ByteArray × (List T) → Option ((List T) × Int × Bool × Int × Int × Int × ByteArray × (List T) × Int × Int × ByteArray × (List T))
  | 0, _ => none
  | m + 1, s => l___sutureref1_Reader__sum_2_B b n (l___sutureref1_Reader__sum_2 b n m) s
def f___sutureref1_Reader__sum (b : B___sutureref1_Reader__expr) (n : Nat) (a0 : Int) (a1 : List T) (a2 : Int) (a3 : Bool) (a4 : Int) : Option (Int × Int × ByteArray × (List T) × (List T) × Int × Bool × Int) :=
Option.bind (b.__sutureref1_Reader__term a0 a1 a2 a3 a4) fun r0 =>
Option.bind (l___sutureref1_Reader__sum_2 b n n (a0, r0.2.2.2.2.1, r0.2.2.2.2.2.1, r0.2.2.2.2.2.2.1, r0.2.2.2.2.2.2.2, 0, 0, (⟨#[]⟩ : ByteArray), ([] : List T), r0.1, r0.2.1, r0.2.2.1, r0.2.2.2.1)) fun p10 =>
some (p10.2.2.2.2.2.2.2.2.1, p10.2.2.2.2.2.2.2.2.2.1, p10.2.2.2.2.2.2.2.2.2.2.1, p10.2.2.2.2.2.2.2.2.2.2.2, p10.1, p10.2.1, p10.2.2.1, p10.2.2.2.1)
def cs___sutureref1_Reader__sum (b : B___sutureref1_Reader__expr) (hb : B___sutureref1_Reader__expr_ok b) (n : Nat) : List (CalF Try.prog) := [⟨d___sutureref1_Reader__term, b.__sutureref1_Reader__term, hb.__sutureref1_Reader__term⟩, ⟨d___sutureref1_Reader__sign, m___sutureref1_Reader__sign n, m___sutureref1_Reader__sign_ok n⟩, ⟨d_sutureref1_binary, m_sutureref1_binary n, m_sutureref1_binary_ok n⟩]
def L_l___sutureref1_Reader__sum_2 : LF := ⟨2, [0, 1, 4, 5], [.ptr 0 0, .int .i64, .ptr 1 0, .ptr 2 0, .box 4, .list, .int .i64, .bool, .int .i64, .box 4, .int .i64, .int .i64, .str, .own 0, .box 4, .int .i64, .int .i64, .str, .list], [⟨(.exit 0), [4, 5], [.ptr 1 0, .ptr 2 0, .box 4, .list, .int .i64, .bool, .int .i64, .box 4, .int .i64, .int .i64, .str, .own 0, .box 4, .int .i64, .int .i64, .str, .list]⟩]⟩
def ls___sutureref1_Reader__sum (b : B___sutureref1_Reader__expr) (n : Nat) : List LE := [⟨2, loopS L_l___sutureref1_Reader__sum_2 (l___sutureref1_Reader__sum_2 b n n)⟩]
theorem l___sutureref1_Reader__sum_2_ok (b : B___sutureref1_Reader__expr) (hb : B___sutureref1_Reader__expr_ok b) (n : Nat) : LoopOk Try.prog (mkSpec (cs___sutureref1_Reader__sum b hb n) (ls___sutureref1_Reader__sum b n)) 1 37 (loopAt Try.f62 0) := loopOk (L := L_l___sutureref1_Reader__sum_2) (f := l___sutureref1_Reader__sum_2 b n) (B := l___sutureref1_Reader__sum_2_B b n) (k := n) (loopAt_ok sound Try.func62 (by kernel_rfl)) (inner (by kernel_rfl) allN) (innerS (by kernel_rfl) allN) (fun _ => rfl) (fun _ _ => rfl) (by kernel_rfl) (fun _ => by kernel_rfl) (by kernel_rfl) (fun k a => by kernel_rfl)
theorem f___sutureref1_Reader__sum_ok (b : B___sutureref1_Reader__expr) (hb : B___sutureref1_Reader__expr_ok b) (n : Nat) : Ok Try.prog d___sutureref1_Reader__sum (f___sutureref1_Reader__sum b n) := fnOk sound (cs := cs___sutureref1_Reader__sum b hb n) (ls := ls___sutureref1_Reader__sum b n) (n := 37) Try.func62 (by kernel_rfl) (fun _ => by kernel_rfl) (inner (by kernel_rfl) (allC (l___sutureref1_Reader__sum_2_ok b hb n) allN)) (innerS (by kernel_rfl) allN) (by kernel_rfl) (fun a => by kernel_rfl)

/-! (*suture/sutureref1.Reader).term -/
def l___sutureref1_Reader__term_2_B (b : B___sutureref1_Reader__expr) (n : Nat) (k : Int × (List T) × Int × Bool × Int × Int × Int × ByteArray × (List T) × Int × Int × ByteArray × (List T) → Option ((List T) × Int × Bool × Int × Int × Int × ByteArray × (List T) × Int × Int × ByteArray × (List T))) : Int × (List T) × Int × Bool × Int × Int × Int × ByteArray × (List T) × Int × Int × ByteArray × (List T) → Option ((List T) × Int × Bool × Int × Int × Int × ByteArray × (List T) × Int × Int × ByteArray × (List T)) := fun (s0, s1, s2, s3, s4, s5, s6, s7, s8, s9, s10, s11, s12) =>
bif (!s3) then (
Option.bind (m___sutureref1_Reader__sign n (⟨#[42]⟩ : ByteArray) s1 s2 s3 s4) fun r1 =>
bif r1.1 then (
bif ((6 : Int) == 0) then (
some (r1.2.1, r1.2.2.1, r1.2.2.2.1, r1.2.2.2.2, s5, s6, s7, s8, s9, s10, s11, s12))
else (
Option.bind (b.__sutureref1_Reader__factor s0 r1.2.1 (IntKind.wrap .i64 (r1.2.2.1 + 1)) r1.2.2.2.1 r1.2.2.2.2) fun r2 =>
Option.bind (m_sutureref1_binary n 6 s9 s10 s11 s12 r2.1 r2.2.1 r2.2.2.1 r2.2.2.2.1) fun r3 =>
k (s0, r2.2.2.2.2.1, r2.2.2.2.2.2.1, r2.2.2.2.2.2.2.1, r2.2.2.2.2.2.2.2, s5, s6, s7, s8, r3.1, r3.2.1, r3.2.2.1, r3.2.2.2)))
else (
Option.bind (m___sutureref1_Reader__sign n (⟨#[47]⟩ : ByteArray) r1.2.1 r1.2.2.1 r1.2.2.2.1 r1.2.2.2.2) fun r4 =>
bif r4.1 then (
bif ((7 : Int) == 0) then (
some (r4.2.1, r4.2.2.1, r4.2.2.2.1, r4.2.2.2.2, s5, s6, s7, s8, s9, s10, s11, s12))
else (
Option.bind (b.__sutureref1_Reader__factor s0 r4.2.1 (IntKind.wrap .i64 (r4.2.2.1 + 1)) r4.2.2.2.1 r4.2.2.2.2) fun r5 =>
Option.bind (m_sutureref1_binary n 7 s9 s10 s11 s12 r5.1 r5.2.1 r5.2.2.1 r5.2.2.2.1) fun r6 =>
k (s0, r5.2.2.2.2.1, r5.2.2.2.2.2.1, r5.2.2.2.2.2.2.1, r5.2.2.2.2.2.2.2, s5, s6, s7, s8, r6.1, r6.2.1, r6.2.2.1, r6.2.2.2)))
else (
Option.bind (m___sutureref1_Reader__sign n (⟨#[37]⟩ : ByteArray) r4.2.1 r4.2.2.1 r4.2.2.2.1 r4.2.2.2.2) fun r7 =>
bif r7.1 then (
bif ((8 : Int) == 0) then (
some (r7.2.1, r7.2.2.1, r7.2.2.2.1, r7.2.2.2.2, s5, s6, s7, s8, s9, s10, s11, s12))
else (
Option.bind (b.__sutureref1_Reader__factor s0 r7.2.1 (IntKind.wrap .i64 (r7.2.2.1 + 1)) r7.2.2.2.1 r7.2.2.2.2) fun r8 =>
Option.bind (m_sutureref1_binary n 8 s9 s10 s11 s12 r8.1 r8.2.1 r8.2.2.1 r8.2.2.2.1) fun r9 =>
k (s0, r8.2.2.2.2.1, r8.2.2.2.2.2.1, r8.2.2.2.2.2.2.1, r8.2.2.2.2.2.2.2, s5, s6, s7, s8, r9.1, r9.2.1, r9.2.2.1, r9.2.2.2)))
else (
bif ((0 : Int) == 0) then (
some (r7.2.1, r7.2.2.1, r7.2.2.2.1, r7.2.2.2.2, s5, s6, s7, s8, s9, s10, s11, s12))
else (
Option.bind (b.__sutureref1_Reader__factor s0 r7.2.1 (IntKind.wrap .i64 (r7.2.2.1 + 1)) r7.2.2.2.1 r7.2.2.2.2) fun r10 =>
Option.bind (m_sutureref1_binary n 0 s9 s10 s11 s12 r10.1 r10.2.1 r10.2.2.1 r10.2.2.2.1) fun r11 =>
k (s0, r10.2.2.2.2.1, r10.2.2.2.2.2.1, r10.2.2.2.2.2.2.1, r10.2.2.2.2.2.2.2, s5, s6, s7, s8, r11.1, r11.2.1, r11.2.2.1, r11.2.2.2))))))
else (
some (s1, s2, s3, s4, s5, s6, s7, s8, s9, s10, s11, s12))
def l___sutureref1_Reader__term_2 (b : B___sutureref1_Reader__expr) (n : Nat) : Nat → Int × (List T) × Int × Bool × Int × Int × Int × ByteArray × (List T) × Int × Int × ByteArray × (List T) → Option ((List T) × Int × Bool × Int × Int × Int × ByteArray × (List T) × Int × Int × ByteArray × (List T))
  | 0, _ => none
  | m + 1, s => l___sutureref1_Reader__term_2_B b n (l___sutureref1_Reader__term_2 b n m) s
def f___sutureref1_Reader__term (b : B___sutureref1_Reader__expr) (n : Nat) (a0 : Int) (a1 : List T) (a2 : Int) (a3 : Bool) (a4 : Int) : Option (Int × Int × ByteArray × (List T) × (List T) × Int × Bool × Int) :=
Option.bind (b.__sutureref1_Reader__factor a0 a1 a2 a3 a4) fun r0 =>
Option.bind (l___sutureref1_Reader__term_2 b n n (a0, r0.2.2.2.2.1, r0.2.2.2.2.2.1, r0.2.2.2.2.2.2.1, r0.2.2.2.2.2.2.2, 0, 0, (⟨#[]⟩ : ByteArray), ([] : List T), r0.1, r0.2.1, r0.2.2.1, r0.2.2.2.1)) fun p13 =>
some (p13.2.2.2.2.2.2.2.2.1, p13.2.2.2.2.2.2.2.2.2.1, p13.2.2.2.2.2.2.2.2.2.2.1, p13.2.2.2.2.2.2.2.2.2.2.2, p13.1, p13.2.1, p13.2.2.1, p13.2.2.2.1)
def cs___sutureref1_Reader__term (b : B___sutureref1_Reader__expr) (hb : B___sutureref1_Reader__expr_ok b) (n : Nat) : List (CalF Try.prog) := [⟨d___sutureref1_Reader__factor, b.__sutureref1_Reader__factor, hb.__sutureref1_Reader__factor⟩, ⟨d___sutureref1_Reader__sign, m___sutureref1_Reader__sign n, m___sutureref1_Reader__sign_ok n⟩, ⟨d_sutureref1_binary, m_sutureref1_binary n, m_sutureref1_binary_ok n⟩]
def L_l___sutureref1_Reader__term_2 : LF := ⟨2, [0, 1, 4, 5], [.ptr 0 0, .int .i64, .ptr 1 0, .ptr 2 0, .box 4, .list, .int .i64, .bool, .int .i64, .box 4, .int .i64, .int .i64, .str, .own 0, .box 4, .int .i64, .int .i64, .str, .list], [⟨(.exit 0), [4, 5], [.ptr 1 0, .ptr 2 0, .box 4, .list, .int .i64, .bool, .int .i64, .box 4, .int .i64, .int .i64, .str, .own 0, .box 4, .int .i64, .int .i64, .str, .list]⟩]⟩
def ls___sutureref1_Reader__term (b : B___sutureref1_Reader__expr) (n : Nat) : List LE := [⟨2, loopS L_l___sutureref1_Reader__term_2 (l___sutureref1_Reader__term_2 b n n)⟩]
theorem l___sutureref1_Reader__term_2_ok (b : B___sutureref1_Reader__expr) (hb : B___sutureref1_Reader__expr_ok b) (n : Nat) : LoopOk Try.prog (mkSpec (cs___sutureref1_Reader__term b hb n) (ls___sutureref1_Reader__term b n)) 1 40 (loopAt Try.f64 0) := loopOk (L := L_l___sutureref1_Reader__term_2) (f := l___sutureref1_Reader__term_2 b n) (B := l___sutureref1_Reader__term_2_B b n) (k := n) (loopAt_ok sound Try.func64 (by kernel_rfl)) (inner (by kernel_rfl) allN) (innerS (by kernel_rfl) allN) (fun _ => rfl) (fun _ _ => rfl) (by kernel_rfl) (fun _ => by kernel_rfl) (by kernel_rfl) (fun k a => by kernel_rfl)
theorem f___sutureref1_Reader__term_ok (b : B___sutureref1_Reader__expr) (hb : B___sutureref1_Reader__expr_ok b) (n : Nat) : Ok Try.prog d___sutureref1_Reader__term (f___sutureref1_Reader__term b n) := fnOk sound (cs := cs___sutureref1_Reader__term b hb n) (ls := ls___sutureref1_Reader__term b n) (n := 40) Try.func64 (by kernel_rfl) (fun _ => by kernel_rfl) (inner (by kernel_rfl) (allC (l___sutureref1_Reader__term_2_ok b hb n) allN)) (innerS (by kernel_rfl) allN) (by kernel_rfl) (fun a => by kernel_rfl)

/-! (*suture/sutureref1.Reader).factor -/
def f___sutureref1_Reader__factor (b : B___sutureref1_Reader__expr) (n : Nat) (a0 : Int) (a1 : List T) (a2 : Int) (a3 : Bool) (a4 : Int) : Option (Int × Int × ByteArray × (List T) × (List T) × Int × Bool × Int) :=
bif a3 then (
some (0, 0, (⟨#[]⟩ : ByteArray), ([] : List T), a1, a2, a3, a4))
else (
Option.bind (idx true [.int .i64, .str, .int .i64, .int .i64] a1 a2) fun y0 =>
bif (((y0.cell 0).int : Int) == 2) then (
some (1, (y0.cell 2).int, (⟨#[]⟩ : ByteArray), ([] : List T), a1, (IntKind.wrap .i64 (a2 + 1)), a3, a4))
else (
Option.bind (bif (((y0.cell 0).int : Int) == 1) then m_sutureref1_Keyword n (y0.cell 1).str else some false) fun r1 =>
bif (bif (((y0.cell 0).int : Int) == 1) then (!r1) else false) then (
some (2, 0, (y0.cell 1).str, ([] : List T), a1, (IntKind.wrap .i64 (a2 + 1)), a3, a4))
else (
Option.bind (m___sutureref1_Reader__sign n (⟨#[45]⟩ : ByteArray) a1 a2 a3 a4) fun r2 =>
bif (bif r2.1 then (decide ((a0 : Int) < 8)) else false) then (
Option.bind (b.__sutureref1_Reader__factor (IntKind.wrap .i64 (a0 + 1)) r2.2.1 (IntKind.wrap .i64 (r2.2.2.1 + 1)) r2.2.2.2.1 r2.2.2.2.2) fun r3 =>
some (3, 0, (⟨#[]⟩ : ByteArray), [(T.agg [(T.sc (.int .i64 r3.1)), (T.sc (.int .i64 r3.2.1)), (T.sc (.string r3.2.2.1)), (T.list r3.2.2.2.1)])], r3.2.2.2.2.1, r3.2.2.2.2.2.1, r3.2.2.2.2.2.2.1, r3.2.2.2.2.2.2.2))
else (
Option.bind (m___sutureref1_Reader__sign n (⟨#[40]⟩ : ByteArray) r2.2.1 r2.2.2.1 r2.2.2.2.1 r2.2.2.2.2) fun r4 =>
bif (bif r4.1 then (decide ((a0 : Int) < 8)) else false) then (
Option.bind (b.__sutureref1_Reader__expr (IntKind.wrap .i64 (a0 + 1)) r4.2.1 (IntKind.wrap .i64 (r4.2.2.1 + 1)) r4.2.2.2.1 r4.2.2.2.2) fun r5 =>
Option.bind (m___sutureref1_Reader__must n (⟨#[41]⟩ : ByteArray) r5.2.2.2.2.1 r5.2.2.2.2.2.1 r5.2.2.2.2.2.2.1 r5.2.2.2.2.2.2.2) fun r6 =>
some (r5.1, r5.2.1, r5.2.2.1, r5.2.2.2.1, r6.1, r6.2.1, r6.2.2.1, r6.2.2.2))
else (
Option.bind (m___sutureref1_Reader__fail n r4.2.1 r4.2.2.1 r4.2.2.2.1 r4.2.2.2.2) fun r7 =>
some (0, 0, (⟨#[]⟩ : ByteArray), ([] : List T), r7.1, r7.2.1, r7.2.2.1, r7.2.2.2))))))
theorem f___sutureref1_Reader__factor_ok (b : B___sutureref1_Reader__expr) (hb : B___sutureref1_Reader__expr_ok b) (n : Nat) : Ok Try.prog d___sutureref1_Reader__factor (f___sutureref1_Reader__factor b n) := fnOk0 sound [⟨d_sutureref1_Keyword, m_sutureref1_Keyword n, m_sutureref1_Keyword_ok n⟩, ⟨d___sutureref1_Reader__sign, m___sutureref1_Reader__sign n, m___sutureref1_Reader__sign_ok n⟩, ⟨d___sutureref1_Reader__factor, b.__sutureref1_Reader__factor, hb.__sutureref1_Reader__factor⟩, ⟨d___sutureref1_Reader__expr, b.__sutureref1_Reader__expr, hb.__sutureref1_Reader__expr⟩, ⟨d___sutureref1_Reader__must, m___sutureref1_Reader__must n, m___sutureref1_Reader__must_ok n⟩, ⟨d___sutureref1_Reader__fail, m___sutureref1_Reader__fail n, m___sutureref1_Reader__fail_ok n⟩] Try.func65 (by kernel_rfl) (fun a => by kernel_rfl)
def unB___sutureref1_Reader__expr (n : Nat) : Nat → B___sutureref1_Reader__expr
  | 0 => { __sutureref1_Reader__expr := fun _ _ _ _ _ => none, __sutureref1_Reader__sum := fun _ _ _ _ _ => none, __sutureref1_Reader__term := fun _ _ _ _ _ => none, __sutureref1_Reader__factor := fun _ _ _ _ _ => none }
  | m + 1 => { __sutureref1_Reader__expr := f___sutureref1_Reader__expr (unB___sutureref1_Reader__expr n m) n, __sutureref1_Reader__sum := f___sutureref1_Reader__sum (unB___sutureref1_Reader__expr n m) n, __sutureref1_Reader__term := f___sutureref1_Reader__term (unB___sutureref1_Reader__expr n m) n, __sutureref1_Reader__factor := f___sutureref1_Reader__factor (unB___sutureref1_Reader__expr n m) n }
theorem unB___sutureref1_Reader__expr_ok (n : Nat) : ∀ m, B___sutureref1_Reader__expr_ok (unB___sutureref1_Reader__expr n m)
  | 0 => { __sutureref1_Reader__expr := fun _ _ h => (nomatch (show none = some _ from h)), __sutureref1_Reader__sum := fun _ _ h => (nomatch (show none = some _ from h)), __sutureref1_Reader__term := fun _ _ h => (nomatch (show none = some _ from h)), __sutureref1_Reader__factor := fun _ _ h => (nomatch (show none = some _ from h)) }
  | m + 1 => { __sutureref1_Reader__expr := f___sutureref1_Reader__expr_ok _ (unB___sutureref1_Reader__expr_ok n m) n, __sutureref1_Reader__sum := f___sutureref1_Reader__sum_ok _ (unB___sutureref1_Reader__expr_ok n m) n, __sutureref1_Reader__term := f___sutureref1_Reader__term_ok _ (unB___sutureref1_Reader__expr_ok n m) n, __sutureref1_Reader__factor := f___sutureref1_Reader__factor_ok _ (unB___sutureref1_Reader__expr_ok n m) n }
def m___sutureref1_Reader__expr (n : Nat) : Int → List T → Int → Bool → Int → Option (Int × Int × ByteArray × (List T) × (List T) × Int × Bool × Int) := (unB___sutureref1_Reader__expr n n).__sutureref1_Reader__expr
theorem m___sutureref1_Reader__expr_ok (n : Nat) : Ok Try.prog d___sutureref1_Reader__expr (m___sutureref1_Reader__expr n) := (unB___sutureref1_Reader__expr_ok n n).__sutureref1_Reader__expr
def m___sutureref1_Reader__sum (n : Nat) : Int → List T → Int → Bool → Int → Option (Int × Int × ByteArray × (List T) × (List T) × Int × Bool × Int) := (unB___sutureref1_Reader__expr n n).__sutureref1_Reader__sum
theorem m___sutureref1_Reader__sum_ok (n : Nat) : Ok Try.prog d___sutureref1_Reader__sum (m___sutureref1_Reader__sum n) := (unB___sutureref1_Reader__expr_ok n n).__sutureref1_Reader__sum
def m___sutureref1_Reader__term (n : Nat) : Int → List T → Int → Bool → Int → Option (Int × Int × ByteArray × (List T) × (List T) × Int × Bool × Int) := (unB___sutureref1_Reader__expr n n).__sutureref1_Reader__term
theorem m___sutureref1_Reader__term_ok (n : Nat) : Ok Try.prog d___sutureref1_Reader__term (m___sutureref1_Reader__term n) := (unB___sutureref1_Reader__expr_ok n n).__sutureref1_Reader__term
def m___sutureref1_Reader__factor (n : Nat) : Int → List T → Int → Bool → Int → Option (Int × Int × ByteArray × (List T) × (List T) × Int × Bool × Int) := (unB___sutureref1_Reader__expr n n).__sutureref1_Reader__factor
theorem m___sutureref1_Reader__factor_ok (n : Nat) : Ok Try.prog d___sutureref1_Reader__factor (m___sutureref1_Reader__factor n) := (unB___sutureref1_Reader__expr_ok n n).__sutureref1_Reader__factor


/-! (*suture/sutureref1.Reader).whole -/
def m___sutureref1_Reader__whole (n : Nat) (a0 : ByteArray) (a1 : List T) (a2 : Int) (a3 : Bool) (a4 : Int) : Option (Int × Int × ByteArray × (List T) × (List T) × Int × Bool × Int) :=
bif (!a3) then (
Option.bind (m___sutureref1_Reader__expr n 0 a1 a2 a3 a4) fun r0 =>
some (r0.1, r0.2.1, r0.2.2.1, r0.2.2.2.1, r0.2.2.2.2.1, r0.2.2.2.2.2.1, r0.2.2.2.2.2.2.1, r0.2.2.2.2.2.2.2))
else (
some (0, 0, (⟨#[]⟩ : ByteArray), ([] : List T), a1, a2, a3, a4))
def d___sutureref1_Reader__whole : FnF := ⟨60, [.ptr 0 0, .str, .box 4, .list, .int .i64, .bool, .int .i64], [.agg 4, .int .i64, .int .i64, .str, .list, .box 4, .list, .int .i64, .bool, .int .i64]⟩
theorem m___sutureref1_Reader__whole_ok (n : Nat) : Ok Try.prog d___sutureref1_Reader__whole (m___sutureref1_Reader__whole n) := fnOk0 sound [⟨d___sutureref1_Reader__expr, m___sutureref1_Reader__expr n, m___sutureref1_Reader__expr_ok n⟩] Try.func60 (by kernel_rfl) (fun a => by kernel_rfl)


/-! __sutureref1_Reader__block, __sutureref1_Reader__stmt: a circle -/
structure B___sutureref1_Reader__block where
  __sutureref1_Reader__block : ByteArray → Int → List T → Int → Bool → Int → Option ((List T) × (List T) × Int × Bool × Int)
  __sutureref1_Reader__stmt : ByteArray → Int → List T → Int → Bool → Int → Option (Int × ByteArray × ByteArray × Int × Int × Int × ByteArray × (List T) × (List T) × (List T) × (Nat × Nat) × (List T) × Int × Bool × Int)
def d___sutureref1_Reader__block : FnF := ⟨41, [.ptr 0 0, .str, .int .i64, .box 4, .list, .int .i64, .bool, .int .i64], [.own 11, .box 4, .list, .int .i64, .bool, .int .i64]⟩
def d___sutureref1_Reader__stmt : FnF := ⟨55, [.ptr 0 0, .str, .int .i64, .box 4, .list, .int .i64, .bool, .int .i64], [.agg 11, .int .i64, .str, .str, .int .i64, .int .i64, .int .i64, .str, .list, .list, .list, .cplx .f64, .box 4, .list, .int .i64, .bool, .int .i64]⟩
structure B___sutureref1_Reader__block_ok (b : B___sutureref1_Reader__block) : Prop where
  __sutureref1_Reader__block : Ok Try.prog d___sutureref1_Reader__block b.__sutureref1_Reader__block
  __sutureref1_Reader__stmt : Ok Try.prog d___sutureref1_Reader__stmt b.__sutureref1_Reader__stmt

/-! (*suture/sutureref1.Reader).block -/
def l___sutureref1_Reader__block_5_B (b : B___sutureref1_Reader__block) (n : Nat) (k : ByteArray × Int × (List T) × (List T) × Int × Bool × Int → Option ((List T) × (List T) × Int × Bool × Int)) : ByteArray × Int × (List T) × (List T) × Int × Bool × Int → Option ((List T) × (List T) × Int × Bool × Int) := fun (s0, s1, s2, s3, s4, s5, s6) =>
Option.bind (bif (!s5) then m___sutureref1_Reader__sign n (⟨#[125]⟩ : ByteArray) s3 s4 s5 s6 else some (false, [], 0, false, 0)) fun r2 =>
bif (bif (!s5) then (!r2.1) else false) then (
Option.bind (b.__sutureref1_Reader__stmt s0 s1 (bif (!s5) then r2.2.1 else s3) (bif (!s5) then r2.2.2.1 else s4) (bif (!s5) then r2.2.2.2.1 else s5) (bif (!s5) then r2.2.2.2.2 else s6)) fun r3 =>
bif (!r3.2.2.2.2.2.2.2.2.2.2.2.2.2.1) then (
must true ((Nat.beq 11 11 || Nat.beq 11 0) && (decide (List.length s2 + List.length [(T.agg [(T.sc (.int .i64 r3.1)), (T.sc (.string r3.2.1)), (T.sc (.string r3.2.2.1)), (T.sc (.int .i64 r3.2.2.2.1)), (T.sc (.int .i64 r3.2.2.2.2.1)), (T.sc (.int .i64 r3.2.2.2.2.2.1)), (T.sc (.string r3.2.2.2.2.2.2.1)), (T.list r3.2.2.2.2.2.2.2.1), (T.list r3.2.2.2.2.2.2.2.2.1), (T.list r3.2.2.2.2.2.2.2.2.2.1), (T.sc (.complex .f64 r3.2.2.2.2.2.2.2.2.2.2.1.1 r3.2.2.2.2.2.2.2.2.2.2.1.2))])] ≤ 1073741824) && sized 11 [(T.agg [(T.sc (.int .i64 r3.1)), (T.sc (.string r3.2.1)), (T.sc (.string r3.2.2.1)), (T.sc (.int .i64 r3.2.2.2.1)), (T.sc (.int .i64 r3.2.2.2.2.1)), (T.sc (.int .i64 r3.2.2.2.2.2.1)), (T.sc (.string r3.2.2.2.2.2.2.1)), (T.list r3.2.2.2.2.2.2.2.1), (T.list r3.2.2.2.2.2.2.2.2.1), (T.list r3.2.2.2.2.2.2.2.2.2.1), (T.sc (.complex .f64 r3.2.2.2.2.2.2.2.2.2.2.1.1 r3.2.2.2.2.2.2.2.2.2.2.1.2))])])) (k (s0, s1, (s2 ++ [(T.agg [(T.sc (.int .i64 r3.1)), (T.sc (.string r3.2.1)), (T.sc (.string r3.2.2.1)), (T.sc (.int .i64 r3.2.2.2.1)), (T.sc (.int .i64 r3.2.2.2.2.1)), (T.sc (.int .i64 r3.2.2.2.2.2.1)), (T.sc (.string r3.2.2.2.2.2.2.1)), (T.list r3.2.2.2.2.2.2.2.1), (T.list r3.2.2.2.2.2.2.2.2.1), (T.list r3.2.2.2.2.2.2.2.2.2.1), (T.sc (.complex .f64 r3.2.2.2.2.2.2.2.2.2.2.1.1 r3.2.2.2.2.2.2.2.2.2.2.1.2))])]), r3.2.2.2.2.2.2.2.2.2.2.2.1, r3.2.2.2.2.2.2.2.2.2.2.2.2.1, r3.2.2.2.2.2.2.2.2.2.2.2.2.2.1, r3.2.2.2.2.2.2.2.2.2.2.2.2.2.2)))
else (
k (s0, s1, s2, r3.2.2.2.2.2.2.2.2.2.2.2.1, r3.2.2.2.2.2.2.2.2.2.2.2.2.1, r3.2.2.2.2.2.2.2.2.2.2.2.2.2.1, r3.2.2.2.2.2.2.2.2.2.2.2.2.2.2)))
else (
some (s2, (bif (!s5) then r2.2.1 else s3), (bif (!s5) then r2.2.2.1 else s4), (bif (!s5) then r2.2.2.2.1 else s5), (bif (!s5) then r2.2.2.2.2 else s6)))
def l___sutureref1_Reader__block_5 (b : B___sutureref1_Reader__block) (n : Nat) : Nat → ByteArray × Int × (List T) × (List T) × Int × Bool × Int → Option ((List T) × (List T) × Int × Bool × Int)
  | 0, _ => none
  | m + 1, s => l___sutureref1_Reader__block_5_B b n (l___sutureref1_Reader__block_5 b n m) s
def f___sutureref1_Reader__block (b : B___sutureref1_Reader__block) (n : Nat) (a0 : ByteArray) (a1 : Int) (a2 : List T) (a3 : Int) (a4 : Bool) (a5 : Int) : Option ((List T) × (List T) × Int × Bool × Int) :=
bif (decide ((a1 : Int) > 8)) then (
Option.bind (m___sutureref1_Reader__fail n a2 a3 a4 a5) fun r0 =>
Option.bind (m___sutureref1_Reader__must n (⟨#[123]⟩ : ByteArray) r0.1 r0.2.1 r0.2.2.1 r0.2.2.2) fun r1 =>
Option.bind (l___sutureref1_Reader__block_5 b n n (a0, a1, ([] : List T), r1.1, r1.2.1, r1.2.2.1, r1.2.2.2)) fun p5 =>
Option.bind (m___sutureref1_Reader__must n (⟨#[125]⟩ : ByteArray) p5.2.1 p5.2.2.1 p5.2.2.2.1 p5.2.2.2.2) fun r6 =>
some (p5.1, r6.1, r6.2.1, r6.2.2.1, r6.2.2.2))
else (
Option.bind (m___sutureref1_Reader__must n (⟨#[123]⟩ : ByteArray) a2 a3 a4 a5) fun r7 =>
Option.bind (l___sutureref1_Reader__block_5 b n n (a0, a1, ([] : List T), r7.1, r7.2.1, r7.2.2.1, r7.2.2.2)) fun p9 =>
Option.bind (m___sutureref1_Reader__must n (⟨#[125]⟩ : ByteArray) p9.2.1 p9.2.2.1 p9.2.2.2.1 p9.2.2.2.2) fun r10 =>
some (p9.1, r10.1, r10.2.1, r10.2.2.1, r10.2.2.2))
def cs___sutureref1_Reader__block (b : B___sutureref1_Reader__block) (hb : B___sutureref1_Reader__block_ok b) (n : Nat) : List (CalF Try.prog) := [⟨d___sutureref1_Reader__fail, m___sutureref1_Reader__fail n, m___sutureref1_Reader__fail_ok n⟩, ⟨d___sutureref1_Reader__must, m___sutureref1_Reader__must n, m___sutureref1_Reader__must_ok n⟩, ⟨d___sutureref1_Reader__sign, m___sutureref1_Reader__sign n, m___sutureref1_Reader__sign_ok n⟩, ⟨d___sutureref1_Reader__stmt, b.__sutureref1_Reader__stmt, hb.__sutureref1_Reader__stmt⟩]
def L_l___sutureref1_Reader__block_5 : LF := ⟨5, [0, 1, 2, 7], [.ptr 0 0, .str, .int .i64, .own 11, .box 4, .list, .int .i64, .bool, .int .i64], [⟨(.exit 0), [0, 7], [.ptr 0 0, .own 11, .box 4, .list, .int .i64, .bool, .int .i64]⟩]⟩
def ls___sutureref1_Reader__block (b : B___sutureref1_Reader__block) (n : Nat) : List LE := [⟨5, loopS L_l___sutureref1_Reader__block_5 (l___sutureref1_Reader__block_5 b n n)⟩]
theorem l___sutureref1_Reader__block_5_ok (b : B___sutureref1_Reader__block) (hb : B___sutureref1_Reader__block_ok b) (n : Nat) : LoopOk Try.prog (mkSpec (cs___sutureref1_Reader__block b hb n) (ls___sutureref1_Reader__block b n)) 1 41 (loopAt Try.f41 0) := loopOk (L := L_l___sutureref1_Reader__block_5) (f := l___sutureref1_Reader__block_5 b n) (B := l___sutureref1_Reader__block_5_B b n) (k := n) (loopAt_ok sound Try.func41 (by kernel_rfl)) (inner (by kernel_rfl) allN) (innerS (by kernel_rfl) allN) (fun _ => rfl) (fun _ _ => rfl) (by kernel_rfl) (fun _ => by kernel_rfl) (by kernel_rfl) (fun k a => by kernel_rfl)
theorem f___sutureref1_Reader__block_ok (b : B___sutureref1_Reader__block) (hb : B___sutureref1_Reader__block_ok b) (n : Nat) : Ok Try.prog d___sutureref1_Reader__block (f___sutureref1_Reader__block b n) := fnOk sound (cs := cs___sutureref1_Reader__block b hb n) (ls := ls___sutureref1_Reader__block b n) (n := 41) Try.func41 (by kernel_rfl) (fun _ => by kernel_rfl) (inner (by kernel_rfl) (allC (l___sutureref1_Reader__block_5_ok b hb n) allN)) (innerS (by kernel_rfl) allN) (by kernel_rfl) (fun a => by kernel_rfl)

/-! (*suture/sutureref1.Reader).stmt -/
def f___sutureref1_Reader__stmt (b : B___sutureref1_Reader__block) (n : Nat) (a0 : ByteArray) (a1 : Int) (a2 : List T) (a3 : Int) (a4 : Bool) (a5 : Int) : Option (Int × ByteArray × ByteArray × Int × Int × Int × ByteArray × (List T) × (List T) × (List T) × (Nat × Nat) × (List T) × Int × Bool × Int) :=
Option.bind (idx true [.int .i64, .str, .int .i64, .int .i64] a2 a3) fun y0 =>
Option.bind (m_sutureref1_Place n a0 (y0.cell 3).int) fun r1 =>
bif (((y0.cell 0).int : Int) != 1) then (
Option.bind (m___sutureref1_Reader__fail n a2 a3 a4 a5) fun r2 =>
some (0, (⟨#[]⟩ : ByteArray), (⟨#[]⟩ : ByteArray), 0, 0, 0, (⟨#[]⟩ : ByteArray), ([] : List T), ([] : List T), ([] : List T), r1, r2.1, r2.2.1, r2.2.2.1, r2.2.2.2))
else (
bif (ByteArray.toList (y0.cell 1).str == ByteArray.toList (⟨#[108, 111, 99, 107]⟩ : ByteArray)) then (
bif (ByteArray.toList (y0.cell 1).str == ByteArray.toList (⟨#[108, 111, 99, 107]⟩ : ByteArray)) then (
bif (ByteArray.toList (y0.cell 1).str == ByteArray.toList (⟨#[117, 110, 108, 111, 99, 107]⟩ : ByteArray)) then (
Option.bind (m___sutureref1_Reader__name n a2 (IntKind.wrap .i64 (a3 + 1)) a4 a5) fun r3 =>
some (3, r3.1, (⟨#[]⟩ : ByteArray), 0, 0, 0, (⟨#[]⟩ : ByteArray), ([] : List T), ([] : List T), ([] : List T), r1, r3.2.1, r3.2.2.1, r3.2.2.2.1, r3.2.2.2.2))
else (
bif (ByteArray.toList (y0.cell 1).str == ByteArray.toList (⟨#[103, 111, 116, 111]⟩ : ByteArray)) then (
Option.bind (m___sutureref1_Reader__name n a2 (IntKind.wrap .i64 (a3 + 1)) a4 a5) fun r4 =>
some (9, r4.1, (⟨#[]⟩ : ByteArray), 0, 0, 0, (⟨#[]⟩ : ByteArray), ([] : List T), ([] : List T), ([] : List T), r1, r4.2.1, r4.2.2.1, r4.2.2.2.1, r4.2.2.2.2))
else (
bif (ByteArray.toList (y0.cell 1).str == ByteArray.toList (⟨#[108, 97, 98, 101, 108]⟩ : ByteArray)) then (
Option.bind (m___sutureref1_Reader__name n a2 (IntKind.wrap .i64 (a3 + 1)) a4 a5) fun r5 =>
some (10, r5.1, (⟨#[]⟩ : ByteArray), 0, 0, 0, (⟨#[]⟩ : ByteArray), ([] : List T), ([] : List T), ([] : List T), r1, r5.2.1, r5.2.2.1, r5.2.2.2.1, r5.2.2.2.2))
else (
Option.bind (m___sutureref1_Reader__name n a2 (IntKind.wrap .i64 (a3 + 1)) a4 a5) fun r6 =>
some (2, r6.1, (⟨#[]⟩ : ByteArray), 0, 0, 0, (⟨#[]⟩ : ByteArray), ([] : List T), ([] : List T), ([] : List T), r1, r6.2.1, r6.2.2.1, r6.2.2.2.1, r6.2.2.2.2)))))
else (
bif (ByteArray.toList (y0.cell 1).str == ByteArray.toList (⟨#[115, 101, 110, 100]⟩ : ByteArray)) then (
Option.bind (m___sutureref1_Reader__name n a2 (IntKind.wrap .i64 (a3 + 1)) a4 a5) fun r7 =>
Option.bind (m___sutureref1_Reader__whole n a0 r7.2.1 r7.2.2.1 r7.2.2.2.1 r7.2.2.2.2) fun r8 =>
some (4, r7.1, (⟨#[]⟩ : ByteArray), 0, r8.1, r8.2.1, r8.2.2.1, r8.2.2.2.1, ([] : List T), ([] : List T), r1, r8.2.2.2.2.1, r8.2.2.2.2.2.1, r8.2.2.2.2.2.2.1, r8.2.2.2.2.2.2.2))
else (
bif (ByteArray.toList (y0.cell 1).str == ByteArray.toList (⟨#[114, 101, 99, 118]⟩ : ByteArray)) then (
Option.bind (m___sutureref1_Reader__name n a2 (IntKind.wrap .i64 (a3 + 1)) a4 a5) fun r9 =>
Option.bind (m___sutureref1_Reader__name n r9.2.1 r9.2.2.1 r9.2.2.2.1 r9.2.2.2.2) fun r10 =>
some (5, r9.1, r10.1, 0, 0, 0, (⟨#[]⟩ : ByteArray), ([] : List T), ([] : List T), ([] : List T), r1, r10.2.1, r10.2.2.1, r10.2.2.2.1, r10.2.2.2.2))
else (
bif (ByteArray.toList (y0.cell 1).str == ByteArray.toList (⟨#[112, 114, 105, 110, 116]⟩ : ByteArray)) then (
Option.bind (m___sutureref1_Reader__whole n a0 a2 (IntKind.wrap .i64 (a3 + 1)) a4 a5) fun r11 =>
some (6, (⟨#[]⟩ : ByteArray), (⟨#[]⟩ : ByteArray), 0, r11.1, r11.2.1, r11.2.2.1, r11.2.2.2.1, ([] : List T), ([] : List T), r1, r11.2.2.2.2.1, r11.2.2.2.2.2.1, r11.2.2.2.2.2.2.1, r11.2.2.2.2.2.2.2))
else (
bif (ByteArray.toList (y0.cell 1).str == ByteArray.toList (⟨#[105, 102]⟩ : ByteArray)) then (
Option.bind (m___sutureref1_Reader__whole n a0 a2 (IntKind.wrap .i64 (a3 + 1)) a4 a5) fun r12 =>
Option.bind (b.__sutureref1_Reader__block a0 (IntKind.wrap .i64 (a1 + 1)) r12.2.2.2.2.1 r12.2.2.2.2.2.1 r12.2.2.2.2.2.2.1 r12.2.2.2.2.2.2.2) fun r13 =>
Option.bind (m___sutureref1_Reader__word n (⟨#[101, 108, 115, 101]⟩ : ByteArray) r13.2.1 r13.2.2.1 r13.2.2.2.1 r13.2.2.2.2) fun r14 =>
bif r14.1 then (
Option.bind (b.__sutureref1_Reader__block a0 (IntKind.wrap .i64 (a1 + 1)) r14.2.1 (IntKind.wrap .i64 (r14.2.2.1 + 1)) r14.2.2.2.1 r14.2.2.2.2) fun r15 =>
some (7, (⟨#[]⟩ : ByteArray), (⟨#[]⟩ : ByteArray), 0, r12.1, r12.2.1, r12.2.2.1, r12.2.2.2.1, r13.1, r15.1, r1, r15.2.1, r15.2.2.1, r15.2.2.2.1, r15.2.2.2.2))
else (
some (7, (⟨#[]⟩ : ByteArray), (⟨#[]⟩ : ByteArray), 0, r12.1, r12.2.1, r12.2.2.1, r12.2.2.2.1, r13.1, ([] : List T), r1, r14.2.1, r14.2.2.1, r14.2.2.2.1, r14.2.2.2.2)))
else (
bif (ByteArray.toList (y0.cell 1).str == ByteArray.toList (⟨#[114, 101, 112, 101, 97, 116]⟩ : ByteArray)) then (
Option.bind (m___sutureref1_Reader__number n 9 a2 (IntKind.wrap .i64 (a3 + 1)) a4 a5) fun r16 =>
Option.bind (b.__sutureref1_Reader__block a0 (IntKind.wrap .i64 (a1 + 1)) r16.2.1 r16.2.2.1 r16.2.2.2.1 r16.2.2.2.2) fun r17 =>
some (8, (⟨#[]⟩ : ByteArray), (⟨#[]⟩ : ByteArray), r16.1, 0, 0, (⟨#[]⟩ : ByteArray), ([] : List T), r17.1, ([] : List T), r1, r17.2.1, r17.2.2.1, r17.2.2.2.1, r17.2.2.2.2))
else (
Option.bind (m_sutureref1_Keyword n (y0.cell 1).str) fun r18 =>
bif r18 then (
Option.bind (m___sutureref1_Reader__failAt n (IntKind.wrap .i64 ((IntKind.wrap .i64 (a3 + 1)) - 1)) a2 (IntKind.wrap .i64 (a3 + 1)) a4 a5) fun r19 =>
some (0, (⟨#[]⟩ : ByteArray), (⟨#[]⟩ : ByteArray), 0, 0, 0, (⟨#[]⟩ : ByteArray), ([] : List T), ([] : List T), ([] : List T), r1, r19.1, r19.2.1, r19.2.2.1, r19.2.2.2))
else (
Option.bind (m___sutureref1_Reader__must n (⟨#[61]⟩ : ByteArray) a2 (IntKind.wrap .i64 (a3 + 1)) a4 a5) fun r20 =>
Option.bind (m___sutureref1_Reader__whole n a0 r20.1 r20.2.1 r20.2.2.1 r20.2.2.2) fun r21 =>
some (1, (y0.cell 1).str, (⟨#[]⟩ : ByteArray), 0, r21.1, r21.2.1, r21.2.2.1, r21.2.2.2.1, ([] : List T), ([] : List T), r1, r21.2.2.2.2.1, r21.2.2.2.2.2.1, r21.2.2.2.2.2.2.1, r21.2.2.2.2.2.2.2)))))))))
else (
bif (ByteArray.toList (y0.cell 1).str == ByteArray.toList (⟨#[117, 110, 108, 111, 99, 107]⟩ : ByteArray)) then (
bif (ByteArray.toList (y0.cell 1).str == ByteArray.toList (⟨#[117, 110, 108, 111, 99, 107]⟩ : ByteArray)) then (
bif (ByteArray.toList (y0.cell 1).str == ByteArray.toList (⟨#[117, 110, 108, 111, 99, 107]⟩ : ByteArray)) then (
Option.bind (m___sutureref1_Reader__name n a2 (IntKind.wrap .i64 (a3 + 1)) a4 a5) fun r22 =>
some (3, r22.1, (⟨#[]⟩ : ByteArray), 0, 0, 0, (⟨#[]⟩ : ByteArray), ([] : List T), ([] : List T), ([] : List T), r1, r22.2.1, r22.2.2.1, r22.2.2.2.1, r22.2.2.2.2))
else (
bif (ByteArray.toList (y0.cell 1).str == ByteArray.toList (⟨#[103, 111, 116, 111]⟩ : ByteArray)) then (
Option.bind (m___sutureref1_Reader__name n a2 (IntKind.wrap .i64 (a3 + 1)) a4 a5) fun r23 =>
some (9, r23.1, (⟨#[]⟩ : ByteArray), 0, 0, 0, (⟨#[]⟩ : ByteArray), ([] : List T), ([] : List T), ([] : List T), r1, r23.2.1, r23.2.2.1, r23.2.2.2.1, r23.2.2.2.2))
else (
bif (ByteArray.toList (y0.cell 1).str == ByteArray.toList (⟨#[108, 97, 98, 101, 108]⟩ : ByteArray)) then (
Option.bind (m___sutureref1_Reader__name n a2 (IntKind.wrap .i64 (a3 + 1)) a4 a5) fun r24 =>
some (10, r24.1, (⟨#[]⟩ : ByteArray), 0, 0, 0, (⟨#[]⟩ : ByteArray), ([] : List T), ([] : List T), ([] : List T), r1, r24.2.1, r24.2.2.1, r24.2.2.2.1, r24.2.2.2.2))
else (
Option.bind (m___sutureref1_Reader__name n a2 (IntKind.wrap .i64 (a3 + 1)) a4 a5) fun r25 =>
some (2, r25.1, (⟨#[]⟩ : ByteArray), 0, 0, 0, (⟨#[]⟩ : ByteArray), ([] : List T), ([] : List T), ([] : List T), r1, r25.2.1, r25.2.2.1, r25.2.2.2.1, r25.2.2.2.2)))))
else (
bif (ByteArray.toList (y0.cell 1).str == ByteArray.toList (⟨#[115, 101, 110, 100]⟩ : ByteArray)) then (
Option.bind (m___sutureref1_Reader__name n a2 (IntKind.wrap .i64 (a3 + 1)) a4 a5) fun r26 =>
Option.bind (m___sutureref1_Reader__whole n a0 r26.2.1 r26.2.2.1 r26.2.2.2.1 r26.2.2.2.2) fun r27 =>
some (4, r26.1, (⟨#[]⟩ : ByteArray), 0, r27.1, r27.2.1, r27.2.2.1, r27.2.2.2.1, ([] : List T), ([] : List T), r1, r27.2.2.2.2.1, r27.2.2.2.2.2.1, r27.2.2.2.2.2.2.1, r27.2.2.2.2.2.2.2))
else (
bif (ByteArray.toList (y0.cell 1).str == ByteArray.toList (⟨#[114, 101, 99, 118]⟩ : ByteArray)) then (
Option.bind (m___sutureref1_Reader__name n a2 (IntKind.wrap .i64 (a3 + 1)) a4 a5) fun r28 =>
Option.bind (m___sutureref1_Reader__name n r28.2.1 r28.2.2.1 r28.2.2.2.1 r28.2.2.2.2) fun r29 =>
some (5, r28.1, r29.1, 0, 0, 0, (⟨#[]⟩ : ByteArray), ([] : List T), ([] : List T), ([] : List T), r1, r29.2.1, r29.2.2.1, r29.2.2.2.1, r29.2.2.2.2))
else (
bif (ByteArray.toList (y0.cell 1).str == ByteArray.toList (⟨#[112, 114, 105, 110, 116]⟩ : ByteArray)) then (
Option.bind (m___sutureref1_Reader__whole n a0 a2 (IntKind.wrap .i64 (a3 + 1)) a4 a5) fun r30 =>
some (6, (⟨#[]⟩ : ByteArray), (⟨#[]⟩ : ByteArray), 0, r30.1, r30.2.1, r30.2.2.1, r30.2.2.2.1, ([] : List T), ([] : List T), r1, r30.2.2.2.2.1, r30.2.2.2.2.2.1, r30.2.2.2.2.2.2.1, r30.2.2.2.2.2.2.2))
else (
bif (ByteArray.toList (y0.cell 1).str == ByteArray.toList (⟨#[105, 102]⟩ : ByteArray)) then (
Option.bind (m___sutureref1_Reader__whole n a0 a2 (IntKind.wrap .i64 (a3 + 1)) a4 a5) fun r31 =>
Option.bind (b.__sutureref1_Reader__block a0 (IntKind.wrap .i64 (a1 + 1)) r31.2.2.2.2.1 r31.2.2.2.2.2.1 r31.2.2.2.2.2.2.1 r31.2.2.2.2.2.2.2) fun r32 =>
Option.bind (m___sutureref1_Reader__word n (⟨#[101, 108, 115, 101]⟩ : ByteArray) r32.2.1 r32.2.2.1 r32.2.2.2.1 r32.2.2.2.2) fun r33 =>
bif r33.1 then (
Option.bind (b.__sutureref1_Reader__block a0 (IntKind.wrap .i64 (a1 + 1)) r33.2.1 (IntKind.wrap .i64 (r33.2.2.1 + 1)) r33.2.2.2.1 r33.2.2.2.2) fun r34 =>
some (7, (⟨#[]⟩ : ByteArray), (⟨#[]⟩ : ByteArray), 0, r31.1, r31.2.1, r31.2.2.1, r31.2.2.2.1, r32.1, r34.1, r1, r34.2.1, r34.2.2.1, r34.2.2.2.1, r34.2.2.2.2))
else (
some (7, (⟨#[]⟩ : ByteArray), (⟨#[]⟩ : ByteArray), 0, r31.1, r31.2.1, r31.2.2.1, r31.2.2.2.1, r32.1, ([] : List T), r1, r33.2.1, r33.2.2.1, r33.2.2.2.1, r33.2.2.2.2)))
else (
bif (ByteArray.toList (y0.cell 1).str == ByteArray.toList (⟨#[114, 101, 112, 101, 97, 116]⟩ : ByteArray)) then (
Option.bind (m___sutureref1_Reader__number n 9 a2 (IntKind.wrap .i64 (a3 + 1)) a4 a5) fun r35 =>
Option.bind (b.__sutureref1_Reader__block a0 (IntKind.wrap .i64 (a1 + 1)) r35.2.1 r35.2.2.1 r35.2.2.2.1 r35.2.2.2.2) fun r36 =>
some (8, (⟨#[]⟩ : ByteArray), (⟨#[]⟩ : ByteArray), r35.1, 0, 0, (⟨#[]⟩ : ByteArray), ([] : List T), r36.1, ([] : List T), r1, r36.2.1, r36.2.2.1, r36.2.2.2.1, r36.2.2.2.2))
else (
Option.bind (m_sutureref1_Keyword n (y0.cell 1).str) fun r37 =>
bif r37 then (
Option.bind (m___sutureref1_Reader__failAt n (IntKind.wrap .i64 ((IntKind.wrap .i64 (a3 + 1)) - 1)) a2 (IntKind.wrap .i64 (a3 + 1)) a4 a5) fun r38 =>
some (0, (⟨#[]⟩ : ByteArray), (⟨#[]⟩ : ByteArray), 0, 0, 0, (⟨#[]⟩ : ByteArray), ([] : List T), ([] : List T), ([] : List T), r1, r38.1, r38.2.1, r38.2.2.1, r38.2.2.2))
else (
Option.bind (m___sutureref1_Reader__must n (⟨#[61]⟩ : ByteArray) a2 (IntKind.wrap .i64 (a3 + 1)) a4 a5) fun r39 =>
Option.bind (m___sutureref1_Reader__whole n a0 r39.1 r39.2.1 r39.2.2.1 r39.2.2.2) fun r40 =>
some (1, (y0.cell 1).str, (⟨#[]⟩ : ByteArray), 0, r40.1, r40.2.1, r40.2.2.1, r40.2.2.2.1, ([] : List T), ([] : List T), r1, r40.2.2.2.2.1, r40.2.2.2.2.2.1, r40.2.2.2.2.2.2.1, r40.2.2.2.2.2.2.2)))))))))
else (
bif (ByteArray.toList (y0.cell 1).str == ByteArray.toList (⟨#[103, 111, 116, 111]⟩ : ByteArray)) then (
bif (ByteArray.toList (y0.cell 1).str == ByteArray.toList (⟨#[103, 111, 116, 111]⟩ : ByteArray)) then (
bif (ByteArray.toList (y0.cell 1).str == ByteArray.toList (⟨#[117, 110, 108, 111, 99, 107]⟩ : ByteArray)) then (
Option.bind (m___sutureref1_Reader__name n a2 (IntKind.wrap .i64 (a3 + 1)) a4 a5) fun r41 =>
some (3, r41.1, (⟨#[]⟩ : ByteArray), 0, 0, 0, (⟨#[]⟩ : ByteArray), ([] : List T), ([] : List T), ([] : List T), r1, r41.2.1, r41.2.2.1, r41.2.2.2.1, r41.2.2.2.2))
else (
bif (ByteArray.toList (y0.cell 1).str == ByteArray.toList (⟨#[103, 111, 116, 111]⟩ : ByteArray)) then (
Option.bind (m___sutureref1_Reader__name n a2 (IntKind.wrap .i64 (a3 + 1)) a4 a5) fun r42 =>
some (9, r42.1, (⟨#[]⟩ : ByteArray), 0, 0, 0, (⟨#[]⟩ : ByteArray), ([] : List T), ([] : List T), ([] : List T), r1, r42.2.1, r42.2.2.1, r42.2.2.2.1, r42.2.2.2.2))
else (
bif (ByteArray.toList (y0.cell 1).str == ByteArray.toList (⟨#[108, 97, 98, 101, 108]⟩ : ByteArray)) then (
Option.bind (m___sutureref1_Reader__name n a2 (IntKind.wrap .i64 (a3 + 1)) a4 a5) fun r43 =>
some (10, r43.1, (⟨#[]⟩ : ByteArray), 0, 0, 0, (⟨#[]⟩ : ByteArray), ([] : List T), ([] : List T), ([] : List T), r1, r43.2.1, r43.2.2.1, r43.2.2.2.1, r43.2.2.2.2))
else (
Option.bind (m___sutureref1_Reader__name n a2 (IntKind.wrap .i64 (a3 + 1)) a4 a5) fun r44 =>
some (2, r44.1, (⟨#[]⟩ : ByteArray), 0, 0, 0, (⟨#[]⟩ : ByteArray), ([] : List T), ([] : List T), ([] : List T), r1, r44.2.1, r44.2.2.1, r44.2.2.2.1, r44.2.2.2.2)))))
else (
bif (ByteArray.toList (y0.cell 1).str == ByteArray.toList (⟨#[115, 101, 110, 100]⟩ : ByteArray)) then (
Option.bind (m___sutureref1_Reader__name n a2 (IntKind.wrap .i64 (a3 + 1)) a4 a5) fun r45 =>
Option.bind (m___sutureref1_Reader__whole n a0 r45.2.1 r45.2.2.1 r45.2.2.2.1 r45.2.2.2.2) fun r46 =>
some (4, r45.1, (⟨#[]⟩ : ByteArray), 0, r46.1, r46.2.1, r46.2.2.1, r46.2.2.2.1, ([] : List T), ([] : List T), r1, r46.2.2.2.2.1, r46.2.2.2.2.2.1, r46.2.2.2.2.2.2.1, r46.2.2.2.2.2.2.2))
else (
bif (ByteArray.toList (y0.cell 1).str == ByteArray.toList (⟨#[114, 101, 99, 118]⟩ : ByteArray)) then (
Option.bind (m___sutureref1_Reader__name n a2 (IntKind.wrap .i64 (a3 + 1)) a4 a5) fun r47 =>
Option.bind (m___sutureref1_Reader__name n r47.2.1 r47.2.2.1 r47.2.2.2.1 r47.2.2.2.2) fun r48 =>
some (5, r47.1, r48.1, 0, 0, 0, (⟨#[]⟩ : ByteArray), ([] : List T), ([] : List T), ([] : List T), r1, r48.2.1, r48.2.2.1, r48.2.2.2.1, r48.2.2.2.2))
else (
bif (ByteArray.toList (y0.cell 1).str == ByteArray.toList (⟨#[112, 114, 105, 110, 116]⟩ : ByteArray)) then (
Option.bind (m___sutureref1_Reader__whole n a0 a2 (IntKind.wrap .i64 (a3 + 1)) a4 a5) fun r49 =>
some (6, (⟨#[]⟩ : ByteArray), (⟨#[]⟩ : ByteArray), 0, r49.1, r49.2.1, r49.2.2.1, r49.2.2.2.1, ([] : List T), ([] : List T), r1, r49.2.2.2.2.1, r49.2.2.2.2.2.1, r49.2.2.2.2.2.2.1, r49.2.2.2.2.2.2.2))
else (
bif (ByteArray.toList (y0.cell 1).str == ByteArray.toList (⟨#[105, 102]⟩ : ByteArray)) then (
Option.bind (m___sutureref1_Reader__whole n a0 a2 (IntKind.wrap .i64 (a3 + 1)) a4 a5) fun r50 =>
Option.bind (b.__sutureref1_Reader__block a0 (IntKind.wrap .i64 (a1 + 1)) r50.2.2.2.2.1 r50.2.2.2.2.2.1 r50.2.2.2.2.2.2.1 r50.2.2.2.2.2.2.2) fun r51 =>
Option.bind (m___sutureref1_Reader__word n (⟨#[101, 108, 115, 101]⟩ : ByteArray) r51.2.1 r51.2.2.1 r51.2.2.2.1 r51.2.2.2.2) fun r52 =>
bif r52.1 then (
Option.bind (b.__sutureref1_Reader__block a0 (IntKind.wrap .i64 (a1 + 1)) r52.2.1 (IntKind.wrap .i64 (r52.2.2.1 + 1)) r52.2.2.2.1 r52.2.2.2.2) fun r53 =>
some (7, (⟨#[]⟩ : ByteArray), (⟨#[]⟩ : ByteArray), 0, r50.1, r50.2.1, r50.2.2.1, r50.2.2.2.1, r51.1, r53.1, r1, r53.2.1, r53.2.2.1, r53.2.2.2.1, r53.2.2.2.2))
else (
some (7, (⟨#[]⟩ : ByteArray), (⟨#[]⟩ : ByteArray), 0, r50.1, r50.2.1, r50.2.2.1, r50.2.2.2.1, r51.1, ([] : List T), r1, r52.2.1, r52.2.2.1, r52.2.2.2.1, r52.2.2.2.2)))
else (
bif (ByteArray.toList (y0.cell 1).str == ByteArray.toList (⟨#[114, 101, 112, 101, 97, 116]⟩ : ByteArray)) then (
Option.bind (m___sutureref1_Reader__number n 9 a2 (IntKind.wrap .i64 (a3 + 1)) a4 a5) fun r54 =>
Option.bind (b.__sutureref1_Reader__block a0 (IntKind.wrap .i64 (a1 + 1)) r54.2.1 r54.2.2.1 r54.2.2.2.1 r54.2.2.2.2) fun r55 =>
some (8, (⟨#[]⟩ : ByteArray), (⟨#[]⟩ : ByteArray), r54.1, 0, 0, (⟨#[]⟩ : ByteArray), ([] : List T), r55.1, ([] : List T), r1, r55.2.1, r55.2.2.1, r55.2.2.2.1, r55.2.2.2.2))
else (
Option.bind (m_sutureref1_Keyword n (y0.cell 1).str) fun r56 =>
bif r56 then (
Option.bind (m___sutureref1_Reader__failAt n (IntKind.wrap .i64 ((IntKind.wrap .i64 (a3 + 1)) - 1)) a2 (IntKind.wrap .i64 (a3 + 1)) a4 a5) fun r57 =>
some (0, (⟨#[]⟩ : ByteArray), (⟨#[]⟩ : ByteArray), 0, 0, 0, (⟨#[]⟩ : ByteArray), ([] : List T), ([] : List T), ([] : List T), r1, r57.1, r57.2.1, r57.2.2.1, r57.2.2.2))
else (
Option.bind (m___sutureref1_Reader__must n (⟨#[61]⟩ : ByteArray) a2 (IntKind.wrap .i64 (a3 + 1)) a4 a5) fun r58 =>
Option.bind (m___sutureref1_Reader__whole n a0 r58.1 r58.2.1 r58.2.2.1 r58.2.2.2) fun r59 =>
some (1, (y0.cell 1).str, (⟨#[]⟩ : ByteArray), 0, r59.1, r59.2.1, r59.2.2.1, r59.2.2.2.1, ([] : List T), ([] : List T), r1, r59.2.2.2.2.1, r59.2.2.2.2.2.1, r59.2.2.2.2.2.2.1, r59.2.2.2.2.2.2.2)))))))))
else (
bif (ByteArray.toList (y0.cell 1).str == ByteArray.toList (⟨#[108, 97, 98, 101, 108]⟩ : ByteArray)) then (
bif (ByteArray.toList (y0.cell 1).str == ByteArray.toList (⟨#[117, 110, 108, 111, 99, 107]⟩ : ByteArray)) then (
Option.bind (m___sutureref1_Reader__name n a2 (IntKind.wrap .i64 (a3 + 1)) a4 a5) fun r60 =>
some (3, r60.1, (⟨#[]⟩ : ByteArray), 0, 0, 0, (⟨#[]⟩ : ByteArray), ([] : List T), ([] : List T), ([] : List T), r1, r60.2.1, r60.2.2.1, r60.2.2.2.1, r60.2.2.2.2))
else (
bif (ByteArray.toList (y0.cell 1).str == ByteArray.toList (⟨#[103, 111, 116, 111]⟩ : ByteArray)) then (
Option.bind (m___sutureref1_Reader__name n a2 (IntKind.wrap .i64 (a3 + 1)) a4 a5) fun r61 =>
some (9, r61.1, (⟨#[]⟩ : ByteArray), 0, 0, 0, (⟨#[]⟩ : ByteArray), ([] : List T), ([] : List T), ([] : List T), r1, r61.2.1, r61.2.2.1, r61.2.2.2.1, r61.2.2.2.2))
else (
bif (ByteArray.toList (y0.cell 1).str == ByteArray.toList (⟨#[108, 97, 98, 101, 108]⟩ : ByteArray)) then (
Option.bind (m___sutureref1_Reader__name n a2 (IntKind.wrap .i64 (a3 + 1)) a4 a5) fun r62 =>
some (10, r62.1, (⟨#[]⟩ : ByteArray), 0, 0, 0, (⟨#[]⟩ : ByteArray), ([] : List T), ([] : List T), ([] : List T), r1, r62.2.1, r62.2.2.1, r62.2.2.2.1, r62.2.2.2.2))
else (
Option.bind (m___sutureref1_Reader__name n a2 (IntKind.wrap .i64 (a3 + 1)) a4 a5) fun r63 =>
some (2, r63.1, (⟨#[]⟩ : ByteArray), 0, 0, 0, (⟨#[]⟩ : ByteArray), ([] : List T), ([] : List T), ([] : List T), r1, r63.2.1, r63.2.2.1, r63.2.2.2.1, r63.2.2.2.2)))))
else (
bif (ByteArray.toList (y0.cell 1).str == ByteArray.toList (⟨#[115, 101, 110, 100]⟩ : ByteArray)) then (
Option.bind (m___sutureref1_Reader__name n a2 (IntKind.wrap .i64 (a3 + 1)) a4 a5) fun r64 =>
Option.bind (m___sutureref1_Reader__whole n a0 r64.2.1 r64.2.2.1 r64.2.2.2.1 r64.2.2.2.2) fun r65 =>
some (4, r64.1, (⟨#[]⟩ : ByteArray), 0, r65.1, r65.2.1, r65.2.2.1, r65.2.2.2.1, ([] : List T), ([] : List T), r1, r65.2.2.2.2.1, r65.2.2.2.2.2.1, r65.2.2.2.2.2.2.1, r65.2.2.2.2.2.2.2))
else (
bif (ByteArray.toList (y0.cell 1).str == ByteArray.toList (⟨#[114, 101, 99, 118]⟩ : ByteArray)) then (
Option.bind (m___sutureref1_Reader__name n a2 (IntKind.wrap .i64 (a3 + 1)) a4 a5) fun r66 =>
Option.bind (m___sutureref1_Reader__name n r66.2.1 r66.2.2.1 r66.2.2.2.1 r66.2.2.2.2) fun r67 =>
some (5, r66.1, r67.1, 0, 0, 0, (⟨#[]⟩ : ByteArray), ([] : List T), ([] : List T), ([] : List T), r1, r67.2.1, r67.2.2.1, r67.2.2.2.1, r67.2.2.2.2))
else (
bif (ByteArray.toList (y0.cell 1).str == ByteArray.toList (⟨#[112, 114, 105, 110, 116]⟩ : ByteArray)) then (
Option.bind (m___sutureref1_Reader__whole n a0 a2 (IntKind.wrap .i64 (a3 + 1)) a4 a5) fun r68 =>
some (6, (⟨#[]⟩ : ByteArray), (⟨#[]⟩ : ByteArray), 0, r68.1, r68.2.1, r68.2.2.1, r68.2.2.2.1, ([] : List T), ([] : List T), r1, r68.2.2.2.2.1, r68.2.2.2.2.2.1, r68.2.2.2.2.2.2.1, r68.2.2.2.2.2.2.2))
else (
bif (ByteArray.toList (y0.cell 1).str == ByteArray.toList (⟨#[105, 102]⟩ : ByteArray)) then (
Option.bind (m___sutureref1_Reader__whole n a0 a2 (IntKind.wrap .i64 (a3 + 1)) a4 a5) fun r69 =>
Option.bind (b.__sutureref1_Reader__block a0 (IntKind.wrap .i64 (a1 + 1)) r69.2.2.2.2.1 r69.2.2.2.2.2.1 r69.2.2.2.2.2.2.1 r69.2.2.2.2.2.2.2) fun r70 =>
Option.bind (m___sutureref1_Reader__word n (⟨#[101, 108, 115, 101]⟩ : ByteArray) r70.2.1 r70.2.2.1 r70.2.2.2.1 r70.2.2.2.2) fun r71 =>
bif r71.1 then (
Option.bind (b.__sutureref1_Reader__block a0 (IntKind.wrap .i64 (a1 + 1)) r71.2.1 (IntKind.wrap .i64 (r71.2.2.1 + 1)) r71.2.2.2.1 r71.2.2.2.2) fun r72 =>
some (7, (⟨#[]⟩ : ByteArray), (⟨#[]⟩ : ByteArray), 0, r69.1, r69.2.1, r69.2.2.1, r69.2.2.2.1, r70.1, r72.1, r1, r72.2.1, r72.2.2.1, r72.2.2.2.1, r72.2.2.2.2))
else (
some (7, (⟨#[]⟩ : ByteArray), (⟨#[]⟩ : ByteArray), 0, r69.1, r69.2.1, r69.2.2.1, r69.2.2.2.1, r70.1, ([] : List T), r1, r71.2.1, r71.2.2.1, r71.2.2.2.1, r71.2.2.2.2)))
else (
bif (ByteArray.toList (y0.cell 1).str == ByteArray.toList (⟨#[114, 101, 112, 101, 97, 116]⟩ : ByteArray)) then (
Option.bind (m___sutureref1_Reader__number n 9 a2 (IntKind.wrap .i64 (a3 + 1)) a4 a5) fun r73 =>
Option.bind (b.__sutureref1_Reader__block a0 (IntKind.wrap .i64 (a1 + 1)) r73.2.1 r73.2.2.1 r73.2.2.2.1 r73.2.2.2.2) fun r74 =>
some (8, (⟨#[]⟩ : ByteArray), (⟨#[]⟩ : ByteArray), r73.1, 0, 0, (⟨#[]⟩ : ByteArray), ([] : List T), r74.1, ([] : List T), r1, r74.2.1, r74.2.2.1, r74.2.2.2.1, r74.2.2.2.2))
else (
Option.bind (m_sutureref1_Keyword n (y0.cell 1).str) fun r75 =>
bif r75 then (
Option.bind (m___sutureref1_Reader__failAt n (IntKind.wrap .i64 ((IntKind.wrap .i64 (a3 + 1)) - 1)) a2 (IntKind.wrap .i64 (a3 + 1)) a4 a5) fun r76 =>
some (0, (⟨#[]⟩ : ByteArray), (⟨#[]⟩ : ByteArray), 0, 0, 0, (⟨#[]⟩ : ByteArray), ([] : List T), ([] : List T), ([] : List T), r1, r76.1, r76.2.1, r76.2.2.1, r76.2.2.2))
else (
Option.bind (m___sutureref1_Reader__must n (⟨#[61]⟩ : ByteArray) a2 (IntKind.wrap .i64 (a3 + 1)) a4 a5) fun r77 =>
Option.bind (m___sutureref1_Reader__whole n a0 r77.1 r77.2.1 r77.2.2.1 r77.2.2.2) fun r78 =>
some (1, (y0.cell 1).str, (⟨#[]⟩ : ByteArray), 0, r78.1, r78.2.1, r78.2.2.1, r78.2.2.2.1, ([] : List T), ([] : List T), r1, r78.2.2.2.2.1, r78.2.2.2.2.2.1, r78.2.2.2.2.2.2.1, r78.2.2.2.2.2.2.2))))))))))))
theorem f___sutureref1_Reader__stmt_ok (b : B___sutureref1_Reader__block) (hb : B___sutureref1_Reader__block_ok b) (n : Nat) : Ok Try.prog d___sutureref1_Reader__stmt (f___sutureref1_Reader__stmt b n) := fnOk0 sound [⟨d_sutureref1_Place, m_sutureref1_Place n, m_sutureref1_Place_ok n⟩, ⟨d___sutureref1_Reader__fail, m___sutureref1_Reader__fail n, m___sutureref1_Reader__fail_ok n⟩, ⟨d___sutureref1_Reader__name, m___sutureref1_Reader__name n, m___sutureref1_Reader__name_ok n⟩, ⟨d___sutureref1_Reader__whole, m___sutureref1_Reader__whole n, m___sutureref1_Reader__whole_ok n⟩, ⟨d___sutureref1_Reader__block, b.__sutureref1_Reader__block, hb.__sutureref1_Reader__block⟩, ⟨d___sutureref1_Reader__word, m___sutureref1_Reader__word n, m___sutureref1_Reader__word_ok n⟩, ⟨d___sutureref1_Reader__number, m___sutureref1_Reader__number n, m___sutureref1_Reader__number_ok n⟩, ⟨d_sutureref1_Keyword, m_sutureref1_Keyword n, m_sutureref1_Keyword_ok n⟩, ⟨d___sutureref1_Reader__failAt, m___sutureref1_Reader__failAt n, m___sutureref1_Reader__failAt_ok n⟩, ⟨d___sutureref1_Reader__must, m___sutureref1_Reader__must n, m___sutureref1_Reader__must_ok n⟩] Try.func55 (by kernel_rfl) (fun a => by kernel_rfl)
def unB___sutureref1_Reader__block (n : Nat) : Nat → B___sutureref1_Reader__block
  | 0 => { __sutureref1_Reader__block := fun _ _ _ _ _ _ => none, __sutureref1_Reader__stmt := fun _ _ _ _ _ _ => none }
  | m + 1 => { __sutureref1_Reader__block := f___sutureref1_Reader__block (unB___sutureref1_Reader__block n m) n, __sutureref1_Reader__stmt := f___sutureref1_Reader__stmt (unB___sutureref1_Reader__block n m) n }
theorem unB___sutureref1_Reader__block_ok (n : Nat) : ∀ m, B___sutureref1_Reader__block_ok (unB___sutureref1_Reader__block n m)
  | 0 => { __sutureref1_Reader__block := fun _ _ h => (nomatch (show none = some _ from h)), __sutureref1_Reader__stmt := fun _ _ h => (nomatch (show none = some _ from h)) }
  | m + 1 => { __sutureref1_Reader__block := f___sutureref1_Reader__block_ok _ (unB___sutureref1_Reader__block_ok n m) n, __sutureref1_Reader__stmt := f___sutureref1_Reader__stmt_ok _ (unB___sutureref1_Reader__block_ok n m) n }
def m___sutureref1_Reader__block (n : Nat) : ByteArray → Int → List T → Int → Bool → Int → Option ((List T) × (List T) × Int × Bool × Int) := (unB___sutureref1_Reader__block n n).__sutureref1_Reader__block
theorem m___sutureref1_Reader__block_ok (n : Nat) : Ok Try.prog d___sutureref1_Reader__block (m___sutureref1_Reader__block n) := (unB___sutureref1_Reader__block_ok n n).__sutureref1_Reader__block
def m___sutureref1_Reader__stmt (n : Nat) : ByteArray → Int → List T → Int → Bool → Int → Option (Int × ByteArray × ByteArray × Int × Int × Int × ByteArray × (List T) × (List T) × (List T) × (Nat × Nat) × (List T) × Int × Bool × Int) := (unB___sutureref1_Reader__block n n).__sutureref1_Reader__stmt
theorem m___sutureref1_Reader__stmt_ok (n : Nat) : Ok Try.prog d___sutureref1_Reader__stmt (m___sutureref1_Reader__stmt n) := (unB___sutureref1_Reader__block_ok n n).__sutureref1_Reader__stmt


/-! suture/sutureref1.Parse -/
def l_sutureref1_Parse_6_B (n : Nat) (k : ByteArray × (List T) × (List T) × (List T) × (List T) × Int × Bool × Int × (List T) × (List T) → Option (ByteArray × (List T) × (List T) × (List T) × (List T) × Int × Bool × Int × (List T) × (List T))) : ByteArray × (List T) × (List T) × (List T) × (List T) × Int × Bool × Int × (List T) × (List T) → Option (ByteArray × (List T) × (List T) × (List T) × (List T) × Int × Bool × Int × (List T) × (List T)) := fun (s0, s1, s2, s3, s4, s5, s6, s7, s8, s9) =>
Option.bind (idx ((!s6)) [.int .i64, .str, .int .i64, .int .i64] s4 s5) fun y1 =>
Option.bind (idx ((bif (!s6) then (((y1.cell 0).int : Int) == 1) else false)) [.int .i64, .str, .int .i64, .int .i64] s4 s5) fun y2 =>
Option.bind (bif (bif (!s6) then (((y1.cell 0).int : Int) == 1) else false) then m_sutureref1_declKind n (y2.cell 1).str else some 0) fun r3 =>
bif (bif (bif (!s6) then (((y1.cell 0).int : Int) == 1) else false) then (decide ((r3 : Int) > 0)) else false) then (
bif ((((List.length s8 : Nat) : Int) : Int) == 24) then (
Option.bind (m___sutureref1_Reader__fail n s4 s5 s6 s7) fun r4 =>
some (s0, s1, s2, s3, r4.1, r4.2.1, r4.2.2.1, r4.2.2.2, s8, s9))
else (
Option.bind (idx true [.int .i64, .str, .int .i64, .int .i64] s4 s5) fun y5 =>
Option.bind (m_sutureref1_declKind n (y5.cell 1).str) fun r6 =>
Option.bind (idx true [.int .i64, .str, .int .i64, .int .i64] s4 s5) fun y7 =>
Option.bind (m_sutureref1_Place n s0 (y7.cell 3).int) fun r8 =>
Option.bind (m___sutureref1_Reader__name n s4 (IntKind.wrap .i64 (s5 + 1)) s6 s7) fun r9 =>
bif ((r6 : Int) == 6) then (
Option.bind (m___sutureref1_Reader__number n 3 r9.2.1 r9.2.2.1 r9.2.2.2.1 r9.2.2.2.2) fun r10 =>
must true ((Nat.beq 4 4 || Nat.beq 4 0) && (decide (List.length s8 + List.length [(T.agg [(T.sc (.int .i64 r6)), (T.sc (.string r9.1)), (T.sc (.int .i64 r10.1)), (T.sc (.complex .f64 r8.1 r8.2))])] ≤ 1073741824) && sized 4 [(T.agg [(T.sc (.int .i64 r6)), (T.sc (.string r9.1)), (T.sc (.int .i64 r10.1)), (T.sc (.complex .f64 r8.1 r8.2))])])) (k (s0, s1, s2, s3, r10.2.1, r10.2.2.1, r10.2.2.2.1, r10.2.2.2.2, (s8 ++ [(T.agg [(T.sc (.int .i64 r6)), (T.sc (.string r9.1)), (T.sc (.int .i64 r10.1)), (T.sc (.complex .f64 r8.1 r8.2))])]), s9)))
else (
must true ((Nat.beq 4 4 || Nat.beq 4 0) && (decide (List.length s8 + List.length [(T.agg [(T.sc (.int .i64 r6)), (T.sc (.string r9.1)), (T.sc (.int .i64 0)), (T.sc (.complex .f64 r8.1 r8.2))])] ≤ 1073741824) && sized 4 [(T.agg [(T.sc (.int .i64 r6)), (T.sc (.string r9.1)), (T.sc (.int .i64 0)), (T.sc (.complex .f64 r8.1 r8.2))])])) (k (s0, s1, s2, s3, r9.2.1, r9.2.2.1, r9.2.2.2.1, r9.2.2.2.2, (s8 ++ [(T.agg [(T.sc (.int .i64 r6)), (T.sc (.string r9.1)), (T.sc (.int .i64 0)), (T.sc (.complex .f64 r8.1 r8.2))])]), s9)))))
else (
some (s0, s1, s2, s3, s4, s5, s6, s7, s8, s9))
def l_sutureref1_Parse_6 (n : Nat) : Nat → ByteArray × (List T) × (List T) × (List T) × (List T) × Int × Bool × Int × (List T) × (List T) → Option (ByteArray × (List T) × (List T) × (List T) × (List T) × Int × Bool × Int × (List T) × (List T))
  | 0, _ => none
  | m + 1, s => l_sutureref1_Parse_6_B n (l_sutureref1_Parse_6 n m) s
def l_sutureref1_Parse_15_B (n : Nat) (k : ByteArray × (List T) × (List T) × (List T) × (List T) × Int × Bool × Int × (List T) × (List T) → Option ((List T) × (List T) × (List T) × (List T) × Int × Bool × Int × (List T) × (List T))) : ByteArray × (List T) × (List T) × (List T) × (List T) × Int × Bool × Int × (List T) × (List T) → Option ((List T) × (List T) × (List T) × (List T) × Int × Bool × Int × (List T) × (List T)) := fun (s0, s1, s2, s3, s4, s5, s6, s7, s8, s9) =>
Option.bind (idx ((!s6)) [.int .i64, .str, .int .i64, .int .i64] s4 s5) fun y13 =>
bif (bif (!s6) then (bif (((y13.cell 0).int : Int) != 4) then true else ((((List.length s9 : Nat) : Int) : Int) == 0)) else false) then (
Option.bind (m___sutureref1_Reader__word n (⟨#[103, 111]⟩ : ByteArray) s4 s5 s6 s7) fun r14 =>
bif (bif (!r14.1) then true else ((((List.length s9 : Nat) : Int) : Int) == 4)) then (
Option.bind (m___sutureref1_Reader__fail n r14.2.1 r14.2.2.1 r14.2.2.2.1 r14.2.2.2.2) fun r15 =>
some (s1, s2, s3, r15.1, r15.2.1, r15.2.2.1, r15.2.2.2, s8, s9))
else (
Option.bind (m___sutureref1_Reader__block n s0 1 r14.2.1 (IntKind.wrap .i64 (r14.2.2.1 + 1)) r14.2.2.2.1 r14.2.2.2.2) fun r16 =>
must true ((Nat.beq 1 1 || Nat.beq 1 0) && (decide (List.length s9 + List.length [(T.list r16.1)] ≤ 1073741824) && sized 1 [(T.list r16.1)])) (k (s0, s1, s2, s3, r16.2.1, r16.2.2.1, r16.2.2.2.1, r16.2.2.2.2, s8, (s9 ++ [(T.list r16.1)])))))
else (
some (s1, s2, s3, s4, s5, s6, s7, s8, s9))
def l_sutureref1_Parse_15 (n : Nat) : Nat → ByteArray × (List T) × (List T) × (List T) × (List T) × Int × Bool × Int × (List T) × (List T) → Option ((List T) × (List T) × (List T) × (List T) × Int × Bool × Int × (List T) × (List T))
  | 0, _ => none
  | m + 1, s => l_sutureref1_Parse_15_B n (l_sutureref1_Parse_15 n m) s
def m_sutureref1_Parse (n : Nat) (a0 : ByteArray) : Option ((List T) × (List T) × Int × Int) :=
Option.bind (m_sutureref1_Tokens n a0) fun r0 =>
bif ((r0.2.2 : Int) != 0) then (
some (([] : List T), ([] : List T), r0.2.1, r0.2.2))
else (
Option.bind (l_sutureref1_Parse_6 n n (a0, r0.1, ([] : List T), ([] : List T), r0.1, 0, false, 0, ([] : List T), ([] : List T))) fun p12 =>
Option.bind (l_sutureref1_Parse_15 n n (p12.1, p12.2.1, p12.2.2.1, p12.2.2.2.1, p12.2.2.2.2.1, p12.2.2.2.2.2.1, p12.2.2.2.2.2.2.1, p12.2.2.2.2.2.2.2.1, p12.2.2.2.2.2.2.2.2.1, p12.2.2.2.2.2.2.2.2.2)) fun p18 =>
bif p18.2.2.2.2.2.1 then (
Option.bind (idx true [.int .i64, .str, .int .i64, .int .i64] p18.1 p18.2.2.2.2.2.2.1) fun y19 =>
some (([] : List T), ([] : List T), (y19.cell 3).int, 2))
else (
some (p18.2.2.2.2.2.2.2.1, p18.2.2.2.2.2.2.2.2, 0, 0)))
def d_sutureref1_Parse : FnF := ⟨23, [.str], [.tup 3, .agg 2, .list, .list, .int .i64, .int .i64]⟩
def cs_sutureref1_Parse (n : Nat) : List (CalF Try.prog) := [⟨d_sutureref1_Tokens, m_sutureref1_Tokens n, m_sutureref1_Tokens_ok n⟩, ⟨d_sutureref1_declKind, m_sutureref1_declKind n, m_sutureref1_declKind_ok n⟩, ⟨d___sutureref1_Reader__fail, m___sutureref1_Reader__fail n, m___sutureref1_Reader__fail_ok n⟩, ⟨d_sutureref1_Place, m_sutureref1_Place n, m_sutureref1_Place_ok n⟩, ⟨d___sutureref1_Reader__name, m___sutureref1_Reader__name n, m___sutureref1_Reader__name_ok n⟩, ⟨d___sutureref1_Reader__number, m___sutureref1_Reader__number n, m___sutureref1_Reader__number_ok n⟩, ⟨d___sutureref1_Reader__word, m___sutureref1_Reader__word n, m___sutureref1_Reader__word_ok n⟩, ⟨d___sutureref1_Reader__block, m___sutureref1_Reader__block n, m___sutureref1_Reader__block_ok n⟩]
def L_l_sutureref1_Parse_6 : LF := ⟨6, [0, 2, 5, 8, 9], [.str, .ptr 0 0, .list, .ptr 1 0, .ptr 2 0, .box 2, .own 0, .own 0, .box 4, .list, .int .i64, .bool, .int .i64, .box 2, .own 4, .own 0], [⟨(.exit 0), [0, 2, 5, 8, 9], [.str, .ptr 0 0, .list, .ptr 1 0, .ptr 2 0, .box 2, .own 0, .own 0, .box 4, .list, .int .i64, .bool, .int .i64, .box 2, .own 4, .own 0]⟩]⟩
def L_l_sutureref1_Parse_15 : LF := ⟨15, [0, 2, 5, 8, 9], [.str, .ptr 0 0, .list, .ptr 1 0, .ptr 2 0, .box 2, .own 0, .own 0, .box 4, .list, .int .i64, .bool, .int .i64, .box 2, .own 4, .own 1], [⟨(.exit 2), [2, 5, 8, 9], [.ptr 0 0, .list, .ptr 1 0, .ptr 2 0, .box 2, .own 0, .own 0, .box 4, .list, .int .i64, .bool, .int .i64, .box 2, .own 4, .own 1]⟩]⟩
def ls_sutureref1_Parse (n : Nat) : List LE := [⟨6, loopS L_l_sutureref1_Parse_6 (l_sutureref1_Parse_6 n n)⟩, ⟨15, loopS L_l_sutureref1_Parse_15 (l_sutureref1_Parse_15 n n)⟩]
theorem l_sutureref1_Parse_6_ok (n : Nat) : LoopOk Try.prog (mkSpec (cs_sutureref1_Parse n) (ls_sutureref1_Parse n)) 0 179 (loopAt Try.f23 0) := loopOk (L := L_l_sutureref1_Parse_6) (f := l_sutureref1_Parse_6 n) (B := l_sutureref1_Parse_6_B n) (k := n) (loopAt_ok sound Try.func23 (by kernel_rfl)) (inner (by kernel_rfl) allN) (innerS (by kernel_rfl) allN) (fun _ => rfl) (fun _ _ => rfl) (by kernel_rfl) (fun _ => by kernel_rfl) (by kernel_rfl) (fun k a => by kernel_rfl)
theorem l_sutureref1_Parse_15_ok (n : Nat) : LoopOk Try.prog (mkSpec (cs_sutureref1_Parse n) (ls_sutureref1_Parse n)) 0 179 (loopAt Try.f23 1) := loopOk (L := L_l_sutureref1_Parse_15) (f := l_sutureref1_Parse_15 n) (B := l_sutureref1_Parse_15_B n) (k := n) (loopAt_ok sound Try.func23 (by kernel_rfl)) (inner (by kernel_rfl) allN) (innerS (by kernel_rfl) allN) (fun _ => rfl) (fun _ _ => rfl) (by kernel_rfl) (fun _ => by kernel_rfl) (by kernel_rfl) (fun k a => by kernel_rfl)
theorem m_sutureref1_Parse_ok (n : Nat) : Ok Try.prog d_sutureref1_Parse (m_sutureref1_Parse n) := fnOk sound (cs := cs_sutureref1_Parse n) (ls := ls_sutureref1_Parse n) (n := 179) Try.func23 (by kernel_rfl) (fun _ => by kernel_rfl) (inner (by kernel_rfl) (allC (l_sutureref1_Parse_6_ok n) (allC (l_sutureref1_Parse_15_ok n) allN))) (innerS (by kernel_rfl) allN) (by kernel_rfl) (fun a => by kernel_rfl)


/-! suture/suturelaw9.read -/
def m_suturelaw9_read (n : Nat) (a0 : ByteArray) : Option ((List T) × (List T)) :=
Option.bind (m_sutureref1_Parse n a0) fun r0 =>
some (r0.1, r0.2.1)
def d_suturelaw9_read : FnF := ⟨8, [.str], [.agg 2, .list, .list]⟩
theorem m_suturelaw9_read_ok (n : Nat) : Ok Try.prog d_suturelaw9_read (m_suturelaw9_read n) := fnOk0 sound [⟨d_sutureref1_Parse, m_sutureref1_Parse n, m_sutureref1_Parse_ok n⟩] Try.func8 (by kernel_rfl) (fun a => by kernel_rfl)


/-! suture/suturelaw9.deep -/
def l_suturelaw9_deep_4_B (n : Nat) (k : ByteArray × Int × (List T) × Int × Int × (List T) × (List T) → Option (ByteArray × Int × (List T) × (List T))) : ByteArray × Int × (List T) × Int × Int × (List T) × (List T) → Option (ByteArray × Int × (List T) × (List T)) := fun (s0, s1, s2, s3, s4, s5, s6) =>
bif (decide ((s4 : Int) < s3)) then (
Option.bind (idx true [.int .i64] s2 s4) fun y0 =>
Option.bind (m_suturehand_Pick n (y0.cell 0).int 10) fun r1 =>
bif (decide ((r1 : Int) < 3)) then (
must true (decide (((ByteArray.size s0 + ByteArray.size (⟨#[32, 103, 111, 116, 111, 32]⟩ : ByteArray) : Nat) : Int) ≤ IntKind.i64.max)) (must true (!decide (10 = 0)) (Option.bind (m_suturehand_Pick n (IntKind.wrap .i64 (Int.tdiv (y0.cell 0).int 10)) 3) fun r2 =>
Option.bind (idx1 true (.str) [(T.sc (.string (⟨#[97]⟩ : ByteArray))), (T.sc (.string (⟨#[98]⟩ : ByteArray))), (T.sc (.string (⟨#[101]⟩ : ByteArray)))] r2) fun y3 =>
must true (decide (((ByteArray.size (s0 ++ (⟨#[32, 103, 111, 116, 111, 32]⟩ : ByteArray)) + ByteArray.size y3.str : Nat) : Int) ≤ IntKind.i64.max)) (k (((s0 ++ (⟨#[32, 103, 111, 116, 111, 32]⟩ : ByteArray)) ++ y3.str), s1, s2, s3, (IntKind.wrap .i64 (s4 + 1)), s5, s6)))))
else (
bif (decide ((r1 : Int) < 6)) then (
must true (decide (((ByteArray.size s0 + ByteArray.size (⟨#[32, 108, 97, 98, 101, 108, 32]⟩ : ByteArray) : Nat) : Int) ≤ IntKind.i64.max)) (must true (!decide (10 = 0)) (Option.bind (m_suturehand_Pick n (IntKind.wrap .i64 (Int.tdiv (y0.cell 0).int 10)) 3) fun r4 =>
Option.bind (idx1 true (.str) [(T.sc (.string (⟨#[97]⟩ : ByteArray))), (T.sc (.string (⟨#[98]⟩ : ByteArray))), (T.sc (.string (⟨#[101]⟩ : ByteArray)))] r4) fun y5 =>
must true (decide (((ByteArray.size (s0 ++ (⟨#[32, 108, 97, 98, 101, 108, 32]⟩ : ByteArray)) + ByteArray.size y5.str : Nat) : Int) ≤ IntKind.i64.max)) (k (((s0 ++ (⟨#[32, 108, 97, 98, 101, 108, 32]⟩ : ByteArray)) ++ y5.str), s1, s2, s3, (IntKind.wrap .i64 (s4 + 1)), s5, s6)))))
else (
bif (decide ((r1 : Int) < 8)) then (
bif (decide ((s1 : Int) < 5)) then (
must true (!decide (10 = 0)) (Option.bind (m_suturehand_Pick n (IntKind.wrap .i64 (Int.tdiv (y0.cell 0).int 10)) 2) fun r6 =>
Option.bind (idx1 true (.str) [(T.sc (.string (⟨#[32, 105, 102, 32, 49, 32, 123]⟩ : ByteArray))), (T.sc (.string (⟨#[32, 114, 101, 112, 101, 97, 116, 32, 50, 32, 123]⟩ : ByteArray)))] r6) fun y7 =>
must true (decide (((ByteArray.size s0 + ByteArray.size y7.str : Nat) : Int) ≤ IntKind.i64.max)) (k ((s0 ++ y7.str), (IntKind.wrap .i64 (s1 + 1)), s2, s3, (IntKind.wrap .i64 (s4 + 1)), s5, s6))))
else (
k (s0, s1, s2, s3, (IntKind.wrap .i64 (s4 + 1)), s5, s6)))
else (
bif ((r1 : Int) == 8) then (
bif (decide ((s1 : Int) > 0)) then (
must true (decide (((ByteArray.size s0 + ByteArray.size (⟨#[125]⟩ : ByteArray) : Nat) : Int) ≤ IntKind.i64.max)) (k ((s0 ++ (⟨#[125]⟩ : ByteArray)), (IntKind.wrap .i64 (s1 - 1)), s2, s3, (IntKind.wrap .i64 (s4 + 1)), s5, s6)))
else (
k (s0, s1, s2, s3, (IntKind.wrap .i64 (s4 + 1)), s5, s6)))
else (
bif ((s1 : Int) == 0) then (
must true (decide (((ByteArray.size s0 + ByteArray.size (⟨#[125, 32, 103, 111, 32, 123]⟩ : ByteArray) : Nat) : Int) ≤ IntKind.i64.max)) (k ((s0 ++ (⟨#[125, 32, 103, 111, 32, 123]⟩ : ByteArray)), s1, s2, s3, (IntKind.wrap .i64 (s4 + 1)), s5, s6)))
else (
k (s0, s1, s2, s3, (IntKind.wrap .i64 (s4 + 1)), s5, s6)))))))
else (
some (s0, s1, s5, s6))
def l_suturelaw9_deep_4 (n : Nat) : Nat → ByteArray × Int × (List T) × Int × Int × (List T) × (List T) → Option (ByteArray × Int × (List T) × (List T))
  | 0, _ => none
  | m + 1, s => l_suturelaw9_deep_4_B n (l_suturelaw9_deep_4 n m) s
def l_suturelaw9_deep_22_B (n : Nat) (k : ByteArray × Int × (List T) × (List T) → Option (ByteArray × (List T) × (List T))) : ByteArray × Int × (List T) × (List T) → Option (ByteArray × (List T) × (List T)) := fun (s0, s1, s2, s3) =>
bif (decide ((s1 : Int) ≥ 0)) then (
must true (decide (((ByteArray.size s0 + ByteArray.size (⟨#[125]⟩ : ByteArray) : Nat) : Int) ≤ IntKind.i64.max)) (k ((s0 ++ (⟨#[125]⟩ : ByteArray)), (IntKind.wrap .i64 (s1 - 1)), s2, s3)))
else (
some (s0, s2, s3))
def l_suturelaw9_deep_22 (n : Nat) : Nat → ByteArray × Int × (List T) × (List T) → Option (ByteArray × (List T) × (List T))
  | 0, _ => none
  | m + 1, s => l_suturelaw9_deep_22_B n (l_suturelaw9_deep_22 n m) s
def m_suturelaw9_deep (n : Nat) (a0 : List T) : Option ((List T) × (List T)) :=
Option.bind (l_suturelaw9_deep_4 n n ((⟨#[103, 111, 123]⟩ : ByteArray), 0, a0, ((List.length a0 : Nat) : Int), 0, ([] : List T), ([] : List T))) fun p9 =>
Option.bind (l_suturelaw9_deep_22 n n (p9.1, p9.2.1, p9.2.2.1, p9.2.2.2)) fun p11 =>
Option.bind (m_suturelaw9_read n p11.1) fun r12 =>
some (r12.1, r12.2)
def d_suturelaw9_deep : FnF := ⟨12, [.list], [.agg 2, .list, .list]⟩
def cs_suturelaw9_deep (n : Nat) : List (CalF Try.prog) := [⟨d_suturehand_Pick, m_suturehand_Pick n, m_suturehand_Pick_ok n⟩, ⟨d_suturelaw9_read, m_suturelaw9_read n, m_suturelaw9_read_ok n⟩]
def L_l_suturelaw9_deep_4 : LF := ⟨4, [2, 3, 4, 8, 9, 10], [.ptr 0 0, .str, .int .i64, .list, .int .i64, .int .i64, .box 2, .own 0, .own 0], [⟨(.exit 0), [2, 3, 4], [.ptr 0 0, .str, .int .i64, .box 2, .own 0, .own 0]⟩]⟩
def L_l_suturelaw9_deep_22 : LF := ⟨22, [2, 3, 4], [.ptr 0 0, .str, .int .i64, .box 2, .own 0, .own 0], [⟨(.exit 3), [2, 3], [.ptr 0 0, .str, .box 2, .own 0, .own 0]⟩]⟩
def ls_suturelaw9_deep (n : Nat) : List LE := [⟨4, loopS L_l_suturelaw9_deep_4 (l_suturelaw9_deep_4 n n)⟩, ⟨22, loopS L_l_suturelaw9_deep_22 (l_suturelaw9_deep_22 n n)⟩]
theorem l_suturelaw9_deep_4_ok (n : Nat) : LoopOk Try.prog (mkSpec (cs_suturelaw9_deep n) (ls_suturelaw9_deep n)) 0 74 (loopAt Try.f12 0) := loopOk (L := L_l_suturelaw9_deep_4) (f := l_suturelaw9_deep_4 n) (B := l_suturelaw9_deep_4_B n) (k := n) (loopAt_ok sound Try.func12 (by kernel_rfl)) (inner (by kernel_rfl) allN) (innerS (by kernel_rfl) allN) (fun _ => rfl) (fun _ _ => rfl) (by kernel_rfl) (fun _ => by kernel_rfl) (by kernel_rfl) (fun k a => by kernel_rfl)
theorem l_suturelaw9_deep_22_ok (n : Nat) : LoopOk Try.prog (mkSpec (cs_suturelaw9_deep n) (ls_suturelaw9_deep n)) 0 74 (loopAt Try.f12 1) := loopOk (L := L_l_suturelaw9_deep_22) (f := l_suturelaw9_deep_22 n) (B := l_suturelaw9_deep_22_B n) (k := n) (loopAt_ok sound Try.func12 (by kernel_rfl)) (inner (by kernel_rfl) allN) (innerS (by kernel_rfl) allN) (fun _ => rfl) (fun _ _ => rfl) (by kernel_rfl) (fun _ => by kernel_rfl) (by kernel_rfl) (fun k a => by kernel_rfl)
theorem m_suturelaw9_deep_ok (n : Nat) : Ok Try.prog d_suturelaw9_deep (m_suturelaw9_deep n) := fnOk sound (cs := cs_suturelaw9_deep n) (ls := ls_suturelaw9_deep n) (n := 74) Try.func12 (by kernel_rfl) (fun _ => by kernel_rfl) (inner (by kernel_rfl) (allC (l_suturelaw9_deep_4_ok n) (allC (l_suturelaw9_deep_22_ok n) allN))) (innerS (by kernel_rfl) allN) (by kernel_rfl) (fun a => by kernel_rfl)


/-! suture/suturehand.Decls: from elsewhere -/
def m_suturehand_Decls (n : Nat) (a0 : Int) : Option ((List T)) := declsM a0
def d_suturehand_Decls : FnF := ⟨25, [.int .i64], [.own 4]⟩
theorem m_suturehand_Decls_ok (n : Nat) : Ok Try.prog d_suturehand_Decls (m_suturehand_Decls n) := fun a r h => x_suturehand_Decls (show declsM a.1 = some r from h)


/-! suture/suturehand.acts -/
def m_suturehand_acts (n : Nat) (a0 : List T) : Option ((List T)) :=
bif (decide ((((List.length a0 : Nat) : Int) : Int) > 16)) then (
must true (decide (0 ≤ 0) && decide (0 ≤ 16) && decide (16 ≤ ((List.length a0 : Nat) : Int)) && sized 5 a0) (some (List.drop (Int.toNat 0) (List.take (Int.toNat 16) a0))))
else (
some a0)
def d_suturehand_acts : FnF := ⟨27, [.list], [.list]⟩
theorem m_suturehand_acts_ok (n : Nat) : Ok Try.prog d_suturehand_acts (m_suturehand_acts n) := fnOk0 sound [] Try.func27 (by kernel_rfl) (fun a => by kernel_rfl)


/-! suture/suturehand.plain -/
def m_suturehand_plain (n : Nat) (a0 : Int) : Option (ByteArray) :=
Option.bind (m_suturehand_Pick n a0 8) fun r0 =>
Option.bind (idx1 true (.str) [(T.sc (.string (⟨#[120]⟩ : ByteArray))), (T.sc (.string (⟨#[120]⟩ : ByteArray))), (T.sc (.string (⟨#[121]⟩ : ByteArray))), (T.sc (.string (⟨#[122]⟩ : ByteArray))), (T.sc (.string (⟨#[97]⟩ : ByteArray))), (T.sc (.string (⟨#[116]⟩ : ByteArray))), (T.sc (.string (⟨#[120]⟩ : ByteArray))), (T.sc (.string (⟨#[121]⟩ : ByteArray)))] r0) fun y1 =>
some y1.str
def d_suturehand_plain : FnF := ⟨43, [.int .i64], [.str]⟩
theorem m_suturehand_plain_ok (n : Nat) : Ok Try.prog d_suturehand_plain (m_suturehand_plain n) := fnOk0 sound [⟨d_suturehand_Pick, m_suturehand_Pick n, m_suturehand_Pick_ok n⟩] Try.func43 (by kernel_rfl) (fun a => by kernel_rfl)


/-! suturehand_Expr: a circle -/
structure B_suturehand_Expr where
  suturehand_Expr : List T → Int → Option (Int × Int × ByteArray × (List T))
def d_suturehand_Expr : FnF := ⟨56, [.list, .int .i64], [.agg 4, .int .i64, .int .i64, .str, .list]⟩
structure B_suturehand_Expr_ok (b : B_suturehand_Expr) : Prop where
  suturehand_Expr : Ok Try.prog d_suturehand_Expr b.suturehand_Expr

/-! suture/suturehand.Expr -/
def f_suturehand_Expr (b : B_suturehand_Expr) (n : Nat) (a0 : List T) (a1 : Int) : Option (Int × Int × ByteArray × (List T)) :=
bif ((((List.length a0 : Nat) : Int) : Int) == 0) then (
some (1, 1, (⟨#[]⟩ : ByteArray), ([] : List T)))
else (
Option.bind (idx true [.int .i64] a0 0) fun y0 =>
Option.bind (m_suturehand_Pick n (y0.cell 0).int 16) fun r1 =>
bif (bif (decide ((r1 : Int) < 5)) then true else (decide ((a1 : Int) > 5))) then (
must true (!decide (16 = 0)) (Option.bind (m_suturehand_plain n (IntKind.wrap .i64 (Int.tdiv (y0.cell 0).int 16))) fun r2 =>
some (2, 0, r2, ([] : List T))))
else (
bif (decide ((r1 : Int) < 8)) then (
must true (!decide (16 = 0)) (Option.bind (m_suturehand_Pick n (IntKind.wrap .i64 (Int.tdiv (y0.cell 0).int 16)) 5) fun r3 =>
some (1, r3, (⟨#[]⟩ : ByteArray), ([] : List T))))
else (
bif ((r1 : Int) == 8) then (
must true (decide (0 ≤ 1) && decide (1 ≤ ((List.length a0 : Nat) : Int)) && decide (((List.length a0 : Nat) : Int) ≤ ((List.length a0 : Nat) : Int)) && sized 1 a0) (Option.bind (b.suturehand_Expr (List.drop (Int.toNat 1) (List.take (Int.toNat ((List.length a0 : Nat) : Int)) a0)) (IntKind.wrap .i64 (a1 + 1))) fun r4 =>
some (3, 0, (⟨#[]⟩ : ByteArray), [(T.agg [(T.sc (.int .i64 r4.1)), (T.sc (.int .i64 r4.2.1)), (T.sc (.string r4.2.2.1)), (T.list r4.2.2.2)])])))
else (
must true (!decide (16 = 0)) (Option.bind (m_suturehand_Pick n (IntKind.wrap .i64 (Int.tdiv (y0.cell 0).int 16)) 7) fun r5 =>
must true (!decide (2 = 0)) (must true (decide (0 ≤ 1) && decide (1 ≤ (IntKind.wrap .i64 (1 + (IntKind.wrap .i64 (Int.tdiv ((List.length a0 : Nat) : Int) 2))))) && decide ((IntKind.wrap .i64 (1 + (IntKind.wrap .i64 (Int.tdiv ((List.length a0 : Nat) : Int) 2)))) ≤ ((List.length a0 : Nat) : Int)) && sized 1 a0) (Option.bind (b.suturehand_Expr (List.drop (Int.toNat 1) (List.take (Int.toNat (IntKind.wrap .i64 (1 + (IntKind.wrap .i64 (Int.tdiv ((List.length a0 : Nat) : Int) 2))))) a0)) (IntKind.wrap .i64 (a1 + 1))) fun r6 =>
must true (decide (0 ≤ (IntKind.wrap .i64 (1 + (IntKind.wrap .i64 (Int.tdiv ((List.length a0 : Nat) : Int) 2))))) && decide ((IntKind.wrap .i64 (1 + (IntKind.wrap .i64 (Int.tdiv ((List.length a0 : Nat) : Int) 2)))) ≤ ((List.length a0 : Nat) : Int)) && decide (((List.length a0 : Nat) : Int) ≤ ((List.length a0 : Nat) : Int)) && sized 1 a0) (Option.bind (b.suturehand_Expr (List.drop (Int.toNat (IntKind.wrap .i64 (1 + (IntKind.wrap .i64 (Int.tdiv ((List.length a0 : Nat) : Int) 2))))) (List.take (Int.toNat ((List.length a0 : Nat) : Int)) a0)) (IntKind.wrap .i64 (a1 + 1))) fun r7 =>
some ((IntKind.wrap .i64 (4 + r5)), 0, (⟨#[]⟩ : ByteArray), [(T.agg [(T.sc (.int .i64 r6.1)), (T.sc (.int .i64 r6.2.1)), (T.sc (.string r6.2.2.1)), (T.list r6.2.2.2)]), (T.agg [(T.sc (.int .i64 r7.1)), (T.sc (.int .i64 r7.2.1)), (T.sc (.string r7.2.2.1)), (T.list r7.2.2.2)])])))))))))
theorem f_suturehand_Expr_ok (b : B_suturehand_Expr) (hb : B_suturehand_Expr_ok b) (n : Nat) : Ok Try.prog d_suturehand_Expr (f_suturehand_Expr b n) := fnOk0 sound [⟨d_suturehand_Pick, m_suturehand_Pick n, m_suturehand_Pick_ok n⟩, ⟨d_suturehand_plain, m_suturehand_plain n, m_suturehand_plain_ok n⟩, ⟨d_suturehand_Expr, b.suturehand_Expr, hb.suturehand_Expr⟩] Try.func56 (by kernel_rfl) (fun a => by kernel_rfl)
def unB_suturehand_Expr (n : Nat) : Nat → B_suturehand_Expr
  | 0 => { suturehand_Expr := fun _ _ => none }
  | m + 1 => { suturehand_Expr := f_suturehand_Expr (unB_suturehand_Expr n m) n }
theorem unB_suturehand_Expr_ok (n : Nat) : ∀ m, B_suturehand_Expr_ok (unB_suturehand_Expr n m)
  | 0 => { suturehand_Expr := fun _ _ h => (nomatch (show none = some _ from h)) }
  | m + 1 => { suturehand_Expr := f_suturehand_Expr_ok _ (unB_suturehand_Expr_ok n m) n }
def m_suturehand_Expr (n : Nat) : List T → Int → Option (Int × Int × ByteArray × (List T)) := (unB_suturehand_Expr n n).suturehand_Expr
theorem m_suturehand_Expr_ok (n : Nat) : Ok Try.prog d_suturehand_Expr (m_suturehand_Expr n) := (unB_suturehand_Expr_ok n n).suturehand_Expr


/-! suture/suturehand.short -/
def m_suturehand_short (n : Nat) (a0 : Int) (a1 : Int) (a2 : Int) (a3 : Int) (a4 : List T) : Option (Int × Int × ByteArray × (List T)) :=
bif (decide ((((List.length a4 : Nat) : Int) : Int) > 3)) then (
must true (decide (0 ≤ 0) && decide (0 ≤ 3) && decide (3 ≤ ((List.length a4 : Nat) : Int)) && sized 1 a4) (Option.bind (m_suturehand_Expr n (List.drop (Int.toNat 0) (List.take (Int.toNat 3) a4)) 0) fun r0 =>
some (r0.1, r0.2.1, r0.2.2.1, r0.2.2.2)))
else (
Option.bind (m_suturehand_Expr n a4 0) fun r1 =>
some (r1.1, r1.2.1, r1.2.2.1, r1.2.2.2))
def d_suturehand_short : FnF := ⟨44, [.agg 5, .int .i64, .int .i64, .int .i64, .int .i64, .list], [.agg 4, .int .i64, .int .i64, .str, .list]⟩
theorem m_suturehand_short_ok (n : Nat) : Ok Try.prog d_suturehand_short (m_suturehand_short n) := fnOk0 sound [⟨d_suturehand_Expr, m_suturehand_Expr n, m_suturehand_Expr_ok n⟩] Try.func44 (by kernel_rfl) (fun a => by kernel_rfl)


/-! suturehand_stmts: a circle -/
structure B_suturehand_stmts where
  suturehand_stmts : List T → Int → Int → Option ((List T) × (List T))
def d_suturehand_stmts : FnF := ⟨26, [.list, .int .i64, .int .i64], [.tup 2, .list, .list]⟩
structure B_suturehand_stmts_ok (b : B_suturehand_stmts) : Prop where
  suturehand_stmts : Ok Try.prog d_suturehand_stmts b.suturehand_stmts

/-! suture/suturehand.stmts -/
def l_suturehand_stmts_2_B (b : B_suturehand_stmts) (n : Nat) (k : (List T) × Int × Int × (List T) → Option ((List T) × (List T))) : (List T) × Int × Int × (List T) → Option ((List T) × (List T)) := fun (s0, s1, s2, s3) =>
bif (bif (decide ((((List.length s3 : Nat) : Int) : Int) < s1)) then (decide ((((List.length s0 : Nat) : Int) : Int) > 0)) else false) then (
Option.bind (idx true [.int .i64, .int .i64, .int .i64, .int .i64, .list] s0 0) fun y0 =>
must true (decide (0 ≤ 1) && decide (1 ≤ ((List.length s0 : Nat) : Int)) && decide (((List.length s0 : Nat) : Int) ≤ ((List.length s0 : Nat) : Int)) && sized 5 s0) (Option.bind (m_suturehand_Pick n (y0.cell 0).int 24) fun r1 =>
bif (decide ((r1 : Int) < 9)) then (
Option.bind (m_suturehand_plain n (y0.cell 1).int) fun r2 =>
Option.bind (m_suturehand_short n (y0.cell 0).int (y0.cell 1).int (y0.cell 2).int (y0.cell 3).int (y0.cell 4).lst) fun r3 =>
must true ((Nat.beq 11 11 || Nat.beq 11 0) && (decide (List.length s3 + List.length [(T.agg [(T.sc (.int .i64 1)), (T.sc (.string r2)), (T.sc (.string (⟨#[]⟩ : ByteArray))), (T.sc (.int .i64 0)), (T.sc (.int .i64 r3.1)), (T.sc (.int .i64 r3.2.1)), (T.sc (.string r3.2.2.1)), (T.list r3.2.2.2), (T.list ([] : List T)), (T.list ([] : List T)), (T.sc (.complex .f64 0 0))])] ≤ 1073741824) && sized 11 [(T.agg [(T.sc (.int .i64 1)), (T.sc (.string r2)), (T.sc (.string (⟨#[]⟩ : ByteArray))), (T.sc (.int .i64 0)), (T.sc (.int .i64 r3.1)), (T.sc (.int .i64 r3.2.1)), (T.sc (.string r3.2.2.1)), (T.list r3.2.2.2), (T.list ([] : List T)), (T.list ([] : List T)), (T.sc (.complex .f64 0 0))])])) (k ((List.drop (Int.toNat 1) (List.take (Int.toNat ((List.length s0 : Nat) : Int)) s0)), s1, s2, (s3 ++ [(T.agg [(T.sc (.int .i64 1)), (T.sc (.string r2)), (T.sc (.string (⟨#[]⟩ : ByteArray))), (T.sc (.int .i64 0)), (T.sc (.int .i64 r3.1)), (T.sc (.int .i64 r3.2.1)), (T.sc (.string r3.2.2.1)), (T.list r3.2.2.2), (T.list ([] : List T)), (T.list ([] : List T)), (T.sc (.complex .f64 0 0))])]))))
else (
bif (decide ((r1 : Int) < 11)) then (
must true ((Nat.beq 11 11 || Nat.beq 11 0) && (decide (List.length s3 + List.length [(T.agg [(T.sc (.int .i64 2)), (T.sc (.string (⟨#[109]⟩ : ByteArray))), (T.sc (.string (⟨#[]⟩ : ByteArray))), (T.sc (.int .i64 0)), (T.sc (.int .i64 0)), (T.sc (.int .i64 0)), (T.sc (.string (⟨#[]⟩ : ByteArray))), (T.list ([] : List T)), (T.list ([] : List T)), (T.list ([] : List T)), (T.sc (.complex .f64 0 0))])] ≤ 1073741824) && sized 11 [(T.agg [(T.sc (.int .i64 2)), (T.sc (.string (⟨#[109]⟩ : ByteArray))), (T.sc (.string (⟨#[]⟩ : ByteArray))), (T.sc (.int .i64 0)), (T.sc (.int .i64 0)), (T.sc (.int .i64 0)), (T.sc (.string (⟨#[]⟩ : ByteArray))), (T.list ([] : List T)), (T.list ([] : List T)), (T.list ([] : List T)), (T.sc (.complex .f64 0 0))])])) (k ((List.drop (Int.toNat 1) (List.take (Int.toNat ((List.length s0 : Nat) : Int)) s0)), s1, s2, (s3 ++ [(T.agg [(T.sc (.int .i64 2)), (T.sc (.string (⟨#[109]⟩ : ByteArray))), (T.sc (.string (⟨#[]⟩ : ByteArray))), (T.sc (.int .i64 0)), (T.sc (.int .i64 0)), (T.sc (.int .i64 0)), (T.sc (.string (⟨#[]⟩ : ByteArray))), (T.list ([] : List T)), (T.list ([] : List T)), (T.list ([] : List T)), (T.sc (.complex .f64 0 0))])]))))
else (
bif (decide ((r1 : Int) < 13)) then (
must true ((Nat.beq 11 11 || Nat.beq 11 0) && (decide (List.length s3 + List.length [(T.agg [(T.sc (.int .i64 3)), (T.sc (.string (⟨#[109]⟩ : ByteArray))), (T.sc (.string (⟨#[]⟩ : ByteArray))), (T.sc (.int .i64 0)), (T.sc (.int .i64 0)), (T.sc (.int .i64 0)), (T.sc (.string (⟨#[]⟩ : ByteArray))), (T.list ([] : List T)), (T.list ([] : List T)), (T.list ([] : List T)), (T.sc (.complex .f64 0 0))])] ≤ 1073741824) && sized 11 [(T.agg [(T.sc (.int .i64 3)), (T.sc (.string (⟨#[109]⟩ : ByteArray))), (T.sc (.string (⟨#[]⟩ : ByteArray))), (T.sc (.int .i64 0)), (T.sc (.int .i64 0)), (T.sc (.int .i64 0)), (T.sc (.string (⟨#[]⟩ : ByteArray))), (T.list ([] : List T)), (T.list ([] : List T)), (T.list ([] : List T)), (T.sc (.complex .f64 0 0))])])) (k ((List.drop (Int.toNat 1) (List.take (Int.toNat ((List.length s0 : Nat) : Int)) s0)), s1, s2, (s3 ++ [(T.agg [(T.sc (.int .i64 3)), (T.sc (.string (⟨#[109]⟩ : ByteArray))), (T.sc (.string (⟨#[]⟩ : ByteArray))), (T.sc (.int .i64 0)), (T.sc (.int .i64 0)), (T.sc (.int .i64 0)), (T.sc (.string (⟨#[]⟩ : ByteArray))), (T.list ([] : List T)), (T.list ([] : List T)), (T.list ([] : List T)), (T.sc (.complex .f64 0 0))])]))))
else (
bif (decide ((r1 : Int) < 15)) then (
Option.bind (m_suturehand_Pick n (y0.cell 1).int 2) fun r4 =>
Option.bind (idx1 true (.str) [(T.sc (.string (⟨#[99]⟩ : ByteArray))), (T.sc (.string (⟨#[100]⟩ : ByteArray)))] r4) fun y5 =>
Option.bind (m_suturehand_short n (y0.cell 0).int (y0.cell 1).int (y0.cell 2).int (y0.cell 3).int (y0.cell 4).lst) fun r6 =>
must true ((Nat.beq 11 11 || Nat.beq 11 0) && (decide (List.length s3 + List.length [(T.agg [(T.sc (.int .i64 4)), (T.sc (.string y5.str)), (T.sc (.string (⟨#[]⟩ : ByteArray))), (T.sc (.int .i64 0)), (T.sc (.int .i64 r6.1)), (T.sc (.int .i64 r6.2.1)), (T.sc (.string r6.2.2.1)), (T.list r6.2.2.2), (T.list ([] : List T)), (T.list ([] : List T)), (T.sc (.complex .f64 0 0))])] ≤ 1073741824) && sized 11 [(T.agg [(T.sc (.int .i64 4)), (T.sc (.string y5.str)), (T.sc (.string (⟨#[]⟩ : ByteArray))), (T.sc (.int .i64 0)), (T.sc (.int .i64 r6.1)), (T.sc (.int .i64 r6.2.1)), (T.sc (.string r6.2.2.1)), (T.list r6.2.2.2), (T.list ([] : List T)), (T.list ([] : List T)), (T.sc (.complex .f64 0 0))])])) (k ((List.drop (Int.toNat 1) (List.take (Int.toNat ((List.length s0 : Nat) : Int)) s0)), s1, s2, (s3 ++ [(T.agg [(T.sc (.int .i64 4)), (T.sc (.string y5.str)), (T.sc (.string (⟨#[]⟩ : ByteArray))), (T.sc (.int .i64 0)), (T.sc (.int .i64 r6.1)), (T.sc (.int .i64 r6.2.1)), (T.sc (.string r6.2.2.1)), (T.list r6.2.2.2), (T.list ([] : List T)), (T.list ([] : List T)), (T.sc (.complex .f64 0 0))])]))))
else (
bif (decide ((r1 : Int) < 17)) then (
Option.bind (m_suturehand_Pick n (y0.cell 1).int 2) fun r7 =>
Option.bind (idx1 true (.str) [(T.sc (.string (⟨#[99]⟩ : ByteArray))), (T.sc (.string (⟨#[100]⟩ : ByteArray)))] r7) fun y8 =>
Option.bind (m_suturehand_plain n (y0.cell 2).int) fun r9 =>
must true ((Nat.beq 11 11 || Nat.beq 11 0) && (decide (List.length s3 + List.length [(T.agg [(T.sc (.int .i64 5)), (T.sc (.string y8.str)), (T.sc (.string r9)), (T.sc (.int .i64 0)), (T.sc (.int .i64 0)), (T.sc (.int .i64 0)), (T.sc (.string (⟨#[]⟩ : ByteArray))), (T.list ([] : List T)), (T.list ([] : List T)), (T.list ([] : List T)), (T.sc (.complex .f64 0 0))])] ≤ 1073741824) && sized 11 [(T.agg [(T.sc (.int .i64 5)), (T.sc (.string y8.str)), (T.sc (.string r9)), (T.sc (.int .i64 0)), (T.sc (.int .i64 0)), (T.sc (.int .i64 0)), (T.sc (.string (⟨#[]⟩ : ByteArray))), (T.list ([] : List T)), (T.list ([] : List T)), (T.list ([] : List T)), (T.sc (.complex .f64 0 0))])])) (k ((List.drop (Int.toNat 1) (List.take (Int.toNat ((List.length s0 : Nat) : Int)) s0)), s1, s2, (s3 ++ [(T.agg [(T.sc (.int .i64 5)), (T.sc (.string y8.str)), (T.sc (.string r9)), (T.sc (.int .i64 0)), (T.sc (.int .i64 0)), (T.sc (.int .i64 0)), (T.sc (.string (⟨#[]⟩ : ByteArray))), (T.list ([] : List T)), (T.list ([] : List T)), (T.list ([] : List T)), (T.sc (.complex .f64 0 0))])]))))
else (
bif (decide ((r1 : Int) < 18)) then (
Option.bind (m_suturehand_short n (y0.cell 0).int (y0.cell 1).int (y0.cell 2).int (y0.cell 3).int (y0.cell 4).lst) fun r10 =>
must true ((Nat.beq 11 11 || Nat.beq 11 0) && (decide (List.length s3 + List.length [(T.agg [(T.sc (.int .i64 6)), (T.sc (.string (⟨#[]⟩ : ByteArray))), (T.sc (.string (⟨#[]⟩ : ByteArray))), (T.sc (.int .i64 0)), (T.sc (.int .i64 r10.1)), (T.sc (.int .i64 r10.2.1)), (T.sc (.string r10.2.2.1)), (T.list r10.2.2.2), (T.list ([] : List T)), (T.list ([] : List T)), (T.sc (.complex .f64 0 0))])] ≤ 1073741824) && sized 11 [(T.agg [(T.sc (.int .i64 6)), (T.sc (.string (⟨#[]⟩ : ByteArray))), (T.sc (.string (⟨#[]⟩ : ByteArray))), (T.sc (.int .i64 0)), (T.sc (.int .i64 r10.1)), (T.sc (.int .i64 r10.2.1)), (T.sc (.string r10.2.2.1)), (T.list r10.2.2.2), (T.list ([] : List T)), (T.list ([] : List T)), (T.sc (.complex .f64 0 0))])])) (k ((List.drop (Int.toNat 1) (List.take (Int.toNat ((List.length s0 : Nat) : Int)) s0)), s1, s2, (s3 ++ [(T.agg [(T.sc (.int .i64 6)), (T.sc (.string (⟨#[]⟩ : ByteArray))), (T.sc (.string (⟨#[]⟩ : ByteArray))), (T.sc (.int .i64 0)), (T.sc (.int .i64 r10.1)), (T.sc (.int .i64 r10.2.1)), (T.sc (.string r10.2.2.1)), (T.list r10.2.2.2), (T.list ([] : List T)), (T.list ([] : List T)), (T.sc (.complex .f64 0 0))])]))))
else (
bif (bif (decide ((r1 : Int) < 20)) then (decide ((s2 : Int) < 3)) else false) then (
Option.bind (m_suturehand_short n (y0.cell 0).int (y0.cell 1).int (y0.cell 2).int (y0.cell 3).int (y0.cell 4).lst) fun r11 =>
Option.bind (m_suturehand_Pick n (y0.cell 1).int 2) fun r12 =>
Option.bind (b.suturehand_stmts (List.drop (Int.toNat 1) (List.take (Int.toNat ((List.length s0 : Nat) : Int)) s0)) (IntKind.wrap .i64 (1 + r12)) (IntKind.wrap .i64 (s2 + 1))) fun r13 =>
must true (!decide (3 = 0)) (bif (((Int.tmod (y0.cell 2).int 3) : Int) == 0) then (
Option.bind (m_suturehand_Pick n (y0.cell 3).int 2) fun r14 =>
Option.bind (b.suturehand_stmts r13.2 (IntKind.wrap .i64 (1 + r14)) (IntKind.wrap .i64 (s2 + 1))) fun r15 =>
must true ((Nat.beq 11 11 || Nat.beq 11 0) && (decide (List.length s3 + List.length [(T.agg [(T.sc (.int .i64 7)), (T.sc (.string (⟨#[]⟩ : ByteArray))), (T.sc (.string (⟨#[]⟩ : ByteArray))), (T.sc (.int .i64 0)), (T.sc (.int .i64 r11.1)), (T.sc (.int .i64 r11.2.1)), (T.sc (.string r11.2.2.1)), (T.list r11.2.2.2), (T.list r13.1), (T.list r15.1), (T.sc (.complex .f64 0 0))])] ≤ 1073741824) && sized 11 [(T.agg [(T.sc (.int .i64 7)), (T.sc (.string (⟨#[]⟩ : ByteArray))), (T.sc (.string (⟨#[]⟩ : ByteArray))), (T.sc (.int .i64 0)), (T.sc (.int .i64 r11.1)), (T.sc (.int .i64 r11.2.1)), (T.sc (.string r11.2.2.1)), (T.list r11.2.2.2), (T.list r13.1), (T.list r15.1), (T.sc (.complex .f64 0 0))])])) (k (r15.2, s1, s2, (s3 ++ [(T.agg [(T.sc (.int .i64 7)), (T.sc (.string (⟨#[]⟩ : ByteArray))), (T.sc (.string (⟨#[]⟩ : ByteArray))), (T.sc (.int .i64 0)), (T.sc (.int .i64 r11.1)), (T.sc (.int .i64 r11.2.1)), (T.sc (.string r11.2.2.1)), (T.list r11.2.2.2), (T.list r13.1), (T.list r15.1), (T.sc (.complex .f64 0 0))])]))))
else (
must true ((Nat.beq 11 11 || Nat.beq 11 0) && (decide (List.length s3 + List.length [(T.agg [(T.sc (.int .i64 7)), (T.sc (.string (⟨#[]⟩ : ByteArray))), (T.sc (.string (⟨#[]⟩ : ByteArray))), (T.sc (.int .i64 0)), (T.sc (.int .i64 r11.1)), (T.sc (.int .i64 r11.2.1)), (T.sc (.string r11.2.2.1)), (T.list r11.2.2.2), (T.list r13.1), (T.list ([] : List T)), (T.sc (.complex .f64 0 0))])] ≤ 1073741824) && sized 11 [(T.agg [(T.sc (.int .i64 7)), (T.sc (.string (⟨#[]⟩ : ByteArray))), (T.sc (.string (⟨#[]⟩ : ByteArray))), (T.sc (.int .i64 0)), (T.sc (.int .i64 r11.1)), (T.sc (.int .i64 r11.2.1)), (T.sc (.string r11.2.2.1)), (T.list r11.2.2.2), (T.list r13.1), (T.list ([] : List T)), (T.sc (.complex .f64 0 0))])])) (k (r13.2, s1, s2, (s3 ++ [(T.agg [(T.sc (.int .i64 7)), (T.sc (.string (⟨#[]⟩ : ByteArray))), (T.sc (.string (⟨#[]⟩ : ByteArray))), (T.sc (.int .i64 0)), (T.sc (.int .i64 r11.1)), (T.sc (.int .i64 r11.2.1)), (T.sc (.string r11.2.2.1)), (T.list r11.2.2.2), (T.list r13.1), (T.list ([] : List T)), (T.sc (.complex .f64 0 0))])]))))))
else (
bif (bif (decide ((r1 : Int) < 21)) then (decide ((s2 : Int) < 3)) else false) then (
Option.bind (m_suturehand_Pick n (y0.cell 3).int 3) fun r16 =>
Option.bind (m_suturehand_Pick n (y0.cell 1).int 2) fun r17 =>
Option.bind (b.suturehand_stmts (List.drop (Int.toNat 1) (List.take (Int.toNat ((List.length s0 : Nat) : Int)) s0)) (IntKind.wrap .i64 (1 + r17)) (IntKind.wrap .i64 (s2 + 1))) fun r18 =>
must true ((Nat.beq 11 11 || Nat.beq 11 0) && (decide (List.length s3 + List.length [(T.agg [(T.sc (.int .i64 8)), (T.sc (.string (⟨#[]⟩ : ByteArray))), (T.sc (.string (⟨#[]⟩ : ByteArray))), (T.sc (.int .i64 r16)), (T.sc (.int .i64 0)), (T.sc (.int .i64 0)), (T.sc (.string (⟨#[]⟩ : ByteArray))), (T.list ([] : List T)), (T.list r18.1), (T.list ([] : List T)), (T.sc (.complex .f64 0 0))])] ≤ 1073741824) && sized 11 [(T.agg [(T.sc (.int .i64 8)), (T.sc (.string (⟨#[]⟩ : ByteArray))), (T.sc (.string (⟨#[]⟩ : ByteArray))), (T.sc (.int .i64 r16)), (T.sc (.int .i64 0)), (T.sc (.int .i64 0)), (T.sc (.string (⟨#[]⟩ : ByteArray))), (T.list ([] : List T)), (T.list r18.1), (T.list ([] : List T)), (T.sc (.complex .f64 0 0))])])) (k (r18.2, s1, s2, (s3 ++ [(T.agg [(T.sc (.int .i64 8)), (T.sc (.string (⟨#[]⟩ : ByteArray))), (T.sc (.string (⟨#[]⟩ : ByteArray))), (T.sc (.int .i64 r16)), (T.sc (.int .i64 0)), (T.sc (.int .i64 0)), (T.sc (.string (⟨#[]⟩ : ByteArray))), (T.list ([] : List T)), (T.list r18.1), (T.list ([] : List T)), (T.sc (.complex .f64 0 0))])]))))
else (
bif (decide ((r1 : Int) < 22)) then (
Option.bind (m_suturehand_Pick n (y0.cell 1).int 2) fun r19 =>
Option.bind (idx1 true (.str) [(T.sc (.string (⟨#[108]⟩ : ByteArray))), (T.sc (.string (⟨#[107]⟩ : ByteArray)))] r19) fun y20 =>
must true ((Nat.beq 11 11 || Nat.beq 11 0) && (decide (List.length s3 + List.length [(T.agg [(T.sc (.int .i64 9)), (T.sc (.string y20.str)), (T.sc (.string (⟨#[]⟩ : ByteArray))), (T.sc (.int .i64 0)), (T.sc (.int .i64 0)), (T.sc (.int .i64 0)), (T.sc (.string (⟨#[]⟩ : ByteArray))), (T.list ([] : List T)), (T.list ([] : List T)), (T.list ([] : List T)), (T.sc (.complex .f64 0 0))])] ≤ 1073741824) && sized 11 [(T.agg [(T.sc (.int .i64 9)), (T.sc (.string y20.str)), (T.sc (.string (⟨#[]⟩ : ByteArray))), (T.sc (.int .i64 0)), (T.sc (.int .i64 0)), (T.sc (.int .i64 0)), (T.sc (.string (⟨#[]⟩ : ByteArray))), (T.list ([] : List T)), (T.list ([] : List T)), (T.list ([] : List T)), (T.sc (.complex .f64 0 0))])])) (k ((List.drop (Int.toNat 1) (List.take (Int.toNat ((List.length s0 : Nat) : Int)) s0)), s1, s2, (s3 ++ [(T.agg [(T.sc (.int .i64 9)), (T.sc (.string y20.str)), (T.sc (.string (⟨#[]⟩ : ByteArray))), (T.sc (.int .i64 0)), (T.sc (.int .i64 0)), (T.sc (.int .i64 0)), (T.sc (.string (⟨#[]⟩ : ByteArray))), (T.list ([] : List T)), (T.list ([] : List T)), (T.list ([] : List T)), (T.sc (.complex .f64 0 0))])]))))
else (
bif (decide ((r1 : Int) < 23)) then (
Option.bind (m_suturehand_Pick n (y0.cell 1).int 2) fun r21 =>
Option.bind (idx1 true (.str) [(T.sc (.string (⟨#[108]⟩ : ByteArray))), (T.sc (.string (⟨#[107]⟩ : ByteArray)))] r21) fun y22 =>
must true ((Nat.beq 11 11 || Nat.beq 11 0) && (decide (List.length s3 + List.length [(T.agg [(T.sc (.int .i64 10)), (T.sc (.string y22.str)), (T.sc (.string (⟨#[]⟩ : ByteArray))), (T.sc (.int .i64 0)), (T.sc (.int .i64 0)), (T.sc (.int .i64 0)), (T.sc (.string (⟨#[]⟩ : ByteArray))), (T.list ([] : List T)), (T.list ([] : List T)), (T.list ([] : List T)), (T.sc (.complex .f64 0 0))])] ≤ 1073741824) && sized 11 [(T.agg [(T.sc (.int .i64 10)), (T.sc (.string y22.str)), (T.sc (.string (⟨#[]⟩ : ByteArray))), (T.sc (.int .i64 0)), (T.sc (.int .i64 0)), (T.sc (.int .i64 0)), (T.sc (.string (⟨#[]⟩ : ByteArray))), (T.list ([] : List T)), (T.list ([] : List T)), (T.list ([] : List T)), (T.sc (.complex .f64 0 0))])])) (k ((List.drop (Int.toNat 1) (List.take (Int.toNat ((List.length s0 : Nat) : Int)) s0)), s1, s2, (s3 ++ [(T.agg [(T.sc (.int .i64 10)), (T.sc (.string y22.str)), (T.sc (.string (⟨#[]⟩ : ByteArray))), (T.sc (.int .i64 0)), (T.sc (.int .i64 0)), (T.sc (.int .i64 0)), (T.sc (.string (⟨#[]⟩ : ByteArray))), (T.list ([] : List T)), (T.list ([] : List T)), (T.list ([] : List T)), (T.sc (.complex .f64 0 0))])]))))
else (
Option.bind (m_suturehand_short n (y0.cell 0).int (y0.cell 1).int (y0.cell 2).int (y0.cell 3).int (y0.cell 4).lst) fun r23 =>
must true ((Nat.beq 11 11 || Nat.beq 11 0) && (decide (List.length s3 + List.length [(T.agg [(T.sc (.int .i64 1)), (T.sc (.string (⟨#[116]⟩ : ByteArray))), (T.sc (.string (⟨#[]⟩ : ByteArray))), (T.sc (.int .i64 0)), (T.sc (.int .i64 r23.1)), (T.sc (.int .i64 r23.2.1)), (T.sc (.string r23.2.2.1)), (T.list r23.2.2.2), (T.list ([] : List T)), (T.list ([] : List T)), (T.sc (.complex .f64 0 0))])] ≤ 1073741824) && sized 11 [(T.agg [(T.sc (.int .i64 1)), (T.sc (.string (⟨#[116]⟩ : ByteArray))), (T.sc (.string (⟨#[]⟩ : ByteArray))), (T.sc (.int .i64 0)), (T.sc (.int .i64 r23.1)), (T.sc (.int .i64 r23.2.1)), (T.sc (.string r23.2.2.1)), (T.list r23.2.2.2), (T.list ([] : List T)), (T.list ([] : List T)), (T.sc (.complex .f64 0 0))])])) (k ((List.drop (Int.toNat 1) (List.take (Int.toNat ((List.length s0 : Nat) : Int)) s0)), s1, s2, (s3 ++ [(T.agg [(T.sc (.int .i64 1)), (T.sc (.string (⟨#[116]⟩ : ByteArray))), (T.sc (.string (⟨#[]⟩ : ByteArray))), (T.sc (.int .i64 0)), (T.sc (.int .i64 r23.1)), (T.sc (.int .i64 r23.2.1)), (T.sc (.string r23.2.2.1)), (T.list r23.2.2.2), (T.list ([] : List T)), (T.list ([] : List T)), (T.sc (.complex .f64 0 0))])])))))))))))))))
else (
some (s0, s3))
def l_suturehand_stmts_2 (b : B_suturehand_stmts) (n : Nat) : Nat → (List T) × Int × Int × (List T) → Option ((List T) × (List T))
  | 0, _ => none
  | m + 1, s => l_suturehand_stmts_2_B b n (l_suturehand_stmts_2 b n m) s
def f_suturehand_stmts (b : B_suturehand_stmts) (n : Nat) (a0 : List T) (a1 : Int) (a2 : Int) : Option ((List T) × (List T)) :=
Option.bind (l_suturehand_stmts_2 b n n (a0, a1, a2, ([] : List T))) fun p25 =>
some (p25.2, p25.1)
def cs_suturehand_stmts (b : B_suturehand_stmts) (hb : B_suturehand_stmts_ok b) (n : Nat) : List (CalF Try.prog) := [⟨d_suturehand_Pick, m_suturehand_Pick n, m_suturehand_Pick_ok n⟩, ⟨d_suturehand_plain, m_suturehand_plain n, m_suturehand_plain_ok n⟩, ⟨d_suturehand_short, m_suturehand_short n, m_suturehand_short_ok n⟩, ⟨d_suturehand_stmts, b.suturehand_stmts, hb.suturehand_stmts⟩]
def L_l_suturehand_stmts_2 : LF := ⟨2, [0, 1, 2, 8], [.list, .int .i64, .int .i64, .own 11], [⟨(.exit 0), [0, 8], [.list, .own 11]⟩]⟩
def ls_suturehand_stmts (b : B_suturehand_stmts) (n : Nat) : List LE := [⟨2, loopS L_l_suturehand_stmts_2 (l_suturehand_stmts_2 b n n)⟩]
theorem l_suturehand_stmts_2_ok (b : B_suturehand_stmts) (hb : B_suturehand_stmts_ok b) (n : Nat) : LoopOk Try.prog (mkSpec (cs_suturehand_stmts b hb n) (ls_suturehand_stmts b n)) 0 179 (loopAt Try.f26 0) := loopOk (L := L_l_suturehand_stmts_2) (f := l_suturehand_stmts_2 b n) (B := l_suturehand_stmts_2_B b n) (k := n) (loopAt_ok sound Try.func26 (by kernel_rfl)) (inner (by kernel_rfl) allN) (innerS (by kernel_rfl) allN) (fun _ => rfl) (fun _ _ => rfl) (by kernel_rfl) (fun _ => by kernel_rfl) (by kernel_rfl) (fun k a => by kernel_rfl)
theorem f_suturehand_stmts_ok (b : B_suturehand_stmts) (hb : B_suturehand_stmts_ok b) (n : Nat) : Ok Try.prog d_suturehand_stmts (f_suturehand_stmts b n) := fnOk sound (cs := cs_suturehand_stmts b hb n) (ls := ls_suturehand_stmts b n) (n := 179) Try.func26 (by kernel_rfl) (fun _ => by kernel_rfl) (inner (by kernel_rfl) (allC (l_suturehand_stmts_2_ok b hb n) allN)) (innerS (by kernel_rfl) allN) (by kernel_rfl) (fun a => by kernel_rfl)
def unB_suturehand_stmts (n : Nat) : Nat → B_suturehand_stmts
  | 0 => { suturehand_stmts := fun _ _ _ => none }
  | m + 1 => { suturehand_stmts := f_suturehand_stmts (unB_suturehand_stmts n m) n }
theorem unB_suturehand_stmts_ok (n : Nat) : ∀ m, B_suturehand_stmts_ok (unB_suturehand_stmts n m)
  | 0 => { suturehand_stmts := fun _ _ h => (nomatch (show none = some _ from h)) }
  | m + 1 => { suturehand_stmts := f_suturehand_stmts_ok _ (unB_suturehand_stmts_ok n m) n }
def m_suturehand_stmts (n : Nat) : List T → Int → Int → Option ((List T) × (List T)) := (unB_suturehand_stmts n n).suturehand_stmts
theorem m_suturehand_stmts_ok (n : Nat) : Ok Try.prog d_suturehand_stmts (m_suturehand_stmts n) := (unB_suturehand_stmts_ok n n).suturehand_stmts


/-! suture/suturehand.Prog -/
def l_suturehand_Prog_3_B (n : Nat) (k : (List T) × Int × (List T) × (List T) × (List T) × Int × (List T) × (List T) × (List T) × (List T) → Option ((List T) × (List T) × (List T) × (List T))) : (List T) × Int × (List T) × (List T) × (List T) × Int × (List T) × (List T) × (List T) × (List T) → Option ((List T) × (List T) × (List T) × (List T)) := fun (s0, s1, s2, s3, s4, s5, s6, s7, s8, s9) =>
bif (decide ((s5 : Int) < 3)) then (
Option.bind (idx1 true (.list) [(T.list s2), (T.list s3), (T.list s4)] s5) fun y1 =>
bif (bif ((s5 : Int) == 2) then (bif ((((List.length s0 : Nat) : Int) : Int) == 0) then true else (decide ((s1 : Int) > 4))) else false) then (
some (s6, s7, s8, s9))
else (
Option.bind (m_suturehand_acts n y1.lst) fun r2 =>
Option.bind (m_suturehand_stmts n r2 s1 1) fun r3 =>
must true ((Nat.beq 1 1 || Nat.beq 1 0) && (decide (List.length s9 + List.length [(T.list r3.1)] ≤ 1073741824) && sized 1 [(T.list r3.1)])) (k (s0, s1, s2, s3, s4, (IntKind.wrap .i64 (s5 + 1)), s6, s7, s8, (s9 ++ [(T.list r3.1)])))))
else (
some (s6, s7, s8, s9))
def l_suturehand_Prog_3 (n : Nat) : Nat → (List T) × Int × (List T) × (List T) × (List T) × Int × (List T) × (List T) × (List T) × (List T) → Option ((List T) × (List T) × (List T) × (List T))
  | 0, _ => none
  | m + 1, s => l_suturehand_Prog_3_B n (l_suturehand_Prog_3 n m) s
def m_suturehand_Prog (n : Nat) (a0 : Int) (a1 : List T) (a2 : List T) (a3 : List T) (a4 : Int) : Option ((List T) × (List T)) :=
Option.bind (m_suturehand_Decls n a0) fun r0 =>
Option.bind (l_suturehand_Prog_3 n n (a3, a4, a1, a2, a3, 0, ([] : List T), ([] : List T), r0, ([] : List T))) fun p5 =>
some (p5.2.2.1, p5.2.2.2)
def d_suturehand_Prog : FnF := ⟨13, [.int .i64, .list, .list, .list, .int .i64], [.agg 2, .list, .list]⟩
def cs_suturehand_Prog (n : Nat) : List (CalF Try.prog) := [⟨d_suturehand_Decls, m_suturehand_Decls n, m_suturehand_Decls_ok n⟩, ⟨d_suturehand_acts, m_suturehand_acts n, m_suturehand_acts_ok n⟩, ⟨d_suturehand_stmts, m_suturehand_stmts n, m_suturehand_stmts_ok n⟩]
def L_l_suturehand_Prog_3 : LF := ⟨3, [3, 4, 10, 11, 22, 23], [.list, .int .i64, .ptr 0 0, .ptr 1 0, .agg 3, .list, .list, .list, .int .i64, .box 2, .own 0, .own 0, .box 2, .list, .own 1], [⟨(.exit 0), [10, 11], [.ptr 0 0, .ptr 1 0, .box 2, .own 0, .own 0, .box 2, .list, .own 1]⟩]⟩
def ls_suturehand_Prog (n : Nat) : List LE := [⟨3, loopS L_l_suturehand_Prog_3 (l_suturehand_Prog_3 n n)⟩]
theorem l_suturehand_Prog_3_ok (n : Nat) : LoopOk Try.prog (mkSpec (cs_suturehand_Prog n) (ls_suturehand_Prog n)) 0 53 (loopAt Try.f13 0) := loopOk (L := L_l_suturehand_Prog_3) (f := l_suturehand_Prog_3 n) (B := l_suturehand_Prog_3_B n) (k := n) (loopAt_ok sound Try.func13 (by kernel_rfl)) (inner (by kernel_rfl) allN) (innerS (by kernel_rfl) allN) (fun _ => rfl) (fun _ _ => rfl) (by kernel_rfl) (fun _ => by kernel_rfl) (by kernel_rfl) (fun k a => by kernel_rfl)
theorem m_suturehand_Prog_ok (n : Nat) : Ok Try.prog d_suturehand_Prog (m_suturehand_Prog n) := fnOk sound (cs := cs_suturehand_Prog n) (ls := ls_suturehand_Prog n) (n := 53) Try.func13 (by kernel_rfl) (fun _ => by kernel_rfl) (inner (by kernel_rfl) (allC (l_suturehand_Prog_3_ok n) allN)) (innerS (by kernel_rfl) allN) (by kernel_rfl) (fun a => by kernel_rfl)


/-! slices.Clone[[]int,int] -/
def m_slices_Clone___int_int_ (n : Nat) (a0 : List T) : Option (List T) := must true ((Nat.beq 1 1 || Nat.beq 1 0) && (decide (List.length ([] : List T) + List.length a0 ≤ 1073741824) && sized 1 a0)) (some (([] : List T) ++ a0))
def d_slices_Clone___int_int_ : FnF := ⟨47, [.list], [.own 1]⟩
theorem m_slices_Clone___int_int__ok (n : Nat) : Ok Try.prog d_slices_Clone___int_int_ (m_slices_Clone___int_int_ n) := fun a r h => cloneOk (n := 0) (d := d_slices_Clone___int_int_) (sz := 1) (m := m_slices_Clone___int_int_ n) sound Try.func47 (by kernel_rfl) (by kernel_rfl) (by kernel_rfl) (by kernel_rfl) (by kernel_rfl) (fun y ys => by kernel_rfl) a.1 r h
-- 8


/-! jumps_place_v2, jumps_place_v3: a circle -/
structure B_jumps_place_v2 where
  jumps_place_v2 : List T → Int → List T → List T → Int → Option ((List T) × Int)
  jumps_place_v3 : List T → Int → List T → List T → Int → Option ((List T) × Int)
def d_jumps_place_v2 : FnF := ⟨31, [.own 13, .ptr 0 0, .int .i64, .own 1, .list, .box 1, .int .i64], [.own 13, .box 1, .int .i64]⟩
def d_jumps_place_v3 : FnF := ⟨31, [.own 13, .ptr 0 0, .int .i64, .list, .list, .box 1, .int .i64], [.own 13, .box 1, .int .i64]⟩
structure B_jumps_place_v2_ok (b : B_jumps_place_v2) : Prop where
  jumps_place_v2 : Ok Try.prog d_jumps_place_v2 b.jumps_place_v2
  jumps_place_v3 : Ok Try.prog d_jumps_place_v3 b.jumps_place_v3

/-! suture/jumps.place -/
def l_jumps_place_v2_4_B (b : B_jumps_place_v2) (n : Nat) (k : (List T) × Int × (List T) × (List T) × Int × Int × Int → Option ((List T) × Int)) : (List T) × Int × (List T) × (List T) × Int × Int × Int → Option ((List T) × Int) := fun (s0, s1, s2, s3, s4, s5, s6) =>
bif (decide ((s5 : Int) < s4)) then (
Option.bind (idx true [.int .i64, .str, .str, .int .i64, .int .i64, .int .i64, .str, .list, .list, .list, .cplx .f64] s3 s5) fun y1 =>
must true ((Nat.beq 13 13 || Nat.beq 13 0) && (decide (List.length s0 + List.length [(T.agg [(T.sc (.int .i64 (y1.cell 0).int)), (T.sc (.string (y1.cell 1).str)), (T.sc (.string (y1.cell 2).str)), (T.sc (.int .i64 (y1.cell 3).int)), (T.sc (.int .i64 (y1.cell 4).int)), (T.sc (.int .i64 (y1.cell 5).int)), (T.sc (.string (y1.cell 6).str)), (T.list (y1.cell 7).lst), (T.list (y1.cell 8).lst), (T.list (y1.cell 9).lst), (T.sc (.complex .f64 (y1.cell 10).re (y1.cell 10).im)), (T.sc (.int .i64 s1)), (T.list s2)])] ≤ 1073741824) && sized 13 [(T.agg [(T.sc (.int .i64 (y1.cell 0).int)), (T.sc (.string (y1.cell 1).str)), (T.sc (.string (y1.cell 2).str)), (T.sc (.int .i64 (y1.cell 3).int)), (T.sc (.int .i64 (y1.cell 4).int)), (T.sc (.int .i64 (y1.cell 5).int)), (T.sc (.string (y1.cell 6).str)), (T.list (y1.cell 7).lst), (T.list (y1.cell 8).lst), (T.list (y1.cell 9).lst), (T.sc (.complex .f64 (y1.cell 10).re (y1.cell 10).im)), (T.sc (.int .i64 s1)), (T.list s2)])])) (Option.bind (b.jumps_place_v3 (s0 ++ [(T.agg [(T.sc (.int .i64 (y1.cell 0).int)), (T.sc (.string (y1.cell 1).str)), (T.sc (.string (y1.cell 2).str)), (T.sc (.int .i64 (y1.cell 3).int)), (T.sc (.int .i64 (y1.cell 4).int)), (T.sc (.int .i64 (y1.cell 5).int)), (T.sc (.string (y1.cell 6).str)), (T.list (y1.cell 7).lst), (T.list (y1.cell 8).lst), (T.list (y1.cell 9).lst), (T.sc (.complex .f64 (y1.cell 10).re (y1.cell 10).im)), (T.sc (.int .i64 s1)), (T.list s2)])]) s1 s2 (y1.cell 8).lst s6) fun r2 =>
Option.bind (b.jumps_place_v3 r2.1 s1 s2 (y1.cell 9).lst r2.2) fun r3 =>
k (r3.1, s1, s2, s3, s4, (IntKind.wrap .i64 (s5 + 1)), r3.2)))
else (
some (s0, s6))
def l_jumps_place_v2_4 (b : B_jumps_place_v2) (n : Nat) : Nat → (List T) × Int × (List T) × (List T) × Int × Int × Int → Option ((List T) × Int)
  | 0, _ => none
  | m + 1, s => l_jumps_place_v2_4_B b n (l_jumps_place_v2_4 b n m) s
def f_jumps_place_v2 (b : B_jumps_place_v2) (n : Nat) (a0 : List T) (a1 : Int) (a2 : List T) (a3 : List T) (a4 : Int) : Option ((List T) × Int) :=
Option.bind (m_slices_Clone___int_int_ n a2) fun r0 =>
must true ((Nat.beq 1 1 || Nat.beq 1 0) && (decide (List.length r0 + List.length [(T.sc (.int .i64 a4))] ≤ 1073741824) && sized 1 [(T.sc (.int .i64 a4))])) (Option.bind (l_jumps_place_v2_4 b n n (a0, a1, (r0 ++ [(T.sc (.int .i64 a4))]), a3, ((List.length a3 : Nat) : Int), 0, (IntKind.wrap .i64 (a4 + 1)))) fun p5 =>
some (p5.1, p5.2))
def cs_jumps_place_v2 (b : B_jumps_place_v2) (hb : B_jumps_place_v2_ok b) (n : Nat) : List (CalF Try.prog) := [⟨d_slices_Clone___int_int_, m_slices_Clone___int_int_ n, m_slices_Clone___int_int__ok n⟩, ⟨d_jumps_place_v3, b.jumps_place_v3, hb.jumps_place_v3⟩]
def L_l_jumps_place_v2_4 : LF := ⟨4, [0, 1, 2, 3, 25, 26, 27], [.own 13, .ptr 0 0, .int .i64, .own 1, .list, .int .i64, .int .i64, .box 1, .int .i64], [⟨(.exit 0), [0], [.own 13, .box 1, .int .i64]⟩]⟩
def ls_jumps_place_v2 (b : B_jumps_place_v2) (n : Nat) : List LE := [⟨4, loopS L_l_jumps_place_v2_4 (l_jumps_place_v2_4 b n n)⟩]
theorem l_jumps_place_v2_4_ok (b : B_jumps_place_v2) (hb : B_jumps_place_v2_ok b) (n : Nat) : LoopOk Try.prog (mkSpec (cs_jumps_place_v2 b hb n) (ls_jumps_place_v2 b n)) 1 54 (loopAt Try.f31 0) := loopOk (L := L_l_jumps_place_v2_4) (f := l_jumps_place_v2_4 b n) (B := l_jumps_place_v2_4_B b n) (k := n) (loopAt_ok sound Try.func31 (by kernel_rfl)) (inner (by kernel_rfl) allN) (innerS (by kernel_rfl) allN) (fun _ => rfl) (fun _ _ => rfl) (by kernel_rfl) (fun _ => by kernel_rfl) (by kernel_rfl) (fun k a => by kernel_rfl)
theorem f_jumps_place_v2_ok (b : B_jumps_place_v2) (hb : B_jumps_place_v2_ok b) (n : Nat) : Ok Try.prog d_jumps_place_v2 (f_jumps_place_v2 b n) := fnOk sound (cs := cs_jumps_place_v2 b hb n) (ls := ls_jumps_place_v2 b n) (n := 54) Try.func31 (by kernel_rfl) (fun _ => by kernel_rfl) (inner (by kernel_rfl) (allC (l_jumps_place_v2_4_ok b hb n) allN)) (innerS (by kernel_rfl) allN) (by kernel_rfl) (fun a => by kernel_rfl)

end Go.Proofs.Ytgpokdaacbjimab.W
