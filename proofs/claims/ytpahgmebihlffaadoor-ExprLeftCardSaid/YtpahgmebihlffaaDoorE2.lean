/- What the engine's walk comes to, printed by a program of this work: for each function its model, and that it is one. No conditions. -/
import Derived.Test.YtpahgmebihlffaaDoorE1
namespace Go.Proofs.YtpahgmebihlffaaDoor.W
open Go Go.Eng
set_option linter.unusedVariables false
set_option linter.unusedSimpArgs false
set_option maxRecDepth 100000

/-! suture/lex.Tokens -/
def j_lex_Tokens_0_B1 (n : Nat) (k : (((List T) × Int × ByteArray × Int × (Nat × Nat)) ⊕ ((ByteArray × (List T) × Int × Int × ByteArray × Int × (Nat × Nat)) ⊕ ((ByteArray × (List T) × Int × Int × ByteArray × Int × (Nat × Nat)) ⊕ ((ByteArray × (List T) × Int × Int × ByteArray × Int × (Nat × Nat)) ⊕ ((Int × ByteArray × Int × (Nat × Nat)) ⊕ ((ByteArray × (List T) × Int × Int × Int × ByteArray × Int × (Nat × Nat)) ⊕ ByteArray × (List T) × Int × Int × ByteArray × Int × (Nat × Nat))))))) → Option ((List T) × (Nat × Nat) × Int × Int × ByteArray × Int × (Nat × Nat))) : (List T) × Int × ByteArray × Int × (Nat × Nat) → Option ((List T) × (Nat × Nat) × Int × Int × ByteArray × Int × (Nat × Nat)) := fun (s0, s1, s2, s3, s4) =>
must true ((Nat.beq 4 4 || Nat.beq 4 0) && (decide (List.length s0 + List.length [(T.agg [(T.sc (.int .i64 4)), (T.sc (.string s2)), (T.sc (.int .i64 s3)), (T.sc (.complex .f64 s4.1 s4.2))])] ≤ 1073741824) && sized 4 [(T.agg [(T.sc (.int .i64 4)), (T.sc (.string s2)), (T.sc (.int .i64 s3)), (T.sc (.complex .f64 s4.1 s4.2))])])) (Option.bind (m_slices_Clip___lex_Token_lex_Token_ n (s0 ++ [(T.agg [(T.sc (.int .i64 4)), (T.sc (.string s2)), (T.sc (.int .i64 s3)), (T.sc (.complex .f64 s4.1 s4.2))])])) fun r3 =>
some (r3, (0, 0), 0, 4, s2, s3, s4))
def j_lex_Tokens_0_B2 (n : Nat) (k : (((List T) × Int × ByteArray × Int × (Nat × Nat)) ⊕ ((ByteArray × (List T) × Int × Int × ByteArray × Int × (Nat × Nat)) ⊕ ((ByteArray × (List T) × Int × Int × ByteArray × Int × (Nat × Nat)) ⊕ ((ByteArray × (List T) × Int × Int × ByteArray × Int × (Nat × Nat)) ⊕ ((Int × ByteArray × Int × (Nat × Nat)) ⊕ ((ByteArray × (List T) × Int × Int × Int × ByteArray × Int × (Nat × Nat)) ⊕ ByteArray × (List T) × Int × Int × ByteArray × Int × (Nat × Nat))))))) → Option ((List T) × (Nat × Nat) × Int × Int × ByteArray × Int × (Nat × Nat))) : ByteArray × (List T) × Int × Int × ByteArray × Int × (Nat × Nat) → Option ((List T) × (Nat × Nat) × Int × Int × ByteArray × Int × (Nat × Nat)) := fun (s0, s1, s2, s3, s4, s5, s6) =>
must true (decide (0 ≤ s2) && decide (s2 ≤ ((ByteArray.size s0 : Nat) : Int)) && decide (((ByteArray.size s0 : Nat) : Int) ≤ ((ByteArray.size s0 : Nat) : Int))) (Option.bind (m_lex_run_v2 n (ByteArray.extract s0 (Int.toNat s2) (Int.toNat ((ByteArray.size s0 : Nat) : Int)))) fun r4 =>
k (Sum.inr (Sum.inr (Sum.inr (Sum.inr (Sum.inr (Sum.inr (s0, s1, (IntKind.wrap .i64 (s2 + r4)), s3, s4, s5, s6))))))))
def j_lex_Tokens_0_B3 (n : Nat) (k : (((List T) × Int × ByteArray × Int × (Nat × Nat)) ⊕ ((ByteArray × (List T) × Int × Int × ByteArray × Int × (Nat × Nat)) ⊕ ((ByteArray × (List T) × Int × Int × ByteArray × Int × (Nat × Nat)) ⊕ ((ByteArray × (List T) × Int × Int × ByteArray × Int × (Nat × Nat)) ⊕ ((Int × ByteArray × Int × (Nat × Nat)) ⊕ ((ByteArray × (List T) × Int × Int × Int × ByteArray × Int × (Nat × Nat)) ⊕ ByteArray × (List T) × Int × Int × ByteArray × Int × (Nat × Nat))))))) → Option ((List T) × (Nat × Nat) × Int × Int × ByteArray × Int × (Nat × Nat))) : ByteArray × (List T) × Int × Int × ByteArray × Int × (Nat × Nat) → Option ((List T) × (Nat × Nat) × Int × Int × ByteArray × Int × (Nat × Nat)) := fun (s0, s1, s2, s3, s4, s5, s6) =>
must true (decide (0 ≤ s2) && decide (s2 ≤ ((ByteArray.size s0 : Nat) : Int)) && decide (((ByteArray.size s0 : Nat) : Int) ≤ ((ByteArray.size s0 : Nat) : Int))) (Option.bind (m_lex_word n (ByteArray.extract s0 (Int.toNat s2) (Int.toNat ((ByteArray.size s0 : Nat) : Int)))) fun r5 =>
k (Sum.inr (Sum.inr (Sum.inr (Sum.inr (Sum.inr (Sum.inl (s0, s1, s2, r5, 1, s4, s5, s6))))))))
def j_lex_Tokens_0_B4 (n : Nat) (k : (((List T) × Int × ByteArray × Int × (Nat × Nat)) ⊕ ((ByteArray × (List T) × Int × Int × ByteArray × Int × (Nat × Nat)) ⊕ ((ByteArray × (List T) × Int × Int × ByteArray × Int × (Nat × Nat)) ⊕ ((ByteArray × (List T) × Int × Int × ByteArray × Int × (Nat × Nat)) ⊕ ((Int × ByteArray × Int × (Nat × Nat)) ⊕ ((ByteArray × (List T) × Int × Int × Int × ByteArray × Int × (Nat × Nat)) ⊕ ByteArray × (List T) × Int × Int × ByteArray × Int × (Nat × Nat))))))) → Option ((List T) × (Nat × Nat) × Int × Int × ByteArray × Int × (Nat × Nat))) : ByteArray × (List T) × Int × Int × ByteArray × Int × (Nat × Nat) → Option ((List T) × (Nat × Nat) × Int × Int × ByteArray × Int × (Nat × Nat)) := fun (s0, s1, s2, s3, s4, s5, s6) =>
must true (decide (0 ≤ s2) && decide (s2 ≤ ((ByteArray.size s0 : Nat) : Int)) && decide (((ByteArray.size s0 : Nat) : Int) ≤ ((ByteArray.size s0 : Nat) : Int))) (Option.bind (m_lex_run_v4 n (ByteArray.extract s0 (Int.toNat s2) (Int.toNat ((ByteArray.size s0 : Nat) : Int)))) fun r6 =>
must true (decide (0 ≤ s2) && decide (s2 ≤ (IntKind.wrap .i64 (s2 + r6))) && decide ((IntKind.wrap .i64 (s2 + r6)) ≤ ((ByteArray.size s0 : Nat) : Int))) (Option.bind (m_strconv_Atoi n (ByteArray.extract s0 (Int.toNat s2) (Int.toNat (IntKind.wrap .i64 (s2 + r6))))) fun r7 =>
Option.bind (m_strconv_Itoa n r7) fun r8 =>
must true (decide (0 ≤ s2) && decide (s2 ≤ (IntKind.wrap .i64 (s2 + r6))) && decide ((IntKind.wrap .i64 (s2 + r6)) ≤ ((ByteArray.size s0 : Nat) : Int))) (bif (!(ByteArray.toList r8 == ByteArray.toList (ByteArray.extract s0 (Int.toNat s2) (Int.toNat (IntKind.wrap .i64 (s2 + r6)))))) then (
k (Sum.inr (Sum.inr (Sum.inr (Sum.inr (Sum.inl (2, s4, r7, s6)))))))
else (
bif ((r6 : Int) == 0) then (
k (Sum.inr (Sum.inr (Sum.inr (Sum.inr (Sum.inl (2, s4, r7, s6)))))))
else (
must true (decide (0 ≤ s2) && decide (s2 ≤ (IntKind.wrap .i64 (s2 + r6))) && decide ((IntKind.wrap .i64 (s2 + r6)) ≤ ((ByteArray.size s0 : Nat) : Int))) (must true ((Nat.beq 4 4 || Nat.beq 4 0) && (decide (List.length s1 + List.length [(T.agg [(T.sc (.int .i64 2)), (T.sc (.string (ByteArray.extract s0 (Int.toNat s2) (Int.toNat (IntKind.wrap .i64 (s2 + r6)))))), (T.sc (.int .i64 r7)), (T.sc (.complex .f64 s6.1 s6.2))])] ≤ 1073741824) && sized 4 [(T.agg [(T.sc (.int .i64 2)), (T.sc (.string (ByteArray.extract s0 (Int.toNat s2) (Int.toNat (IntKind.wrap .i64 (s2 + r6)))))), (T.sc (.int .i64 r7)), (T.sc (.complex .f64 s6.1 s6.2))])])) (k (Sum.inr (Sum.inr (Sum.inr (Sum.inr (Sum.inr (Sum.inr (s0, (s1 ++ [(T.agg [(T.sc (.int .i64 2)), (T.sc (.string (ByteArray.extract s0 (Int.toNat s2) (Int.toNat (IntKind.wrap .i64 (s2 + r6)))))), (T.sc (.int .i64 r7)), (T.sc (.complex .f64 s6.1 s6.2))])]), (IntKind.wrap .i64 (s2 + r6)), 2, (ByteArray.extract s0 (Int.toNat s2) (Int.toNat (IntKind.wrap .i64 (s2 + r6)))), r7, s6))))))))))))))
def j_lex_Tokens_0_B5 (n : Nat) (k : (((List T) × Int × ByteArray × Int × (Nat × Nat)) ⊕ ((ByteArray × (List T) × Int × Int × ByteArray × Int × (Nat × Nat)) ⊕ ((ByteArray × (List T) × Int × Int × ByteArray × Int × (Nat × Nat)) ⊕ ((ByteArray × (List T) × Int × Int × ByteArray × Int × (Nat × Nat)) ⊕ ((Int × ByteArray × Int × (Nat × Nat)) ⊕ ((ByteArray × (List T) × Int × Int × Int × ByteArray × Int × (Nat × Nat)) ⊕ ByteArray × (List T) × Int × Int × ByteArray × Int × (Nat × Nat))))))) → Option ((List T) × (Nat × Nat) × Int × Int × ByteArray × Int × (Nat × Nat))) : Int × ByteArray × Int × (Nat × Nat) → Option ((List T) × (Nat × Nat) × Int × Int × ByteArray × Int × (Nat × Nat)) := fun (s0, s1, s2, s3) =>
some (([] : List T), s3, 2, s0, s1, s2, s3)
def j_lex_Tokens_0_B6 (n : Nat) (k : (((List T) × Int × ByteArray × Int × (Nat × Nat)) ⊕ ((ByteArray × (List T) × Int × Int × ByteArray × Int × (Nat × Nat)) ⊕ ((ByteArray × (List T) × Int × Int × ByteArray × Int × (Nat × Nat)) ⊕ ((ByteArray × (List T) × Int × Int × ByteArray × Int × (Nat × Nat)) ⊕ ((Int × ByteArray × Int × (Nat × Nat)) ⊕ ((ByteArray × (List T) × Int × Int × Int × ByteArray × Int × (Nat × Nat)) ⊕ ByteArray × (List T) × Int × Int × ByteArray × Int × (Nat × Nat))))))) → Option ((List T) × (Nat × Nat) × Int × Int × ByteArray × Int × (Nat × Nat))) : ByteArray × (List T) × Int × Int × Int × ByteArray × Int × (Nat × Nat) → Option ((List T) × (Nat × Nat) × Int × Int × ByteArray × Int × (Nat × Nat)) := fun (s0, s1, s2, s3, s4, s5, s6, s7) =>
bif ((s3 : Int) == 0) then (
k (Sum.inr (Sum.inr (Sum.inr (Sum.inr (Sum.inl (s4, s5, s6, s7)))))))
else (
must true (decide (0 ≤ s2) && decide (s2 ≤ (IntKind.wrap .i64 (s2 + s3))) && decide ((IntKind.wrap .i64 (s2 + s3)) ≤ ((ByteArray.size s0 : Nat) : Int))) (must true ((Nat.beq 4 4 || Nat.beq 4 0) && (decide (List.length s1 + List.length [(T.agg [(T.sc (.int .i64 s4)), (T.sc (.string (ByteArray.extract s0 (Int.toNat s2) (Int.toNat (IntKind.wrap .i64 (s2 + s3)))))), (T.sc (.int .i64 s6)), (T.sc (.complex .f64 s7.1 s7.2))])] ≤ 1073741824) && sized 4 [(T.agg [(T.sc (.int .i64 s4)), (T.sc (.string (ByteArray.extract s0 (Int.toNat s2) (Int.toNat (IntKind.wrap .i64 (s2 + s3)))))), (T.sc (.int .i64 s6)), (T.sc (.complex .f64 s7.1 s7.2))])])) (k (Sum.inr (Sum.inr (Sum.inr (Sum.inr (Sum.inr (Sum.inr (s0, (s1 ++ [(T.agg [(T.sc (.int .i64 s4)), (T.sc (.string (ByteArray.extract s0 (Int.toNat s2) (Int.toNat (IntKind.wrap .i64 (s2 + s3)))))), (T.sc (.int .i64 s6)), (T.sc (.complex .f64 s7.1 s7.2))])]), (IntKind.wrap .i64 (s2 + s3)), s4, (ByteArray.extract s0 (Int.toNat s2) (Int.toNat (IntKind.wrap .i64 (s2 + s3)))), s6, s7))))))))))
def j_lex_Tokens_0_B0 (n : Nat) (k : (((List T) × Int × ByteArray × Int × (Nat × Nat)) ⊕ ((ByteArray × (List T) × Int × Int × ByteArray × Int × (Nat × Nat)) ⊕ ((ByteArray × (List T) × Int × Int × ByteArray × Int × (Nat × Nat)) ⊕ ((ByteArray × (List T) × Int × Int × ByteArray × Int × (Nat × Nat)) ⊕ ((Int × ByteArray × Int × (Nat × Nat)) ⊕ ((ByteArray × (List T) × Int × Int × Int × ByteArray × Int × (Nat × Nat)) ⊕ ByteArray × (List T) × Int × Int × ByteArray × Int × (Nat × Nat))))))) → Option ((List T) × (Nat × Nat) × Int × Int × ByteArray × Int × (Nat × Nat))) : ByteArray × (List T) × Int × Int × ByteArray × Int × (Nat × Nat) → Option ((List T) × (Nat × Nat) × Int × Int × ByteArray × Int × (Nat × Nat)) := fun (s0, s1, s2, s3, s4, s5, s6) =>
must true (decide (0 ≤ s2) && decide (s2 ≤ ((ByteArray.size s0 : Nat) : Int)) && decide (((ByteArray.size s0 : Nat) : Int) ≤ ((ByteArray.size s0 : Nat) : Int))) (Option.bind (m_lex_run n (ByteArray.extract s0 (Int.toNat s2) (Int.toNat ((ByteArray.size s0 : Nat) : Int)))) fun r9 =>
Option.bind (m_place_Of n s0 (IntKind.wrap .i64 (s2 + r9))) fun r10 =>
bif (((IntKind.wrap .i64 (s2 + r9)) : Int) == ((ByteArray.size s0 : Nat) : Int)) then (
k (Sum.inl (s1, 0, (⟨#[]⟩ : ByteArray), 0, r10)))
else (
Option.bind (bidx true s0 (IntKind.wrap .i64 (s2 + r9))) fun b11 =>
bif ((((UInt8.toNat b11 : Nat) : Int) : Int) == 35) then (
k (Sum.inr (Sum.inl (s0, s1, (IntKind.wrap .i64 (s2 + r9)), 0, (⟨#[]⟩ : ByteArray), 0, r10))))
else (
Option.bind (bidx true s0 (IntKind.wrap .i64 (s2 + r9))) fun b12 =>
Option.bind (m_lex_letter n ((UInt8.toNat b12 : Nat) : Int)) fun r13 =>
bif r13 then (
k (Sum.inr (Sum.inr (Sum.inl (s0, s1, (IntKind.wrap .i64 (s2 + r9)), 0, (⟨#[]⟩ : ByteArray), 0, r10)))))
else (
Option.bind (bidx true s0 (IntKind.wrap .i64 (s2 + r9))) fun b14 =>
Option.bind (m_lex_digit n ((UInt8.toNat b14 : Nat) : Int)) fun r15 =>
bif r15 then (
k (Sum.inr (Sum.inr (Sum.inr (Sum.inl (s0, s1, (IntKind.wrap .i64 (s2 + r9)), 0, (⟨#[]⟩ : ByteArray), 0, r10))))))
else (
must true (decide (0 ≤ (IntKind.wrap .i64 (s2 + r9))) && decide ((IntKind.wrap .i64 (s2 + r9)) ≤ ((ByteArray.size s0 : Nat) : Int)) && decide (((ByteArray.size s0 : Nat) : Int) ≤ ((ByteArray.size s0 : Nat) : Int))) (Option.bind (m_strings_HasPrefix n (ByteArray.extract s0 (Int.toNat (IntKind.wrap .i64 (s2 + r9))) (Int.toNat ((ByteArray.size s0 : Nat) : Int))) (⟨#[61, 61]⟩ : ByteArray)) fun r16 =>
bif r16 then (
Option.bind (bidx true s0 (IntKind.wrap .i64 (s2 + r9))) fun b17 =>
Option.bind (m_strings_IndexByte n (⟨#[61, 60, 43, 45, 42, 47, 37, 40, 41, 123, 125]⟩ : ByteArray) ((UInt8.toNat b17 : Nat) : Int)) fun r18 =>
bif (decide ((r18 : Int) < 0)) then (
k (Sum.inr (Sum.inr (Sum.inr (Sum.inr (Sum.inl (0, (⟨#[]⟩ : ByteArray), 0, r10)))))))
else (
k (Sum.inr (Sum.inr (Sum.inr (Sum.inr (Sum.inr (Sum.inl (s0, s1, (IntKind.wrap .i64 (s2 + r9)), 2, 3, (⟨#[]⟩ : ByteArray), 0, r10)))))))))
else (
Option.bind (bidx true s0 (IntKind.wrap .i64 (s2 + r9))) fun b19 =>
Option.bind (m_strings_IndexByte n (⟨#[61, 60, 43, 45, 42, 47, 37, 40, 41, 123, 125]⟩ : ByteArray) ((UInt8.toNat b19 : Nat) : Int)) fun r20 =>
bif (decide ((r20 : Int) < 0)) then (
k (Sum.inr (Sum.inr (Sum.inr (Sum.inr (Sum.inl (0, (⟨#[]⟩ : ByteArray), 0, r10)))))))
else (
k (Sum.inr (Sum.inr (Sum.inr (Sum.inr (Sum.inr (Sum.inl (s0, s1, (IntKind.wrap .i64 (s2 + r9)), 1, 3, (⟨#[]⟩ : ByteArray), 0, r10)))))))))))))))
def j_lex_Tokens_0 (n : Nat) : Nat → (((List T) × Int × ByteArray × Int × (Nat × Nat)) ⊕ ((ByteArray × (List T) × Int × Int × ByteArray × Int × (Nat × Nat)) ⊕ ((ByteArray × (List T) × Int × Int × ByteArray × Int × (Nat × Nat)) ⊕ ((ByteArray × (List T) × Int × Int × ByteArray × Int × (Nat × Nat)) ⊕ ((Int × ByteArray × Int × (Nat × Nat)) ⊕ ((ByteArray × (List T) × Int × Int × Int × ByteArray × Int × (Nat × Nat)) ⊕ ByteArray × (List T) × Int × Int × ByteArray × Int × (Nat × Nat))))))) → Option ((List T) × (Nat × Nat) × Int × Int × ByteArray × Int × (Nat × Nat))
  | 0, _ => none
  | m + 1, s => Sum.elim (fun p1 => j_lex_Tokens_0_B1 n (j_lex_Tokens_0 n m) p1) (fun s' => Sum.elim (fun p2 => j_lex_Tokens_0_B2 n (j_lex_Tokens_0 n m) p2) (fun s'' => Sum.elim (fun p3 => j_lex_Tokens_0_B3 n (j_lex_Tokens_0 n m) p3) (fun s''' => Sum.elim (fun p4 => j_lex_Tokens_0_B4 n (j_lex_Tokens_0 n m) p4) (fun s'''' => Sum.elim (fun p5 => j_lex_Tokens_0_B5 n (j_lex_Tokens_0 n m) p5) (fun s''''' => Sum.elim (fun p6 => j_lex_Tokens_0_B6 n (j_lex_Tokens_0 n m) p6) (fun s'''''' => (fun p0 => j_lex_Tokens_0_B0 n (j_lex_Tokens_0 n m) p0) s'''''') s''''') s'''') s''') s'') s') s
def m_lex_Tokens (n : Nat) (a0 : ByteArray) : Option ((List T) × (Nat × Nat) × Int) :=
bif (decide ((((ByteArray.size a0 : Nat) : Int) : Int) > 6000)) then (
Option.bind (m_place_Of n a0 6000) fun r0 =>
some (([] : List T), r0, 2))
else (
must true (decide (0 ≤ 0) && decide (0 ≤ ((ByteArray.size a0 : Nat) : Int)) && decide (((ByteArray.size a0 : Nat) : Int) ≤ ((ByteArray.size a0 : Nat) : Int))) (Option.bind (m_lex_run n (ByteArray.extract a0 (Int.toNat 0) (Int.toNat ((ByteArray.size a0 : Nat) : Int)))) fun r1 =>
Option.bind (m_place_Of n a0 (IntKind.wrap .i64 (0 + r1))) fun r2 =>
bif (((IntKind.wrap .i64 (0 + r1)) : Int) == ((ByteArray.size a0 : Nat) : Int)) then (
Option.bind (j_lex_Tokens_0 n n (Sum.inl (([] : List T), 0, (⟨#[]⟩ : ByteArray), 0, r2))) fun p22 =>
some (p22.1, p22.2.1, p22.2.2.1))
else (
Option.bind (bidx true a0 (IntKind.wrap .i64 (0 + r1))) fun b23 =>
bif ((((UInt8.toNat b23 : Nat) : Int) : Int) == 35) then (
Option.bind (j_lex_Tokens_0 n n (Sum.inr (Sum.inl (a0, ([] : List T), (IntKind.wrap .i64 (0 + r1)), 0, (⟨#[]⟩ : ByteArray), 0, r2)))) fun p25 =>
some (p25.1, p25.2.1, p25.2.2.1))
else (
Option.bind (bidx true a0 (IntKind.wrap .i64 (0 + r1))) fun b26 =>
Option.bind (m_lex_letter n ((UInt8.toNat b26 : Nat) : Int)) fun r27 =>
bif r27 then (
Option.bind (j_lex_Tokens_0 n n (Sum.inr (Sum.inr (Sum.inl (a0, ([] : List T), (IntKind.wrap .i64 (0 + r1)), 0, (⟨#[]⟩ : ByteArray), 0, r2))))) fun p29 =>
some (p29.1, p29.2.1, p29.2.2.1))
else (
Option.bind (bidx true a0 (IntKind.wrap .i64 (0 + r1))) fun b30 =>
Option.bind (m_lex_digit n ((UInt8.toNat b30 : Nat) : Int)) fun r31 =>
bif r31 then (
Option.bind (j_lex_Tokens_0 n n (Sum.inr (Sum.inr (Sum.inr (Sum.inl (a0, ([] : List T), (IntKind.wrap .i64 (0 + r1)), 0, (⟨#[]⟩ : ByteArray), 0, r2)))))) fun p33 =>
some (p33.1, p33.2.1, p33.2.2.1))
else (
must true (decide (0 ≤ (IntKind.wrap .i64 (0 + r1))) && decide ((IntKind.wrap .i64 (0 + r1)) ≤ ((ByteArray.size a0 : Nat) : Int)) && decide (((ByteArray.size a0 : Nat) : Int) ≤ ((ByteArray.size a0 : Nat) : Int))) (Option.bind (m_strings_HasPrefix n (ByteArray.extract a0 (Int.toNat (IntKind.wrap .i64 (0 + r1))) (Int.toNat ((ByteArray.size a0 : Nat) : Int))) (⟨#[61, 61]⟩ : ByteArray)) fun r34 =>
bif r34 then (
Option.bind (bidx true a0 (IntKind.wrap .i64 (0 + r1))) fun b35 =>
Option.bind (m_strings_IndexByte n (⟨#[61, 60, 43, 45, 42, 47, 37, 40, 41, 123, 125]⟩ : ByteArray) ((UInt8.toNat b35 : Nat) : Int)) fun r36 =>
bif (decide ((r36 : Int) < 0)) then (
Option.bind (j_lex_Tokens_0 n n (Sum.inr (Sum.inr (Sum.inr (Sum.inr (Sum.inl (0, (⟨#[]⟩ : ByteArray), 0, r2))))))) fun p38 =>
some (p38.1, p38.2.1, p38.2.2.1))
else (
Option.bind (j_lex_Tokens_0 n n (Sum.inr (Sum.inr (Sum.inr (Sum.inr (Sum.inr (Sum.inl (a0, ([] : List T), (IntKind.wrap .i64 (0 + r1)), 2, 3, (⟨#[]⟩ : ByteArray), 0, r2)))))))) fun p40 =>
some (p40.1, p40.2.1, p40.2.2.1)))
else (
Option.bind (bidx true a0 (IntKind.wrap .i64 (0 + r1))) fun b41 =>
Option.bind (m_strings_IndexByte n (⟨#[61, 60, 43, 45, 42, 47, 37, 40, 41, 123, 125]⟩ : ByteArray) ((UInt8.toNat b41 : Nat) : Int)) fun r42 =>
bif (decide ((r42 : Int) < 0)) then (
Option.bind (j_lex_Tokens_0 n n (Sum.inr (Sum.inr (Sum.inr (Sum.inr (Sum.inl (0, (⟨#[]⟩ : ByteArray), 0, r2))))))) fun p44 =>
some (p44.1, p44.2.1, p44.2.2.1))
else (
Option.bind (j_lex_Tokens_0 n n (Sum.inr (Sum.inr (Sum.inr (Sum.inr (Sum.inr (Sum.inl (a0, ([] : List T), (IntKind.wrap .i64 (0 + r1)), 1, 3, (⟨#[]⟩ : ByteArray), 0, r2)))))))) fun p46 =>
some (p46.1, p46.2.1, p46.2.2.1))))))))))
def enc_lex_Tokens (r : (List T) × (Nat × Nat) × Int) : V := (V.tup [(V.t (T.list r.1)), (V.t (T.sc (.complex .f64 r.2.1.1 r.2.1.2))), (V.t (T.sc (.int .i64 r.2.2)))])
def encS_lex_Tokens (r : (List T) × (Nat × Nat) × Int) : Sig := []
def ok_lex_Tokens (m : ByteArray → Option ((List T) × (Nat × Nat) × Int)) : Prop := ∀ (a0 : ByteArray) (r : (List T) × (Nat × Nat) × Int), m a0 = some r → FuncOk Tryd.prog 15 [(V.t (T.sc (.string a0)))] [] (enc_lex_Tokens r) (encS_lex_Tokens r)
def c_lex_Tokens (m : ByteArray → Option ((List T) × (Nat × Nat) × Int)) (vs : List V) (sg : Sig) : Option CallM := bif Nat.beq vs.length 1 && Nat.beq sg.length 0 then Option.bind (V.strOf (vs.getD 0 .any)) fun u0 => some { α := (List T) × (Nat × Nat) × Int, m := m u0, dflt := ([], (0, 0), 0), enc := fun y => ((V.tup [(V.t (T.list y.1)), (V.t (T.sc (.complex .f64 y.2.1.1 y.2.1.2))), (V.t (T.sc (.int .i64 y.2.2)))]), []) } else none
theorem c_lex_Tokens_ok (m : ByteArray → Option ((List T) × (Nat × Nat) × Int)) (hm : ok_lex_Tokens m) (vs : List V) (sg : Sig) (cm : CallM) (x : cm.α) (h : c_lex_Tokens m vs sg = some cm) (hx : cm.m = some x) : FuncOk Tryd.prog 15 vs sg (cm.enc x).1 (cm.enc x).2 := by
  unfold c_lex_Tokens at h
  have h0 := callee_sig h
  clear h
  obtain ⟨hl, hs, h⟩ := h0
  obtain ⟨u0, hu0, h⟩ := Option.bind_eq_some_iff.1 h
  simp only [Option.some.injEq] at h
  subst h
  exact (hm u0 x hx).wk (args_wk hl (.cons (strOf_wk hu0) .nil)) (wkSg_of hs .nil)
noncomputable def code_lex_Tokens : Code := Tryd.f15.body.getD .skip
def j_lex_Tokens_0_S1 (n : Nat) (R : Type) (E : SEnv) (sg : Sig) (K : Ex → SEnv → Sig → Option R) : Option R := Option.bind (V.ownOf 4 (SEnv.at E 5)) fun u0 => Option.bind (V.ptrOf 0 0 (SEnv.at E 6)) fun u1 => Option.bind (cellsN 4 sg 0) fun u2 => Option.bind (V.intOf .i64 (u2.getD 0 .any)) fun u3 => Option.bind (V.strOf (u2.getD 1 .any)) fun u4 => Option.bind (V.intOf .i64 (u2.getD 2 .any)) fun u5 => Option.bind (V.cplxOf .f64 (u2.getD 3 .any)) fun u6 => Option.bind (j_lex_Tokens_0 n n (Sum.inl (u0, u3, u4, u5, u6))) fun p0 => K .ret [(2, (V.own 4 p0.1)), (3, (V.t (T.sc (.complex .f64 p0.2.1.1 p0.2.1.2)))), (4, (V.t (T.sc (.int .i64 p0.2.2.1))))] [some [(V.t (T.sc (.int .i64 p0.2.2.2.1))), (V.t (T.sc (.string p0.2.2.2.2.1))), (V.t (T.sc (.int .i64 p0.2.2.2.2.2.1))), (V.t (T.sc (.complex .f64 p0.2.2.2.2.2.2.1 p0.2.2.2.2.2.2.2)))]]
def j_lex_Tokens_0_S2 (n : Nat) (R : Type) (E : SEnv) (sg : Sig) (K : Ex → SEnv → Sig → Option R) : Option R := Option.bind (V.strOf (SEnv.at E 0)) fun u0 => Option.bind (V.ownOf 4 (SEnv.at E 5)) fun u1 => Option.bind (V.ptrOf 0 0 (SEnv.at E 6)) fun u2 => Option.bind (V.intOf .i64 (SEnv.at E 7)) fun u3 => Option.bind (cellsN 4 sg 0) fun u4 => Option.bind (V.intOf .i64 (u4.getD 0 .any)) fun u5 => Option.bind (V.strOf (u4.getD 1 .any)) fun u6 => Option.bind (V.intOf .i64 (u4.getD 2 .any)) fun u7 => Option.bind (V.cplxOf .f64 (u4.getD 3 .any)) fun u8 => Option.bind (j_lex_Tokens_0 n n (Sum.inr (Sum.inl (u0, u1, u3, u5, u6, u7, u8)))) fun p0 => K .ret [(2, (V.own 4 p0.1)), (3, (V.t (T.sc (.complex .f64 p0.2.1.1 p0.2.1.2)))), (4, (V.t (T.sc (.int .i64 p0.2.2.1))))] [some [(V.t (T.sc (.int .i64 p0.2.2.2.1))), (V.t (T.sc (.string p0.2.2.2.2.1))), (V.t (T.sc (.int .i64 p0.2.2.2.2.2.1))), (V.t (T.sc (.complex .f64 p0.2.2.2.2.2.2.1 p0.2.2.2.2.2.2.2)))]]
def j_lex_Tokens_0_S3 (n : Nat) (R : Type) (E : SEnv) (sg : Sig) (K : Ex → SEnv → Sig → Option R) : Option R := Option.bind (V.strOf (SEnv.at E 0)) fun u0 => Option.bind (V.ownOf 4 (SEnv.at E 5)) fun u1 => Option.bind (V.ptrOf 0 0 (SEnv.at E 6)) fun u2 => Option.bind (V.intOf .i64 (SEnv.at E 7)) fun u3 => Option.bind (cellsN 4 sg 0) fun u4 => Option.bind (V.intOf .i64 (u4.getD 0 .any)) fun u5 => Option.bind (V.strOf (u4.getD 1 .any)) fun u6 => Option.bind (V.intOf .i64 (u4.getD 2 .any)) fun u7 => Option.bind (V.cplxOf .f64 (u4.getD 3 .any)) fun u8 => Option.bind (j_lex_Tokens_0 n n (Sum.inr (Sum.inr (Sum.inl (u0, u1, u3, u5, u6, u7, u8))))) fun p0 => K .ret [(2, (V.own 4 p0.1)), (3, (V.t (T.sc (.complex .f64 p0.2.1.1 p0.2.1.2)))), (4, (V.t (T.sc (.int .i64 p0.2.2.1))))] [some [(V.t (T.sc (.int .i64 p0.2.2.2.1))), (V.t (T.sc (.string p0.2.2.2.2.1))), (V.t (T.sc (.int .i64 p0.2.2.2.2.2.1))), (V.t (T.sc (.complex .f64 p0.2.2.2.2.2.2.1 p0.2.2.2.2.2.2.2)))]]
def j_lex_Tokens_0_S4 (n : Nat) (R : Type) (E : SEnv) (sg : Sig) (K : Ex → SEnv → Sig → Option R) : Option R := Option.bind (V.strOf (SEnv.at E 0)) fun u0 => Option.bind (V.ownOf 4 (SEnv.at E 5)) fun u1 => Option.bind (V.ptrOf 0 0 (SEnv.at E 6)) fun u2 => Option.bind (V.intOf .i64 (SEnv.at E 7)) fun u3 => Option.bind (cellsN 4 sg 0) fun u4 => Option.bind (V.intOf .i64 (u4.getD 0 .any)) fun u5 => Option.bind (V.strOf (u4.getD 1 .any)) fun u6 => Option.bind (V.intOf .i64 (u4.getD 2 .any)) fun u7 => Option.bind (V.cplxOf .f64 (u4.getD 3 .any)) fun u8 => Option.bind (j_lex_Tokens_0 n n (Sum.inr (Sum.inr (Sum.inr (Sum.inl (u0, u1, u3, u5, u6, u7, u8)))))) fun p0 => K .ret [(2, (V.own 4 p0.1)), (3, (V.t (T.sc (.complex .f64 p0.2.1.1 p0.2.1.2)))), (4, (V.t (T.sc (.int .i64 p0.2.2.1))))] [some [(V.t (T.sc (.int .i64 p0.2.2.2.1))), (V.t (T.sc (.string p0.2.2.2.2.1))), (V.t (T.sc (.int .i64 p0.2.2.2.2.2.1))), (V.t (T.sc (.complex .f64 p0.2.2.2.2.2.2.1 p0.2.2.2.2.2.2.2)))]]
def j_lex_Tokens_0_S5 (n : Nat) (R : Type) (E : SEnv) (sg : Sig) (K : Ex → SEnv → Sig → Option R) : Option R := Option.bind (V.ptrOf 0 0 (SEnv.at E 6)) fun u0 => Option.bind (cellsN 4 sg 0) fun u1 => Option.bind (V.intOf .i64 (u1.getD 0 .any)) fun u2 => Option.bind (V.strOf (u1.getD 1 .any)) fun u3 => Option.bind (V.intOf .i64 (u1.getD 2 .any)) fun u4 => Option.bind (V.cplxOf .f64 (u1.getD 3 .any)) fun u5 => Option.bind (j_lex_Tokens_0 n n (Sum.inr (Sum.inr (Sum.inr (Sum.inr (Sum.inl (u2, u3, u4, u5))))))) fun p0 => K .ret [(2, (V.own 4 p0.1)), (3, (V.t (T.sc (.complex .f64 p0.2.1.1 p0.2.1.2)))), (4, (V.t (T.sc (.int .i64 p0.2.2.1))))] [some [(V.t (T.sc (.int .i64 p0.2.2.2.1))), (V.t (T.sc (.string p0.2.2.2.2.1))), (V.t (T.sc (.int .i64 p0.2.2.2.2.2.1))), (V.t (T.sc (.complex .f64 p0.2.2.2.2.2.2.1 p0.2.2.2.2.2.2.2)))]]
def j_lex_Tokens_0_S6 (n : Nat) (R : Type) (E : SEnv) (sg : Sig) (K : Ex → SEnv → Sig → Option R) : Option R := Option.bind (V.strOf (SEnv.at E 0)) fun u0 => Option.bind (V.ownOf 4 (SEnv.at E 5)) fun u1 => Option.bind (V.ptrOf 0 0 (SEnv.at E 6)) fun u2 => Option.bind (V.intOf .i64 (SEnv.at E 7)) fun u3 => Option.bind (V.intOf .i64 (SEnv.at E 8)) fun u4 => Option.bind (cellsN 4 sg 0) fun u5 => Option.bind (V.intOf .i64 (u5.getD 0 .any)) fun u6 => Option.bind (V.strOf (u5.getD 1 .any)) fun u7 => Option.bind (V.intOf .i64 (u5.getD 2 .any)) fun u8 => Option.bind (V.cplxOf .f64 (u5.getD 3 .any)) fun u9 => Option.bind (j_lex_Tokens_0 n n (Sum.inr (Sum.inr (Sum.inr (Sum.inr (Sum.inr (Sum.inl (u0, u1, u3, u4, u6, u7, u8, u9)))))))) fun p0 => K .ret [(2, (V.own 4 p0.1)), (3, (V.t (T.sc (.complex .f64 p0.2.1.1 p0.2.1.2)))), (4, (V.t (T.sc (.int .i64 p0.2.2.1))))] [some [(V.t (T.sc (.int .i64 p0.2.2.2.1))), (V.t (T.sc (.string p0.2.2.2.2.1))), (V.t (T.sc (.int .i64 p0.2.2.2.2.2.1))), (V.t (T.sc (.complex .f64 p0.2.2.2.2.2.2.1 p0.2.2.2.2.2.2.2)))]]
def j_lex_Tokens_0_S0 (n : Nat) (R : Type) (E : SEnv) (sg : Sig) (K : Ex → SEnv → Sig → Option R) : Option R := Option.bind (V.strOf (SEnv.at E 0)) fun u0 => Option.bind (V.ownOf 4 (SEnv.at E 5)) fun u1 => Option.bind (V.ptrOf 0 0 (SEnv.at E 6)) fun u2 => Option.bind (V.intOf .i64 (SEnv.at E 7)) fun u3 => Option.bind (cellsN 4 sg 0) fun u4 => Option.bind (V.intOf .i64 (u4.getD 0 .any)) fun u5 => Option.bind (V.strOf (u4.getD 1 .any)) fun u6 => Option.bind (V.intOf .i64 (u4.getD 2 .any)) fun u7 => Option.bind (V.cplxOf .f64 (u4.getD 3 .any)) fun u8 => Option.bind (j_lex_Tokens_0 n n (Sum.inr (Sum.inr (Sum.inr (Sum.inr (Sum.inr (Sum.inr (u0, u1, u3, u5, u6, u7, u8)))))))) fun p0 => K .ret [(2, (V.own 4 p0.1)), (3, (V.t (T.sc (.complex .f64 p0.2.1.1 p0.2.1.2)))), (4, (V.t (T.sc (.int .i64 p0.2.2.1))))] [some [(V.t (T.sc (.int .i64 p0.2.2.2.1))), (V.t (T.sc (.string p0.2.2.2.2.1))), (V.t (T.sc (.int .i64 p0.2.2.2.2.2.1))), (V.t (T.sc (.complex .f64 p0.2.2.2.2.2.2.1 p0.2.2.2.2.2.2.2)))]]
noncomputable def sp_lex_Tokens (n : Nat) : Go.Eng.Spec := ⟨fun f vs sg => (match f with
    | 20 => c_place_Of (m_place_Of n) vs sg
    | 21 => orC (c_lex_run (m_lex_run n) vs sg) (orC (c_lex_run_v2 (m_lex_run_v2 n) vs sg) (c_lex_run_v4 (m_lex_run_v4 n) vs sg))
    | 31 => c_slices_Clip___lex_Token_lex_Token_ (m_slices_Clip___lex_Token_lex_Token_ n) vs sg
    | 28 => c_lex_word (m_lex_word n) vs sg
    | 29 => c_strconv_Atoi (m_strconv_Atoi n) vs sg
    | 30 => c_strconv_Itoa (m_strconv_Itoa n) vs sg
    | 23 => c_lex_letter (m_lex_letter n) vs sg
    | 24 => c_lex_digit (m_lex_digit n) vs sg
    | 25 => c_strings_HasPrefix (m_strings_HasPrefix n) vs sg
    | 26 => c_strings_IndexByte (m_strings_IndexByte n) vs sg
    | _ => none), fun R key E sg K => (match key with
    | 1000001 => j_lex_Tokens_0_S1 n R E sg K
    | 1000002 => j_lex_Tokens_0_S2 n R E sg K
    | 1000003 => j_lex_Tokens_0_S3 n R E sg K
    | 1000004 => j_lex_Tokens_0_S4 n R E sg K
    | 1000005 => j_lex_Tokens_0_S5 n R E sg K
    | 1000006 => j_lex_Tokens_0_S6 n R E sg K
    | 1000000 => j_lex_Tokens_0_S0 n R E sg K
    | _ => none)⟩
theorem sp_lex_Tokens_ok (n : Nat) : CallsOk Tryd.prog (sp_lex_Tokens n) := by
  intro f vs sg cm x h hx
  simp only [sp_lex_Tokens] at h
  split at h
  · exact c_place_Of_ok _ (m_place_Of_ok n) vs sg cm x h hx
  · exact (orC_some h).elim (fun h1 => c_lex_run_ok _ (m_lex_run_ok n) vs sg cm x h1 hx) (fun h2' => (orC_some h2').elim (fun h1 => c_lex_run_v2_ok _ (m_lex_run_v2_ok n) vs sg cm x h1 hx) (fun h1' => c_lex_run_v4_ok _ (m_lex_run_v4_ok n) vs sg cm x h1' hx))
  · exact c_slices_Clip___lex_Token_lex_Token__ok _ (m_slices_Clip___lex_Token_lex_Token__ok n) vs sg cm x h hx
  · exact c_lex_word_ok _ (m_lex_word_ok n) vs sg cm x h hx
  · exact c_strconv_Atoi_ok _ (m_strconv_Atoi_ok n) vs sg cm x h hx
  · exact c_strconv_Itoa_ok _ (m_strconv_Itoa_ok n) vs sg cm x h hx
  · exact c_lex_letter_ok _ (m_lex_letter_ok n) vs sg cm x h hx
  · exact c_lex_digit_ok _ (m_lex_digit_ok n) vs sg cm x h hx
  · exact c_strings_HasPrefix_ok _ (m_strings_HasPrefix_ok n) vs sg cm x h hx
  · exact c_strings_IndexByte_ok _ (m_strings_IndexByte_ok n) vs sg cm x h hx
  · cases h
theorem code_lex_Tokens_fn : Tryd.prog.funcs[15]? = some Tryd.f15 := Tryd.func15
theorem code_lex_Tokens_body : Tryd.f15.body = some code_lex_Tokens := by kernel_rfl
theorem code_lex_Tokens_ok : CodeOk Tryd.prog code_lex_Tokens := (sound 15 _ _ code_lex_Tokens_fn code_lex_Tokens_body).1
noncomputable def code_j_lex_Tokens_0 : Code := (scopesOf code_lex_Tokens).getD 0 .skip
theorem code_j_lex_Tokens_0_ok : CodeOk Tryd.prog code_j_lex_Tokens_0 := codeOk_scopes code_lex_Tokens_ok _ (getD_mem (by kernel_rfl))
def j_lex_Tokens_0_K (k : (((List T) × Int × ByteArray × Int × (Nat × Nat)) ⊕ ((ByteArray × (List T) × Int × Int × ByteArray × Int × (Nat × Nat)) ⊕ ((ByteArray × (List T) × Int × Int × ByteArray × Int × (Nat × Nat)) ⊕ ((ByteArray × (List T) × Int × Int × ByteArray × Int × (Nat × Nat)) ⊕ ((Int × ByteArray × Int × (Nat × Nat)) ⊕ ((ByteArray × (List T) × Int × Int × Int × ByteArray × Int × (Nat × Nat)) ⊕ ByteArray × (List T) × Int × Int × ByteArray × Int × (Nat × Nat))))))) → Option ((List T) × (Nat × Nat) × Int × Int × ByteArray × Int × (Nat × Nat))) : Ex → SEnv → Sig → Option ((List T) × (Nat × Nat) × Int × Int × ByteArray × Int × (Nat × Nat)) := fun x E sg => match x with
  | .goto 1 => Option.bind (V.ownOf 4 (SEnv.at E 5)) fun u0 => Option.bind (V.ptrOf 0 0 (SEnv.at E 6)) fun u1 => Option.bind (cellsN 4 sg 0) fun u2 => Option.bind (V.intOf .i64 (u2.getD 0 .any)) fun u3 => Option.bind (V.strOf (u2.getD 1 .any)) fun u4 => Option.bind (V.intOf .i64 (u2.getD 2 .any)) fun u5 => Option.bind (V.cplxOf .f64 (u2.getD 3 .any)) fun u6 => k (Sum.inl (u0, u3, u4, u5, u6))
  | .goto 2 => Option.bind (V.strOf (SEnv.at E 0)) fun u0 => Option.bind (V.ownOf 4 (SEnv.at E 5)) fun u1 => Option.bind (V.ptrOf 0 0 (SEnv.at E 6)) fun u2 => Option.bind (V.intOf .i64 (SEnv.at E 7)) fun u3 => Option.bind (cellsN 4 sg 0) fun u4 => Option.bind (V.intOf .i64 (u4.getD 0 .any)) fun u5 => Option.bind (V.strOf (u4.getD 1 .any)) fun u6 => Option.bind (V.intOf .i64 (u4.getD 2 .any)) fun u7 => Option.bind (V.cplxOf .f64 (u4.getD 3 .any)) fun u8 => k (Sum.inr (Sum.inl (u0, u1, u3, u5, u6, u7, u8)))
  | .goto 3 => Option.bind (V.strOf (SEnv.at E 0)) fun u0 => Option.bind (V.ownOf 4 (SEnv.at E 5)) fun u1 => Option.bind (V.ptrOf 0 0 (SEnv.at E 6)) fun u2 => Option.bind (V.intOf .i64 (SEnv.at E 7)) fun u3 => Option.bind (cellsN 4 sg 0) fun u4 => Option.bind (V.intOf .i64 (u4.getD 0 .any)) fun u5 => Option.bind (V.strOf (u4.getD 1 .any)) fun u6 => Option.bind (V.intOf .i64 (u4.getD 2 .any)) fun u7 => Option.bind (V.cplxOf .f64 (u4.getD 3 .any)) fun u8 => k (Sum.inr (Sum.inr (Sum.inl (u0, u1, u3, u5, u6, u7, u8))))
  | .goto 4 => Option.bind (V.strOf (SEnv.at E 0)) fun u0 => Option.bind (V.ownOf 4 (SEnv.at E 5)) fun u1 => Option.bind (V.ptrOf 0 0 (SEnv.at E 6)) fun u2 => Option.bind (V.intOf .i64 (SEnv.at E 7)) fun u3 => Option.bind (cellsN 4 sg 0) fun u4 => Option.bind (V.intOf .i64 (u4.getD 0 .any)) fun u5 => Option.bind (V.strOf (u4.getD 1 .any)) fun u6 => Option.bind (V.intOf .i64 (u4.getD 2 .any)) fun u7 => Option.bind (V.cplxOf .f64 (u4.getD 3 .any)) fun u8 => k (Sum.inr (Sum.inr (Sum.inr (Sum.inl (u0, u1, u3, u5, u6, u7, u8)))))
  | .goto 5 => Option.bind (V.ptrOf 0 0 (SEnv.at E 6)) fun u0 => Option.bind (cellsN 4 sg 0) fun u1 => Option.bind (V.intOf .i64 (u1.getD 0 .any)) fun u2 => Option.bind (V.strOf (u1.getD 1 .any)) fun u3 => Option.bind (V.intOf .i64 (u1.getD 2 .any)) fun u4 => Option.bind (V.cplxOf .f64 (u1.getD 3 .any)) fun u5 => k (Sum.inr (Sum.inr (Sum.inr (Sum.inr (Sum.inl (u2, u3, u4, u5))))))
  | .goto 6 => Option.bind (V.strOf (SEnv.at E 0)) fun u0 => Option.bind (V.ownOf 4 (SEnv.at E 5)) fun u1 => Option.bind (V.ptrOf 0 0 (SEnv.at E 6)) fun u2 => Option.bind (V.intOf .i64 (SEnv.at E 7)) fun u3 => Option.bind (V.intOf .i64 (SEnv.at E 8)) fun u4 => Option.bind (cellsN 4 sg 0) fun u5 => Option.bind (V.intOf .i64 (u5.getD 0 .any)) fun u6 => Option.bind (V.strOf (u5.getD 1 .any)) fun u7 => Option.bind (V.intOf .i64 (u5.getD 2 .any)) fun u8 => Option.bind (V.cplxOf .f64 (u5.getD 3 .any)) fun u9 => k (Sum.inr (Sum.inr (Sum.inr (Sum.inr (Sum.inr (Sum.inl (u0, u1, u3, u4, u6, u7, u8, u9)))))))
  | .goto 0 => Option.bind (V.strOf (SEnv.at E 0)) fun u0 => Option.bind (V.ownOf 4 (SEnv.at E 5)) fun u1 => Option.bind (V.ptrOf 0 0 (SEnv.at E 6)) fun u2 => Option.bind (V.intOf .i64 (SEnv.at E 7)) fun u3 => Option.bind (cellsN 4 sg 0) fun u4 => Option.bind (V.intOf .i64 (u4.getD 0 .any)) fun u5 => Option.bind (V.strOf (u4.getD 1 .any)) fun u6 => Option.bind (V.intOf .i64 (u4.getD 2 .any)) fun u7 => Option.bind (V.cplxOf .f64 (u4.getD 3 .any)) fun u8 => k (Sum.inr (Sum.inr (Sum.inr (Sum.inr (Sum.inr (Sum.inr (u0, u1, u3, u5, u6, u7, u8)))))))
  | .ret => Option.bind (V.ownOf 4 (SEnv.at E 2)) fun u0 => Option.bind (V.cplxOf .f64 (SEnv.at E 3)) fun u1 => Option.bind (V.intOf .i64 (SEnv.at E 4)) fun u2 => Option.bind (cellsN 4 sg 0) fun u3 => Option.bind (V.intOf .i64 (u3.getD 0 .any)) fun u4 => Option.bind (V.strOf (u3.getD 1 .any)) fun u5 => Option.bind (V.intOf .i64 (u3.getD 2 .any)) fun u6 => Option.bind (V.cplxOf .f64 (u3.getD 3 .any)) fun u7 => some (u0, u1, u2, u4, u5, u6, u7)
  | _ => none
noncomputable def code_j_lex_Tokens_0_1 : Code := (findLabel code_j_lex_Tokens_0 1).getD .skip
theorem code_j_lex_Tokens_0_1_find : findLabel code_j_lex_Tokens_0 1 = some code_j_lex_Tokens_0_1 := by kernel_rfl
theorem j_lex_Tokens_0_eq1 (n : Nat) (k : (((List T) × Int × ByteArray × Int × (Nat × Nat)) ⊕ ((ByteArray × (List T) × Int × Int × ByteArray × Int × (Nat × Nat)) ⊕ ((ByteArray × (List T) × Int × Int × ByteArray × Int × (Nat × Nat)) ⊕ ((ByteArray × (List T) × Int × Int × ByteArray × Int × (Nat × Nat)) ⊕ ((Int × ByteArray × Int × (Nat × Nat)) ⊕ ((ByteArray × (List T) × Int × Int × Int × ByteArray × Int × (Nat × Nat)) ⊕ ByteArray × (List T) × Int × Int × ByteArray × Int × (Nat × Nat))))))) → Option ((List T) × (Nat × Nat) × Int × Int × ByteArray × Int × (Nat × Nat))) (s0 : List T) (s1 : Int) (s2 : ByteArray) (s3 : Int) (s4 : Nat × Nat) : mX Tryd.prog (sp_lex_Tokens n) 116 code_j_lex_Tokens_0_1 [(5, (V.own 4 s0)), (6, (V.ptr 0 0))] [some [(V.t (T.sc (.int .i64 s1))), (V.t (T.sc (.string s2))), (V.t (T.sc (.int .i64 s3))), (V.t (T.sc (.complex .f64 s4.1 s4.2)))]] (j_lex_Tokens_0_K k) = j_lex_Tokens_0_B1 n k (s0, s1, s2, s3, s4) := by kernel_rfl
noncomputable def code_j_lex_Tokens_0_2 : Code := (findLabel code_j_lex_Tokens_0 2).getD .skip
theorem code_j_lex_Tokens_0_2_find : findLabel code_j_lex_Tokens_0 2 = some code_j_lex_Tokens_0_2 := by kernel_rfl
theorem j_lex_Tokens_0_eq2 (n : Nat) (k : (((List T) × Int × ByteArray × Int × (Nat × Nat)) ⊕ ((ByteArray × (List T) × Int × Int × ByteArray × Int × (Nat × Nat)) ⊕ ((ByteArray × (List T) × Int × Int × ByteArray × Int × (Nat × Nat)) ⊕ ((ByteArray × (List T) × Int × Int × ByteArray × Int × (Nat × Nat)) ⊕ ((Int × ByteArray × Int × (Nat × Nat)) ⊕ ((ByteArray × (List T) × Int × Int × Int × ByteArray × Int × (Nat × Nat)) ⊕ ByteArray × (List T) × Int × Int × ByteArray × Int × (Nat × Nat))))))) → Option ((List T) × (Nat × Nat) × Int × Int × ByteArray × Int × (Nat × Nat))) (s0 : ByteArray) (s1 : List T) (s2 : Int) (s3 : Int) (s4 : ByteArray) (s5 : Int) (s6 : Nat × Nat) : mX Tryd.prog (sp_lex_Tokens n) 116 code_j_lex_Tokens_0_2 [(0, (V.t (T.sc (.string s0)))), (5, (V.own 4 s1)), (6, (V.ptr 0 0)), (7, (V.t (T.sc (.int .i64 s2))))] [some [(V.t (T.sc (.int .i64 s3))), (V.t (T.sc (.string s4))), (V.t (T.sc (.int .i64 s5))), (V.t (T.sc (.complex .f64 s6.1 s6.2)))]] (j_lex_Tokens_0_K k) = j_lex_Tokens_0_B2 n k (s0, s1, s2, s3, s4, s5, s6) := by kernel_rfl
noncomputable def code_j_lex_Tokens_0_3 : Code := (findLabel code_j_lex_Tokens_0 3).getD .skip
theorem code_j_lex_Tokens_0_3_find : findLabel code_j_lex_Tokens_0 3 = some code_j_lex_Tokens_0_3 := by kernel_rfl
theorem j_lex_Tokens_0_eq3 (n : Nat) (k : (((List T) × Int × ByteArray × Int × (Nat × Nat)) ⊕ ((ByteArray × (List T) × Int × Int × ByteArray × Int × (Nat × Nat)) ⊕ ((ByteArray × (List T) × Int × Int × ByteArray × Int × (Nat × Nat)) ⊕ ((ByteArray × (List T) × Int × Int × ByteArray × Int × (Nat × Nat)) ⊕ ((Int × ByteArray × Int × (Nat × Nat)) ⊕ ((ByteArray × (List T) × Int × Int × Int × ByteArray × Int × (Nat × Nat)) ⊕ ByteArray × (List T) × Int × Int × ByteArray × Int × (Nat × Nat))))))) → Option ((List T) × (Nat × Nat) × Int × Int × ByteArray × Int × (Nat × Nat))) (s0 : ByteArray) (s1 : List T) (s2 : Int) (s3 : Int) (s4 : ByteArray) (s5 : Int) (s6 : Nat × Nat) : mX Tryd.prog (sp_lex_Tokens n) 116 code_j_lex_Tokens_0_3 [(0, (V.t (T.sc (.string s0)))), (5, (V.own 4 s1)), (6, (V.ptr 0 0)), (7, (V.t (T.sc (.int .i64 s2))))] [some [(V.t (T.sc (.int .i64 s3))), (V.t (T.sc (.string s4))), (V.t (T.sc (.int .i64 s5))), (V.t (T.sc (.complex .f64 s6.1 s6.2)))]] (j_lex_Tokens_0_K k) = j_lex_Tokens_0_B3 n k (s0, s1, s2, s3, s4, s5, s6) := by kernel_rfl
noncomputable def code_j_lex_Tokens_0_4 : Code := (findLabel code_j_lex_Tokens_0 4).getD .skip
theorem code_j_lex_Tokens_0_4_find : findLabel code_j_lex_Tokens_0 4 = some code_j_lex_Tokens_0_4 := by kernel_rfl
theorem j_lex_Tokens_0_eq4 (n : Nat) (k : (((List T) × Int × ByteArray × Int × (Nat × Nat)) ⊕ ((ByteArray × (List T) × Int × Int × ByteArray × Int × (Nat × Nat)) ⊕ ((ByteArray × (List T) × Int × Int × ByteArray × Int × (Nat × Nat)) ⊕ ((ByteArray × (List T) × Int × Int × ByteArray × Int × (Nat × Nat)) ⊕ ((Int × ByteArray × Int × (Nat × Nat)) ⊕ ((ByteArray × (List T) × Int × Int × Int × ByteArray × Int × (Nat × Nat)) ⊕ ByteArray × (List T) × Int × Int × ByteArray × Int × (Nat × Nat))))))) → Option ((List T) × (Nat × Nat) × Int × Int × ByteArray × Int × (Nat × Nat))) (s0 : ByteArray) (s1 : List T) (s2 : Int) (s3 : Int) (s4 : ByteArray) (s5 : Int) (s6 : Nat × Nat) : mX Tryd.prog (sp_lex_Tokens n) 116 code_j_lex_Tokens_0_4 [(0, (V.t (T.sc (.string s0)))), (5, (V.own 4 s1)), (6, (V.ptr 0 0)), (7, (V.t (T.sc (.int .i64 s2))))] [some [(V.t (T.sc (.int .i64 s3))), (V.t (T.sc (.string s4))), (V.t (T.sc (.int .i64 s5))), (V.t (T.sc (.complex .f64 s6.1 s6.2)))]] (j_lex_Tokens_0_K k) = j_lex_Tokens_0_B4 n k (s0, s1, s2, s3, s4, s5, s6) := by kernel_rfl
noncomputable def code_j_lex_Tokens_0_5 : Code := (findLabel code_j_lex_Tokens_0 5).getD .skip
theorem code_j_lex_Tokens_0_5_find : findLabel code_j_lex_Tokens_0 5 = some code_j_lex_Tokens_0_5 := by kernel_rfl
theorem j_lex_Tokens_0_eq5 (n : Nat) (k : (((List T) × Int × ByteArray × Int × (Nat × Nat)) ⊕ ((ByteArray × (List T) × Int × Int × ByteArray × Int × (Nat × Nat)) ⊕ ((ByteArray × (List T) × Int × Int × ByteArray × Int × (Nat × Nat)) ⊕ ((ByteArray × (List T) × Int × Int × ByteArray × Int × (Nat × Nat)) ⊕ ((Int × ByteArray × Int × (Nat × Nat)) ⊕ ((ByteArray × (List T) × Int × Int × Int × ByteArray × Int × (Nat × Nat)) ⊕ ByteArray × (List T) × Int × Int × ByteArray × Int × (Nat × Nat))))))) → Option ((List T) × (Nat × Nat) × Int × Int × ByteArray × Int × (Nat × Nat))) (s0 : Int) (s1 : ByteArray) (s2 : Int) (s3 : Nat × Nat) : mX Tryd.prog (sp_lex_Tokens n) 116 code_j_lex_Tokens_0_5 [(6, (V.ptr 0 0))] [some [(V.t (T.sc (.int .i64 s0))), (V.t (T.sc (.string s1))), (V.t (T.sc (.int .i64 s2))), (V.t (T.sc (.complex .f64 s3.1 s3.2)))]] (j_lex_Tokens_0_K k) = j_lex_Tokens_0_B5 n k (s0, s1, s2, s3) := by kernel_rfl
noncomputable def code_j_lex_Tokens_0_6 : Code := (findLabel code_j_lex_Tokens_0 6).getD .skip
theorem code_j_lex_Tokens_0_6_find : findLabel code_j_lex_Tokens_0 6 = some code_j_lex_Tokens_0_6 := by kernel_rfl
theorem j_lex_Tokens_0_eq6 (n : Nat) (k : (((List T) × Int × ByteArray × Int × (Nat × Nat)) ⊕ ((ByteArray × (List T) × Int × Int × ByteArray × Int × (Nat × Nat)) ⊕ ((ByteArray × (List T) × Int × Int × ByteArray × Int × (Nat × Nat)) ⊕ ((ByteArray × (List T) × Int × Int × ByteArray × Int × (Nat × Nat)) ⊕ ((Int × ByteArray × Int × (Nat × Nat)) ⊕ ((ByteArray × (List T) × Int × Int × Int × ByteArray × Int × (Nat × Nat)) ⊕ ByteArray × (List T) × Int × Int × ByteArray × Int × (Nat × Nat))))))) → Option ((List T) × (Nat × Nat) × Int × Int × ByteArray × Int × (Nat × Nat))) (s0 : ByteArray) (s1 : List T) (s2 : Int) (s3 : Int) (s4 : Int) (s5 : ByteArray) (s6 : Int) (s7 : Nat × Nat) : mX Tryd.prog (sp_lex_Tokens n) 116 code_j_lex_Tokens_0_6 [(0, (V.t (T.sc (.string s0)))), (5, (V.own 4 s1)), (6, (V.ptr 0 0)), (7, (V.t (T.sc (.int .i64 s2)))), (8, (V.t (T.sc (.int .i64 s3))))] [some [(V.t (T.sc (.int .i64 s4))), (V.t (T.sc (.string s5))), (V.t (T.sc (.int .i64 s6))), (V.t (T.sc (.complex .f64 s7.1 s7.2)))]] (j_lex_Tokens_0_K k) = j_lex_Tokens_0_B6 n k (s0, s1, s2, s3, s4, s5, s6, s7) := by kernel_rfl
noncomputable def code_j_lex_Tokens_0_0 : Code := (findLabel code_j_lex_Tokens_0 0).getD .skip
theorem code_j_lex_Tokens_0_0_find : findLabel code_j_lex_Tokens_0 0 = some code_j_lex_Tokens_0_0 := by kernel_rfl
theorem j_lex_Tokens_0_eq0 (n : Nat) (k : (((List T) × Int × ByteArray × Int × (Nat × Nat)) ⊕ ((ByteArray × (List T) × Int × Int × ByteArray × Int × (Nat × Nat)) ⊕ ((ByteArray × (List T) × Int × Int × ByteArray × Int × (Nat × Nat)) ⊕ ((ByteArray × (List T) × Int × Int × ByteArray × Int × (Nat × Nat)) ⊕ ((Int × ByteArray × Int × (Nat × Nat)) ⊕ ((ByteArray × (List T) × Int × Int × Int × ByteArray × Int × (Nat × Nat)) ⊕ ByteArray × (List T) × Int × Int × ByteArray × Int × (Nat × Nat))))))) → Option ((List T) × (Nat × Nat) × Int × Int × ByteArray × Int × (Nat × Nat))) (s0 : ByteArray) (s1 : List T) (s2 : Int) (s3 : Int) (s4 : ByteArray) (s5 : Int) (s6 : Nat × Nat) : mX Tryd.prog (sp_lex_Tokens n) 116 code_j_lex_Tokens_0_0 [(0, (V.t (T.sc (.string s0)))), (5, (V.own 4 s1)), (6, (V.ptr 0 0)), (7, (V.t (T.sc (.int .i64 s2))))] [some [(V.t (T.sc (.int .i64 s3))), (V.t (T.sc (.string s4))), (V.t (T.sc (.int .i64 s5))), (V.t (T.sc (.complex .f64 s6.1 s6.2)))]] (j_lex_Tokens_0_K k) = j_lex_Tokens_0_B0 n k (s0, s1, s2, s3, s4, s5, s6) := by kernel_rfl
def j_lex_Tokens_0_Q (x : (List T) × (Nat × Nat) × Int × Int × ByteArray × Int × (Nat × Nat)) (ex : Ex) (e : Env) (s : Sig) : Prop := (fun p0 => (ex = .ret ∧ e = SEnv.env 116 [(2, (V.own 4 p0.1)), (3, (V.t (T.sc (.complex .f64 p0.2.1.1 p0.2.1.2)))), (4, (V.t (T.sc (.int .i64 p0.2.2.1))))] ∧ s = [some [(V.t (T.sc (.int .i64 p0.2.2.2.1))), (V.t (T.sc (.string p0.2.2.2.2.1))), (V.t (T.sc (.int .i64 p0.2.2.2.2.2.1))), (V.t (T.sc (.complex .f64 p0.2.2.2.2.2.2.1 p0.2.2.2.2.2.2.2)))]])) x
theorem j_lex_Tokens_0_run (n : Nat) : ∀ (m : Nat), (∀ (s0 : List T) (s1 : Int) (s2 : ByteArray) (s3 : Int) (s4 : Nat × Nat) (x : (List T) × (Nat × Nat) × Int × Int × ByteArray × Int × (Nat × Nat)), j_lex_Tokens_0 n m (Sum.inl (s0, s1, s2, s3, s4)) = some x → SemC Tryd.prog 0 code_j_lex_Tokens_0 code_j_lex_Tokens_0_1 (SEnv.env 116 [(5, (V.own 4 s0)), (6, (V.ptr 0 0))]) [some [(V.t (T.sc (.int .i64 s1))), (V.t (T.sc (.string s2))), (V.t (T.sc (.int .i64 s3))), (V.t (T.sc (.complex .f64 s4.1 s4.2)))]] (j_lex_Tokens_0_Q x)) ∧ (∀ (s0 : ByteArray) (s1 : List T) (s2 : Int) (s3 : Int) (s4 : ByteArray) (s5 : Int) (s6 : Nat × Nat) (x : (List T) × (Nat × Nat) × Int × Int × ByteArray × Int × (Nat × Nat)), j_lex_Tokens_0 n m (Sum.inr (Sum.inl (s0, s1, s2, s3, s4, s5, s6))) = some x → SemC Tryd.prog 0 code_j_lex_Tokens_0 code_j_lex_Tokens_0_2 (SEnv.env 116 [(0, (V.t (T.sc (.string s0)))), (5, (V.own 4 s1)), (6, (V.ptr 0 0)), (7, (V.t (T.sc (.int .i64 s2))))]) [some [(V.t (T.sc (.int .i64 s3))), (V.t (T.sc (.string s4))), (V.t (T.sc (.int .i64 s5))), (V.t (T.sc (.complex .f64 s6.1 s6.2)))]] (j_lex_Tokens_0_Q x)) ∧ (∀ (s0 : ByteArray) (s1 : List T) (s2 : Int) (s3 : Int) (s4 : ByteArray) (s5 : Int) (s6 : Nat × Nat) (x : (List T) × (Nat × Nat) × Int × Int × ByteArray × Int × (Nat × Nat)), j_lex_Tokens_0 n m (Sum.inr (Sum.inr (Sum.inl (s0, s1, s2, s3, s4, s5, s6)))) = some x → SemC Tryd.prog 0 code_j_lex_Tokens_0 code_j_lex_Tokens_0_3 (SEnv.env 116 [(0, (V.t (T.sc (.string s0)))), (5, (V.own 4 s1)), (6, (V.ptr 0 0)), (7, (V.t (T.sc (.int .i64 s2))))]) [some [(V.t (T.sc (.int .i64 s3))), (V.t (T.sc (.string s4))), (V.t (T.sc (.int .i64 s5))), (V.t (T.sc (.complex .f64 s6.1 s6.2)))]] (j_lex_Tokens_0_Q x)) ∧ (∀ (s0 : ByteArray) (s1 : List T) (s2 : Int) (s3 : Int) (s4 : ByteArray) (s5 : Int) (s6 : Nat × Nat) (x : (List T) × (Nat × Nat) × Int × Int × ByteArray × Int × (Nat × Nat)), j_lex_Tokens_0 n m (Sum.inr (Sum.inr (Sum.inr (Sum.inl (s0, s1, s2, s3, s4, s5, s6))))) = some x → SemC Tryd.prog 0 code_j_lex_Tokens_0 code_j_lex_Tokens_0_4 (SEnv.env 116 [(0, (V.t (T.sc (.string s0)))), (5, (V.own 4 s1)), (6, (V.ptr 0 0)), (7, (V.t (T.sc (.int .i64 s2))))]) [some [(V.t (T.sc (.int .i64 s3))), (V.t (T.sc (.string s4))), (V.t (T.sc (.int .i64 s5))), (V.t (T.sc (.complex .f64 s6.1 s6.2)))]] (j_lex_Tokens_0_Q x)) ∧ (∀ (s0 : Int) (s1 : ByteArray) (s2 : Int) (s3 : Nat × Nat) (x : (List T) × (Nat × Nat) × Int × Int × ByteArray × Int × (Nat × Nat)), j_lex_Tokens_0 n m (Sum.inr (Sum.inr (Sum.inr (Sum.inr (Sum.inl (s0, s1, s2, s3)))))) = some x → SemC Tryd.prog 0 code_j_lex_Tokens_0 code_j_lex_Tokens_0_5 (SEnv.env 116 [(6, (V.ptr 0 0))]) [some [(V.t (T.sc (.int .i64 s0))), (V.t (T.sc (.string s1))), (V.t (T.sc (.int .i64 s2))), (V.t (T.sc (.complex .f64 s3.1 s3.2)))]] (j_lex_Tokens_0_Q x)) ∧ (∀ (s0 : ByteArray) (s1 : List T) (s2 : Int) (s3 : Int) (s4 : Int) (s5 : ByteArray) (s6 : Int) (s7 : Nat × Nat) (x : (List T) × (Nat × Nat) × Int × Int × ByteArray × Int × (Nat × Nat)), j_lex_Tokens_0 n m (Sum.inr (Sum.inr (Sum.inr (Sum.inr (Sum.inr (Sum.inl (s0, s1, s2, s3, s4, s5, s6, s7))))))) = some x → SemC Tryd.prog 0 code_j_lex_Tokens_0 code_j_lex_Tokens_0_6 (SEnv.env 116 [(0, (V.t (T.sc (.string s0)))), (5, (V.own 4 s1)), (6, (V.ptr 0 0)), (7, (V.t (T.sc (.int .i64 s2)))), (8, (V.t (T.sc (.int .i64 s3))))]) [some [(V.t (T.sc (.int .i64 s4))), (V.t (T.sc (.string s5))), (V.t (T.sc (.int .i64 s6))), (V.t (T.sc (.complex .f64 s7.1 s7.2)))]] (j_lex_Tokens_0_Q x)) ∧ (∀ (s0 : ByteArray) (s1 : List T) (s2 : Int) (s3 : Int) (s4 : ByteArray) (s5 : Int) (s6 : Nat × Nat) (x : (List T) × (Nat × Nat) × Int × Int × ByteArray × Int × (Nat × Nat)), j_lex_Tokens_0 n m (Sum.inr (Sum.inr (Sum.inr (Sum.inr (Sum.inr (Sum.inr (s0, s1, s2, s3, s4, s5, s6))))))) = some x → SemC Tryd.prog 0 code_j_lex_Tokens_0 code_j_lex_Tokens_0_0 (SEnv.env 116 [(0, (V.t (T.sc (.string s0)))), (5, (V.own 4 s1)), (6, (V.ptr 0 0)), (7, (V.t (T.sc (.int .i64 s2))))]) [some [(V.t (T.sc (.int .i64 s3))), (V.t (T.sc (.string s4))), (V.t (T.sc (.int .i64 s5))), (V.t (T.sc (.complex .f64 s6.1 s6.2)))]] (j_lex_Tokens_0_Q x))
  | 0 => ⟨(fun _ _ _ _ _ x h => by cases h), (fun _ _ _ _ _ _ _ x h => by cases h), (fun _ _ _ _ _ _ _ x h => by cases h), (fun _ _ _ _ _ _ _ x h => by cases h), (fun _ _ _ _ x h => by cases h), (fun _ _ _ _ _ _ _ _ x h => by cases h), (fun _ _ _ _ _ _ _ x h => by cases h)⟩
  | m + 1 => by
    have ih := j_lex_Tokens_0_run n m
    refine ⟨?_, ?_, ?_, ?_, ?_, ?_, ?_⟩
    · intro s0 s1 s2 s3 s4 x h
      refine scope_step (sp_lex_Tokens_ok n) (code_j_lex_Tokens_0_ok.find code_j_lex_Tokens_0_1_find) (fun a ha => absurd ha (by rw [show loopsOf code_j_lex_Tokens_0_1 = [] from by kernel_rfl]; simp)) (no_scope (by kernel_rfl)) ((j_lex_Tokens_0_eq1 n (j_lex_Tokens_0 n m) s0 s1 s2 s3 s4).trans h) (fun ex E sg h => ?_)
      unfold j_lex_Tokens_0_K at h
      split at h
      · obtain ⟨u0, hu0, h⟩ := Option.bind_eq_some_iff.1 h
        obtain ⟨u1, hu1, h⟩ := Option.bind_eq_some_iff.1 h
        obtain ⟨u2, hu2, h⟩ := Option.bind_eq_some_iff.1 h
        obtain ⟨u3, hu3, h⟩ := Option.bind_eq_some_iff.1 h
        obtain ⟨u4, hu4, h⟩ := Option.bind_eq_some_iff.1 h
        obtain ⟨u5, hu5, h⟩ := Option.bind_eq_some_iff.1 h
        obtain ⟨u6, hu6, h⟩ := Option.bind_eq_some_iff.1 h
        exact .inl ⟨1, _, rfl, code_j_lex_Tokens_0_1_find, SemC.pre (k := 1) (by decide) (WkA.env (WkA.cons (ownOf_wk hu0) rfl (WkA.cons (ptrOf_wk hu1) rfl WkA.nil)) 116) (wkR_sig (WkR.cons (cellsN_wk hu2 (.cons (intOf_wk hu3) (.cons (strOf_wk hu4) (.cons (intOf_wk hu5) (.cons (cplxOf_wk hu6) .nil))))).1 (cellsN_wk hu2 (.cons (intOf_wk hu3) (.cons (strOf_wk hu4) (.cons (intOf_wk hu5) (.cons (cplxOf_wk hu6) .nil))))).2 (renL_mem (.cons rfl (.cons rfl (.cons rfl (.cons rfl .nil))))) (WkR.nil _)) rfl) (ih.1 _ _ _ _ _ x h)⟩
      · obtain ⟨u0, hu0, h⟩ := Option.bind_eq_some_iff.1 h
        obtain ⟨u1, hu1, h⟩ := Option.bind_eq_some_iff.1 h
        obtain ⟨u2, hu2, h⟩ := Option.bind_eq_some_iff.1 h
        obtain ⟨u3, hu3, h⟩ := Option.bind_eq_some_iff.1 h
        obtain ⟨u4, hu4, h⟩ := Option.bind_eq_some_iff.1 h
        obtain ⟨u5, hu5, h⟩ := Option.bind_eq_some_iff.1 h
        obtain ⟨u6, hu6, h⟩ := Option.bind_eq_some_iff.1 h
        obtain ⟨u7, hu7, h⟩ := Option.bind_eq_some_iff.1 h
        obtain ⟨u8, hu8, h⟩ := Option.bind_eq_some_iff.1 h
        exact .inl ⟨2, _, rfl, code_j_lex_Tokens_0_2_find, SemC.pre (k := 1) (by decide) (WkA.env (WkA.cons (strOf_wk hu0) rfl (WkA.cons (ownOf_wk hu1) rfl (WkA.cons (ptrOf_wk hu2) rfl (WkA.cons (intOf_wk hu3) rfl WkA.nil)))) 116) (wkR_sig (WkR.cons (cellsN_wk hu4 (.cons (intOf_wk hu5) (.cons (strOf_wk hu6) (.cons (intOf_wk hu7) (.cons (cplxOf_wk hu8) .nil))))).1 (cellsN_wk hu4 (.cons (intOf_wk hu5) (.cons (strOf_wk hu6) (.cons (intOf_wk hu7) (.cons (cplxOf_wk hu8) .nil))))).2 (renL_mem (.cons rfl (.cons rfl (.cons rfl (.cons rfl .nil))))) (WkR.nil _)) rfl) (ih.2.1 _ _ _ _ _ _ _ x h)⟩
      · obtain ⟨u0, hu0, h⟩ := Option.bind_eq_some_iff.1 h
        obtain ⟨u1, hu1, h⟩ := Option.bind_eq_some_iff.1 h
        obtain ⟨u2, hu2, h⟩ := Option.bind_eq_some_iff.1 h
        obtain ⟨u3, hu3, h⟩ := Option.bind_eq_some_iff.1 h
        obtain ⟨u4, hu4, h⟩ := Option.bind_eq_some_iff.1 h
        obtain ⟨u5, hu5, h⟩ := Option.bind_eq_some_iff.1 h
        obtain ⟨u6, hu6, h⟩ := Option.bind_eq_some_iff.1 h
        obtain ⟨u7, hu7, h⟩ := Option.bind_eq_some_iff.1 h
        obtain ⟨u8, hu8, h⟩ := Option.bind_eq_some_iff.1 h
        exact .inl ⟨3, _, rfl, code_j_lex_Tokens_0_3_find, SemC.pre (k := 1) (by decide) (WkA.env (WkA.cons (strOf_wk hu0) rfl (WkA.cons (ownOf_wk hu1) rfl (WkA.cons (ptrOf_wk hu2) rfl (WkA.cons (intOf_wk hu3) rfl WkA.nil)))) 116) (wkR_sig (WkR.cons (cellsN_wk hu4 (.cons (intOf_wk hu5) (.cons (strOf_wk hu6) (.cons (intOf_wk hu7) (.cons (cplxOf_wk hu8) .nil))))).1 (cellsN_wk hu4 (.cons (intOf_wk hu5) (.cons (strOf_wk hu6) (.cons (intOf_wk hu7) (.cons (cplxOf_wk hu8) .nil))))).2 (renL_mem (.cons rfl (.cons rfl (.cons rfl (.cons rfl .nil))))) (WkR.nil _)) rfl) (ih.2.2.1 _ _ _ _ _ _ _ x h)⟩
      · obtain ⟨u0, hu0, h⟩ := Option.bind_eq_some_iff.1 h
        obtain ⟨u1, hu1, h⟩ := Option.bind_eq_some_iff.1 h
        obtain ⟨u2, hu2, h⟩ := Option.bind_eq_some_iff.1 h
        obtain ⟨u3, hu3, h⟩ := Option.bind_eq_some_iff.1 h
        obtain ⟨u4, hu4, h⟩ := Option.bind_eq_some_iff.1 h
        obtain ⟨u5, hu5, h⟩ := Option.bind_eq_some_iff.1 h
        obtain ⟨u6, hu6, h⟩ := Option.bind_eq_some_iff.1 h
        obtain ⟨u7, hu7, h⟩ := Option.bind_eq_some_iff.1 h
        obtain ⟨u8, hu8, h⟩ := Option.bind_eq_some_iff.1 h
        exact .inl ⟨4, _, rfl, code_j_lex_Tokens_0_4_find, SemC.pre (k := 1) (by decide) (WkA.env (WkA.cons (strOf_wk hu0) rfl (WkA.cons (ownOf_wk hu1) rfl (WkA.cons (ptrOf_wk hu2) rfl (WkA.cons (intOf_wk hu3) rfl WkA.nil)))) 116) (wkR_sig (WkR.cons (cellsN_wk hu4 (.cons (intOf_wk hu5) (.cons (strOf_wk hu6) (.cons (intOf_wk hu7) (.cons (cplxOf_wk hu8) .nil))))).1 (cellsN_wk hu4 (.cons (intOf_wk hu5) (.cons (strOf_wk hu6) (.cons (intOf_wk hu7) (.cons (cplxOf_wk hu8) .nil))))).2 (renL_mem (.cons rfl (.cons rfl (.cons rfl (.cons rfl .nil))))) (WkR.nil _)) rfl) (ih.2.2.2.1 _ _ _ _ _ _ _ x h)⟩
      · obtain ⟨u0, hu0, h⟩ := Option.bind_eq_some_iff.1 h
        obtain ⟨u1, hu1, h⟩ := Option.bind_eq_some_iff.1 h
        obtain ⟨u2, hu2, h⟩ := Option.bind_eq_some_iff.1 h
        obtain ⟨u3, hu3, h⟩ := Option.bind_eq_some_iff.1 h
        obtain ⟨u4, hu4, h⟩ := Option.bind_eq_some_iff.1 h
        obtain ⟨u5, hu5, h⟩ := Option.bind_eq_some_iff.1 h
        exact .inl ⟨5, _, rfl, code_j_lex_Tokens_0_5_find, SemC.pre (k := 1) (by decide) (WkA.env (WkA.cons (ptrOf_wk hu0) rfl WkA.nil) 116) (wkR_sig (WkR.cons (cellsN_wk hu1 (.cons (intOf_wk hu2) (.cons (strOf_wk hu3) (.cons (intOf_wk hu4) (.cons (cplxOf_wk hu5) .nil))))).1 (cellsN_wk hu1 (.cons (intOf_wk hu2) (.cons (strOf_wk hu3) (.cons (intOf_wk hu4) (.cons (cplxOf_wk hu5) .nil))))).2 (renL_mem (.cons rfl (.cons rfl (.cons rfl (.cons rfl .nil))))) (WkR.nil _)) rfl) (ih.2.2.2.2.1 _ _ _ _ x h)⟩
      · obtain ⟨u0, hu0, h⟩ := Option.bind_eq_some_iff.1 h
        obtain ⟨u1, hu1, h⟩ := Option.bind_eq_some_iff.1 h
        obtain ⟨u2, hu2, h⟩ := Option.bind_eq_some_iff.1 h
        obtain ⟨u3, hu3, h⟩ := Option.bind_eq_some_iff.1 h
        obtain ⟨u4, hu4, h⟩ := Option.bind_eq_some_iff.1 h
        obtain ⟨u5, hu5, h⟩ := Option.bind_eq_some_iff.1 h
        obtain ⟨u6, hu6, h⟩ := Option.bind_eq_some_iff.1 h
        obtain ⟨u7, hu7, h⟩ := Option.bind_eq_some_iff.1 h
        obtain ⟨u8, hu8, h⟩ := Option.bind_eq_some_iff.1 h
        obtain ⟨u9, hu9, h⟩ := Option.bind_eq_some_iff.1 h
        exact .inl ⟨6, _, rfl, code_j_lex_Tokens_0_6_find, SemC.pre (k := 1) (by decide) (WkA.env (WkA.cons (strOf_wk hu0) rfl (WkA.cons (ownOf_wk hu1) rfl (WkA.cons (ptrOf_wk hu2) rfl (WkA.cons (intOf_wk hu3) rfl (WkA.cons (intOf_wk hu4) rfl WkA.nil))))) 116) (wkR_sig (WkR.cons (cellsN_wk hu5 (.cons (intOf_wk hu6) (.cons (strOf_wk hu7) (.cons (intOf_wk hu8) (.cons (cplxOf_wk hu9) .nil))))).1 (cellsN_wk hu5 (.cons (intOf_wk hu6) (.cons (strOf_wk hu7) (.cons (intOf_wk hu8) (.cons (cplxOf_wk hu9) .nil))))).2 (renL_mem (.cons rfl (.cons rfl (.cons rfl (.cons rfl .nil))))) (WkR.nil _)) rfl) (ih.2.2.2.2.2.1 _ _ _ _ _ _ _ _ x h)⟩
      · obtain ⟨u0, hu0, h⟩ := Option.bind_eq_some_iff.1 h
        obtain ⟨u1, hu1, h⟩ := Option.bind_eq_some_iff.1 h
        obtain ⟨u2, hu2, h⟩ := Option.bind_eq_some_iff.1 h
        obtain ⟨u3, hu3, h⟩ := Option.bind_eq_some_iff.1 h
        obtain ⟨u4, hu4, h⟩ := Option.bind_eq_some_iff.1 h
        obtain ⟨u5, hu5, h⟩ := Option.bind_eq_some_iff.1 h
        obtain ⟨u6, hu6, h⟩ := Option.bind_eq_some_iff.1 h
        obtain ⟨u7, hu7, h⟩ := Option.bind_eq_some_iff.1 h
        obtain ⟨u8, hu8, h⟩ := Option.bind_eq_some_iff.1 h
        exact .inl ⟨0, _, rfl, code_j_lex_Tokens_0_0_find, SemC.pre (k := 1) (by decide) (WkA.env (WkA.cons (strOf_wk hu0) rfl (WkA.cons (ownOf_wk hu1) rfl (WkA.cons (ptrOf_wk hu2) rfl (WkA.cons (intOf_wk hu3) rfl WkA.nil)))) 116) (wkR_sig (WkR.cons (cellsN_wk hu4 (.cons (intOf_wk hu5) (.cons (strOf_wk hu6) (.cons (intOf_wk hu7) (.cons (cplxOf_wk hu8) .nil))))).1 (cellsN_wk hu4 (.cons (intOf_wk hu5) (.cons (strOf_wk hu6) (.cons (intOf_wk hu7) (.cons (cplxOf_wk hu8) .nil))))).2 (renL_mem (.cons rfl (.cons rfl (.cons rfl (.cons rfl .nil))))) (WkR.nil _)) rfl) (ih.2.2.2.2.2.2 _ _ _ _ _ _ _ x h)⟩
      · obtain ⟨u0, hu0, h⟩ := Option.bind_eq_some_iff.1 h
        obtain ⟨u1, hu1, h⟩ := Option.bind_eq_some_iff.1 h
        obtain ⟨u2, hu2, h⟩ := Option.bind_eq_some_iff.1 h
        obtain ⟨u3, hu3, h⟩ := Option.bind_eq_some_iff.1 h
        obtain ⟨u4, hu4, h⟩ := Option.bind_eq_some_iff.1 h
        obtain ⟨u5, hu5, h⟩ := Option.bind_eq_some_iff.1 h
        obtain ⟨u6, hu6, h⟩ := Option.bind_eq_some_iff.1 h
        obtain ⟨u7, hu7, h⟩ := Option.bind_eq_some_iff.1 h
        simp only [Option.some.injEq] at h
        subst h
        exact .inr ⟨fun l hl => (by cases hl), 1, _, _, by decide, WkA.env (WkA.cons (ownOf_wk hu0) rfl (WkA.cons (cplxOf_wk hu1) rfl (WkA.cons (intOf_wk hu2) rfl WkA.nil))) 116, (wkR_sig (WkR.cons (cellsN_wk hu3 (.cons (intOf_wk hu4) (.cons (strOf_wk hu5) (.cons (intOf_wk hu6) (.cons (cplxOf_wk hu7) .nil))))).1 (cellsN_wk hu3 (.cons (intOf_wk hu4) (.cons (strOf_wk hu5) (.cons (intOf_wk hu6) (.cons (cplxOf_wk hu7) .nil))))).2 (renL_mem (.cons rfl (.cons rfl (.cons rfl (.cons rfl .nil))))) (WkR.nil _)) rfl), rfl, rfl, rfl⟩
      · cases h
    · intro s0 s1 s2 s3 s4 s5 s6 x h
      refine scope_step (sp_lex_Tokens_ok n) (code_j_lex_Tokens_0_ok.find code_j_lex_Tokens_0_2_find) (fun a ha => absurd ha (by rw [show loopsOf code_j_lex_Tokens_0_2 = [] from by kernel_rfl]; simp)) (no_scope (by kernel_rfl)) ((j_lex_Tokens_0_eq2 n (j_lex_Tokens_0 n m) s0 s1 s2 s3 s4 s5 s6).trans h) (fun ex E sg h => ?_)
      unfold j_lex_Tokens_0_K at h
      split at h
      · obtain ⟨u0, hu0, h⟩ := Option.bind_eq_some_iff.1 h
        obtain ⟨u1, hu1, h⟩ := Option.bind_eq_some_iff.1 h
        obtain ⟨u2, hu2, h⟩ := Option.bind_eq_some_iff.1 h
        obtain ⟨u3, hu3, h⟩ := Option.bind_eq_some_iff.1 h
        obtain ⟨u4, hu4, h⟩ := Option.bind_eq_some_iff.1 h
        obtain ⟨u5, hu5, h⟩ := Option.bind_eq_some_iff.1 h
        obtain ⟨u6, hu6, h⟩ := Option.bind_eq_some_iff.1 h
        exact .inl ⟨1, _, rfl, code_j_lex_Tokens_0_1_find, SemC.pre (k := 1) (by decide) (WkA.env (WkA.cons (ownOf_wk hu0) rfl (WkA.cons (ptrOf_wk hu1) rfl WkA.nil)) 116) (wkR_sig (WkR.cons (cellsN_wk hu2 (.cons (intOf_wk hu3) (.cons (strOf_wk hu4) (.cons (intOf_wk hu5) (.cons (cplxOf_wk hu6) .nil))))).1 (cellsN_wk hu2 (.cons (intOf_wk hu3) (.cons (strOf_wk hu4) (.cons (intOf_wk hu5) (.cons (cplxOf_wk hu6) .nil))))).2 (renL_mem (.cons rfl (.cons rfl (.cons rfl (.cons rfl .nil))))) (WkR.nil _)) rfl) (ih.1 _ _ _ _ _ x h)⟩
      · obtain ⟨u0, hu0, h⟩ := Option.bind_eq_some_iff.1 h
        obtain ⟨u1, hu1, h⟩ := Option.bind_eq_some_iff.1 h
        obtain ⟨u2, hu2, h⟩ := Option.bind_eq_some_iff.1 h
        obtain ⟨u3, hu3, h⟩ := Option.bind_eq_some_iff.1 h
        obtain ⟨u4, hu4, h⟩ := Option.bind_eq_some_iff.1 h
        obtain ⟨u5, hu5, h⟩ := Option.bind_eq_some_iff.1 h
        obtain ⟨u6, hu6, h⟩ := Option.bind_eq_some_iff.1 h
        obtain ⟨u7, hu7, h⟩ := Option.bind_eq_some_iff.1 h
        obtain ⟨u8, hu8, h⟩ := Option.bind_eq_some_iff.1 h
        exact .inl ⟨2, _, rfl, code_j_lex_Tokens_0_2_find, SemC.pre (k := 1) (by decide) (WkA.env (WkA.cons (strOf_wk hu0) rfl (WkA.cons (ownOf_wk hu1) rfl (WkA.cons (ptrOf_wk hu2) rfl (WkA.cons (intOf_wk hu3) rfl WkA.nil)))) 116) (wkR_sig (WkR.cons (cellsN_wk hu4 (.cons (intOf_wk hu5) (.cons (strOf_wk hu6) (.cons (intOf_wk hu7) (.cons (cplxOf_wk hu8) .nil))))).1 (cellsN_wk hu4 (.cons (intOf_wk hu5) (.cons (strOf_wk hu6) (.cons (intOf_wk hu7) (.cons (cplxOf_wk hu8) .nil))))).2 (renL_mem (.cons rfl (.cons rfl (.cons rfl (.cons rfl .nil))))) (WkR.nil _)) rfl) (ih.2.1 _ _ _ _ _ _ _ x h)⟩
      · obtain ⟨u0, hu0, h⟩ := Option.bind_eq_some_iff.1 h
        obtain ⟨u1, hu1, h⟩ := Option.bind_eq_some_iff.1 h
        obtain ⟨u2, hu2, h⟩ := Option.bind_eq_some_iff.1 h
        obtain ⟨u3, hu3, h⟩ := Option.bind_eq_some_iff.1 h
        obtain ⟨u4, hu4, h⟩ := Option.bind_eq_some_iff.1 h
        obtain ⟨u5, hu5, h⟩ := Option.bind_eq_some_iff.1 h
        obtain ⟨u6, hu6, h⟩ := Option.bind_eq_some_iff.1 h
        obtain ⟨u7, hu7, h⟩ := Option.bind_eq_some_iff.1 h
        obtain ⟨u8, hu8, h⟩ := Option.bind_eq_some_iff.1 h
        exact .inl ⟨3, _, rfl, code_j_lex_Tokens_0_3_find, SemC.pre (k := 1) (by decide) (WkA.env (WkA.cons (strOf_wk hu0) rfl (WkA.cons (ownOf_wk hu1) rfl (WkA.cons (ptrOf_wk hu2) rfl (WkA.cons (intOf_wk hu3) rfl WkA.nil)))) 116) (wkR_sig (WkR.cons (cellsN_wk hu4 (.cons (intOf_wk hu5) (.cons (strOf_wk hu6) (.cons (intOf_wk hu7) (.cons (cplxOf_wk hu8) .nil))))).1 (cellsN_wk hu4 (.cons (intOf_wk hu5) (.cons (strOf_wk hu6) (.cons (intOf_wk hu7) (.cons (cplxOf_wk hu8) .nil))))).2 (renL_mem (.cons rfl (.cons rfl (.cons rfl (.cons rfl .nil))))) (WkR.nil _)) rfl) (ih.2.2.1 _ _ _ _ _ _ _ x h)⟩
      · obtain ⟨u0, hu0, h⟩ := Option.bind_eq_some_iff.1 h
        obtain ⟨u1, hu1, h⟩ := Option.bind_eq_some_iff.1 h
        obtain ⟨u2, hu2, h⟩ := Option.bind_eq_some_iff.1 h
        obtain ⟨u3, hu3, h⟩ := Option.bind_eq_some_iff.1 h
        obtain ⟨u4, hu4, h⟩ := Option.bind_eq_some_iff.1 h
        obtain ⟨u5, hu5, h⟩ := Option.bind_eq_some_iff.1 h
        obtain ⟨u6, hu6, h⟩ := Option.bind_eq_some_iff.1 h
        obtain ⟨u7, hu7, h⟩ := Option.bind_eq_some_iff.1 h
        obtain ⟨u8, hu8, h⟩ := Option.bind_eq_some_iff.1 h
        exact .inl ⟨4, _, rfl, code_j_lex_Tokens_0_4_find, SemC.pre (k := 1) (by decide) (WkA.env (WkA.cons (strOf_wk hu0) rfl (WkA.cons (ownOf_wk hu1) rfl (WkA.cons (ptrOf_wk hu2) rfl (WkA.cons (intOf_wk hu3) rfl WkA.nil)))) 116) (wkR_sig (WkR.cons (cellsN_wk hu4 (.cons (intOf_wk hu5) (.cons (strOf_wk hu6) (.cons (intOf_wk hu7) (.cons (cplxOf_wk hu8) .nil))))).1 (cellsN_wk hu4 (.cons (intOf_wk hu5) (.cons (strOf_wk hu6) (.cons (intOf_wk hu7) (.cons (cplxOf_wk hu8) .nil))))).2 (renL_mem (.cons rfl (.cons rfl (.cons rfl (.cons rfl .nil))))) (WkR.nil _)) rfl) (ih.2.2.2.1 _ _ _ _ _ _ _ x h)⟩
      · obtain ⟨u0, hu0, h⟩ := Option.bind_eq_some_iff.1 h
        obtain ⟨u1, hu1, h⟩ := Option.bind_eq_some_iff.1 h
        obtain ⟨u2, hu2, h⟩ := Option.bind_eq_some_iff.1 h
        obtain ⟨u3, hu3, h⟩ := Option.bind_eq_some_iff.1 h
        obtain ⟨u4, hu4, h⟩ := Option.bind_eq_some_iff.1 h
        obtain ⟨u5, hu5, h⟩ := Option.bind_eq_some_iff.1 h
        exact .inl ⟨5, _, rfl, code_j_lex_Tokens_0_5_find, SemC.pre (k := 1) (by decide) (WkA.env (WkA.cons (ptrOf_wk hu0) rfl WkA.nil) 116) (wkR_sig (WkR.cons (cellsN_wk hu1 (.cons (intOf_wk hu2) (.cons (strOf_wk hu3) (.cons (intOf_wk hu4) (.cons (cplxOf_wk hu5) .nil))))).1 (cellsN_wk hu1 (.cons (intOf_wk hu2) (.cons (strOf_wk hu3) (.cons (intOf_wk hu4) (.cons (cplxOf_wk hu5) .nil))))).2 (renL_mem (.cons rfl (.cons rfl (.cons rfl (.cons rfl .nil))))) (WkR.nil _)) rfl) (ih.2.2.2.2.1 _ _ _ _ x h)⟩
      · obtain ⟨u0, hu0, h⟩ := Option.bind_eq_some_iff.1 h
        obtain ⟨u1, hu1, h⟩ := Option.bind_eq_some_iff.1 h
        obtain ⟨u2, hu2, h⟩ := Option.bind_eq_some_iff.1 h
        obtain ⟨u3, hu3, h⟩ := Option.bind_eq_some_iff.1 h
        obtain ⟨u4, hu4, h⟩ := Option.bind_eq_some_iff.1 h
        obtain ⟨u5, hu5, h⟩ := Option.bind_eq_some_iff.1 h
        obtain ⟨u6, hu6, h⟩ := Option.bind_eq_some_iff.1 h
        obtain ⟨u7, hu7, h⟩ := Option.bind_eq_some_iff.1 h
        obtain ⟨u8, hu8, h⟩ := Option.bind_eq_some_iff.1 h
        obtain ⟨u9, hu9, h⟩ := Option.bind_eq_some_iff.1 h
        exact .inl ⟨6, _, rfl, code_j_lex_Tokens_0_6_find, SemC.pre (k := 1) (by decide) (WkA.env (WkA.cons (strOf_wk hu0) rfl (WkA.cons (ownOf_wk hu1) rfl (WkA.cons (ptrOf_wk hu2) rfl (WkA.cons (intOf_wk hu3) rfl (WkA.cons (intOf_wk hu4) rfl WkA.nil))))) 116) (wkR_sig (WkR.cons (cellsN_wk hu5 (.cons (intOf_wk hu6) (.cons (strOf_wk hu7) (.cons (intOf_wk hu8) (.cons (cplxOf_wk hu9) .nil))))).1 (cellsN_wk hu5 (.cons (intOf_wk hu6) (.cons (strOf_wk hu7) (.cons (intOf_wk hu8) (.cons (cplxOf_wk hu9) .nil))))).2 (renL_mem (.cons rfl (.cons rfl (.cons rfl (.cons rfl .nil))))) (WkR.nil _)) rfl) (ih.2.2.2.2.2.1 _ _ _ _ _ _ _ _ x h)⟩
      · obtain ⟨u0, hu0, h⟩ := Option.bind_eq_some_iff.1 h
        obtain ⟨u1, hu1, h⟩ := Option.bind_eq_some_iff.1 h
        obtain ⟨u2, hu2, h⟩ := Option.bind_eq_some_iff.1 h
        obtain ⟨u3, hu3, h⟩ := Option.bind_eq_some_iff.1 h
        obtain ⟨u4, hu4, h⟩ := Option.bind_eq_some_iff.1 h
        obtain ⟨u5, hu5, h⟩ := Option.bind_eq_some_iff.1 h
        obtain ⟨u6, hu6, h⟩ := Option.bind_eq_some_iff.1 h
        obtain ⟨u7, hu7, h⟩ := Option.bind_eq_some_iff.1 h
        obtain ⟨u8, hu8, h⟩ := Option.bind_eq_some_iff.1 h
        exact .inl ⟨0, _, rfl, code_j_lex_Tokens_0_0_find, SemC.pre (k := 1) (by decide) (WkA.env (WkA.cons (strOf_wk hu0) rfl (WkA.cons (ownOf_wk hu1) rfl (WkA.cons (ptrOf_wk hu2) rfl (WkA.cons (intOf_wk hu3) rfl WkA.nil)))) 116) (wkR_sig (WkR.cons (cellsN_wk hu4 (.cons (intOf_wk hu5) (.cons (strOf_wk hu6) (.cons (intOf_wk hu7) (.cons (cplxOf_wk hu8) .nil))))).1 (cellsN_wk hu4 (.cons (intOf_wk hu5) (.cons (strOf_wk hu6) (.cons (intOf_wk hu7) (.cons (cplxOf_wk hu8) .nil))))).2 (renL_mem (.cons rfl (.cons rfl (.cons rfl (.cons rfl .nil))))) (WkR.nil _)) rfl) (ih.2.2.2.2.2.2 _ _ _ _ _ _ _ x h)⟩
      · obtain ⟨u0, hu0, h⟩ := Option.bind_eq_some_iff.1 h
        obtain ⟨u1, hu1, h⟩ := Option.bind_eq_some_iff.1 h
        obtain ⟨u2, hu2, h⟩ := Option.bind_eq_some_iff.1 h
        obtain ⟨u3, hu3, h⟩ := Option.bind_eq_some_iff.1 h
        obtain ⟨u4, hu4, h⟩ := Option.bind_eq_some_iff.1 h
        obtain ⟨u5, hu5, h⟩ := Option.bind_eq_some_iff.1 h
        obtain ⟨u6, hu6, h⟩ := Option.bind_eq_some_iff.1 h
        obtain ⟨u7, hu7, h⟩ := Option.bind_eq_some_iff.1 h
        simp only [Option.some.injEq] at h
        subst h
        exact .inr ⟨fun l hl => (by cases hl), 1, _, _, by decide, WkA.env (WkA.cons (ownOf_wk hu0) rfl (WkA.cons (cplxOf_wk hu1) rfl (WkA.cons (intOf_wk hu2) rfl WkA.nil))) 116, (wkR_sig (WkR.cons (cellsN_wk hu3 (.cons (intOf_wk hu4) (.cons (strOf_wk hu5) (.cons (intOf_wk hu6) (.cons (cplxOf_wk hu7) .nil))))).1 (cellsN_wk hu3 (.cons (intOf_wk hu4) (.cons (strOf_wk hu5) (.cons (intOf_wk hu6) (.cons (cplxOf_wk hu7) .nil))))).2 (renL_mem (.cons rfl (.cons rfl (.cons rfl (.cons rfl .nil))))) (WkR.nil _)) rfl), rfl, rfl, rfl⟩
      · cases h
    · intro s0 s1 s2 s3 s4 s5 s6 x h
      refine scope_step (sp_lex_Tokens_ok n) (code_j_lex_Tokens_0_ok.find code_j_lex_Tokens_0_3_find) (fun a ha => absurd ha (by rw [show loopsOf code_j_lex_Tokens_0_3 = [] from by kernel_rfl]; simp)) (no_scope (by kernel_rfl)) ((j_lex_Tokens_0_eq3 n (j_lex_Tokens_0 n m) s0 s1 s2 s3 s4 s5 s6).trans h) (fun ex E sg h => ?_)
      unfold j_lex_Tokens_0_K at h
      split at h
      · obtain ⟨u0, hu0, h⟩ := Option.bind_eq_some_iff.1 h
        obtain ⟨u1, hu1, h⟩ := Option.bind_eq_some_iff.1 h
        obtain ⟨u2, hu2, h⟩ := Option.bind_eq_some_iff.1 h
        obtain ⟨u3, hu3, h⟩ := Option.bind_eq_some_iff.1 h
        obtain ⟨u4, hu4, h⟩ := Option.bind_eq_some_iff.1 h
        obtain ⟨u5, hu5, h⟩ := Option.bind_eq_some_iff.1 h
        obtain ⟨u6, hu6, h⟩ := Option.bind_eq_some_iff.1 h
        exact .inl ⟨1, _, rfl, code_j_lex_Tokens_0_1_find, SemC.pre (k := 1) (by decide) (WkA.env (WkA.cons (ownOf_wk hu0) rfl (WkA.cons (ptrOf_wk hu1) rfl WkA.nil)) 116) (wkR_sig (WkR.cons (cellsN_wk hu2 (.cons (intOf_wk hu3) (.cons (strOf_wk hu4) (.cons (intOf_wk hu5) (.cons (cplxOf_wk hu6) .nil))))).1 (cellsN_wk hu2 (.cons (intOf_wk hu3) (.cons (strOf_wk hu4) (.cons (intOf_wk hu5) (.cons (cplxOf_wk hu6) .nil))))).2 (renL_mem (.cons rfl (.cons rfl (.cons rfl (.cons rfl .nil))))) (WkR.nil _)) rfl) (ih.1 _ _ _ _ _ x h)⟩
      · obtain ⟨u0, hu0, h⟩ := Option.bind_eq_some_iff.1 h
        obtain ⟨u1, hu1, h⟩ := Option.bind_eq_some_iff.1 h
        obtain ⟨u2, hu2, h⟩ := Option.bind_eq_some_iff.1 h
        obtain ⟨u3, hu3, h⟩ := Option.bind_eq_some_iff.1 h
        obtain ⟨u4, hu4, h⟩ := Option.bind_eq_some_iff.1 h
        obtain ⟨u5, hu5, h⟩ := Option.bind_eq_some_iff.1 h
        obtain ⟨u6, hu6, h⟩ := Option.bind_eq_some_iff.1 h
        obtain ⟨u7, hu7, h⟩ := Option.bind_eq_some_iff.1 h
        obtain ⟨u8, hu8, h⟩ := Option.bind_eq_some_iff.1 h
        exact .inl ⟨2, _, rfl, code_j_lex_Tokens_0_2_find, SemC.pre (k := 1) (by decide) (WkA.env (WkA.cons (strOf_wk hu0) rfl (WkA.cons (ownOf_wk hu1) rfl (WkA.cons (ptrOf_wk hu2) rfl (WkA.cons (intOf_wk hu3) rfl WkA.nil)))) 116) (wkR_sig (WkR.cons (cellsN_wk hu4 (.cons (intOf_wk hu5) (.cons (strOf_wk hu6) (.cons (intOf_wk hu7) (.cons (cplxOf_wk hu8) .nil))))).1 (cellsN_wk hu4 (.cons (intOf_wk hu5) (.cons (strOf_wk hu6) (.cons (intOf_wk hu7) (.cons (cplxOf_wk hu8) .nil))))).2 (renL_mem (.cons rfl (.cons rfl (.cons rfl (.cons rfl .nil))))) (WkR.nil _)) rfl) (ih.2.1 _ _ _ _ _ _ _ x h)⟩
      · obtain ⟨u0, hu0, h⟩ := Option.bind_eq_some_iff.1 h
        obtain ⟨u1, hu1, h⟩ := Option.bind_eq_some_iff.1 h
        obtain ⟨u2, hu2, h⟩ := Option.bind_eq_some_iff.1 h
        obtain ⟨u3, hu3, h⟩ := Option.bind_eq_some_iff.1 h
        obtain ⟨u4, hu4, h⟩ := Option.bind_eq_some_iff.1 h
        obtain ⟨u5, hu5, h⟩ := Option.bind_eq_some_iff.1 h
        obtain ⟨u6, hu6, h⟩ := Option.bind_eq_some_iff.1 h
        obtain ⟨u7, hu7, h⟩ := Option.bind_eq_some_iff.1 h
        obtain ⟨u8, hu8, h⟩ := Option.bind_eq_some_iff.1 h
        exact .inl ⟨3, _, rfl, code_j_lex_Tokens_0_3_find, SemC.pre (k := 1) (by decide) (WkA.env (WkA.cons (strOf_wk hu0) rfl (WkA.cons (ownOf_wk hu1) rfl (WkA.cons (ptrOf_wk hu2) rfl (WkA.cons (intOf_wk hu3) rfl WkA.nil)))) 116) (wkR_sig (WkR.cons (cellsN_wk hu4 (.cons (intOf_wk hu5) (.cons (strOf_wk hu6) (.cons (intOf_wk hu7) (.cons (cplxOf_wk hu8) .nil))))).1 (cellsN_wk hu4 (.cons (intOf_wk hu5) (.cons (strOf_wk hu6) (.cons (intOf_wk hu7) (.cons (cplxOf_wk hu8) .nil))))).2 (renL_mem (.cons rfl (.cons rfl (.cons rfl (.cons rfl .nil))))) (WkR.nil _)) rfl) (ih.2.2.1 _ _ _ _ _ _ _ x h)⟩
      · obtain ⟨u0, hu0, h⟩ := Option.bind_eq_some_iff.1 h
        obtain ⟨u1, hu1, h⟩ := Option.bind_eq_some_iff.1 h
        obtain ⟨u2, hu2, h⟩ := Option.bind_eq_some_iff.1 h
        obtain ⟨u3, hu3, h⟩ := Option.bind_eq_some_iff.1 h
        obtain ⟨u4, hu4, h⟩ := Option.bind_eq_some_iff.1 h
        obtain ⟨u5, hu5, h⟩ := Option.bind_eq_some_iff.1 h
        obtain ⟨u6, hu6, h⟩ := Option.bind_eq_some_iff.1 h
        obtain ⟨u7, hu7, h⟩ := Option.bind_eq_some_iff.1 h
        obtain ⟨u8, hu8, h⟩ := Option.bind_eq_some_iff.1 h
        exact .inl ⟨4, _, rfl, code_j_lex_Tokens_0_4_find, SemC.pre (k := 1) (by decide) (WkA.env (WkA.cons (strOf_wk hu0) rfl (WkA.cons (ownOf_wk hu1) rfl (WkA.cons (ptrOf_wk hu2) rfl (WkA.cons (intOf_wk hu3) rfl WkA.nil)))) 116) (wkR_sig (WkR.cons (cellsN_wk hu4 (.cons (intOf_wk hu5) (.cons (strOf_wk hu6) (.cons (intOf_wk hu7) (.cons (cplxOf_wk hu8) .nil))))).1 (cellsN_wk hu4 (.cons (intOf_wk hu5) (.cons (strOf_wk hu6) (.cons (intOf_wk hu7) (.cons (cplxOf_wk hu8) .nil))))).2 (renL_mem (.cons rfl (.cons rfl (.cons rfl (.cons rfl .nil))))) (WkR.nil _)) rfl) (ih.2.2.2.1 _ _ _ _ _ _ _ x h)⟩
      · obtain ⟨u0, hu0, h⟩ := Option.bind_eq_some_iff.1 h
        obtain ⟨u1, hu1, h⟩ := Option.bind_eq_some_iff.1 h
        obtain ⟨u2, hu2, h⟩ := Option.bind_eq_some_iff.1 h
        obtain ⟨u3, hu3, h⟩ := Option.bind_eq_some_iff.1 h
        obtain ⟨u4, hu4, h⟩ := Option.bind_eq_some_iff.1 h
        obtain ⟨u5, hu5, h⟩ := Option.bind_eq_some_iff.1 h
        exact .inl ⟨5, _, rfl, code_j_lex_Tokens_0_5_find, SemC.pre (k := 1) (by decide) (WkA.env (WkA.cons (ptrOf_wk hu0) rfl WkA.nil) 116) (wkR_sig (WkR.cons (cellsN_wk hu1 (.cons (intOf_wk hu2) (.cons (strOf_wk hu3) (.cons (intOf_wk hu4) (.cons (cplxOf_wk hu5) .nil))))).1 (cellsN_wk hu1 (.cons (intOf_wk hu2) (.cons (strOf_wk hu3) (.cons (intOf_wk hu4) (.cons (cplxOf_wk hu5) .nil))))).2 (renL_mem (.cons rfl (.cons rfl (.cons rfl (.cons rfl .nil))))) (WkR.nil _)) rfl) (ih.2.2.2.2.1 _ _ _ _ x h)⟩
      · obtain ⟨u0, hu0, h⟩ := Option.bind_eq_some_iff.1 h
        obtain ⟨u1, hu1, h⟩ := Option.bind_eq_some_iff.1 h
        obtain ⟨u2, hu2, h⟩ := Option.bind_eq_some_iff.1 h
        obtain ⟨u3, hu3, h⟩ := Option.bind_eq_some_iff.1 h
        obtain ⟨u4, hu4, h⟩ := Option.bind_eq_some_iff.1 h
        obtain ⟨u5, hu5, h⟩ := Option.bind_eq_some_iff.1 h
        obtain ⟨u6, hu6, h⟩ := Option.bind_eq_some_iff.1 h
        obtain ⟨u7, hu7, h⟩ := Option.bind_eq_some_iff.1 h
        obtain ⟨u8, hu8, h⟩ := Option.bind_eq_some_iff.1 h
        obtain ⟨u9, hu9, h⟩ := Option.bind_eq_some_iff.1 h
        exact .inl ⟨6, _, rfl, code_j_lex_Tokens_0_6_find, SemC.pre (k := 1) (by decide) (WkA.env (WkA.cons (strOf_wk hu0) rfl (WkA.cons (ownOf_wk hu1) rfl (WkA.cons (ptrOf_wk hu2) rfl (WkA.cons (intOf_wk hu3) rfl (WkA.cons (intOf_wk hu4) rfl WkA.nil))))) 116) (wkR_sig (WkR.cons (cellsN_wk hu5 (.cons (intOf_wk hu6) (.cons (strOf_wk hu7) (.cons (intOf_wk hu8) (.cons (cplxOf_wk hu9) .nil))))).1 (cellsN_wk hu5 (.cons (intOf_wk hu6) (.cons (strOf_wk hu7) (.cons (intOf_wk hu8) (.cons (cplxOf_wk hu9) .nil))))).2 (renL_mem (.cons rfl (.cons rfl (.cons rfl (.cons rfl .nil))))) (WkR.nil _)) rfl) (ih.2.2.2.2.2.1 _ _ _ _ _ _ _ _ x h)⟩
      · obtain ⟨u0, hu0, h⟩ := Option.bind_eq_some_iff.1 h
        obtain ⟨u1, hu1, h⟩ := Option.bind_eq_some_iff.1 h
        obtain ⟨u2, hu2, h⟩ := Option.bind_eq_some_iff.1 h
        obtain ⟨u3, hu3, h⟩ := Option.bind_eq_some_iff.1 h
        obtain ⟨u4, hu4, h⟩ := Option.bind_eq_some_iff.1 h
        obtain ⟨u5, hu5, h⟩ := Option.bind_eq_some_iff.1 h
        obtain ⟨u6, hu6, h⟩ := Option.bind_eq_some_iff.1 h
        obtain ⟨u7, hu7, h⟩ := Option.bind_eq_some_iff.1 h
        obtain ⟨u8, hu8, h⟩ := Option.bind_eq_some_iff.1 h
        exact .inl ⟨0, _, rfl, code_j_lex_Tokens_0_0_find, SemC.pre (k := 1) (by decide) (WkA.env (WkA.cons (strOf_wk hu0) rfl (WkA.cons (ownOf_wk hu1) rfl (WkA.cons (ptrOf_wk hu2) rfl (WkA.cons (intOf_wk hu3) rfl WkA.nil)))) 116) (wkR_sig (WkR.cons (cellsN_wk hu4 (.cons (intOf_wk hu5) (.cons (strOf_wk hu6) (.cons (intOf_wk hu7) (.cons (cplxOf_wk hu8) .nil))))).1 (cellsN_wk hu4 (.cons (intOf_wk hu5) (.cons (strOf_wk hu6) (.cons (intOf_wk hu7) (.cons (cplxOf_wk hu8) .nil))))).2 (renL_mem (.cons rfl (.cons rfl (.cons rfl (.cons rfl .nil))))) (WkR.nil _)) rfl) (ih.2.2.2.2.2.2 _ _ _ _ _ _ _ x h)⟩
      · obtain ⟨u0, hu0, h⟩ := Option.bind_eq_some_iff.1 h
        obtain ⟨u1, hu1, h⟩ := Option.bind_eq_some_iff.1 h
        obtain ⟨u2, hu2, h⟩ := Option.bind_eq_some_iff.1 h
        obtain ⟨u3, hu3, h⟩ := Option.bind_eq_some_iff.1 h
        obtain ⟨u4, hu4, h⟩ := Option.bind_eq_some_iff.1 h
        obtain ⟨u5, hu5, h⟩ := Option.bind_eq_some_iff.1 h
        obtain ⟨u6, hu6, h⟩ := Option.bind_eq_some_iff.1 h
        obtain ⟨u7, hu7, h⟩ := Option.bind_eq_some_iff.1 h
        simp only [Option.some.injEq] at h
        subst h
        exact .inr ⟨fun l hl => (by cases hl), 1, _, _, by decide, WkA.env (WkA.cons (ownOf_wk hu0) rfl (WkA.cons (cplxOf_wk hu1) rfl (WkA.cons (intOf_wk hu2) rfl WkA.nil))) 116, (wkR_sig (WkR.cons (cellsN_wk hu3 (.cons (intOf_wk hu4) (.cons (strOf_wk hu5) (.cons (intOf_wk hu6) (.cons (cplxOf_wk hu7) .nil))))).1 (cellsN_wk hu3 (.cons (intOf_wk hu4) (.cons (strOf_wk hu5) (.cons (intOf_wk hu6) (.cons (cplxOf_wk hu7) .nil))))).2 (renL_mem (.cons rfl (.cons rfl (.cons rfl (.cons rfl .nil))))) (WkR.nil _)) rfl), rfl, rfl, rfl⟩
      · cases h
    · intro s0 s1 s2 s3 s4 s5 s6 x h
      refine scope_step (sp_lex_Tokens_ok n) (code_j_lex_Tokens_0_ok.find code_j_lex_Tokens_0_4_find) (fun a ha => absurd ha (by rw [show loopsOf code_j_lex_Tokens_0_4 = [] from by kernel_rfl]; simp)) (no_scope (by kernel_rfl)) ((j_lex_Tokens_0_eq4 n (j_lex_Tokens_0 n m) s0 s1 s2 s3 s4 s5 s6).trans h) (fun ex E sg h => ?_)
      unfold j_lex_Tokens_0_K at h
      split at h
      · obtain ⟨u0, hu0, h⟩ := Option.bind_eq_some_iff.1 h
        obtain ⟨u1, hu1, h⟩ := Option.bind_eq_some_iff.1 h
        obtain ⟨u2, hu2, h⟩ := Option.bind_eq_some_iff.1 h
        obtain ⟨u3, hu3, h⟩ := Option.bind_eq_some_iff.1 h
        obtain ⟨u4, hu4, h⟩ := Option.bind_eq_some_iff.1 h
        obtain ⟨u5, hu5, h⟩ := Option.bind_eq_some_iff.1 h
        obtain ⟨u6, hu6, h⟩ := Option.bind_eq_some_iff.1 h
        exact .inl ⟨1, _, rfl, code_j_lex_Tokens_0_1_find, SemC.pre (k := 1) (by decide) (WkA.env (WkA.cons (ownOf_wk hu0) rfl (WkA.cons (ptrOf_wk hu1) rfl WkA.nil)) 116) (wkR_sig (WkR.cons (cellsN_wk hu2 (.cons (intOf_wk hu3) (.cons (strOf_wk hu4) (.cons (intOf_wk hu5) (.cons (cplxOf_wk hu6) .nil))))).1 (cellsN_wk hu2 (.cons (intOf_wk hu3) (.cons (strOf_wk hu4) (.cons (intOf_wk hu5) (.cons (cplxOf_wk hu6) .nil))))).2 (renL_mem (.cons rfl (.cons rfl (.cons rfl (.cons rfl .nil))))) (WkR.nil _)) rfl) (ih.1 _ _ _ _ _ x h)⟩
      · obtain ⟨u0, hu0, h⟩ := Option.bind_eq_some_iff.1 h
        obtain ⟨u1, hu1, h⟩ := Option.bind_eq_some_iff.1 h
        obtain ⟨u2, hu2, h⟩ := Option.bind_eq_some_iff.1 h
        obtain ⟨u3, hu3, h⟩ := Option.bind_eq_some_iff.1 h
        obtain ⟨u4, hu4, h⟩ := Option.bind_eq_some_iff.1 h
        obtain ⟨u5, hu5, h⟩ := Option.bind_eq_some_iff.1 h
        obtain ⟨u6, hu6, h⟩ := Option.bind_eq_some_iff.1 h
        obtain ⟨u7, hu7, h⟩ := Option.bind_eq_some_iff.1 h
        obtain ⟨u8, hu8, h⟩ := Option.bind_eq_some_iff.1 h
        exact .inl ⟨2, _, rfl, code_j_lex_Tokens_0_2_find, SemC.pre (k := 1) (by decide) (WkA.env (WkA.cons (strOf_wk hu0) rfl (WkA.cons (ownOf_wk hu1) rfl (WkA.cons (ptrOf_wk hu2) rfl (WkA.cons (intOf_wk hu3) rfl WkA.nil)))) 116) (wkR_sig (WkR.cons (cellsN_wk hu4 (.cons (intOf_wk hu5) (.cons (strOf_wk hu6) (.cons (intOf_wk hu7) (.cons (cplxOf_wk hu8) .nil))))).1 (cellsN_wk hu4 (.cons (intOf_wk hu5) (.cons (strOf_wk hu6) (.cons (intOf_wk hu7) (.cons (cplxOf_wk hu8) .nil))))).2 (renL_mem (.cons rfl (.cons rfl (.cons rfl (.cons rfl .nil))))) (WkR.nil _)) rfl) (ih.2.1 _ _ _ _ _ _ _ x h)⟩
      · obtain ⟨u0, hu0, h⟩ := Option.bind_eq_some_iff.1 h
        obtain ⟨u1, hu1, h⟩ := Option.bind_eq_some_iff.1 h
        obtain ⟨u2, hu2, h⟩ := Option.bind_eq_some_iff.1 h
        obtain ⟨u3, hu3, h⟩ := Option.bind_eq_some_iff.1 h
        obtain ⟨u4, hu4, h⟩ := Option.bind_eq_some_iff.1 h
        obtain ⟨u5, hu5, h⟩ := Option.bind_eq_some_iff.1 h
        obtain ⟨u6, hu6, h⟩ := Option.bind_eq_some_iff.1 h
        obtain ⟨u7, hu7, h⟩ := Option.bind_eq_some_iff.1 h
        obtain ⟨u8, hu8, h⟩ := Option.bind_eq_some_iff.1 h
        exact .inl ⟨3, _, rfl, code_j_lex_Tokens_0_3_find, SemC.pre (k := 1) (by decide) (WkA.env (WkA.cons (strOf_wk hu0) rfl (WkA.cons (ownOf_wk hu1) rfl (WkA.cons (ptrOf_wk hu2) rfl (WkA.cons (intOf_wk hu3) rfl WkA.nil)))) 116) (wkR_sig (WkR.cons (cellsN_wk hu4 (.cons (intOf_wk hu5) (.cons (strOf_wk hu6) (.cons (intOf_wk hu7) (.cons (cplxOf_wk hu8) .nil))))).1 (cellsN_wk hu4 (.cons (intOf_wk hu5) (.cons (strOf_wk hu6) (.cons (intOf_wk hu7) (.cons (cplxOf_wk hu8) .nil))))).2 (renL_mem (.cons rfl (.cons rfl (.cons rfl (.cons rfl .nil))))) (WkR.nil _)) rfl) (ih.2.2.1 _ _ _ _ _ _ _ x h)⟩
      · obtain ⟨u0, hu0, h⟩ := Option.bind_eq_some_iff.1 h
        obtain ⟨u1, hu1, h⟩ := Option.bind_eq_some_iff.1 h
        obtain ⟨u2, hu2, h⟩ := Option.bind_eq_some_iff.1 h
        obtain ⟨u3, hu3, h⟩ := Option.bind_eq_some_iff.1 h
        obtain ⟨u4, hu4, h⟩ := Option.bind_eq_some_iff.1 h
        obtain ⟨u5, hu5, h⟩ := Option.bind_eq_some_iff.1 h
        obtain ⟨u6, hu6, h⟩ := Option.bind_eq_some_iff.1 h
        obtain ⟨u7, hu7, h⟩ := Option.bind_eq_some_iff.1 h
        obtain ⟨u8, hu8, h⟩ := Option.bind_eq_some_iff.1 h
        exact .inl ⟨4, _, rfl, code_j_lex_Tokens_0_4_find, SemC.pre (k := 1) (by decide) (WkA.env (WkA.cons (strOf_wk hu0) rfl (WkA.cons (ownOf_wk hu1) rfl (WkA.cons (ptrOf_wk hu2) rfl (WkA.cons (intOf_wk hu3) rfl WkA.nil)))) 116) (wkR_sig (WkR.cons (cellsN_wk hu4 (.cons (intOf_wk hu5) (.cons (strOf_wk hu6) (.cons (intOf_wk hu7) (.cons (cplxOf_wk hu8) .nil))))).1 (cellsN_wk hu4 (.cons (intOf_wk hu5) (.cons (strOf_wk hu6) (.cons (intOf_wk hu7) (.cons (cplxOf_wk hu8) .nil))))).2 (renL_mem (.cons rfl (.cons rfl (.cons rfl (.cons rfl .nil))))) (WkR.nil _)) rfl) (ih.2.2.2.1 _ _ _ _ _ _ _ x h)⟩
      · obtain ⟨u0, hu0, h⟩ := Option.bind_eq_some_iff.1 h
        obtain ⟨u1, hu1, h⟩ := Option.bind_eq_some_iff.1 h
        obtain ⟨u2, hu2, h⟩ := Option.bind_eq_some_iff.1 h
        obtain ⟨u3, hu3, h⟩ := Option.bind_eq_some_iff.1 h
        obtain ⟨u4, hu4, h⟩ := Option.bind_eq_some_iff.1 h
        obtain ⟨u5, hu5, h⟩ := Option.bind_eq_some_iff.1 h
        exact .inl ⟨5, _, rfl, code_j_lex_Tokens_0_5_find, SemC.pre (k := 1) (by decide) (WkA.env (WkA.cons (ptrOf_wk hu0) rfl WkA.nil) 116) (wkR_sig (WkR.cons (cellsN_wk hu1 (.cons (intOf_wk hu2) (.cons (strOf_wk hu3) (.cons (intOf_wk hu4) (.cons (cplxOf_wk hu5) .nil))))).1 (cellsN_wk hu1 (.cons (intOf_wk hu2) (.cons (strOf_wk hu3) (.cons (intOf_wk hu4) (.cons (cplxOf_wk hu5) .nil))))).2 (renL_mem (.cons rfl (.cons rfl (.cons rfl (.cons rfl .nil))))) (WkR.nil _)) rfl) (ih.2.2.2.2.1 _ _ _ _ x h)⟩
      · obtain ⟨u0, hu0, h⟩ := Option.bind_eq_some_iff.1 h
        obtain ⟨u1, hu1, h⟩ := Option.bind_eq_some_iff.1 h
        obtain ⟨u2, hu2, h⟩ := Option.bind_eq_some_iff.1 h
        obtain ⟨u3, hu3, h⟩ := Option.bind_eq_some_iff.1 h
        obtain ⟨u4, hu4, h⟩ := Option.bind_eq_some_iff.1 h
        obtain ⟨u5, hu5, h⟩ := Option.bind_eq_some_iff.1 h
        obtain ⟨u6, hu6, h⟩ := Option.bind_eq_some_iff.1 h
        obtain ⟨u7, hu7, h⟩ := Option.bind_eq_some_iff.1 h
        obtain ⟨u8, hu8, h⟩ := Option.bind_eq_some_iff.1 h
        obtain ⟨u9, hu9, h⟩ := Option.bind_eq_some_iff.1 h
        exact .inl ⟨6, _, rfl, code_j_lex_Tokens_0_6_find, SemC.pre (k := 1) (by decide) (WkA.env (WkA.cons (strOf_wk hu0) rfl (WkA.cons (ownOf_wk hu1) rfl (WkA.cons (ptrOf_wk hu2) rfl (WkA.cons (intOf_wk hu3) rfl (WkA.cons (intOf_wk hu4) rfl WkA.nil))))) 116) (wkR_sig (WkR.cons (cellsN_wk hu5 (.cons (intOf_wk hu6) (.cons (strOf_wk hu7) (.cons (intOf_wk hu8) (.cons (cplxOf_wk hu9) .nil))))).1 (cellsN_wk hu5 (.cons (intOf_wk hu6) (.cons (strOf_wk hu7) (.cons (intOf_wk hu8) (.cons (cplxOf_wk hu9) .nil))))).2 (renL_mem (.cons rfl (.cons rfl (.cons rfl (.cons rfl .nil))))) (WkR.nil _)) rfl) (ih.2.2.2.2.2.1 _ _ _ _ _ _ _ _ x h)⟩
      · obtain ⟨u0, hu0, h⟩ := Option.bind_eq_some_iff.1 h
        obtain ⟨u1, hu1, h⟩ := Option.bind_eq_some_iff.1 h
        obtain ⟨u2, hu2, h⟩ := Option.bind_eq_some_iff.1 h
        obtain ⟨u3, hu3, h⟩ := Option.bind_eq_some_iff.1 h
        obtain ⟨u4, hu4, h⟩ := Option.bind_eq_some_iff.1 h
        obtain ⟨u5, hu5, h⟩ := Option.bind_eq_some_iff.1 h
        obtain ⟨u6, hu6, h⟩ := Option.bind_eq_some_iff.1 h
        obtain ⟨u7, hu7, h⟩ := Option.bind_eq_some_iff.1 h
        obtain ⟨u8, hu8, h⟩ := Option.bind_eq_some_iff.1 h
        exact .inl ⟨0, _, rfl, code_j_lex_Tokens_0_0_find, SemC.pre (k := 1) (by decide) (WkA.env (WkA.cons (strOf_wk hu0) rfl (WkA.cons (ownOf_wk hu1) rfl (WkA.cons (ptrOf_wk hu2) rfl (WkA.cons (intOf_wk hu3) rfl WkA.nil)))) 116) (wkR_sig (WkR.cons (cellsN_wk hu4 (.cons (intOf_wk hu5) (.cons (strOf_wk hu6) (.cons (intOf_wk hu7) (.cons (cplxOf_wk hu8) .nil))))).1 (cellsN_wk hu4 (.cons (intOf_wk hu5) (.cons (strOf_wk hu6) (.cons (intOf_wk hu7) (.cons (cplxOf_wk hu8) .nil))))).2 (renL_mem (.cons rfl (.cons rfl (.cons rfl (.cons rfl .nil))))) (WkR.nil _)) rfl) (ih.2.2.2.2.2.2 _ _ _ _ _ _ _ x h)⟩
      · obtain ⟨u0, hu0, h⟩ := Option.bind_eq_some_iff.1 h
        obtain ⟨u1, hu1, h⟩ := Option.bind_eq_some_iff.1 h
        obtain ⟨u2, hu2, h⟩ := Option.bind_eq_some_iff.1 h
        obtain ⟨u3, hu3, h⟩ := Option.bind_eq_some_iff.1 h
        obtain ⟨u4, hu4, h⟩ := Option.bind_eq_some_iff.1 h
        obtain ⟨u5, hu5, h⟩ := Option.bind_eq_some_iff.1 h
        obtain ⟨u6, hu6, h⟩ := Option.bind_eq_some_iff.1 h
        obtain ⟨u7, hu7, h⟩ := Option.bind_eq_some_iff.1 h
        simp only [Option.some.injEq] at h
        subst h
        exact .inr ⟨fun l hl => (by cases hl), 1, _, _, by decide, WkA.env (WkA.cons (ownOf_wk hu0) rfl (WkA.cons (cplxOf_wk hu1) rfl (WkA.cons (intOf_wk hu2) rfl WkA.nil))) 116, (wkR_sig (WkR.cons (cellsN_wk hu3 (.cons (intOf_wk hu4) (.cons (strOf_wk hu5) (.cons (intOf_wk hu6) (.cons (cplxOf_wk hu7) .nil))))).1 (cellsN_wk hu3 (.cons (intOf_wk hu4) (.cons (strOf_wk hu5) (.cons (intOf_wk hu6) (.cons (cplxOf_wk hu7) .nil))))).2 (renL_mem (.cons rfl (.cons rfl (.cons rfl (.cons rfl .nil))))) (WkR.nil _)) rfl), rfl, rfl, rfl⟩
      · cases h
    · intro s0 s1 s2 s3 x h
      refine scope_step (sp_lex_Tokens_ok n) (code_j_lex_Tokens_0_ok.find code_j_lex_Tokens_0_5_find) (fun a ha => absurd ha (by rw [show loopsOf code_j_lex_Tokens_0_5 = [] from by kernel_rfl]; simp)) (no_scope (by kernel_rfl)) ((j_lex_Tokens_0_eq5 n (j_lex_Tokens_0 n m) s0 s1 s2 s3).trans h) (fun ex E sg h => ?_)
      unfold j_lex_Tokens_0_K at h
      split at h
      · obtain ⟨u0, hu0, h⟩ := Option.bind_eq_some_iff.1 h
        obtain ⟨u1, hu1, h⟩ := Option.bind_eq_some_iff.1 h
        obtain ⟨u2, hu2, h⟩ := Option.bind_eq_some_iff.1 h
        obtain ⟨u3, hu3, h⟩ := Option.bind_eq_some_iff.1 h
        obtain ⟨u4, hu4, h⟩ := Option.bind_eq_some_iff.1 h
        obtain ⟨u5, hu5, h⟩ := Option.bind_eq_some_iff.1 h
        obtain ⟨u6, hu6, h⟩ := Option.bind_eq_some_iff.1 h
        exact .inl ⟨1, _, rfl, code_j_lex_Tokens_0_1_find, SemC.pre (k := 1) (by decide) (WkA.env (WkA.cons (ownOf_wk hu0) rfl (WkA.cons (ptrOf_wk hu1) rfl WkA.nil)) 116) (wkR_sig (WkR.cons (cellsN_wk hu2 (.cons (intOf_wk hu3) (.cons (strOf_wk hu4) (.cons (intOf_wk hu5) (.cons (cplxOf_wk hu6) .nil))))).1 (cellsN_wk hu2 (.cons (intOf_wk hu3) (.cons (strOf_wk hu4) (.cons (intOf_wk hu5) (.cons (cplxOf_wk hu6) .nil))))).2 (renL_mem (.cons rfl (.cons rfl (.cons rfl (.cons rfl .nil))))) (WkR.nil _)) rfl) (ih.1 _ _ _ _ _ x h)⟩
      · obtain ⟨u0, hu0, h⟩ := Option.bind_eq_some_iff.1 h
        obtain ⟨u1, hu1, h⟩ := Option.bind_eq_some_iff.1 h
        obtain ⟨u2, hu2, h⟩ := Option.bind_eq_some_iff.1 h
        obtain ⟨u3, hu3, h⟩ := Option.bind_eq_some_iff.1 h
        obtain ⟨u4, hu4, h⟩ := Option.bind_eq_some_iff.1 h
        obtain ⟨u5, hu5, h⟩ := Option.bind_eq_some_iff.1 h
        obtain ⟨u6, hu6, h⟩ := Option.bind_eq_some_iff.1 h
        obtain ⟨u7, hu7, h⟩ := Option.bind_eq_some_iff.1 h
        obtain ⟨u8, hu8, h⟩ := Option.bind_eq_some_iff.1 h
        exact .inl ⟨2, _, rfl, code_j_lex_Tokens_0_2_find, SemC.pre (k := 1) (by decide) (WkA.env (WkA.cons (strOf_wk hu0) rfl (WkA.cons (ownOf_wk hu1) rfl (WkA.cons (ptrOf_wk hu2) rfl (WkA.cons (intOf_wk hu3) rfl WkA.nil)))) 116) (wkR_sig (WkR.cons (cellsN_wk hu4 (.cons (intOf_wk hu5) (.cons (strOf_wk hu6) (.cons (intOf_wk hu7) (.cons (cplxOf_wk hu8) .nil))))).1 (cellsN_wk hu4 (.cons (intOf_wk hu5) (.cons (strOf_wk hu6) (.cons (intOf_wk hu7) (.cons (cplxOf_wk hu8) .nil))))).2 (renL_mem (.cons rfl (.cons rfl (.cons rfl (.cons rfl .nil))))) (WkR.nil _)) rfl) (ih.2.1 _ _ _ _ _ _ _ x h)⟩
      · obtain ⟨u0, hu0, h⟩ := Option.bind_eq_some_iff.1 h
        obtain ⟨u1, hu1, h⟩ := Option.bind_eq_some_iff.1 h
        obtain ⟨u2, hu2, h⟩ := Option.bind_eq_some_iff.1 h
        obtain ⟨u3, hu3, h⟩ := Option.bind_eq_some_iff.1 h
        obtain ⟨u4, hu4, h⟩ := Option.bind_eq_some_iff.1 h
        obtain ⟨u5, hu5, h⟩ := Option.bind_eq_some_iff.1 h
        obtain ⟨u6, hu6, h⟩ := Option.bind_eq_some_iff.1 h
        obtain ⟨u7, hu7, h⟩ := Option.bind_eq_some_iff.1 h
        obtain ⟨u8, hu8, h⟩ := Option.bind_eq_some_iff.1 h
        exact .inl ⟨3, _, rfl, code_j_lex_Tokens_0_3_find, SemC.pre (k := 1) (by decide) (WkA.env (WkA.cons (strOf_wk hu0) rfl (WkA.cons (ownOf_wk hu1) rfl (WkA.cons (ptrOf_wk hu2) rfl (WkA.cons (intOf_wk hu3) rfl WkA.nil)))) 116) (wkR_sig (WkR.cons (cellsN_wk hu4 (.cons (intOf_wk hu5) (.cons (strOf_wk hu6) (.cons (intOf_wk hu7) (.cons (cplxOf_wk hu8) .nil))))).1 (cellsN_wk hu4 (.cons (intOf_wk hu5) (.cons (strOf_wk hu6) (.cons (intOf_wk hu7) (.cons (cplxOf_wk hu8) .nil))))).2 (renL_mem (.cons rfl (.cons rfl (.cons rfl (.cons rfl .nil))))) (WkR.nil _)) rfl) (ih.2.2.1 _ _ _ _ _ _ _ x h)⟩
      · obtain ⟨u0, hu0, h⟩ := Option.bind_eq_some_iff.1 h
        obtain ⟨u1, hu1, h⟩ := Option.bind_eq_some_iff.1 h
        obtain ⟨u2, hu2, h⟩ := Option.bind_eq_some_iff.1 h
        obtain ⟨u3, hu3, h⟩ := Option.bind_eq_some_iff.1 h
        obtain ⟨u4, hu4, h⟩ := Option.bind_eq_some_iff.1 h
        obtain ⟨u5, hu5, h⟩ := Option.bind_eq_some_iff.1 h
        obtain ⟨u6, hu6, h⟩ := Option.bind_eq_some_iff.1 h
        obtain ⟨u7, hu7, h⟩ := Option.bind_eq_some_iff.1 h
        obtain ⟨u8, hu8, h⟩ := Option.bind_eq_some_iff.1 h
        exact .inl ⟨4, _, rfl, code_j_lex_Tokens_0_4_find, SemC.pre (k := 1) (by decide) (WkA.env (WkA.cons (strOf_wk hu0) rfl (WkA.cons (ownOf_wk hu1) rfl (WkA.cons (ptrOf_wk hu2) rfl (WkA.cons (intOf_wk hu3) rfl WkA.nil)))) 116) (wkR_sig (WkR.cons (cellsN_wk hu4 (.cons (intOf_wk hu5) (.cons (strOf_wk hu6) (.cons (intOf_wk hu7) (.cons (cplxOf_wk hu8) .nil))))).1 (cellsN_wk hu4 (.cons (intOf_wk hu5) (.cons (strOf_wk hu6) (.cons (intOf_wk hu7) (.cons (cplxOf_wk hu8) .nil))))).2 (renL_mem (.cons rfl (.cons rfl (.cons rfl (.cons rfl .nil))))) (WkR.nil _)) rfl) (ih.2.2.2.1 _ _ _ _ _ _ _ x h)⟩
      · obtain ⟨u0, hu0, h⟩ := Option.bind_eq_some_iff.1 h
        obtain ⟨u1, hu1, h⟩ := Option.bind_eq_some_iff.1 h
        obtain ⟨u2, hu2, h⟩ := Option.bind_eq_some_iff.1 h
        obtain ⟨u3, hu3, h⟩ := Option.bind_eq_some_iff.1 h
        obtain ⟨u4, hu4, h⟩ := Option.bind_eq_some_iff.1 h
        obtain ⟨u5, hu5, h⟩ := Option.bind_eq_some_iff.1 h
        exact .inl ⟨5, _, rfl, code_j_lex_Tokens_0_5_find, SemC.pre (k := 1) (by decide) (WkA.env (WkA.cons (ptrOf_wk hu0) rfl WkA.nil) 116) (wkR_sig (WkR.cons (cellsN_wk hu1 (.cons (intOf_wk hu2) (.cons (strOf_wk hu3) (.cons (intOf_wk hu4) (.cons (cplxOf_wk hu5) .nil))))).1 (cellsN_wk hu1 (.cons (intOf_wk hu2) (.cons (strOf_wk hu3) (.cons (intOf_wk hu4) (.cons (cplxOf_wk hu5) .nil))))).2 (renL_mem (.cons rfl (.cons rfl (.cons rfl (.cons rfl .nil))))) (WkR.nil _)) rfl) (ih.2.2.2.2.1 _ _ _ _ x h)⟩
      · obtain ⟨u0, hu0, h⟩ := Option.bind_eq_some_iff.1 h
        obtain ⟨u1, hu1, h⟩ := Option.bind_eq_some_iff.1 h
        obtain ⟨u2, hu2, h⟩ := Option.bind_eq_some_iff.1 h
        obtain ⟨u3, hu3, h⟩ := Option.bind_eq_some_iff.1 h
        obtain ⟨u4, hu4, h⟩ := Option.bind_eq_some_iff.1 h
        obtain ⟨u5, hu5, h⟩ := Option.bind_eq_some_iff.1 h
        obtain ⟨u6, hu6, h⟩ := Option.bind_eq_some_iff.1 h
        obtain ⟨u7, hu7, h⟩ := Option.bind_eq_some_iff.1 h
        obtain ⟨u8, hu8, h⟩ := Option.bind_eq_some_iff.1 h
        obtain ⟨u9, hu9, h⟩ := Option.bind_eq_some_iff.1 h
        exact .inl ⟨6, _, rfl, code_j_lex_Tokens_0_6_find, SemC.pre (k := 1) (by decide) (WkA.env (WkA.cons (strOf_wk hu0) rfl (WkA.cons (ownOf_wk hu1) rfl (WkA.cons (ptrOf_wk hu2) rfl (WkA.cons (intOf_wk hu3) rfl (WkA.cons (intOf_wk hu4) rfl WkA.nil))))) 116) (wkR_sig (WkR.cons (cellsN_wk hu5 (.cons (intOf_wk hu6) (.cons (strOf_wk hu7) (.cons (intOf_wk hu8) (.cons (cplxOf_wk hu9) .nil))))).1 (cellsN_wk hu5 (.cons (intOf_wk hu6) (.cons (strOf_wk hu7) (.cons (intOf_wk hu8) (.cons (cplxOf_wk hu9) .nil))))).2 (renL_mem (.cons rfl (.cons rfl (.cons rfl (.cons rfl .nil))))) (WkR.nil _)) rfl) (ih.2.2.2.2.2.1 _ _ _ _ _ _ _ _ x h)⟩
      · obtain ⟨u0, hu0, h⟩ := Option.bind_eq_some_iff.1 h
        obtain ⟨u1, hu1, h⟩ := Option.bind_eq_some_iff.1 h
        obtain ⟨u2, hu2, h⟩ := Option.bind_eq_some_iff.1 h
        obtain ⟨u3, hu3, h⟩ := Option.bind_eq_some_iff.1 h
        obtain ⟨u4, hu4, h⟩ := Option.bind_eq_some_iff.1 h
        obtain ⟨u5, hu5, h⟩ := Option.bind_eq_some_iff.1 h
        obtain ⟨u6, hu6, h⟩ := Option.bind_eq_some_iff.1 h
        obtain ⟨u7, hu7, h⟩ := Option.bind_eq_some_iff.1 h
        obtain ⟨u8, hu8, h⟩ := Option.bind_eq_some_iff.1 h
        exact .inl ⟨0, _, rfl, code_j_lex_Tokens_0_0_find, SemC.pre (k := 1) (by decide) (WkA.env (WkA.cons (strOf_wk hu0) rfl (WkA.cons (ownOf_wk hu1) rfl (WkA.cons (ptrOf_wk hu2) rfl (WkA.cons (intOf_wk hu3) rfl WkA.nil)))) 116) (wkR_sig (WkR.cons (cellsN_wk hu4 (.cons (intOf_wk hu5) (.cons (strOf_wk hu6) (.cons (intOf_wk hu7) (.cons (cplxOf_wk hu8) .nil))))).1 (cellsN_wk hu4 (.cons (intOf_wk hu5) (.cons (strOf_wk hu6) (.cons (intOf_wk hu7) (.cons (cplxOf_wk hu8) .nil))))).2 (renL_mem (.cons rfl (.cons rfl (.cons rfl (.cons rfl .nil))))) (WkR.nil _)) rfl) (ih.2.2.2.2.2.2 _ _ _ _ _ _ _ x h)⟩
      · obtain ⟨u0, hu0, h⟩ := Option.bind_eq_some_iff.1 h
        obtain ⟨u1, hu1, h⟩ := Option.bind_eq_some_iff.1 h
        obtain ⟨u2, hu2, h⟩ := Option.bind_eq_some_iff.1 h
        obtain ⟨u3, hu3, h⟩ := Option.bind_eq_some_iff.1 h
        obtain ⟨u4, hu4, h⟩ := Option.bind_eq_some_iff.1 h
        obtain ⟨u5, hu5, h⟩ := Option.bind_eq_some_iff.1 h
        obtain ⟨u6, hu6, h⟩ := Option.bind_eq_some_iff.1 h
        obtain ⟨u7, hu7, h⟩ := Option.bind_eq_some_iff.1 h
        simp only [Option.some.injEq] at h
        subst h
        exact .inr ⟨fun l hl => (by cases hl), 1, _, _, by decide, WkA.env (WkA.cons (ownOf_wk hu0) rfl (WkA.cons (cplxOf_wk hu1) rfl (WkA.cons (intOf_wk hu2) rfl WkA.nil))) 116, (wkR_sig (WkR.cons (cellsN_wk hu3 (.cons (intOf_wk hu4) (.cons (strOf_wk hu5) (.cons (intOf_wk hu6) (.cons (cplxOf_wk hu7) .nil))))).1 (cellsN_wk hu3 (.cons (intOf_wk hu4) (.cons (strOf_wk hu5) (.cons (intOf_wk hu6) (.cons (cplxOf_wk hu7) .nil))))).2 (renL_mem (.cons rfl (.cons rfl (.cons rfl (.cons rfl .nil))))) (WkR.nil _)) rfl), rfl, rfl, rfl⟩
      · cases h
    · intro s0 s1 s2 s3 s4 s5 s6 s7 x h
      refine scope_step (sp_lex_Tokens_ok n) (code_j_lex_Tokens_0_ok.find code_j_lex_Tokens_0_6_find) (fun a ha => absurd ha (by rw [show loopsOf code_j_lex_Tokens_0_6 = [] from by kernel_rfl]; simp)) (no_scope (by kernel_rfl)) ((j_lex_Tokens_0_eq6 n (j_lex_Tokens_0 n m) s0 s1 s2 s3 s4 s5 s6 s7).trans h) (fun ex E sg h => ?_)
      unfold j_lex_Tokens_0_K at h
      split at h
      · obtain ⟨u0, hu0, h⟩ := Option.bind_eq_some_iff.1 h
        obtain ⟨u1, hu1, h⟩ := Option.bind_eq_some_iff.1 h
        obtain ⟨u2, hu2, h⟩ := Option.bind_eq_some_iff.1 h
        obtain ⟨u3, hu3, h⟩ := Option.bind_eq_some_iff.1 h
        obtain ⟨u4, hu4, h⟩ := Option.bind_eq_some_iff.1 h
        obtain ⟨u5, hu5, h⟩ := Option.bind_eq_some_iff.1 h
        obtain ⟨u6, hu6, h⟩ := Option.bind_eq_some_iff.1 h
        exact .inl ⟨1, _, rfl, code_j_lex_Tokens_0_1_find, SemC.pre (k := 1) (by decide) (WkA.env (WkA.cons (ownOf_wk hu0) rfl (WkA.cons (ptrOf_wk hu1) rfl WkA.nil)) 116) (wkR_sig (WkR.cons (cellsN_wk hu2 (.cons (intOf_wk hu3) (.cons (strOf_wk hu4) (.cons (intOf_wk hu5) (.cons (cplxOf_wk hu6) .nil))))).1 (cellsN_wk hu2 (.cons (intOf_wk hu3) (.cons (strOf_wk hu4) (.cons (intOf_wk hu5) (.cons (cplxOf_wk hu6) .nil))))).2 (renL_mem (.cons rfl (.cons rfl (.cons rfl (.cons rfl .nil))))) (WkR.nil _)) rfl) (ih.1 _ _ _ _ _ x h)⟩
      · obtain ⟨u0, hu0, h⟩ := Option.bind_eq_some_iff.1 h
        obtain ⟨u1, hu1, h⟩ := Option.bind_eq_some_iff.1 h
        obtain ⟨u2, hu2, h⟩ := Option.bind_eq_some_iff.1 h
        obtain ⟨u3, hu3, h⟩ := Option.bind_eq_some_iff.1 h
        obtain ⟨u4, hu4, h⟩ := Option.bind_eq_some_iff.1 h
        obtain ⟨u5, hu5, h⟩ := Option.bind_eq_some_iff.1 h
        obtain ⟨u6, hu6, h⟩ := Option.bind_eq_some_iff.1 h
        obtain ⟨u7, hu7, h⟩ := Option.bind_eq_some_iff.1 h
        obtain ⟨u8, hu8, h⟩ := Option.bind_eq_some_iff.1 h
        exact .inl ⟨2, _, rfl, code_j_lex_Tokens_0_2_find, SemC.pre (k := 1) (by decide) (WkA.env (WkA.cons (strOf_wk hu0) rfl (WkA.cons (ownOf_wk hu1) rfl (WkA.cons (ptrOf_wk hu2) rfl (WkA.cons (intOf_wk hu3) rfl WkA.nil)))) 116) (wkR_sig (WkR.cons (cellsN_wk hu4 (.cons (intOf_wk hu5) (.cons (strOf_wk hu6) (.cons (intOf_wk hu7) (.cons (cplxOf_wk hu8) .nil))))).1 (cellsN_wk hu4 (.cons (intOf_wk hu5) (.cons (strOf_wk hu6) (.cons (intOf_wk hu7) (.cons (cplxOf_wk hu8) .nil))))).2 (renL_mem (.cons rfl (.cons rfl (.cons rfl (.cons rfl .nil))))) (WkR.nil _)) rfl) (ih.2.1 _ _ _ _ _ _ _ x h)⟩
      · obtain ⟨u0, hu0, h⟩ := Option.bind_eq_some_iff.1 h
        obtain ⟨u1, hu1, h⟩ := Option.bind_eq_some_iff.1 h
        obtain ⟨u2, hu2, h⟩ := Option.bind_eq_some_iff.1 h
        obtain ⟨u3, hu3, h⟩ := Option.bind_eq_some_iff.1 h
        obtain ⟨u4, hu4, h⟩ := Option.bind_eq_some_iff.1 h
        obtain ⟨u5, hu5, h⟩ := Option.bind_eq_some_iff.1 h
        obtain ⟨u6, hu6, h⟩ := Option.bind_eq_some_iff.1 h
        obtain ⟨u7, hu7, h⟩ := Option.bind_eq_some_iff.1 h
        obtain ⟨u8, hu8, h⟩ := Option.bind_eq_some_iff.1 h
        exact .inl ⟨3, _, rfl, code_j_lex_Tokens_0_3_find, SemC.pre (k := 1) (by decide) (WkA.env (WkA.cons (strOf_wk hu0) rfl (WkA.cons (ownOf_wk hu1) rfl (WkA.cons (ptrOf_wk hu2) rfl (WkA.cons (intOf_wk hu3) rfl WkA.nil)))) 116) (wkR_sig (WkR.cons (cellsN_wk hu4 (.cons (intOf_wk hu5) (.cons (strOf_wk hu6) (.cons (intOf_wk hu7) (.cons (cplxOf_wk hu8) .nil))))).1 (cellsN_wk hu4 (.cons (intOf_wk hu5) (.cons (strOf_wk hu6) (.cons (intOf_wk hu7) (.cons (cplxOf_wk hu8) .nil))))).2 (renL_mem (.cons rfl (.cons rfl (.cons rfl (.cons rfl .nil))))) (WkR.nil _)) rfl) (ih.2.2.1 _ _ _ _ _ _ _ x h)⟩
      · obtain ⟨u0, hu0, h⟩ := Option.bind_eq_some_iff.1 h
        obtain ⟨u1, hu1, h⟩ := Option.bind_eq_some_iff.1 h
        obtain ⟨u2, hu2, h⟩ := Option.bind_eq_some_iff.1 h
        obtain ⟨u3, hu3, h⟩ := Option.bind_eq_some_iff.1 h
        obtain ⟨u4, hu4, h⟩ := Option.bind_eq_some_iff.1 h
        obtain ⟨u5, hu5, h⟩ := Option.bind_eq_some_iff.1 h
        obtain ⟨u6, hu6, h⟩ := Option.bind_eq_some_iff.1 h
        obtain ⟨u7, hu7, h⟩ := Option.bind_eq_some_iff.1 h
        obtain ⟨u8, hu8, h⟩ := Option.bind_eq_some_iff.1 h
        exact .inl ⟨4, _, rfl, code_j_lex_Tokens_0_4_find, SemC.pre (k := 1) (by decide) (WkA.env (WkA.cons (strOf_wk hu0) rfl (WkA.cons (ownOf_wk hu1) rfl (WkA.cons (ptrOf_wk hu2) rfl (WkA.cons (intOf_wk hu3) rfl WkA.nil)))) 116) (wkR_sig (WkR.cons (cellsN_wk hu4 (.cons (intOf_wk hu5) (.cons (strOf_wk hu6) (.cons (intOf_wk hu7) (.cons (cplxOf_wk hu8) .nil))))).1 (cellsN_wk hu4 (.cons (intOf_wk hu5) (.cons (strOf_wk hu6) (.cons (intOf_wk hu7) (.cons (cplxOf_wk hu8) .nil))))).2 (renL_mem (.cons rfl (.cons rfl (.cons rfl (.cons rfl .nil))))) (WkR.nil _)) rfl) (ih.2.2.2.1 _ _ _ _ _ _ _ x h)⟩
      · obtain ⟨u0, hu0, h⟩ := Option.bind_eq_some_iff.1 h
        obtain ⟨u1, hu1, h⟩ := Option.bind_eq_some_iff.1 h
        obtain ⟨u2, hu2, h⟩ := Option.bind_eq_some_iff.1 h
        obtain ⟨u3, hu3, h⟩ := Option.bind_eq_some_iff.1 h
        obtain ⟨u4, hu4, h⟩ := Option.bind_eq_some_iff.1 h
        obtain ⟨u5, hu5, h⟩ := Option.bind_eq_some_iff.1 h
        exact .inl ⟨5, _, rfl, code_j_lex_Tokens_0_5_find, SemC.pre (k := 1) (by decide) (WkA.env (WkA.cons (ptrOf_wk hu0) rfl WkA.nil) 116) (wkR_sig (WkR.cons (cellsN_wk hu1 (.cons (intOf_wk hu2) (.cons (strOf_wk hu3) (.cons (intOf_wk hu4) (.cons (cplxOf_wk hu5) .nil))))).1 (cellsN_wk hu1 (.cons (intOf_wk hu2) (.cons (strOf_wk hu3) (.cons (intOf_wk hu4) (.cons (cplxOf_wk hu5) .nil))))).2 (renL_mem (.cons rfl (.cons rfl (.cons rfl (.cons rfl .nil))))) (WkR.nil _)) rfl) (ih.2.2.2.2.1 _ _ _ _ x h)⟩
      · obtain ⟨u0, hu0, h⟩ := Option.bind_eq_some_iff.1 h
        obtain ⟨u1, hu1, h⟩ := Option.bind_eq_some_iff.1 h
        obtain ⟨u2, hu2, h⟩ := Option.bind_eq_some_iff.1 h
        obtain ⟨u3, hu3, h⟩ := Option.bind_eq_some_iff.1 h
        obtain ⟨u4, hu4, h⟩ := Option.bind_eq_some_iff.1 h
        obtain ⟨u5, hu5, h⟩ := Option.bind_eq_some_iff.1 h
        obtain ⟨u6, hu6, h⟩ := Option.bind_eq_some_iff.1 h
        obtain ⟨u7, hu7, h⟩ := Option.bind_eq_some_iff.1 h
        obtain ⟨u8, hu8, h⟩ := Option.bind_eq_some_iff.1 h
        obtain ⟨u9, hu9, h⟩ := Option.bind_eq_some_iff.1 h
        exact .inl ⟨6, _, rfl, code_j_lex_Tokens_0_6_find, SemC.pre (k := 1) (by decide) (WkA.env (WkA.cons (strOf_wk hu0) rfl (WkA.cons (ownOf_wk hu1) rfl (WkA.cons (ptrOf_wk hu2) rfl (WkA.cons (intOf_wk hu3) rfl (WkA.cons (intOf_wk hu4) rfl WkA.nil))))) 116) (wkR_sig (WkR.cons (cellsN_wk hu5 (.cons (intOf_wk hu6) (.cons (strOf_wk hu7) (.cons (intOf_wk hu8) (.cons (cplxOf_wk hu9) .nil))))).1 (cellsN_wk hu5 (.cons (intOf_wk hu6) (.cons (strOf_wk hu7) (.cons (intOf_wk hu8) (.cons (cplxOf_wk hu9) .nil))))).2 (renL_mem (.cons rfl (.cons rfl (.cons rfl (.cons rfl .nil))))) (WkR.nil _)) rfl) (ih.2.2.2.2.2.1 _ _ _ _ _ _ _ _ x h)⟩
      · obtain ⟨u0, hu0, h⟩ := Option.bind_eq_some_iff.1 h
        obtain ⟨u1, hu1, h⟩ := Option.bind_eq_some_iff.1 h
        obtain ⟨u2, hu2, h⟩ := Option.bind_eq_some_iff.1 h
        obtain ⟨u3, hu3, h⟩ := Option.bind_eq_some_iff.1 h
        obtain ⟨u4, hu4, h⟩ := Option.bind_eq_some_iff.1 h
        obtain ⟨u5, hu5, h⟩ := Option.bind_eq_some_iff.1 h
        obtain ⟨u6, hu6, h⟩ := Option.bind_eq_some_iff.1 h
        obtain ⟨u7, hu7, h⟩ := Option.bind_eq_some_iff.1 h
        obtain ⟨u8, hu8, h⟩ := Option.bind_eq_some_iff.1 h
        exact .inl ⟨0, _, rfl, code_j_lex_Tokens_0_0_find, SemC.pre (k := 1) (by decide) (WkA.env (WkA.cons (strOf_wk hu0) rfl (WkA.cons (ownOf_wk hu1) rfl (WkA.cons (ptrOf_wk hu2) rfl (WkA.cons (intOf_wk hu3) rfl WkA.nil)))) 116) (wkR_sig (WkR.cons (cellsN_wk hu4 (.cons (intOf_wk hu5) (.cons (strOf_wk hu6) (.cons (intOf_wk hu7) (.cons (cplxOf_wk hu8) .nil))))).1 (cellsN_wk hu4 (.cons (intOf_wk hu5) (.cons (strOf_wk hu6) (.cons (intOf_wk hu7) (.cons (cplxOf_wk hu8) .nil))))).2 (renL_mem (.cons rfl (.cons rfl (.cons rfl (.cons rfl .nil))))) (WkR.nil _)) rfl) (ih.2.2.2.2.2.2 _ _ _ _ _ _ _ x h)⟩
      · obtain ⟨u0, hu0, h⟩ := Option.bind_eq_some_iff.1 h
        obtain ⟨u1, hu1, h⟩ := Option.bind_eq_some_iff.1 h
        obtain ⟨u2, hu2, h⟩ := Option.bind_eq_some_iff.1 h
        obtain ⟨u3, hu3, h⟩ := Option.bind_eq_some_iff.1 h
        obtain ⟨u4, hu4, h⟩ := Option.bind_eq_some_iff.1 h
        obtain ⟨u5, hu5, h⟩ := Option.bind_eq_some_iff.1 h
        obtain ⟨u6, hu6, h⟩ := Option.bind_eq_some_iff.1 h
        obtain ⟨u7, hu7, h⟩ := Option.bind_eq_some_iff.1 h
        simp only [Option.some.injEq] at h
        subst h
        exact .inr ⟨fun l hl => (by cases hl), 1, _, _, by decide, WkA.env (WkA.cons (ownOf_wk hu0) rfl (WkA.cons (cplxOf_wk hu1) rfl (WkA.cons (intOf_wk hu2) rfl WkA.nil))) 116, (wkR_sig (WkR.cons (cellsN_wk hu3 (.cons (intOf_wk hu4) (.cons (strOf_wk hu5) (.cons (intOf_wk hu6) (.cons (cplxOf_wk hu7) .nil))))).1 (cellsN_wk hu3 (.cons (intOf_wk hu4) (.cons (strOf_wk hu5) (.cons (intOf_wk hu6) (.cons (cplxOf_wk hu7) .nil))))).2 (renL_mem (.cons rfl (.cons rfl (.cons rfl (.cons rfl .nil))))) (WkR.nil _)) rfl), rfl, rfl, rfl⟩
      · cases h
    · intro s0 s1 s2 s3 s4 s5 s6 x h
      refine scope_step (sp_lex_Tokens_ok n) (code_j_lex_Tokens_0_ok.find code_j_lex_Tokens_0_0_find) (fun a ha => absurd ha (by rw [show loopsOf code_j_lex_Tokens_0_0 = [] from by kernel_rfl]; simp)) (no_scope (by kernel_rfl)) ((j_lex_Tokens_0_eq0 n (j_lex_Tokens_0 n m) s0 s1 s2 s3 s4 s5 s6).trans h) (fun ex E sg h => ?_)
      unfold j_lex_Tokens_0_K at h
      split at h
      · obtain ⟨u0, hu0, h⟩ := Option.bind_eq_some_iff.1 h
        obtain ⟨u1, hu1, h⟩ := Option.bind_eq_some_iff.1 h
        obtain ⟨u2, hu2, h⟩ := Option.bind_eq_some_iff.1 h
        obtain ⟨u3, hu3, h⟩ := Option.bind_eq_some_iff.1 h
        obtain ⟨u4, hu4, h⟩ := Option.bind_eq_some_iff.1 h
        obtain ⟨u5, hu5, h⟩ := Option.bind_eq_some_iff.1 h
        obtain ⟨u6, hu6, h⟩ := Option.bind_eq_some_iff.1 h
        exact .inl ⟨1, _, rfl, code_j_lex_Tokens_0_1_find, SemC.pre (k := 1) (by decide) (WkA.env (WkA.cons (ownOf_wk hu0) rfl (WkA.cons (ptrOf_wk hu1) rfl WkA.nil)) 116) (wkR_sig (WkR.cons (cellsN_wk hu2 (.cons (intOf_wk hu3) (.cons (strOf_wk hu4) (.cons (intOf_wk hu5) (.cons (cplxOf_wk hu6) .nil))))).1 (cellsN_wk hu2 (.cons (intOf_wk hu3) (.cons (strOf_wk hu4) (.cons (intOf_wk hu5) (.cons (cplxOf_wk hu6) .nil))))).2 (renL_mem (.cons rfl (.cons rfl (.cons rfl (.cons rfl .nil))))) (WkR.nil _)) rfl) (ih.1 _ _ _ _ _ x h)⟩
      · obtain ⟨u0, hu0, h⟩ := Option.bind_eq_some_iff.1 h
        obtain ⟨u1, hu1, h⟩ := Option.bind_eq_some_iff.1 h
        obtain ⟨u2, hu2, h⟩ := Option.bind_eq_some_iff.1 h
        obtain ⟨u3, hu3, h⟩ := Option.bind_eq_some_iff.1 h
        obtain ⟨u4, hu4, h⟩ := Option.bind_eq_some_iff.1 h
        obtain ⟨u5, hu5, h⟩ := Option.bind_eq_some_iff.1 h
        obtain ⟨u6, hu6, h⟩ := Option.bind_eq_some_iff.1 h
        obtain ⟨u7, hu7, h⟩ := Option.bind_eq_some_iff.1 h
        obtain ⟨u8, hu8, h⟩ := Option.bind_eq_some_iff.1 h
        exact .inl ⟨2, _, rfl, code_j_lex_Tokens_0_2_find, SemC.pre (k := 1) (by decide) (WkA.env (WkA.cons (strOf_wk hu0) rfl (WkA.cons (ownOf_wk hu1) rfl (WkA.cons (ptrOf_wk hu2) rfl (WkA.cons (intOf_wk hu3) rfl WkA.nil)))) 116) (wkR_sig (WkR.cons (cellsN_wk hu4 (.cons (intOf_wk hu5) (.cons (strOf_wk hu6) (.cons (intOf_wk hu7) (.cons (cplxOf_wk hu8) .nil))))).1 (cellsN_wk hu4 (.cons (intOf_wk hu5) (.cons (strOf_wk hu6) (.cons (intOf_wk hu7) (.cons (cplxOf_wk hu8) .nil))))).2 (renL_mem (.cons rfl (.cons rfl (.cons rfl (.cons rfl .nil))))) (WkR.nil _)) rfl) (ih.2.1 _ _ _ _ _ _ _ x h)⟩
      · obtain ⟨u0, hu0, h⟩ := Option.bind_eq_some_iff.1 h
        obtain ⟨u1, hu1, h⟩ := Option.bind_eq_some_iff.1 h
        obtain ⟨u2, hu2, h⟩ := Option.bind_eq_some_iff.1 h
        obtain ⟨u3, hu3, h⟩ := Option.bind_eq_some_iff.1 h
        obtain ⟨u4, hu4, h⟩ := Option.bind_eq_some_iff.1 h
        obtain ⟨u5, hu5, h⟩ := Option.bind_eq_some_iff.1 h
        obtain ⟨u6, hu6, h⟩ := Option.bind_eq_some_iff.1 h
        obtain ⟨u7, hu7, h⟩ := Option.bind_eq_some_iff.1 h
        obtain ⟨u8, hu8, h⟩ := Option.bind_eq_some_iff.1 h
        exact .inl ⟨3, _, rfl, code_j_lex_Tokens_0_3_find, SemC.pre (k := 1) (by decide) (WkA.env (WkA.cons (strOf_wk hu0) rfl (WkA.cons (ownOf_wk hu1) rfl (WkA.cons (ptrOf_wk hu2) rfl (WkA.cons (intOf_wk hu3) rfl WkA.nil)))) 116) (wkR_sig (WkR.cons (cellsN_wk hu4 (.cons (intOf_wk hu5) (.cons (strOf_wk hu6) (.cons (intOf_wk hu7) (.cons (cplxOf_wk hu8) .nil))))).1 (cellsN_wk hu4 (.cons (intOf_wk hu5) (.cons (strOf_wk hu6) (.cons (intOf_wk hu7) (.cons (cplxOf_wk hu8) .nil))))).2 (renL_mem (.cons rfl (.cons rfl (.cons rfl (.cons rfl .nil))))) (WkR.nil _)) rfl) (ih.2.2.1 _ _ _ _ _ _ _ x h)⟩
      · obtain ⟨u0, hu0, h⟩ := Option.bind_eq_some_iff.1 h
        obtain ⟨u1, hu1, h⟩ := Option.bind_eq_some_iff.1 h
        obtain ⟨u2, hu2, h⟩ := Option.bind_eq_some_iff.1 h
        obtain ⟨u3, hu3, h⟩ := Option.bind_eq_some_iff.1 h
        obtain ⟨u4, hu4, h⟩ := Option.bind_eq_some_iff.1 h
        obtain ⟨u5, hu5, h⟩ := Option.bind_eq_some_iff.1 h
        obtain ⟨u6, hu6, h⟩ := Option.bind_eq_some_iff.1 h
        obtain ⟨u7, hu7, h⟩ := Option.bind_eq_some_iff.1 h
        obtain ⟨u8, hu8, h⟩ := Option.bind_eq_some_iff.1 h
        exact .inl ⟨4, _, rfl, code_j_lex_Tokens_0_4_find, SemC.pre (k := 1) (by decide) (WkA.env (WkA.cons (strOf_wk hu0) rfl (WkA.cons (ownOf_wk hu1) rfl (WkA.cons (ptrOf_wk hu2) rfl (WkA.cons (intOf_wk hu3) rfl WkA.nil)))) 116) (wkR_sig (WkR.cons (cellsN_wk hu4 (.cons (intOf_wk hu5) (.cons (strOf_wk hu6) (.cons (intOf_wk hu7) (.cons (cplxOf_wk hu8) .nil))))).1 (cellsN_wk hu4 (.cons (intOf_wk hu5) (.cons (strOf_wk hu6) (.cons (intOf_wk hu7) (.cons (cplxOf_wk hu8) .nil))))).2 (renL_mem (.cons rfl (.cons rfl (.cons rfl (.cons rfl .nil))))) (WkR.nil _)) rfl) (ih.2.2.2.1 _ _ _ _ _ _ _ x h)⟩
      · obtain ⟨u0, hu0, h⟩ := Option.bind_eq_some_iff.1 h
        obtain ⟨u1, hu1, h⟩ := Option.bind_eq_some_iff.1 h
        obtain ⟨u2, hu2, h⟩ := Option.bind_eq_some_iff.1 h
        obtain ⟨u3, hu3, h⟩ := Option.bind_eq_some_iff.1 h
        obtain ⟨u4, hu4, h⟩ := Option.bind_eq_some_iff.1 h
        obtain ⟨u5, hu5, h⟩ := Option.bind_eq_some_iff.1 h
        exact .inl ⟨5, _, rfl, code_j_lex_Tokens_0_5_find, SemC.pre (k := 1) (by decide) (WkA.env (WkA.cons (ptrOf_wk hu0) rfl WkA.nil) 116) (wkR_sig (WkR.cons (cellsN_wk hu1 (.cons (intOf_wk hu2) (.cons (strOf_wk hu3) (.cons (intOf_wk hu4) (.cons (cplxOf_wk hu5) .nil))))).1 (cellsN_wk hu1 (.cons (intOf_wk hu2) (.cons (strOf_wk hu3) (.cons (intOf_wk hu4) (.cons (cplxOf_wk hu5) .nil))))).2 (renL_mem (.cons rfl (.cons rfl (.cons rfl (.cons rfl .nil))))) (WkR.nil _)) rfl) (ih.2.2.2.2.1 _ _ _ _ x h)⟩
      · obtain ⟨u0, hu0, h⟩ := Option.bind_eq_some_iff.1 h
        obtain ⟨u1, hu1, h⟩ := Option.bind_eq_some_iff.1 h
        obtain ⟨u2, hu2, h⟩ := Option.bind_eq_some_iff.1 h
        obtain ⟨u3, hu3, h⟩ := Option.bind_eq_some_iff.1 h
        obtain ⟨u4, hu4, h⟩ := Option.bind_eq_some_iff.1 h
        obtain ⟨u5, hu5, h⟩ := Option.bind_eq_some_iff.1 h
        obtain ⟨u6, hu6, h⟩ := Option.bind_eq_some_iff.1 h
        obtain ⟨u7, hu7, h⟩ := Option.bind_eq_some_iff.1 h
        obtain ⟨u8, hu8, h⟩ := Option.bind_eq_some_iff.1 h
        obtain ⟨u9, hu9, h⟩ := Option.bind_eq_some_iff.1 h
        exact .inl ⟨6, _, rfl, code_j_lex_Tokens_0_6_find, SemC.pre (k := 1) (by decide) (WkA.env (WkA.cons (strOf_wk hu0) rfl (WkA.cons (ownOf_wk hu1) rfl (WkA.cons (ptrOf_wk hu2) rfl (WkA.cons (intOf_wk hu3) rfl (WkA.cons (intOf_wk hu4) rfl WkA.nil))))) 116) (wkR_sig (WkR.cons (cellsN_wk hu5 (.cons (intOf_wk hu6) (.cons (strOf_wk hu7) (.cons (intOf_wk hu8) (.cons (cplxOf_wk hu9) .nil))))).1 (cellsN_wk hu5 (.cons (intOf_wk hu6) (.cons (strOf_wk hu7) (.cons (intOf_wk hu8) (.cons (cplxOf_wk hu9) .nil))))).2 (renL_mem (.cons rfl (.cons rfl (.cons rfl (.cons rfl .nil))))) (WkR.nil _)) rfl) (ih.2.2.2.2.2.1 _ _ _ _ _ _ _ _ x h)⟩
      · obtain ⟨u0, hu0, h⟩ := Option.bind_eq_some_iff.1 h
        obtain ⟨u1, hu1, h⟩ := Option.bind_eq_some_iff.1 h
        obtain ⟨u2, hu2, h⟩ := Option.bind_eq_some_iff.1 h
        obtain ⟨u3, hu3, h⟩ := Option.bind_eq_some_iff.1 h
        obtain ⟨u4, hu4, h⟩ := Option.bind_eq_some_iff.1 h
        obtain ⟨u5, hu5, h⟩ := Option.bind_eq_some_iff.1 h
        obtain ⟨u6, hu6, h⟩ := Option.bind_eq_some_iff.1 h
        obtain ⟨u7, hu7, h⟩ := Option.bind_eq_some_iff.1 h
        obtain ⟨u8, hu8, h⟩ := Option.bind_eq_some_iff.1 h
        exact .inl ⟨0, _, rfl, code_j_lex_Tokens_0_0_find, SemC.pre (k := 1) (by decide) (WkA.env (WkA.cons (strOf_wk hu0) rfl (WkA.cons (ownOf_wk hu1) rfl (WkA.cons (ptrOf_wk hu2) rfl (WkA.cons (intOf_wk hu3) rfl WkA.nil)))) 116) (wkR_sig (WkR.cons (cellsN_wk hu4 (.cons (intOf_wk hu5) (.cons (strOf_wk hu6) (.cons (intOf_wk hu7) (.cons (cplxOf_wk hu8) .nil))))).1 (cellsN_wk hu4 (.cons (intOf_wk hu5) (.cons (strOf_wk hu6) (.cons (intOf_wk hu7) (.cons (cplxOf_wk hu8) .nil))))).2 (renL_mem (.cons rfl (.cons rfl (.cons rfl (.cons rfl .nil))))) (WkR.nil _)) rfl) (ih.2.2.2.2.2.2 _ _ _ _ _ _ _ x h)⟩
      · obtain ⟨u0, hu0, h⟩ := Option.bind_eq_some_iff.1 h
        obtain ⟨u1, hu1, h⟩ := Option.bind_eq_some_iff.1 h
        obtain ⟨u2, hu2, h⟩ := Option.bind_eq_some_iff.1 h
        obtain ⟨u3, hu3, h⟩ := Option.bind_eq_some_iff.1 h
        obtain ⟨u4, hu4, h⟩ := Option.bind_eq_some_iff.1 h
        obtain ⟨u5, hu5, h⟩ := Option.bind_eq_some_iff.1 h
        obtain ⟨u6, hu6, h⟩ := Option.bind_eq_some_iff.1 h
        obtain ⟨u7, hu7, h⟩ := Option.bind_eq_some_iff.1 h
        simp only [Option.some.injEq] at h
        subst h
        exact .inr ⟨fun l hl => (by cases hl), 1, _, _, by decide, WkA.env (WkA.cons (ownOf_wk hu0) rfl (WkA.cons (cplxOf_wk hu1) rfl (WkA.cons (intOf_wk hu2) rfl WkA.nil))) 116, (wkR_sig (WkR.cons (cellsN_wk hu3 (.cons (intOf_wk hu4) (.cons (strOf_wk hu5) (.cons (intOf_wk hu6) (.cons (cplxOf_wk hu7) .nil))))).1 (cellsN_wk hu3 (.cons (intOf_wk hu4) (.cons (strOf_wk hu5) (.cons (intOf_wk hu6) (.cons (cplxOf_wk hu7) .nil))))).2 (renL_mem (.cons rfl (.cons rfl (.cons rfl (.cons rfl .nil))))) (WkR.nil _)) rfl), rfl, rfl, rfl⟩
      · cases h
theorem j_lex_Tokens_0_ok (n : Nat) : JumpOk Tryd.prog (sp_lex_Tokens n) 0 116 code_j_lex_Tokens_0 := by
    intro l rest hf R E sg K r h
    have hl := find_mem hf
    rw [show labelsOf code_j_lex_Tokens_0 = [0, 2, 3, 4, 6, 5, 1] from by kernel_rfl] at hl
    simp only [List.mem_cons, List.not_mem_nil, or_false] at hl
    rcases hl with rfl | rfl | rfl | rfl | rfl | rfl | rfl
    · obtain rfl : rest = code_j_lex_Tokens_0_0 := (Option.some.inj (code_j_lex_Tokens_0_0_find.symm.trans hf)).symm
      have h : j_lex_Tokens_0_S0 n R E sg K = some r := h
      unfold j_lex_Tokens_0_S0 at h
      obtain ⟨u0, hu0, h⟩ := Option.bind_eq_some_iff.1 h
      obtain ⟨u1, hu1, h⟩ := Option.bind_eq_some_iff.1 h
      obtain ⟨u2, hu2, h⟩ := Option.bind_eq_some_iff.1 h
      obtain ⟨u3, hu3, h⟩ := Option.bind_eq_some_iff.1 h
      obtain ⟨u4, hu4, h⟩ := Option.bind_eq_some_iff.1 h
      obtain ⟨u5, hu5, h⟩ := Option.bind_eq_some_iff.1 h
      obtain ⟨u6, hu6, h⟩ := Option.bind_eq_some_iff.1 h
      obtain ⟨u7, hu7, h⟩ := Option.bind_eq_some_iff.1 h
      obtain ⟨u8, hu8, h⟩ := Option.bind_eq_some_iff.1 h
      obtain ⟨x, hx, h⟩ := Option.bind_eq_some_iff.1 h
      refine (SemC.pre (k := 1) (by decide) (WkA.env (WkA.cons (strOf_wk hu0) rfl (WkA.cons (ownOf_wk hu1) rfl (WkA.cons (ptrOf_wk hu2) rfl (WkA.cons (intOf_wk hu3) rfl WkA.nil)))) 116) (wkR_sig (WkR.cons (cellsN_wk hu4 (.cons (intOf_wk hu5) (.cons (strOf_wk hu6) (.cons (intOf_wk hu7) (.cons (cplxOf_wk hu8) .nil))))).1 (cellsN_wk hu4 (.cons (intOf_wk hu5) (.cons (strOf_wk hu6) (.cons (intOf_wk hu7) (.cons (cplxOf_wk hu8) .nil))))).2 (renL_mem (.cons rfl (.cons rfl (.cons rfl (.cons rfl .nil))))) (WkR.nil _)) rfl) ((j_lex_Tokens_0_run n n).2.2.2.2.2.2 _ _ _ _ _ _ _ x hx)).mono ?_
      intro ex e s hq
      obtain ⟨rfl, rfl, rfl⟩ := hq
      exact ⟨_, rfl, h⟩
    · obtain rfl : rest = code_j_lex_Tokens_0_2 := (Option.some.inj (code_j_lex_Tokens_0_2_find.symm.trans hf)).symm
      have h : j_lex_Tokens_0_S2 n R E sg K = some r := h
      unfold j_lex_Tokens_0_S2 at h
      obtain ⟨u0, hu0, h⟩ := Option.bind_eq_some_iff.1 h
      obtain ⟨u1, hu1, h⟩ := Option.bind_eq_some_iff.1 h
      obtain ⟨u2, hu2, h⟩ := Option.bind_eq_some_iff.1 h
      obtain ⟨u3, hu3, h⟩ := Option.bind_eq_some_iff.1 h
      obtain ⟨u4, hu4, h⟩ := Option.bind_eq_some_iff.1 h
      obtain ⟨u5, hu5, h⟩ := Option.bind_eq_some_iff.1 h
      obtain ⟨u6, hu6, h⟩ := Option.bind_eq_some_iff.1 h
      obtain ⟨u7, hu7, h⟩ := Option.bind_eq_some_iff.1 h
      obtain ⟨u8, hu8, h⟩ := Option.bind_eq_some_iff.1 h
      obtain ⟨x, hx, h⟩ := Option.bind_eq_some_iff.1 h
      refine (SemC.pre (k := 1) (by decide) (WkA.env (WkA.cons (strOf_wk hu0) rfl (WkA.cons (ownOf_wk hu1) rfl (WkA.cons (ptrOf_wk hu2) rfl (WkA.cons (intOf_wk hu3) rfl WkA.nil)))) 116) (wkR_sig (WkR.cons (cellsN_wk hu4 (.cons (intOf_wk hu5) (.cons (strOf_wk hu6) (.cons (intOf_wk hu7) (.cons (cplxOf_wk hu8) .nil))))).1 (cellsN_wk hu4 (.cons (intOf_wk hu5) (.cons (strOf_wk hu6) (.cons (intOf_wk hu7) (.cons (cplxOf_wk hu8) .nil))))).2 (renL_mem (.cons rfl (.cons rfl (.cons rfl (.cons rfl .nil))))) (WkR.nil _)) rfl) ((j_lex_Tokens_0_run n n).2.1 _ _ _ _ _ _ _ x hx)).mono ?_
      intro ex e s hq
      obtain ⟨rfl, rfl, rfl⟩ := hq
      exact ⟨_, rfl, h⟩
    · obtain rfl : rest = code_j_lex_Tokens_0_3 := (Option.some.inj (code_j_lex_Tokens_0_3_find.symm.trans hf)).symm
      have h : j_lex_Tokens_0_S3 n R E sg K = some r := h
      unfold j_lex_Tokens_0_S3 at h
      obtain ⟨u0, hu0, h⟩ := Option.bind_eq_some_iff.1 h
      obtain ⟨u1, hu1, h⟩ := Option.bind_eq_some_iff.1 h
      obtain ⟨u2, hu2, h⟩ := Option.bind_eq_some_iff.1 h
      obtain ⟨u3, hu3, h⟩ := Option.bind_eq_some_iff.1 h
      obtain ⟨u4, hu4, h⟩ := Option.bind_eq_some_iff.1 h
      obtain ⟨u5, hu5, h⟩ := Option.bind_eq_some_iff.1 h
      obtain ⟨u6, hu6, h⟩ := Option.bind_eq_some_iff.1 h
      obtain ⟨u7, hu7, h⟩ := Option.bind_eq_some_iff.1 h
      obtain ⟨u8, hu8, h⟩ := Option.bind_eq_some_iff.1 h
      obtain ⟨x, hx, h⟩ := Option.bind_eq_some_iff.1 h
      refine (SemC.pre (k := 1) (by decide) (WkA.env (WkA.cons (strOf_wk hu0) rfl (WkA.cons (ownOf_wk hu1) rfl (WkA.cons (ptrOf_wk hu2) rfl (WkA.cons (intOf_wk hu3) rfl WkA.nil)))) 116) (wkR_sig (WkR.cons (cellsN_wk hu4 (.cons (intOf_wk hu5) (.cons (strOf_wk hu6) (.cons (intOf_wk hu7) (.cons (cplxOf_wk hu8) .nil))))).1 (cellsN_wk hu4 (.cons (intOf_wk hu5) (.cons (strOf_wk hu6) (.cons (intOf_wk hu7) (.cons (cplxOf_wk hu8) .nil))))).2 (renL_mem (.cons rfl (.cons rfl (.cons rfl (.cons rfl .nil))))) (WkR.nil _)) rfl) ((j_lex_Tokens_0_run n n).2.2.1 _ _ _ _ _ _ _ x hx)).mono ?_
      intro ex e s hq
      obtain ⟨rfl, rfl, rfl⟩ := hq
      exact ⟨_, rfl, h⟩
    · obtain rfl : rest = code_j_lex_Tokens_0_4 := (Option.some.inj (code_j_lex_Tokens_0_4_find.symm.trans hf)).symm
      have h : j_lex_Tokens_0_S4 n R E sg K = some r := h
      unfold j_lex_Tokens_0_S4 at h
      obtain ⟨u0, hu0, h⟩ := Option.bind_eq_some_iff.1 h
      obtain ⟨u1, hu1, h⟩ := Option.bind_eq_some_iff.1 h
      obtain ⟨u2, hu2, h⟩ := Option.bind_eq_some_iff.1 h
      obtain ⟨u3, hu3, h⟩ := Option.bind_eq_some_iff.1 h
      obtain ⟨u4, hu4, h⟩ := Option.bind_eq_some_iff.1 h
      obtain ⟨u5, hu5, h⟩ := Option.bind_eq_some_iff.1 h
      obtain ⟨u6, hu6, h⟩ := Option.bind_eq_some_iff.1 h
      obtain ⟨u7, hu7, h⟩ := Option.bind_eq_some_iff.1 h
      obtain ⟨u8, hu8, h⟩ := Option.bind_eq_some_iff.1 h
      obtain ⟨x, hx, h⟩ := Option.bind_eq_some_iff.1 h
      refine (SemC.pre (k := 1) (by decide) (WkA.env (WkA.cons (strOf_wk hu0) rfl (WkA.cons (ownOf_wk hu1) rfl (WkA.cons (ptrOf_wk hu2) rfl (WkA.cons (intOf_wk hu3) rfl WkA.nil)))) 116) (wkR_sig (WkR.cons (cellsN_wk hu4 (.cons (intOf_wk hu5) (.cons (strOf_wk hu6) (.cons (intOf_wk hu7) (.cons (cplxOf_wk hu8) .nil))))).1 (cellsN_wk hu4 (.cons (intOf_wk hu5) (.cons (strOf_wk hu6) (.cons (intOf_wk hu7) (.cons (cplxOf_wk hu8) .nil))))).2 (renL_mem (.cons rfl (.cons rfl (.cons rfl (.cons rfl .nil))))) (WkR.nil _)) rfl) ((j_lex_Tokens_0_run n n).2.2.2.1 _ _ _ _ _ _ _ x hx)).mono ?_
      intro ex e s hq
      obtain ⟨rfl, rfl, rfl⟩ := hq
      exact ⟨_, rfl, h⟩
    · obtain rfl : rest = code_j_lex_Tokens_0_6 := (Option.some.inj (code_j_lex_Tokens_0_6_find.symm.trans hf)).symm
      have h : j_lex_Tokens_0_S6 n R E sg K = some r := h
      unfold j_lex_Tokens_0_S6 at h
      obtain ⟨u0, hu0, h⟩ := Option.bind_eq_some_iff.1 h
      obtain ⟨u1, hu1, h⟩ := Option.bind_eq_some_iff.1 h
      obtain ⟨u2, hu2, h⟩ := Option.bind_eq_some_iff.1 h
      obtain ⟨u3, hu3, h⟩ := Option.bind_eq_some_iff.1 h
      obtain ⟨u4, hu4, h⟩ := Option.bind_eq_some_iff.1 h
      obtain ⟨u5, hu5, h⟩ := Option.bind_eq_some_iff.1 h
      obtain ⟨u6, hu6, h⟩ := Option.bind_eq_some_iff.1 h
      obtain ⟨u7, hu7, h⟩ := Option.bind_eq_some_iff.1 h
      obtain ⟨u8, hu8, h⟩ := Option.bind_eq_some_iff.1 h
      obtain ⟨u9, hu9, h⟩ := Option.bind_eq_some_iff.1 h
      obtain ⟨x, hx, h⟩ := Option.bind_eq_some_iff.1 h
      refine (SemC.pre (k := 1) (by decide) (WkA.env (WkA.cons (strOf_wk hu0) rfl (WkA.cons (ownOf_wk hu1) rfl (WkA.cons (ptrOf_wk hu2) rfl (WkA.cons (intOf_wk hu3) rfl (WkA.cons (intOf_wk hu4) rfl WkA.nil))))) 116) (wkR_sig (WkR.cons (cellsN_wk hu5 (.cons (intOf_wk hu6) (.cons (strOf_wk hu7) (.cons (intOf_wk hu8) (.cons (cplxOf_wk hu9) .nil))))).1 (cellsN_wk hu5 (.cons (intOf_wk hu6) (.cons (strOf_wk hu7) (.cons (intOf_wk hu8) (.cons (cplxOf_wk hu9) .nil))))).2 (renL_mem (.cons rfl (.cons rfl (.cons rfl (.cons rfl .nil))))) (WkR.nil _)) rfl) ((j_lex_Tokens_0_run n n).2.2.2.2.2.1 _ _ _ _ _ _ _ _ x hx)).mono ?_
      intro ex e s hq
      obtain ⟨rfl, rfl, rfl⟩ := hq
      exact ⟨_, rfl, h⟩
    · obtain rfl : rest = code_j_lex_Tokens_0_5 := (Option.some.inj (code_j_lex_Tokens_0_5_find.symm.trans hf)).symm
      have h : j_lex_Tokens_0_S5 n R E sg K = some r := h
      unfold j_lex_Tokens_0_S5 at h
      obtain ⟨u0, hu0, h⟩ := Option.bind_eq_some_iff.1 h
      obtain ⟨u1, hu1, h⟩ := Option.bind_eq_some_iff.1 h
      obtain ⟨u2, hu2, h⟩ := Option.bind_eq_some_iff.1 h
      obtain ⟨u3, hu3, h⟩ := Option.bind_eq_some_iff.1 h
      obtain ⟨u4, hu4, h⟩ := Option.bind_eq_some_iff.1 h
      obtain ⟨u5, hu5, h⟩ := Option.bind_eq_some_iff.1 h
      obtain ⟨x, hx, h⟩ := Option.bind_eq_some_iff.1 h
      refine (SemC.pre (k := 1) (by decide) (WkA.env (WkA.cons (ptrOf_wk hu0) rfl WkA.nil) 116) (wkR_sig (WkR.cons (cellsN_wk hu1 (.cons (intOf_wk hu2) (.cons (strOf_wk hu3) (.cons (intOf_wk hu4) (.cons (cplxOf_wk hu5) .nil))))).1 (cellsN_wk hu1 (.cons (intOf_wk hu2) (.cons (strOf_wk hu3) (.cons (intOf_wk hu4) (.cons (cplxOf_wk hu5) .nil))))).2 (renL_mem (.cons rfl (.cons rfl (.cons rfl (.cons rfl .nil))))) (WkR.nil _)) rfl) ((j_lex_Tokens_0_run n n).2.2.2.2.1 _ _ _ _ x hx)).mono ?_
      intro ex e s hq
      obtain ⟨rfl, rfl, rfl⟩ := hq
      exact ⟨_, rfl, h⟩
    · obtain rfl : rest = code_j_lex_Tokens_0_1 := (Option.some.inj (code_j_lex_Tokens_0_1_find.symm.trans hf)).symm
      have h : j_lex_Tokens_0_S1 n R E sg K = some r := h
      unfold j_lex_Tokens_0_S1 at h
      obtain ⟨u0, hu0, h⟩ := Option.bind_eq_some_iff.1 h
      obtain ⟨u1, hu1, h⟩ := Option.bind_eq_some_iff.1 h
      obtain ⟨u2, hu2, h⟩ := Option.bind_eq_some_iff.1 h
      obtain ⟨u3, hu3, h⟩ := Option.bind_eq_some_iff.1 h
      obtain ⟨u4, hu4, h⟩ := Option.bind_eq_some_iff.1 h
      obtain ⟨u5, hu5, h⟩ := Option.bind_eq_some_iff.1 h
      obtain ⟨u6, hu6, h⟩ := Option.bind_eq_some_iff.1 h
      obtain ⟨x, hx, h⟩ := Option.bind_eq_some_iff.1 h
      refine (SemC.pre (k := 1) (by decide) (WkA.env (WkA.cons (ownOf_wk hu0) rfl (WkA.cons (ptrOf_wk hu1) rfl WkA.nil)) 116) (wkR_sig (WkR.cons (cellsN_wk hu2 (.cons (intOf_wk hu3) (.cons (strOf_wk hu4) (.cons (intOf_wk hu5) (.cons (cplxOf_wk hu6) .nil))))).1 (cellsN_wk hu2 (.cons (intOf_wk hu3) (.cons (strOf_wk hu4) (.cons (intOf_wk hu5) (.cons (cplxOf_wk hu6) .nil))))).2 (renL_mem (.cons rfl (.cons rfl (.cons rfl (.cons rfl .nil))))) (WkR.nil _)) rfl) ((j_lex_Tokens_0_run n n).1 _ _ _ _ _ x hx)).mono ?_
      intro ex e s hq
      obtain ⟨rfl, rfl, rfl⟩ := hq
      exact ⟨_, rfl, h⟩
def K_lex_Tokens (v : V) (s : Sig) : Option ((List T) × (Nat × Nat) × Int) := Option.bind (V.tupN 3 v) fun u0 => Option.bind (V.lstOf (u0.getD 0 .any)) fun u1 => Option.bind (V.cplxOf .f64 (u0.getD 1 .any)) fun u2 => Option.bind (V.intOf .i64 (u0.getD 2 .any)) fun u3 => some (u1, u2, u3)
theorem K_lex_Tokens_wk {v : V} {s : Sig} {r : (List T) × (Nat × Nat) × Int} (h : K_lex_Tokens v s = some r) : Wk v (enc_lex_Tokens r) ∧ WkS 0 s (encS_lex_Tokens r) := by
  unfold K_lex_Tokens at h
  obtain ⟨u0, hu0, h⟩ := Option.bind_eq_some_iff.1 h
  obtain ⟨u1, hu1, h⟩ := Option.bind_eq_some_iff.1 h
  obtain ⟨u2, hu2, h⟩ := Option.bind_eq_some_iff.1 h
  obtain ⟨u3, hu3, h⟩ := Option.bind_eq_some_iff.1 h
  simp only [Option.some.injEq] at h
  subst h
  exact ⟨(tupN_wk hu0 (.cons (lstOf_wk hu1) (.cons (cplxOf_wk hu2) (.cons (intOf_wk hu3) .nil)))), (WkS.none _)⟩
theorem m_lex_Tokens_eq (n : Nat) (a0 : ByteArray) : mF Tryd.prog (sp_lex_Tokens n) 15 [(V.t (T.sc (.string a0)))] [] K_lex_Tokens = m_lex_Tokens n a0 := by kernel_rfl
theorem m_lex_Tokens_ok (n : Nat) : ok_lex_Tokens (m_lex_Tokens n) := fun a0 r h => mF_ok sound (sp_lex_Tokens_ok n) code_lex_Tokens_fn code_lex_Tokens_body (fun a ha => absurd ha (by rw [show loopsOf code_lex_Tokens = [] from by kernel_rfl]; simp)) (forall_getD (d := .skip) 1 (by kernel_rfl) (fun i hi => match i, hi with | 0, _ => j_lex_Tokens_0_ok n | i + 1, hi => absurd hi (by omega))) ((m_lex_Tokens_eq n a0).trans h) (fun v s hk => ⟨(K_lex_Tokens_wk hk).1, rfl, (K_lex_Tokens_wk hk).2⟩)


/-! (*suture/expr.reader).is -/
def m___expr_reader__is (n : Nat) (a0 : ByteArray) (a1 : List T) (a2 : Int) (a3 : Bool) : Option (Bool × (List T) × Int × Bool) :=
Option.bind (idx ((!a3)) [.int .i64, .str, .int .i64, .cplx .f64] a1 a2) fun y0 =>
Option.bind (idx ((bif (!a3) then (((y0.cell 0).int : Int) == 3) else false)) [.int .i64, .str, .int .i64, .cplx .f64] a1 a2) fun y1 =>
some ((bif (bif (!a3) then (((y0.cell 0).int : Int) == 3) else false) then (ByteArray.toList (y1.cell 1).str == ByteArray.toList a0) else false), a1, a2, a3)
def enc___expr_reader__is (r : Bool × (List T) × Int × Bool) : V := (V.t (T.sc (.bool r.1)))
def encS___expr_reader__is (r : Bool × (List T) × Int × Bool) : Sig := [some [(V.t (T.list r.2.1)), (V.t (T.sc (.int .i64 r.2.2.1))), (V.t (T.sc (.bool r.2.2.2)))]]
def ok___expr_reader__is (m : ByteArray → List T → Int → Bool → Option (Bool × (List T) × Int × Bool)) : Prop := ∀ (a0 : ByteArray) (a1 : List T) (a2 : Int) (a3 : Bool) (r : Bool × (List T) × Int × Bool), m a0 a1 a2 a3 = some r → FuncOk Tryd.prog 56 [(V.ptr 0 0), (V.t (T.sc (.string a0)))] [some [(V.t (T.list a1)), (V.t (T.sc (.int .i64 a2))), (V.t (T.sc (.bool a3)))]] (enc___expr_reader__is r) (encS___expr_reader__is r)
def c___expr_reader__is (m : ByteArray → List T → Int → Bool → Option (Bool × (List T) × Int × Bool)) (vs : List V) (sg : Sig) : Option CallM := bif Nat.beq vs.length 2 && Nat.beq sg.length 1 then Option.bind (V.ptrOf 0 0 (vs.getD 0 .any)) fun u0 => Option.bind (V.strOf (vs.getD 1 .any)) fun u1 => Option.bind (cellsN 3 sg 0) fun g0 => Option.bind (V.lstOf (g0.getD 0 .any)) fun g1 => Option.bind (V.intOf .i64 (g0.getD 1 .any)) fun g2 => Option.bind (V.boolOf (g0.getD 2 .any)) fun g3 => some { α := Bool × (List T) × Int × Bool, m := m u1 g1 g2 g3, dflt := (false, [], 0, false), enc := fun y => ((V.t (T.sc (.bool y.1))), [some [(V.t (T.list y.2.1)), (V.t (T.sc (.int .i64 y.2.2.1))), (V.t (T.sc (.bool y.2.2.2)))]]) } else none
theorem c___expr_reader__is_ok (m : ByteArray → List T → Int → Bool → Option (Bool × (List T) × Int × Bool)) (hm : ok___expr_reader__is m) (vs : List V) (sg : Sig) (cm : CallM) (x : cm.α) (h : c___expr_reader__is m vs sg = some cm) (hx : cm.m = some x) : FuncOk Tryd.prog 56 vs sg (cm.enc x).1 (cm.enc x).2 := by
  unfold c___expr_reader__is at h
  have h0 := callee_sig h
  clear h
  obtain ⟨hl, hs, h⟩ := h0
  obtain ⟨u0, hu0, h⟩ := Option.bind_eq_some_iff.1 h
  obtain ⟨u1, hu1, h⟩ := Option.bind_eq_some_iff.1 h
  obtain ⟨g0, hg0, h⟩ := Option.bind_eq_some_iff.1 h
  obtain ⟨g1, hg1, h⟩ := Option.bind_eq_some_iff.1 h
  obtain ⟨g2, hg2, h⟩ := Option.bind_eq_some_iff.1 h
  obtain ⟨g3, hg3, h⟩ := Option.bind_eq_some_iff.1 h
  simp only [Option.some.injEq] at h
  subst h
  exact (hm u1 g1 g2 g3 x hx).wk (args_wk hl (.cons (ptrOf_wk hu0) (.cons (strOf_wk hu1) .nil))) (wkSg_of hs (.cons (cellsN_wk hg0 (.cons (lstOf_wk hg1) (.cons (intOf_wk hg2) (.cons (boolOf_wk hg3) .nil)))) .nil))
noncomputable def code___expr_reader__is : Code := Tryd.f56.body.getD .skip
noncomputable def sp___expr_reader__is (n : Nat) : Go.Eng.Spec := ⟨fun f vs sg => (match f with
    | _ => none), fun R key E sg K => (match key with
    | _ => none)⟩
theorem sp___expr_reader__is_ok (n : Nat) : CallsOk Tryd.prog (sp___expr_reader__is n) := by
  intro f vs sg cm x h hx
  have h : (none : Option CallM) = some cm := h
  cases h
theorem code___expr_reader__is_fn : Tryd.prog.funcs[56]? = some Tryd.f56 := Tryd.func56
theorem code___expr_reader__is_body : Tryd.f56.body = some code___expr_reader__is := by kernel_rfl
theorem code___expr_reader__is_ok : CodeOk Tryd.prog code___expr_reader__is := (sound 56 _ _ code___expr_reader__is_fn code___expr_reader__is_body).1
def K___expr_reader__is (v : V) (s : Sig) : Option (Bool × (List T) × Int × Bool) := Option.bind (V.boolOf v) fun u0 => Option.bind (cellsN 3 s 0) fun g0 => Option.bind (V.lstOf (g0.getD 0 .any)) fun g1 => Option.bind (V.intOf .i64 (g0.getD 1 .any)) fun g2 => Option.bind (V.boolOf (g0.getD 2 .any)) fun g3 => some (u0, g1, g2, g3)
theorem K___expr_reader__is_wk {v : V} {s : Sig} {r : Bool × (List T) × Int × Bool} (h : K___expr_reader__is v s = some r) : Wk v (enc___expr_reader__is r) ∧ WkS 1 s (encS___expr_reader__is r) := by
  unfold K___expr_reader__is at h
  obtain ⟨u0, hu0, h⟩ := Option.bind_eq_some_iff.1 h
  obtain ⟨g0, hg0, h⟩ := Option.bind_eq_some_iff.1 h
  obtain ⟨g1, hg1, h⟩ := Option.bind_eq_some_iff.1 h
  obtain ⟨g2, hg2, h⟩ := Option.bind_eq_some_iff.1 h
  obtain ⟨g3, hg3, h⟩ := Option.bind_eq_some_iff.1 h
  simp only [Option.some.injEq] at h
  subst h
  exact ⟨(boolOf_wk hu0), (wkR_sig (WkR.cons (cellsN_wk hg0 (.cons (lstOf_wk hg1) (.cons (intOf_wk hg2) (.cons (boolOf_wk hg3) .nil)))).1 (cellsN_wk hg0 (.cons (lstOf_wk hg1) (.cons (intOf_wk hg2) (.cons (boolOf_wk hg3) .nil)))).2 (renL_mem (.cons rfl (.cons rfl (.cons rfl .nil)))) (WkR.nil _)) rfl)⟩
theorem m___expr_reader__is_eq (n : Nat) (a0 : ByteArray) (a1 : List T) (a2 : Int) (a3 : Bool) : mF Tryd.prog (sp___expr_reader__is n) 56 [(V.ptr 0 0), (V.t (T.sc (.string a0)))] [some [(V.t (T.list a1)), (V.t (T.sc (.int .i64 a2))), (V.t (T.sc (.bool a3)))]] K___expr_reader__is = m___expr_reader__is n a0 a1 a2 a3 := by kernel_rfl
theorem m___expr_reader__is_ok (n : Nat) : ok___expr_reader__is (m___expr_reader__is n) := fun a0 a1 a2 a3 r h => mF_ok sound (sp___expr_reader__is_ok n) code___expr_reader__is_fn code___expr_reader__is_body (fun a ha => absurd ha (by rw [show loopsOf code___expr_reader__is = [] from by kernel_rfl]; simp)) (no_scope (by kernel_rfl)) ((m___expr_reader__is_eq n a0 a1 a2 a3).trans h) (fun v s hk => ⟨(K___expr_reader__is_wk hk).1, rfl, (K___expr_reader__is_wk hk).2⟩)


/-! slices.Index[[]string,string] -/
def l_slices_Index___string_string__2_B (n : Nat) (k : (List T) × ByteArray × Int × Int → Option (((Int) ⊕ Unit))) : (List T) × ByteArray × Int × Int → Option (((Int) ⊕ Unit)) := fun (s0, s1, s2, s3) =>
bif (decide ((s3 : Int) < s2)) then (
Option.bind (idx true [.str] s0 s3) fun y0 =>
bif (ByteArray.toList s1 == ByteArray.toList (y0.cell 0).str) then (
some (Sum.inl s3))
else (
k (s0, s1, s2, (IntKind.wrap .i64 (s3 + 1)))))
else (
some (Sum.inr ()))
def l_slices_Index___string_string__2 (n : Nat) : Nat → (List T) × ByteArray × Int × Int → Option (((Int) ⊕ Unit))
  | 0, _ => none
  | m + 1, s => l_slices_Index___string_string__2_B n (l_slices_Index___string_string__2 n m) s
def m_slices_Index___string_string_ (n : Nat) (a0 : List T) (a1 : ByteArray) : Option (Int) :=
Option.bind (l_slices_Index___string_string__2 n n (a0, a1, ((List.length a0 : Nat) : Int), 0)) fun x1 =>
Sum.elim (fun p2 => 
some p2) (fun x1' => (fun p3 => 
some (-1)) x1') x1
def enc_slices_Index___string_string_ (r : Int) : V := (V.t (T.sc (.int .i64 r)))
def encS_slices_Index___string_string_ (r : Int) : Sig := []
def ok_slices_Index___string_string_ (m : List T → ByteArray → Option (Int)) : Prop := ∀ (a0 : List T) (a1 : ByteArray) (r : Int), m a0 a1 = some r → FuncOk Tryd.prog 82 [(V.t (T.list a0)), (V.t (T.sc (.string a1)))] [] (enc_slices_Index___string_string_ r) (encS_slices_Index___string_string_ r)
def c_slices_Index___string_string_ (m : List T → ByteArray → Option (Int)) (vs : List V) (sg : Sig) : Option CallM := bif Nat.beq vs.length 2 && Nat.beq sg.length 0 then Option.bind (V.lstOf (vs.getD 0 .any)) fun u0 => Option.bind (V.strOf (vs.getD 1 .any)) fun u1 => some { α := Int, m := m u0 u1, dflt := 0, enc := fun y => ((V.t (T.sc (.int .i64 y))), []) } else none
theorem c_slices_Index___string_string__ok (m : List T → ByteArray → Option (Int)) (hm : ok_slices_Index___string_string_ m) (vs : List V) (sg : Sig) (cm : CallM) (x : cm.α) (h : c_slices_Index___string_string_ m vs sg = some cm) (hx : cm.m = some x) : FuncOk Tryd.prog 82 vs sg (cm.enc x).1 (cm.enc x).2 := by
  unfold c_slices_Index___string_string_ at h
  have h0 := callee_sig h
  clear h
  obtain ⟨hl, hs, h⟩ := h0
  obtain ⟨u0, hu0, h⟩ := Option.bind_eq_some_iff.1 h
  obtain ⟨u1, hu1, h⟩ := Option.bind_eq_some_iff.1 h
  simp only [Option.some.injEq] at h
  subst h
  exact (hm u0 u1 x hx).wk (args_wk hl (.cons (lstOf_wk hu0) (.cons (strOf_wk hu1) .nil))) (wkSg_of hs .nil)
noncomputable def code_slices_Index___string_string_ : Code := Tryd.f82.body.getD .skip
def l_slices_Index___string_string__2_S (n : Nat) (R : Type) (E : SEnv) (sg : Sig) (K : Ex → SEnv → Sig → Option R) : Option R := Option.bind (V.lstOf (SEnv.at E 0)) fun u0 => Option.bind (V.strOf (SEnv.at E 1)) fun u1 => Option.bind (V.intOf .i64 (SEnv.at E 7)) fun u2 => Option.bind (V.intOf .i64 (SEnv.at E 8)) fun u3 => Option.bind (l_slices_Index___string_string__2 n n (u0, u1, u2, u3)) fun y => Sum.elim (fun p0 => K .ret [(4, (V.t (T.sc (.int .i64 p0))))] []) (fun y' => (fun p1 => K (.exit 0) [] []) y') y
noncomputable def sp_slices_Index___string_string_ (n : Nat) : Go.Eng.Spec := ⟨fun f vs sg => (match f with
    | _ => none), fun R key E sg K => (match key with
    | 2 => l_slices_Index___string_string__2_S n R E sg K
    | _ => none)⟩
theorem sp_slices_Index___string_string__ok (n : Nat) : CallsOk Tryd.prog (sp_slices_Index___string_string_ n) := by
  intro f vs sg cm x h hx
  have h : (none : Option CallM) = some cm := h
  cases h
theorem code_slices_Index___string_string__fn : Tryd.prog.funcs[82]? = some Tryd.f82 := Tryd.func82
theorem code_slices_Index___string_string__body : Tryd.f82.body = some code_slices_Index___string_string_ := by kernel_rfl
theorem code_slices_Index___string_string__ok : CodeOk Tryd.prog code_slices_Index___string_string_ := (sound 82 _ _ code_slices_Index___string_string__fn code_slices_Index___string_string__body).1
noncomputable def code_l_slices_Index___string_string__2 : Code := (loopsOf code_slices_Index___string_string_).getD 0 .skip
theorem code_l_slices_Index___string_string__2_ok : CodeOk Tryd.prog code_l_slices_Index___string_string__2 := codeOk_loops code_slices_Index___string_string__ok _ (getD_mem (by kernel_rfl))
def l_slices_Index___string_string__2_K (k : (List T) × ByteArray × Int × Int → Option (((Int) ⊕ Unit))) : Ex → SEnv → Sig → Option (((Int) ⊕ Unit)) := fun x E sg => match x with
  | .normal => Option.bind (V.lstOf (SEnv.at E 0)) fun u0 => Option.bind (V.strOf (SEnv.at E 1)) fun u1 => Option.bind (V.intOf .i64 (SEnv.at E 7)) fun u2 => Option.bind (V.intOf .i64 (SEnv.at E 8)) fun u3 => k (u0, u1, u2, u3)
  | .ret => Option.bind (V.intOf .i64 (SEnv.at E 4)) fun u0 => some (Sum.inl u0)
  | (.exit 0) => some (Sum.inr ())
  | _ => none
theorem l_slices_Index___string_string__2_eq (n : Nat) (k : (List T) × ByteArray × Int × Int → Option (((Int) ⊕ Unit))) (s0 : List T) (s1 : ByteArray) (s2 : Int) (s3 : Int) : mX Tryd.prog (sp_slices_Index___string_string_ n) 19 code_l_slices_Index___string_string__2 [(0, (V.t (T.list s0))), (1, (V.t (T.sc (.string s1)))), (7, (V.t (T.sc (.int .i64 s2)))), (8, (V.t (T.sc (.int .i64 s3))))] [] (l_slices_Index___string_string__2_K k) = l_slices_Index___string_string__2_B n k (s0, s1, s2, s3) := by kernel_rfl
def l_slices_Index___string_string__2_Q (x : ((Int) ⊕ Unit)) (ex : Ex) (e : Env) (s : Sig) : Prop := Sum.elim (fun p0 => (ex = .ret ∧ e = SEnv.env 19 [(4, (V.t (T.sc (.int .i64 p0))))] ∧ s = [])) (fun x' => (fun p1 => (ex = (.exit 0) ∧ e = SEnv.env 19 [] ∧ s = [])) x') x
theorem l_slices_Index___string_string__2_run (n : Nat) : ∀ (m : Nat) (s0 : List T) (s1 : ByteArray) (s2 : Int) (s3 : Int) (x : ((Int) ⊕ Unit)), l_slices_Index___string_string__2 n m (s0, s1, s2, s3) = some x → SemL Tryd.prog 0 code_l_slices_Index___string_string__2 (SEnv.env 19 [(0, (V.t (T.list s0))), (1, (V.t (T.sc (.string s1)))), (7, (V.t (T.sc (.int .i64 s2)))), (8, (V.t (T.sc (.int .i64 s3))))]) [] (l_slices_Index___string_string__2_Q x)
  | 0, s0, s1, s2, s3, x, h => by cases h
  | m + 1, s0, s1, s2, s3, x, h => by
    refine loop_step (sp_slices_Index___string_string__ok n) code_l_slices_Index___string_string__2_ok (fun a ha => absurd ha (by rw [show loopsOf code_l_slices_Index___string_string__2 = [] from by kernel_rfl]; simp)) (no_scope (by kernel_rfl)) ((l_slices_Index___string_string__2_eq n _ s0 s1 s2 s3).trans h) (fun E sg h => ?_) (fun ex E sg hne h => ?_)
    · simp only [l_slices_Index___string_string__2_K] at h
      obtain ⟨u0, hu0, h⟩ := Option.bind_eq_some_iff.1 h
      obtain ⟨u1, hu1, h⟩ := Option.bind_eq_some_iff.1 h
      obtain ⟨u2, hu2, h⟩ := Option.bind_eq_some_iff.1 h
      obtain ⟨u3, hu3, h⟩ := Option.bind_eq_some_iff.1 h
      exact SemL.pre (k := 0) (by decide) (WkA.env (WkA.cons (lstOf_wk hu0) rfl (WkA.cons (strOf_wk hu1) rfl (WkA.cons (intOf_wk hu2) rfl (WkA.cons (intOf_wk hu3) rfl WkA.nil)))) 19) (WkS.none _) (l_slices_Index___string_string__2_run n m _ _ _ _ x h)
    · unfold l_slices_Index___string_string__2_K at h
      split at h
      · exact absurd rfl hne
      · obtain ⟨u0, hu0, h⟩ := Option.bind_eq_some_iff.1 h
        simp only [Option.some.injEq] at h
        subst h
        exact ⟨0, _, _, by decide, WkA.env (WkA.cons (intOf_wk hu0) rfl WkA.nil) 19, (WkS.none _), rfl, rfl, rfl⟩
      · simp only [Option.some.injEq] at h
        subst h
        exact ⟨0, _, _, by decide, WkA.env WkA.nil 19, (WkS.none _), rfl, rfl, rfl⟩
      · cases h
theorem l_slices_Index___string_string__2_ok (n : Nat) : LoopOk Tryd.prog (sp_slices_Index___string_string_ n) 0 19 code_l_slices_Index___string_string__2 := by
    intro R key E sg K r hk h
    rw [show Go.Eng.keyOf code_l_slices_Index___string_string__2 = some 2 from by kernel_rfl] at hk
    cases hk
    have h : l_slices_Index___string_string__2_S n R E sg K = some r := h
    unfold l_slices_Index___string_string__2_S at h
    obtain ⟨u0, hu0, h⟩ := Option.bind_eq_some_iff.1 h
    obtain ⟨u1, hu1, h⟩ := Option.bind_eq_some_iff.1 h
    obtain ⟨u2, hu2, h⟩ := Option.bind_eq_some_iff.1 h
    obtain ⟨u3, hu3, h⟩ := Option.bind_eq_some_iff.1 h
    obtain ⟨x, hx, h⟩ := Option.bind_eq_some_iff.1 h
    refine (SemL.pre (k := 0) (by decide) (WkA.env (WkA.cons (lstOf_wk hu0) rfl (WkA.cons (strOf_wk hu1) rfl (WkA.cons (intOf_wk hu2) rfl (WkA.cons (intOf_wk hu3) rfl WkA.nil)))) 19) (WkS.none _) (l_slices_Index___string_string__2_run n n _ _ _ _ x hx)).mono ?_
    intro ex e s hq
    rcases x with x | x <;> (obtain ⟨rfl, rfl, rfl⟩ := hq; exact ⟨_, rfl, h⟩) -- 5
def K_slices_Index___string_string_ (v : V) (s : Sig) : Option (Int) := Option.bind (V.intOf .i64 v) fun u0 => some u0
theorem K_slices_Index___string_string__wk {v : V} {s : Sig} {r : Int} (h : K_slices_Index___string_string_ v s = some r) : Wk v (enc_slices_Index___string_string_ r) ∧ WkS 0 s (encS_slices_Index___string_string_ r) := by
  unfold K_slices_Index___string_string_ at h
  obtain ⟨u0, hu0, h⟩ := Option.bind_eq_some_iff.1 h
  simp only [Option.some.injEq] at h
  subst h
  exact ⟨(intOf_wk hu0), (WkS.none _)⟩
theorem m_slices_Index___string_string__eq (n : Nat) (a0 : List T) (a1 : ByteArray) : mF Tryd.prog (sp_slices_Index___string_string_ n) 82 [(V.t (T.list a0)), (V.t (T.sc (.string a1)))] [] K_slices_Index___string_string_ = m_slices_Index___string_string_ n a0 a1 := by kernel_rfl
theorem m_slices_Index___string_string__ok (n : Nat) : ok_slices_Index___string_string_ (m_slices_Index___string_string_ n) := fun a0 a1 r h => mF_ok sound (sp_slices_Index___string_string__ok n) code_slices_Index___string_string__fn code_slices_Index___string_string__body (forall_getD (d := .skip) 1 (by kernel_rfl) (fun i hi => match i, hi with | 0, _ => l_slices_Index___string_string__2_ok n | i + 1, hi => absurd hi (by omega))) (no_scope (by kernel_rfl)) ((m_slices_Index___string_string__eq n a0 a1).trans h) (fun v s hk => ⟨(K_slices_Index___string_string__wk hk).1, rfl, (K_slices_Index___string_string__wk hk).2⟩)


/-! slices.Contains[[]string,string] -/
def m_slices_Contains___string_string_ (n : Nat) (a0 : List T) (a1 : ByteArray) : Option (Bool) :=
Option.bind (m_slices_Index___string_string_ n a0 a1) fun r0 =>
some (decide ((r0 : Int) ≥ 0))
def enc_slices_Contains___string_string_ (r : Bool) : V := (V.t (T.sc (.bool r)))
def encS_slices_Contains___string_string_ (r : Bool) : Sig := []
def ok_slices_Contains___string_string_ (m : List T → ByteArray → Option (Bool)) : Prop := ∀ (a0 : List T) (a1 : ByteArray) (r : Bool), m a0 a1 = some r → FuncOk Tryd.prog 78 [(V.t (T.list a0)), (V.t (T.sc (.string a1)))] [] (enc_slices_Contains___string_string_ r) (encS_slices_Contains___string_string_ r)
def c_slices_Contains___string_string_ (m : List T → ByteArray → Option (Bool)) (vs : List V) (sg : Sig) : Option CallM := bif Nat.beq vs.length 2 && Nat.beq sg.length 0 then Option.bind (V.lstOf (vs.getD 0 .any)) fun u0 => Option.bind (V.strOf (vs.getD 1 .any)) fun u1 => some { α := Bool, m := m u0 u1, dflt := false, enc := fun y => ((V.t (T.sc (.bool y))), []) } else none
theorem c_slices_Contains___string_string__ok (m : List T → ByteArray → Option (Bool)) (hm : ok_slices_Contains___string_string_ m) (vs : List V) (sg : Sig) (cm : CallM) (x : cm.α) (h : c_slices_Contains___string_string_ m vs sg = some cm) (hx : cm.m = some x) : FuncOk Tryd.prog 78 vs sg (cm.enc x).1 (cm.enc x).2 := by
  unfold c_slices_Contains___string_string_ at h
  have h0 := callee_sig h
  clear h
  obtain ⟨hl, hs, h⟩ := h0
  obtain ⟨u0, hu0, h⟩ := Option.bind_eq_some_iff.1 h
  obtain ⟨u1, hu1, h⟩ := Option.bind_eq_some_iff.1 h
  simp only [Option.some.injEq] at h
  subst h
  exact (hm u0 u1 x hx).wk (args_wk hl (.cons (lstOf_wk hu0) (.cons (strOf_wk hu1) .nil))) (wkSg_of hs .nil)
noncomputable def code_slices_Contains___string_string_ : Code := Tryd.f78.body.getD .skip
noncomputable def sp_slices_Contains___string_string_ (n : Nat) : Go.Eng.Spec := ⟨fun f vs sg => (match f with
    | 82 => c_slices_Index___string_string_ (m_slices_Index___string_string_ n) vs sg
    | _ => none), fun R key E sg K => (match key with
    | _ => none)⟩
theorem sp_slices_Contains___string_string__ok (n : Nat) : CallsOk Tryd.prog (sp_slices_Contains___string_string_ n) := by
  intro f vs sg cm x h hx
  simp only [sp_slices_Contains___string_string_] at h
  split at h
  · exact c_slices_Index___string_string__ok _ (m_slices_Index___string_string__ok n) vs sg cm x h hx
  · cases h
theorem code_slices_Contains___string_string__fn : Tryd.prog.funcs[78]? = some Tryd.f78 := Tryd.func78
theorem code_slices_Contains___string_string__body : Tryd.f78.body = some code_slices_Contains___string_string_ := by kernel_rfl
theorem code_slices_Contains___string_string__ok : CodeOk Tryd.prog code_slices_Contains___string_string_ := (sound 78 _ _ code_slices_Contains___string_string__fn code_slices_Contains___string_string__body).1
def K_slices_Contains___string_string_ (v : V) (s : Sig) : Option (Bool) := Option.bind (V.boolOf v) fun u0 => some u0
theorem K_slices_Contains___string_string__wk {v : V} {s : Sig} {r : Bool} (h : K_slices_Contains___string_string_ v s = some r) : Wk v (enc_slices_Contains___string_string_ r) ∧ WkS 0 s (encS_slices_Contains___string_string_ r) := by
  unfold K_slices_Contains___string_string_ at h
  obtain ⟨u0, hu0, h⟩ := Option.bind_eq_some_iff.1 h
  simp only [Option.some.injEq] at h
  subst h
  exact ⟨(boolOf_wk hu0), (WkS.none _)⟩
theorem m_slices_Contains___string_string__eq (n : Nat) (a0 : List T) (a1 : ByteArray) : mF Tryd.prog (sp_slices_Contains___string_string_ n) 78 [(V.t (T.list a0)), (V.t (T.sc (.string a1)))] [] K_slices_Contains___string_string_ = m_slices_Contains___string_string_ n a0 a1 := by kernel_rfl
theorem m_slices_Contains___string_string__ok (n : Nat) : ok_slices_Contains___string_string_ (m_slices_Contains___string_string_ n) := fun a0 a1 r h => mF_ok sound (sp_slices_Contains___string_string__ok n) code_slices_Contains___string_string__fn code_slices_Contains___string_string__body (fun a ha => absurd ha (by rw [show loopsOf code_slices_Contains___string_string_ = [] from by kernel_rfl]; simp)) (no_scope (by kernel_rfl)) ((m_slices_Contains___string_string__eq n a0 a1).trans h) (fun v s hk => ⟨(K_slices_Contains___string_string__wk hk).1, rfl, (K_slices_Contains___string_string__wk hk).2⟩)


/-! suture/lex.Keyword -/
def m_lex_Keyword (n : Nat) (a0 : ByteArray) : Option (Bool) :=
Option.bind (m_slices_Contains___string_string_ n [(T.sc (.string (⟨#[118, 97, 114]⟩ : ByteArray))), (T.sc (.string (⟨#[119, 105, 100, 101]⟩ : ByteArray))), (T.sc (.string (⟨#[97, 116, 111, 109, 105, 99]⟩ : ByteArray))), (T.sc (.string (⟨#[108, 111, 99, 97, 108]⟩ : ByteArray))), (T.sc (.string (⟨#[109, 117, 116, 101, 120]⟩ : ByteArray))), (T.sc (.string (⟨#[99, 104, 97, 110]⟩ : ByteArray))), (T.sc (.string (⟨#[103, 111]⟩ : ByteArray))), (T.sc (.string (⟨#[108, 111, 99, 107]⟩ : ByteArray))), (T.sc (.string (⟨#[117, 110, 108, 111, 99, 107]⟩ : ByteArray))), (T.sc (.string (⟨#[115, 101, 110, 100]⟩ : ByteArray))), (T.sc (.string (⟨#[114, 101, 99, 118]⟩ : ByteArray))), (T.sc (.string (⟨#[112, 114, 105, 110, 116]⟩ : ByteArray))), (T.sc (.string (⟨#[105, 102]⟩ : ByteArray))), (T.sc (.string (⟨#[101, 108, 115, 101]⟩ : ByteArray))), (T.sc (.string (⟨#[114, 101, 112, 101, 97, 116]⟩ : ByteArray))), (T.sc (.string (⟨#[103, 111, 116, 111]⟩ : ByteArray))), (T.sc (.string (⟨#[108, 97, 98, 101, 108]⟩ : ByteArray)))] a0) fun r0 =>
some r0
def enc_lex_Keyword (r : Bool) : V := (V.t (T.sc (.bool r)))
def encS_lex_Keyword (r : Bool) : Sig := []
def ok_lex_Keyword (m : ByteArray → Option (Bool)) : Prop := ∀ (a0 : ByteArray) (r : Bool), m a0 = some r → FuncOk Tryd.prog 67 [(V.t (T.sc (.string a0)))] [] (enc_lex_Keyword r) (encS_lex_Keyword r)
def c_lex_Keyword (m : ByteArray → Option (Bool)) (vs : List V) (sg : Sig) : Option CallM := bif Nat.beq vs.length 1 && Nat.beq sg.length 0 then Option.bind (V.strOf (vs.getD 0 .any)) fun u0 => some { α := Bool, m := m u0, dflt := false, enc := fun y => ((V.t (T.sc (.bool y))), []) } else none
theorem c_lex_Keyword_ok (m : ByteArray → Option (Bool)) (hm : ok_lex_Keyword m) (vs : List V) (sg : Sig) (cm : CallM) (x : cm.α) (h : c_lex_Keyword m vs sg = some cm) (hx : cm.m = some x) : FuncOk Tryd.prog 67 vs sg (cm.enc x).1 (cm.enc x).2 := by
  unfold c_lex_Keyword at h
  have h0 := callee_sig h
  clear h
  obtain ⟨hl, hs, h⟩ := h0
  obtain ⟨u0, hu0, h⟩ := Option.bind_eq_some_iff.1 h
  simp only [Option.some.injEq] at h
  subst h
  exact (hm u0 x hx).wk (args_wk hl (.cons (strOf_wk hu0) .nil)) (wkSg_of hs .nil)
noncomputable def code_lex_Keyword : Code := Tryd.f67.body.getD .skip
noncomputable def sp_lex_Keyword (n : Nat) : Go.Eng.Spec := ⟨fun f vs sg => (match f with
    | 78 => c_slices_Contains___string_string_ (m_slices_Contains___string_string_ n) vs sg
    | _ => none), fun R key E sg K => (match key with
    | _ => none)⟩
theorem sp_lex_Keyword_ok (n : Nat) : CallsOk Tryd.prog (sp_lex_Keyword n) := by
  intro f vs sg cm x h hx
  simp only [sp_lex_Keyword] at h
  split at h
  · exact c_slices_Contains___string_string__ok _ (m_slices_Contains___string_string__ok n) vs sg cm x h hx
  · cases h
theorem code_lex_Keyword_fn : Tryd.prog.funcs[67]? = some Tryd.f67 := Tryd.func67
theorem code_lex_Keyword_body : Tryd.f67.body = some code_lex_Keyword := by kernel_rfl
theorem code_lex_Keyword_ok : CodeOk Tryd.prog code_lex_Keyword := (sound 67 _ _ code_lex_Keyword_fn code_lex_Keyword_body).1
def K_lex_Keyword (v : V) (s : Sig) : Option (Bool) := Option.bind (V.boolOf v) fun u0 => some u0
theorem K_lex_Keyword_wk {v : V} {s : Sig} {r : Bool} (h : K_lex_Keyword v s = some r) : Wk v (enc_lex_Keyword r) ∧ WkS 0 s (encS_lex_Keyword r) := by
  unfold K_lex_Keyword at h
  obtain ⟨u0, hu0, h⟩ := Option.bind_eq_some_iff.1 h
  simp only [Option.some.injEq] at h
  subst h
  exact ⟨(boolOf_wk hu0), (WkS.none _)⟩
theorem m_lex_Keyword_eq (n : Nat) (a0 : ByteArray) : mF Tryd.prog (sp_lex_Keyword n) 67 [(V.t (T.sc (.string a0)))] [] K_lex_Keyword = m_lex_Keyword n a0 := by kernel_rfl
theorem m_lex_Keyword_ok (n : Nat) : ok_lex_Keyword (m_lex_Keyword n) := fun a0 r h => mF_ok sound (sp_lex_Keyword_ok n) code_lex_Keyword_fn code_lex_Keyword_body (fun a ha => absurd ha (by rw [show loopsOf code_lex_Keyword = [] from by kernel_rfl]; simp)) (no_scope (by kernel_rfl)) ((m_lex_Keyword_eq n a0).trans h) (fun v s hk => ⟨(K_lex_Keyword_wk hk).1, rfl, (K_lex_Keyword_wk hk).2⟩)


end Go.Proofs.YtpahgmebihlffaaDoor.W
