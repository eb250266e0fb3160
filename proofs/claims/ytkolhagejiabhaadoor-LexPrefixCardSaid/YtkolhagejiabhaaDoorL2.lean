/- What the engine's walk comes to, printed by a program of this work: for each function its model, and that it is one. No conditions. -/
import Derived.Test.YtkolhagejiabhaaDoorL1
namespace Go.Proofs.YtkolhagejiabhaaDoor.W
open Go Go.Eng
set_option linter.unusedVariables false
set_option linter.unusedSimpArgs false
set_option maxRecDepth 100000

/-! suture/lex.Tokens -/
def j_lex_Tokens_0_B1 (n : Nat) (k : (((List T) × Int × ByteArray × Int × (Nat × Nat)) ⊕ ((ByteArray × (List T) × Int × Int × ByteArray × Int × (Nat × Nat)) ⊕ ((ByteArray × (List T) × Int × Int × ByteArray × Int × (Nat × Nat)) ⊕ ((ByteArray × (List T) × Int × Int × ByteArray × Int × (Nat × Nat)) ⊕ ((Int × ByteArray × Int × (Nat × Nat)) ⊕ ((ByteArray × (List T) × Int × Int × Int × ByteArray × Int × (Nat × Nat)) ⊕ ByteArray × (List T) × Int × Int × ByteArray × Int × (Nat × Nat))))))) → Option ((List T) × (Nat × Nat) × Int × Int × ByteArray × Int × (Nat × Nat))) : (List T) × Int × ByteArray × Int × (Nat × Nat) → Option ((List T) × (Nat × Nat) × Int × Int × ByteArray × Int × (Nat × Nat)) := fun (s0, s1, s2, s3, s4) =>
must true ((Nat.beq 4 4 || Nat.beq 4 0) && (decide (List.length s0 + List.length [(T.agg [(T.sc (.int .i64 4)), (T.sc (.string s2)), (T.sc (.int .i64 s3)), (T.sc (.complex .f64 s4.1 s4.2))])] ≤ 1073741824) && sized 4 [(T.agg [(T.sc (.int .i64 4)), (T.sc (.string s2)), (T.sc (.int .i64 s3)), (T.sc (.complex .f64 s4.1 s4.2))])])) (Option.bind (m_slices_Clip___lex_Token_lex_Token_ n (s0 ++ [(T.agg [(T.sc (.int .i64 4)), (T.sc (.string s2)), (T.sc (.int .i64 s3)), (T.sc (.complex .f64 s4.1 s4.2))])])) fun r3 =>
some (r3, (0, 0), 0, 4, s2, s3, s4))
def j_lex_Tokens_0_B2 (n : Nat) (k : (((List T) × Int × ByteArray × Int × (Nat × Nat)) ⊕ ((ByteArray × (List T) × Int × Int × ByteArray × Int × (Nat × Nat)) ⊕ ((ByteArray × (List T) × Int × Int × ByteArray × Int × (Nat × Nat)) ⊕ ((ByteArray × (List T) × Int × Int × ByteArray × Int × (Nat × Nat)) ⊕ ((Int × ByteArray × Int × (Nat × Nat)) ⊕ ((ByteArray × (List T) × Int × Int × Int × ByteArray × Int × (Nat × Nat)) ⊕ ByteArray × (List T) × Int × Int × ByteArray × Int × (Nat × Nat))))))) → Option ((List T) × (Nat × Nat) × Int × Int × ByteArray × Int × (Nat × Nat))) : ByteArray × (List T) × Int × Int × ByteArray × Int × (Nat × Nat) → Option ((List T) × (Nat × Nat) × Int × Int × ByteArray × Int × (Nat × Nat)) := fun (s0, s1, s2, s3, s4, s5, s6) =>
must true (decide (0 ≤ s2) && decide (s2 ≤ ((ByteArray.size s0 : Nat) : Int)) && decide (((ByteArray.size s0 : Nat) : Int) ≤ ((ByteArray.size s0 : Nat) : Int))) (Option.bind (m_lex_run_v2 n (ByteArray.extract s0 (Int.toNat s2) (Int.toNat ((ByteArray.size s0 : Nat) : Int)))) fun r4 =>
k (Sum.inr (Sum.inr (Sum.inr (Sum.inr (Sum.inr (Sum.inr (s0, s1, (IntKind.wrap .i64 (s2 + r4)), s3, s4, s5, s6))))))))
def j_lex_Tokens_0_B3 (n : Nat) (k : (((List T) × Int × ByteArray × Int × (Nat × Nat)) ⊕ ((ByteArray × (List T) × Int × Int × ByteArray × Int × (Nat × Nat)) ⊕ ((ByteArray × (List T) × Int × Int × ByteArray × Int × (Nat × Nat)) ⊕ ((ByteArray × (List T) × Int × Int × ByteArray × Int × (Nat × Nat)) ⊕ ((Int × ByteArray × Int × (Nat × Nat)) ⊕ ((ByteArray × (List T) × Int × Int × Int × ByteArray × Int × (Nat × Nat)) ⊕ ByteArray × (List T) × Int × Int × ByteArray × Int × (Nat × Nat))))))) → Option ((List T) × (Nat × Nat) × Int × Int × ByteArray × Int × (Nat × Nat))) : ByteArray × (List T) × Int × Int × ByteArray × Int × (Nat × Nat) → Option ((List T) × (Nat × Nat) × Int × Int × ByteArray × Int × (Nat × Nat)) := fun (s0, s1, s2, s3, s4, s5, s6) =>
must true (decide (0 ≤ s2) && decide (s2 ≤ ((ByteArray.size s0 : Nat) : Int)) && decide (((ByteArray.size s0 : Nat) : Int) ≤ ((ByteArray.size s0 : Nat) : Int))) (Option.bind (m_lex_word n (ByteArray.extract s0 (Int.toNat s2) (Int.toNat ((ByteArray.size s0 : Nat) : Int)))) fun r5 =>
k (Sum.inr (Sum.inr (Sum.inr (Sum.inr (Sum.inr (Sum.inl (s0, s1, s2, r5, 1, s4, s5, s6))))))))
def j_lex_Tokens_0_B4 (n : Nat) (k : (((List T) × Int × ByteArray × Int × (Nat × Nat)) ⊕ ((ByteArray × (List T) × Int × Int × ByteArray × Int × (Nat × Nat)) ⊕ ((ByteArray × (List T) × Int × Int × ByteArray × Int × (Nat × Nat)) ⊕ ((ByteArray × (List T) × Int × Int × ByteArray × Int × (Nat × Nat)) ⊕ ((Int × ByteArray × Int × (Nat × Nat)) ⊕ ((ByteArray × (List T) × Int × Int × Int × ByteArray × Int × (Nat × Nat)) ⊕ ByteArray × (List T) × Int × Int × ByteArray × Int × (Nat × Nat))))))) → Option ((List T) × (Nat × Nat) × Int × Int × ByteArray × Int × (Nat × Nat))) : ByteArray × (List T) × Int × Int × ByteArray × Int × (Nat × Nat) → Option ((List T) × (Nat × Nat) × Int × Int × ByteArray × Int × (Nat × Nat)) := fun (s0, s1, s2, s3, s4, s5, s6) =>
must true (decide (0 ≤ s2) && decide (s2 ≤ ((ByteArray.size s0 : Nat) : Int)) && decide (((ByteArray.size s0 : Nat) : Int) ≤ ((ByteArray.size s0 : Nat) : Int))) (Option.bind (m_lex_run_v4 n (ByteArray.extract s0 (Int.toNat s2) (Int.toNat ((ByteArray.size s0 : Nat) : Int)))) fun r6 =>
must true (decide (0 ≤ s2) && decide (s2 ≤ (IntKind.wrap .i64 (s2 + r6))) && decide ((IntKind.wrap .i64 (s2 + r6)) ≤ ((ByteArray.size s0 : Nat) : Int))) (Option.bind (m_strconv_Atoi n (ByteArray.extract s0 (Int.toNat s2) (Int.toNat (IntKind.wrap .i64 (s2 + r6))))) fun r7 =>
Option.bind (m_strconv_Itoa n r7) fun r8 =>
must true (decide (0 ≤ s2) && decide (s2 ≤ (IntKind.wrap .i64 (s2 + r6))) && decide ((IntKind.wrap .i64 (s2 + r6)) ≤ ((ByteArray.size s0 : Nat) : Int))) (bif (!(ByteArray.toList r8 == ByteArray.toList (ByteArray.extract s0 (Int.toNat s2) (Int.toNat (IntKind.wrap .i64 (s2 + r6)))))) then (
k (Sum.inr (Sum.inr (Sum.inr (Sum.inr (Sum.inl (2, s4, r7, s6)))))))
else (
bif ((r6 : Int) == 0) then (
k (Sum.inr (Sum.inr (Sum.inr (Sum.inr (Sum.inl (2, s4, r7, s6)))))))
else (
must true (decide (0 ≤ s2) && decide (s2 ≤ (IntKind.wrap .i64 (s2 + r6))) && decide ((IntKind.wrap .i64 (s2 + r6)) ≤ ((ByteArray.size s0 : Nat) : Int))) (must true ((Nat.beq 4 4 || Nat.beq 4 0) && (decide (List.length s1 + List.length [(T.agg [(T.sc (.int .i64 2)), (T.sc (.string (ByteArray.extract s0 (Int.toNat s2) (Int.toNat (IntKind.wrap .i64 (s2 + r6)))))), (T.sc (.int .i64 r7)), (T.sc (.complex .f64 s6.1 s6.2))])] ≤ 1073741824) && sized 4 [(T.agg [(T.sc (.int .i64 2)), (T.sc (.string (ByteArray.extract s0 (Int.toNat s2) (Int.toNat (IntKind.wrap .i64 (s2 + r6)))))), (T.sc (.int .i64 r7)), (T.sc (.complex .f64 s6.1 s6.2))])])) (k (Sum.inr (Sum.inr (Sum.inr (Sum.inr (Sum.inr (Sum.inr (s0, (s1 ++ [(T.agg [(T.sc (.int .i64 2)), (T.sc (.string (ByteArray.extract s0 (Int.toNat s2) (Int.toNat (IntKind.wrap .i64 (s2 + r6)))))), (T.sc (.int .i64 r7)), (T.sc (.complex .f64 s6.1 s6.2))])]), (IntKind.wrap .i64 (s2 + r6)), 2, (ByteArray.extract s0 (Int.toNat s2) (Int.toNat (IntKind.wrap .i64 (s2 + r6)))), r7, s6))))))))))))))
def j_lex_Tokens_0_B5 (n : Nat) (k : (((List T) × Int × ByteArray × Int × (Nat × Nat)) ⊕ ((ByteArray × (List T) × Int × Int × ByteArray × Int × (Nat × Nat)) ⊕ ((ByteArray × (List T) × Int × Int × ByteArray × Int × (Nat × Nat)) ⊕ ((ByteArray × (List T) × Int × Int × ByteArray × Int × (Nat × Nat)) ⊕ ((Int × ByteArray × Int × (Nat × Nat)) ⊕ ((ByteArray × (List T) × Int × Int × Int × ByteArray × Int × (Nat × Nat)) ⊕ ByteArray × (List T) × Int × Int × ByteArray × Int × (Nat × Nat))))))) → Option ((List T) × (Nat × Nat) × Int × Int × ByteArray × Int × (Nat × Nat))) : Int × ByteArray × Int × (Nat × Nat) → Option ((List T) × (Nat × Nat) × Int × Int × ByteArray × Int × (Nat × Nat)) := fun (s0, s1, s2, s3) =>
some (([] : List T), s3, 2, s0, s1, s2, s3)
def j_lex_Tokens_0_B6 (n : Nat) (k : (((List T) × Int × ByteArray × Int × (Nat × Nat)) ⊕ ((ByteArray × (List T) × Int × Int × ByteArray × Int × (Nat × Nat)) ⊕ ((ByteArray × (List T) × Int × Int × ByteArray × Int × (Nat × Nat)) ⊕ ((ByteArray × (List T) × Int × Int × ByteArray × Int × (Nat × Nat)) ⊕ ((Int × ByteArray × Int × (Nat × Nat)) ⊕ ((ByteArray × (List T) × Int × Int × Int × ByteArray × Int × (Nat × Nat)) ⊕ ByteArray × (List T) × Int × Int × ByteArray × Int × (Nat × Nat))))))) → Option ((List T) × (Nat × Nat) × Int × Int × ByteArray × Int × (Nat × Nat))) : ByteArray × (List T) × Int × Int × Int × ByteArray × Int × (Nat × Nat) → Option ((List T) × (Nat × Nat) × Int × Int × ByteArray × Int × (Nat × Nat)) := fun (s0, s1, s2, s3, s4, s5, s6, s7) =>
bif ((s3 : Int) == 0) then (
k (Sum.inr (Sum.inr (Sum.inr (Sum.inr (Sum.inl (s4, s5, s6, s7)))))))
else (
must true (decide (0 ≤ s2) && decide (s2 ≤ (IntKind.wrap .i64 (s2 + s3))) && decide ((IntKind.wrap .i64 (s2 + s3)) ≤ ((ByteArray.size s0 : Nat) : Int))) (must true ((Nat.beq 4 4 || Nat.beq 4 0) && (decide (List.length s1 + List.length [(T.agg [(T.sc (.int .i64 s4)), (T.sc (.string (ByteArray.extract s0 (Int.toNat s2) (Int.toNat (IntKind.wrap .i64 (s2 + s3)))))), (T.sc (.int .i64 s6)), (T.sc (.complex .f64 s7.1 s7.2))])] ≤ 1073741824) && sized 4 [(T.agg [(T.sc (.int .i64 s4)), (T.sc (.string (ByteArray.extract s0 (Int.toNat s2) (Int.toNat (IntKind.wrap .i64 (s2 + s3)))))), (T.sc (.int .i64 s6)), (T.sc (.complex .f64 s7.1 s7.2))])])) (k (Sum.inr (Sum.inr (Sum.inr (Sum.inr (Sum.inr (Sum.inr (s0, (s1 ++ [(T.agg [(T.sc (.int .i64 s4)), (T.sc (.string (ByteArray.extract s0 (Int.toNat s2) (Int.toNat (IntKind.wrap .i64 (s2 + s3)))))), (T.sc (.int .i64 s6)), (T.sc (.complex .f64 s7.1 s7.2))])]), (IntKind.wrap .i64 (s2 + s3)), s4, (ByteArray.extract s0 (Int.toNat s2) (Int.toNat (IntKind.wrap .i64 (s2 + s3)))), s6, s7))))))))))
def j_lex_Tokens_0_B0 (n : Nat) (k : (((List T) × Int × ByteArray × Int × (Nat × Nat)) ⊕ ((ByteArray × (List T) × Int × Int × ByteArray × Int × (Nat × Nat)) ⊕ ((ByteArray × (List T) × Int × Int × ByteArray × Int × (Nat × Nat)) ⊕ ((ByteArray × (List T) × Int × Int × ByteArray × Int × (Nat × Nat)) ⊕ ((Int × ByteArray × Int × (Nat × Nat)) ⊕ ((ByteArray × (List T) × Int × Int × Int × ByteArray × Int × (Nat × Nat)) ⊕ ByteArray × (List T) × Int × Int × ByteArray × Int × (Nat × Nat))))))) → Option ((List T) × (Nat × Nat) × Int × Int × ByteArray × Int × (Nat × Nat))) : ByteArray × (List T) × Int × Int × ByteArray × Int × (Nat × Nat) → Option ((List T) × (Nat × Nat) × Int × Int × ByteArray × Int × (Nat × Nat)) := fun (s0, s1, s2, s3, s4, s5, s6) =>
must true (decide (0 ≤ s2) && decide (s2 ≤ ((ByteArray.size s0 : Nat) : Int)) && decide (((ByteArray.size s0 : Nat) : Int) ≤ ((ByteArray.size s0 : Nat) : Int))) (Option.bind (m_lex_run n (ByteArray.extract s0 (Int.toNat s2) (Int.toNat ((ByteArray.size s0 : Nat) : Int)))) fun r9 =>
Option.bind (m_place_Of n s0 (IntKind.wrap .i64 (s2 + r9))) fun r10 =>
bif (((IntKind.wrap .i64 (s2 + r9)) : Int) == ((ByteArray.size s0 : Nat) : Int)) then (
k (Sum.inl (s1, 0, (⟨#[]⟩ : ByteArray), 0, r10)))
else (
Option.bind (bidx true s0 (IntKind.wrap .i64 (s2 + r9))) fun b11 =>
bif ((((UInt8.toNat b11 : Nat) : Int) : Int) == 35) then (
k (Sum.inr (Sum.inl (s0, s1, (IntKind.wrap .i64 (s2 + r9)), 0, (⟨#[]⟩ : ByteArray), 0, r10))))
else (
Option.bind (bidx true s0 (IntKind.wrap .i64 (s2 + r9))) fun b12 =>
Option.bind (m_lex_letter n ((UInt8.toNat b12 : Nat) : Int)) fun r13 =>
bif r13 then (
k (Sum.inr (Sum.inr (Sum.inl (s0, s1, (IntKind.wrap .i64 (s2 + r9)), 0, (⟨#[]⟩ : ByteArray), 0, r10)))))
else (
Option.bind (bidx true s0 (IntKind.wrap .i64 (s2 + r9))) fun b14 =>
Option.bind (m_lex_digit n ((UInt8.toNat b14 : Nat) : Int)) fun r15 =>
bif r15 then (
k (Sum.inr (Sum.inr (Sum.inr (Sum.inl (s0, s1, (IntKind.wrap .i64 (s2 + r9)), 0, (⟨#[]⟩ : ByteArray), 0, r10))))))
else (
must true (decide (0 ≤ (IntKind.wrap .i64 (s2 + r9))) && decide ((IntKind.wrap .i64 (s2 + r9)) ≤ ((ByteArray.size s0 : Nat) : Int)) && decide (((ByteArray.size s0 : Nat) : Int) ≤ ((ByteArray.size s0 : Nat) : Int))) (Option.bind (m_strings_HasPrefix n (ByteArray.extract s0 (Int.toNat (IntKind.wrap .i64 (s2 + r9))) (Int.toNat ((ByteArray.size s0 : Nat) : Int))) (⟨#[61, 61]⟩ : ByteArray)) fun r16 =>
bif r16 then (
Option.bind (bidx true s0 (IntKind.wrap .i64 (s2 + r9))) fun b17 =>
Option.bind (m_strings_IndexByte n (⟨#[61, 60, 43, 45, 42, 47, 37, 40, 41, 123, 125]⟩ : ByteArray) ((UInt8.toNat b17 : Nat) : Int)) fun r18 =>
bif (decide ((r18 : Int) < 0)) then (
k (Sum.inr (Sum.inr (Sum.inr (Sum.inr (Sum.inl (0, (⟨#[]⟩ : ByteArray), 0, r10)))))))
else (
k (Sum.inr (Sum.inr (Sum.inr (Sum.inr (Sum.inr (Sum.inl (s0, s1, (IntKind.wrap .i64 (s2 + r9)), 2, 3, (⟨#[]⟩ : ByteArray), 0, r10)))))))))
else (
Option.bind (bidx true s0 (IntKind.wrap .i64 (s2 + r9))) fun b19 =>
Option.bind (m_strings_IndexByte n (⟨#[61, 60, 43, 45, 42, 47, 37, 40, 41, 123, 125]⟩ : ByteArray) ((UInt8.toNat b19 : Nat) : Int)) fun r20 =>
bif (decide ((r20 : Int) < 0)) then (
k (Sum.inr (Sum.inr (Sum.inr (Sum.inr (Sum.inl (0, (⟨#[]⟩ : ByteArray), 0, r10)))))))
else (
k (Sum.inr (Sum.inr (Sum.inr (Sum.inr (Sum.inr (Sum.inl (s0, s1, (IntKind.wrap .i64 (s2 + r9)), 1, 3, (⟨#[]⟩ : ByteArray), 0, r10)))))))))))))))
def j_lex_Tokens_0 (n : Nat) : Nat → (((List T) × Int × ByteArray × Int × (Nat × Nat)) ⊕ ((ByteArray × (List T) × Int × Int × ByteArray × Int × (Nat × Nat)) ⊕ ((ByteArray × (List T) × Int × Int × ByteArray × Int × (Nat × Nat)) ⊕ ((ByteArray × (List T) × Int × Int × ByteArray × Int × (Nat × Nat)) ⊕ ((Int × ByteArray × Int × (Nat × Nat)) ⊕ ((ByteArray × (List T) × Int × Int × Int × ByteArray × Int × (Nat × Nat)) ⊕ ByteArray × (List T) × Int × Int × ByteArray × Int × (Nat × Nat))))))) → Option ((List T) × (Nat × Nat) × Int × Int × ByteArray × Int × (Nat × Nat))
  | 0, _ => none
  | m + 1, s => Sum.elim (fun p1 => j_lex_Tokens_0_B1 n (j_lex_Tokens_0 n m) p1) (fun s' => Sum.elim (fun p2 => j_lex_Tokens_0_B2 n (j_lex_Tokens_0 n m) p2) (fun s'' => Sum.elim (fun p3 => j_lex_Tokens_0_B3 n (j_lex_Tokens_0 n m) p3) (fun s''' => Sum.elim (fun p4 => j_lex_Tokens_0_B4 n (j_lex_Tokens_0 n m) p4) (fun s'''' => Sum.elim (fun p5 => j_lex_Tokens_0_B5 n (j_lex_Tokens_0 n m) p5) (fun s''''' => Sum.elim (fun p6 => j_lex_Tokens_0_B6 n (j_lex_Tokens_0 n m) p6) (fun s'''''' => (fun p0 => j_lex_Tokens_0_B0 n (j_lex_Tokens_0 n m) p0) s'''''') s''''') s'''') s''') s'') s') s
def m_lex_Tokens (n : Nat) (a0 : ByteArray) : Option ((List T) × (Nat × Nat) × Int) :=
bif (decide ((((ByteArray.size a0 : Nat) : Int) : Int) > 6000)) then (
Option.bind (m_place_Of n a0 6000) fun r0 =>
some (([] : List T), r0, 2))
else (
must true (decide (0 ≤ 0) && decide (0 ≤ ((ByteArray.size a0 : Nat) : Int)) && decide (((ByteArray.size a0 : Nat) : Int) ≤ ((ByteArray.size a0 : Nat) : Int))) (Option.bind (m_lex_run n (ByteArray.extract a0 (Int.toNat 0) (Int.toNat ((ByteArray.size a0 : Nat) : Int)))) fun r1 =>
Option.bind (m_place_Of n a0 (IntKind.wrap .i64 (0 + r1))) fun r2 =>
bif (((IntKind.wrap .i64 (0 + r1)) : Int) == ((ByteArray.size a0 : Nat) : Int)) then (
Option.bind (j_lex_Tokens_0 n n (Sum.inl (([] : List T), 0, (⟨#[]⟩ : ByteArray), 0, r2))) fun p22 =>
some (p22.1, p22.2.1, p22.2.2.1))
else (
Option.bind (bidx true a0 (IntKind.wrap .i64 (0 + r1))) fun b23 =>
bif ((((UInt8.toNat b23 : Nat) : Int) : Int) == 35) then (
Option.bind (j_lex_Tokens_0 n n (Sum.inr (Sum.inl (a0, ([] : List T), (IntKind.wrap .i64 (0 + r1)), 0, (⟨#[]⟩ : ByteArray), 0, r2)))) fun p25 =>
some (p25.1, p25.2.1, p25.2.2.1))
else (
Option.bind (bidx true a0 (IntKind.wrap .i64 (0 + r1))) fun b26 =>
Option.bind (m_lex_letter n ((UInt8.toNat b26 : Nat) : Int)) fun r27 =>
bif r27 then (
Option.bind (j_lex_Tokens_0 n n (Sum.inr (Sum.inr (Sum.inl (a0, ([] : List T), (IntKind.wrap .i64 (0 + r1)), 0, (⟨#[]⟩ : ByteArray), 0, r2))))) fun p29 =>
some (p29.1, p29.2.1, p29.2.2.1))
else (
Option.bind (bidx true a0 (IntKind.wrap .i64 (0 + r1))) fun b30 =>
Option.bind (m_lex_digit n ((UInt8.toNat b30 : Nat) : Int)) fun r31 =>
bif r31 then (
Option.bind (j_lex_Tokens_0 n n (Sum.inr (Sum.inr (Sum.inr (Sum.inl (a0, ([] : List T), (IntKind.wrap .i64 (0 + r1)), 0, (⟨#[]⟩ : ByteArray), 0, r2)))))) fun p33 =>
some (p33.1, p33.2.1, p33.2.2.1))
else (
must true (decide (0 ≤ (IntKind.wrap .i64 (0 + r1))) && decide ((IntKind.wrap .i64 (0 + r1)) ≤ ((ByteArray.size a0 : Nat) : Int)) && decide (((ByteArray.size a0 : Nat) : Int) ≤ ((ByteArray.size a0 : Nat) : Int))) (Option.bind (m_strings_HasPrefix n (ByteArray.extract a0 (Int.toNat (IntKind.wrap .i64 (0 + r1))) (Int.toNat ((ByteArray.size a0 : Nat) : Int))) (⟨#[61, 61]⟩ : ByteArray)) fun r34 =>
bif r34 then (
Option.bind (bidx true a0 (IntKind.wrap .i64 (0 + r1))) fun b35 =>
Option.bind (m_strings_IndexByte n (⟨#[61, 60, 43, 45, 42, 47, 37, 40, 41, 123, 125]⟩ : ByteArray) ((UInt8.toNat b35 : Nat) : Int)) fun r36 =>
bif (decide ((r36 : Int) < 0)) then (
Option.bind (j_lex_Tokens_0 n n (Sum.inr (Sum.inr (Sum.inr (Sum.inr (Sum.inl (0, (⟨#[]⟩ : ByteArray), 0, r2))))))) fun p38 =>
some (p38.1, p38.2.1, p38.2.2.1))
else (
Option.bind (j_lex_Tokens_0 n n (Sum.inr (Sum.inr (Sum.inr (Sum.inr (Sum.inr (Sum.inl (a0, ([] : List T), (IntKind.wrap .i64 (0 + r1)), 2, 3, (⟨#[]⟩ : ByteArray), 0, r2)))))))) fun p40 =>
some (p40.1, p40.2.1, p40.2.2.1)))
else (
Option.bind (bidx true a0 (IntKind.wrap .i64 (0 + r1))) fun b41 =>
Option.bind (m_strings_IndexByte n (⟨#[61, 60, 43, 45, 42, 47, 37, 40, 41, 123, 125]⟩ : ByteArray) ((UInt8.toNat b41 : Nat) : Int)) fun r42 =>
bif (decide ((r42 : Int) < 0)) then (
Option.bind (j_lex_Tokens_0 n n (Sum.inr (Sum.inr (Sum.inr (Sum.inr (Sum.inl (0, (⟨#[]⟩ : ByteArray), 0, r2))))))) fun p44 =>
some (p44.1, p44.2.1, p44.2.2.1))
else (
Option.bind (j_lex_Tokens_0 n n (Sum.inr (Sum.inr (Sum.inr (Sum.inr (Sum.inr (Sum.inl (a0, ([] : List T), (IntKind.wrap .i64 (0 + r1)), 1, 3, (⟨#[]⟩ : ByteArray), 0, r2)))))))) fun p46 =>
some (p46.1, p46.2.1, p46.2.2.1))))))))))
def enc_lex_Tokens (r : (List T) × (Nat × Nat) × Int) : V := (V.tup [(V.t (T.list r.1)), (V.t (T.sc (.complex .f64 r.2.1.1 r.2.1.2))), (V.t (T.sc (.int .i64 r.2.2)))])
def encS_lex_Tokens (r : (List T) × (Nat × Nat) × Int) : Sig := []
def ok_lex_Tokens (m : ByteArray → Option ((List T) × (Nat × Nat) × Int)) : Prop := ∀ (a0 : ByteArray) (r : (List T) × (Nat × Nat) × Int), m a0 = some r → FuncOk Tryd.prog 24 [(V.t (T.sc (.string a0)))] [] (enc_lex_Tokens r) (encS_lex_Tokens r)
def c_lex_Tokens (m : ByteArray → Option ((List T) × (Nat × Nat) × Int)) (vs : List V) (sg : Sig) : Option CallM := bif Nat.beq vs.length 1 && Nat.beq sg.length 0 then Option.bind (V.strOf (vs.getD 0 .any)) fun u0 => some { α := (List T) × (Nat × Nat) × Int, m := m u0, dflt := ([], (0, 0), 0), enc := fun y => ((V.tup [(V.t (T.list y.1)), (V.t (T.sc (.complex .f64 y.2.1.1 y.2.1.2))), (V.t (T.sc (.int .i64 y.2.2)))]), []) } else none
theorem c_lex_Tokens_ok (m : ByteArray → Option ((List T) × (Nat × Nat) × Int)) (hm : ok_lex_Tokens m) (vs : List V) (sg : Sig) (cm : CallM) (x : cm.α) (h : c_lex_Tokens m vs sg = some cm) (hx : cm.m = some x) : FuncOk Tryd.prog 24 vs sg (cm.enc x).1 (cm.enc x).2 := by
  unfold c_lex_Tokens at h
  have h0 := callee_sig h
  clear h
  obtain ⟨hl, hs, h⟩ := h0
  obtain ⟨u0, hu0, h⟩ := Option.bind_eq_some_iff.1 h
  simp only [Option.some.injEq] at h
  subst h
  exact (hm u0 x hx).wk (args_wk hl (.cons (strOf_wk hu0) .nil)) (wkSg_of hs .nil)
noncomputable def code_lex_Tokens : Code := Tryd.f24.body.getD .skip
def j_lex_Tokens_0_S1 (n : Nat) (R : Type) (E : SEnv) (sg : Sig) (K : Ex → SEnv → Sig → Option R) : Option R := Option.bind (V.ownOf 4 (SEnv.at E 5)) fun u0 => Option.bind (V.ptrOf 0 0 (SEnv.at E 6)) fun u1 => Option.bind (cellsN 4 sg 0) fun u2 => Option.bind (V.intOf .i64 (u2.getD 0 .any)) fun u3 => Option.bind (V.strOf (u2.getD 1 .any)) fun u4 => Option.bind (V.intOf .i64 (u2.getD 2 .any)) fun u5 => Option.bind (V.cplxOf .f64 (u2.getD 3 .any)) fun u6 => Option.bind (j_lex_Tokens_0 n n (Sum.inl (u0, u3, u4, u5, u6))) fun p0 => K .ret [(2, (V.own 4 p0.1)), (3, (V.t (T.sc (.complex .f64 p0.2.1.1 p0.2.1.2)))), (4, (V.t (T.sc (.int .i64 p0.2.2.1))))] [some [(V.t (T.sc (.int .i64 p0.2.2.2.1))), (V.t (T.sc (.string p0.2.2.2.2.1))), (V.t (T.sc (.int .i64 p0.2.2.2.2.2.1))), (V.t (T.sc (.complex .f64 p0.2.2.2.2.2.2.1 p0.2.2.2.2.2.2.2)))]]
def j_lex_Tokens_0_S2 (n : Nat) (R : Type) (E : SEnv) (sg : Sig) (K : Ex → SEnv → Sig → Option R) : Option R := Option.bind (V.strOf (SEnv.at E 0)) fun u0 => Option.bind (V.ownOf 4 (SEnv.at E 5)) fun u1 => Option.bind (V.ptrOf 0 0 (SEnv.at E 6)) fun u2 => Option.bind (V.intOf .i64 (SEnv.at E 7)) fun u3 => Option.bind (cellsN 4 sg 0) fun u4 => Option.bind (V.intOf .i64 (u4.getD 0 .any)) fun u5 => Option.bind (V.strOf (u4.getD 1 .any)) fun u6 => Option.bind (V.intOf .i64 (u4.getD 2 .any)) fun u7 => Option.bind (V.cplxOf .f64 (u4.getD 3 .any)) fun u8 => Option.bind (j_lex_Tokens_0 n n (Sum.inr (Sum.inl (u0, u1, u3, u5, u6, u7, u8)))) fun p0 => K .ret [(2, (V.own 4 p0.1)), (3, (V.t (T.sc (.complex .f64 p0.2.1.1 p0.2.1.2)))), (4, (V.t (T.sc (.int .i64 p0.2.2.1))))] [some [(V.t (T.sc (.int .i64 p0.2.2.2.1))), (V.t (T.sc (.string p0.2.2.2.2.1))), (V.t (T.sc (.int .i64 p0.2.2.2.2.2.1))), (V.t (T.sc (.complex .f64 p0.2.2.2.2.2.2.1 p0.2.2.2.2.2.2.2)))]]
def j_lex_Tokens_0_S3 (n : Nat) (R : Type) (E : SEnv) (sg : Sig) (K : Ex → SEnv → Sig → Option R) : Option R := Option.bind (V.strOf (SEnv.at E 0)) fun u0 => Option.bind (V.ownOf 4 (SEnv.at E 5)) fun u1 => Option.bind (V.ptrOf 0 0 (SEnv.at E 6)) fun u2 => Option.bind (V.intOf .i64 (SEnv.at E 7)) fun u3 => Option.bind (cellsN 4 sg 0) fun u4 => Option.bind (V.intOf .i64 (u4.getD 0 .any)) fun u5 => Option.bind (V.strOf (u4.getD 1 .any)) fun u6 => Option.bind (V.intOf .i64 (u4.getD 2 .any)) fun u7 => Option.bind (V.cplxOf .f64 (u4.getD 3 .any)) fun u8 => Option.bind (j_lex_Tokens_0 n n (Sum.inr (Sum.inr (Sum.inl (u0, u1, u3, u5, u6, u7, u8))))) fun p0 => K .ret [(2, (V.own 4 p0.1)), (3, (V.t (T.sc (.complex .f64 p0.2.1.1 p0.2.1.2)))), (4, (V.t (T.sc (.int .i64 p0.2.2.1))))] [some [(V.t (T.sc (.int .i64 p0.2.2.2.1))), (V.t (T.sc (.string p0.2.2.2.2.1))), (V.t (T.sc (.int .i64 p0.2.2.2.2.2.1))), (V.t (T.sc (.complex .f64 p0.2.2.2.2.2.2.1 p0.2.2.2.2.2.2.2)))]]
def j_lex_Tokens_0_S4 (n : Nat) (R : Type) (E : SEnv) (sg : Sig) (K : Ex → SEnv → Sig → Option R) : Option R := Option.bind (V.strOf (SEnv.at E 0)) fun u0 => Option.bind (V.ownOf 4 (SEnv.at E 5)) fun u1 => Option.bind (V.ptrOf 0 0 (SEnv.at E 6)) fun u2 => Option.bind (V.intOf .i64 (SEnv.at E 7)) fun u3 => Option.bind (cellsN 4 sg 0) fun u4 => Option.bind (V.intOf .i64 (u4.getD 0 .any)) fun u5 => Option.bind (V.strOf (u4.getD 1 .any)) fun u6 => Option.bind (V.intOf .i64 (u4.getD 2 .any)) fun u7 => Option.bind (V.cplxOf .f64 (u4.getD 3 .any)) fun u8 => Option.bind (j_lex_Tokens_0 n n (Sum.inr (Sum.inr (Sum.inr (Sum.inl (u0, u1, u3, u5, u6, u7, u8)))))) fun p0 => K .ret [(2, (V.own 4 p0.1)), (3, (V.t (T.sc (.complex .f64 p0.2.1.1 p0.2.1.2)))), (4, (V.t (T.sc (.int .i64 p0.2.2.1))))] [some [(V.t (T.sc (.int .i64 p0.2.2.2.1))), (V.t (T.sc (.string p0.2.2.2.2.1))), (V.t (T.sc (.int .i64 p0.2.2.2.2.2.1))), (V.t (T.sc (.complex .f64 p0.2.2.2.2.2.2.1 p0.2.2.2.2.2.2.2)))]]
def j_lex_Tokens_0_S5 (n : Nat) (R : Type) (E : SEnv) (sg : Sig) (K : Ex → SEnv → Sig → Option R) : Option R := Option.bind (V.ptrOf 0 0 (SEnv.at E 6)) fun u0 => Option.bind (cellsN 4 sg 0) fun u1 => Option.bind (V.intOf .i64 (u1.getD 0 .any)) fun u2 => Option.bind (V.strOf (u1.getD 1 .any)) fun u3 => Option.bind (V.intOf .i64 (u1.getD 2 .any)) fun u4 => Option.bind (V.cplxOf .f64 (u1.getD 3 .any)) fun u5 => Option.bind (j_lex_Tokens_0 n n (Sum.inr (Sum.inr (Sum.inr (Sum.inr (Sum.inl (u2, u3, u4, u5))))))) fun p0 => K .ret [(2, (V.own 4 p0.1)), (3, (V.t (T.sc (.complex .f64 p0.2.1.1 p0.2.1.2)))), (4, (V.t (T.sc (.int .i64 p0.2.2.1))))] [some [(V.t (T.sc (.int .i64 p0.2.2.2.1))), (V.t (T.sc (.string p0.2.2.2.2.1))), (V.t (T.sc (.int .i64 p0.2.2.2.2.2.1))), (V.t (T.sc (.complex .f64 p0.2.2.2.2.2.2.1 p0.2.2.2.2.2.2.2)))]]
def j_lex_Tokens_0_S6 (n : Nat) (R : Type) (E : SEnv) (sg : Sig) (K : Ex → SEnv → Sig → Option R) : Option R := Option.bind (V.strOf (SEnv.at E 0)) fun u0 => Option.bind (V.ownOf 4 (SEnv.at E 5)) fun u1 => Option.bind (V.ptrOf 0 0 (SEnv.at E 6)) fun u2 => Option.bind (V.intOf .i64 (SEnv.at E 7)) fun u3 => Option.bind (V.intOf .i64 (SEnv.at E 8)) fun u4 => Option.bind (cellsN 4 sg 0) fun u5 => Option.bind (V.intOf .i64 (u5.getD 0 .any)) fun u6 => Option.bind (V.strOf (u5.getD 1 .any)) fun u7 => Option.bind (V.intOf .i64 (u5.getD 2 .any)) fun u8 => Option.bind (V.cplxOf .f64 (u5.getD 3 .any)) fun u9 => Option.bind (j_lex_Tokens_0 n n (Sum.inr (Sum.inr (Sum.inr (Sum.inr (Sum.inr (Sum.inl (u0, u1, u3, u4, u6, u7, u8, u9)))))))) fun p0 => K .ret [(2, (V.own 4 p0.1)), (3, (V.t (T.sc (.complex .f64 p0.2.1.1 p0.2.1.2)))), (4, (V.t (T.sc (.int .i64 p0.2.2.1))))] [some [(V.t (T.sc (.int .i64 p0.2.2.2.1))), (V.t (T.sc (.string p0.2.2.2.2.1))), (V.t (T.sc (.int .i64 p0.2.2.2.2.2.1))), (V.t (T.sc (.complex .f64 p0.2.2.2.2.2.2.1 p0.2.2.2.2.2.2.2)))]]
def j_lex_Tokens_0_S0 (n : Nat) (R : Type) (E : SEnv) (sg : Sig) (K : Ex → SEnv → Sig → Option R) : Option R := Option.bind (V.strOf (SEnv.at E 0)) fun u0 => Option.bind (V.ownOf 4 (SEnv.at E 5)) fun u1 => Option.bind (V.ptrOf 0 0 (SEnv.at E 6)) fun u2 => Option.bind (V.intOf .i64 (SEnv.at E 7)) fun u3 => Option.bind (cellsN 4 sg 0) fun u4 => Option.bind (V.intOf .i64 (u4.getD 0 .any)) fun u5 => Option.bind (V.strOf (u4.getD 1 .any)) fun u6 => Option.bind (V.intOf .i64 (u4.getD 2 .any)) fun u7 => Option.bind (V.cplxOf .f64 (u4.getD 3 .any)) fun u8 => Option.bind (j_lex_Tokens_0 n n (Sum.inr (Sum.inr (Sum.inr (Sum.inr (Sum.inr (Sum.inr (u0, u1, u3, u5, u6, u7, u8)))))))) fun p0 => K .ret [(2, (V.own 4 p0.1)), (3, (V.t (T.sc (.complex .f64 p0.2.1.1 p0.2.1.2)))), (4, (V.t (T.sc (.int .i64 p0.2.2.1))))] [some [(V.t (T.sc (.int .i64 p0.2.2.2.1))), (V.t (T.sc (.string p0.2.2.2.2.1))), (V.t (T.sc (.int .i64 p0.2.2.2.2.2.1))), (V.t (T.sc (.complex .f64 p0.2.2.2.2.2.2.1 p0.2.2.2.2.2.2.2)))]]
noncomputable def sp_lex_Tokens (n : Nat) : Go.Eng.Spec := ⟨fun f vs sg => (match f with
    | 15 => c_place_Of (m_place_Of n) vs sg
    | 37 => orC (c_lex_run (m_lex_run n) vs sg) (orC (c_lex_run_v2 (m_lex_run_v2 n) vs sg) (c_lex_run_v4 (m_lex_run_v4 n) vs sg))
    | 46 => c_slices_Clip___lex_Token_lex_Token_ (m_slices_Clip___lex_Token_lex_Token_ n) vs sg
    | 44 => c_lex_word (m_lex_word n) vs sg
    | 45 => c_strconv_Atoi (m_strconv_Atoi n) vs sg
    | 35 => c_strconv_Itoa (m_strconv_Itoa n) vs sg
    | 39 => c_lex_letter (m_lex_letter n) vs sg
    | 40 => c_lex_digit (m_lex_digit n) vs sg
    | 41 => c_strings_HasPrefix (m_strings_HasPrefix n) vs sg
    | 42 => c_strings_IndexByte (m_strings_IndexByte n) vs sg
    | _ => none), fun R key E sg K => (match key with
    | 1000001 => j_lex_Tokens_0_S1 n R E sg K
    | 1000002 => j_lex_Tokens_0_S2 n R E sg K
    | 1000003 => j_lex_Tokens_0_S3 n R E sg K
    | 1000004 => j_lex_Tokens_0_S4 n R E sg K
    | 1000005 => j_lex_Tokens_0_S5 n R E sg K
    | 1000006 => j_lex_Tokens_0_S6 n R E sg K
    | 1000000 => j_lex_Tokens_0_S0 n R E sg K
    | _ => none)⟩
theorem sp_lex_Tokens_ok (n : Nat) : CallsOk Tryd.prog (sp_lex_Tokens n) := by
  intro f vs sg cm x h hx
  simp only [sp_lex_Tokens] at h
  split at h
  · exact c_place_Of_ok _ (m_place_Of_ok n) vs sg cm x h hx
  · exact (orC_some h).elim (fun h1 => c_lex_run_ok _ (m_lex_run_ok n) vs sg cm x h1 hx) (fun h2' => (orC_some h2').elim (fun h1 => c_lex_run_v2_ok _ (m_lex_run_v2_ok n) vs sg cm x h1 hx) (fun h1' => c_lex_run_v4_ok _ (m_lex_run_v4_ok n) vs sg cm x h1' hx))
  · exact c_slices_Clip___lex_Token_lex_Token__ok _ (m_slices_Clip___lex_Token_lex_Token__ok n) vs sg cm x h hx
  · exact c_lex_word_ok _ (m_lex_word_ok n) vs sg cm x h hx
  · exact c_strconv_Atoi_ok _ (m_strconv_Atoi_ok n) vs sg cm x h hx
  · exact c_strconv_Itoa_ok _ (m_strconv_Itoa_ok n) vs sg cm x h hx
  · exact c_lex_letter_ok _ (m_lex_letter_ok n) vs sg cm x h hx
  · exact c_lex_digit_ok _ (m_lex_digit_ok n) vs sg cm x h hx
  · exact c_strings_HasPrefix_ok _ (m_strings_HasPrefix_ok n) vs sg cm x h hx
  · exact c_strings_IndexByte_ok _ (m_strings_IndexByte_ok n) vs sg cm x h hx
  · cases h
theorem code_lex_Tokens_fn : Tryd.prog.funcs[24]? = some Tryd.f24 := Tryd.func24
theorem code_lex_Tokens_body : Tryd.f24.body = some code_lex_Tokens := by kernel_rfl
theorem code_lex_Tokens_ok : CodeOk Tryd.prog code_lex_Tokens := (sound 24 _ _ code_lex_Tokens_fn code_lex_Tokens_body).1
noncomputable def code_j_lex_Tokens_0 : Code := (scopesOf code_lex_Tokens).getD 0 .skip
theorem code_j_lex_Tokens_0_ok : CodeOk Tryd.prog code_j_lex_Tokens_0 := codeOk_scopes code_lex_Tokens_ok _ (getD_mem (by kernel_rfl))
def j_lex_Tokens_0_K (k : (((List T) × Int × ByteArray × Int × (Nat × Nat)) ⊕ ((ByteArray × (List T) × Int × Int × ByteArray × Int × (Nat × Nat)) ⊕ ((ByteArray × (List T) × Int × Int × ByteArray × Int × (Nat × Nat)) ⊕ ((ByteArray × (List T) × Int × Int × ByteArray × Int × (Nat × Nat)) ⊕ ((Int × ByteArray × Int × (Nat × Nat)) ⊕ ((ByteArray × (List T) × Int × Int × Int × ByteArray × Int × (Nat × Nat)) ⊕ ByteArray × (List T) × Int × Int × ByteArray × Int × (Nat × Nat))))))) → Option ((List T) × (Nat × Nat) × Int × Int × ByteArray × Int × (Nat × Nat))) : Ex → SEnv → Sig → Option ((List T) × (Nat × Nat) × Int × Int × ByteArray × Int × (Nat × Nat)) := fun x E sg => match x with
  | .goto 1 => Option.bind (V.ownOf 4 (SEnv.at E 5)) fun u0 => Option.bind (V.ptrOf 0 0 (SEnv.at E 6)) fun u1 => Option.bind (cellsN 4 sg 0) fun u2 => Option.bind (V.intOf .i64 (u2.getD 0 .any)) fun u3 => Option.bind (V.strOf (u2.getD 1 .any)) fun u4 => Option.bind (V.intOf .i64 (u2.getD 2 .any)) fun u5 => Option.bind (V.cplxOf .f64 (u2.getD 3 .any)) fun u6 => k (Sum.inl (u0, u3, u4, u5, u6))
  | .goto 2 => Option.bind (V.strOf (SEnv.at E 0)) fun u0 => Option.bind (V.ownOf 4 (SEnv.at E 5)) fun u1 => Option.bind (V.ptrOf 0 0 (SEnv.at E 6)) fun u2 => Option.bind (V.intOf .i64 (SEnv.at E 7)) fun u3 => Option.bind (cellsN 4 sg 0) fun u4 => Option.bind (V.intOf .i64 (u4.getD 0 .any)) fun u5 => Option.bind (V.strOf (u4.getD 1 .any)) fun u6 => Option.bind (V.intOf .i64 (u4.getD 2 .any)) fun u7 => Option.bind (V.cplxOf .f64 (u4.getD 3 .any)) fun u8 => k (Sum.inr (Sum.inl (u0, u1, u3, u5, u6, u7, u8)))
  | .goto 3 => Option.bind (V.strOf (SEnv.at E 0)) fun u0 => Option.bind (V.ownOf 4 (SEnv.at E 5)) fun u1 => Option.bind (V.ptrOf 0 0 (SEnv.at E 6)) fun u2 => Option.bind (V.intOf .i64 (SEnv.at E 7)) fun u3 => Option.bind (cellsN 4 sg 0) fun u4 => Option.bind (V.intOf .i64 (u4.getD 0 .any)) fun u5 => Option.bind (V.strOf (u4.getD 1 .any)) fun u6 => Option.bind (V.intOf .i64 (u4.getD 2 .any)) fun u7 => Option.bind (V.cplxOf .f64 (u4.getD 3 .any)) fun u8 => k (Sum.inr (Sum.inr (Sum.inl (u0, u1, u3, u5, u6, u7, u8))))
  | .goto 4 => Option.bind (V.strOf (SEnv.at E 0)) fun u0 => Option.bind (V.ownOf 4 (SEnv.at E 5)) fun u1 => Option.bind (V.ptrOf 0 0 (SEnv.at E 6)) fun u2 => Option.bind (V.intOf .i64 (SEnv.at E 7)) fun u3 => Option.bind (cellsN 4 sg 0) fun u4 => Option.bind (V.intOf .i64 (u4.getD 0 .any)) fun u5 => Option.bind (V.strOf (u4.getD 1 .any)) fun u6 => Option.bind (V.intOf .i64 (u4.getD 2 .any)) fun u7 => Option.bind (V.cplxOf .f64 (u4.getD 3 .any)) fun u8 => k (Sum.inr (Sum.inr (Sum.inr (Sum.inl (u0, u1, u3, u5, u6, u7, u8)))))
  | .goto 5 => Option.bind (V.ptrOf 0 0 (SEnv.at E 6)) fun u0 => Option.bind (cellsN 4 sg 0) fun u1 => Option.bind (V.intOf .i64 (u1.getD 0 .any)) fun u2 => Option.bind (V.strOf (u1.getD 1 .any)) fun u3 => Option.bind (V.intOf .i64 (u1.getD 2 .any)) fun u4 => Option.bind (V.cplxOf .f64 (u1.getD 3 .any)) fun u5 => k (Sum.inr (Sum.inr (Sum.inr (Sum.inr (Sum.inl (u2, u3, u4, u5))))))
  | .goto 6 => Option.bind (V.strOf (SEnv.at E 0)) fun u0 => Option.bind (V.ownOf 4 (SEnv.at E 5)) fun u1 => Option.bind (V.ptrOf 0 0 (SEnv.at E 6)) fun u2 => Option.bind (V.intOf .i64 (SEnv.at E 7)) fun u3 => Option.bind (V.intOf .i64 (SEnv.at E 8)) fun u4 => Option.bind (cellsN 4 sg 0) fun u5 => Option.bind (V.intOf .i64 (u5.getD 0 .any)) fun u6 => Option.bind (V.strOf (u5.getD 1 .any)) fun u7 => Option.bind (V.intOf .i64 (u5.getD 2 .any)) fun u8 => Option.bind (V.cplxOf .f64 (u5.getD 3 .any)) fun u9 => k (Sum.inr (Sum.inr (Sum.inr (Sum.inr (Sum.inr (Sum.inl (u0, u1, u3, u4, u6, u7, u8, u9)))))))
  | .goto 0 => Option.bind (V.strOf (SEnv.at E 0)) fun u0 => Option.bind (V.ownOf 4 (SEnv.at E 5)) fun u1 => Option.bind (V.ptrOf 0 0 (SEnv.at E 6)) fun u2 => Option.bind (V.intOf .i64 (SEnv.at E 7)) fun u3 => Option.bind (cellsN 4 sg 0) fun u4 => Option.bind (V.intOf .i64 (u4.getD 0 .any)) fun u5 => Option.bind (V.strOf (u4.getD 1 .any)) fun u6 => Option.bind (V.intOf .i64 (u4.getD 2 .any)) fun u7 => Option.bind (V.cplxOf .f64 (u4.getD 3 .any)) fun u8 => k (Sum.inr (Sum.inr (Sum.inr (Sum.inr (Sum.inr (Sum.inr (u0, u1, u3, u5, u6, u7, u8)))))))
  | .ret => Option.bind (V.ownOf 4 (SEnv.at E 2)) fun u0 => Option.bind (V.cplxOf .f64 (SEnv.at E 3)) fun u1 => Option.bind (V.intOf .i64 (SEnv.at E 4)) fun u2 => Option.bind (cellsN 4 sg 0) fun u3 => Option.bind (V.intOf .i64 (u3.getD 0 .any)) fun u4 => Option.bind (V.strOf (u3.getD 1 .any)) fun u5 => Option.bind (V.intOf .i64 (u3.getD 2 .any)) fun u6 => Option.bind (V.cplxOf .f64 (u3.getD 3 .any)) fun u7 => some (u0, u1, u2, u4, u5, u6, u7)
  | _ => none
noncomputable def code_j_lex_Tokens_0_1 : Code := (findLabel code_j_lex_Tokens_0 1).getD .skip
theorem code_j_lex_Tokens_0_1_find : findLabel code_j_lex_Tokens_0 1 = some code_j_lex_Tokens_0_1 := by kernel_rfl
theorem j_lex_Tokens_0_eq1 (n : Nat) (k : (((List T) × Int × ByteArray × Int × (Nat × Nat)) ⊕ ((ByteArray × (List T) × Int × Int × ByteArray × Int × (Nat × Nat)) ⊕ ((ByteArray × (List T) × Int × Int × ByteArray × Int × (Nat × Nat)) ⊕ ((ByteArray × (List T) × Int × Int × ByteArray × Int × (Nat × Nat)) ⊕ ((Int × ByteArray × Int × (Nat × Nat)) ⊕ ((ByteArray × (List T) × Int × Int × Int × ByteArray × Int × (Nat × Nat)) ⊕ ByteArray × (List T) × Int × Int × ByteArray × Int × (Nat × Nat))))))) → Option ((List T) × (Nat × Nat) × Int × Int × ByteArray × Int × (Nat × Nat))) (s0 : List T) (s1 : Int) (s2 : ByteArray) (s3 : Int) (s4 : Nat × Nat) : mX Tryd.prog (sp_lex_Tokens n) 116 code_j_lex_Tokens_0_1 [(5, (V.own 4 s0)), (6, (V.ptr 0 0))] [some [(V.t (T.sc (.int .i64 s1))), (V.t (T.sc (.string s2))), (V.t (T.sc (.int .i64 s3))), (V.t (T.sc (.complex .f64 s4.1 s4.2)))]] (j_lex_Tokens_0_K k) = j_lex_Tokens_0_B1 n k (s0, s1, s2, s3, s4) := by kernel_rfl
noncomputable def code_j_lex_Tokens_0_2 : Code := (findLabel code_j_lex_Tokens_0 2).getD .skip
theorem code_j_lex_Tokens_0_2_find : findLabel code_j_lex_Tokens_0 2 = some code_j_lex_Tokens_0_2 := by kernel_rfl
theorem j_lex_Tokens_0_eq2 (n : Nat) (k : (((List T) × Int × ByteArray × Int × (Nat × Nat)) ⊕ ((ByteArray × (List T) × Int × Int × ByteArray × Int × (Nat × Nat)) ⊕ ((ByteArray × (List T) × Int × Int × ByteArray × Int × (Nat × Nat)) ⊕ ((ByteArray × (List T) × Int × Int × ByteArray × Int × (Nat × Nat)) ⊕ ((Int × ByteArray × Int × (Nat × Nat)) ⊕ ((ByteArray × (List T) × Int × Int × Int × ByteArray × Int × (Nat × Nat)) ⊕ ByteArray × (List T) × Int × Int × ByteArray × Int × (Nat × Nat))))))) → Option ((List T) × (Nat × Nat) × Int × Int × ByteArray × Int × (Nat × Nat))) (s0 : ByteArray) (s1 : List T) (s2 : Int) (s3 : Int) (s4 : ByteArray) (s5 : Int) (s6 : Nat × Nat) : mX Tryd.prog (sp_lex_Tokens n) 116 code_j_lex_Tokens_0_2 [(0, (V.t (T.sc (.string s0)))), (5, (V.own 4 s1)), (6, (V.ptr 0 0)), (7, (V.t (T.sc (.int .i64 s2))))] [some [(V.t (T.sc (.int .i64 s3))), (V.t (T.sc (.string s4))), (V.t (T.sc (.int .i64 s5))), (V.t (T.sc (.complex .f64 s6.1 s6.2)))]] (j_lex_Tokens_0_K k) = j_lex_Tokens_0_B2 n k (s0, s1, s2, s3, s4, s5, s6) := by kernel_rfl
noncomputable def code_j_lex_Tokens_0_3 : Code := (findLabel code_j_lex_Tokens_0 3).getD .skip
theorem code_j_lex_Tokens_0_3_find : findLabel code_j_lex_Tokens_0 3 = some code_j_lex_Tokens_0_3 := by kernel_rfl
theorem j_lex_Tokens_0_eq3 (n : Nat) (k : (((List T) × Int × ByteArray × Int × (Nat × Nat)) ⊕ ((ByteArray × (List T) × Int × Int × ByteArray × Int × (Nat × Nat)) ⊕ ((ByteArray × (List T) × Int × Int × ByteArray × Int × (Nat × Nat)) ⊕ ((ByteArray × (List T) × Int × Int × ByteArray × Int × (Nat × Nat)) ⊕ ((Int × ByteArray × Int × (Nat × Nat)) ⊕ ((ByteArray × (List T) × Int × Int × Int × ByteArray × Int × (Nat × Nat)) ⊕ ByteArray × (List T) × Int × Int × ByteArray × Int × (Nat × Nat))))))) → Option ((List T) × (Nat × Nat) × Int × Int × ByteArray × Int × (Nat × Nat))) (s0 : ByteArray) (s1 : List T) (s2 : Int) (s3 : Int) (s4 : ByteArray) (s5 : Int) (s6 : Nat × Nat) : mX Tryd.prog (sp_lex_Tokens n) 116 code_j_lex_Tokens_0_3 [(0, (V.t (T.sc (.string s0)))), (5, (V.own 4 s1)), (6, (V.ptr 0 0)), (7, (V.t (T.sc (.int .i64 s2))))] [some [(V.t (T.sc (.int .i64 s3))), (V.t (T.sc (.string s4))), (V.t (T.sc (.int .i64 s5))), (V.t (T.sc (.complex .f64 s6.1 s6.2)))]] (j_lex_Tokens_0_K k) = j_lex_Tokens_0_B3 n k (s0, s1, s2, s3, s4, s5, s6) := by kernel_rfl
noncomputable def code_j_lex_Tokens_0_4 : Code := (findLabel code_j_lex_Tokens_0 4).getD .skip
theorem code_j_lex_Tokens_0_4_find : findLabel code_j_lex_Tokens_0 4 = some code_j_lex_Tokens_0_4 := by kernel_rfl
theorem j_lex_Tokens_0_eq4 (n : Nat) (k : (((List T) × Int × ByteArray × Int × (Nat × Nat)) ⊕ ((ByteArray × (List T) × Int × Int × ByteArray × Int × (Nat × Nat)) ⊕ ((ByteArray × (List T) × Int × Int × ByteArray × Int × (Nat × Nat)) ⊕ ((ByteArray × (List T) × Int × Int × ByteArray × Int × (Nat × Nat)) ⊕ ((Int × ByteArray × Int × (Nat × Nat)) ⊕ ((ByteArray × (List T) × Int × Int × Int × ByteArray × Int × (Nat × Nat)) ⊕ ByteArray × (List T) × Int × Int × ByteArray × Int × (Nat × Nat))))))) → Option ((List T) × (Nat × Nat) × Int × Int × ByteArray × Int × (Nat × Nat))) (s0 : ByteArray) (s1 : List T) (s2 : Int) (s3 : Int) (s4 : ByteArray) (s5 : Int) (s6 : Nat × Nat) : mX Tryd.prog (sp_lex_Tokens n) 116 code_j_lex_Tokens_0_4 [(0, (V.t (T.sc (.string s0)))), (5, (V.own 4 s1)), (6, (V.ptr 0 0)), (7, (V.t (T.sc (.int .i64 s2))))] [some [(V.t (T.sc (.int .i64 s3))), (V.t (T.sc (.string s4))), (V.t (T.sc (.int .i64 s5))), (V.t (T.sc (.complex .f64 s6.1 s6.2)))]] (j_lex_Tokens_0_K k) = j_lex_Tokens_0_B4 n k (s0, s1, s2, s3, s4, s5, s6) := by kernel_rfl
noncomputable def code_j_lex_Tokens_0_5 : Code := (findLabel code_j_lex_Tokens_0 5).getD .skip
theorem code_j_lex_Tokens_0_5_find : findLabel code_j_lex_Tokens_0 5 = some code_j_lex_Tokens_0_5 := by kernel_rfl
theorem j_lex_Tokens_0_eq5 (n : Nat) (k : (((List T) × Int × ByteArray × Int × (Nat × Nat)) ⊕ ((ByteArray × (List T) × Int × Int × ByteArray × Int × (Nat × Nat)) ⊕ ((ByteArray × (List T) × Int × Int × ByteArray × Int × (Nat × Nat)) ⊕ ((ByteArray × (List T) × Int × Int × ByteArray × Int × (Nat × Nat)) ⊕ ((Int × ByteArray × Int × (Nat × Nat)) ⊕ ((ByteArray × (List T) × Int × Int × Int × ByteArray × Int × (Nat × Nat)) ⊕ ByteArray × (List T) × Int × Int × ByteArray × Int × (Nat × Nat))))))) → Option ((List T) × (Nat × Nat) × Int × Int × ByteArray × Int × (Nat × Nat))) (s0 : Int) (s1 : ByteArray) (s2 : Int) (s3 : Nat × Nat) : mX Tryd.prog (sp_lex_Tokens n) 116 code_j_lex_Tokens_0_5 [(6, (V.ptr 0 0))] [some [(V.t (T.sc (.int .i64 s0))), (V.t (T.sc (.string s1))), (V.t (T.sc (.int .i64 s2))), (V.t (T.sc (.complex .f64 s3.1 s3.2)))]] (j_lex_Tokens_0_K k) = j_lex_Tokens_0_B5 n k (s0, s1, s2, s3) := by kernel_rfl
noncomputable def code_j_lex_Tokens_0_6 : Code := (findLabel code_j_lex_Tokens_0 6).getD .skip
theorem code_j_lex_Tokens_0_6_find : findLabel code_j_lex_Tokens_0 6 = some code_j_lex_Tokens_0_6 := by kernel_rfl
theorem j_lex_Tokens_0_eq6 (n : Nat) (k : (((List T) × Int × ByteArray × Int × (Nat × Nat)) ⊕ ((ByteArray × (List T) × Int × Int × ByteArray × Int × (Nat × Nat)) ⊕ ((ByteArray × (List T) × Int × Int × ByteArray × Int × (Nat × Nat)) ⊕ ((ByteArray × (List T) × Int × Int × ByteArray × Int × (Nat × Nat)) ⊕ ((Int × ByteArray × Int × (Nat × Nat)) ⊕ ((ByteArray × (List T) × Int × Int × Int × ByteArray × Int × (Nat × Nat)) ⊕ ByteArray × (List T) × Int × Int × ByteArray × Int × (Nat × Nat))))))) → Option ((List T) × (Nat × Nat) × Int × Int × ByteArray × Int × (Nat × Nat))) (s0 : ByteArray) (s1 : List T) (s2 : Int) (s3 : Int) (s4 : Int) (s5 : ByteArray) (s6 : Int) (s7 : Nat × Nat) : mX Tryd.prog (sp_lex_Tokens n) 116 code_j_lex_Tokens_0_6 [(0, (V.t (T.sc (.string s0)))), (5, (V.own 4 s1)), (6, (V.ptr 0 0)), (7, (V.t (T.sc (.int .i64 s2)))), (8, (V.t (T.sc (.int .i64 s3))))] [some [(V.t (T.sc (.int .i64 s4))), (V.t (T.sc (.string s5))), (V.t (T.sc (.int .i64 s6))), (V.t (T.sc (.complex .f64 s7.1 s7.2)))]] (j_lex_Tokens_0_K k) = j_lex_Tokens_0_B6 n k (s0, s1, s2, s3, s4, s5, s6, s7) := by kernel_rfl
noncomputable def code_j_lex_Tokens_0_0 : Code := (findLabel code_j_lex_Tokens_0 0).getD .skip
theorem code_j_lex_Tokens_0_0_find : findLabel code_j_lex_Tokens_0 0 = some code_j_lex_Tokens_0_0 := by kernel_rfl
theorem j_lex_Tokens_0_eq0 (n : Nat) (k : (((List T) × Int × ByteArray × Int × (Nat × Nat)) ⊕ ((ByteArray × (List T) × Int × Int × ByteArray × Int × (Nat × Nat)) ⊕ ((ByteArray × (List T) × Int × Int × ByteArray × Int × (Nat × Nat)) ⊕ ((ByteArray × (List T) × Int × Int × ByteArray × Int × (Nat × Nat)) ⊕ ((Int × ByteArray × Int × (Nat × Nat)) ⊕ ((ByteArray × (List T) × Int × Int × Int × ByteArray × Int × (Nat × Nat)) ⊕ ByteArray × (List T) × Int × Int × ByteArray × Int × (Nat × Nat))))))) → Option ((List T) × (Nat × Nat) × Int × Int × ByteArray × Int × (Nat × Nat))) (s0 : ByteArray) (s1 : List T) (s2 : Int) (s3 : Int) (s4 : ByteArray) (s5 : Int) (s6 : Nat × Nat) : mX Tryd.prog (sp_lex_Tokens n) 116 code_j_lex_Tokens_0_0 [(0, (V.t (T.sc (.string s0)))), (5, (V.own 4 s1)), (6, (V.ptr 0 0)), (7, (V.t (T.sc (.int .i64 s2))))] [some [(V.t (T.sc (.int .i64 s3))), (V.t (T.sc (.string s4))), (V.t (T.sc (.int .i64 s5))), (V.t (T.sc (.complex .f64 s6.1 s6.2)))]] (j_lex_Tokens_0_K k) = j_lex_Tokens_0_B0 n k (s0, s1, s2, s3, s4, s5, s6) := by kernel_rfl
def j_lex_Tokens_0_Q (x : (List T) × (Nat × Nat) × Int × Int × ByteArray × Int × (Nat × Nat)) (ex : Ex) (e : Env) (s : Sig) : Prop := (fun p0 => (ex = .ret ∧ e = SEnv.env 116 [(2, (V.own 4 p0.1)), (3, (V.t (T.sc (.complex .f64 p0.2.1.1 p0.2.1.2)))), (4, (V.t (T.sc (.int .i64 p0.2.2.1))))] ∧ s = [some [(V.t (T.sc (.int .i64 p0.2.2.2.1))), (V.t (T.sc (.string p0.2.2.2.2.1))), (V.t (T.sc (.int .i64 p0.2.2.2.2.2.1))), (V.t (T.sc (.complex .f64 p0.2.2.2.2.2.2.1 p0.2.2.2.2.2.2.2)))]])) x
theorem j_lex_Tokens_0_run (n : Nat) : ∀ (m : Nat), (∀ (s0 : List T) (s1 : Int) (s2 : ByteArray) (s3 : Int) (s4 : Nat × Nat) (x : (List T) × (Nat × Nat) × Int × Int × ByteArray × Int × (Nat × Nat)), j_lex_Tokens_0 n m (Sum.inl (s0, s1, s2, s3, s4)) = some x → SemC Tryd.prog 0 code_j_lex_Tokens_0 code_j_lex_Tokens_0_1 (SEnv.env 116 [(5, (V.own 4 s0)), (6, (V.ptr 0 0))]) [some [(V.t (T.sc (.int .i64 s1))), (V.t (T.sc (.string s2))), (V.t (T.sc (.int .i64 s3))), (V.t (T.sc (.complex .f64 s4.1 s4.2)))]] (j_lex_Tokens_0_Q x)) ∧ (∀ (s0 : ByteArray) (s1 : List T) (s2 : Int) (s3 : Int) (s4 : ByteArray) (s5 : Int) (s6 : Nat × Nat) (x : (List T) × (Nat × Nat) × Int × Int × ByteArray × Int × (Nat × Nat)), j_lex_Tokens_0 n m (Sum.inr (Sum.inl (s0, s1, s2, s3, s4, s5, s6))) = some x → SemC Tryd.prog 0 code_j_lex_Tokens_0 code_j_lex_Tokens_0_2 (SEnv.env 116 [(0, (V.t (T.sc (.string s0)))), (5, (V.own 4 s1)), (6, (V.ptr 0 0)), (7, (V.t (T.sc (.int .i64 s2))))]) [some [(V.t (T.sc (.int .i64 s3))), (V.t (T.sc (.string s4))), (V.t (T.sc (.int .i64 s5))), (V.t (T.sc (.complex .f64 s6.1 s6.2)))]] (j_lex_Tokens_0_Q x)) ∧ (∀ (s0 : ByteArray) (s1 : List T) (s2 : Int) (s3 : Int) (s4 : ByteArray) (s5 : Int) (s6 : Nat × Nat) (x : (List T) × (Nat × Nat) × Int × Int × ByteArray × Int × (Nat × Nat)), j_lex_Tokens_0 n m (Sum.inr (Sum.inr (Sum.inl (s0, s1, s2, s3, s4, s5, s6)))) = some x → SemC Tryd.prog 0 code_j_lex_Tokens_0 code_j_lex_Tokens_0_3 (SEnv.env 116 [(0, (V.t (T.sc (.string s0)))), (5, (V.own 4 s1)), (6, (V.ptr 0 0)), (7, (V.t (T.sc (.int .i64 s2))))]) [some [(V.t (T.sc (.int .i64 s3))), (V.t (T.sc (.string s4))), (V.t (T.sc (.int .i64 s5))), (V.t (T.sc (.complex .f64 s6.1 s6.2)))]] (j_lex_Tokens_0_Q x)) ∧ (∀ (s0 : ByteArray) (s1 : List T) (s2 : Int) (s3 : Int) (s4 : ByteArray) (s5 : Int) (s6 : Nat × Nat) (x : (List T) × (Nat × Nat) × Int × Int × ByteArray × Int × (Nat × Nat)), j_lex_Tokens_0 n m (Sum.inr (Sum.inr (Sum.inr (Sum.inl (s0, s1, s2, s3, s4, s5, s6))))) = some x → SemC Tryd.prog 0 code_j_lex_Tokens_0 code_j_lex_Tokens_0_4 (SEnv.env 116 [(0, (V.t (T.sc (.string s0)))), (5, (V.own 4 s1)), (6, (V.ptr 0 0)), (7, (V.t (T.sc (.int .i64 s2))))]) [some [(V.t (T.sc (.int .i64 s3))), (V.t (T.sc (.string s4))), (V.t (T.sc (.int .i64 s5))), (V.t (T.sc (.complex .f64 s6.1 s6.2)))]] (j_lex_Tokens_0_Q x)) ∧ (∀ (s0 : Int) (s1 : ByteArray) (s2 : Int) (s3 : Nat × Nat) (x : (List T) × (Nat × Nat) × Int × Int × ByteArray × Int × (Nat × Nat)), j_lex_Tokens_0 n m (Sum.inr (Sum.inr (Sum.inr (Sum.inr (Sum.inl (s0, s1, s2, s3)))))) = some x → SemC Tryd.prog 0 code_j_lex_Tokens_0 code_j_lex_Tokens_0_5 (SEnv.env 116 [(6, (V.ptr 0 0))]) [some [(V.t (T.sc (.int .i64 s0))), (V.t (T.sc (.string s1))), (V.t (T.sc (.int .i64 s2))), (V.t (T.sc (.complex .f64 s3.1 s3.2)))]] (j_lex_Tokens_0_Q x)) ∧ (∀ (s0 : ByteArray) (s1 : List T) (s2 : Int) (s3 : Int) (s4 : Int) (s5 : ByteArray) (s6 : Int) (s7 : Nat × Nat) (x : (List T) × (Nat × Nat) × Int × Int × ByteArray × Int × (Nat × Nat)), j_lex_Tokens_0 n m (Sum.inr (Sum.inr (Sum.inr (Sum.inr (Sum.inr (Sum.inl (s0, s1, s2, s3, s4, s5, s6, s7))))))) = some x → SemC Tryd.prog 0 code_j_lex_Tokens_0 code_j_lex_Tokens_0_6 (SEnv.env 116 [(0, (V.t (T.sc (.string s0)))), (5, (V.own 4 s1)), (6, (V.ptr 0 0)), (7, (V.t (T.sc (.int .i64 s2)))), (8, (V.t (T.sc (.int .i64 s3))))]) [some [(V.t (T.sc (.int .i64 s4))), (V.t (T.sc (.string s5))), (V.t (T.sc (.int .i64 s6))), (V.t (T.sc (.complex .f64 s7.1 s7.2)))]] (j_lex_Tokens_0_Q x)) ∧ (∀ (s0 : ByteArray) (s1 : List T) (s2 : Int) (s3 : Int) (s4 : ByteArray) (s5 : Int) (s6 : Nat × Nat) (x : (List T) × (Nat × Nat) × Int × Int × ByteArray × Int × (Nat × Nat)), j_lex_Tokens_0 n m (Sum.inr (Sum.inr (Sum.inr (Sum.inr (Sum.inr (Sum.inr (s0, s1, s2, s3, s4, s5, s6))))))) = some x → SemC Tryd.prog 0 code_j_lex_Tokens_0 code_j_lex_Tokens_0_0 (SEnv.env 116 [(0, (V.t (T.sc (.string s0)))), (5, (V.own 4 s1)), (6, (V.ptr 0 0)), (7, (V.t (T.sc (.int .i64 s2))))]) [some [(V.t (T.sc (.int .i64 s3))), (V.t (T.sc (.string s4))), (V.t (T.sc (.int .i64 s5))), (V.t (T.sc (.complex .f64 s6.1 s6.2)))]] (j_lex_Tokens_0_Q x))
  | 0 => ⟨(fun _ _ _ _ _ x h => by cases h), (fun _ _ _ _ _ _ _ x h => by cases h), (fun _ _ _ _ _ _ _ x h => by cases h), (fun _ _ _ _ _ _ _ x h => by cases h), (fun _ _ _ _ x h => by cases h), (fun _ _ _ _ _ _ _ _ x h => by cases h), (fun _ _ _ _ _ _ _ x h => by cases h)⟩
  | m + 1 => by
    have ih := j_lex_Tokens_0_run n m
    refine ⟨?_, ?_, ?_, ?_, ?_, ?_, ?_⟩
    · intro s0 s1 s2 s3 s4 x h
      refine scope_step (sp_lex_Tokens_ok n) (code_j_lex_Tokens_0_ok.find code_j_lex_Tokens_0_1_find) (fun a ha => absurd ha (by rw [show loopsOf code_j_lex_Tokens_0_1 = [] from by kernel_rfl]; simp)) (no_scope (by kernel_rfl)) ((j_lex_Tokens_0_eq1 n (j_lex_Tokens_0 n m) s0 s1 s2 s3 s4).trans h) (fun ex E sg h => ?_)
      unfold j_lex_Tokens_0_K at h
      split at h
      · obtain ⟨u0, hu0, h⟩ := Option.bind_eq_some_iff.1 h
        obtain ⟨u1, hu1, h⟩ := Option.bind_eq_some_iff.1 h
        obtain ⟨u2, hu2, h⟩ := Option.bind_eq_some_iff.1 h
        obtain ⟨u3, hu3, h⟩ := Option.bind_eq_some_iff.1 h
        obtain ⟨u4, hu4, h⟩ := Option.bind_eq_some_iff.1 h
        obtain ⟨u5, hu5, h⟩ := Option.bind_eq_some_iff.1 h
        obtain ⟨u6, hu6, h⟩ := Option.bind_eq_some_iff.1 h
        exact .inl ⟨1, _, rfl, code_j_lex_Tokens_0_1_find, SemC.pre (k := 1) (by decide) (WkA.env (WkA.cons (ownOf_wk hu0) rfl (WkA.cons (ptrOf_wk hu1) rfl WkA.nil)) 116) (wkR_sig (WkR.cons (cellsN_wk hu2 (.cons (intOf_wk hu3) (.cons (strOf_wk hu4) (.cons (intOf_wk hu5) (.cons (cplxOf_wk hu6) .nil))))).1 (cellsN_wk hu2 (.cons (intOf_wk hu3) (.cons (strOf_wk hu4) (.cons (intOf_wk hu5) (.cons (cplxOf_wk hu6) .nil))))).2 (renL_mem (.cons rfl (.cons rfl (.cons rfl (.cons rfl .nil))))) (WkR.nil _)) rfl) (ih.1 _ _ _ _ _ x h)⟩
      · obtain ⟨u0, hu0, h⟩ := Option.bind_eq_some_iff.1 h
        obtain ⟨u1, hu1, h⟩ := Option.bind_eq_some_iff.1 h
        obtain ⟨u2, hu2, h⟩ := Option.bind_eq_some_iff.1 h
        obtain ⟨u3, hu3, h⟩ := Option.bind_eq_some_iff.1 h
        obtain ⟨u4, hu4, h⟩ := Option.bind_eq_some_iff.1 h
        obtain ⟨u5, hu5, h⟩ := Option.bind_eq_some_iff.1 h
        obtain ⟨u6, hu6, h⟩ := Option.bind_eq_some_iff.1 h
        obtain ⟨u7, hu7, h⟩ := Option.bind_eq_some_iff.1 h
        obtain ⟨u8, hu8, h⟩ := Option.bind_eq_some_iff.1 h
        exact .inl ⟨2, _, rfl, code_j_lex_Tokens_0_2_find, SemC.pre (k := 1) (by decide) (WkA.env (WkA.cons (strOf_wk hu0) rfl (WkA.cons (ownOf_wk hu1) rfl (WkA.cons (ptrOf_wk hu2) rfl (WkA.cons (intOf_wk hu3) rfl WkA.nil)))) 116) (wkR_sig (WkR.cons (cellsN_wk hu4 (.cons (intOf_wk hu5) (.cons (strOf_wk hu6) (.cons (intOf_wk hu7) (.cons (cplxOf_wk hu8) .nil))))).1 (cellsN_wk hu4 (.cons (intOf_wk hu5) (.cons (strOf_wk hu6) (.cons (intOf_wk hu7) (.cons (cplxOf_wk hu8) .nil))))).2 (renL_mem (.cons rfl (.cons rfl (.cons rfl (.cons rfl .nil))))) (WkR.nil _)) rfl) (ih.2.1 _ _ _ _ _ _ _ x h)⟩
      · obtain ⟨u0, hu0, h⟩ := Option.bind_eq_some_iff.1 h
        obtain ⟨u1, hu1, h⟩ := Option.bind_eq_some_iff.1 h
        obtain ⟨u2, hu2, h⟩ := Option.bind_eq_some_iff.1 h
        obtain ⟨u3, hu3, h⟩ := Option.bind_eq_some_iff.1 h
        obtain ⟨u4, hu4, h⟩ := Option.bind_eq_some_iff.1 h
        obtain ⟨u5, hu5, h⟩ := Option.bind_eq_some_iff.1 h
        obtain ⟨u6, hu6, h⟩ := Option.bind_eq_some_iff.1 h
        obtain ⟨u7, hu7, h⟩ := Option.bind_eq_some_iff.1 h
        obtain ⟨u8, hu8, h⟩ := Option.bind_eq_some_iff.1 h
        exact .inl ⟨3, _, rfl, code_j_lex_Tokens_0_3_find, SemC.pre (k := 1) (by decide) (WkA.env (WkA.cons (strOf_wk hu0) rfl (WkA.cons (ownOf_wk hu1) rfl (WkA.cons (ptrOf_wk hu2) rfl (WkA.cons (intOf_wk hu3) rfl WkA.nil)))) 116) (wkR_sig (WkR.cons (cellsN_wk hu4 (.cons (intOf_wk hu5) (.cons (strOf_wk hu6) (.cons (intOf_wk hu7) (.cons (cplxOf_wk hu8) .nil))))).1 (cellsN_wk hu4 (.cons (intOf_wk hu5) (.cons (strOf_wk hu6) (.cons (intOf_wk hu7) (.cons (cplxOf_wk hu8) .nil))))).2 (renL_mem (.cons rfl (.cons rfl (.cons rfl (.cons rfl .nil))))) (WkR.nil _)) rfl) (ih.2.2.1 _ _ _ _ _ _ _ x h)⟩
      · obtain ⟨u0, hu0, h⟩ := Option.bind_eq_some_iff.1 h
        obtain ⟨u1, hu1, h⟩ := Option.bind_eq_some_iff.1 h
        obtain ⟨u2, hu2, h⟩ := Option.bind_eq_some_iff.1 h
        obtain ⟨u3, hu3, h⟩ := Option.bind_eq_some_iff.1 h
        obtain ⟨u4, hu4, h⟩ := Option.bind_eq_some_iff.1 h
        obtain ⟨u5, hu5, h⟩ := Option.bind_eq_some_iff.1 h
        obtain ⟨u6, hu6, h⟩ := Option.bind_eq_some_iff.1 h
        obtain ⟨u7, hu7, h⟩ := Option.bind_eq_some_iff.1 h
        obtain ⟨u8, hu8, h⟩ := Option.bind_eq_some_iff.1 h
        exact .inl ⟨4, _, rfl, code_j_lex_Tokens_0_4_find, SemC.pre (k := 1) (by decide) (WkA.env (WkA.cons (strOf_wk hu0) rfl (WkA.cons (ownOf_wk hu1) rfl (WkA.cons (ptrOf_wk hu2) rfl (WkA.cons (intOf_wk hu3) rfl WkA.nil)))) 116) (wkR_sig (WkR.cons (cellsN_wk hu4 (.cons (intOf_wk hu5) (.cons (strOf_wk hu6) (.cons (intOf_wk hu7) (.cons (cplxOf_wk hu8) .nil))))).1 (cellsN_wk hu4 (.cons (intOf_wk hu5) (.cons (strOf_wk hu6) (.cons (intOf_wk hu7) (.cons (cplxOf_wk hu8) .nil))))).2 (renL_mem (.cons rfl (.cons rfl (.cons rfl (.cons rfl .nil))))) (WkR.nil _)) rfl) (ih.2.2.2.1 _ _ _ _ _ _ _ x h)⟩
      · obtain ⟨u0, hu0, h⟩ := Option.bind_eq_some_iff.1 h
        obtain ⟨u1, hu1, h⟩ := Option.bind_eq_some_iff.1 h
        obtain ⟨u2, hu2, h⟩ := Option.bind_eq_some_iff.1 h
        obtain ⟨u3, hu3, h⟩ := Option.bind_eq_some_iff.1 h
        obtain ⟨u4, hu4, h⟩ := Option.bind_eq_some_iff.1 h
        obtain ⟨u5, hu5, h⟩ := Option.bind_eq_some_iff.1 h
        exact .inl ⟨5, _, rfl, code_j_lex_Tokens_0_5_find, SemC.pre (k := 1) (by decide) (WkA.env (WkA.cons (ptrOf_wk hu0) rfl WkA.nil) 116) (wkR_sig (WkR.cons (cellsN_wk hu1 (.cons (intOf_wk hu2) (.cons (strOf_wk hu3) (.cons (intOf_wk hu4) (.cons (cplxOf_wk hu5) .nil))))).1 (cellsN_wk hu1 (.cons (intOf_wk hu2) (.cons (strOf_wk hu3) (.cons (intOf_wk hu4) (.cons (cplxOf_wk hu5) .nil))))).2 (renL_mem (.cons rfl (.cons rfl (.cons rfl (.cons rfl .nil))))) (WkR.nil _)) rfl) (ih.2.2.2.2.1 _ _ _ _ x h)⟩
      · obtain ⟨u0, hu0, h⟩ := Option.bind_eq_some_iff.1 h
        obtain ⟨u1, hu1, h⟩ := Option.bind_eq_some_iff.1 h
        obtain ⟨u2, hu2, h⟩ := Option.bind_eq_some_iff.1 h
        obtain ⟨u3, hu3, h⟩ := Option.bind_eq_some_iff.1 h
        obtain ⟨u4, hu4, h⟩ := Option.bind_eq_some_iff.1 h
        obtain ⟨u5, hu5, h⟩ := Option.bind_eq_some_iff.1 h
        obtain ⟨u6, hu6, h⟩ := Option.bind_eq_some_iff.1 h
        obtain ⟨u7, hu7, h⟩ := Option.bind_eq_some_iff.1 h
        obtain ⟨u8, hu8, h⟩ := Option.bind_eq_some_iff.1 h
        obtain ⟨u9, hu9, h⟩ := Option.bind_eq_some_iff.1 h
        exact .inl ⟨6, _, rfl, code_j_lex_Tokens_0_6_find, SemC.pre (k := 1) (by decide) (WkA.env (WkA.cons (strOf_wk hu0) rfl (WkA.cons (ownOf_wk hu1) rfl (WkA.cons (ptrOf_wk hu2) rfl (WkA.cons (intOf_wk hu3) rfl (WkA.cons (intOf_wk hu4) rfl WkA.nil))))) 116) (wkR_sig (WkR.cons (cellsN_wk hu5 (.cons (intOf_wk hu6) (.cons (strOf_wk hu7) (.cons (intOf_wk hu8) (.cons (cplxOf_wk hu9) .nil))))).1 (cellsN_wk hu5 (.cons (intOf_wk hu6) (.cons (strOf_wk hu7) (.cons (intOf_wk hu8) (.cons (cplxOf_wk hu9) .nil))))).2 (renL_mem (.cons rfl (.cons rfl (.cons rfl (.cons rfl .nil))))) (WkR.nil _)) rfl) (ih.2.2.2.2.2.1 _ _ _ _ _ _ _ _ x h)⟩
      · obtain ⟨u0, hu0, h⟩ := Option.bind_eq_some_iff.1 h
        obtain ⟨u1, hu1, h⟩ := Option.bind_eq_some_iff.1 h
        obtain ⟨u2, hu2, h⟩ := Option.bind_eq_some_iff.1 h
        obtain ⟨u3, hu3, h⟩ := Option.bind_eq_some_iff.1 h
        obtain ⟨u4, hu4, h⟩ := Option.bind_eq_some_iff.1 h
        obtain ⟨u5, hu5, h⟩ := Option.bind_eq_some_iff.1 h
        obtain ⟨u6, hu6, h⟩ := Option.bind_eq_some_iff.1 h
        obtain ⟨u7, hu7, h⟩ := Option.bind_eq_some_iff.1 h
        obtain ⟨u8, hu8, h⟩ := Option.bind_eq_some_iff.1 h
        exact .inl ⟨0, _, rfl, code_j_lex_Tokens_0_0_find, SemC.pre (k := 1) (by decide) (WkA.env (WkA.cons (strOf_wk hu0) rfl (WkA.cons (ownOf_wk hu1) rfl (WkA.cons (ptrOf_wk hu2) rfl (WkA.cons (intOf_wk hu3) rfl WkA.nil)))) 116) (wkR_sig (WkR.cons (cellsN_wk hu4 (.cons (intOf_wk hu5) (.cons (strOf_wk hu6) (.cons (intOf_wk hu7) (.cons (cplxOf_wk hu8) .nil))))).1 (cellsN_wk hu4 (.cons (intOf_wk hu5) (.cons (strOf_wk hu6) (.cons (intOf_wk hu7) (.cons (cplxOf_wk hu8) .nil))))).2 (renL_mem (.cons rfl (.cons rfl (.cons rfl (.cons rfl .nil))))) (WkR.nil _)) rfl) (ih.2.2.2.2.2.2 _ _ _ _ _ _ _ x h)⟩
      · obtain ⟨u0, hu0, h⟩ := Option.bind_eq_some_iff.1 h
        obtain ⟨u1, hu1, h⟩ := Option.bind_eq_some_iff.1 h
        obtain ⟨u2, hu2, h⟩ := Option.bind_eq_some_iff.1 h
        obtain ⟨u3, hu3, h⟩ := Option.bind_eq_some_iff.1 h
        obtain ⟨u4, hu4, h⟩ := Option.bind_eq_some_iff.1 h
        obtain ⟨u5, hu5, h⟩ := Option.bind_eq_some_iff.1 h
        obtain ⟨u6, hu6, h⟩ := Option.bind_eq_some_iff.1 h
        obtain ⟨u7, hu7, h⟩ := Option.bind_eq_some_iff.1 h
        simp only [Option.some.injEq] at h
        subst h
        exact .inr ⟨fun l hl => (by cases hl), 1, _, _, by decide, WkA.env (WkA.cons (ownOf_wk hu0) rfl (WkA.cons (cplxOf_wk hu1) rfl (WkA.cons (intOf_wk hu2) rfl WkA.nil))) 116, (wkR_sig (WkR.cons (cellsN_wk hu3 (.cons (intOf_wk hu4) (.cons (strOf_wk hu5) (.cons (intOf_wk hu6) (.cons (cplxOf_wk hu7) .nil))))).1 (cellsN_wk hu3 (.cons (intOf_wk hu4) (.cons (strOf_wk hu5) (.cons (intOf_wk hu6) (.cons (cplxOf_wk hu7) .nil))))).2 (renL_mem (.cons rfl (.cons rfl (.cons rfl (.cons rfl .nil))))) (WkR.nil _)) rfl), rfl, rfl, rfl⟩
      · cases h
    · intro s0 s1 s2 s3 s4 s5 s6 x h
      refine scope_step (sp_lex_Tokens_ok n) (code_j_lex_Tokens_0_ok.find code_j_lex_Tokens_0_2_find) (fun a ha => absurd ha (by rw [show loopsOf code_j_lex_Tokens_0_2 = [] from by kernel_rfl]; simp)) (no_scope (by kernel_rfl)) ((j_lex_Tokens_0_eq2 n (j_lex_Tokens_0 n m) s0 s1 s2 s3 s4 s5 s6).trans h) (fun ex E sg h => ?_)
      unfold j_lex_Tokens_0_K at h
      split at h
      · obtain ⟨u0, hu0, h⟩ := Option.bind_eq_some_iff.1 h
        obtain ⟨u1, hu1, h⟩ := Option.bind_eq_some_iff.1 h
        obtain ⟨u2, hu2, h⟩ := Option.bind_eq_some_iff.1 h
        obtain ⟨u3, hu3, h⟩ := Option.bind_eq_some_iff.1 h
        obtain ⟨u4, hu4, h⟩ := Option.bind_eq_some_iff.1 h
        obtain ⟨u5, hu5, h⟩ := Option.bind_eq_some_iff.1 h
        obtain ⟨u6, hu6, h⟩ := Option.bind_eq_some_iff.1 h
        exact .inl ⟨1, _, rfl, code_j_lex_Tokens_0_1_find, SemC.pre (k := 1) (by decide) (WkA.env (WkA.cons (ownOf_wk hu0) rfl (WkA.cons (ptrOf_wk hu1) rfl WkA.nil)) 116) (wkR_sig (WkR.cons (cellsN_wk hu2 (.cons (intOf_wk hu3) (.cons (strOf_wk hu4) (.cons (intOf_wk hu5) (.cons (cplxOf_wk hu6) .nil))))).1 (cellsN_wk hu2 (.cons (intOf_wk hu3) (.cons (strOf_wk hu4) (.cons (intOf_wk hu5) (.cons (cplxOf_wk hu6) .nil))))).2 (renL_mem (.cons rfl (.cons rfl (.cons rfl (.cons rfl .nil))))) (WkR.nil _)) rfl) (ih.1 _ _ _ _ _ x h)⟩
      · obtain ⟨u0, hu0, h⟩ := Option.bind_eq_some_iff.1 h
        obtain ⟨u1, hu1, h⟩ := Option.bind_eq_some_iff.1 h
        obtain ⟨u2, hu2, h⟩ := Option.bind_eq_some_iff.1 h
        obtain ⟨u3, hu3, h⟩ := Option.bind_eq_some_iff.1 h
        obtain ⟨u4, hu4, h⟩ := Option.bind_eq_some_iff.1 h
        obtain ⟨u5, hu5, h⟩ := Option.bind_eq_some_iff.1 h
        obtain ⟨u6, hu6, h⟩ := Option.bind_eq_some_iff.1 h
        obtain ⟨u7, hu7, h⟩ := Option.bind_eq_some_iff.1 h
        obtain ⟨u8, hu8, h⟩ := Option.bind_eq_some_iff.1 h
        exact .inl ⟨2, _, rfl, code_j_lex_Tokens_0_2_find, SemC.pre (k := 1) (by decide) (WkA.env (WkA.cons (strOf_wk hu0) rfl (WkA.cons (ownOf_wk hu1) rfl (WkA.cons (ptrOf_wk hu2) rfl (WkA.cons (intOf_wk hu3) rfl WkA.nil)))) 116) (wkR_sig (WkR.cons (cellsN_wk hu4 (.cons (intOf_wk hu5) (.cons (strOf_wk hu6) (.cons (intOf_wk hu7) (.cons (cplxOf_wk hu8) .nil))))).1 (cellsN_wk hu4 (.cons (intOf_wk hu5) (.cons (strOf_wk hu6) (.cons (intOf_wk hu7) (.cons (cplxOf_wk hu8) .nil))))).2 (renL_mem (.cons rfl (.cons rfl (.cons rfl (.cons rfl .nil))))) (WkR.nil _)) rfl) (ih.2.1 _ _ _ _ _ _ _ x h)⟩
      · obtain ⟨u0, hu0, h⟩ := Option.bind_eq_some_iff.1 h
        obtain ⟨u1, hu1, h⟩ := Option.bind_eq_some_iff.1 h
        obtain ⟨u2, hu2, h⟩ := Option.bind_eq_some_iff.1 h
        obtain ⟨u3, hu3, h⟩ := Option.bind_eq_some_iff.1 h
        obtain ⟨u4, hu4, h⟩ := Option.bind_eq_some_iff.1 h
        obtain ⟨u5, hu5, h⟩ := Option.bind_eq_some_iff.1 h
        obtain ⟨u6, hu6, h⟩ := Option.bind_eq_some_iff.1 h
        obtain ⟨u7, hu7, h⟩ := Option.bind_eq_some_iff.1 h
        obtain ⟨u8, hu8, h⟩ := Option.bind_eq_some_iff.1 h
        exact .inl ⟨3, _, rfl, code_j_lex_Tokens_0_3_find, SemC.pre (k := 1) (by decide) (WkA.env (WkA.cons (strOf_wk hu0) rfl (WkA.cons (ownOf_wk hu1) rfl (WkA.cons (ptrOf_wk hu2) rfl (WkA.cons (intOf_wk hu3) rfl WkA.nil)))) 116) (wkR_sig (WkR.cons (cellsN_wk hu4 (.cons (intOf_wk hu5) (.cons (strOf_wk hu6) (.cons (intOf_wk hu7) (.cons (cplxOf_wk hu8) .nil))))).1 (cellsN_wk hu4 (.cons (intOf_wk hu5) (.cons (strOf_wk hu6) (.cons (intOf_wk hu7) (.cons (cplxOf_wk hu8) .nil))))).2 (renL_mem (.cons rfl (.cons rfl (.cons rfl (.cons rfl .nil))))) (WkR.nil _)) rfl) (ih.2.2.1 _ _ _ _ _ _ _ x h)⟩
      · obtain ⟨u0, hu0, h⟩ := Option.bind_eq_some_iff.1 h
        obtain ⟨u1, hu1, h⟩ := Option.bind_eq_some_iff.1 h
        obtain ⟨u2, hu2, h⟩ := Option.bind_eq_some_iff.1 h
        obtain ⟨u3, hu3, h⟩ := Option.bind_eq_some_iff.1 h
        obtain ⟨u4, hu4, h⟩ := Option.bind_eq_some_iff.1 h
        obtain ⟨u5, hu5, h⟩ := Option.bind_eq_some_iff.1 h
        obtain ⟨u6, hu6, h⟩ := Option.bind_eq_some_iff.1 h
        obtain ⟨u7, hu7, h⟩ := Option.bind_eq_some_iff.1 h
        obtain ⟨u8, hu8, h⟩ := Option.bind_eq_some_iff.1 h
        exact .inl ⟨4, _, rfl, code_j_lex_Tokens_0_4_find, SemC.pre (k := 1) (by decide) (WkA.env (WkA.cons (strOf_wk hu0) rfl (WkA.cons (ownOf_wk hu1) rfl (WkA.cons (ptrOf_wk hu2) rfl (WkA.cons (intOf_wk hu3) rfl WkA.nil)))) 116) (wkR_sig (WkR.cons (cellsN_wk hu4 (.cons (intOf_wk hu5) (.cons (strOf_wk hu6) (.cons (intOf_wk hu7) (.cons (cplxOf_wk hu8) .nil))))).1 (cellsN_wk hu4 (.cons (intOf_wk hu5) (.cons (strOf_wk hu6) (.cons (intOf_wk hu7) (.cons (cplxOf_wk hu8) .nil))))).2 (renL_mem (.cons rfl (.cons rfl (.cons rfl (.cons rfl .nil))))) (WkR.nil _)) rfl) (ih.2.2.2.1 _ _ _ _ _ _ _ x h)⟩
      · obtain ⟨u0, hu0, h⟩ := Option.bind_eq_some_iff.1 h
        obtain ⟨u1, hu1, h⟩ := Option.bind_eq_some_iff.1 h
        obtain ⟨u2, hu2, h⟩ := Option.bind_eq_some_iff.1 h
        obtain ⟨u3, hu3, h⟩ := Option.bind_eq_some_iff.1 h
        obtain ⟨u4, hu4, h⟩ := Option.bind_eq_some_iff.1 h
        obtain ⟨u5, hu5, h⟩ := Option.bind_eq_some_iff.1 h
        exact .inl ⟨5, _, rfl, code_j_lex_Tokens_0_5_find, SemC.pre (k := 1) (by decide) (WkA.env (WkA.cons (ptrOf_wk hu0) rfl WkA.nil) 116) (wkR_sig (WkR.cons (cellsN_wk hu1 (.cons (intOf_wk hu2) (.cons (strOf_wk hu3) (.cons (intOf_wk hu4) (.cons (cplxOf_wk hu5) .nil))))).1 (cellsN_wk hu1 (.cons (intOf_wk hu2) (.cons (strOf_wk hu3) (.cons (intOf_wk hu4) (.cons (cplxOf_wk hu5) .nil))))).2 (renL_mem (.cons rfl (.cons rfl (.cons rfl (.cons rfl .nil))))) (WkR.nil _)) rfl) (ih.2.2.2.2.1 _ _ _ _ x h)⟩
      · obtain ⟨u0, hu0, h⟩ := Option.bind_eq_some_iff.1 h
        obtain ⟨u1, hu1, h⟩ := Option.bind_eq_some_iff.1 h
        obtain ⟨u2, hu2, h⟩ := Option.bind_eq_some_iff.1 h
        obtain ⟨u3, hu3, h⟩ := Option.bind_eq_some_iff.1 h
        obtain ⟨u4, hu4, h⟩ := Option.bind_eq_some_iff.1 h
        obtain ⟨u5, hu5, h⟩ := Option.bind_eq_some_iff.1 h
        obtain ⟨u6, hu6, h⟩ := Option.bind_eq_some_iff.1 h
        obtain ⟨u7, hu7, h⟩ := Option.bind_eq_some_iff.1 h
        obtain ⟨u8, hu8, h⟩ := Option.bind_eq_some_iff.1 h
        obtain ⟨u9, hu9, h⟩ := Option.bind_eq_some_iff.1 h
        exact .inl ⟨6, _, rfl, code_j_lex_Tokens_0_6_find, SemC.pre (k := 1) (by decide) (WkA.env (WkA.cons (strOf_wk hu0) rfl (WkA.cons (ownOf_wk hu1) rfl (WkA.cons (ptrOf_wk hu2) rfl (WkA.cons (intOf_wk hu3) rfl (WkA.cons (intOf_wk hu4) rfl WkA.nil))))) 116) (wkR_sig (WkR.cons (cellsN_wk hu5 (.cons (intOf_wk hu6) (.cons (strOf_wk hu7) (.cons (intOf_wk hu8) (.cons (cplxOf_wk hu9) .nil))))).1 (cellsN_wk hu5 (.cons (intOf_wk hu6) (.cons (strOf_wk hu7) (.cons (intOf_wk hu8) (.cons (cplxOf_wk hu9) .nil))))).2 (renL_mem (.cons rfl (.cons rfl (.cons rfl (.cons rfl .nil))))) (WkR.nil _)) rfl) (ih.2.2.2.2.2.1 _ _ _ _ _ _ _ _ x h)⟩
      · obtain ⟨u0, hu0, h⟩ := Option.bind_eq_some_iff.1 h
        obtain ⟨u1, hu1, h⟩ := Option.bind_eq_some_iff.1 h
        obtain ⟨u2, hu2, h⟩ := Option.bind_eq_some_iff.1 h
        obtain ⟨u3, hu3, h⟩ := Option.bind_eq_some_iff.1 h
        obtain ⟨u4, hu4, h⟩ := Option.bind_eq_some_iff.1 h
        obtain ⟨u5, hu5, h⟩ := Option.bind_eq_some_iff.1 h
        obtain ⟨u6, hu6, h⟩ := Option.bind_eq_some_iff.1 h
        obtain ⟨u7, hu7, h⟩ := Option.bind_eq_some_iff.1 h
        obtain ⟨u8, hu8, h⟩ := Option.bind_eq_some_iff.1 h
        exact .inl ⟨0, _, rfl, code_j_lex_Tokens_0_0_find, SemC.pre (k := 1) (by decide) (WkA.env (WkA.cons (strOf_wk hu0) rfl (WkA.cons (ownOf_wk hu1) rfl (WkA.cons (ptrOf_wk hu2) rfl (WkA.cons (intOf_wk hu3) rfl WkA.nil)))) 116) (wkR_sig (WkR.cons (cellsN_wk hu4 (.cons (intOf_wk hu5) (.cons (strOf_wk hu6) (.cons (intOf_wk hu7) (.cons (cplxOf_wk hu8) .nil))))).1 (cellsN_wk hu4 (.cons (intOf_wk hu5) (.cons (strOf_wk hu6) (.cons (intOf_wk hu7) (.cons (cplxOf_wk hu8) .nil))))).2 (renL_mem (.cons rfl (.cons rfl (.cons rfl (.cons rfl .nil))))) (WkR.nil _)) rfl) (ih.2.2.2.2.2.2 _ _ _ _ _ _ _ x h)⟩
      · obtain ⟨u0, hu0, h⟩ := Option.bind_eq_some_iff.1 h
        obtain ⟨u1, hu1, h⟩ := Option.bind_eq_some_iff.1 h
        obtain ⟨u2, hu2, h⟩ := Option.bind_eq_some_iff.1 h
        obtain ⟨u3, hu3, h⟩ := Option.bind_eq_some_iff.1 h
        obtain ⟨u4, hu4, h⟩ := Option.bind_eq_some_iff.1 h
        obtain ⟨u5, hu5, h⟩ := Option.bind_eq_some_iff.1 h
        obtain ⟨u6, hu6, h⟩ := Option.bind_eq_some_iff.1 h
        obtain ⟨u7, hu7, h⟩ := Option.bind_eq_some_iff.1 h
        simp only [Option.some.injEq] at h
        subst h
        exact .inr ⟨fun l hl => (by cases hl), 1, _, _, by decide, WkA.env (WkA.cons (ownOf_wk hu0) rfl (WkA.cons (cplxOf_wk hu1) rfl (WkA.cons (intOf_wk hu2) rfl WkA.nil))) 116, (wkR_sig (WkR.cons (cellsN_wk hu3 (.cons (intOf_wk hu4) (.cons (strOf_wk hu5) (.cons (intOf_wk hu6) (.cons (cplxOf_wk hu7) .nil))))).1 (cellsN_wk hu3 (.cons (intOf_wk hu4) (.cons (strOf_wk hu5) (.cons (intOf_wk hu6) (.cons (cplxOf_wk hu7) .nil))))).2 (renL_mem (.cons rfl (.cons rfl (.cons rfl (.cons rfl .nil))))) (WkR.nil _)) rfl), rfl, rfl, rfl⟩
      · cases h
    · intro s0 s1 s2 s3 s4 s5 s6 x h
      refine scope_step (sp_lex_Tokens_ok n) (code_j_lex_Tokens_0_ok.find code_j_lex_Tokens_0_3_find) (fun a ha => absurd ha (by rw [show loopsOf code_j_lex_Tokens_0_3 = [] from by kernel_rfl]; simp)) (no_scope (by kernel_rfl)) ((j_lex_Tokens_0_eq3 n (j_lex_Tokens_0 n m) s0 s1 s2 s3 s4 s5 s6).trans h) (fun ex E sg h => ?_)
      unfold j_lex_Tokens_0_K at h
      split at h
      · obtain ⟨u0, hu0, h⟩ := Option.bind_eq_some_iff.1 h
        obtain ⟨u1, hu1, h⟩ := Option.bind_eq_some_iff.1 h
        obtain ⟨u2, hu2, h⟩ := Option.bind_eq_some_iff.1 h
        obtain ⟨u3, hu3, h⟩ := Option.bind_eq_some_iff.1 h
        obtain ⟨u4, hu4, h⟩ := Option.bind_eq_some_iff.1 h
        obtain ⟨u5, hu5, h⟩ := Option.bind_eq_some_iff.1 h
        obtain ⟨u6, hu6, h⟩ := Option.bind_eq_some_iff.1 h
        exact .inl ⟨1, _, rfl, code_j_lex_Tokens_0_1_find, SemC.pre (k := 1) (by decide) (WkA.env (WkA.cons (ownOf_wk hu0) rfl (WkA.cons (ptrOf_wk hu1) rfl WkA.nil)) 116) (wkR_sig (WkR.cons (cellsN_wk hu2 (.cons (intOf_wk hu3) (.cons (strOf_wk hu4) (.cons (intOf_wk hu5) (.cons (cplxOf_wk hu6) .nil))))).1 (cellsN_wk hu2 (.cons (intOf_wk hu3) (.cons (strOf_wk hu4) (.cons (intOf_wk hu5) (.cons (cplxOf_wk hu6) .nil))))).2 (renL_mem (.cons rfl (.cons rfl (.cons rfl (.cons rfl .nil))))) (WkR.nil _)) rfl) (ih.1 _ _ _ _ _ x h)⟩
      · obtain ⟨u0, hu0, h⟩ := Option.bind_eq_some_iff.1 h
        obtain ⟨u1, hu1, h⟩ := Option.bind_eq_some_iff.1 h
        obtain ⟨u2, hu2, h⟩ := Option.bind_eq_some_iff.1 h
        obtain ⟨u3, hu3, h⟩ := Option.bind_eq_some_iff.1 h
        obtain ⟨u4, hu4, h⟩ := Option.bind_eq_some_iff.1 h
        obtain ⟨u5, hu5, h⟩ := Option.bind_eq_some_iff.1 h
        obtain ⟨u6, hu6, h⟩ := Option.bind_eq_some_iff.1 h
        obtain ⟨u7, hu7, h⟩ := Option.bind_eq_some_iff.1 h
        obtain ⟨u8, hu8, h⟩ := Option.bind_eq_some_iff.1 h
        exact .inl ⟨2, _, rfl, code_j_lex_Tokens_0_2_find, SemC.pre (k := 1) (by decide) (WkA.env (WkA.cons (strOf_wk hu0) rfl (WkA.cons (ownOf_wk hu1) rfl (WkA.cons (ptrOf_wk hu2) rfl (WkA.cons (intOf_wk hu3) rfl WkA.nil)))) 116) (wkR_sig (WkR.cons (cellsN_wk hu4 (.cons (intOf_wk hu5) (.cons (strOf_wk hu6) (.cons (intOf_wk hu7) (.cons (cplxOf_wk hu8) .nil))))).1 (cellsN_wk hu4 (.cons (intOf_wk hu5) (.cons (strOf_wk hu6) (.cons (intOf_wk hu7) (.cons (cplxOf_wk hu8) .nil))))).2 (renL_mem (.cons rfl (.cons rfl (.cons rfl (.cons rfl .nil))))) (WkR.nil _)) rfl) (ih.2.1 _ _ _ _ _ _ _ x h)⟩
      · obtain ⟨u0, hu0, h⟩ := Option.bind_eq_some_iff.1 h
        obtain ⟨u1, hu1, h⟩ := Option.bind_eq_some_iff.1 h
        obtain ⟨u2, hu2, h⟩ := Option.bind_eq_some_iff.1 h
        obtain ⟨u3, hu3, h⟩ := Option.bind_eq_some_iff.1 h
        obtain ⟨u4, hu4, h⟩ := Option.bind_eq_some_iff.1 h
        obtain ⟨u5, hu5, h⟩ := Option.bind_eq_some_iff.1 h
        obtain ⟨u6, hu6, h⟩ := Option.bind_eq_some_iff.1 h
        obtain ⟨u7, hu7, h⟩ := Option.bind_eq_some_iff.1 h
        obtain ⟨u8, hu8, h⟩ := Option.bind_eq_some_iff.1 h
        exact .inl ⟨3, _, rfl, code_j_lex_Tokens_0_3_find, SemC.pre (k := 1) (by decide) (WkA.env (WkA.cons (strOf_wk hu0) rfl (WkA.cons (ownOf_wk hu1) rfl (WkA.cons (ptrOf_wk hu2) rfl (WkA.cons (intOf_wk hu3) rfl WkA.nil)))) 116) (wkR_sig (WkR.cons (cellsN_wk hu4 (.cons (intOf_wk hu5) (.cons (strOf_wk hu6) (.cons (intOf_wk hu7) (.cons (cplxOf_wk hu8) .nil))))).1 (cellsN_wk hu4 (.cons (intOf_wk hu5) (.cons (strOf_wk hu6) (.cons (intOf_wk hu7) (.cons (cplxOf_wk hu8) .nil))))).2 (renL_mem (.cons rfl (.cons rfl (.cons rfl (.cons rfl .nil))))) (WkR.nil _)) rfl) (ih.2.2.1 _ _ _ _ _ _ _ x h)⟩
      · obtain ⟨u0, hu0, h⟩ := Option.bind_eq_some_iff.1 h
        obtain ⟨u1, hu1, h⟩ := Option.bind_eq_some_iff.1 h
        obtain ⟨u2, hu2, h⟩ := Option.bind_eq_some_iff.1 h
        obtain ⟨u3, hu3, h⟩ := Option.bind_eq_some_iff.1 h
        obtain ⟨u4, hu4, h⟩ := Option.bind_eq_some_iff.1 h
        obtain ⟨u5, hu5, h⟩ := Option.bind_eq_some_iff.1 h
        obtain ⟨u6, hu6, h⟩ := Option.bind_eq_some_iff.1 h
        obtain ⟨u7, hu7, h⟩ := Option.bind_eq_some_iff.1 h
        obtain ⟨u8, hu8, h⟩ := Option.bind_eq_some_iff.1 h
        exact .inl ⟨4, _, rfl, code_j_lex_Tokens_0_4_find, SemC.pre (k := 1) (by decide) (WkA.env (WkA.cons (strOf_wk hu0) rfl (WkA.cons (ownOf_wk hu1) rfl (WkA.cons (ptrOf_wk hu2) rfl (WkA.cons (intOf_wk hu3) rfl WkA.nil)))) 116) (wkR_sig (WkR.cons (cellsN_wk hu4 (.cons (intOf_wk hu5) (.cons (strOf_wk hu6) (.cons (intOf_wk hu7) (.cons (cplxOf_wk hu8) .nil))))).1 (cellsN_wk hu4 (.cons (intOf_wk hu5) (.cons (strOf_wk hu6) (.cons (intOf_wk hu7) (.cons (cplxOf_wk hu8) .nil))))).2 (renL_mem (.cons rfl (.cons rfl (.cons rfl (.cons rfl .nil))))) (WkR.nil _)) rfl) (ih.2.2.2.1 _ _ _ _ _ _ _ x h)⟩
      · obtain ⟨u0, hu0, h⟩ := Option.bind_eq_some_iff.1 h
        obtain ⟨u1, hu1, h⟩ := Option.bind_eq_some_iff.1 h
        obtain ⟨u2, hu2, h⟩ := Option.bind_eq_some_iff.1 h
        obtain ⟨u3, hu3, h⟩ := Option.bind_eq_some_iff.1 h
        obtain ⟨u4, hu4, h⟩ := Option.bind_eq_some_iff.1 h
        obtain ⟨u5, hu5, h⟩ := Option.bind_eq_some_iff.1 h
        exact .inl ⟨5, _, rfl, code_j_lex_Tokens_0_5_find, SemC.pre (k := 1) (by decide) (WkA.env (WkA.cons (ptrOf_wk hu0) rfl WkA.nil) 116) (wkR_sig (WkR.cons (cellsN_wk hu1 (.cons (intOf_wk hu2) (.cons (strOf_wk hu3) (.cons (intOf_wk hu4) (.cons (cplxOf_wk hu5) .nil))))).1 (cellsN_wk hu1 (.cons (intOf_wk hu2) (.cons (strOf_wk hu3) (.cons (intOf_wk hu4) (.cons (cplxOf_wk hu5) .nil))))).2 (renL_mem (.cons rfl (.cons rfl (.cons rfl (.cons rfl .nil))))) (WkR.nil _)) rfl) (ih.2.2.2.2.1 _ _ _ _ x h)⟩
      · obtain ⟨u0, hu0, h⟩ := Option.bind_eq_some_iff.1 h
        obtain ⟨u1, hu1, h⟩ := Option.bind_eq_some_iff.1 h
        obtain ⟨u2, hu2, h⟩ := Option.bind_eq_some_iff.1 h
        obtain ⟨u3, hu3, h⟩ := Option.bind_eq_some_iff.1 h
        obtain ⟨u4, hu4, h⟩ := Option.bind_eq_some_iff.1 h
        obtain ⟨u5, hu5, h⟩ := Option.bind_eq_some_iff.1 h
        obtain ⟨u6, hu6, h⟩ := Option.bind_eq_some_iff.1 h
        obtain ⟨u7, hu7, h⟩ := Option.bind_eq_some_iff.1 h
        obtain ⟨u8, hu8, h⟩ := Option.bind_eq_some_iff.1 h
        obtain ⟨u9, hu9, h⟩ := Option.bind_eq_some_iff.1 h
        exact .inl ⟨6, _, rfl, code_j_lex_Tokens_0_6_find, SemC.pre (k := 1) (by decide) (WkA.env (WkA.cons (strOf_wk hu0) rfl (WkA.cons (ownOf_wk hu1) rfl (WkA.cons (ptrOf_wk hu2) rfl (WkA.cons (intOf_wk hu3) rfl (WkA.cons (intOf_wk hu4) rfl WkA.nil))))) 116) (wkR_sig (WkR.cons (cellsN_wk hu5 (.cons (intOf_wk hu6) (.cons (strOf_wk hu7) (.cons (intOf_wk hu8) (.cons (cplxOf_wk hu9) .nil))))).1 (cellsN_wk hu5 (.cons (intOf_wk hu6) (.cons (strOf_wk hu7) (.cons (intOf_wk hu8) (.cons (cplxOf_wk hu9) .nil))))).2 (renL_mem (.cons rfl (.cons rfl (.cons rfl (.cons rfl .nil))))) (WkR.nil _)) rfl) (ih.2.2.2.2.2.1 _ _ _ _ _ _ _ _ x h)⟩
      · obtain ⟨u0, hu0, h⟩ := Option.bind_eq_some_iff.1 h
        obtain ⟨u1, hu1, h⟩ := Option.bind_eq_some_iff.1 h
        obtain ⟨u2, hu2, h⟩ := Option.bind_eq_some_iff.1 h
        obtain ⟨u3, hu3, h⟩ := Option.bind_eq_some_iff.1 h
        obtain ⟨u4, hu4, h⟩ := Option.bind_eq_some_iff.1 h
        obtain ⟨u5, hu5, h⟩ := Option.bind_eq_some_iff.1 h
        obtain ⟨u6, hu6, h⟩ := Option.bind_eq_some_iff.1 h
        obtain ⟨u7, hu7, h⟩ := Option.bind_eq_some_iff.1 h
        obtain ⟨u8, hu8, h⟩ := Option.bind_eq_some_iff.1 h
        exact .inl ⟨0, _, rfl, code_j_lex_Tokens_0_0_find, SemC.pre (k := 1) (by decide) (WkA.env (WkA.cons (strOf_wk hu0) rfl (WkA.cons (ownOf_wk hu1) rfl (WkA.cons (ptrOf_wk hu2) rfl (WkA.cons (intOf_wk hu3) rfl WkA.nil)))) 116) (wkR_sig (WkR.cons (cellsN_wk hu4 (.cons (intOf_wk hu5) (.cons (strOf_wk hu6) (.cons (intOf_wk hu7) (.cons (cplxOf_wk hu8) .nil))))).1 (cellsN_wk hu4 (.cons (intOf_wk hu5) (.cons (strOf_wk hu6) (.cons (intOf_wk hu7) (.cons (cplxOf_wk hu8) .nil))))).2 (renL_mem (.cons rfl (.cons rfl (.cons rfl (.cons rfl .nil))))) (WkR.nil _)) rfl) (ih.2.2.2.2.2.2 _ _ _ _ _ _ _ x h)⟩
      · obtain ⟨u0, hu0, h⟩ := Option.bind_eq_some_iff.1 h
        obtain ⟨u1, hu1, h⟩ := Option.bind_eq_some_iff.1 h
        obtain ⟨u2, hu2, h⟩ := Option.bind_eq_some_iff.1 h
        obtain ⟨u3, hu3, h⟩ := Option.bind_eq_some_iff.1 h
        obtain ⟨u4, hu4, h⟩ := Option.bind_eq_some_iff.1 h
        obtain ⟨u5, hu5, h⟩ := Option.bind_eq_some_iff.1 h
        obtain ⟨u6, hu6, h⟩ := Option.bind_eq_some_iff.1 h
        obtain ⟨u7, hu7, h⟩ := Option.bind_eq_some_iff.1 h
        simp only [Option.some.injEq] at h
        subst h
        exact .inr ⟨fun l hl => (by cases hl), 1, _, _, by decide, WkA.env (WkA.cons (ownOf_wk hu0) rfl (WkA.cons (cplxOf_wk hu1) rfl (WkA.cons (intOf_wk hu2) rfl WkA.nil))) 116, (wkR_sig (WkR.cons (cellsN_wk hu3 (.cons (intOf_wk hu4) (.cons (strOf_wk hu5) (.cons (intOf_wk hu6) (.cons (cplxOf_wk hu7) .nil))))).1 (cellsN_wk hu3 (.cons (intOf_wk hu4) (.cons (strOf_wk hu5) (.cons (intOf_wk hu6) (.cons (cplxOf_wk hu7) .nil))))).2 (renL_mem (.cons rfl (.cons rfl (.cons rfl (.cons rfl .nil))))) (WkR.nil _)) rfl), rfl, rfl, rfl⟩
      · cases h
    · intro s0 s1 s2 s3 s4 s5 s6 x h
      refine scope_step (sp_lex_Tokens_ok n) (code_j_lex_Tokens_0_ok.find code_j_lex_Tokens_0_4_find) (fun a ha => absurd ha (by rw [show loopsOf code_j_lex_Tokens_0_4 = [] from by kernel_rfl]; simp)) (no_scope (by kernel_rfl)) ((j_lex_Tokens_0_eq4 n (j_lex_Tokens_0 n m) s0 s1 s2 s3 s4 s5 s6).trans h) (fun ex E sg h => ?_)
      unfold j_lex_Tokens_0_K at h
      split at h
      · obtain ⟨u0, hu0, h⟩ := Option.bind_eq_some_iff.1 h
        obtain ⟨u1, hu1, h⟩ := Option.bind_eq_some_iff.1 h
        obtain ⟨u2, hu2, h⟩ := Option.bind_eq_some_iff.1 h
        obtain ⟨u3, hu3, h⟩ := Option.bind_eq_some_iff.1 h
        obtain ⟨u4, hu4, h⟩ := Option.bind_eq_some_iff.1 h
        obtain ⟨u5, hu5, h⟩ := Option.bind_eq_some_iff.1 h
        obtain ⟨u6, hu6, h⟩ := Option.bind_eq_some_iff.1 h
        exact .inl ⟨1, _, rfl, code_j_lex_Tokens_0_1_find, SemC.pre (k := 1) (by decide) (WkA.env (WkA.cons (ownOf_wk hu0) rfl (WkA.cons (ptrOf_wk hu1) rfl WkA.nil)) 116) (wkR_sig (WkR.cons (cellsN_wk hu2 (.cons (intOf_wk hu3) (.cons (strOf_wk hu4) (.cons (intOf_wk hu5) (.cons (cplxOf_wk hu6) .nil))))).1 (cellsN_wk hu2 (.cons (intOf_wk hu3) (.cons (strOf_wk hu4) (.cons (intOf_wk hu5) (.cons (cplxOf_wk hu6) .nil))))).2 (renL_mem (.cons rfl (.cons rfl (.cons rfl (.cons rfl .nil))))) (WkR.nil _)) rfl) (ih.1 _ _ _ _ _ x h)⟩
      · obtain ⟨u0, hu0, h⟩ := Option.bind_eq_some_iff.1 h
        obtain ⟨u1, hu1, h⟩ := Option.bind_eq_some_iff.1 h
        obtain ⟨u2, hu2, h⟩ := Option.bind_eq_some_iff.1 h
        obtain ⟨u3, hu3, h⟩ := Option.bind_eq_some_iff.1 h
        obtain ⟨u4, hu4, h⟩ := Option.bind_eq_some_iff.1 h
        obtain ⟨u5, hu5, h⟩ := Option.bind_eq_some_iff.1 h
        obtain ⟨u6, hu6, h⟩ := Option.bind_eq_some_iff.1 h
        obtain ⟨u7, hu7, h⟩ := Option.bind_eq_some_iff.1 h
        obtain ⟨u8, hu8, h⟩ := Option.bind_eq_some_iff.1 h
        exact .inl ⟨2, _, rfl, code_j_lex_Tokens_0_2_find, SemC.pre (k := 1) (by decide) (WkA.env (WkA.cons (strOf_wk hu0) rfl (WkA.cons (ownOf_wk hu1) rfl (WkA.cons (ptrOf_wk hu2) rfl (WkA.cons (intOf_wk hu3) rfl WkA.nil)))) 116) (wkR_sig (WkR.cons (cellsN_wk hu4 (.cons (intOf_wk hu5) (.cons (strOf_wk hu6) (.cons (intOf_wk hu7) (.cons (cplxOf_wk hu8) .nil))))).1 (cellsN_wk hu4 (.cons (intOf_wk hu5) (.cons (strOf_wk hu6) (.cons (intOf_wk hu7) (.cons (cplxOf_wk hu8) .nil))))).2 (renL_mem (.cons rfl (.cons rfl (.cons rfl (.cons rfl .nil))))) (WkR.nil _)) rfl) (ih.2.1 _ _ _ _ _ _ _ x h)⟩
      · obtain ⟨u0, hu0, h⟩ := Option.bind_eq_some_iff.1 h
        obtain ⟨u1, hu1, h⟩ := Option.bind_eq_some_iff.1 h
        obtain ⟨u2, hu2, h⟩ := Option.bind_eq_some_iff.1 h
        obtain ⟨u3, hu3, h⟩ := Option.bind_eq_some_iff.1 h
        obtain ⟨u4, hu4, h⟩ := Option.bind_eq_some_iff.1 h
        obtain ⟨u5, hu5, h⟩ := Option.bind_eq_some_iff.1 h
        obtain ⟨u6, hu6, h⟩ := Option.bind_eq_some_iff.1 h
        obtain ⟨u7, hu7, h⟩ := Option.bind_eq_some_iff.1 h
        obtain ⟨u8, hu8, h⟩ := Option.bind_eq_some_iff.1 h
        exact .inl ⟨3, _, rfl, code_j_lex_Tokens_0_3_find, SemC.pre (k := 1) (by decide) (WkA.env (WkA.cons (strOf_wk hu0) rfl (WkA.cons (ownOf_wk hu1) rfl (WkA.cons (ptrOf_wk hu2) rfl (WkA.cons (intOf_wk hu3) rfl WkA.nil)))) 116) (wkR_sig (WkR.cons (cellsN_wk hu4 (.cons (intOf_wk hu5) (.cons (strOf_wk hu6) (.cons (intOf_wk hu7) (.cons (cplxOf_wk hu8) .nil))))).1 (cellsN_wk hu4 (.cons (intOf_wk hu5) (.cons (strOf_wk hu6) (.cons (intOf_wk hu7) (.cons (cplxOf_wk hu8) .nil))))).2 (renL_mem (.cons rfl (.cons rfl (.cons rfl (.cons rfl .nil))))) (WkR.nil _)) rfl) (ih.2.2.1 _ _ _ _ _ _ _ x h)⟩
      · obtain ⟨u0, hu0, h⟩ := Option.bind_eq_some_iff.1 h
        obtain ⟨u1, hu1, h⟩ := Option.bind_eq_some_iff.1 h
        obtain ⟨u2, hu2, h⟩ := Option.bind_eq_some_iff.1 h
        obtain ⟨u3, hu3, h⟩ := Option.bind_eq_some_iff.1 h
        obtain ⟨u4, hu4, h⟩ := Option.bind_eq_some_iff.1 h
        obtain ⟨u5, hu5, h⟩ := Option.bind_eq_some_iff.1 h
        obtain ⟨u6, hu6, h⟩ := Option.bind_eq_some_iff.1 h
        obtain ⟨u7, hu7, h⟩ := Option.bind_eq_some_iff.1 h
        obtain ⟨u8, hu8, h⟩ := Option.bind_eq_some_iff.1 h
        exact .inl ⟨4, _, rfl, code_j_lex_Tokens_0_4_find, SemC.pre (k := 1) (by decide) (WkA.env (WkA.cons (strOf_wk hu0) rfl (WkA.cons (ownOf_wk hu1) rfl (WkA.cons (ptrOf_wk hu2) rfl (WkA.cons (intOf_wk hu3) rfl WkA.nil)))) 116) (wkR_sig (WkR.cons (cellsN_wk hu4 (.cons (intOf_wk hu5) (.cons (strOf_wk hu6) (.cons (intOf_wk hu7) (.cons (cplxOf_wk hu8) .nil))))).1 (cellsN_wk hu4 (.cons (intOf_wk hu5) (.cons (strOf_wk hu6) (.cons (intOf_wk hu7) (.cons (cplxOf_wk hu8) .nil))))).2 (renL_mem (.cons rfl (.cons rfl (.cons rfl (.cons rfl .nil))))) (WkR.nil _)) rfl) (ih.2.2.2.1 _ _ _ _ _ _ _ x h)⟩
      · obtain ⟨u0, hu0, h⟩ := Option.bind_eq_some_iff.1 h
        obtain ⟨u1, hu1, h⟩ := Option.bind_eq_some_iff.1 h
        obtain ⟨u2, hu2, h⟩ := Option.bind_eq_some_iff.1 h
        obtain ⟨u3, hu3, h⟩ := Option.bind_eq_some_iff.1 h
        obtain ⟨u4, hu4, h⟩ := Option.bind_eq_some_iff.1 h
        obtain ⟨u5, hu5, h⟩ := Option.bind_eq_some_iff.1 h
        exact .inl ⟨5, _, rfl, code_j_lex_Tokens_0_5_find, SemC.pre (k := 1) (by decide) (WkA.env (WkA.cons (ptrOf_wk hu0) rfl WkA.nil) 116) (wkR_sig (WkR.cons (cellsN_wk hu1 (.cons (intOf_wk hu2) (.cons (strOf_wk hu3) (.cons (intOf_wk hu4) (.cons (cplxOf_wk hu5) .nil))))).1 (cellsN_wk hu1 (.cons (intOf_wk hu2) (.cons (strOf_wk hu3) (.cons (intOf_wk hu4) (.cons (cplxOf_wk hu5) .nil))))).2 (renL_mem (.cons rfl (.cons rfl (.cons rfl (.cons rfl .nil))))) (WkR.nil _)) rfl) (ih.2.2.2.2.1 _ _ _ _ x h)⟩
      · obtain ⟨u0, hu0, h⟩ := Option.bind_eq_some_iff.1 h
        obtain ⟨u1, hu1, h⟩ := Option.bind_eq_some_iff.1 h
        obtain ⟨u2, hu2, h⟩ := Option.bind_eq_some_iff.1 h
        obtain ⟨u3, hu3, h⟩ := Option.bind_eq_some_iff.1 h
        obtain ⟨u4, hu4, h⟩ := Option.bind_eq_some_iff.1 h
        obtain ⟨u5, hu5, h⟩ := Option.bind_eq_some_iff.1 h
        obtain ⟨u6, hu6, h⟩ := Option.bind_eq_some_iff.1 h
        obtain ⟨u7, hu7, h⟩ := Option.bind_eq_some_iff.1 h
        obtain ⟨u8, hu8, h⟩ := Option.bind_eq_some_iff.1 h
        obtain ⟨u9, hu9, h⟩ := Option.bind_eq_some_iff.1 h
        exact .inl ⟨6, _, rfl, code_j_lex_Tokens_0_6_find, SemC.pre (k := 1) (by decide) (WkA.env (WkA.cons (strOf_wk hu0) rfl (WkA.cons (ownOf_wk hu1) rfl (WkA.cons (ptrOf_wk hu2) rfl (WkA.cons (intOf_wk hu3) rfl (WkA.cons (intOf_wk hu4) rfl WkA.nil))))) 116) (wkR_sig (WkR.cons (cellsN_wk hu5 (.cons (intOf_wk hu6) (.cons (strOf_wk hu7) (.cons (intOf_wk hu8) (.cons (cplxOf_wk hu9) .nil))))).1 (cellsN_wk hu5 (.cons (intOf_wk hu6) (.cons (strOf_wk hu7) (.cons (intOf_wk hu8) (.cons (cplxOf_wk hu9) .nil))))).2 (renL_mem (.cons rfl (.cons rfl (.cons rfl (.cons rfl .nil))))) (WkR.nil _)) rfl) (ih.2.2.2.2.2.1 _ _ _ _ _ _ _ _ x h)⟩
      · obtain ⟨u0, hu0, h⟩ := Option.bind_eq_some_iff.1 h
        obtain ⟨u1, hu1, h⟩ := Option.bind_eq_some_iff.1 h
        obtain ⟨u2, hu2, h⟩ := Option.bind_eq_some_iff.1 h
        obtain ⟨u3, hu3, h⟩ := Option.bind_eq_some_iff.1 h
        obtain ⟨u4, hu4, h⟩ := Option.bind_eq_some_iff.1 h
        obtain ⟨u5, hu5, h⟩ := Option.bind_eq_some_iff.1 h
        obtain ⟨u6, hu6, h⟩ := Option.bind_eq_some_iff.1 h
        obtain ⟨u7, hu7, h⟩ := Option.bind_eq_some_iff.1 h
        obtain ⟨u8, hu8, h⟩ := Option.bind_eq_some_iff.1 h
        exact .inl ⟨0, _, rfl, code_j_lex_Tokens_0_0_find, SemC.pre (k := 1) (by decide) (WkA.env (WkA.cons (strOf_wk hu0) rfl (WkA.cons (ownOf_wk hu1) rfl (WkA.cons (ptrOf_wk hu2) rfl (WkA.cons (intOf_wk hu3) rfl WkA.nil)))) 116) (wkR_sig (WkR.cons (cellsN_wk hu4 (.cons (intOf_wk hu5) (.cons (strOf_wk hu6) (.cons (intOf_wk hu7) (.cons (cplxOf_wk hu8) .nil))))).1 (cellsN_wk hu4 (.cons (intOf_wk hu5) (.cons (strOf_wk hu6) (.cons (intOf_wk hu7) (.cons (cplxOf_wk hu8) .nil))))).2 (renL_mem (.cons rfl (.cons rfl (.cons rfl (.cons rfl .nil))))) (WkR.nil _)) rfl) (ih.2.2.2.2.2.2 _ _ _ _ _ _ _ x h)⟩
      · obtain ⟨u0, hu0, h⟩ := Option.bind_eq_some_iff.1 h
        obtain ⟨u1, hu1, h⟩ := Option.bind_eq_some_iff.1 h
        obtain ⟨u2, hu2, h⟩ := Option.bind_eq_some_iff.1 h
        obtain ⟨u3, hu3, h⟩ := Option.bind_eq_some_iff.1 h
        obtain ⟨u4, hu4, h⟩ := Option.bind_eq_some_iff.1 h
        obtain ⟨u5, hu5, h⟩ := Option.bind_eq_some_iff.1 h
        obtain ⟨u6, hu6, h⟩ := Option.bind_eq_some_iff.1 h
        obtain ⟨u7, hu7, h⟩ := Option.bind_eq_some_iff.1 h
        simp only [Option.some.injEq] at h
        subst h
        exact .inr ⟨fun l hl => (by cases hl), 1, _, _, by decide, WkA.env (WkA.cons (ownOf_wk hu0) rfl (WkA.cons (cplxOf_wk hu1) rfl (WkA.cons (intOf_wk hu2) rfl WkA.nil))) 116, (wkR_sig (WkR.cons (cellsN_wk hu3 (.cons (intOf_wk hu4) (.cons (strOf_wk hu5) (.cons (intOf_wk hu6) (.cons (cplxOf_wk hu7) .nil))))).1 (cellsN_wk hu3 (.cons (intOf_wk hu4) (.cons (strOf_wk hu5) (.cons (intOf_wk hu6) (.cons (cplxOf_wk hu7) .nil))))).2 (renL_mem (.cons rfl (.cons rfl (.cons rfl (.cons rfl .nil))))) (WkR.nil _)) rfl), rfl, rfl, rfl⟩
      · cases h
    · intro s0 s1 s2 s3 x h
      refine scope_step (sp_lex_Tokens_ok n) (code_j_lex_Tokens_0_ok.find code_j_lex_Tokens_0_5_find) (fun a ha => absurd ha (by rw [show loopsOf code_j_lex_Tokens_0_5 = [] from by kernel_rfl]; simp)) (no_scope (by kernel_rfl)) ((j_lex_Tokens_0_eq5 n (j_lex_Tokens_0 n m) s0 s1 s2 s3).trans h) (fun ex E sg h => ?_)
      unfold j_lex_Tokens_0_K at h
      split at h
      · obtain ⟨u0, hu0, h⟩ := Option.bind_eq_some_iff.1 h
        obtain ⟨u1, hu1, h⟩ := Option.bind_eq_some_iff.1 h
        obtain ⟨u2, hu2, h⟩ := Option.bind_eq_some_iff.1 h
        obtain ⟨u3, hu3, h⟩ := Option.bind_eq_some_iff.1 h
        obtain ⟨u4, hu4, h⟩ := Option.bind_eq_some_iff.1 h
        obtain ⟨u5, hu5, h⟩ := Option.bind_eq_some_iff.1 h
        obtain ⟨u6, hu6, h⟩ := Option.bind_eq_some_iff.1 h
        exact .inl ⟨1, _, rfl, code_j_lex_Tokens_0_1_find, SemC.pre (k := 1) (by decide) (WkA.env (WkA.cons (ownOf_wk hu0) rfl (WkA.cons (ptrOf_wk hu1) rfl WkA.nil)) 116) (wkR_sig (WkR.cons (cellsN_wk hu2 (.cons (intOf_wk hu3) (.cons (strOf_wk hu4) (.cons (intOf_wk hu5) (.cons (cplxOf_wk hu6) .nil))))).1 (cellsN_wk hu2 (.cons (intOf_wk hu3) (.cons (strOf_wk hu4) (.cons (intOf_wk hu5) (.cons (cplxOf_wk hu6) .nil))))).2 (renL_mem (.cons rfl (.cons rfl (.cons rfl (.cons rfl .nil))))) (WkR.nil _)) rfl) (ih.1 _ _ _ _ _ x h)⟩
      · obtain ⟨u0, hu0, h⟩ := Option.bind_eq_some_iff.1 h
        obtain ⟨u1, hu1, h⟩ := Option.bind_eq_some_iff.1 h
        obtain ⟨u2, hu2, h⟩ := Option.bind_eq_some_iff.1 h
        obtain ⟨u3, hu3, h⟩ := Option.bind_eq_some_iff.1 h
        obtain ⟨u4, hu4, h⟩ := Option.bind_eq_some_iff.1 h
        obtain ⟨u5, hu5, h⟩ := Option.bind_eq_some_iff.1 h
        obtain ⟨u6, hu6, h⟩ := Option.bind_eq_some_iff.1 h
        obtain ⟨u7, hu7, h⟩ := Option.bind_eq_some_iff.1 h
        obtain ⟨u8, hu8, h⟩ := Option.bind_eq_some_iff.1 h
        exact .inl ⟨2, _, rfl, code_j_lex_Tokens_0_2_find, SemC.pre (k := 1) (by decide) (WkA.env (WkA.cons (strOf_wk hu0) rfl (WkA.cons (ownOf_wk hu1) rfl (WkA.cons (ptrOf_wk hu2) rfl (WkA.cons (intOf_wk hu3) rfl WkA.nil)))) 116) (wkR_sig (WkR.cons (cellsN_wk hu4 (.cons (intOf_wk hu5) (.cons (strOf_wk hu6) (.cons (intOf_wk hu7) (.cons (cplxOf_wk hu8) .nil))))).1 (cellsN_wk hu4 (.cons (intOf_wk hu5) (.cons (strOf_wk hu6) (.cons (intOf_wk hu7) (.cons (cplxOf_wk hu8) .nil))))).2 (renL_mem (.cons rfl (.cons rfl (.cons rfl (.cons rfl .nil))))) (WkR.nil _)) rfl) (ih.2.1 _ _ _ _ _ _ _ x h)⟩
      · obtain ⟨u0, hu0, h⟩ := Option.bind_eq_some_iff.1 h
        obtain ⟨u1, hu1, h⟩ := Option.bind_eq_some_iff.1 h
        obtain ⟨u2, hu2, h⟩ := Option.bind_eq_some_iff.1 h
        obtain ⟨u3, hu3, h⟩ := Option.bind_eq_some_iff.1 h
        obtain ⟨u4, hu4, h⟩ := Option.bind_eq_some_iff.1 h
        obtain ⟨u5, hu5, h⟩ := Option.bind_eq_some_iff.1 h
        obtain ⟨u6, hu6, h⟩ := Option.bind_eq_some_iff.1 h
        obtain ⟨u7, hu7, h⟩ := Option.bind_eq_some_iff.1 h
        obtain ⟨u8, hu8, h⟩ := Option.bind_eq_some_iff.1 h
        exact .inl ⟨3, _, rfl, code_j_lex_Tokens_0_3_find, SemC.pre (k := 1) (by decide) (WkA.env (WkA.cons (strOf_wk hu0) rfl (WkA.cons (ownOf_wk hu1) rfl (WkA.cons (ptrOf_wk hu2) rfl (WkA.cons (intOf_wk hu3) rfl WkA.nil)))) 116) (wkR_sig (WkR.cons (cellsN_wk hu4 (.cons (intOf_wk hu5) (.cons (strOf_wk hu6) (.cons (intOf_wk hu7) (.cons (cplxOf_wk hu8) .nil))))).1 (cellsN_wk hu4 (.cons (intOf_wk hu5) (.cons (strOf_wk hu6) (.cons (intOf_wk hu7) (.cons (cplxOf_wk hu8) .nil))))).2 (renL_mem (.cons rfl (.cons rfl (.cons rfl (.cons rfl .nil))))) (WkR.nil _)) rfl) (ih.2.2.1 _ _ _ _ _ _ _ x h)⟩
      · obtain ⟨u0, hu0, h⟩ := Option.bind_eq_some_iff.1 h
        obtain ⟨u1, hu1, h⟩ := Option.bind_eq_some_iff.1 h
        obtain ⟨u2, hu2, h⟩ := Option.bind_eq_some_iff.1 h
        obtain ⟨u3, hu3, h⟩ := Option.bind_eq_some_iff.1 h
        obtain ⟨u4, hu4, h⟩ := Option.bind_eq_some_iff.1 h
        obtain ⟨u5, hu5, h⟩ := Option.bind_eq_some_iff.1 h
        obtain ⟨u6, hu6, h⟩ := Option.bind_eq_some_iff.1 h
        obtain ⟨u7, hu7, h⟩ := Option.bind_eq_some_iff.1 h
        obtain ⟨u8, hu8, h⟩ := Option.bind_eq_some_iff.1 h
        exact .inl ⟨4, _, rfl, code_j_lex_Tokens_0_4_find, SemC.pre (k := 1) (by decide) (WkA.env (WkA.cons (strOf_wk hu0) rfl (WkA.cons (ownOf_wk hu1) rfl (WkA.cons (ptrOf_wk hu2) rfl (WkA.cons (intOf_wk hu3) rfl WkA.nil)))) 116) (wkR_sig (WkR.cons (cellsN_wk hu4 (.cons (intOf_wk hu5) (.cons (strOf_wk hu6) (.cons (intOf_wk hu7) (.cons (cplxOf_wk hu8) .nil))))).1 (cellsN_wk hu4 (.cons (intOf_wk hu5) (.cons (strOf_wk hu6) (.cons (intOf_wk hu7) (.cons (cplxOf_wk hu8) .nil))))).2 (renL_mem (.cons rfl (.cons rfl (.cons rfl (.cons rfl .nil))))) (WkR.nil _)) rfl) (ih.2.2.2.1 _ _ _ _ _ _ _ x h)⟩
      · obtain ⟨u0, hu0, h⟩ := Option.bind_eq_some_iff.1 h
        obtain ⟨u1, hu1, h⟩ := Option.bind_eq_some_iff.1 h
        obtain ⟨u2, hu2, h⟩ := Option.bind_eq_some_iff.1 h
        obtain ⟨u3, hu3, h⟩ := Option.bind_eq_some_iff.1 h
        obtain ⟨u4, hu4, h⟩ := Option.bind_eq_some_iff.1 h
        obtain ⟨u5, hu5, h⟩ := Option.bind_eq_some_iff.1 h
        exact .inl ⟨5, _, rfl, code_j_lex_Tokens_0_5_find, SemC.pre (k := 1) (by decide) (WkA.env (WkA.cons (ptrOf_wk hu0) rfl WkA.nil) 116) (wkR_sig (WkR.cons (cellsN_wk hu1 (.cons (intOf_wk hu2) (.cons (strOf_wk hu3) (.cons (intOf_wk hu4) (.cons (cplxOf_wk hu5) .nil))))).1 (cellsN_wk hu1 (.cons (intOf_wk hu2) (.cons (strOf_wk hu3) (.cons (intOf_wk hu4) (.cons (cplxOf_wk hu5) .nil))))).2 (renL_mem (.cons rfl (.cons rfl (.cons rfl (.cons rfl .nil))))) (WkR.nil _)) rfl) (ih.2.2.2.2.1 _ _ _ _ x h)⟩
      · obtain ⟨u0, hu0, h⟩ := Option.bind_eq_some_iff.1 h
        obtain ⟨u1, hu1, h⟩ := Option.bind_eq_some_iff.1 h
        obtain ⟨u2, hu2, h⟩ := Option.bind_eq_some_iff.1 h
        obtain ⟨u3, hu3, h⟩ := Option.bind_eq_some_iff.1 h
        obtain ⟨u4, hu4, h⟩ := Option.bind_eq_some_iff.1 h
        obtain ⟨u5, hu5, h⟩ := Option.bind_eq_some_iff.1 h
        obtain ⟨u6, hu6, h⟩ := Option.bind_eq_some_iff.1 h
        obtain ⟨u7, hu7, h⟩ := Option.bind_eq_some_iff.1 h
        obtain ⟨u8, hu8, h⟩ := Option.bind_eq_some_iff.1 h
        obtain ⟨u9, hu9, h⟩ := Option.bind_eq_some_iff.1 h
        exact .inl ⟨6, _, rfl, code_j_lex_Tokens_0_6_find, SemC.pre (k := 1) (by decide) (WkA.env (WkA.cons (strOf_wk hu0) rfl (WkA.cons (ownOf_wk hu1) rfl (WkA.cons (ptrOf_wk hu2) rfl (WkA.cons (intOf_wk hu3) rfl (WkA.cons (intOf_wk hu4) rfl WkA.nil))))) 116) (wkR_sig (WkR.cons (cellsN_wk hu5 (.cons (intOf_wk hu6) (.cons (strOf_wk hu7) (.cons (intOf_wk hu8) (.cons (cplxOf_wk hu9) .nil))))).1 (cellsN_wk hu5 (.cons (intOf_wk hu6) (.cons (strOf_wk hu7) (.cons (intOf_wk hu8) (.cons (cplxOf_wk hu9) .nil))))).2 (renL_mem (.cons rfl (.cons rfl (.cons rfl (.cons rfl .nil))))) (WkR.nil _)) rfl) (ih.2.2.2.2.2.1 _ _ _ _ _ _ _ _ x h)⟩
      · obtain ⟨u0, hu0, h⟩ := Option.bind_eq_some_iff.1 h
        obtain ⟨u1, hu1, h⟩ := Option.bind_eq_some_iff.1 h
        obtain ⟨u2, hu2, h⟩ := Option.bind_eq_some_iff.1 h
        obtain ⟨u3, hu3, h⟩ := Option.bind_eq_some_iff.1 h
        obtain ⟨u4, hu4, h⟩ := Option.bind_eq_some_iff.1 h
        obtain ⟨u5, hu5, h⟩ := Option.bind_eq_some_iff.1 h
        obtain ⟨u6, hu6, h⟩ := Option.bind_eq_some_iff.1 h
        obtain ⟨u7, hu7, h⟩ := Option.bind_eq_some_iff.1 h
        obtain ⟨u8, hu8, h⟩ := Option.bind_eq_some_iff.1 h
        exact .inl ⟨0, _, rfl, code_j_lex_Tokens_0_0_find, SemC.pre (k := 1) (by decide) (WkA.env (WkA.cons (strOf_wk hu0) rfl (WkA.cons (ownOf_wk hu1) rfl (WkA.cons (ptrOf_wk hu2) rfl (WkA.cons (intOf_wk hu3) rfl WkA.nil)))) 116) (wkR_sig (WkR.cons (cellsN_wk hu4 (.cons (intOf_wk hu5) (.cons (strOf_wk hu6) (.cons (intOf_wk hu7) (.cons (cplxOf_wk hu8) .nil))))).1 (cellsN_wk hu4 (.cons (intOf_wk hu5) (.cons (strOf_wk hu6) (.cons (intOf_wk hu7) (.cons (cplxOf_wk hu8) .nil))))).2 (renL_mem (.cons rfl (.cons rfl (.cons rfl (.cons rfl .nil))))) (WkR.nil _)) rfl) (ih.2.2.2.2.2.2 _ _ _ _ _ _ _ x h)⟩
      · obtain ⟨u0, hu0, h⟩ := Option.bind_eq_some_iff.1 h
        obtain ⟨u1, hu1, h⟩ := Option.bind_eq_some_iff.1 h
        obtain ⟨u2, hu2, h⟩ := Option.bind_eq_some_iff.1 h
        obtain ⟨u3, hu3, h⟩ := Option.bind_eq_some_iff.1 h
        obtain ⟨u4, hu4, h⟩ := Option.bind_eq_some_iff.1 h
        obtain ⟨u5, hu5, h⟩ := Option.bind_eq_some_iff.1 h
        obtain ⟨u6, hu6, h⟩ := Option.bind_eq_some_iff.1 h
        obtain ⟨u7, hu7, h⟩ := Option.bind_eq_some_iff.1 h
        simp only [Option.some.injEq] at h
        subst h
        exact .inr ⟨fun l hl => (by cases hl), 1, _, _, by decide, WkA.env (WkA.cons (ownOf_wk hu0) rfl (WkA.cons (cplxOf_wk hu1) rfl (WkA.cons (intOf_wk hu2) rfl WkA.nil))) 116, (wkR_sig (WkR.cons (cellsN_wk hu3 (.cons (intOf_wk hu4) (.cons (strOf_wk hu5) (.cons (intOf_wk hu6) (.cons (cplxOf_wk hu7) .nil))))).1 (cellsN_wk hu3 (.cons (intOf_wk hu4) (.cons (strOf_wk hu5) (.cons (intOf_wk hu6) (.cons (cplxOf_wk hu7) .nil))))).2 (renL_mem (.cons rfl (.cons rfl (.cons rfl (.cons rfl .nil))))) (WkR.nil _)) rfl), rfl, rfl, rfl⟩
      · cases h
    · intro s0 s1 s2 s3 s4 s5 s6 s7 x h
      refine scope_step (sp_lex_Tokens_ok n) (code_j_lex_Tokens_0_ok.find code_j_lex_Tokens_0_6_find) (fun a ha => absurd ha (by rw [show loopsOf code_j_lex_Tokens_0_6 = [] from by kernel_rfl]; simp)) (no_scope (by kernel_rfl)) ((j_lex_Tokens_0_eq6 n (j_lex_Tokens_0 n m) s0 s1 s2 s3 s4 s5 s6 s7).trans h) (fun ex E sg h => ?_)
      unfold j_lex_Tokens_0_K at h
      split at h
      · obtain ⟨u0, hu0, h⟩ := Option.bind_eq_some_iff.1 h
        obtain ⟨u1, hu1, h⟩ := Option.bind_eq_some_iff.1 h
        obtain ⟨u2, hu2, h⟩ := Option.bind_eq_some_iff.1 h
        obtain ⟨u3, hu3, h⟩ := Option.bind_eq_some_iff.1 h
        obtain ⟨u4, hu4, h⟩ := Option.bind_eq_some_iff.1 h
        obtain ⟨u5, hu5, h⟩ := Option.bind_eq_some_iff.1 h
        obtain ⟨u6, hu6, h⟩ := Option.bind_eq_some_iff.1 h
        exact .inl ⟨1, _, rfl, code_j_lex_Tokens_0_1_find, SemC.pre (k := 1) (by decide) (WkA.env (WkA.cons (ownOf_wk hu0) rfl (WkA.cons (ptrOf_wk hu1) rfl WkA.nil)) 116) (wkR_sig (WkR.cons (cellsN_wk hu2 (.cons (intOf_wk hu3) (.cons (strOf_wk hu4) (.cons (intOf_wk hu5) (.cons (cplxOf_wk hu6) .nil))))).1 (cellsN_wk hu2 (.cons (intOf_wk hu3) (.cons (strOf_wk hu4) (.cons (intOf_wk hu5) (.cons (cplxOf_wk hu6) .nil))))).2 (renL_mem (.cons rfl (.cons rfl (.cons rfl (.cons rfl .nil))))) (WkR.nil _)) rfl) (ih.1 _ _ _ _ _ x h)⟩
      · obtain ⟨u0, hu0, h⟩ := Option.bind_eq_some_iff.1 h
        obtain ⟨u1, hu1, h⟩ := Option.bind_eq_some_iff.1 h
        obtain ⟨u2, hu2, h⟩ := Option.bind_eq_some_iff.1 h
        obtain ⟨u3, hu3, h⟩ := Option.bind_eq_some_iff.1 h
        obtain ⟨u4, hu4, h⟩ := Option.bind_eq_some_iff.1 h
        obtain ⟨u5, hu5, h⟩ := Option.bind_eq_some_iff.1 h
        obtain ⟨u6, hu6, h⟩ := Option.bind_eq_some_iff.1 h
        obtain ⟨u7, hu7, h⟩ := Option.bind_eq_some_iff.1 h
        obtain ⟨u8, hu8, h⟩ := Option.bind_eq_some_iff.1 h
        exact .inl ⟨2, _, rfl, code_j_lex_Tokens_0_2_find, SemC.pre (k := 1) (by decide) (WkA.env (WkA.cons (strOf_wk hu0) rfl (WkA.cons (ownOf_wk hu1) rfl (WkA.cons (ptrOf_wk hu2) rfl (WkA.cons (intOf_wk hu3) rfl WkA.nil)))) 116) (wkR_sig (WkR.cons (cellsN_wk hu4 (.cons (intOf_wk hu5) (.cons (strOf_wk hu6) (.cons (intOf_wk hu7) (.cons (cplxOf_wk hu8) .nil))))).1 (cellsN_wk hu4 (.cons (intOf_wk hu5) (.cons (strOf_wk hu6) (.cons (intOf_wk hu7) (.cons (cplxOf_wk hu8) .nil))))).2 (renL_mem (.cons rfl (.cons rfl (.cons rfl (.cons rfl .nil))))) (WkR.nil _)) rfl) (ih.2.1 _ _ _ _ _ _ _ x h)⟩
      · obtain ⟨u0, hu0, h⟩ := Option.bind_eq_some_iff.1 h
        obtain ⟨u1, hu1, h⟩ := Option.bind_eq_some_iff.1 h
        obtain ⟨u2, hu2, h⟩ := Option.bind_eq_some_iff.1 h
        obtain ⟨u3, hu3, h⟩ := Option.bind_eq_some_iff.1 h
        obtain ⟨u4, hu4, h⟩ := Option.bind_eq_some_iff.1 h
        obtain ⟨u5, hu5, h⟩ := Option.bind_eq_some_iff.1 h
        obtain ⟨u6, hu6, h⟩ := Option.bind_eq_some_iff.1 h
        obtain ⟨u7, hu7, h⟩ := Option.bind_eq_some_iff.1 h
        obtain ⟨u8, hu8, h⟩ := Option.bind_eq_some_iff.1 h
        exact .inl ⟨3, _, rfl, code_j_lex_Tokens_0_3_find, SemC.pre (k := 1) (by decide) (WkA.env (WkA.cons (strOf_wk hu0) rfl (WkA.cons (ownOf_wk hu1) rfl (WkA.cons (ptrOf_wk hu2) rfl (WkA.cons (intOf_wk hu3) rfl WkA.nil)))) 116) (wkR_sig (WkR.cons (cellsN_wk hu4 (.cons (intOf_wk hu5) (.cons (strOf_wk hu6) (.cons (intOf_wk hu7) (.cons (cplxOf_wk hu8) .nil))))).1 (cellsN_wk hu4 (.cons (intOf_wk hu5) (.cons (strOf_wk hu6) (.cons (intOf_wk hu7) (.cons (cplxOf_wk hu8) .nil))))).2 (renL_mem (.cons rfl (.cons rfl (.cons rfl (.cons rfl .nil))))) (WkR.nil _)) rfl) (ih.2.2.1 _ _ _ _ _ _ _ x h)⟩
      · obtain ⟨u0, hu0, h⟩ := Option.bind_eq_some_iff.1 h
        obtain ⟨u1, hu1, h⟩ := Option.bind_eq_some_iff.1 h
        obtain ⟨u2, hu2, h⟩ := Option.bind_eq_some_iff.1 h
        obtain ⟨u3, hu3, h⟩ := Option.bind_eq_some_iff.1 h
        obtain ⟨u4, hu4, h⟩ := Option.bind_eq_some_iff.1 h
        obtain ⟨u5, hu5, h⟩ := Option.bind_eq_some_iff.1 h
        obtain ⟨u6, hu6, h⟩ := Option.bind_eq_some_iff.1 h
        obtain ⟨u7, hu7, h⟩ := Option.bind_eq_some_iff.1 h
        obtain ⟨u8, hu8, h⟩ := Option.bind_eq_some_iff.1 h
        exact .inl ⟨4, _, rfl, code_j_lex_Tokens_0_4_find, SemC.pre (k := 1) (by decide) (WkA.env (WkA.cons (strOf_wk hu0) rfl (WkA.cons (ownOf_wk hu1) rfl (WkA.cons (ptrOf_wk hu2) rfl (WkA.cons (intOf_wk hu3) rfl WkA.nil)))) 116) (wkR_sig (WkR.cons (cellsN_wk hu4 (.cons (intOf_wk hu5) (.cons (strOf_wk hu6) (.cons (intOf_wk hu7) (.cons (cplxOf_wk hu8) .nil))))).1 (cellsN_wk hu4 (.cons (intOf_wk hu5) (.cons (strOf_wk hu6) (.cons (intOf_wk hu7) (.cons (cplxOf_wk hu8) .nil))))).2 (renL_mem (.cons rfl (.cons rfl (.cons rfl (.cons rfl .nil))))) (WkR.nil _)) rfl) (ih.2.2.2.1 _ _ _ _ _ _ _ x h)⟩
      · obtain ⟨u0, hu0, h⟩ := Option.bind_eq_some_iff.1 h
        obtain ⟨u1, hu1, h⟩ := Option.bind_eq_some_iff.1 h
        obtain ⟨u2, hu2, h⟩ := Option.bind_eq_some_iff.1 h
        obtain ⟨u3, hu3, h⟩ := Option.bind_eq_some_iff.1 h
        obtain ⟨u4, hu4, h⟩ := Option.bind_eq_some_iff.1 h
        obtain ⟨u5, hu5, h⟩ := Option.bind_eq_some_iff.1 h
        exact .inl ⟨5, _, rfl, code_j_lex_Tokens_0_5_find, SemC.pre (k := 1) (by decide) (WkA.env (WkA.cons (ptrOf_wk hu0) rfl WkA.nil) 116) (wkR_sig (WkR.cons (cellsN_wk hu1 (.cons (intOf_wk hu2) (.cons (strOf_wk hu3) (.cons (intOf_wk hu4) (.cons (cplxOf_wk hu5) .nil))))).1 (cellsN_wk hu1 (.cons (intOf_wk hu2) (.cons (strOf_wk hu3) (.cons (intOf_wk hu4) (.cons (cplxOf_wk hu5) .nil))))).2 (renL_mem (.cons rfl (.cons rfl (.cons rfl (.cons rfl .nil))))) (WkR.nil _)) rfl) (ih.2.2.2.2.1 _ _ _ _ x h)⟩
      · obtain ⟨u0, hu0, h⟩ := Option.bind_eq_some_iff.1 h
        obtain ⟨u1, hu1, h⟩ := Option.bind_eq_some_iff.1 h
        obtain ⟨u2, hu2, h⟩ := Option.bind_eq_some_iff.1 h
        obtain ⟨u3, hu3, h⟩ := Option.bind_eq_some_iff.1 h
        obtain ⟨u4, hu4, h⟩ := Option.bind_eq_some_iff.1 h
        obtain ⟨u5, hu5, h⟩ := Option.bind_eq_some_iff.1 h
        obtain ⟨u6, hu6, h⟩ := Option.bind_eq_some_iff.1 h
        obtain ⟨u7, hu7, h⟩ := Option.bind_eq_some_iff.1 h
        obtain ⟨u8, hu8, h⟩ := Option.bind_eq_some_iff.1 h
        obtain ⟨u9, hu9, h⟩ := Option.bind_eq_some_iff.1 h
        exact .inl ⟨6, _, rfl, code_j_lex_Tokens_0_6_find, SemC.pre (k := 1) (by decide) (WkA.env (WkA.cons (strOf_wk hu0) rfl (WkA.cons (ownOf_wk hu1) rfl (WkA.cons (ptrOf_wk hu2) rfl (WkA.cons (intOf_wk hu3) rfl (WkA.cons (intOf_wk hu4) rfl WkA.nil))))) 116) (wkR_sig (WkR.cons (cellsN_wk hu5 (.cons (intOf_wk hu6) (.cons (strOf_wk hu7) (.cons (intOf_wk hu8) (.cons (cplxOf_wk hu9) .nil))))).1 (cellsN_wk hu5 (.cons (intOf_wk hu6) (.cons (strOf_wk hu7) (.cons (intOf_wk hu8) (.cons (cplxOf_wk hu9) .nil))))).2 (renL_mem (.cons rfl (.cons rfl (.cons rfl (.cons rfl .nil))))) (WkR.nil _)) rfl) (ih.2.2.2.2.2.1 _ _ _ _ _ _ _ _ x h)⟩
      · obtain ⟨u0, hu0, h⟩ := Option.bind_eq_some_iff.1 h
        obtain ⟨u1, hu1, h⟩ := Option.bind_eq_some_iff.1 h
        obtain ⟨u2, hu2, h⟩ := Option.bind_eq_some_iff.1 h
        obtain ⟨u3, hu3, h⟩ := Option.bind_eq_some_iff.1 h
        obtain ⟨u4, hu4, h⟩ := Option.bind_eq_some_iff.1 h
        obtain ⟨u5, hu5, h⟩ := Option.bind_eq_some_iff.1 h
        obtain ⟨u6, hu6, h⟩ := Option.bind_eq_some_iff.1 h
        obtain ⟨u7, hu7, h⟩ := Option.bind_eq_some_iff.1 h
        obtain ⟨u8, hu8, h⟩ := Option.bind_eq_some_iff.1 h
        exact .inl ⟨0, _, rfl, code_j_lex_Tokens_0_0_find, SemC.pre (k := 1) (by decide) (WkA.env (WkA.cons (strOf_wk hu0) rfl (WkA.cons (ownOf_wk hu1) rfl (WkA.cons (ptrOf_wk hu2) rfl (WkA.cons (intOf_wk hu3) rfl WkA.nil)))) 116) (wkR_sig (WkR.cons (cellsN_wk hu4 (.cons (intOf_wk hu5) (.cons (strOf_wk hu6) (.cons (intOf_wk hu7) (.cons (cplxOf_wk hu8) .nil))))).1 (cellsN_wk hu4 (.cons (intOf_wk hu5) (.cons (strOf_wk hu6) (.cons (intOf_wk hu7) (.cons (cplxOf_wk hu8) .nil))))).2 (renL_mem (.cons rfl (.cons rfl (.cons rfl (.cons rfl .nil))))) (WkR.nil _)) rfl) (ih.2.2.2.2.2.2 _ _ _ _ _ _ _ x h)⟩
      · obtain ⟨u0, hu0, h⟩ := Option.bind_eq_some_iff.1 h
        obtain ⟨u1, hu1, h⟩ := Option.bind_eq_some_iff.1 h
        obtain ⟨u2, hu2, h⟩ := Option.bind_eq_some_iff.1 h
        obtain ⟨u3, hu3, h⟩ := Option.bind_eq_some_iff.1 h
        obtain ⟨u4, hu4, h⟩ := Option.bind_eq_some_iff.1 h
        obtain ⟨u5, hu5, h⟩ := Option.bind_eq_some_iff.1 h
        obtain ⟨u6, hu6, h⟩ := Option.bind_eq_some_iff.1 h
        obtain ⟨u7, hu7, h⟩ := Option.bind_eq_some_iff.1 h
        simp only [Option.some.injEq] at h
        subst h
        exact .inr ⟨fun l hl => (by cases hl), 1, _, _, by decide, WkA.env (WkA.cons (ownOf_wk hu0) rfl (WkA.cons (cplxOf_wk hu1) rfl (WkA.cons (intOf_wk hu2) rfl WkA.nil))) 116, (wkR_sig (WkR.cons (cellsN_wk hu3 (.cons (intOf_wk hu4) (.cons (strOf_wk hu5) (.cons (intOf_wk hu6) (.cons (cplxOf_wk hu7) .nil))))).1 (cellsN_wk hu3 (.cons (intOf_wk hu4) (.cons (strOf_wk hu5) (.cons (intOf_wk hu6) (.cons (cplxOf_wk hu7) .nil))))).2 (renL_mem (.cons rfl (.cons rfl (.cons rfl (.cons rfl .nil))))) (WkR.nil _)) rfl), rfl, rfl, rfl⟩
      · cases h
    · intro s0 s1 s2 s3 s4 s5 s6 x h
      refine scope_step (sp_lex_Tokens_ok n) (code_j_lex_Tokens_0_ok.find code_j_lex_Tokens_0_0_find) (fun a ha => absurd ha (by rw [show loopsOf code_j_lex_Tokens_0_0 = [] from by kernel_rfl]; simp)) (no_scope (by kernel_rfl)) ((j_lex_Tokens_0_eq0 n (j_lex_Tokens_0 n m) s0 s1 s2 s3 s4 s5 s6).trans h) (fun ex E sg h => ?_)
      unfold j_lex_Tokens_0_K at h
      split at h
      · obtain ⟨u0, hu0, h⟩ := Option.bind_eq_some_iff.1 h
        obtain ⟨u1, hu1, h⟩ := Option.bind_eq_some_iff.1 h
        obtain ⟨u2, hu2, h⟩ := Option.bind_eq_some_iff.1 h
        obtain ⟨u3, hu3, h⟩ := Option.bind_eq_some_iff.1 h
        obtain ⟨u4, hu4, h⟩ := Option.bind_eq_some_iff.1 h
        obtain ⟨u5, hu5, h⟩ := Option.bind_eq_some_iff.1 h
        obtain ⟨u6, hu6, h⟩ := Option.bind_eq_some_iff.1 h
        exact .inl ⟨1, _, rfl, code_j_lex_Tokens_0_1_find, SemC.pre (k := 1) (by decide) (WkA.env (WkA.cons (ownOf_wk hu0) rfl (WkA.cons (ptrOf_wk hu1) rfl WkA.nil)) 116) (wkR_sig (WkR.cons (cellsN_wk hu2 (.cons (intOf_wk hu3) (.cons (strOf_wk hu4) (.cons (intOf_wk hu5) (.cons (cplxOf_wk hu6) .nil))))).1 (cellsN_wk hu2 (.cons (intOf_wk hu3) (.cons (strOf_wk hu4) (.cons (intOf_wk hu5) (.cons (cplxOf_wk hu6) .nil))))).2 (renL_mem (.cons rfl (.cons rfl (.cons rfl (.cons rfl .nil))))) (WkR.nil _)) rfl) (ih.1 _ _ _ _ _ x h)⟩
      · obtain ⟨u0, hu0, h⟩ := Option.bind_eq_some_iff.1 h
        obtain ⟨u1, hu1, h⟩ := Option.bind_eq_some_iff.1 h
        obtain ⟨u2, hu2, h⟩ := Option.bind_eq_some_iff.1 h
        obtain ⟨u3, hu3, h⟩ := Option.bind_eq_some_iff.1 h
        obtain ⟨u4, hu4, h⟩ := Option.bind_eq_some_iff.1 h
        obtain ⟨u5, hu5, h⟩ := Option.bind_eq_some_iff.1 h
        obtain ⟨u6, hu6, h⟩ := Option.bind_eq_some_iff.1 h
        obtain ⟨u7, hu7, h⟩ := Option.bind_eq_some_iff.1 h
        obtain ⟨u8, hu8, h⟩ := Option.bind_eq_some_iff.1 h
        exact .inl ⟨2, _, rfl, code_j_lex_Tokens_0_2_find, SemC.pre (k := 1) (by decide) (WkA.env (WkA.cons (strOf_wk hu0) rfl (WkA.cons (ownOf_wk hu1) rfl (WkA.cons (ptrOf_wk hu2) rfl (WkA.cons (intOf_wk hu3) rfl WkA.nil)))) 116) (wkR_sig (WkR.cons (cellsN_wk hu4 (.cons (intOf_wk hu5) (.cons (strOf_wk hu6) (.cons (intOf_wk hu7) (.cons (cplxOf_wk hu8) .nil))))).1 (cellsN_wk hu4 (.cons (intOf_wk hu5) (.cons (strOf_wk hu6) (.cons (intOf_wk hu7) (.cons (cplxOf_wk hu8) .nil))))).2 (renL_mem (.cons rfl (.cons rfl (.cons rfl (.cons rfl .nil))))) (WkR.nil _)) rfl) (ih.2.1 _ _ _ _ _ _ _ x h)⟩
      · obtain ⟨u0, hu0, h⟩ := Option.bind_eq_some_iff.1 h
        obtain ⟨u1, hu1, h⟩ := Option.bind_eq_some_iff.1 h
        obtain ⟨u2, hu2, h⟩ := Option.bind_eq_some_iff.1 h
        obtain ⟨u3, hu3, h⟩ := Option.bind_eq_some_iff.1 h
        obtain ⟨u4, hu4, h⟩ := Option.bind_eq_some_iff.1 h
        obtain ⟨u5, hu5, h⟩ := Option.bind_eq_some_iff.1 h
        obtain ⟨u6, hu6, h⟩ := Option.bind_eq_some_iff.1 h
        obtain ⟨u7, hu7, h⟩ := Option.bind_eq_some_iff.1 h
        obtain ⟨u8, hu8, h⟩ := Option.bind_eq_some_iff.1 h
        exact .inl ⟨3, _, rfl, code_j_lex_Tokens_0_3_find, SemC.pre (k := 1) (by decide) (WkA.env (WkA.cons (strOf_wk hu0) rfl (WkA.cons (ownOf_wk hu1) rfl (WkA.cons (ptrOf_wk hu2) rfl (WkA.cons (intOf_wk hu3) rfl WkA.nil)))) 116) (wkR_sig (WkR.cons (cellsN_wk hu4 (.cons (intOf_wk hu5) (.cons (strOf_wk hu6) (.cons (intOf_wk hu7) (.cons (cplxOf_wk hu8) .nil))))).1 (cellsN_wk hu4 (.cons (intOf_wk hu5) (.cons (strOf_wk hu6) (.cons (intOf_wk hu7) (.cons (cplxOf_wk hu8) .nil))))).2 (renL_mem (.cons rfl (.cons rfl (.cons rfl (.cons rfl .nil))))) (WkR.nil _)) rfl) (ih.2.2.1 _ _ _ _ _ _ _ x h)⟩
      · obtain ⟨u0, hu0, h⟩ := Option.bind_eq_some_iff.1 h
        obtain ⟨u1, hu1, h⟩ := Option.bind_eq_some_iff.1 h
        obtain ⟨u2, hu2, h⟩ := Option.bind_eq_some_iff.1 h
        obtain ⟨u3, hu3, h⟩ := Option.bind_eq_some_iff.1 h
        obtain ⟨u4, hu4, h⟩ := Option.bind_eq_some_iff.1 h
        obtain ⟨u5, hu5, h⟩ := Option.bind_eq_some_iff.1 h
        obtain ⟨u6, hu6, h⟩ := Option.bind_eq_some_iff.1 h
        obtain ⟨u7, hu7, h⟩ := Option.bind_eq_some_iff.1 h
        obtain ⟨u8, hu8, h⟩ := Option.bind_eq_some_iff.1 h
        exact .inl ⟨4, _, rfl, code_j_lex_Tokens_0_4_find, SemC.pre (k := 1) (by decide) (WkA.env (WkA.cons (strOf_wk hu0) rfl (WkA.cons (ownOf_wk hu1) rfl (WkA.cons (ptrOf_wk hu2) rfl (WkA.cons (intOf_wk hu3) rfl WkA.nil)))) 116) (wkR_sig (WkR.cons (cellsN_wk hu4 (.cons (intOf_wk hu5) (.cons (strOf_wk hu6) (.cons (intOf_wk hu7) (.cons (cplxOf_wk hu8) .nil))))).1 (cellsN_wk hu4 (.cons (intOf_wk hu5) (.cons (strOf_wk hu6) (.cons (intOf_wk hu7) (.cons (cplxOf_wk hu8) .nil))))).2 (renL_mem (.cons rfl (.cons rfl (.cons rfl (.cons rfl .nil))))) (WkR.nil _)) rfl) (ih.2.2.2.1 _ _ _ _ _ _ _ x h)⟩
      · obtain ⟨u0, hu0, h⟩ := Option.bind_eq_some_iff.1 h
        obtain ⟨u1, hu1, h⟩ := Option.bind_eq_some_iff.1 h
        obtain ⟨u2, hu2, h⟩ := Option.bind_eq_some_iff.1 h
        obtain ⟨u3, hu3, h⟩ := Option.bind_eq_some_iff.1 h
        obtain ⟨u4, hu4, h⟩ := Option.bind_eq_some_iff.1 h
        obtain ⟨u5, hu5, h⟩ := Option.bind_eq_some_iff.1 h
        exact .inl ⟨5, _, rfl, code_j_lex_Tokens_0_5_find, SemC.pre (k := 1) (by decide) (WkA.env (WkA.cons (ptrOf_wk hu0) rfl WkA.nil) 116) (wkR_sig (WkR.cons (cellsN_wk hu1 (.cons (intOf_wk hu2) (.cons (strOf_wk hu3) (.cons (intOf_wk hu4) (.cons (cplxOf_wk hu5) .nil))))).1 (cellsN_wk hu1 (.cons (intOf_wk hu2) (.cons (strOf_wk hu3) (.cons (intOf_wk hu4) (.cons (cplxOf_wk hu5) .nil))))).2 (renL_mem (.cons rfl (.cons rfl (.cons rfl (.cons rfl .nil))))) (WkR.nil _)) rfl) (ih.2.2.2.2.1 _ _ _ _ x h)⟩
      · obtain ⟨u0, hu0, h⟩ := Option.bind_eq_some_iff.1 h
        obtain ⟨u1, hu1, h⟩ := Option.bind_eq_some_iff.1 h
        obtain ⟨u2, hu2, h⟩ := Option.bind_eq_some_iff.1 h
        obtain ⟨u3, hu3, h⟩ := Option.bind_eq_some_iff.1 h
        obtain ⟨u4, hu4, h⟩ := Option.bind_eq_some_iff.1 h
        obtain ⟨u5, hu5, h⟩ := Option.bind_eq_some_iff.1 h
        obtain ⟨u6, hu6, h⟩ := Option.bind_eq_some_iff.1 h
        obtain ⟨u7, hu7, h⟩ := Option.bind_eq_some_iff.1 h
        obtain ⟨u8, hu8, h⟩ := Option.bind_eq_some_iff.1 h
        obtain ⟨u9, hu9, h⟩ := Option.bind_eq_some_iff.1 h
        exact .inl ⟨6, _, rfl, code_j_lex_Tokens_0_6_find, SemC.pre (k := 1) (by decide) (WkA.env (WkA.cons (strOf_wk hu0) rfl (WkA.cons (ownOf_wk hu1) rfl (WkA.cons (ptrOf_wk hu2) rfl (WkA.cons (intOf_wk hu3) rfl (WkA.cons (intOf_wk hu4) rfl WkA.nil))))) 116) (wkR_sig (WkR.cons (cellsN_wk hu5 (.cons (intOf_wk hu6) (.cons (strOf_wk hu7) (.cons (intOf_wk hu8) (.cons (cplxOf_wk hu9) .nil))))).1 (cellsN_wk hu5 (.cons (intOf_wk hu6) (.cons (strOf_wk hu7) (.cons (intOf_wk hu8) (.cons (cplxOf_wk hu9) .nil))))).2 (renL_mem (.cons rfl (.cons rfl (.cons rfl (.cons rfl .nil))))) (WkR.nil _)) rfl) (ih.2.2.2.2.2.1 _ _ _ _ _ _ _ _ x h)⟩
      · obtain ⟨u0, hu0, h⟩ := Option.bind_eq_some_iff.1 h
        obtain ⟨u1, hu1, h⟩ := Option.bind_eq_some_iff.1 h
        obtain ⟨u2, hu2, h⟩ := Option.bind_eq_some_iff.1 h
        obtain ⟨u3, hu3, h⟩ := Option.bind_eq_some_iff.1 h
        obtain ⟨u4, hu4, h⟩ := Option.bind_eq_some_iff.1 h
        obtain ⟨u5, hu5, h⟩ := Option.bind_eq_some_iff.1 h
        obtain ⟨u6, hu6, h⟩ := Option.bind_eq_some_iff.1 h
        obtain ⟨u7, hu7, h⟩ := Option.bind_eq_some_iff.1 h
        obtain ⟨u8, hu8, h⟩ := Option.bind_eq_some_iff.1 h
        exact .inl ⟨0, _, rfl, code_j_lex_Tokens_0_0_find, SemC.pre (k := 1) (by decide) (WkA.env (WkA.cons (strOf_wk hu0) rfl (WkA.cons (ownOf_wk hu1) rfl (WkA.cons (ptrOf_wk hu2) rfl (WkA.cons (intOf_wk hu3) rfl WkA.nil)))) 116) (wkR_sig (WkR.cons (cellsN_wk hu4 (.cons (intOf_wk hu5) (.cons (strOf_wk hu6) (.cons (intOf_wk hu7) (.cons (cplxOf_wk hu8) .nil))))).1 (cellsN_wk hu4 (.cons (intOf_wk hu5) (.cons (strOf_wk hu6) (.cons (intOf_wk hu7) (.cons (cplxOf_wk hu8) .nil))))).2 (renL_mem (.cons rfl (.cons rfl (.cons rfl (.cons rfl .nil))))) (WkR.nil _)) rfl) (ih.2.2.2.2.2.2 _ _ _ _ _ _ _ x h)⟩
      · obtain ⟨u0, hu0, h⟩ := Option.bind_eq_some_iff.1 h
        obtain ⟨u1, hu1, h⟩ := Option.bind_eq_some_iff.1 h
        obtain ⟨u2, hu2, h⟩ := Option.bind_eq_some_iff.1 h
        obtain ⟨u3, hu3, h⟩ := Option.bind_eq_some_iff.1 h
        obtain ⟨u4, hu4, h⟩ := Option.bind_eq_some_iff.1 h
        obtain ⟨u5, hu5, h⟩ := Option.bind_eq_some_iff.1 h
        obtain ⟨u6, hu6, h⟩ := Option.bind_eq_some_iff.1 h
        obtain ⟨u7, hu7, h⟩ := Option.bind_eq_some_iff.1 h
        simp only [Option.some.injEq] at h
        subst h
        exact .inr ⟨fun l hl => (by cases hl), 1, _, _, by decide, WkA.env (WkA.cons (ownOf_wk hu0) rfl (WkA.cons (cplxOf_wk hu1) rfl (WkA.cons (intOf_wk hu2) rfl WkA.nil))) 116, (wkR_sig (WkR.cons (cellsN_wk hu3 (.cons (intOf_wk hu4) (.cons (strOf_wk hu5) (.cons (intOf_wk hu6) (.cons (cplxOf_wk hu7) .nil))))).1 (cellsN_wk hu3 (.cons (intOf_wk hu4) (.cons (strOf_wk hu5) (.cons (intOf_wk hu6) (.cons (cplxOf_wk hu7) .nil))))).2 (renL_mem (.cons rfl (.cons rfl (.cons rfl (.cons rfl .nil))))) (WkR.nil _)) rfl), rfl, rfl, rfl⟩
      · cases h
theorem j_lex_Tokens_0_ok (n : Nat) : JumpOk Tryd.prog (sp_lex_Tokens n) 0 116 code_j_lex_Tokens_0 := by
    intro l rest hf R E sg K r h
    have hl := find_mem hf
    rw [show labelsOf code_j_lex_Tokens_0 = [0, 2, 3, 4, 6, 5, 1] from by kernel_rfl] at hl
    simp only [List.mem_cons, List.not_mem_nil, or_false] at hl
    rcases hl with rfl | rfl | rfl | rfl | rfl | rfl | rfl
    · obtain rfl : rest = code_j_lex_Tokens_0_0 := (Option.some.inj (code_j_lex_Tokens_0_0_find.symm.trans hf)).symm
      have h : j_lex_Tokens_0_S0 n R E sg K = some r := h
      unfold j_lex_Tokens_0_S0 at h
      obtain ⟨u0, hu0, h⟩ := Option.bind_eq_some_iff.1 h
      obtain ⟨u1, hu1, h⟩ := Option.bind_eq_some_iff.1 h
      obtain ⟨u2, hu2, h⟩ := Option.bind_eq_some_iff.1 h
      obtain ⟨u3, hu3, h⟩ := Option.bind_eq_some_iff.1 h
      obtain ⟨u4, hu4, h⟩ := Option.bind_eq_some_iff.1 h
      obtain ⟨u5, hu5, h⟩ := Option.bind_eq_some_iff.1 h
      obtain ⟨u6, hu6, h⟩ := Option.bind_eq_some_iff.1 h
      obtain ⟨u7, hu7, h⟩ := Option.bind_eq_some_iff.1 h
      obtain ⟨u8, hu8, h⟩ := Option.bind_eq_some_iff.1 h
      obtain ⟨x, hx, h⟩ := Option.bind_eq_some_iff.1 h
      refine (SemC.pre (k := 1) (by decide) (WkA.env (WkA.cons (strOf_wk hu0) rfl (WkA.cons (ownOf_wk hu1) rfl (WkA.cons (ptrOf_wk hu2) rfl (WkA.cons (intOf_wk hu3) rfl WkA.nil)))) 116) (wkR_sig (WkR.cons (cellsN_wk hu4 (.cons (intOf_wk hu5) (.cons (strOf_wk hu6) (.cons (intOf_wk hu7) (.cons (cplxOf_wk hu8) .nil))))).1 (cellsN_wk hu4 (.cons (intOf_wk hu5) (.cons (strOf_wk hu6) (.cons (intOf_wk hu7) (.cons (cplxOf_wk hu8) .nil))))).2 (renL_mem (.cons rfl (.cons rfl (.cons rfl (.cons rfl .nil))))) (WkR.nil _)) rfl) ((j_lex_Tokens_0_run n n).2.2.2.2.2.2 _ _ _ _ _ _ _ x hx)).mono ?_
      intro ex e s hq
      obtain ⟨rfl, rfl, rfl⟩ := hq
      exact ⟨_, rfl, h⟩
    · obtain rfl : rest = code_j_lex_Tokens_0_2 := (Option.some.inj (code_j_lex_Tokens_0_2_find.symm.trans hf)).symm
      have h : j_lex_Tokens_0_S2 n R E sg K = some r := h
      unfold j_lex_Tokens_0_S2 at h
      obtain ⟨u0, hu0, h⟩ := Option.bind_eq_some_iff.1 h
      obtain ⟨u1, hu1, h⟩ := Option.bind_eq_some_iff.1 h
      obtain ⟨u2, hu2, h⟩ := Option.bind_eq_some_iff.1 h
      obtain ⟨u3, hu3, h⟩ := Option.bind_eq_some_iff.1 h
      obtain ⟨u4, hu4, h⟩ := Option.bind_eq_some_iff.1 h
      obtain ⟨u5, hu5, h⟩ := Option.bind_eq_some_iff.1 h
      obtain ⟨u6, hu6, h⟩ := Option.bind_eq_some_iff.1 h
      obtain ⟨u7, hu7, h⟩ := Option.bind_eq_some_iff.1 h
      obtain ⟨u8, hu8, h⟩ := Option.bind_eq_some_iff.1 h
      obtain ⟨x, hx, h⟩ := Option.bind_eq_some_iff.1 h
      refine (SemC.pre (k := 1) (by decide) (WkA.env (WkA.cons (strOf_wk hu0) rfl (WkA.cons (ownOf_wk hu1) rfl (WkA.cons (ptrOf_wk hu2) rfl (WkA.cons (intOf_wk hu3) rfl WkA.nil)))) 116) (wkR_sig (WkR.cons (cellsN_wk hu4 (.cons (intOf_wk hu5) (.cons (strOf_wk hu6) (.cons (intOf_wk hu7) (.cons (cplxOf_wk hu8) .nil))))).1 (cellsN_wk hu4 (.cons (intOf_wk hu5) (.cons (strOf_wk hu6) (.cons (intOf_wk hu7) (.cons (cplxOf_wk hu8) .nil))))).2 (renL_mem (.cons rfl (.cons rfl (.cons rfl (.cons rfl .nil))))) (WkR.nil _)) rfl) ((j_lex_Tokens_0_run n n).2.1 _ _ _ _ _ _ _ x hx)).mono ?_
      intro ex e s hq
      obtain ⟨rfl, rfl, rfl⟩ := hq
      exact ⟨_, rfl, h⟩
    · obtain rfl : rest = code_j_lex_Tokens_0_3 := (Option.some.inj (code_j_lex_Tokens_0_3_find.symm.trans hf)).symm
      have h : j_lex_Tokens_0_S3 n R E sg K = some r := h
      unfold j_lex_Tokens_0_S3 at h
      obtain ⟨u0, hu0, h⟩ := Option.bind_eq_some_iff.1 h
      obtain ⟨u1, hu1, h⟩ := Option.bind_eq_some_iff.1 h
      obtain ⟨u2, hu2, h⟩ := Option.bind_eq_some_iff.1 h
      obtain ⟨u3, hu3, h⟩ := Option.bind_eq_some_iff.1 h
      obtain ⟨u4, hu4, h⟩ := Option.bind_eq_some_iff.1 h
      obtain ⟨u5, hu5, h⟩ := Option.bind_eq_some_iff.1 h
      obtain ⟨u6, hu6, h⟩ := Option.bind_eq_some_iff.1 h
      obtain ⟨u7, hu7, h⟩ := Option.bind_eq_some_iff.1 h
      obtain ⟨u8, hu8, h⟩ := Option.bind_eq_some_iff.1 h
      obtain ⟨x, hx, h⟩ := Option.bind_eq_some_iff.1 h
      refine (SemC.pre (k := 1) (by decide) (WkA.env (WkA.cons (strOf_wk hu0) rfl (WkA.cons (ownOf_wk hu1) rfl (WkA.cons (ptrOf_wk hu2) rfl (WkA.cons (intOf_wk hu3) rfl WkA.nil)))) 116) (wkR_sig (WkR.cons (cellsN_wk hu4 (.cons (intOf_wk hu5) (.cons (strOf_wk hu6) (.cons (intOf_wk hu7) (.cons (cplxOf_wk hu8) .nil))))).1 (cellsN_wk hu4 (.cons (intOf_wk hu5) (.cons (strOf_wk hu6) (.cons (intOf_wk hu7) (.cons (cplxOf_wk hu8) .nil))))).2 (renL_mem (.cons rfl (.cons rfl (.cons rfl (.cons rfl .nil))))) (WkR.nil _)) rfl) ((j_lex_Tokens_0_run n n).2.2.1 _ _ _ _ _ _ _ x hx)).mono ?_
      intro ex e s hq
      obtain ⟨rfl, rfl, rfl⟩ := hq
      exact ⟨_, rfl, h⟩
    · obtain rfl : rest = code_j_lex_Tokens_0_4 := (Option.some.inj (code_j_lex_Tokens_0_4_find.symm.trans hf)).symm
      have h : j_lex_Tokens_0_S4 n R E sg K = some r := h
      unfold j_lex_Tokens_0_S4 at h
      obtain ⟨u0, hu0, h⟩ := Option.bind_eq_some_iff.1 h
      obtain ⟨u1, hu1, h⟩ := Option.bind_eq_some_iff.1 h
      obtain ⟨u2, hu2, h⟩ := Option.bind_eq_some_iff.1 h
      obtain ⟨u3, hu3, h⟩ := Option.bind_eq_some_iff.1 h
      obtain ⟨u4, hu4, h⟩ := Option.bind_eq_some_iff.1 h
      obtain ⟨u5, hu5, h⟩ := Option.bind_eq_some_iff.1 h
      obtain ⟨u6, hu6, h⟩ := Option.bind_eq_some_iff.1 h
      obtain ⟨u7, hu7, h⟩ := Option.bind_eq_some_iff.1 h
      obtain ⟨u8, hu8, h⟩ := Option.bind_eq_some_iff.1 h
      obtain ⟨x, hx, h⟩ := Option.bind_eq_some_iff.1 h
      refine (SemC.pre (k := 1) (by decide) (WkA.env (WkA.cons (strOf_wk hu0) rfl (WkA.cons (ownOf_wk hu1) rfl (WkA.cons (ptrOf_wk hu2) rfl (WkA.cons (intOf_wk hu3) rfl WkA.nil)))) 116) (wkR_sig (WkR.cons (cellsN_wk hu4 (.cons (intOf_wk hu5) (.cons (strOf_wk hu6) (.cons (intOf_wk hu7) (.cons (cplxOf_wk hu8) .nil))))).1 (cellsN_wk hu4 (.cons (intOf_wk hu5) (.cons (strOf_wk hu6) (.cons (intOf_wk hu7) (.cons (cplxOf_wk hu8) .nil))))).2 (renL_mem (.cons rfl (.cons rfl (.cons rfl (.cons rfl .nil))))) (WkR.nil _)) rfl) ((j_lex_Tokens_0_run n n).2.2.2.1 _ _ _ _ _ _ _ x hx)).mono ?_
      intro ex e s hq
      obtain ⟨rfl, rfl, rfl⟩ := hq
      exact ⟨_, rfl, h⟩
    · obtain rfl : rest = code_j_lex_Tokens_0_6 := (Option.some.inj (code_j_lex_Tokens_0_6_find.symm.trans hf)).symm
      have h : j_lex_Tokens_0_S6 n R E sg K = some r := h
      unfold j_lex_Tokens_0_S6 at h
      obtain ⟨u0, hu0, h⟩ := Option.bind_eq_some_iff.1 h
      obtain ⟨u1, hu1, h⟩ := Option.bind_eq_some_iff.1 h
      obtain ⟨u2, hu2, h⟩ := Option.bind_eq_some_iff.1 h
      obtain ⟨u3, hu3, h⟩ := Option.bind_eq_some_iff.1 h
      obtain ⟨u4, hu4, h⟩ := Option.bind_eq_some_iff.1 h
      obtain ⟨u5, hu5, h⟩ := Option.bind_eq_some_iff.1 h
      obtain ⟨u6, hu6, h⟩ := Option.bind_eq_some_iff.1 h
      obtain ⟨u7, hu7, h⟩ := Option.bind_eq_some_iff.1 h
      obtain ⟨u8, hu8, h⟩ := Option.bind_eq_some_iff.1 h
      obtain ⟨u9, hu9, h⟩ := Option.bind_eq_some_iff.1 h
      obtain ⟨x, hx, h⟩ := Option.bind_eq_some_iff.1 h
      refine (SemC.pre (k := 1) (by decide) (WkA.env (WkA.cons (strOf_wk hu0) rfl (WkA.cons (ownOf_wk hu1) rfl (WkA.cons (ptrOf_wk hu2) rfl (WkA.cons (intOf_wk hu3) rfl (WkA.cons (intOf_wk hu4) rfl WkA.nil))))) 116) (wkR_sig (WkR.cons (cellsN_wk hu5 (.cons (intOf_wk hu6) (.cons (strOf_wk hu7) (.cons (intOf_wk hu8) (.cons (cplxOf_wk hu9) .nil))))).1 (cellsN_wk hu5 (.cons (intOf_wk hu6) (.cons (strOf_wk hu7) (.cons (intOf_wk hu8) (.cons (cplxOf_wk hu9) .nil))))).2 (renL_mem (.cons rfl (.cons rfl (.cons rfl (.cons rfl .nil))))) (WkR.nil _)) rfl) ((j_lex_Tokens_0_run n n).2.2.2.2.2.1 _ _ _ _ _ _ _ _ x hx)).mono ?_
      intro ex e s hq
      obtain ⟨rfl, rfl, rfl⟩ := hq
      exact ⟨_, rfl, h⟩
    · obtain rfl : rest = code_j_lex_Tokens_0_5 := (Option.some.inj (code_j_lex_Tokens_0_5_find.symm.trans hf)).symm
      have h : j_lex_Tokens_0_S5 n R E sg K = some r := h
      unfold j_lex_Tokens_0_S5 at h
      obtain ⟨u0, hu0, h⟩ := Option.bind_eq_some_iff.1 h
      obtain ⟨u1, hu1, h⟩ := Option.bind_eq_some_iff.1 h
      obtain ⟨u2, hu2, h⟩ := Option.bind_eq_some_iff.1 h
      obtain ⟨u3, hu3, h⟩ := Option.bind_eq_some_iff.1 h
      obtain ⟨u4, hu4, h⟩ := Option.bind_eq_some_iff.1 h
      obtain ⟨u5, hu5, h⟩ := Option.bind_eq_some_iff.1 h
      obtain ⟨x, hx, h⟩ := Option.bind_eq_some_iff.1 h
      refine (SemC.pre (k := 1) (by decide) (WkA.env (WkA.cons (ptrOf_wk hu0) rfl WkA.nil) 116) (wkR_sig (WkR.cons (cellsN_wk hu1 (.cons (intOf_wk hu2) (.cons (strOf_wk hu3) (.cons (intOf_wk hu4) (.cons (cplxOf_wk hu5) .nil))))).1 (cellsN_wk hu1 (.cons (intOf_wk hu2) (.cons (strOf_wk hu3) (.cons (intOf_wk hu4) (.cons (cplxOf_wk hu5) .nil))))).2 (renL_mem (.cons rfl (.cons rfl (.cons rfl (.cons rfl .nil))))) (WkR.nil _)) rfl) ((j_lex_Tokens_0_run n n).2.2.2.2.1 _ _ _ _ x hx)).mono ?_
      intro ex e s hq
      obtain ⟨rfl, rfl, rfl⟩ := hq
      exact ⟨_, rfl, h⟩
    · obtain rfl : rest = code_j_lex_Tokens_0_1 := (Option.some.inj (code_j_lex_Tokens_0_1_find.symm.trans hf)).symm
      have h : j_lex_Tokens_0_S1 n R E sg K = some r := h
      unfold j_lex_Tokens_0_S1 at h
      obtain ⟨u0, hu0, h⟩ := Option.bind_eq_some_iff.1 h
      obtain ⟨u1, hu1, h⟩ := Option.bind_eq_some_iff.1 h
      obtain ⟨u2, hu2, h⟩ := Option.bind_eq_some_iff.1 h
      obtain ⟨u3, hu3, h⟩ := Option.bind_eq_some_iff.1 h
      obtain ⟨u4, hu4, h⟩ := Option.bind_eq_some_iff.1 h
      obtain ⟨u5, hu5, h⟩ := Option.bind_eq_some_iff.1 h
      obtain ⟨u6, hu6, h⟩ := Option.bind_eq_some_iff.1 h
      obtain ⟨x, hx, h⟩ := Option.bind_eq_some_iff.1 h
      refine (SemC.pre (k := 1) (by decide) (WkA.env (WkA.cons (ownOf_wk hu0) rfl (WkA.cons (ptrOf_wk hu1) rfl WkA.nil)) 116) (wkR_sig (WkR.cons (cellsN_wk hu2 (.cons (intOf_wk hu3) (.cons (strOf_wk hu4) (.cons (intOf_wk hu5) (.cons (cplxOf_wk hu6) .nil))))).1 (cellsN_wk hu2 (.cons (intOf_wk hu3) (.cons (strOf_wk hu4) (.cons (intOf_wk hu5) (.cons (cplxOf_wk hu6) .nil))))).2 (renL_mem (.cons rfl (.cons rfl (.cons rfl (.cons rfl .nil))))) (WkR.nil _)) rfl) ((j_lex_Tokens_0_run n n).1 _ _ _ _ _ x hx)).mono ?_
      intro ex e s hq
      obtain ⟨rfl, rfl, rfl⟩ := hq
      exact ⟨_, rfl, h⟩
def K_lex_Tokens (v : V) (s : Sig) : Option ((List T) × (Nat × Nat) × Int) := Option.bind (V.tupN 3 v) fun u0 => Option.bind (V.lstOf (u0.getD 0 .any)) fun u1 => Option.bind (V.cplxOf .f64 (u0.getD 1 .any)) fun u2 => Option.bind (V.intOf .i64 (u0.getD 2 .any)) fun u3 => some (u1, u2, u3)
theorem K_lex_Tokens_wk {v : V} {s : Sig} {r : (List T) × (Nat × Nat) × Int} (h : K_lex_Tokens v s = some r) : Wk v (enc_lex_Tokens r) ∧ WkS 0 s (encS_lex_Tokens r) := by
  unfold K_lex_Tokens at h
  obtain ⟨u0, hu0, h⟩ := Option.bind_eq_some_iff.1 h
  obtain ⟨u1, hu1, h⟩ := Option.bind_eq_some_iff.1 h
  obtain ⟨u2, hu2, h⟩ := Option.bind_eq_some_iff.1 h
  obtain ⟨u3, hu3, h⟩ := Option.bind_eq_some_iff.1 h
  simp only [Option.some.injEq] at h
  subst h
  exact ⟨(tupN_wk hu0 (.cons (lstOf_wk hu1) (.cons (cplxOf_wk hu2) (.cons (intOf_wk hu3) .nil)))), (WkS.none _)⟩
theorem m_lex_Tokens_eq (n : Nat) (a0 : ByteArray) : mF Tryd.prog (sp_lex_Tokens n) 24 [(V.t (T.sc (.string a0)))] [] K_lex_Tokens = m_lex_Tokens n a0 := by kernel_rfl
theorem m_lex_Tokens_ok (n : Nat) : ok_lex_Tokens (m_lex_Tokens n) := fun a0 r h => mF_ok sound (sp_lex_Tokens_ok n) code_lex_Tokens_fn code_lex_Tokens_body (fun a ha => absurd ha (by rw [show loopsOf code_lex_Tokens = [] from by kernel_rfl]; simp)) (forall_getD (d := .skip) 1 (by kernel_rfl) (fun i hi => match i, hi with | 0, _ => j_lex_Tokens_0_ok n | i + 1, hi => absurd hi (by omega))) ((m_lex_Tokens_eq n a0).trans h) (fun v s hk => ⟨(K_lex_Tokens_wk hk).1, rfl, (K_lex_Tokens_wk hk).2⟩)


/-! suture/suturelaw2.known: closed -/
def m_suturelaw2_known (n : Nat) : Option (Bool) := some true
def enc_suturelaw2_known (r : Bool) : V := (V.t (T.sc (.bool r)))
def encS_suturelaw2_known (r : Bool) : Sig := []
def ok_suturelaw2_known (m : Option (Bool)) : Prop := ∀ (r : Bool), m = some r → FuncOk Tryd.prog 25 [] [] (enc_suturelaw2_known r) (encS_suturelaw2_known r)
def c_suturelaw2_known (m : Option (Bool)) (vs : List V) (sg : Sig) : Option CallM := bif Nat.beq vs.length 0 && Nat.beq sg.length 0 then some { α := Bool, m := m, dflt := false, enc := fun y => ((V.t (T.sc (.bool y))), []) } else none
theorem c_suturelaw2_known_ok (m : Option (Bool)) (hm : ok_suturelaw2_known m) (vs : List V) (sg : Sig) (cm : CallM) (x : cm.α) (h : c_suturelaw2_known m vs sg = some cm) (hx : cm.m = some x) : FuncOk Tryd.prog 25 vs sg (cm.enc x).1 (cm.enc x).2 := by
  unfold c_suturelaw2_known at h
  have h0 := callee_sig h
  clear h
  obtain ⟨hl, hs, h⟩ := h0
  simp only [Option.some.injEq] at h
  subst h
  exact (hm x hx).wk (args_wk hl .nil) (wkSg_of hs .nil)
def spx_suturelaw2_known : Go.Eng.Spec := ⟨fun f vs sg => (match f with
    | 32 => c_strings_Count (m_strings_Count 0) vs sg
    | 33 => c_strings_LastIndexByte (m_strings_LastIndexByte 0) vs sg
    | 35 => c_strconv_Itoa (m_strconv_Itoa 0) vs sg
    | 42 => c_strings_IndexByte (m_strings_IndexByte 0) vs sg
    | 45 => c_strconv_Atoi (m_strconv_Atoi 0) vs sg
    | _ => none), fun R key E sg K => none⟩
theorem spx_suturelaw2_known_ok : CallsOk Tryd.prog spx_suturelaw2_known := by
  intro f vs sg cm x h hx
  simp only [spx_suturelaw2_known] at h
  split at h
  · exact c_strings_Count_ok _ (m_strings_Count_ok 0) vs sg cm x h hx
  · exact c_strings_LastIndexByte_ok _ (m_strings_LastIndexByte_ok 0) vs sg cm x h hx
  · exact c_strconv_Itoa_ok _ (m_strconv_Itoa_ok 0) vs sg cm x h hx
  · exact c_strings_IndexByte_ok _ (m_strings_IndexByte_ok 0) vs sg cm x h hx
  · exact c_strconv_Atoi_ok _ (m_strconv_Atoi_ok 0) vs sg cm x h hx
  · cases h
theorem m_suturelaw2_known_ok (n : Nat) : ok_suturelaw2_known (m_suturelaw2_known n) := fun r h => by
  cases h
  exact evFuncS_sound sound spx_suturelaw2_known_ok 40 _ _ _ _ _ (show evFuncS Tryd.prog spx_suturelaw2_known 40 25 [] [] = some (.t (.sc (.bool true)), []) from by kernel_rfl)


/-! suture/sutureref1.Within -/
def m_sutureref1_Within (n : Nat) (a0 : Int) (a1 : Int) (a2 : Int) : Option (Int) :=
some (if (a1 : Int) < (if (a0 : Int) < a2 then a0 else a2) then (if (a0 : Int) < a2 then a0 else a2) else a1)
def enc_sutureref1_Within (r : Int) : V := (V.t (T.sc (.int .i64 r)))
def encS_sutureref1_Within (r : Int) : Sig := []
def ok_sutureref1_Within (m : Int → Int → Int → Option (Int)) : Prop := ∀ (a0 : Int) (a1 : Int) (a2 : Int) (r : Int), m a0 a1 a2 = some r → FuncOk Tryd.prog 34 [(V.t (T.sc (.int .i64 a0))), (V.t (T.sc (.int .i64 a1))), (V.t (T.sc (.int .i64 a2)))] [] (enc_sutureref1_Within r) (encS_sutureref1_Within r)
def c_sutureref1_Within (m : Int → Int → Int → Option (Int)) (vs : List V) (sg : Sig) : Option CallM := bif Nat.beq vs.length 3 && Nat.beq sg.length 0 then Option.bind (V.intOf .i64 (vs.getD 0 .any)) fun u0 => Option.bind (V.intOf .i64 (vs.getD 1 .any)) fun u1 => Option.bind (V.intOf .i64 (vs.getD 2 .any)) fun u2 => some { α := Int, m := m u0 u1 u2, dflt := 0, enc := fun y => ((V.t (T.sc (.int .i64 y))), []) } else none
theorem c_sutureref1_Within_ok (m : Int → Int → Int → Option (Int)) (hm : ok_sutureref1_Within m) (vs : List V) (sg : Sig) (cm : CallM) (x : cm.α) (h : c_sutureref1_Within m vs sg = some cm) (hx : cm.m = some x) : FuncOk Tryd.prog 34 vs sg (cm.enc x).1 (cm.enc x).2 := by
  unfold c_sutureref1_Within at h
  have h0 := callee_sig h
  clear h
  obtain ⟨hl, hs, h⟩ := h0
  obtain ⟨u0, hu0, h⟩ := Option.bind_eq_some_iff.1 h
  obtain ⟨u1, hu1, h⟩ := Option.bind_eq_some_iff.1 h
  obtain ⟨u2, hu2, h⟩ := Option.bind_eq_some_iff.1 h
  simp only [Option.some.injEq] at h
  subst h
  exact (hm u0 u1 u2 x hx).wk (args_wk hl (.cons (intOf_wk hu0) (.cons (intOf_wk hu1) (.cons (intOf_wk hu2) .nil)))) (wkSg_of hs .nil)
noncomputable def code_sutureref1_Within : Code := Tryd.f34.body.getD .skip
noncomputable def sp_sutureref1_Within (n : Nat) : Go.Eng.Spec := ⟨fun f vs sg => (match f with
    | _ => none), fun R key E sg K => (match key with
    | _ => none)⟩
theorem sp_sutureref1_Within_ok (n : Nat) : CallsOk Tryd.prog (sp_sutureref1_Within n) := by
  intro f vs sg cm x h hx
  have h : (none : Option CallM) = some cm := h
  cases h
theorem code_sutureref1_Within_fn : Tryd.prog.funcs[34]? = some Tryd.f34 := Tryd.func34
theorem code_sutureref1_Within_body : Tryd.f34.body = some code_sutureref1_Within := by kernel_rfl
theorem code_sutureref1_Within_ok : CodeOk Tryd.prog code_sutureref1_Within := (sound 34 _ _ code_sutureref1_Within_fn code_sutureref1_Within_body).1
def K_sutureref1_Within (v : V) (s : Sig) : Option (Int) := Option.bind (V.intOf .i64 v) fun u0 => some u0
theorem K_sutureref1_Within_wk {v : V} {s : Sig} {r : Int} (h : K_sutureref1_Within v s = some r) : Wk v (enc_sutureref1_Within r) ∧ WkS 0 s (encS_sutureref1_Within r) := by
  unfold K_sutureref1_Within at h
  obtain ⟨u0, hu0, h⟩ := Option.bind_eq_some_iff.1 h
  simp only [Option.some.injEq] at h
  subst h
  exact ⟨(intOf_wk hu0), (WkS.none _)⟩
theorem m_sutureref1_Within_eq (n : Nat) (a0 : Int) (a1 : Int) (a2 : Int) : mF Tryd.prog (sp_sutureref1_Within n) 34 [(V.t (T.sc (.int .i64 a0))), (V.t (T.sc (.int .i64 a1))), (V.t (T.sc (.int .i64 a2)))] [] K_sutureref1_Within = m_sutureref1_Within n a0 a1 a2 := by kernel_rfl
theorem m_sutureref1_Within_ok (n : Nat) : ok_sutureref1_Within (m_sutureref1_Within n) := fun a0 a1 a2 r h => mF_ok sound (sp_sutureref1_Within_ok n) code_sutureref1_Within_fn code_sutureref1_Within_body (fun a ha => absurd ha (by rw [show loopsOf code_sutureref1_Within = [] from by kernel_rfl]; simp)) (no_scope (by kernel_rfl)) ((m_sutureref1_Within_eq n a0 a1 a2).trans h) (fun v s hk => ⟨(K_sutureref1_Within_wk hk).1, rfl, (K_sutureref1_Within_wk hk).2⟩)


/-! suture/sutureref1.Spot -/
def l_sutureref1_Spot_5_B (n : Nat) (k : ByteArray × Int × Int × Int × Int → Option (Int × Int)) : ByteArray × Int × Int × Int × Int → Option (Int × Int) := fun (s0, s1, s2, s3, s4) =>
bif (decide ((s4 : Int) < s1)) then (
Option.bind (bidx true s0 s4) fun b1 =>
bif ((((UInt8.toNat b1 : Nat) : Int) : Int) == 10) then (
k (s0, s1, (IntKind.wrap .i64 (s2 + 1)), 1, (IntKind.wrap .i64 (s4 + 1))))
else (
k (s0, s1, s2, (IntKind.wrap .i64 (s3 + 1)), (IntKind.wrap .i64 (s4 + 1)))))
else (
some (s2, s3))
def l_sutureref1_Spot_5 (n : Nat) : Nat → ByteArray × Int × Int × Int × Int → Option (Int × Int)
  | 0, _ => none
  | m + 1, s => l_sutureref1_Spot_5_B n (l_sutureref1_Spot_5 n m) s
def m_sutureref1_Spot (n : Nat) (a0 : ByteArray) (a1 : Int) : Option (Int × Int) :=
Option.bind (m_sutureref1_Within n a1 0 ((ByteArray.size a0 : Nat) : Int)) fun r0 =>
Option.bind (l_sutureref1_Spot_5 n n (a0, r0, 1, 1, 0)) fun p3 =>
some (p3.1, p3.2)
def enc_sutureref1_Spot (r : Int × Int) : V := (V.tup [(V.t (T.sc (.int .i64 r.1))), (V.t (T.sc (.int .i64 r.2)))])
def encS_sutureref1_Spot (r : Int × Int) : Sig := []
def ok_sutureref1_Spot (m : ByteArray → Int → Option (Int × Int)) : Prop := ∀ (a0 : ByteArray) (a1 : Int) (r : Int × Int), m a0 a1 = some r → FuncOk Tryd.prog 17 [(V.t (T.sc (.string a0))), (V.t (T.sc (.int .i64 a1)))] [] (enc_sutureref1_Spot r) (encS_sutureref1_Spot r)
def c_sutureref1_Spot (m : ByteArray → Int → Option (Int × Int)) (vs : List V) (sg : Sig) : Option CallM := bif Nat.beq vs.length 2 && Nat.beq sg.length 0 then Option.bind (V.strOf (vs.getD 0 .any)) fun u0 => Option.bind (V.intOf .i64 (vs.getD 1 .any)) fun u1 => some { α := Int × Int, m := m u0 u1, dflt := (0, 0), enc := fun y => ((V.tup [(V.t (T.sc (.int .i64 y.1))), (V.t (T.sc (.int .i64 y.2)))]), []) } else none
theorem c_sutureref1_Spot_ok (m : ByteArray → Int → Option (Int × Int)) (hm : ok_sutureref1_Spot m) (vs : List V) (sg : Sig) (cm : CallM) (x : cm.α) (h : c_sutureref1_Spot m vs sg = some cm) (hx : cm.m = some x) : FuncOk Tryd.prog 17 vs sg (cm.enc x).1 (cm.enc x).2 := by
  unfold c_sutureref1_Spot at h
  have h0 := callee_sig h
  clear h
  obtain ⟨hl, hs, h⟩ := h0
  obtain ⟨u0, hu0, h⟩ := Option.bind_eq_some_iff.1 h
  obtain ⟨u1, hu1, h⟩ := Option.bind_eq_some_iff.1 h
  simp only [Option.some.injEq] at h
  subst h
  exact (hm u0 u1 x hx).wk (args_wk hl (.cons (strOf_wk hu0) (.cons (intOf_wk hu1) .nil))) (wkSg_of hs .nil)
noncomputable def code_sutureref1_Spot : Code := Tryd.f17.body.getD .skip
def l_sutureref1_Spot_5_S (n : Nat) (R : Type) (E : SEnv) (sg : Sig) (K : Ex → SEnv → Sig → Option R) : Option R := Option.bind (V.strOf (SEnv.at E 0)) fun u0 => Option.bind (V.intOf .i64 (SEnv.at E 1)) fun u1 => Option.bind (V.intOf .i64 (SEnv.at E 6)) fun u2 => Option.bind (V.intOf .i64 (SEnv.at E 7)) fun u3 => Option.bind (V.intOf .i64 (SEnv.at E 8)) fun u4 => Option.bind (l_sutureref1_Spot_5 n n (u0, u1, u2, u3, u4)) fun p0 => K (.exit 0) [(6, (V.t (T.sc (.int .i64 p0.1)))), (7, (V.t (T.sc (.int .i64 p0.2))))] []
noncomputable def sp_sutureref1_Spot (n : Nat) : Go.Eng.Spec := ⟨fun f vs sg => (match f with
    | 34 => c_sutureref1_Within (m_sutureref1_Within n) vs sg
    | _ => none), fun R key E sg K => (match key with
    | 5 => l_sutureref1_Spot_5_S n R E sg K
    | _ => none)⟩
theorem sp_sutureref1_Spot_ok (n : Nat) : CallsOk Tryd.prog (sp_sutureref1_Spot n) := by
  intro f vs sg cm x h hx
  simp only [sp_sutureref1_Spot] at h
  split at h
  · exact c_sutureref1_Within_ok _ (m_sutureref1_Within_ok n) vs sg cm x h hx
  · cases h
theorem code_sutureref1_Spot_fn : Tryd.prog.funcs[17]? = some Tryd.f17 := Tryd.func17
theorem code_sutureref1_Spot_body : Tryd.f17.body = some code_sutureref1_Spot := by kernel_rfl
theorem code_sutureref1_Spot_ok : CodeOk Tryd.prog code_sutureref1_Spot := (sound 17 _ _ code_sutureref1_Spot_fn code_sutureref1_Spot_body).1
noncomputable def code_l_sutureref1_Spot_5 : Code := (loopsOf code_sutureref1_Spot).getD 0 .skip
theorem code_l_sutureref1_Spot_5_ok : CodeOk Tryd.prog code_l_sutureref1_Spot_5 := codeOk_loops code_sutureref1_Spot_ok _ (getD_mem (by kernel_rfl))
def l_sutureref1_Spot_5_K (k : ByteArray × Int × Int × Int × Int → Option (Int × Int)) : Ex → SEnv → Sig → Option (Int × Int) := fun x E sg => match x with
  | .normal => Option.bind (V.strOf (SEnv.at E 0)) fun u0 => Option.bind (V.intOf .i64 (SEnv.at E 1)) fun u1 => Option.bind (V.intOf .i64 (SEnv.at E 6)) fun u2 => Option.bind (V.intOf .i64 (SEnv.at E 7)) fun u3 => Option.bind (V.intOf .i64 (SEnv.at E 8)) fun u4 => k (u0, u1, u2, u3, u4)
  | (.exit 0) => Option.bind (V.intOf .i64 (SEnv.at E 6)) fun u0 => Option.bind (V.intOf .i64 (SEnv.at E 7)) fun u1 => some (u0, u1)
  | _ => none
theorem l_sutureref1_Spot_5_eq (n : Nat) (k : ByteArray × Int × Int × Int × Int → Option (Int × Int)) (s0 : ByteArray) (s1 : Int) (s2 : Int) (s3 : Int) (s4 : Int) : mX Tryd.prog (sp_sutureref1_Spot n) 28 code_l_sutureref1_Spot_5 [(0, (V.t (T.sc (.string s0)))), (1, (V.t (T.sc (.int .i64 s1)))), (6, (V.t (T.sc (.int .i64 s2)))), (7, (V.t (T.sc (.int .i64 s3)))), (8, (V.t (T.sc (.int .i64 s4))))] [] (l_sutureref1_Spot_5_K k) = l_sutureref1_Spot_5_B n k (s0, s1, s2, s3, s4) := by kernel_rfl
def l_sutureref1_Spot_5_Q (x : Int × Int) (ex : Ex) (e : Env) (s : Sig) : Prop := (fun p0 => (ex = (.exit 0) ∧ e = SEnv.env 28 [(6, (V.t (T.sc (.int .i64 p0.1)))), (7, (V.t (T.sc (.int .i64 p0.2))))] ∧ s = [])) x
theorem l_sutureref1_Spot_5_run (n : Nat) : ∀ (m : Nat) (s0 : ByteArray) (s1 : Int) (s2 : Int) (s3 : Int) (s4 : Int) (x : Int × Int), l_sutureref1_Spot_5 n m (s0, s1, s2, s3, s4) = some x → SemL Tryd.prog 0 code_l_sutureref1_Spot_5 (SEnv.env 28 [(0, (V.t (T.sc (.string s0)))), (1, (V.t (T.sc (.int .i64 s1)))), (6, (V.t (T.sc (.int .i64 s2)))), (7, (V.t (T.sc (.int .i64 s3)))), (8, (V.t (T.sc (.int .i64 s4))))]) [] (l_sutureref1_Spot_5_Q x)
  | 0, s0, s1, s2, s3, s4, x, h => by cases h
  | m + 1, s0, s1, s2, s3, s4, x, h => by
    refine loop_step (sp_sutureref1_Spot_ok n) code_l_sutureref1_Spot_5_ok (fun a ha => absurd ha (by rw [show loopsOf code_l_sutureref1_Spot_5 = [] from by kernel_rfl]; simp)) (no_scope (by kernel_rfl)) ((l_sutureref1_Spot_5_eq n _ s0 s1 s2 s3 s4).trans h) (fun E sg h => ?_) (fun ex E sg hne h => ?_)
    · simp only [l_sutureref1_Spot_5_K] at h
      obtain ⟨u0, hu0, h⟩ := Option.bind_eq_some_iff.1 h
      obtain ⟨u1, hu1, h⟩ := Option.bind_eq_some_iff.1 h
      obtain ⟨u2, hu2, h⟩ := Option.bind_eq_some_iff.1 h
      obtain ⟨u3, hu3, h⟩ := Option.bind_eq_some_iff.1 h
      obtain ⟨u4, hu4, h⟩ := Option.bind_eq_some_iff.1 h
      exact SemL.pre (k := 0) (by decide) (WkA.env (WkA.cons (strOf_wk hu0) rfl (WkA.cons (intOf_wk hu1) rfl (WkA.cons (intOf_wk hu2) rfl (WkA.cons (intOf_wk hu3) rfl (WkA.cons (intOf_wk hu4) rfl WkA.nil))))) 28) (WkS.none _) (l_sutureref1_Spot_5_run n m _ _ _ _ _ x h)
    · unfold l_sutureref1_Spot_5_K at h
      split at h
      · exact absurd rfl hne
      · obtain ⟨u0, hu0, h⟩ := Option.bind_eq_some_iff.1 h
        obtain ⟨u1, hu1, h⟩ := Option.bind_eq_some_iff.1 h
        simp only [Option.some.injEq] at h
        subst h
        exact ⟨0, _, _, by decide, WkA.env (WkA.cons (intOf_wk hu0) rfl (WkA.cons (intOf_wk hu1) rfl WkA.nil)) 28, (WkS.none _), rfl, rfl, rfl⟩
      · cases h
theorem l_sutureref1_Spot_5_ok (n : Nat) : LoopOk Tryd.prog (sp_sutureref1_Spot n) 0 28 code_l_sutureref1_Spot_5 := by
    intro R key E sg K r hk h
    rw [show Go.Eng.keyOf code_l_sutureref1_Spot_5 = some 5 from by kernel_rfl] at hk
    cases hk
    have h : l_sutureref1_Spot_5_S n R E sg K = some r := h
    unfold l_sutureref1_Spot_5_S at h
    obtain ⟨u0, hu0, h⟩ := Option.bind_eq_some_iff.1 h
    obtain ⟨u1, hu1, h⟩ := Option.bind_eq_some_iff.1 h
    obtain ⟨u2, hu2, h⟩ := Option.bind_eq_some_iff.1 h
    obtain ⟨u3, hu3, h⟩ := Option.bind_eq_some_iff.1 h
    obtain ⟨u4, hu4, h⟩ := Option.bind_eq_some_iff.1 h
    obtain ⟨x, hx, h⟩ := Option.bind_eq_some_iff.1 h
    refine (SemL.pre (k := 0) (by decide) (WkA.env (WkA.cons (strOf_wk hu0) rfl (WkA.cons (intOf_wk hu1) rfl (WkA.cons (intOf_wk hu2) rfl (WkA.cons (intOf_wk hu3) rfl (WkA.cons (intOf_wk hu4) rfl WkA.nil))))) 28) (WkS.none _) (l_sutureref1_Spot_5_run n n _ _ _ _ _ x hx)).mono ?_
    intro ex e s hq
    obtain ⟨rfl, rfl, rfl⟩ := hq
    exact ⟨_, rfl, h⟩
def K_sutureref1_Spot (v : V) (s : Sig) : Option (Int × Int) := Option.bind (V.tupN 2 v) fun u0 => Option.bind (V.intOf .i64 (u0.getD 0 .any)) fun u1 => Option.bind (V.intOf .i64 (u0.getD 1 .any)) fun u2 => some (u1, u2)
theorem K_sutureref1_Spot_wk {v : V} {s : Sig} {r : Int × Int} (h : K_sutureref1_Spot v s = some r) : Wk v (enc_sutureref1_Spot r) ∧ WkS 0 s (encS_sutureref1_Spot r) := by
  unfold K_sutureref1_Spot at h
  obtain ⟨u0, hu0, h⟩ := Option.bind_eq_some_iff.1 h
  obtain ⟨u1, hu1, h⟩ := Option.bind_eq_some_iff.1 h
  obtain ⟨u2, hu2, h⟩ := Option.bind_eq_some_iff.1 h
  simp only [Option.some.injEq] at h
  subst h
  exact ⟨(tupN_wk hu0 (.cons (intOf_wk hu1) (.cons (intOf_wk hu2) .nil))), (WkS.none _)⟩
theorem m_sutureref1_Spot_eq (n : Nat) (a0 : ByteArray) (a1 : Int) : mF Tryd.prog (sp_sutureref1_Spot n) 17 [(V.t (T.sc (.string a0))), (V.t (T.sc (.int .i64 a1)))] [] K_sutureref1_Spot = m_sutureref1_Spot n a0 a1 := by kernel_rfl
theorem m_sutureref1_Spot_ok (n : Nat) : ok_sutureref1_Spot (m_sutureref1_Spot n) := fun a0 a1 r h => mF_ok sound (sp_sutureref1_Spot_ok n) code_sutureref1_Spot_fn code_sutureref1_Spot_body (forall_getD (d := .skip) 1 (by kernel_rfl) (fun i hi => match i, hi with | 0, _ => l_sutureref1_Spot_5_ok n | i + 1, hi => absurd hi (by omega))) (no_scope (by kernel_rfl)) ((m_sutureref1_Spot_eq n a0 a1).trans h) (fun v s hk => ⟨(K_sutureref1_Spot_wk hk).1, rfl, (K_sutureref1_Spot_wk hk).2⟩)


/-! suture/sutureref1.Place -/
def m_sutureref1_Place (n : Nat) (a0 : ByteArray) (a1 : Int) : Option ((Nat × Nat)) :=
Option.bind (m_sutureref1_Spot n a0 a1) fun r0 =>
some ((FloatKind.nearest .f64 r0.1), (FloatKind.nearest .f64 r0.2))
def enc_sutureref1_Place (r : (Nat × Nat)) : V := (V.t (T.sc (.complex .f64 r.1 r.2)))
def encS_sutureref1_Place (r : (Nat × Nat)) : Sig := []
def ok_sutureref1_Place (m : ByteArray → Int → Option ((Nat × Nat))) : Prop := ∀ (a0 : ByteArray) (a1 : Int) (r : (Nat × Nat)), m a0 a1 = some r → FuncOk Tryd.prog 26 [(V.t (T.sc (.string a0))), (V.t (T.sc (.int .i64 a1)))] [] (enc_sutureref1_Place r) (encS_sutureref1_Place r)
def c_sutureref1_Place (m : ByteArray → Int → Option ((Nat × Nat))) (vs : List V) (sg : Sig) : Option CallM := bif Nat.beq vs.length 2 && Nat.beq sg.length 0 then Option.bind (V.strOf (vs.getD 0 .any)) fun u0 => Option.bind (V.intOf .i64 (vs.getD 1 .any)) fun u1 => some { α := (Nat × Nat), m := m u0 u1, dflt := (0, 0), enc := fun y => ((V.t (T.sc (.complex .f64 y.1 y.2))), []) } else none
theorem c_sutureref1_Place_ok (m : ByteArray → Int → Option ((Nat × Nat))) (hm : ok_sutureref1_Place m) (vs : List V) (sg : Sig) (cm : CallM) (x : cm.α) (h : c_sutureref1_Place m vs sg = some cm) (hx : cm.m = some x) : FuncOk Tryd.prog 26 vs sg (cm.enc x).1 (cm.enc x).2 := by
  unfold c_sutureref1_Place at h
  have h0 := callee_sig h
  clear h
  obtain ⟨hl, hs, h⟩ := h0
  obtain ⟨u0, hu0, h⟩ := Option.bind_eq_some_iff.1 h
  obtain ⟨u1, hu1, h⟩ := Option.bind_eq_some_iff.1 h
  simp only [Option.some.injEq] at h
  subst h
  exact (hm u0 u1 x hx).wk (args_wk hl (.cons (strOf_wk hu0) (.cons (intOf_wk hu1) .nil))) (wkSg_of hs .nil)
noncomputable def code_sutureref1_Place : Code := Tryd.f26.body.getD .skip
noncomputable def sp_sutureref1_Place (n : Nat) : Go.Eng.Spec := ⟨fun f vs sg => (match f with
    | 17 => c_sutureref1_Spot (m_sutureref1_Spot n) vs sg
    | _ => none), fun R key E sg K => (match key with
    | _ => none)⟩
theorem sp_sutureref1_Place_ok (n : Nat) : CallsOk Tryd.prog (sp_sutureref1_Place n) := by
  intro f vs sg cm x h hx
  simp only [sp_sutureref1_Place] at h
  split at h
  · exact c_sutureref1_Spot_ok _ (m_sutureref1_Spot_ok n) vs sg cm x h hx
  · cases h
theorem code_sutureref1_Place_fn : Tryd.prog.funcs[26]? = some Tryd.f26 := Tryd.func26
theorem code_sutureref1_Place_body : Tryd.f26.body = some code_sutureref1_Place := by kernel_rfl
theorem code_sutureref1_Place_ok : CodeOk Tryd.prog code_sutureref1_Place := (sound 26 _ _ code_sutureref1_Place_fn code_sutureref1_Place_body).1
def K_sutureref1_Place (v : V) (s : Sig) : Option ((Nat × Nat)) := Option.bind (V.cplxOf .f64 v) fun u0 => some u0
theorem K_sutureref1_Place_wk {v : V} {s : Sig} {r : (Nat × Nat)} (h : K_sutureref1_Place v s = some r) : Wk v (enc_sutureref1_Place r) ∧ WkS 0 s (encS_sutureref1_Place r) := by
  unfold K_sutureref1_Place at h
  obtain ⟨u0, hu0, h⟩ := Option.bind_eq_some_iff.1 h
  simp only [Option.some.injEq] at h
  subst h
  exact ⟨(cplxOf_wk hu0), (WkS.none _)⟩
theorem m_sutureref1_Place_eq (n : Nat) (a0 : ByteArray) (a1 : Int) : mF Tryd.prog (sp_sutureref1_Place n) 26 [(V.t (T.sc (.string a0))), (V.t (T.sc (.int .i64 a1)))] [] K_sutureref1_Place = m_sutureref1_Place n a0 a1 := by kernel_rfl
theorem m_sutureref1_Place_ok (n : Nat) : ok_sutureref1_Place (m_sutureref1_Place n) := fun a0 a1 r h => mF_ok sound (sp_sutureref1_Place_ok n) code_sutureref1_Place_fn code_sutureref1_Place_body (fun a ha => absurd ha (by rw [show loopsOf code_sutureref1_Place = [] from by kernel_rfl]; simp)) (no_scope (by kernel_rfl)) ((m_sutureref1_Place_eq n a0 a1).trans h) (fun v s hk => ⟨(K_sutureref1_Place_wk hk).1, rfl, (K_sutureref1_Place_wk hk).2⟩)


end Go.Proofs.YtkolhagejiabhaaDoor.W
