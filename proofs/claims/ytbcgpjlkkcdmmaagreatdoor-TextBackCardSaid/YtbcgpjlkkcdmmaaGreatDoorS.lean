/- What the engine's walk comes to, printed by a program of this work: for each function its model, and that it is one. No conditions. -/
import Derived.Test.YtbcgpjlkkcdmmaaGreatDoorS1
namespace Go.Proofs.YtbcgpjlkkcdmmaaGreatDoor.W
open Go Go.Eng
set_option linter.unusedVariables false
set_option linter.unusedSimpArgs false
set_option maxRecDepth 100000
def j_z73_0_B1 (n : Nat) (k : (((List T) × Int × ByteArray × Int × (Nat × Nat)) ⊕ ((ByteArray × (List T) × Int × Int × ByteArray × Int × (Nat × Nat)) ⊕ ((ByteArray × (List T) × Int × Int × ByteArray × Int × (Nat × Nat)) ⊕ ((ByteArray × (List T) × Int × Int × ByteArray × Int × (Nat × Nat)) ⊕ ((Int × ByteArray × Int × (Nat × Nat)) ⊕ ((ByteArray × (List T) × Int × Int × Int × ByteArray × Int × (Nat × Nat)) ⊕ ByteArray × (List T) × Int × Int × ByteArray × Int × (Nat × Nat))))))) -> Option ((List T) × (Nat × Nat) × Int × Int × ByteArray × Int × (Nat × Nat))) : (List T) × Int × ByteArray × Int × (Nat × Nat) -> Option ((List T) × (Nat × Nat) × Int × Int × ByteArray × Int × (Nat × Nat)) := fun (s0, s1, s2, s3, s4) =>
must true ((Nat.beq 4 4 || Nat.beq 4 0) && (decide (List.length s0 + List.length [(T.agg [(T.sc (.int .i64 4)), (T.sc (.string s2)), (T.sc (.int .i64 s3)), (T.sc (.complex .f64 s4.1 s4.2))])] <= 1073741824) && sized 4 [(T.agg [(T.sc (.int .i64 4)), (T.sc (.string s2)), (T.sc (.int .i64 s3)), (T.sc (.complex .f64 s4.1 s4.2))])])) (Option.bind (m_z3 n (s0 ++ [(T.agg [(T.sc (.int .i64 4)), (T.sc (.string s2)), (T.sc (.int .i64 s3)), (T.sc (.complex .f64 s4.1 s4.2))])])) fun r3 =>
some (r3, (0, 0), 0, 4, s2, s3, s4))
def j_z73_0_B2 (n : Nat) (k : (((List T) × Int × ByteArray × Int × (Nat × Nat)) ⊕ ((ByteArray × (List T) × Int × Int × ByteArray × Int × (Nat × Nat)) ⊕ ((ByteArray × (List T) × Int × Int × ByteArray × Int × (Nat × Nat)) ⊕ ((ByteArray × (List T) × Int × Int × ByteArray × Int × (Nat × Nat)) ⊕ ((Int × ByteArray × Int × (Nat × Nat)) ⊕ ((ByteArray × (List T) × Int × Int × Int × ByteArray × Int × (Nat × Nat)) ⊕ ByteArray × (List T) × Int × Int × ByteArray × Int × (Nat × Nat))))))) -> Option ((List T) × (Nat × Nat) × Int × Int × ByteArray × Int × (Nat × Nat))) : ByteArray × (List T) × Int × Int × ByteArray × Int × (Nat × Nat) -> Option ((List T) × (Nat × Nat) × Int × Int × ByteArray × Int × (Nat × Nat)) := fun (s0, s1, s2, s3, s4, s5, s6) =>
must true (decide (0 <= s2) && decide (s2 <= ((ByteArray.size s0 : Nat) : Int)) && decide (((ByteArray.size s0 : Nat) : Int) <= ((ByteArray.size s0 : Nat) : Int))) (Option.bind (m_z75 n (ByteArray.extract s0 (Int.toNat s2) (Int.toNat ((ByteArray.size s0 : Nat) : Int)))) fun r4 =>
k (Sum.inr (Sum.inr (Sum.inr (Sum.inr (Sum.inr (Sum.inr (s0, s1, (IntKind.wrap .i64 (s2 + r4)), s3, s4, s5, s6))))))))
def j_z73_0_B3 (n : Nat) (k : (((List T) × Int × ByteArray × Int × (Nat × Nat)) ⊕ ((ByteArray × (List T) × Int × Int × ByteArray × Int × (Nat × Nat)) ⊕ ((ByteArray × (List T) × Int × Int × ByteArray × Int × (Nat × Nat)) ⊕ ((ByteArray × (List T) × Int × Int × ByteArray × Int × (Nat × Nat)) ⊕ ((Int × ByteArray × Int × (Nat × Nat)) ⊕ ((ByteArray × (List T) × Int × Int × Int × ByteArray × Int × (Nat × Nat)) ⊕ ByteArray × (List T) × Int × Int × ByteArray × Int × (Nat × Nat))))))) -> Option ((List T) × (Nat × Nat) × Int × Int × ByteArray × Int × (Nat × Nat))) : ByteArray × (List T) × Int × Int × ByteArray × Int × (Nat × Nat) -> Option ((List T) × (Nat × Nat) × Int × Int × ByteArray × Int × (Nat × Nat)) := fun (s0, s1, s2, s3, s4, s5, s6) =>
must true (decide (0 <= s2) && decide (s2 <= ((ByteArray.size s0 : Nat) : Int)) && decide (((ByteArray.size s0 : Nat) : Int) <= ((ByteArray.size s0 : Nat) : Int))) (Option.bind (m_z88 n (ByteArray.extract s0 (Int.toNat s2) (Int.toNat ((ByteArray.size s0 : Nat) : Int)))) fun r5 =>
k (Sum.inr (Sum.inr (Sum.inr (Sum.inr (Sum.inr (Sum.inl (s0, s1, s2, r5, 1, s4, s5, s6))))))))
def j_z73_0_B4 (n : Nat) (k : (((List T) × Int × ByteArray × Int × (Nat × Nat)) ⊕ ((ByteArray × (List T) × Int × Int × ByteArray × Int × (Nat × Nat)) ⊕ ((ByteArray × (List T) × Int × Int × ByteArray × Int × (Nat × Nat)) ⊕ ((ByteArray × (List T) × Int × Int × ByteArray × Int × (Nat × Nat)) ⊕ ((Int × ByteArray × Int × (Nat × Nat)) ⊕ ((ByteArray × (List T) × Int × Int × Int × ByteArray × Int × (Nat × Nat)) ⊕ ByteArray × (List T) × Int × Int × ByteArray × Int × (Nat × Nat))))))) -> Option ((List T) × (Nat × Nat) × Int × Int × ByteArray × Int × (Nat × Nat))) : ByteArray × (List T) × Int × Int × ByteArray × Int × (Nat × Nat) -> Option ((List T) × (Nat × Nat) × Int × Int × ByteArray × Int × (Nat × Nat)) := fun (s0, s1, s2, s3, s4, s5, s6) =>
must true (decide (0 <= s2) && decide (s2 <= ((ByteArray.size s0 : Nat) : Int)) && decide (((ByteArray.size s0 : Nat) : Int) <= ((ByteArray.size s0 : Nat) : Int))) (Option.bind (m_z77 n (ByteArray.extract s0 (Int.toNat s2) (Int.toNat ((ByteArray.size s0 : Nat) : Int)))) fun r6 =>
must true (decide (0 <= s2) && decide (s2 <= (IntKind.wrap .i64 (s2 + r6))) && decide ((IntKind.wrap .i64 (s2 + r6)) <= ((ByteArray.size s0 : Nat) : Int))) (Option.bind (m_z65 n (ByteArray.extract s0 (Int.toNat s2) (Int.toNat (IntKind.wrap .i64 (s2 + r6))))) fun r7 =>
Option.bind (m_z66 n r7) fun r8 =>
must true (decide (0 <= s2) && decide (s2 <= (IntKind.wrap .i64 (s2 + r6))) && decide ((IntKind.wrap .i64 (s2 + r6)) <= ((ByteArray.size s0 : Nat) : Int))) (bif (!(ByteArray.toList r8 == ByteArray.toList (ByteArray.extract s0 (Int.toNat s2) (Int.toNat (IntKind.wrap .i64 (s2 + r6)))))) then (
k (Sum.inr (Sum.inr (Sum.inr (Sum.inr (Sum.inl (2, s4, r7, s6)))))))
else (
bif ((r6 : Int) == 0) then (
k (Sum.inr (Sum.inr (Sum.inr (Sum.inr (Sum.inl (2, s4, r7, s6)))))))
else (
must true (decide (0 <= s2) && decide (s2 <= (IntKind.wrap .i64 (s2 + r6))) && decide ((IntKind.wrap .i64 (s2 + r6)) <= ((ByteArray.size s0 : Nat) : Int))) (must true ((Nat.beq 4 4 || Nat.beq 4 0) && (decide (List.length s1 + List.length [(T.agg [(T.sc (.int .i64 2)), (T.sc (.string (ByteArray.extract s0 (Int.toNat s2) (Int.toNat (IntKind.wrap .i64 (s2 + r6)))))), (T.sc (.int .i64 r7)), (T.sc (.complex .f64 s6.1 s6.2))])] <= 1073741824) && sized 4 [(T.agg [(T.sc (.int .i64 2)), (T.sc (.string (ByteArray.extract s0 (Int.toNat s2) (Int.toNat (IntKind.wrap .i64 (s2 + r6)))))), (T.sc (.int .i64 r7)), (T.sc (.complex .f64 s6.1 s6.2))])])) (k (Sum.inr (Sum.inr (Sum.inr (Sum.inr (Sum.inr (Sum.inr (s0, (s1 ++ [(T.agg [(T.sc (.int .i64 2)), (T.sc (.string (ByteArray.extract s0 (Int.toNat s2) (Int.toNat (IntKind.wrap .i64 (s2 + r6)))))), (T.sc (.int .i64 r7)), (T.sc (.complex .f64 s6.1 s6.2))])]), (IntKind.wrap .i64 (s2 + r6)), 2, (ByteArray.extract s0 (Int.toNat s2) (Int.toNat (IntKind.wrap .i64 (s2 + r6)))), r7, s6))))))))))))))
def j_z73_0_B5 (n : Nat) (k : (((List T) × Int × ByteArray × Int × (Nat × Nat)) ⊕ ((ByteArray × (List T) × Int × Int × ByteArray × Int × (Nat × Nat)) ⊕ ((ByteArray × (List T) × Int × Int × ByteArray × Int × (Nat × Nat)) ⊕ ((ByteArray × (List T) × Int × Int × ByteArray × Int × (Nat × Nat)) ⊕ ((Int × ByteArray × Int × (Nat × Nat)) ⊕ ((ByteArray × (List T) × Int × Int × Int × ByteArray × Int × (Nat × Nat)) ⊕ ByteArray × (List T) × Int × Int × ByteArray × Int × (Nat × Nat))))))) -> Option ((List T) × (Nat × Nat) × Int × Int × ByteArray × Int × (Nat × Nat))) : Int × ByteArray × Int × (Nat × Nat) -> Option ((List T) × (Nat × Nat) × Int × Int × ByteArray × Int × (Nat × Nat)) := fun (s0, s1, s2, s3) =>
some (([] : List T), s3, 2, s0, s1, s2, s3)
def j_z73_0_B6 (n : Nat) (k : (((List T) × Int × ByteArray × Int × (Nat × Nat)) ⊕ ((ByteArray × (List T) × Int × Int × ByteArray × Int × (Nat × Nat)) ⊕ ((ByteArray × (List T) × Int × Int × ByteArray × Int × (Nat × Nat)) ⊕ ((ByteArray × (List T) × Int × Int × ByteArray × Int × (Nat × Nat)) ⊕ ((Int × ByteArray × Int × (Nat × Nat)) ⊕ ((ByteArray × (List T) × Int × Int × Int × ByteArray × Int × (Nat × Nat)) ⊕ ByteArray × (List T) × Int × Int × ByteArray × Int × (Nat × Nat))))))) -> Option ((List T) × (Nat × Nat) × Int × Int × ByteArray × Int × (Nat × Nat))) : ByteArray × (List T) × Int × Int × Int × ByteArray × Int × (Nat × Nat) -> Option ((List T) × (Nat × Nat) × Int × Int × ByteArray × Int × (Nat × Nat)) := fun (s0, s1, s2, s3, s4, s5, s6, s7) =>
bif ((s3 : Int) == 0) then (
k (Sum.inr (Sum.inr (Sum.inr (Sum.inr (Sum.inl (s4, s5, s6, s7)))))))
else (
must true (decide (0 <= s2) && decide (s2 <= (IntKind.wrap .i64 (s2 + s3))) && decide ((IntKind.wrap .i64 (s2 + s3)) <= ((ByteArray.size s0 : Nat) : Int))) (must true ((Nat.beq 4 4 || Nat.beq 4 0) && (decide (List.length s1 + List.length [(T.agg [(T.sc (.int .i64 s4)), (T.sc (.string (ByteArray.extract s0 (Int.toNat s2) (Int.toNat (IntKind.wrap .i64 (s2 + s3)))))), (T.sc (.int .i64 s6)), (T.sc (.complex .f64 s7.1 s7.2))])] <= 1073741824) && sized 4 [(T.agg [(T.sc (.int .i64 s4)), (T.sc (.string (ByteArray.extract s0 (Int.toNat s2) (Int.toNat (IntKind.wrap .i64 (s2 + s3)))))), (T.sc (.int .i64 s6)), (T.sc (.complex .f64 s7.1 s7.2))])])) (k (Sum.inr (Sum.inr (Sum.inr (Sum.inr (Sum.inr (Sum.inr (s0, (s1 ++ [(T.agg [(T.sc (.int .i64 s4)), (T.sc (.string (ByteArray.extract s0 (Int.toNat s2) (Int.toNat (IntKind.wrap .i64 (s2 + s3)))))), (T.sc (.int .i64 s6)), (T.sc (.complex .f64 s7.1 s7.2))])]), (IntKind.wrap .i64 (s2 + s3)), s4, (ByteArray.extract s0 (Int.toNat s2) (Int.toNat (IntKind.wrap .i64 (s2 + s3)))), s6, s7))))))))))
def j_z73_0_B0 (n : Nat) (k : (((List T) × Int × ByteArray × Int × (Nat × Nat)) ⊕ ((ByteArray × (List T) × Int × Int × ByteArray × Int × (Nat × Nat)) ⊕ ((ByteArray × (List T) × Int × Int × ByteArray × Int × (Nat × Nat)) ⊕ ((ByteArray × (List T) × Int × Int × ByteArray × Int × (Nat × Nat)) ⊕ ((Int × ByteArray × Int × (Nat × Nat)) ⊕ ((ByteArray × (List T) × Int × Int × Int × ByteArray × Int × (Nat × Nat)) ⊕ ByteArray × (List T) × Int × Int × ByteArray × Int × (Nat × Nat))))))) -> Option ((List T) × (Nat × Nat) × Int × Int × ByteArray × Int × (Nat × Nat))) : ByteArray × (List T) × Int × Int × ByteArray × Int × (Nat × Nat) -> Option ((List T) × (Nat × Nat) × Int × Int × ByteArray × Int × (Nat × Nat)) := fun (s0, s1, s2, s3, s4, s5, s6) =>
must true (decide (0 <= s2) && decide (s2 <= ((ByteArray.size s0 : Nat) : Int)) && decide (((ByteArray.size s0 : Nat) : Int) <= ((ByteArray.size s0 : Nat) : Int))) (Option.bind (m_z90 n (ByteArray.extract s0 (Int.toNat s2) (Int.toNat ((ByteArray.size s0 : Nat) : Int)))) fun r9 =>
Option.bind (m_z89 n s0 (IntKind.wrap .i64 (s2 + r9))) fun r10 =>
bif (((IntKind.wrap .i64 (s2 + r9)) : Int) == ((ByteArray.size s0 : Nat) : Int)) then (
k (Sum.inl (s1, 0, (⟨#[]⟩ : ByteArray), 0, r10)))
else (
Option.bind (bidx true s0 (IntKind.wrap .i64 (s2 + r9))) fun b11 =>
bif ((((UInt8.toNat b11 : Nat) : Int) : Int) == 35) then (
k (Sum.inr (Sum.inl (s0, s1, (IntKind.wrap .i64 (s2 + r9)), 0, (⟨#[]⟩ : ByteArray), 0, r10))))
else (
Option.bind (bidx true s0 (IntKind.wrap .i64 (s2 + r9))) fun b12 =>
Option.bind (m_z74 n ((UInt8.toNat b12 : Nat) : Int)) fun r13 =>
bif r13 then (
k (Sum.inr (Sum.inr (Sum.inl (s0, s1, (IntKind.wrap .i64 (s2 + r9)), 0, (⟨#[]⟩ : ByteArray), 0, r10)))))
else (
Option.bind (bidx true s0 (IntKind.wrap .i64 (s2 + r9))) fun b14 =>
Option.bind (m_z85 n ((UInt8.toNat b14 : Nat) : Int)) fun r15 =>
bif r15 then (
k (Sum.inr (Sum.inr (Sum.inr (Sum.inl (s0, s1, (IntKind.wrap .i64 (s2 + r9)), 0, (⟨#[]⟩ : ByteArray), 0, r10))))))
else (
must true (decide (0 <= (IntKind.wrap .i64 (s2 + r9))) && decide ((IntKind.wrap .i64 (s2 + r9)) <= ((ByteArray.size s0 : Nat) : Int)) && decide (((ByteArray.size s0 : Nat) : Int) <= ((ByteArray.size s0 : Nat) : Int))) (Option.bind (m_z27 n (ByteArray.extract s0 (Int.toNat (IntKind.wrap .i64 (s2 + r9))) (Int.toNat ((ByteArray.size s0 : Nat) : Int))) (⟨#[61, 61]⟩ : ByteArray)) fun r16 =>
bif r16 then (
Option.bind (bidx true s0 (IntKind.wrap .i64 (s2 + r9))) fun b17 =>
Option.bind (m_z28 n (⟨#[61, 60, 43, 45, 42, 47, 37, 40, 41, 123, 125]⟩ : ByteArray) ((UInt8.toNat b17 : Nat) : Int)) fun r18 =>
bif (decide ((r18 : Int) < 0)) then (
k (Sum.inr (Sum.inr (Sum.inr (Sum.inr (Sum.inl (0, (⟨#[]⟩ : ByteArray), 0, r10)))))))
else (
k (Sum.inr (Sum.inr (Sum.inr (Sum.inr (Sum.inr (Sum.inl (s0, s1, (IntKind.wrap .i64 (s2 + r9)), 2, 3, (⟨#[]⟩ : ByteArray), 0, r10)))))))))
else (
Option.bind (bidx true s0 (IntKind.wrap .i64 (s2 + r9))) fun b19 =>
Option.bind (m_z28 n (⟨#[61, 60, 43, 45, 42, 47, 37, 40, 41, 123, 125]⟩ : ByteArray) ((UInt8.toNat b19 : Nat) : Int)) fun r20 =>
bif (decide ((r20 : Int) < 0)) then (
k (Sum.inr (Sum.inr (Sum.inr (Sum.inr (Sum.inl (0, (⟨#[]⟩ : ByteArray), 0, r10)))))))
else (
k (Sum.inr (Sum.inr (Sum.inr (Sum.inr (Sum.inr (Sum.inl (s0, s1, (IntKind.wrap .i64 (s2 + r9)), 1, 3, (⟨#[]⟩ : ByteArray), 0, r10)))))))))))))))
def j_z73_0 (n : Nat) : Nat -> (((List T) × Int × ByteArray × Int × (Nat × Nat)) ⊕ ((ByteArray × (List T) × Int × Int × ByteArray × Int × (Nat × Nat)) ⊕ ((ByteArray × (List T) × Int × Int × ByteArray × Int × (Nat × Nat)) ⊕ ((ByteArray × (List T) × Int × Int × ByteArray × Int × (Nat × Nat)) ⊕ ((Int × ByteArray × Int × (Nat × Nat)) ⊕ ((ByteArray × (List T) × Int × Int × Int × ByteArray × Int × (Nat × Nat)) ⊕ ByteArray × (List T) × Int × Int × ByteArray × Int × (Nat × Nat))))))) -> Option ((List T) × (Nat × Nat) × Int × Int × ByteArray × Int × (Nat × Nat))
 | 0, _ => none
 | m + 1, s => Sum.elim (fun p1 => j_z73_0_B1 n (j_z73_0 n m) p1) (fun s' => Sum.elim (fun p2 => j_z73_0_B2 n (j_z73_0 n m) p2) (fun s'' => Sum.elim (fun p3 => j_z73_0_B3 n (j_z73_0 n m) p3) (fun s''' => Sum.elim (fun p4 => j_z73_0_B4 n (j_z73_0 n m) p4) (fun s'''' => Sum.elim (fun p5 => j_z73_0_B5 n (j_z73_0 n m) p5) (fun s''''' => Sum.elim (fun p6 => j_z73_0_B6 n (j_z73_0 n m) p6) (fun s'''''' => (fun p0 => j_z73_0_B0 n (j_z73_0 n m) p0) s'''''') s''''') s'''') s''') s'') s') s
def m_z73 (n : Nat) (a0 : ByteArray) : Option ((List T) × (Nat × Nat) × Int) :=
bif (decide ((((ByteArray.size a0 : Nat) : Int) : Int) > 6000)) then (
Option.bind (m_z89 n a0 6000) fun r0 =>
some (([] : List T), r0, 2))
else (
must true (decide (0 <= 0) && decide (0 <= ((ByteArray.size a0 : Nat) : Int)) && decide (((ByteArray.size a0 : Nat) : Int) <= ((ByteArray.size a0 : Nat) : Int))) (Option.bind (m_z90 n (ByteArray.extract a0 (Int.toNat 0) (Int.toNat ((ByteArray.size a0 : Nat) : Int)))) fun r1 =>
Option.bind (m_z89 n a0 (IntKind.wrap .i64 (0 + r1))) fun r2 =>
bif (((IntKind.wrap .i64 (0 + r1)) : Int) == ((ByteArray.size a0 : Nat) : Int)) then (
Option.bind (j_z73_0 n n (Sum.inl (([] : List T), 0, (⟨#[]⟩ : ByteArray), 0, r2))) fun p22 =>
some (p22.1, p22.2.1, p22.2.2.1))
else (
Option.bind (bidx true a0 (IntKind.wrap .i64 (0 + r1))) fun b23 =>
bif ((((UInt8.toNat b23 : Nat) : Int) : Int) == 35) then (
Option.bind (j_z73_0 n n (Sum.inr (Sum.inl (a0, ([] : List T), (IntKind.wrap .i64 (0 + r1)), 0, (⟨#[]⟩ : ByteArray), 0, r2)))) fun p25 =>
some (p25.1, p25.2.1, p25.2.2.1))
else (
Option.bind (bidx true a0 (IntKind.wrap .i64 (0 + r1))) fun b26 =>
Option.bind (m_z74 n ((UInt8.toNat b26 : Nat) : Int)) fun r27 =>
bif r27 then (
Option.bind (j_z73_0 n n (Sum.inr (Sum.inr (Sum.inl (a0, ([] : List T), (IntKind.wrap .i64 (0 + r1)), 0, (⟨#[]⟩ : ByteArray), 0, r2))))) fun p29 =>
some (p29.1, p29.2.1, p29.2.2.1))
else (
Option.bind (bidx true a0 (IntKind.wrap .i64 (0 + r1))) fun b30 =>
Option.bind (m_z85 n ((UInt8.toNat b30 : Nat) : Int)) fun r31 =>
bif r31 then (
Option.bind (j_z73_0 n n (Sum.inr (Sum.inr (Sum.inr (Sum.inl (a0, ([] : List T), (IntKind.wrap .i64 (0 + r1)), 0, (⟨#[]⟩ : ByteArray), 0, r2)))))) fun p33 =>
some (p33.1, p33.2.1, p33.2.2.1))
else (
must true (decide (0 <= (IntKind.wrap .i64 (0 + r1))) && decide ((IntKind.wrap .i64 (0 + r1)) <= ((ByteArray.size a0 : Nat) : Int)) && decide (((ByteArray.size a0 : Nat) : Int) <= ((ByteArray.size a0 : Nat) : Int))) (Option.bind (m_z27 n (ByteArray.extract a0 (Int.toNat (IntKind.wrap .i64 (0 + r1))) (Int.toNat ((ByteArray.size a0 : Nat) : Int))) (⟨#[61, 61]⟩ : ByteArray)) fun r34 =>
bif r34 then (
Option.bind (bidx true a0 (IntKind.wrap .i64 (0 + r1))) fun b35 =>
Option.bind (m_z28 n (⟨#[61, 60, 43, 45, 42, 47, 37, 40, 41, 123, 125]⟩ : ByteArray) ((UInt8.toNat b35 : Nat) : Int)) fun r36 =>
bif (decide ((r36 : Int) < 0)) then (
Option.bind (j_z73_0 n n (Sum.inr (Sum.inr (Sum.inr (Sum.inr (Sum.inl (0, (⟨#[]⟩ : ByteArray), 0, r2))))))) fun p38 =>
some (p38.1, p38.2.1, p38.2.2.1))
else (
Option.bind (j_z73_0 n n (Sum.inr (Sum.inr (Sum.inr (Sum.inr (Sum.inr (Sum.inl (a0, ([] : List T), (IntKind.wrap .i64 (0 + r1)), 2, 3, (⟨#[]⟩ : ByteArray), 0, r2)))))))) fun p40 =>
some (p40.1, p40.2.1, p40.2.2.1)))
else (
Option.bind (bidx true a0 (IntKind.wrap .i64 (0 + r1))) fun b41 =>
Option.bind (m_z28 n (⟨#[61, 60, 43, 45, 42, 47, 37, 40, 41, 123, 125]⟩ : ByteArray) ((UInt8.toNat b41 : Nat) : Int)) fun r42 =>
bif (decide ((r42 : Int) < 0)) then (
Option.bind (j_z73_0 n n (Sum.inr (Sum.inr (Sum.inr (Sum.inr (Sum.inl (0, (⟨#[]⟩ : ByteArray), 0, r2))))))) fun p44 =>
some (p44.1, p44.2.1, p44.2.2.1))
else (
Option.bind (j_z73_0 n n (Sum.inr (Sum.inr (Sum.inr (Sum.inr (Sum.inr (Sum.inl (a0, ([] : List T), (IntKind.wrap .i64 (0 + r1)), 1, 3, (⟨#[]⟩ : ByteArray), 0, r2)))))))) fun p46 =>
some (p46.1, p46.2.1, p46.2.2.1))))))))))
def d_z73 : FnF := ⟨41, [.str], [.tup 3, .list, .cplx .f64, .int .i64]⟩
def cs_z73 (n : Nat) : List (CalF Tryz.prog) := [⟨d_z89, m_z89 n, m_z89_ok n⟩, ⟨d_z90, m_z90 n, m_z90_ok n⟩, ⟨d_z3, m_z3 n, m_z3_ok n⟩, ⟨d_z75, m_z75 n, m_z75_ok n⟩, ⟨d_z88, m_z88 n, m_z88_ok n⟩, ⟨d_z77, m_z77 n, m_z77_ok n⟩, ⟨d_z65, m_z65 n, m_z65_ok n⟩, ⟨d_z66, m_z66 n, m_z66_ok n⟩, ⟨d_z74, m_z74 n, m_z74_ok n⟩, ⟨d_z85, m_z85 n, m_z85_ok n⟩, ⟨d_z27, m_z27 n, m_z27_ok n⟩, ⟨d_z28, m_z28 n, m_z28_ok n⟩]
def J_j_z73_0_1 : XF := ⟨(.goto 1), [5, 6], [.own 4, .ptr 0 0, .box 4, .int .i64, .str, .int .i64, .cplx .f64]⟩
def J_j_z73_0_2 : XF := ⟨(.goto 2), [0, 5, 6, 7], [.str, .own 4, .ptr 0 0, .int .i64, .box 4, .int .i64, .str, .int .i64, .cplx .f64]⟩
def J_j_z73_0_3 : XF := ⟨(.goto 3), [0, 5, 6, 7], [.str, .own 4, .ptr 0 0, .int .i64, .box 4, .int .i64, .str, .int .i64, .cplx .f64]⟩
def J_j_z73_0_4 : XF := ⟨(.goto 4), [0, 5, 6, 7], [.str, .own 4, .ptr 0 0, .int .i64, .box 4, .int .i64, .str, .int .i64, .cplx .f64]⟩
def J_j_z73_0_5 : XF := ⟨(.goto 5), [6], [.ptr 0 0, .box 4, .int .i64, .str, .int .i64, .cplx .f64]⟩
def J_j_z73_0_6 : XF := ⟨(.goto 6), [0, 5, 6, 7, 8], [.str, .own 4, .ptr 0 0, .int .i64, .int .i64, .box 4, .int .i64, .str, .int .i64, .cplx .f64]⟩
def J_j_z73_0_0 : XF := ⟨(.goto 0), [0, 5, 6, 7], [.str, .own 4, .ptr 0 0, .int .i64, .box 4, .int .i64, .str, .int .i64, .cplx .f64]⟩
def X_j_z73_0 : List XF := [⟨.ret, [2, 3, 4], [.own 4, .cplx .f64, .int .i64, .box 4, .int .i64, .str, .int .i64, .cplx .f64]⟩]
def ls_z73 (n : Nat) : List LE := [⟨1000001, jumpS J_j_z73_0_1 X_j_z73_0 (fun x => j_z73_0 n n (Sum.inl x))⟩, ⟨1000002, jumpS J_j_z73_0_2 X_j_z73_0 (fun x => j_z73_0 n n (Sum.inr (Sum.inl x)))⟩, ⟨1000003, jumpS J_j_z73_0_3 X_j_z73_0 (fun x => j_z73_0 n n (Sum.inr (Sum.inr (Sum.inl x))))⟩, ⟨1000004, jumpS J_j_z73_0_4 X_j_z73_0 (fun x => j_z73_0 n n (Sum.inr (Sum.inr (Sum.inr (Sum.inl x)))))⟩, ⟨1000005, jumpS J_j_z73_0_5 X_j_z73_0 (fun x => j_z73_0 n n (Sum.inr (Sum.inr (Sum.inr (Sum.inr (Sum.inl x))))))⟩, ⟨1000006, jumpS J_j_z73_0_6 X_j_z73_0 (fun x => j_z73_0 n n (Sum.inr (Sum.inr (Sum.inr (Sum.inr (Sum.inr (Sum.inl x)))))))⟩, ⟨1000000, jumpS J_j_z73_0_0 X_j_z73_0 (fun x => j_z73_0 n n (Sum.inr (Sum.inr (Sum.inr (Sum.inr (Sum.inr (Sum.inr x)))))))⟩]
theorem j_z73_0_ok (n : Nat) : JumpOk Tryz.prog (mkSpec (cs_z73 n) (ls_z73 n)) 0 116 (scopeAt Tryz.f41 0) := jumpOk (labs := [J_j_z73_0_1, J_j_z73_0_2, J_j_z73_0_3, J_j_z73_0_4, J_j_z73_0_5, J_j_z73_0_6, J_j_z73_0_0]) (xs := X_j_z73_0) (f := j_z73_0 n) (G := (fun k s => Sum.elim (fun p1 => j_z73_0_B1 n k p1) (fun s' => Sum.elim (fun p2 => j_z73_0_B2 n k p2) (fun s'' => Sum.elim (fun p3 => j_z73_0_B3 n k p3) (fun s''' => Sum.elim (fun p4 => j_z73_0_B4 n k p4) (fun s'''' => Sum.elim (fun p5 => j_z73_0_B5 n k p5) (fun s''''' => Sum.elim (fun p6 => j_z73_0_B6 n k p6) (fun s'''''' => (fun p0 => j_z73_0_B0 n k p0) s'''''') s''''') s'''') s''') s'') s') s)) (k := n) (scopeAt_ok sound Tryz.func41 (by kernel_rfl)) (fun _ => rfl) (fun _ _ => rfl) (by kernel_rfl) (hall_of (l0 := [0, 2, 3, 4, 6, 5, 1]) (by kernel_rfl) (by kernel_rfl)) ⟨⟨1, restAt (scopeAt Tryz.f41 0) 1, rfl, by kernel_rfl, fun _ => by kernel_rfl, (inner (by kernel_rfl) allN), by kernel_rfl, fun k a => by kernel_rfl⟩, ⟨2, restAt (scopeAt Tryz.f41 0) 2, rfl, by kernel_rfl, fun _ => by kernel_rfl, (inner (by kernel_rfl) allN), by kernel_rfl, fun k a => by kernel_rfl⟩, ⟨3, restAt (scopeAt Tryz.f41 0) 3, rfl, by kernel_rfl, fun _ => by kernel_rfl, (inner (by kernel_rfl) allN), by kernel_rfl, fun k a => by kernel_rfl⟩, ⟨4, restAt (scopeAt Tryz.f41 0) 4, rfl, by kernel_rfl, fun _ => by kernel_rfl, (inner (by kernel_rfl) allN), by kernel_rfl, fun k a => by kernel_rfl⟩, ⟨5, restAt (scopeAt Tryz.f41 0) 5, rfl, by kernel_rfl, fun _ => by kernel_rfl, (inner (by kernel_rfl) allN), by kernel_rfl, fun k a => by kernel_rfl⟩, ⟨6, restAt (scopeAt Tryz.f41 0) 6, rfl, by kernel_rfl, fun _ => by kernel_rfl, (inner (by kernel_rfl) allN), by kernel_rfl, fun k a => by kernel_rfl⟩, ⟨0, restAt (scopeAt Tryz.f41 0) 0, rfl, by kernel_rfl, fun _ => by kernel_rfl, (inner (by kernel_rfl) allN), by kernel_rfl, fun k a => by kernel_rfl⟩⟩
theorem m_z73_ok (n : Nat) : Ok Tryz.prog d_z73 (m_z73 n) := fnOk sound (cs := cs_z73 n) (ls := ls_z73 n) (n := 116) Tryz.func41 (by kernel_rfl) (fun _ => by kernel_rfl) (inner (by kernel_rfl) allN) (innerS (by kernel_rfl) (allC (j_z73_0_ok n) allN)) (by kernel_rfl) (fun a => by kernel_rfl)
def m_z64 (n : Nat) (a0 : ByteArray) : Option (Int) :=
bif (ByteArray.toList a0 == ByteArray.toList (⟨#[118, 97, 114]⟩ : ByteArray)) then (
some 1)
else (
bif (ByteArray.toList a0 == ByteArray.toList (⟨#[119, 105, 100, 101]⟩ : ByteArray)) then (
some 2)
else (
bif (ByteArray.toList a0 == ByteArray.toList (⟨#[97, 116, 111, 109, 105, 99]⟩ : ByteArray)) then (
some 3)
else (
bif (ByteArray.toList a0 == ByteArray.toList (⟨#[108, 111, 99, 97, 108]⟩ : ByteArray)) then (
some 4)
else (
bif (ByteArray.toList a0 == ByteArray.toList (⟨#[109, 117, 116, 101, 120]⟩ : ByteArray)) then (
some 5)
else (
bif (ByteArray.toList a0 == ByteArray.toList (⟨#[99, 104, 97, 110]⟩ : ByteArray)) then (
some 6)
else (
some 0))))))
def d_z64 : FnF := ⟨113, [.str], [.int .i64]⟩
theorem m_z64_ok (n : Nat) : Ok Tryz.prog d_z64 (m_z64 n) := fnOk0 sound [] Tryz.func113 (by kernel_rfl) (fun a => by kernel_rfl)
def m_z15 (n : Nat) (a0 : List T) (a1 : Int) (a2 : Bool) : Option ((List T) × Int × Bool) :=
some (a0, a1, true)
def d_z15 : FnF := ⟨79, [.ptr 0 0, .box 3, .list, .int .i64, .bool], [.tup 0, .box 3, .list, .int .i64, .bool]⟩
theorem m_z15_ok (n : Nat) : Ok Tryz.prog d_z15 (m_z15 n) := fnOk0 sound [] Tryz.func79 (by kernel_rfl) (fun a => by kernel_rfl)
def l_z8_2_B (n : Nat) (k : (List T) × ByteArray × Int × Int -> Option (((Int) ⊕ Unit))) : (List T) × ByteArray × Int × Int -> Option (((Int) ⊕ Unit)) := fun (s0, s1, s2, s3) =>
bif (decide ((s3 : Int) < s2)) then (
Option.bind (idx true [.str] s0 s3) fun y0 =>
bif (ByteArray.toList s1 == ByteArray.toList (y0.cell 0).str) then (
some (Sum.inl s3))
else (
k (s0, s1, s2, (IntKind.wrap .i64 (s3 + 1)))))
else (
some (Sum.inr ()))
def l_z8_2 (n : Nat) : Nat -> (List T) × ByteArray × Int × Int -> Option (((Int) ⊕ Unit))
 | 0, _ => none
 | m + 1, s => l_z8_2_B n (l_z8_2 n m) s
def m_z8 (n : Nat) (a0 : List T) (a1 : ByteArray) : Option (Int) :=
Option.bind (l_z8_2 n n (a0, a1, ((List.length a0 : Nat) : Int), 0)) fun x1 =>
Sum.elim (fun p2 =>
some p2) (fun x1' => (fun p3 =>
some (-1)) x1') x1
def d_z8 : FnF := ⟨184, [.list, .str], [.int .i64]⟩
def cs_z8 (n : Nat) : List (CalF Tryz.prog) := []
def L_l_z8_2 : LF := ⟨2, [0, 1, 7, 8], [.list, .str, .int .i64, .int .i64], [⟨.ret, [4], [.int .i64]⟩, ⟨(.exit 0), [], []⟩]⟩
def ls_z8 (n : Nat) : List LE := [⟨2, loopS L_l_z8_2 (l_z8_2 n n)⟩]
theorem l_z8_2_ok (n : Nat) : LoopOk Tryz.prog (mkSpec (cs_z8 n) (ls_z8 n)) 0 19 (loopAt Tryz.f184 0) := loopOk (L := L_l_z8_2) (f := l_z8_2 n) (B := l_z8_2_B n) (k := n) (loopAt_ok sound Tryz.func184 (by kernel_rfl)) (inner (by kernel_rfl) allN) (innerS (by kernel_rfl) allN) (fun _ => rfl) (fun _ _ => rfl) (by kernel_rfl) (fun _ => by kernel_rfl) (by kernel_rfl) (fun k a => by kernel_rfl)
theorem m_z8_ok (n : Nat) : Ok Tryz.prog d_z8 (m_z8 n) := fnOk sound (cs := cs_z8 n) (ls := ls_z8 n) (n := 19) Tryz.func184 (by kernel_rfl) (fun _ => by kernel_rfl) (inner (by kernel_rfl) (allC (l_z8_2_ok n) allN)) (innerS (by kernel_rfl) allN) (by kernel_rfl) (fun a => by kernel_rfl)
def m_z6 (n : Nat) (a0 : List T) (a1 : ByteArray) : Option (Bool) :=
Option.bind (m_z8 n a0 a1) fun r0 =>
some (decide ((r0 : Int) ≥ 0))
def d_z6 : FnF := ⟨179, [.list, .str], [.bool]⟩
theorem m_z6_ok (n : Nat) : Ok Tryz.prog d_z6 (m_z6 n) := fnOk0 sound [⟨d_z8, m_z8 n, m_z8_ok n⟩] Tryz.func179 (by kernel_rfl) (fun a => by kernel_rfl)
def m_z68 (n : Nat) (a0 : ByteArray) : Option (Bool) :=
Option.bind (m_z6 n [(T.sc (.string (⟨#[118, 97, 114]⟩ : ByteArray))), (T.sc (.string (⟨#[119, 105, 100, 101]⟩ : ByteArray))), (T.sc (.string (⟨#[97, 116, 111, 109, 105, 99]⟩ : ByteArray))), (T.sc (.string (⟨#[108, 111, 99, 97, 108]⟩ : ByteArray))), (T.sc (.string (⟨#[109, 117, 116, 101, 120]⟩ : ByteArray))), (T.sc (.string (⟨#[99, 104, 97, 110]⟩ : ByteArray))), (T.sc (.string (⟨#[103, 111]⟩ : ByteArray))), (T.sc (.string (⟨#[108, 111, 99, 107]⟩ : ByteArray))), (T.sc (.string (⟨#[117, 110, 108, 111, 99, 107]⟩ : ByteArray))), (T.sc (.string (⟨#[115, 101, 110, 100]⟩ : ByteArray))), (T.sc (.string (⟨#[114, 101, 99, 118]⟩ : ByteArray))), (T.sc (.string (⟨#[112, 114, 105, 110, 116]⟩ : ByteArray))), (T.sc (.string (⟨#[105, 102]⟩ : ByteArray))), (T.sc (.string (⟨#[101, 108, 115, 101]⟩ : ByteArray))), (T.sc (.string (⟨#[114, 101, 112, 101, 97, 116]⟩ : ByteArray))), (T.sc (.string (⟨#[103, 111, 116, 111]⟩ : ByteArray))), (T.sc (.string (⟨#[108, 97, 98, 101, 108]⟩ : ByteArray)))] a0) fun r0 =>
some r0
def d_z68 : FnF := ⟨167, [.str], [.bool]⟩
theorem m_z68_ok (n : Nat) : Ok Tryz.prog d_z68 (m_z68 n) := fnOk0 sound [⟨d_z6, m_z6 n, m_z6_ok n⟩] Tryz.func167 (by kernel_rfl) (fun a => by kernel_rfl)
def m_z72 (n : Nat) (a0 : ByteArray) : Option (Bool) :=
Option.bind (bif (!(ByteArray.toList a0 == ByteArray.toList (⟨#[]⟩ : ByteArray))) then m_z88 n a0 else some 0) fun r0 =>
Option.bind (bif (bif (!(ByteArray.toList a0 == ByteArray.toList (⟨#[]⟩ : ByteArray))) then ((r0 : Int) == ((ByteArray.size a0 : Nat) : Int)) else false) then m_z68 n a0 else some false) fun r1 =>
some (bif (bif (!(ByteArray.toList a0 == ByteArray.toList (⟨#[]⟩ : ByteArray))) then ((r0 : Int) == ((ByteArray.size a0 : Nat) : Int)) else false) then (!r1) else false)
def d_z72 : FnF := ⟨150, [.str], [.bool]⟩
theorem m_z72_ok (n : Nat) : Ok Tryz.prog d_z72 (m_z72 n) := fnOk0 sound [⟨d_z88, m_z88 n, m_z88_ok n⟩, ⟨d_z68, m_z68 n, m_z68_ok n⟩] Tryz.func150 (by kernel_rfl) (fun a => by kernel_rfl)
def m_z17 (n : Nat) (a0 : List T) (a1 : Int) (a2 : Bool) : Option (ByteArray × (List T) × Int × Bool) :=
Option.bind (idx true [.int .i64, .str, .int .i64, .cplx .f64] a0 a1) fun y0 =>
Option.bind (bif !(bif a2 then true else (((y0.cell 0).int : Int) != 1)) then m_z72 n (y0.cell 1).str else some false) fun r1 =>
bif (bif (bif a2 then true else (((y0.cell 0).int : Int) != 1)) then true else (!r1)) then (
Option.bind (m_z15 n a0 a1 a2) fun r2 =>
some ((⟨#[]⟩ : ByteArray), r2.1, r2.2.1, r2.2.2))
else (
some ((y0.cell 1).str, a0, (IntKind.wrap .i64 (a1 + 1)), a2))
def d_z17 : FnF := ⟨114, [.ptr 0 0, .box 3, .list, .int .i64, .bool], [.str, .box 3, .list, .int .i64, .bool]⟩
theorem m_z17_ok (n : Nat) : Ok Tryz.prog d_z17 (m_z17 n) := fnOk0 sound [⟨d_z72, m_z72 n, m_z72_ok n⟩, ⟨d_z15, m_z15 n, m_z15_ok n⟩] Tryz.func114 (by kernel_rfl) (fun a => by kernel_rfl)
def m_z9 (n : Nat) (a0 : Int) (a1 : List T) (a2 : Int) (a3 : Bool) : Option (Int × (List T) × Int × Bool) :=
Option.bind (idx true [.int .i64, .str, .int .i64, .cplx .f64] a1 a2) fun y0 =>
bif (bif (bif a3 then true else (((y0.cell 0).int : Int) != 2)) then true else (decide (((y0.cell 2).int : Int) > a0))) then (
Option.bind (m_z15 n a1 a2 a3) fun r1 =>
some (0, r1.1, r1.2.1, r1.2.2))
else (
some ((y0.cell 2).int, a1, (IntKind.wrap .i64 (a2 + 1)), a3))
def d_z9 : FnF := ⟨115, [.ptr 0 0, .int .i64, .box 3, .list, .int .i64, .bool], [.int .i64, .box 3, .list, .int .i64, .bool]⟩
theorem m_z9_ok (n : Nat) : Ok Tryz.prog d_z9 (m_z9 n) := fnOk0 sound [⟨d_z15, m_z15 n, m_z15_ok n⟩] Tryz.func115 (by kernel_rfl) (fun a => by kernel_rfl)
def m_z4 (n : Nat) (a0 : List T) : Option ((List T)) :=
must true (decide (0 <= 0) && decide (0 <= ((List.length a0 : Nat) : Int)) && decide (((List.length a0 : Nat) : Int) <= ((List.length a0 : Nat) : Int)) && sized 4 a0) (must true (decide (((List.length a0 : Nat) : Int) = ((List.length a0 : Nat) : Int))) (some (List.drop (Int.toNat 0) (List.take (Int.toNat ((List.length a0 : Nat) : Int)) a0))))
def d_z4 : FnF := ⟨116, [.list], [.own 4]⟩
theorem m_z4_ok (n : Nat) : Ok Tryz.prog d_z4 (m_z4 n) := fnOk0 sound [] Tryz.func116 (by kernel_rfl) (fun a => by kernel_rfl)
def l_z11_2_B (n : Nat) (k : (List T) × (List T) × Int × Bool -> Option ((List T) × (List T) × Int × Bool)) : (List T) × (List T) × Int × Bool -> Option ((List T) × (List T) × Int × Bool) := fun (s0, s1, s2, s3) =>
Option.bind (idx ((!s3)) [.int .i64, .str, .int .i64, .cplx .f64] s1 s2) fun y0 =>
bif (bif (!s3) then (((y0.cell 0).int : Int) == 1) else false) then (
Option.bind (idx true [.int .i64, .str, .int .i64, .cplx .f64] s1 s2) fun y1 =>
Option.bind (m_z64 n (y1.cell 1).str) fun r2 =>
Option.bind (idx true [.int .i64, .str, .int .i64, .cplx .f64] s1 s2) fun y3 =>
bif ((r2 : Int) == 0) then (
some (s0, s1, s2, s3))
else (
bif ((((List.length s0 : Nat) : Int) : Int) == 24) then (
Option.bind (m_z15 n s1 s2 s3) fun r4 =>
some (s0, r4.1, r4.2.1, r4.2.2))
else (
Option.bind (m_z17 n s1 (IntKind.wrap .i64 (s2 + 1)) s3) fun r5 =>
bif ((r2 : Int) == 6) then (
Option.bind (m_z9 n 3 r5.2.1 r5.2.2.1 r5.2.2.2) fun r6 =>
must true ((Nat.beq 4 4 || Nat.beq 4 0) && (decide (List.length s0 + List.length [(T.agg [(T.sc (.int .i64 r2)), (T.sc (.string r5.1)), (T.sc (.int .i64 r6.1)), (T.sc (.complex .f64 (y3.cell 3).re (y3.cell 3).im))])] <= 1073741824) && sized 4 [(T.agg [(T.sc (.int .i64 r2)), (T.sc (.string r5.1)), (T.sc (.int .i64 r6.1)), (T.sc (.complex .f64 (y3.cell 3).re (y3.cell 3).im))])])) (k ((s0 ++ [(T.agg [(T.sc (.int .i64 r2)), (T.sc (.string r5.1)), (T.sc (.int .i64 r6.1)), (T.sc (.complex .f64 (y3.cell 3).re (y3.cell 3).im))])]), r6.2.1, r6.2.2.1, r6.2.2.2)))
else (
must true ((Nat.beq 4 4 || Nat.beq 4 0) && (decide (List.length s0 + List.length [(T.agg [(T.sc (.int .i64 r2)), (T.sc (.string r5.1)), (T.sc (.int .i64 0)), (T.sc (.complex .f64 (y3.cell 3).re (y3.cell 3).im))])] <= 1073741824) && sized 4 [(T.agg [(T.sc (.int .i64 r2)), (T.sc (.string r5.1)), (T.sc (.int .i64 0)), (T.sc (.complex .f64 (y3.cell 3).re (y3.cell 3).im))])])) (k ((s0 ++ [(T.agg [(T.sc (.int .i64 r2)), (T.sc (.string r5.1)), (T.sc (.int .i64 0)), (T.sc (.complex .f64 (y3.cell 3).re (y3.cell 3).im))])]), r5.2.1, r5.2.2.1, r5.2.2.2))))))
else (
some (s0, s1, s2, s3))
def l_z11_2 (n : Nat) : Nat -> (List T) × (List T) × Int × Bool -> Option ((List T) × (List T) × Int × Bool)
 | 0, _ => none
 | m + 1, s => l_z11_2_B n (l_z11_2 n m) s
def m_z11 (n : Nat) (a0 : List T) (a1 : Int) (a2 : Bool) : Option ((List T) × (List T) × Int × Bool) :=
Option.bind (l_z11_2 n n (([] : List T), a0, a1, a2)) fun p8 =>
Option.bind (m_z4 n p8.1) fun r9 =>
some (r9, p8.2.1, p8.2.2.1, p8.2.2.2)
def d_z11 : FnF := ⟨78, [.ptr 0 0, .box 3, .list, .int .i64, .bool], [.own 4, .box 3, .list, .int .i64, .bool]⟩
def cs_z11 (n : Nat) : List (CalF Tryz.prog) := [⟨d_z64, m_z64 n, m_z64_ok n⟩, ⟨d_z15, m_z15 n, m_z15_ok n⟩, ⟨d_z17, m_z17 n, m_z17_ok n⟩, ⟨d_z9, m_z9 n, m_z9_ok n⟩, ⟨d_z4, m_z4 n, m_z4_ok n⟩]
def L_l_z11_2 : LF := ⟨2, [0, 3], [.ptr 0 0, .own 4, .box 3, .list, .int .i64, .bool], [⟨(.exit 0), [3], [.own 4, .box 3, .list, .int .i64, .bool]⟩]⟩
def ls_z11 (n : Nat) : List LE := [⟨2, loopS L_l_z11_2 (l_z11_2 n n)⟩]
theorem l_z11_2_ok (n : Nat) : LoopOk Tryz.prog (mkSpec (cs_z11 n) (ls_z11 n)) 1 78 (loopAt Tryz.f78 0) := loopOk (L := L_l_z11_2) (f := l_z11_2 n) (B := l_z11_2_B n) (k := n) (loopAt_ok sound Tryz.func78 (by kernel_rfl)) (inner (by kernel_rfl) allN) (innerS (by kernel_rfl) allN) (fun _ => rfl) (fun _ _ => rfl) (by kernel_rfl) (fun _ => by kernel_rfl) (by kernel_rfl) (fun k a => by kernel_rfl)
theorem m_z11_ok (n : Nat) : Ok Tryz.prog d_z11 (m_z11 n) := fnOk sound (cs := cs_z11 n) (ls := ls_z11 n) (n := 78) Tryz.func78 (by kernel_rfl) (fun _ => by kernel_rfl) (inner (by kernel_rfl) (allC (l_z11_2_ok n) allN)) (innerS (by kernel_rfl) allN) (by kernel_rfl) (fun a => by kernel_rfl)
def m_z23 (n : Nat) (a0 : ByteArray) (a1 : List T) (a2 : Int) (a3 : Bool) : Option (Bool × (List T) × Int × Bool) :=
Option.bind (idx true [.int .i64, .str, .int .i64, .cplx .f64] a1 a2) fun y0 =>
some ((bif (bif (!a3) then (bif (((y0.cell 0).int : Int) == 1) then true else (((y0.cell 0).int : Int) == 3)) else false) then (ByteArray.toList (y0.cell 1).str == ByteArray.toList a0) else false), a1, a2, a3)
def d_z23 : FnF := ⟨117, [.ptr 0 0, .str, .box 3, .list, .int .i64, .bool], [.bool, .box 3, .list, .int .i64, .bool]⟩
theorem m_z23_ok (n : Nat) : Ok Tryz.prog d_z23 (m_z23 n) := fnOk0 sound [] Tryz.func117 (by kernel_rfl) (fun a => by kernel_rfl)
def m_z16 (n : Nat) (a0 : ByteArray) (a1 : List T) (a2 : Int) (a3 : Bool) : Option ((List T) × Int × Bool) :=
Option.bind (m_z23 n a0 a1 a2 a3) fun r0 =>
bif (!r0.1) then (
Option.bind (m_z15 n r0.2.1 r0.2.2.1 r0.2.2.2) fun r1 =>
some (r1.1, r1.2.1, r1.2.2))
else (
some (r0.2.1, (IntKind.wrap .i64 (r0.2.2.1 + 1)), r0.2.2.2))
def d_z16 : FnF := ⟨80, [.ptr 0 0, .str, .box 3, .list, .int .i64, .bool], [.tup 0, .box 3, .list, .int .i64, .bool]⟩
theorem m_z16_ok (n : Nat) : Ok Tryz.prog d_z16 (m_z16 n) := fnOk0 sound [⟨d_z23, m_z23 n, m_z23_ok n⟩, ⟨d_z15, m_z15 n, m_z15_ok n⟩] Tryz.func80 (by kernel_rfl) (fun a => by kernel_rfl)
def m_z5 (n : Nat) (a0 : List T) : Option ((List T)) :=
must true (decide (0 <= 0) && decide (0 <= ((List.length a0 : Nat) : Int)) && decide (((List.length a0 : Nat) : Int) <= ((List.length a0 : Nat) : Int)) && sized 11 a0) (must true (decide (((List.length a0 : Nat) : Int) = ((List.length a0 : Nat) : Int))) (some (List.drop (Int.toNat 0) (List.take (Int.toNat ((List.length a0 : Nat) : Int)) a0))))
def d_z5 : FnF := ⟨119, [.list], [.own 11]⟩
theorem m_z5_ok (n : Nat) : Ok Tryz.prog d_z5 (m_z5 n) := fnOk0 sound [] Tryz.func119 (by kernel_rfl) (fun a => by kernel_rfl)
def m_z26 (n : Nat) (a0 : ByteArray) (a1 : List T) (a2 : Int) (a3 : Bool) : Option (Bool × (List T) × Int × Bool) :=
Option.bind (idx ((!a3)) [.int .i64, .str, .int .i64, .cplx .f64] a1 a2) fun y0 =>
Option.bind (idx ((bif (!a3) then (((y0.cell 0).int : Int) == 3) else false)) [.int .i64, .str, .int .i64, .cplx .f64] a1 a2) fun y1 =>
some ((bif (bif (!a3) then (((y0.cell 0).int : Int) == 3) else false) then (ByteArray.toList (y1.cell 1).str == ByteArray.toList a0) else false), a1, a2, a3)
def d_z26 : FnF := ⟨181, [.ptr 0 0, .str, .box 3, .list, .int .i64, .bool], [.bool, .box 3, .list, .int .i64, .bool]⟩
theorem m_z26_ok (n : Nat) : Ok Tryz.prog d_z26 (m_z26 n) := fnOk0 sound [] Tryz.func181 (by kernel_rfl) (fun a => by kernel_rfl)
def m_z21 (n : Nat) (a0 : List T) (a1 : Int) (a2 : Bool) : Option (Int × Int × ByteArray × (List T) × (List T) × Int × Bool) :=
some (0, 0, (⟨#[]⟩ : ByteArray), ([] : List T), a0, a1, true)
def d_z21 : FnF := ⟨182, [.ptr 0 0, .box 3, .list, .int .i64, .bool], [.agg 4, .int .i64, .int .i64, .str, .list, .box 3, .list, .int .i64, .bool]⟩
theorem m_z21_ok (n : Nat) : Ok Tryz.prog d_z21 (m_z21 n) := fnOk0 sound [] Tryz.func182 (by kernel_rfl) (fun a => by kernel_rfl)
def m_z58 (n : Nat) (a0 : Int) (a1 : ByteArray) (a2 : Int) (a3 : Nat × Nat) (a4 : Int) : Option (Int) := opM a0 a1 a4
def d_z58 : FnF := ⟨173, [.agg 4, .int .i64, .str, .int .i64, .cplx .f64, .int .i64], [.int .i64]⟩
theorem m_z58_ok (n : Nat) : Ok Tryz.prog d_z58 (m_z58 n) := fun a r h => x_expr_operator (show opM a.1 a.2.1 a.2.2.2.2.1 = some r from h)
structure B_z13 where
 y1 : Int -> Int -> List T -> Int -> Bool -> Option (Int × Int × ByteArray × (List T) × (List T) × Int × Bool)
 y0 : Int -> List T -> Int -> Bool -> Option (Int × Int × ByteArray × (List T) × (List T) × Int × Bool)
def d_z13 : FnF := ⟨161, [.ptr 0 0, .int .i64, .int .i64, .box 3, .list, .int .i64, .bool], [.agg 4, .int .i64, .int .i64, .str, .list, .box 3, .list, .int .i64, .bool]⟩
def d___expr_reader__factor : FnF := ⟨172, [.ptr 0 0, .int .i64, .box 3, .list, .int .i64, .bool], [.agg 4, .int .i64, .int .i64, .str, .list, .box 3, .list, .int .i64, .bool]⟩
structure B_z13_ok (b : B_z13) : Prop where
 y1 : Ok Tryz.prog d_z13 b.y1
 y0 : Ok Tryz.prog d___expr_reader__factor b.y0
def l_z13_4_B (b : B_z13) (n : Nat) (k : Int × Int × (List T) × Int × Bool × Int × Int × ByteArray × (List T) × Int × Int × ByteArray × (List T) -> Option ((List T) × Int × Bool × Int × Int × ByteArray × (List T) × Int × Int × ByteArray × (List T))) : Int × Int × (List T) × Int × Bool × Int × Int × ByteArray × (List T) × Int × Int × ByteArray × (List T) -> Option ((List T) × Int × Bool × Int × Int × ByteArray × (List T) × Int × Int × ByteArray × (List T)) := fun (s0, s1, s2, s3, s4, s5, s6, s7, s8, s9, s10, s11, s12) =>
bif (!s4) then (
Option.bind (idx true [.int .i64, .str, .int .i64, .cplx .f64] s2 s3) fun y2 =>
Option.bind (m_z58 n (y2.cell 0).int (y2.cell 1).str (y2.cell 2).int ((y2.cell 3).re, (y2.cell 3).im) s0) fun r3 =>
bif ((r3 : Int) == 0) then (
some (s2, s3, s4, s5, s6, s7, s8, s9, s10, s11, s12))
else (
Option.bind (b.y1 (IntKind.wrap .i64 (s0 + 1)) s1 s2 (IntKind.wrap .i64 (s3 + 1)) s4) fun r4 =>
bif ((s0 : Int) == 0) then (
some (r4.2.2.2.2.1, r4.2.2.2.2.2.1, r4.2.2.2.2.2.2, s5, s6, s7, s8, r3, 0, (⟨#[]⟩ : ByteArray), [(T.agg [(T.sc (.int .i64 s9)), (T.sc (.int .i64 s10)), (T.sc (.string s11)), (T.list s12)]), (T.agg [(T.sc (.int .i64 r4.1)), (T.sc (.int .i64 r4.2.1)), (T.sc (.string r4.2.2.1)), (T.list r4.2.2.2.1)])]))
else (
k (s0, s1, r4.2.2.2.2.1, r4.2.2.2.2.2.1, r4.2.2.2.2.2.2, s5, s6, s7, s8, r3, 0, (⟨#[]⟩ : ByteArray), [(T.agg [(T.sc (.int .i64 s9)), (T.sc (.int .i64 s10)), (T.sc (.string s11)), (T.list s12)]), (T.agg [(T.sc (.int .i64 r4.1)), (T.sc (.int .i64 r4.2.1)), (T.sc (.string r4.2.2.1)), (T.list r4.2.2.2.1)])]))))
else (
some (s2, s3, s4, s5, s6, s7, s8, s9, s10, s11, s12))
def l_z13_4 (b : B_z13) (n : Nat) : Nat -> Int × Int × (List T) × Int × Bool × Int × Int × ByteArray × (List T) × Int × Int × ByteArray × (List T) -> Option ((List T) × Int × Bool × Int × Int × ByteArray × (List T) × Int × Int × ByteArray × (List T))
 | 0, _ => none
 | m + 1, s => l_z13_4_B b n (l_z13_4 b n m) s
def f_z13 (b : B_z13) (n : Nat) (a0 : Int) (a1 : Int) (a2 : List T) (a3 : Int) (a4 : Bool) : Option (Int × Int × ByteArray × (List T) × (List T) × Int × Bool) :=
bif ((a0 : Int) == 3) then (
Option.bind (b.y0 a1 a2 a3 a4) fun r0 =>
some (r0.1, r0.2.1, r0.2.2.1, r0.2.2.2.1, r0.2.2.2.2.1, r0.2.2.2.2.2.1, r0.2.2.2.2.2.2))
else (
Option.bind (b.y1 (IntKind.wrap .i64 (a0 + 1)) a1 a2 a3 a4) fun r1 =>
Option.bind (l_z13_4 b n n (a0, a1, r1.2.2.2.2.1, r1.2.2.2.2.2.1, r1.2.2.2.2.2.2, 0, 0, (⟨#[]⟩ : ByteArray), ([] : List T), r1.1, r1.2.1, r1.2.2.1, r1.2.2.2.1)) fun p6 =>
some (p6.2.2.2.2.2.2.2.1, p6.2.2.2.2.2.2.2.2.1, p6.2.2.2.2.2.2.2.2.2.1, p6.2.2.2.2.2.2.2.2.2.2, p6.1, p6.2.1, p6.2.2.1))
def cs_z13 (b : B_z13) (hb : B_z13_ok b) (n : Nat) : List (CalF Tryz.prog) := [⟨d___expr_reader__factor, b.y0, hb.y0⟩, ⟨d_z13, b.y1, hb.y1⟩, ⟨d_z58, m_z58 n, m_z58_ok n⟩]
def L_l_z13_4 : LF := ⟨4, [0, 1, 2, 6, 7], [.ptr 0 0, .int .i64, .int .i64, .ptr 1 0, .ptr 2 0, .box 3, .list, .int .i64, .bool, .box 4, .int .i64, .int .i64, .str, .own 0, .box 4, .int .i64, .int .i64, .str, .list], [⟨(.exit 0), [6, 7], [.ptr 1 0, .ptr 2 0, .box 3, .list, .int .i64, .bool, .box 4, .int .i64, .int .i64, .str, .own 0, .box 4, .int .i64, .int .i64, .str, .list]⟩]⟩
def ls_z13 (b : B_z13) (n : Nat) : List LE := [⟨4, loopS L_l_z13_4 (l_z13_4 b n n)⟩]
theorem l_z13_4_ok (b : B_z13) (hb : B_z13_ok b) (n : Nat) : LoopOk Tryz.prog (mkSpec (cs_z13 b hb n) (ls_z13 b n)) 1 57 (loopAt Tryz.f161 0) := loopOk (L := L_l_z13_4) (f := l_z13_4 b n) (B := l_z13_4_B b n) (k := n) (loopAt_ok sound Tryz.func161 (by kernel_rfl)) (inner (by kernel_rfl) allN) (innerS (by kernel_rfl) allN) (fun _ => rfl) (fun _ _ => rfl) (by kernel_rfl) (fun _ => by kernel_rfl) (by kernel_rfl) (fun k a => by kernel_rfl)
theorem f_z13_ok (b : B_z13) (hb : B_z13_ok b) (n : Nat) : Ok Tryz.prog d_z13 (f_z13 b n) := fnOk sound (cs := cs_z13 b hb n) (ls := ls_z13 b n) (n := 57) Tryz.func161 (by kernel_rfl) (fun _ => by kernel_rfl) (inner (by kernel_rfl) (allC (l_z13_4_ok b hb n) allN)) (innerS (by kernel_rfl) allN) (by kernel_rfl) (fun a => by kernel_rfl)
def f___expr_reader__factor (b : B_z13) (n : Nat) (a0 : Int) (a1 : List T) (a2 : Int) (a3 : Bool) : Option (Int × Int × ByteArray × (List T) × (List T) × Int × Bool) :=
Option.bind (idx true [.int .i64, .str, .int .i64, .cplx .f64] a1 a2) fun y0 =>
Option.bind (m_z26 n (⟨#[45]⟩ : ByteArray) a1 a2 a3) fun r1 =>
Option.bind (m_z26 n (⟨#[40]⟩ : ByteArray) r1.2.1 r1.2.2.1 r1.2.2.2) fun r2 =>
bif r2.2.2.2 then (
some (0, 0, (⟨#[]⟩ : ByteArray), ([] : List T), r2.2.1, r2.2.2.1, r2.2.2.2))
else (
bif (((y0.cell 0).int : Int) == 2) then (
some (1, (y0.cell 2).int, (⟨#[]⟩ : ByteArray), ([] : List T), r2.2.1, (IntKind.wrap .i64 (r2.2.2.1 + 1)), r2.2.2.2))
else (
Option.bind (bif (((y0.cell 0).int : Int) == 1) then m_z72 n (y0.cell 1).str else some false) fun r3 =>
bif (bif (((y0.cell 0).int : Int) == 1) then r3 else false) then (
some (2, 0, (y0.cell 1).str, ([] : List T), r2.2.1, (IntKind.wrap .i64 (r2.2.2.1 + 1)), r2.2.2.2))
else (
bif (bif (bif (!r1.1) then (!r2.1) else false) then true else ((a0 : Int) == 8)) then (
Option.bind (m_z21 n r2.2.1 r2.2.2.1 r2.2.2.2) fun r4 =>
some (r4.1, r4.2.1, r4.2.2.1, r4.2.2.2.1, r4.2.2.2.2.1, r4.2.2.2.2.2.1, r4.2.2.2.2.2.2))
else (
bif r1.1 then (
Option.bind (b.y0 (IntKind.wrap .i64 (a0 + 1)) r2.2.1 (IntKind.wrap .i64 (r2.2.2.1 + 1)) r2.2.2.2) fun r5 =>
some (3, 0, (⟨#[]⟩ : ByteArray), [(T.agg [(T.sc (.int .i64 r5.1)), (T.sc (.int .i64 r5.2.1)), (T.sc (.string r5.2.2.1)), (T.list r5.2.2.2.1)])], r5.2.2.2.2.1, r5.2.2.2.2.2.1, r5.2.2.2.2.2.2))
else (
Option.bind (b.y1 0 (IntKind.wrap .i64 (a0 + 1)) r2.2.1 (IntKind.wrap .i64 (r2.2.2.1 + 1)) r2.2.2.2) fun r6 =>
Option.bind (m_z26 n (⟨#[41]⟩ : ByteArray) r6.2.2.2.2.1 r6.2.2.2.2.2.1 r6.2.2.2.2.2.2) fun r7 =>
bif (!r7.1) then (
Option.bind (m_z21 n r7.2.1 r7.2.2.1 r7.2.2.2) fun r8 =>
some (r8.1, r8.2.1, r8.2.2.1, r8.2.2.2.1, r8.2.2.2.2.1, r8.2.2.2.2.2.1, r8.2.2.2.2.2.2))
else (
some (r6.1, r6.2.1, r6.2.2.1, r6.2.2.2.1, r7.2.1, (IntKind.wrap .i64 (r7.2.2.1 + 1)), r7.2.2.2)))))))
theorem f___expr_reader__factor_ok (b : B_z13) (hb : B_z13_ok b) (n : Nat) : Ok Tryz.prog d___expr_reader__factor (f___expr_reader__factor b n) := fnOk0 sound [⟨d_z26, m_z26 n, m_z26_ok n⟩, ⟨d_z72, m_z72 n, m_z72_ok n⟩, ⟨d_z21, m_z21 n, m_z21_ok n⟩, ⟨d___expr_reader__factor, b.y0, hb.y0⟩, ⟨d_z13, b.y1, hb.y1⟩] Tryz.func172 (by kernel_rfl) (fun a => by kernel_rfl)
def unB_z13 (n : Nat) : Nat -> B_z13
 | 0 => { y1 := fun _ _ _ _ _ => none, y0 := fun _ _ _ _ => none }
 | m + 1 => { y1 := f_z13 (unB_z13 n m) n, y0 := f___expr_reader__factor (unB_z13 n m) n }
theorem unB_z13_ok (n : Nat) : ∀ m, B_z13_ok (unB_z13 n m)
 | 0 => { y1 := fun _ _ h => (nomatch (show none = some _ from h)), y0 := fun _ _ h => (nomatch (show none = some _ from h)) }
 | m + 1 => { y1 := f_z13_ok _ (unB_z13_ok n m) n, y0 := f___expr_reader__factor_ok _ (unB_z13_ok n m) n }
def m_z13 (n : Nat) : Int -> Int -> List T -> Int -> Bool -> Option (Int × Int × ByteArray × (List T) × (List T) × Int × Bool) := (unB_z13 n n).y1
theorem m_z13_ok (n : Nat) : Ok Tryz.prog d_z13 (m_z13 n) := (unB_z13_ok n n).y1
def m_z83 (n : Nat) (a0 : List T) (a1 : Int) : Option (Int × Int × ByteArray × (List T) × Int × Bool) :=
Option.bind (m_z13 n 0 0 a0 a1 false) fun r0 =>
bif r0.2.2.2.2.2.2 then (
some (0, 0, (⟨#[]⟩ : ByteArray), ([] : List T), r0.2.2.2.2.2.1, false))
else (
some (r0.1, r0.2.1, r0.2.2.1, r0.2.2.2.1, r0.2.2.2.2.2.1, true))
def d_z83 : FnF := ⟨136, [.list, .int .i64], [.tup 3, .agg 4, .int .i64, .int .i64, .str, .list, .int .i64, .bool]⟩
theorem m_z83_ok (n : Nat) : Ok Tryz.prog d_z83 (m_z83 n) := fnOk0 sound [⟨d_z13, m_z13 n, m_z13_ok n⟩] Tryz.func136 (by kernel_rfl) (fun a => by kernel_rfl)
def m_z14 (n : Nat) (a0 : List T) (a1 : Int) (a2 : Bool) : Option (Int × Int × ByteArray × (List T) × (List T) × Int × Bool) :=
bif a2 then (
some (0, 0, (⟨#[]⟩ : ByteArray), ([] : List T), a0, a1, a2))
else (
Option.bind (m_z83 n a0 a1) fun r0 =>
some (r0.1, r0.2.1, r0.2.2.1, r0.2.2.2.1, a0, r0.2.2.2.2.1, (!r0.2.2.2.2.2)))
def d_z14 : FnF := ⟨151, [.ptr 0 0, .box 3, .list, .int .i64, .bool], [.agg 4, .int .i64, .int .i64, .str, .list, .box 3, .list, .int .i64, .bool]⟩
theorem m_z14_ok (n : Nat) : Ok Tryz.prog d_z14 (m_z14 n) := fnOk0 sound [⟨d_z83, m_z83 n, m_z83_ok n⟩] Tryz.func151 (by kernel_rfl) (fun a => by kernel_rfl)
structure B_z10 where
 y2 : Int -> List T -> Int -> Bool -> Option ((List T) × (List T) × Int × Bool)
 y3 : Int -> List T -> Int -> Bool -> Option (Int × ByteArray × ByteArray × Int × Int × Int × ByteArray × (List T) × (List T) × (List T) × (Nat × Nat) × (List T) × Int × Bool)
def d_z10 : FnF := ⟨81, [.ptr 0 0, .int .i64, .box 3, .list, .int .i64, .bool], [.own 11, .box 3, .list, .int .i64, .bool]⟩
def d___parse_reader__stmt : FnF := ⟨118, [.ptr 0 0, .int .i64, .box 3, .list, .int .i64, .bool], [.agg 11, .int .i64, .str, .str, .int .i64, .int .i64, .int .i64, .str, .list, .list, .list, .cplx .f64, .box 3, .list, .int .i64, .bool]⟩
structure B_z10_ok (b : B_z10) : Prop where
 y2 : Ok Tryz.prog d_z10 b.y2
 y3 : Ok Tryz.prog d___parse_reader__stmt b.y3
def l_z10_5_B (b : B_z10) (n : Nat) (k : Int × (List T) × (List T) × Int × Bool -> Option ((List T) × (List T) × Int × Bool)) : Int × (List T) × (List T) × Int × Bool -> Option ((List T) × (List T) × Int × Bool) := fun (s0, s1, s2, s3, s4) =>
Option.bind (bif (!s4) then m_z23 n (⟨#[125]⟩ : ByteArray) s2 s3 s4 else some (false, [], 0, false)) fun r2 =>
bif (bif (!s4) then (!r2.1) else false) then (
Option.bind (b.y3 (IntKind.wrap .i64 (s0 + 1)) (bif (!s4) then r2.2.1 else s2) (bif (!s4) then r2.2.2.1 else s3) (bif (!s4) then r2.2.2.2 else s4)) fun r3 =>
must true ((Nat.beq 11 11 || Nat.beq 11 0) && (decide (List.length s1 + List.length [(T.agg [(T.sc (.int .i64 r3.1)), (T.sc (.string r3.2.1)), (T.sc (.string r3.2.2.1)), (T.sc (.int .i64 r3.2.2.2.1)), (T.sc (.int .i64 r3.2.2.2.2.1)), (T.sc (.int .i64 r3.2.2.2.2.2.1)), (T.sc (.string r3.2.2.2.2.2.2.1)), (T.list r3.2.2.2.2.2.2.2.1), (T.list r3.2.2.2.2.2.2.2.2.1), (T.list r3.2.2.2.2.2.2.2.2.2.1), (T.sc (.complex .f64 r3.2.2.2.2.2.2.2.2.2.2.1.1 r3.2.2.2.2.2.2.2.2.2.2.1.2))])] <= 1073741824) && sized 11 [(T.agg [(T.sc (.int .i64 r3.1)), (T.sc (.string r3.2.1)), (T.sc (.string r3.2.2.1)), (T.sc (.int .i64 r3.2.2.2.1)), (T.sc (.int .i64 r3.2.2.2.2.1)), (T.sc (.int .i64 r3.2.2.2.2.2.1)), (T.sc (.string r3.2.2.2.2.2.2.1)), (T.list r3.2.2.2.2.2.2.2.1), (T.list r3.2.2.2.2.2.2.2.2.1), (T.list r3.2.2.2.2.2.2.2.2.2.1), (T.sc (.complex .f64 r3.2.2.2.2.2.2.2.2.2.2.1.1 r3.2.2.2.2.2.2.2.2.2.2.1.2))])])) (k (s0, (s1 ++ [(T.agg [(T.sc (.int .i64 r3.1)), (T.sc (.string r3.2.1)), (T.sc (.string r3.2.2.1)), (T.sc (.int .i64 r3.2.2.2.1)), (T.sc (.int .i64 r3.2.2.2.2.1)), (T.sc (.int .i64 r3.2.2.2.2.2.1)), (T.sc (.string r3.2.2.2.2.2.2.1)), (T.list r3.2.2.2.2.2.2.2.1), (T.list r3.2.2.2.2.2.2.2.2.1), (T.list r3.2.2.2.2.2.2.2.2.2.1), (T.sc (.complex .f64 r3.2.2.2.2.2.2.2.2.2.2.1.1 r3.2.2.2.2.2.2.2.2.2.2.1.2))])]), r3.2.2.2.2.2.2.2.2.2.2.2.1, r3.2.2.2.2.2.2.2.2.2.2.2.2.1, r3.2.2.2.2.2.2.2.2.2.2.2.2.2)))
else (
some (s1, (bif (!s4) then r2.2.1 else s2), (bif (!s4) then r2.2.2.1 else s3), (bif (!s4) then r2.2.2.2 else s4)))
def l_z10_5 (b : B_z10) (n : Nat) : Nat -> Int × (List T) × (List T) × Int × Bool -> Option ((List T) × (List T) × Int × Bool)
 | 0, _ => none
 | m + 1, s => l_z10_5_B b n (l_z10_5 b n m) s
def f_z10 (b : B_z10) (n : Nat) (a0 : Int) (a1 : List T) (a2 : Int) (a3 : Bool) : Option ((List T) × (List T) × Int × Bool) :=
bif ((a0 : Int) == 8) then (
Option.bind (m_z15 n a1 a2 a3) fun r0 =>
Option.bind (m_z16 n (⟨#[123]⟩ : ByteArray) r0.1 r0.2.1 r0.2.2) fun r1 =>
Option.bind (l_z10_5 b n n (a0, ([] : List T), r1.1, r1.2.1, r1.2.2)) fun p5 =>
Option.bind (m_z16 n (⟨#[125]⟩ : ByteArray) p5.2.1 p5.2.2.1 p5.2.2.2) fun r6 =>
Option.bind (m_z5 n p5.1) fun r7 =>
some (r7, r6.1, r6.2.1, r6.2.2))
else (
Option.bind (m_z16 n (⟨#[123]⟩ : ByteArray) a1 a2 a3) fun r8 =>
Option.bind (l_z10_5 b n n (a0, ([] : List T), r8.1, r8.2.1, r8.2.2)) fun p10 =>
Option.bind (m_z16 n (⟨#[125]⟩ : ByteArray) p10.2.1 p10.2.2.1 p10.2.2.2) fun r11 =>
Option.bind (m_z5 n p10.1) fun r12 =>
some (r12, r11.1, r11.2.1, r11.2.2))
def cs_z10 (b : B_z10) (hb : B_z10_ok b) (n : Nat) : List (CalF Tryz.prog) := [⟨d_z15, m_z15 n, m_z15_ok n⟩, ⟨d_z16, m_z16 n, m_z16_ok n⟩, ⟨d_z23, m_z23 n, m_z23_ok n⟩, ⟨d___parse_reader__stmt, b.y3, hb.y3⟩, ⟨d_z5, m_z5 n, m_z5_ok n⟩]
def L_l_z10_5 : LF := ⟨5, [0, 1, 5], [.ptr 0 0, .int .i64, .own 11, .box 3, .list, .int .i64, .bool], [⟨(.exit 0), [0, 5], [.ptr 0 0, .own 11, .box 3, .list, .int .i64, .bool]⟩]⟩
def ls_z10 (b : B_z10) (n : Nat) : List LE := [⟨5, loopS L_l_z10_5 (l_z10_5 b n n)⟩]
theorem l_z10_5_ok (b : B_z10) (hb : B_z10_ok b) (n : Nat) : LoopOk Tryz.prog (mkSpec (cs_z10 b hb n) (ls_z10 b n)) 1 33 (loopAt Tryz.f81 0) := loopOk (L := L_l_z10_5) (f := l_z10_5 b n) (B := l_z10_5_B b n) (k := n) (loopAt_ok sound Tryz.func81 (by kernel_rfl)) (inner (by kernel_rfl) allN) (innerS (by kernel_rfl) allN) (fun _ => rfl) (fun _ _ => rfl) (by kernel_rfl) (fun _ => by kernel_rfl) (by kernel_rfl) (fun k a => by kernel_rfl)
theorem f_z10_ok (b : B_z10) (hb : B_z10_ok b) (n : Nat) : Ok Tryz.prog d_z10 (f_z10 b n) := fnOk sound (cs := cs_z10 b hb n) (ls := ls_z10 b n) (n := 33) Tryz.func81 (by kernel_rfl) (fun _ => by kernel_rfl) (inner (by kernel_rfl) (allC (l_z10_5_ok b hb n) allN)) (innerS (by kernel_rfl) allN) (by kernel_rfl) (fun a => by kernel_rfl)
def f___parse_reader__stmt (b : B_z10) (n : Nat) (a0 : Int) (a1 : List T) (a2 : Int) (a3 : Bool) : Option (Int × ByteArray × ByteArray × Int × Int × Int × ByteArray × (List T) × (List T) × (List T) × (Nat × Nat) × (List T) × Int × Bool) :=
Option.bind (idx true [.int .i64, .str, .int .i64, .cplx .f64] a1 a2) fun y0 =>
bif (((y0.cell 0).int : Int) != 1) then (
Option.bind (m_z15 n a1 a2 a3) fun r1 =>
some (0, (⟨#[]⟩ : ByteArray), (⟨#[]⟩ : ByteArray), 0, 0, 0, (⟨#[]⟩ : ByteArray), ([] : List T), ([] : List T), ([] : List T), ((y0.cell 3).re, (y0.cell 3).im), r1.1, r1.2.1, r1.2.2))
else (
Option.bind (m_z72 n (y0.cell 1).str) fun r2 =>
bif r2 then (
Option.bind (m_z17 n a1 a2 a3) fun r3 =>
Option.bind (m_z16 n (⟨#[61]⟩ : ByteArray) r3.2.1 r3.2.2.1 r3.2.2.2) fun r4 =>
Option.bind (m_z14 n r4.1 r4.2.1 r4.2.2) fun r5 =>
some (1, r3.1, (⟨#[]⟩ : ByteArray), 0, r5.1, r5.2.1, r5.2.2.1, r5.2.2.2.1, ([] : List T), ([] : List T), ((y0.cell 3).re, (y0.cell 3).im), r5.2.2.2.2.1, r5.2.2.2.2.2.1, r5.2.2.2.2.2.2))
else (
bif (ByteArray.toList (y0.cell 1).str == ByteArray.toList (⟨#[108, 111, 99, 107]⟩ : ByteArray)) then (
Option.bind (m_z17 n a1 (IntKind.wrap .i64 (a2 + 1)) a3) fun r6 =>
some (2, r6.1, (⟨#[]⟩ : ByteArray), 0, 0, 0, (⟨#[]⟩ : ByteArray), ([] : List T), ([] : List T), ([] : List T), ((y0.cell 3).re, (y0.cell 3).im), r6.2.1, r6.2.2.1, r6.2.2.2))
else (
bif (ByteArray.toList (y0.cell 1).str == ByteArray.toList (⟨#[117, 110, 108, 111, 99, 107]⟩ : ByteArray)) then (
Option.bind (m_z17 n a1 (IntKind.wrap .i64 (a2 + 1)) a3) fun r7 =>
some (3, r7.1, (⟨#[]⟩ : ByteArray), 0, 0, 0, (⟨#[]⟩ : ByteArray), ([] : List T), ([] : List T), ([] : List T), ((y0.cell 3).re, (y0.cell 3).im), r7.2.1, r7.2.2.1, r7.2.2.2))
else (
bif (ByteArray.toList (y0.cell 1).str == ByteArray.toList (⟨#[115, 101, 110, 100]⟩ : ByteArray)) then (
Option.bind (m_z17 n a1 (IntKind.wrap .i64 (a2 + 1)) a3) fun r8 =>
Option.bind (m_z14 n r8.2.1 r8.2.2.1 r8.2.2.2) fun r9 =>
some (4, r8.1, (⟨#[]⟩ : ByteArray), 0, r9.1, r9.2.1, r9.2.2.1, r9.2.2.2.1, ([] : List T), ([] : List T), ((y0.cell 3).re, (y0.cell 3).im), r9.2.2.2.2.1, r9.2.2.2.2.2.1, r9.2.2.2.2.2.2))
else (
bif (ByteArray.toList (y0.cell 1).str == ByteArray.toList (⟨#[114, 101, 99, 118]⟩ : ByteArray)) then (
Option.bind (m_z17 n a1 (IntKind.wrap .i64 (a2 + 1)) a3) fun r10 =>
Option.bind (m_z17 n r10.2.1 r10.2.2.1 r10.2.2.2) fun r11 =>
some (5, r10.1, r11.1, 0, 0, 0, (⟨#[]⟩ : ByteArray), ([] : List T), ([] : List T), ([] : List T), ((y0.cell 3).re, (y0.cell 3).im), r11.2.1, r11.2.2.1, r11.2.2.2))
else (
bif (ByteArray.toList (y0.cell 1).str == ByteArray.toList (⟨#[112, 114, 105, 110, 116]⟩ : ByteArray)) then (
Option.bind (m_z14 n a1 (IntKind.wrap .i64 (a2 + 1)) a3) fun r12 =>
some (6, (⟨#[]⟩ : ByteArray), (⟨#[]⟩ : ByteArray), 0, r12.1, r12.2.1, r12.2.2.1, r12.2.2.2.1, ([] : List T), ([] : List T), ((y0.cell 3).re, (y0.cell 3).im), r12.2.2.2.2.1, r12.2.2.2.2.2.1, r12.2.2.2.2.2.2))
else (
bif (ByteArray.toList (y0.cell 1).str == ByteArray.toList (⟨#[105, 102]⟩ : ByteArray)) then (
Option.bind (m_z14 n a1 (IntKind.wrap .i64 (a2 + 1)) a3) fun r13 =>
Option.bind (b.y2 a0 r13.2.2.2.2.1 r13.2.2.2.2.2.1 r13.2.2.2.2.2.2) fun r14 =>
Option.bind (m_z23 n (⟨#[101, 108, 115, 101]⟩ : ByteArray) r14.2.1 r14.2.2.1 r14.2.2.2) fun r15 =>
bif r15.1 then (
Option.bind (b.y2 a0 r15.2.1 (IntKind.wrap .i64 (r15.2.2.1 + 1)) r15.2.2.2) fun r16 =>
some (7, (⟨#[]⟩ : ByteArray), (⟨#[]⟩ : ByteArray), 0, r13.1, r13.2.1, r13.2.2.1, r13.2.2.2.1, r14.1, r16.1, ((y0.cell 3).re, (y0.cell 3).im), r16.2.1, r16.2.2.1, r16.2.2.2))
else (
some (7, (⟨#[]⟩ : ByteArray), (⟨#[]⟩ : ByteArray), 0, r13.1, r13.2.1, r13.2.2.1, r13.2.2.2.1, r14.1, ([] : List T), ((y0.cell 3).re, (y0.cell 3).im), r15.2.1, r15.2.2.1, r15.2.2.2)))
else (
bif (ByteArray.toList (y0.cell 1).str == ByteArray.toList (⟨#[114, 101, 112, 101, 97, 116]⟩ : ByteArray)) then (
Option.bind (m_z9 n 9 a1 (IntKind.wrap .i64 (a2 + 1)) a3) fun r17 =>
Option.bind (b.y2 a0 r17.2.1 r17.2.2.1 r17.2.2.2) fun r18 =>
some (8, (⟨#[]⟩ : ByteArray), (⟨#[]⟩ : ByteArray), r17.1, 0, 0, (⟨#[]⟩ : ByteArray), ([] : List T), r18.1, ([] : List T), ((y0.cell 3).re, (y0.cell 3).im), r18.2.1, r18.2.2.1, r18.2.2.2))
else (
bif (ByteArray.toList (y0.cell 1).str == ByteArray.toList (⟨#[103, 111, 116, 111]⟩ : ByteArray)) then (
Option.bind (m_z17 n a1 (IntKind.wrap .i64 (a2 + 1)) a3) fun r19 =>
some (9, r19.1, (⟨#[]⟩ : ByteArray), 0, 0, 0, (⟨#[]⟩ : ByteArray), ([] : List T), ([] : List T), ([] : List T), ((y0.cell 3).re, (y0.cell 3).im), r19.2.1, r19.2.2.1, r19.2.2.2))
else (
bif (ByteArray.toList (y0.cell 1).str == ByteArray.toList (⟨#[108, 97, 98, 101, 108]⟩ : ByteArray)) then (
Option.bind (m_z17 n a1 (IntKind.wrap .i64 (a2 + 1)) a3) fun r20 =>
some (10, r20.1, (⟨#[]⟩ : ByteArray), 0, 0, 0, (⟨#[]⟩ : ByteArray), ([] : List T), ([] : List T), ([] : List T), ((y0.cell 3).re, (y0.cell 3).im), r20.2.1, r20.2.2.1, r20.2.2.2))
else (
Option.bind (m_z15 n a1 (IntKind.wrap .i64 ((IntKind.wrap .i64 (a2 + 1)) - 1)) a3) fun r21 =>
some (0, (⟨#[]⟩ : ByteArray), (⟨#[]⟩ : ByteArray), 0, 0, 0, (⟨#[]⟩ : ByteArray), ([] : List T), ([] : List T), ([] : List T), ((y0.cell 3).re, (y0.cell 3).im), r21.1, r21.2.1, r21.2.2))))))))))))
theorem f___parse_reader__stmt_ok (b : B_z10) (hb : B_z10_ok b) (n : Nat) : Ok Tryz.prog d___parse_reader__stmt (f___parse_reader__stmt b n) := fnOk0 sound [⟨d_z15, m_z15 n, m_z15_ok n⟩, ⟨d_z72, m_z72 n, m_z72_ok n⟩, ⟨d_z17, m_z17 n, m_z17_ok n⟩, ⟨d_z16, m_z16 n, m_z16_ok n⟩, ⟨d_z14, m_z14 n, m_z14_ok n⟩, ⟨d_z10, b.y2, hb.y2⟩, ⟨d_z23, m_z23 n, m_z23_ok n⟩, ⟨d_z9, m_z9 n, m_z9_ok n⟩] Tryz.func118 (by kernel_rfl) (fun a => by kernel_rfl)
def unB_z10 (n : Nat) : Nat -> B_z10
 | 0 => { y2 := fun _ _ _ _ => none, y3 := fun _ _ _ _ => none }
 | m + 1 => { y2 := f_z10 (unB_z10 n m) n, y3 := f___parse_reader__stmt (unB_z10 n m) n }
theorem unB_z10_ok (n : Nat) : ∀ m, B_z10_ok (unB_z10 n m)
 | 0 => { y2 := fun _ _ h => (nomatch (show none = some _ from h)), y3 := fun _ _ h => (nomatch (show none = some _ from h)) }
 | m + 1 => { y2 := f_z10_ok _ (unB_z10_ok n m) n, y3 := f___parse_reader__stmt_ok _ (unB_z10_ok n m) n }
def m_z10 (n : Nat) : Int -> List T -> Int -> Bool -> Option ((List T) × (List T) × Int × Bool) := (unB_z10 n n).y2
theorem m_z10_ok (n : Nat) : Ok Tryz.prog d_z10 (m_z10 n) := (unB_z10_ok n n).y2
def m_z2 (n : Nat) (a0 : List T) : Option ((List T)) :=
must true (decide (0 <= 0) && decide (0 <= ((List.length a0 : Nat) : Int)) && decide (((List.length a0 : Nat) : Int) <= ((List.length a0 : Nat) : Int)) && sized 1 a0) (must true (decide (((List.length a0 : Nat) : Int) = ((List.length a0 : Nat) : Int))) (some (List.drop (Int.toNat 0) (List.take (Int.toNat ((List.length a0 : Nat) : Int)) a0))))
def d_z2 : FnF := ⟨82, [.list], [.own 1]⟩
theorem m_z2_ok (n : Nat) : Ok Tryz.prog d_z2 (m_z2 n) := fnOk0 sound [] Tryz.func82 (by kernel_rfl) (fun a => by kernel_rfl)
def l_z18_2_B (n : Nat) (k : (List T) × Int × Bool × (List T) × (List T) × (List T) × (List T) -> Option ((List T) × Int × Bool × (List T) × (List T) × (List T) × (List T))) : (List T) × Int × Bool × (List T) × (List T) × (List T) × (List T) -> Option ((List T) × Int × Bool × (List T) × (List T) × (List T) × (List T)) := fun (s0, s1, s2, s3, s4, s5, s6) =>
Option.bind (idx (((!s2) && !((((List.length s6 : Nat) : Int) : Int) == 0))) [.int .i64, .str, .int .i64, .cplx .f64] s0 s1) fun y1 =>
bif (bif (!s2) then (bif ((((List.length s6 : Nat) : Int) : Int) == 0) then true else (((y1.cell 0).int : Int) != 4)) else false) then (
bif ((((List.length s6 : Nat) : Int) : Int) == 4) then (
Option.bind (m_z15 n s0 s1 s2) fun r2 =>
Option.bind (m_z16 n (⟨#[103, 111]⟩ : ByteArray) r2.1 r2.2.1 r2.2.2) fun r3 =>
Option.bind (m_z10 n 0 r3.1 r3.2.1 r3.2.2) fun r4 =>
must true ((Nat.beq 1 1 || Nat.beq 1 0) && (decide (List.length s6 + List.length [(T.list r4.1)] <= 1073741824) && sized 1 [(T.list r4.1)])) (k (r4.2.1, r4.2.2.1, r4.2.2.2, s3, s4, s5, (s6 ++ [(T.list r4.1)]))))
else (
Option.bind (m_z16 n (⟨#[103, 111]⟩ : ByteArray) s0 s1 s2) fun r5 =>
Option.bind (m_z10 n 0 r5.1 r5.2.1 r5.2.2) fun r6 =>
must true ((Nat.beq 1 1 || Nat.beq 1 0) && (decide (List.length s6 + List.length [(T.list r6.1)] <= 1073741824) && sized 1 [(T.list r6.1)])) (k (r6.2.1, r6.2.2.1, r6.2.2.2, s3, s4, s5, (s6 ++ [(T.list r6.1)])))))
else (
some (s0, s1, s2, s3, s4, s5, s6))
def l_z18_2 (n : Nat) : Nat -> (List T) × Int × Bool × (List T) × (List T) × (List T) × (List T) -> Option ((List T) × Int × Bool × (List T) × (List T) × (List T) × (List T))
 | 0, _ => none
 | m + 1, s => l_z18_2_B n (l_z18_2 n m) s
def m_z18 (n : Nat) (a0 : List T) (a1 : Int) (a2 : Bool) : Option ((List T) × (List T) × (List T) × Int × Bool) :=
Option.bind (m_z11 n a0 a1 a2) fun r0 =>
Option.bind (l_z18_2 n n (r0.2.1, r0.2.2.1, r0.2.2.2, ([] : List T), ([] : List T), r0.1, ([] : List T))) fun p8 =>
Option.bind (m_z2 n p8.2.2.2.2.2.2) fun r9 =>
some (p8.2.2.2.2.2.1, r9, p8.1, p8.2.1, p8.2.2.1)
def d_z18 : FnF := ⟨42, [.ptr 0 0, .box 3, .list, .int .i64, .bool], [.agg 2, .list, .list, .box 3, .list, .int .i64, .bool]⟩
def cs_z18 (n : Nat) : List (CalF Tryz.prog) := [⟨d_z11, m_z11 n, m_z11_ok n⟩, ⟨d_z15, m_z15 n, m_z15_ok n⟩, ⟨d_z16, m_z16 n, m_z16_ok n⟩, ⟨d_z10, m_z10 n, m_z10_ok n⟩, ⟨d_z2, m_z2 n, m_z2_ok n⟩]
def L_l_z18_2 : LF := ⟨2, [0, 2, 3], [.ptr 0 0, .ptr 1 0, .ptr 2 0, .box 3, .list, .int .i64, .bool, .box 2, .own 0, .own 0, .box 2, .list, .own 1], [⟨(.exit 0), [2, 3], [.ptr 1 0, .ptr 2 0, .box 3, .list, .int .i64, .bool, .box 2, .own 0, .own 0, .box 2, .list, .own 1]⟩]⟩
def ls_z18 (n : Nat) : List LE := [⟨2, loopS L_l_z18_2 (l_z18_2 n n)⟩]
theorem l_z18_2_ok (n : Nat) : LoopOk Tryz.prog (mkSpec (cs_z18 n) (ls_z18 n)) 1 52 (loopAt Tryz.f42 0) := loopOk (L := L_l_z18_2) (f := l_z18_2 n) (B := l_z18_2_B n) (k := n) (loopAt_ok sound Tryz.func42 (by kernel_rfl)) (inner (by kernel_rfl) allN) (innerS (by kernel_rfl) allN) (fun _ => rfl) (fun _ _ => rfl) (by kernel_rfl) (fun _ => by kernel_rfl) (by kernel_rfl) (fun k a => by kernel_rfl)
theorem m_z18_ok (n : Nat) : Ok Tryz.prog d_z18 (m_z18 n) := fnOk sound (cs := cs_z18 n) (ls := ls_z18 n) (n := 52) Tryz.func42 (by kernel_rfl) (fun _ => by kernel_rfl) (inner (by kernel_rfl) (allC (l_z18_2_ok n) allN)) (innerS (by kernel_rfl) allN) (by kernel_rfl) (fun a => by kernel_rfl)
def m_z79 (n : Nat) (a0 : ByteArray) : Option ((List T) × (List T) × (Nat × Nat) × Int) :=
Option.bind (m_z73 n a0) fun r0 =>
bif ((r0.2.2 : Int) != 0) then (
some (([] : List T), ([] : List T), r0.2.1, r0.2.2))
else (
Option.bind (m_z18 n r0.1 0 false) fun r1 =>
bif r1.2.2.2.2 then (
Option.bind (idx true [.int .i64, .str, .int .i64, .cplx .f64] r0.1 r1.2.2.2.1) fun y2 =>
some (([] : List T), ([] : List T), ((y2.cell 3).re, (y2.cell 3).im), 2))
else (
some (r1.1, r1.2.1, (0, 0), 0)))
def d_z79 : FnF := ⟨19, [.str], [.tup 3, .agg 2, .list, .list, .cplx .f64, .int .i64]⟩
theorem m_z79_ok (n : Nat) : Ok Tryz.prog d_z79 (m_z79 n) := fnOk0 sound [⟨d_z73, m_z73 n, m_z73_ok n⟩, ⟨d_z18, m_z18 n, m_z18_ok n⟩] Tryz.func19 (by kernel_rfl) (fun a => by kernel_rfl)
def m_z69 (n : Nat) (a0 : Int) : Option (ByteArray) :=
bif ((a0 : Int) == 1) then (
some (⟨#[118, 97, 114]⟩ : ByteArray))
else (
bif ((a0 : Int) == 2) then (
some (⟨#[119, 105, 100, 101]⟩ : ByteArray))
else (
bif ((a0 : Int) == 3) then (
some (⟨#[97, 116, 111, 109, 105, 99]⟩ : ByteArray))
else (
bif ((a0 : Int) == 4) then (
some (⟨#[108, 111, 99, 97, 108]⟩ : ByteArray))
else (
bif ((a0 : Int) == 5) then (
some (⟨#[109, 117, 116, 101, 120]⟩ : ByteArray))
else (
bif ((a0 : Int) == 6) then (
some (⟨#[99, 104, 97, 110]⟩ : ByteArray))
else (
some (⟨#[63]⟩ : ByteArray)))))))
def d_z69 : FnF := ⟨35, [.int .i64], [.str]⟩
theorem m_z69_ok (n : Nat) : Ok Tryz.prog d_z69 (m_z69 n) := fnOk0 sound [] Tryz.func35 (by kernel_rfl) (fun a => by kernel_rfl)
def m_z53 (n : Nat) (a0 : ByteArray) (a1 : Int) : Option (ByteArray) := repeatM a0 a1
def d_z53 : FnF := ⟨56, [.str, .int .i64], [.str]⟩
theorem m_z53_ok (n : Nat) : Ok Tryz.prog d_z53 (m_z53 n) := fun a r h => x_strings_Repeat (show repeatM a.1 a.2.1 = some r from h)
def m_z67 (n : Nat) (a0 : List T) (a1 : ByteArray) : Option (ByteArray) := joinM a0 a1
def d_z67 : FnF := ⟨57, [.list, .str], [.str]⟩
theorem m_z67_ok (n : Nat) : Ok Tryz.prog d_z67 (m_z67 n) := fun a r h => x_strings_Join (show joinM a.1 a.2.1 = some r from h)
def m_z86 (n : Nat) (a0 : Int) (a1 : List T) : Option (ByteArray) :=
Option.bind (m_z53 n (⟨#[9]⟩ : ByteArray) a0) fun r0 =>
Option.bind (m_z67 n a1 (⟨#[32]⟩ : ByteArray)) fun r1 =>
must true (decide (((ByteArray.size r0 + ByteArray.size r1 : Nat) : Int) <= IntKind.i64.max)) (must true (decide (((ByteArray.size (r0 ++ r1) + ByteArray.size (⟨#[10]⟩ : ByteArray) : Nat) : Int) <= IntKind.i64.max)) (some ((r0 ++ r1) ++ (⟨#[10]⟩ : ByteArray))))
def d_z86 : FnF := ⟨34, [.int .i64, .list], [.str]⟩
theorem m_z86_ok (n : Nat) : Ok Tryz.prog d_z86 (m_z86 n) := fnOk0 sound [⟨d_z53, m_z53 n, m_z53_ok n⟩, ⟨d_z67, m_z67 n, m_z67_ok n⟩] Tryz.func34 (by kernel_rfl) (fun a => by kernel_rfl)
def m_z84 (n : Nat) (a0 : Int) : Option (ByteArray × Int) :=
bif ((a0 : Int) == 9) then (
some ((⟨#[60]⟩ : ByteArray), 0))
else (
bif ((a0 : Int) == 10) then (
some ((⟨#[61, 61]⟩ : ByteArray), 0))
else (
bif ((a0 : Int) == 4) then (
some ((⟨#[43]⟩ : ByteArray), 1))
else (
bif ((a0 : Int) == 5) then (
some ((⟨#[45]⟩ : ByteArray), 1))
else (
bif ((a0 : Int) == 6) then (
some ((⟨#[42]⟩ : ByteArray), 2))
else (
bif ((a0 : Int) == 7) then (
some ((⟨#[47]⟩ : ByteArray), 2))
else (
bif ((a0 : Int) == 8) then (
some ((⟨#[37]⟩ : ByteArray), 2))
else (
some ((⟨#[]⟩ : ByteArray), 3))))))))
def d_z84 : FnF := ⟨160, [.int .i64], [.tup 2, .str, .int .i64]⟩
theorem m_z84_ok (n : Nat) : Ok Tryz.prog d_z84 (m_z84 n) := fnOk0 sound [] Tryz.func160 (by kernel_rfl) (fun a => by kernel_rfl)
structure B_z61 where
 y4 : Int -> Int -> ByteArray -> List T -> Int -> Option (ByteArray)
def d_z61 : FnF := ⟨135, [.agg 4, .int .i64, .int .i64, .str, .list, .int .i64], [.str]⟩
structure B_z61_ok (b : B_z61) : Prop where
 y4 : Ok Tryz.prog d_z61 b.y4
def f_z61 (b : B_z61) (n : Nat) (a0 : Int) (a1 : Int) (a2 : ByteArray) (a3 : List T) (a4 : Int) : Option (ByteArray) :=
bif ((a0 : Int) == 1) then (
Option.bind (m_z66 n a1) fun r0 =>
some r0)
else (
bif ((a0 : Int) == 2) then (
some a2)
else (
bif (bif ((a0 : Int) == 3) then ((((List.length a3 : Nat) : Int) : Int) == 1) else false) then (
Option.bind (idx true [.int .i64, .int .i64, .str, .list] a3 0) fun y1 =>
Option.bind (b.y4 (y1.cell 0).int (y1.cell 1).int (y1.cell 2).str (y1.cell 3).lst 3) fun r2 =>
must true (decide (((ByteArray.size (⟨#[45]⟩ : ByteArray) + ByteArray.size r2 : Nat) : Int) <= IntKind.i64.max)) (some ((⟨#[45]⟩ : ByteArray) ++ r2)))
else (
bif (bif (bif (decide ((a0 : Int) < 4)) then true else (decide ((a0 : Int) > 10))) then true else ((((List.length a3 : Nat) : Int) : Int) != 2)) then (
some (⟨#[63]⟩ : ByteArray))
else (
Option.bind (m_z84 n a0) fun r3 =>
bif ((r3.2 : Int) == 0) then (
Option.bind (idx true [.int .i64, .int .i64, .str, .list] a3 0) fun y4 =>
Option.bind (b.y4 (y4.cell 0).int (y4.cell 1).int (y4.cell 2).str (y4.cell 3).lst 1) fun r5 =>
must true (decide (((ByteArray.size r5 + ByteArray.size (⟨#[32]⟩ : ByteArray) : Nat) : Int) <= IntKind.i64.max)) (must true (decide (((ByteArray.size (r5 ++ (⟨#[32]⟩ : ByteArray)) + ByteArray.size r3.1 : Nat) : Int) <= IntKind.i64.max)) (must true (decide (((ByteArray.size ((r5 ++ (⟨#[32]⟩ : ByteArray)) ++ r3.1) + ByteArray.size (⟨#[32]⟩ : ByteArray) : Nat) : Int) <= IntKind.i64.max)) (Option.bind (idx true [.int .i64, .int .i64, .str, .list] a3 1) fun y6 =>
Option.bind (b.y4 (y6.cell 0).int (y6.cell 1).int (y6.cell 2).str (y6.cell 3).lst (IntKind.wrap .i64 (r3.2 + 1))) fun r7 =>
must true (decide (((ByteArray.size (((r5 ++ (⟨#[32]⟩ : ByteArray)) ++ r3.1) ++ (⟨#[32]⟩ : ByteArray)) + ByteArray.size r7 : Nat) : Int) <= IntKind.i64.max)) (bif (decide ((r3.2 : Int) < a4)) then (
must true (decide (((ByteArray.size (⟨#[40]⟩ : ByteArray) + ByteArray.size ((((r5 ++ (⟨#[32]⟩ : ByteArray)) ++ r3.1) ++ (⟨#[32]⟩ : ByteArray)) ++ r7) : Nat) : Int) <= IntKind.i64.max)) (must true (decide (((ByteArray.size ((⟨#[40]⟩ : ByteArray) ++ ((((r5 ++ (⟨#[32]⟩ : ByteArray)) ++ r3.1) ++ (⟨#[32]⟩ : ByteArray)) ++ r7)) + ByteArray.size (⟨#[41]⟩ : ByteArray) : Nat) : Int) <= IntKind.i64.max)) (some (((⟨#[40]⟩ : ByteArray) ++ ((((r5 ++ (⟨#[32]⟩ : ByteArray)) ++ r3.1) ++ (⟨#[32]⟩ : ByteArray)) ++ r7)) ++ (⟨#[41]⟩ : ByteArray)))))
else (
some ((((r5 ++ (⟨#[32]⟩ : ByteArray)) ++ r3.1) ++ (⟨#[32]⟩ : ByteArray)) ++ r7)))))))
else (
Option.bind (idx true [.int .i64, .int .i64, .str, .list] a3 0) fun y8 =>
Option.bind (b.y4 (y8.cell 0).int (y8.cell 1).int (y8.cell 2).str (y8.cell 3).lst r3.2) fun r9 =>
must true (decide (((ByteArray.size r9 + ByteArray.size (⟨#[32]⟩ : ByteArray) : Nat) : Int) <= IntKind.i64.max)) (must true (decide (((ByteArray.size (r9 ++ (⟨#[32]⟩ : ByteArray)) + ByteArray.size r3.1 : Nat) : Int) <= IntKind.i64.max)) (must true (decide (((ByteArray.size ((r9 ++ (⟨#[32]⟩ : ByteArray)) ++ r3.1) + ByteArray.size (⟨#[32]⟩ : ByteArray) : Nat) : Int) <= IntKind.i64.max)) (Option.bind (idx true [.int .i64, .int .i64, .str, .list] a3 1) fun y10 =>
Option.bind (b.y4 (y10.cell 0).int (y10.cell 1).int (y10.cell 2).str (y10.cell 3).lst (IntKind.wrap .i64 (r3.2 + 1))) fun r11 =>
must true (decide (((ByteArray.size (((r9 ++ (⟨#[32]⟩ : ByteArray)) ++ r3.1) ++ (⟨#[32]⟩ : ByteArray)) + ByteArray.size r11 : Nat) : Int) <= IntKind.i64.max)) (bif (decide ((r3.2 : Int) < a4)) then (
must true (decide (((ByteArray.size (⟨#[40]⟩ : ByteArray) + ByteArray.size ((((r9 ++ (⟨#[32]⟩ : ByteArray)) ++ r3.1) ++ (⟨#[32]⟩ : ByteArray)) ++ r11) : Nat) : Int) <= IntKind.i64.max)) (must true (decide (((ByteArray.size ((⟨#[40]⟩ : ByteArray) ++ ((((r9 ++ (⟨#[32]⟩ : ByteArray)) ++ r3.1) ++ (⟨#[32]⟩ : ByteArray)) ++ r11)) + ByteArray.size (⟨#[41]⟩ : ByteArray) : Nat) : Int) <= IntKind.i64.max)) (some (((⟨#[40]⟩ : ByteArray) ++ ((((r9 ++ (⟨#[32]⟩ : ByteArray)) ++ r3.1) ++ (⟨#[32]⟩ : ByteArray)) ++ r11)) ++ (⟨#[41]⟩ : ByteArray)))))
else (
some ((((r9 ++ (⟨#[32]⟩ : ByteArray)) ++ r3.1) ++ (⟨#[32]⟩ : ByteArray)) ++ r11)))))))))))
theorem f_z61_ok (b : B_z61) (hb : B_z61_ok b) (n : Nat) : Ok Tryz.prog d_z61 (f_z61 b n) := fnOk0 sound [⟨d_z66, m_z66 n, m_z66_ok n⟩, ⟨d_z61, b.y4, hb.y4⟩, ⟨d_z84, m_z84 n, m_z84_ok n⟩] Tryz.func135 (by kernel_rfl) (fun a => by kernel_rfl)
def unB_z61 (n : Nat) : Nat -> B_z61
 | 0 => { y4 := fun _ _ _ _ _ => none }
 | m + 1 => { y4 := f_z61 (unB_z61 n m) n }
theorem unB_z61_ok (n : Nat) : ∀ m, B_z61_ok (unB_z61 n m)
 | 0 => { y4 := fun _ _ h => (nomatch (show none = some _ from h)) }
 | m + 1 => { y4 := f_z61_ok _ (unB_z61_ok n m) n }
def m_z61 (n : Nat) : Int -> Int -> ByteArray -> List T -> Int -> Option (ByteArray) := (unB_z61 n n).y4
theorem m_z61_ok (n : Nat) : Ok Tryz.prog d_z61 (m_z61 n) := (unB_z61_ok n n).y4
structure B_z60 where
 y21 : Int -> Int -> ByteArray -> List T -> Int -> Int -> ByteArray -> List T -> Option (Bool)
 y5 : List T -> List T -> Option (Bool)
def d_z60 : FnF := ⟨137, [.agg 4, .int .i64, .int .i64, .str, .list, .agg 4, .int .i64, .int .i64, .str, .list], [.bool]⟩
def d_slices_EqualFunc___api_Expr___api_Expr_api_Expr_api_Expr_ : FnF := ⟨162, [.list, .list, .fn 137 0], [.bool]⟩
structure B_z60_ok (b : B_z60) : Prop where
 y21 : Ok Tryz.prog d_z60 b.y21
 y5 : Ok Tryz.prog d_slices_EqualFunc___api_Expr___api_Expr_api_Expr_api_Expr_ b.y5
def f_z60 (b : B_z60) (n : Nat) (a0 : Int) (a1 : Int) (a2 : ByteArray) (a3 : List T) (a4 : Int) (a5 : Int) (a6 : ByteArray) (a7 : List T) : Option (Bool) :=
Option.bind (bif (bif (bif ((a0 : Int) == a4) then ((a1 : Int) == a5) else false) then (ByteArray.toList a2 == ByteArray.toList a6) else false) then b.y5 a3 a7 else some false) fun r0 =>
some (bif (bif (bif ((a0 : Int) == a4) then ((a1 : Int) == a5) else false) then (ByteArray.toList a2 == ByteArray.toList a6) else false) then r0 else false)
theorem f_z60_ok (b : B_z60) (hb : B_z60_ok b) (n : Nat) : Ok Tryz.prog d_z60 (f_z60 b n) := fnOk0 sound [⟨d_slices_EqualFunc___api_Expr___api_Expr_api_Expr_api_Expr_, b.y5, hb.y5⟩] Tryz.func137 (by kernel_rfl) (fun a => by kernel_rfl)
def l_slices_EqualFunc___api_Expr___api_Expr_api_Expr_api_Expr__4_B (b : B_z60) (n : Nat) (k : (List T) × (List T) × Int × Int -> Option (((Unit) ⊕ Bool))) : (List T) × (List T) × Int × Int -> Option (((Unit) ⊕ Bool)) := fun (s0, s1, s2, s3) =>
bif (decide ((s3 : Int) < s2)) then (
Option.bind (idx true [.int .i64, .int .i64, .str, .list] s1 s3) fun y0 =>
Option.bind (idx true [.int .i64, .int .i64, .str, .list] s0 s3) fun y1 =>
Option.bind (b.y21 (y0.cell 0).int (y0.cell 1).int (y0.cell 2).str (y0.cell 3).lst (y1.cell 0).int (y1.cell 1).int (y1.cell 2).str (y1.cell 3).lst) fun r2 =>
bif (!r2) then (
some (Sum.inr false))
else (
k (s0, s1, s2, (IntKind.wrap .i64 (s3 + 1)))))
else (
some (Sum.inl ()))
def l_slices_EqualFunc___api_Expr___api_Expr_api_Expr_api_Expr__4 (b : B_z60) (n : Nat) : Nat -> (List T) × (List T) × Int × Int -> Option (((Unit) ⊕ Bool))
 | 0, _ => none
 | m + 1, s => l_slices_EqualFunc___api_Expr___api_Expr_api_Expr_api_Expr__4_B b n (l_slices_EqualFunc___api_Expr___api_Expr_api_Expr_api_Expr__4 b n m) s
def f_slices_EqualFunc___api_Expr___api_Expr_api_Expr_api_Expr_ (b : B_z60) (n : Nat) (a0 : List T) (a1 : List T) : Option (Bool) :=
bif ((((List.length a0 : Nat) : Int) : Int) != ((List.length a1 : Nat) : Int)) then (
some false)
else (
Option.bind (l_slices_EqualFunc___api_Expr___api_Expr_api_Expr_api_Expr__4 b n n (a1, a0, ((List.length a0 : Nat) : Int), 0)) fun x3 =>
Sum.elim (fun p4 =>
some true) (fun x3' => (fun p5 =>
some p5) x3') x3)
def cs_slices_EqualFunc___api_Expr___api_Expr_api_Expr_api_Expr_ (b : B_z60) (hb : B_z60_ok b) (n : Nat) : List (CalF Tryz.prog) := [⟨d_z60, b.y21, hb.y21⟩]
def L_l_slices_EqualFunc___api_Expr___api_Expr_api_Expr_api_Expr__4 : LF := ⟨4, [1, 2, 15, 16, 17], [.list, .fn 137 0, .list, .int .i64, .int .i64], [⟨(.exit 0), [], []⟩, ⟨.ret, [6], [.bool]⟩]⟩
def ls_slices_EqualFunc___api_Expr___api_Expr_api_Expr_api_Expr_ (b : B_z60) (n : Nat) : List LE := [⟨4, loopS L_l_slices_EqualFunc___api_Expr___api_Expr_api_Expr_api_Expr__4 (l_slices_EqualFunc___api_Expr___api_Expr_api_Expr_api_Expr__4 b n n)⟩]
theorem l_slices_EqualFunc___api_Expr___api_Expr_api_Expr_api_Expr__4_ok (b : B_z60) (hb : B_z60_ok b) (n : Nat) : LoopOk Tryz.prog (mkSpec (cs_slices_EqualFunc___api_Expr___api_Expr_api_Expr_api_Expr_ b hb n) (ls_slices_EqualFunc___api_Expr___api_Expr_api_Expr_api_Expr_ b n)) 0 32 (loopAt Tryz.f162 0) := loopOk (L := L_l_slices_EqualFunc___api_Expr___api_Expr_api_Expr_api_Expr__4) (f := l_slices_EqualFunc___api_Expr___api_Expr_api_Expr_api_Expr__4 b n) (B := l_slices_EqualFunc___api_Expr___api_Expr_api_Expr_api_Expr__4_B b n) (k := n) (loopAt_ok sound Tryz.func162 (by kernel_rfl)) (inner (by kernel_rfl) allN) (innerS (by kernel_rfl) allN) (fun _ => rfl) (fun _ _ => rfl) (by kernel_rfl) (fun _ => by kernel_rfl) (by kernel_rfl) (fun k a => by kernel_rfl)
theorem f_slices_EqualFunc___api_Expr___api_Expr_api_Expr_api_Expr__ok (b : B_z60) (hb : B_z60_ok b) (n : Nat) : Ok Tryz.prog d_slices_EqualFunc___api_Expr___api_Expr_api_Expr_api_Expr_ (f_slices_EqualFunc___api_Expr___api_Expr_api_Expr_api_Expr_ b n) := fnOk sound (cs := cs_slices_EqualFunc___api_Expr___api_Expr_api_Expr_api_Expr_ b hb n) (ls := ls_slices_EqualFunc___api_Expr___api_Expr_api_Expr_api_Expr_ b n) (n := 32) Tryz.func162 (by kernel_rfl) (fun _ => by kernel_rfl) (inner (by kernel_rfl) (allC (l_slices_EqualFunc___api_Expr___api_Expr_api_Expr_api_Expr__4_ok b hb n) allN)) (innerS (by kernel_rfl) allN) (by kernel_rfl) (fun a => by kernel_rfl)
def unB_z60 (n : Nat) : Nat -> B_z60
 | 0 => { y21 := fun _ _ _ _ _ _ _ _ => none, y5 := fun _ _ => none }
 | m + 1 => { y21 := f_z60 (unB_z60 n m) n, y5 := f_slices_EqualFunc___api_Expr___api_Expr_api_Expr_api_Expr_ (unB_z60 n m) n }
theorem unB_z60_ok (n : Nat) : ∀ m, B_z60_ok (unB_z60 n m)
 | 0 => { y21 := fun _ _ h => (nomatch (show none = some _ from h)), y5 := fun _ _ h => (nomatch (show none = some _ from h)) }
 | m + 1 => { y21 := f_z60_ok _ (unB_z60_ok n m) n, y5 := f_slices_EqualFunc___api_Expr___api_Expr_api_Expr_api_Expr__ok _ (unB_z60_ok n m) n }
def m_z60 (n : Nat) : Int -> Int -> ByteArray -> List T -> Int -> Int -> ByteArray -> List T -> Option (Bool) := (unB_z60 n n).y21
theorem m_z60_ok (n : Nat) : Ok Tryz.prog d_z60 (m_z60 n) := (unB_z60_ok n n).y21
def m_z71 (n : Nat) (a0 : Int) (a1 : Int) (a2 : ByteArray) (a3 : List T) : Option (ByteArray) :=
Option.bind (m_z61 n a0 a1 a2 a3 0) fun r0 =>
Option.bind (m_z73 n r0) fun r1 =>
bif ((r1.2.2 : Int) != 0) then (
some (⟨#[]⟩ : ByteArray))
else (
Option.bind (m_z83 n r1.1 0) fun r2 =>
Option.bind (idx (!(!r2.2.2.2.2.2)) [.int .i64, .str, .int .i64, .cplx .f64] r1.1 r2.2.2.2.2.1) fun y3 =>
Option.bind (bif !(bif (!r2.2.2.2.2.2) then true else (((y3.cell 0).int : Int) != 4)) then m_z60 n a0 a1 a2 a3 r2.1 r2.2.1 r2.2.2.1 r2.2.2.2.1 else some false) fun r4 =>
bif (bif (bif (!r2.2.2.2.2.2) then true else (((y3.cell 0).int : Int) != 4)) then true else (!r4)) then (
some (⟨#[]⟩ : ByteArray))
else (
some r0))
def d_z71 : FnF := ⟨99, [.agg 4, .int .i64, .int .i64, .str, .list], [.str]⟩
theorem m_z71_ok (n : Nat) : Ok Tryz.prog d_z71 (m_z71 n) := fnOk0 sound [⟨d_z61, m_z61 n, m_z61_ok n⟩, ⟨d_z73, m_z73 n, m_z73_ok n⟩, ⟨d_z83, m_z83 n, m_z83_ok n⟩, ⟨d_z60, m_z60 n, m_z60_ok n⟩] Tryz.func99 (by kernel_rfl) (fun a => by kernel_rfl)
structure B_z82 where
 y19 : List T -> Int -> Option (ByteArray)
 y20 : Int -> ByteArray -> ByteArray -> Int -> Int -> Int -> ByteArray -> List T -> List T -> List T -> Nat × Nat -> Int -> Option (ByteArray)
def d_z82 : FnF := ⟨37, [.list, .int .i64], [.str]⟩
def d_text_stmt : FnF := ⟨59, [.agg 11, .int .i64, .str, .str, .int .i64, .int .i64, .int .i64, .str, .list, .list, .list, .cplx .f64, .int .i64], [.str]⟩
structure B_z82_ok (b : B_z82) : Prop where
 y19 : Ok Tryz.prog d_z82 b.y19
 y20 : Ok Tryz.prog d_text_stmt b.y20
def l_z82_3_B (b : B_z82) (n : Nat) (k : Int × ByteArray × (List T) × Int × Int -> Option (ByteArray)) : Int × ByteArray × (List T) × Int × Int -> Option (ByteArray) := fun (s0, s1, s2, s3, s4) =>
bif (decide ((s4 : Int) < s3)) then (
Option.bind (idx true [.int .i64, .str, .str, .int .i64, .int .i64, .int .i64, .str, .list, .list, .list, .cplx .f64] s2 s4) fun y0 =>
Option.bind (b.y20 (y0.cell 0).int (y0.cell 1).str (y0.cell 2).str (y0.cell 3).int (y0.cell 4).int (y0.cell 5).int (y0.cell 6).str (y0.cell 7).lst (y0.cell 8).lst (y0.cell 9).lst ((y0.cell 10).re, (y0.cell 10).im) s0) fun r1 =>
must true (decide (((ByteArray.size s1 + ByteArray.size r1 : Nat) : Int) <= IntKind.i64.max)) (k (s0, (s1 ++ r1), s2, s3, (IntKind.wrap .i64 (s4 + 1)))))
else (
some s1)
def l_z82_3 (b : B_z82) (n : Nat) : Nat -> Int × ByteArray × (List T) × Int × Int -> Option (ByteArray)
 | 0, _ => none
 | m + 1, s => l_z82_3_B b n (l_z82_3 b n m) s
def f_z82 (b : B_z82) (n : Nat) (a0 : List T) (a1 : Int) : Option (ByteArray) :=
Option.bind (l_z82_3 b n n (a1, (⟨#[]⟩ : ByteArray), a0, ((List.length a0 : Nat) : Int), 0)) fun p3 =>
some p3
def cs_z82 (b : B_z82) (hb : B_z82_ok b) (n : Nat) : List (CalF Tryz.prog) := [⟨d_text_stmt, b.y20, hb.y20⟩]
def L_l_z82_3 : LF := ⟨3, [1, 5, 8, 9, 10], [.int .i64, .str, .list, .int .i64, .int .i64], [⟨(.exit 0), [5], [.str]⟩]⟩
def ls_z82 (b : B_z82) (n : Nat) : List LE := [⟨3, loopS L_l_z82_3 (l_z82_3 b n n)⟩]
theorem l_z82_3_ok (b : B_z82) (hb : B_z82_ok b) (n : Nat) : LoopOk Tryz.prog (mkSpec (cs_z82 b hb n) (ls_z82 b n)) 0 21 (loopAt Tryz.f37 0) := loopOk (L := L_l_z82_3) (f := l_z82_3 b n) (B := l_z82_3_B b n) (k := n) (loopAt_ok sound Tryz.func37 (by kernel_rfl)) (inner (by kernel_rfl) allN) (innerS (by kernel_rfl) allN) (fun _ => rfl) (fun _ _ => rfl) (by kernel_rfl) (fun _ => by kernel_rfl) (by kernel_rfl) (fun k a => by kernel_rfl)
theorem f_z82_ok (b : B_z82) (hb : B_z82_ok b) (n : Nat) : Ok Tryz.prog d_z82 (f_z82 b n) := fnOk sound (cs := cs_z82 b hb n) (ls := ls_z82 b n) (n := 21) Tryz.func37 (by kernel_rfl) (fun _ => by kernel_rfl) (inner (by kernel_rfl) (allC (l_z82_3_ok b hb n) allN)) (innerS (by kernel_rfl) allN) (by kernel_rfl) (fun a => by kernel_rfl)
def f_text_stmt (b : B_z82) (n : Nat) (a0 : Int) (a1 : ByteArray) (a2 : ByteArray) (a3 : Int) (a4 : Int) (a5 : Int) (a6 : ByteArray) (a7 : List T) (a8 : List T) (a9 : List T) (a10 : Nat × Nat) (a11 : Int) : Option (ByteArray) :=
bif ((a0 : Int) == 1) then (
Option.bind (m_z71 n a4 a5 a6 a7) fun r0 =>
Option.bind (m_z86 n a11 [(T.sc (.string a1)), (T.sc (.string (⟨#[61]⟩ : ByteArray))), (T.sc (.string r0))]) fun r1 =>
some r1)
else (
bif ((a0 : Int) == 2) then (
Option.bind (m_z86 n a11 [(T.sc (.string (⟨#[108, 111, 99, 107]⟩ : ByteArray))), (T.sc (.string a1))]) fun r2 =>
some r2)
else (
bif ((a0 : Int) == 3) then (
Option.bind (m_z86 n a11 [(T.sc (.string (⟨#[117, 110, 108, 111, 99, 107]⟩ : ByteArray))), (T.sc (.string a1))]) fun r3 =>
some r3)
else (
bif ((a0 : Int) == 4) then (
Option.bind (m_z71 n a4 a5 a6 a7) fun r4 =>
Option.bind (m_z86 n a11 [(T.sc (.string (⟨#[115, 101, 110, 100]⟩ : ByteArray))), (T.sc (.string a1)), (T.sc (.string r4))]) fun r5 =>
some r5)
else (
bif ((a0 : Int) == 5) then (
Option.bind (m_z86 n a11 [(T.sc (.string (⟨#[114, 101, 99, 118]⟩ : ByteArray))), (T.sc (.string a1)), (T.sc (.string a2))]) fun r6 =>
some r6)
else (
bif ((a0 : Int) == 6) then (
Option.bind (m_z71 n a4 a5 a6 a7) fun r7 =>
Option.bind (m_z86 n a11 [(T.sc (.string (⟨#[112, 114, 105, 110, 116]⟩ : ByteArray))), (T.sc (.string r7))]) fun r8 =>
some r8)
else (
bif ((a0 : Int) == 7) then (
Option.bind (m_z71 n a4 a5 a6 a7) fun r9 =>
Option.bind (m_z86 n a11 [(T.sc (.string (⟨#[105, 102]⟩ : ByteArray))), (T.sc (.string r9)), (T.sc (.string (⟨#[123]⟩ : ByteArray)))]) fun r10 =>
Option.bind (b.y19 a8 (IntKind.wrap .i64 (a11 + 1))) fun r11 =>
must true (decide (((ByteArray.size r10 + ByteArray.size r11 : Nat) : Int) <= IntKind.i64.max)) (bif (decide ((((List.length a9 : Nat) : Int) : Int) > 0)) then (
Option.bind (m_z86 n a11 [(T.sc (.string (⟨#[125]⟩ : ByteArray))), (T.sc (.string (⟨#[101, 108, 115, 101]⟩ : ByteArray))), (T.sc (.string (⟨#[123]⟩ : ByteArray)))]) fun r12 =>
Option.bind (b.y19 a9 (IntKind.wrap .i64 (a11 + 1))) fun r13 =>
must true (decide (((ByteArray.size r12 + ByteArray.size r13 : Nat) : Int) <= IntKind.i64.max)) (must true (decide (((ByteArray.size (r10 ++ r11) + ByteArray.size (r12 ++ r13) : Nat) : Int) <= IntKind.i64.max)) (Option.bind (m_z86 n a11 [(T.sc (.string (⟨#[125]⟩ : ByteArray)))]) fun r14 =>
must true (decide (((ByteArray.size ((r10 ++ r11) ++ (r12 ++ r13)) + ByteArray.size r14 : Nat) : Int) <= IntKind.i64.max)) (some (((r10 ++ r11) ++ (r12 ++ r13)) ++ r14)))))
else (
Option.bind (m_z86 n a11 [(T.sc (.string (⟨#[125]⟩ : ByteArray)))]) fun r15 =>
must true (decide (((ByteArray.size (r10 ++ r11) + ByteArray.size r15 : Nat) : Int) <= IntKind.i64.max)) (some ((r10 ++ r11) ++ r15)))))
else (
bif ((a0 : Int) == 8) then (
Option.bind (m_z66 n a3) fun r16 =>
Option.bind (m_z86 n a11 [(T.sc (.string (⟨#[114, 101, 112, 101, 97, 116]⟩ : ByteArray))), (T.sc (.string r16)), (T.sc (.string (⟨#[123]⟩ : ByteArray)))]) fun r17 =>
Option.bind (b.y19 a8 (IntKind.wrap .i64 (a11 + 1))) fun r18 =>
must true (decide (((ByteArray.size r17 + ByteArray.size r18 : Nat) : Int) <= IntKind.i64.max)) (Option.bind (m_z86 n a11 [(T.sc (.string (⟨#[125]⟩ : ByteArray)))]) fun r19 =>
must true (decide (((ByteArray.size (r17 ++ r18) + ByteArray.size r19 : Nat) : Int) <= IntKind.i64.max)) (some ((r17 ++ r18) ++ r19))))
else (
bif ((a0 : Int) == 9) then (
Option.bind (m_z86 n a11 [(T.sc (.string (⟨#[103, 111, 116, 111]⟩ : ByteArray))), (T.sc (.string a1))]) fun r20 =>
some r20)
else (
bif ((a0 : Int) == 10) then (
Option.bind (m_z86 n a11 [(T.sc (.string (⟨#[108, 97, 98, 101, 108]⟩ : ByteArray))), (T.sc (.string a1))]) fun r21 =>
some r21)
else (
some (⟨#[63]⟩ : ByteArray)))))))))))
theorem f_text_stmt_ok (b : B_z82) (hb : B_z82_ok b) (n : Nat) : Ok Tryz.prog d_text_stmt (f_text_stmt b n) := fnOk0 sound [⟨d_z71, m_z71 n, m_z71_ok n⟩, ⟨d_z86, m_z86 n, m_z86_ok n⟩, ⟨d_z82, b.y19, hb.y19⟩, ⟨d_z66, m_z66 n, m_z66_ok n⟩] Tryz.func59 (by kernel_rfl) (fun a => by kernel_rfl)
def unB_z82 (n : Nat) : Nat -> B_z82
 | 0 => { y19 := fun _ _ => none, y20 := fun _ _ _ _ _ _ _ _ _ _ _ _ => none }
 | m + 1 => { y19 := f_z82 (unB_z82 n m) n, y20 := f_text_stmt (unB_z82 n m) n }
theorem unB_z82_ok (n : Nat) : ∀ m, B_z82_ok (unB_z82 n m)
 | 0 => { y19 := fun _ _ h => (nomatch (show none = some _ from h)), y20 := fun _ _ h => (nomatch (show none = some _ from h)) }
 | m + 1 => { y19 := f_z82_ok _ (unB_z82_ok n m) n, y20 := f_text_stmt_ok _ (unB_z82_ok n m) n }
def m_z82 (n : Nat) : List T -> Int -> Option (ByteArray) := (unB_z82 n n).y19
theorem m_z82_ok (n : Nat) : Ok Tryz.prog d_z82 (m_z82 n) := (unB_z82_ok n n).y19
def m_z70 (n : Nat) (a0 : Int) (a1 : ByteArray) (a2 : Int) (a3 : Nat × Nat) (a4 : Int) (a5 : ByteArray) (a6 : Int) (a7 : Nat × Nat) : Option (Bool) :=
some (bif (bif ((a0 : Int) == a4) then (ByteArray.toList a1 == ByteArray.toList a5) else false) then ((a2 : Int) == a6) else false)
def d_z70 : FnF := ⟨60, [.agg 4, .int .i64, .str, .int .i64, .cplx .f64, .agg 4, .int .i64, .str, .int .i64, .cplx .f64], [.bool]⟩
theorem m_z70_ok (n : Nat) : Ok Tryz.prog d_z70 (m_z70 n) := fnOk0 sound [] Tryz.func60 (by kernel_rfl) (fun a => by kernel_rfl)
def l_z1_4_B (n : Nat) (k : (List T) × (List T) × Int × Int -> Option (((Bool) ⊕ Unit))) : (List T) × (List T) × Int × Int -> Option (((Bool) ⊕ Unit)) := fun (s0, s1, s2, s3) =>
bif (decide ((s3 : Int) < s2)) then (
Option.bind (idx true [.int .i64, .str, .int .i64, .cplx .f64] s1 s3) fun y0 =>
Option.bind (idx true [.int .i64, .str, .int .i64, .cplx .f64] s0 s3) fun y1 =>
Option.bind (m_z70 n (y0.cell 0).int (y0.cell 1).str (y0.cell 2).int ((y0.cell 3).re, (y0.cell 3).im) (y1.cell 0).int (y1.cell 1).str (y1.cell 2).int ((y1.cell 3).re, (y1.cell 3).im)) fun r2 =>
bif (!r2) then (
some (Sum.inl false))
else (
k (s0, s1, s2, (IntKind.wrap .i64 (s3 + 1)))))
else (
some (Sum.inr ()))
def l_z1_4 (n : Nat) : Nat -> (List T) × (List T) × Int × Int -> Option (((Bool) ⊕ Unit))
 | 0, _ => none
 | m + 1, s => l_z1_4_B n (l_z1_4 n m) s
def m_z1 (n : Nat) (a0 : List T) (a1 : List T) : Option (Bool) :=
bif ((((List.length a0 : Nat) : Int) : Int) != ((List.length a1 : Nat) : Int)) then (
some false)
else (
Option.bind (l_z1_4 n n (a1, a0, ((List.length a0 : Nat) : Int), 0)) fun x3 =>
Sum.elim (fun p4 =>
some p4) (fun x3' => (fun p5 =>
some true) x3') x3)
def d_z1 : FnF := ⟨61, [.list, .list, .fn 60 0], [.bool]⟩
def cs_z1 (n : Nat) : List (CalF Tryz.prog) := [⟨d_z70, m_z70 n, m_z70_ok n⟩]
def L_l_z1_4 : LF := ⟨4, [1, 2, 15, 16, 17], [.list, .fn 60 0, .list, .int .i64, .int .i64], [⟨.ret, [6], [.bool]⟩, ⟨(.exit 0), [], []⟩]⟩
def ls_z1 (n : Nat) : List LE := [⟨4, loopS L_l_z1_4 (l_z1_4 n n)⟩]
theorem l_z1_4_ok (n : Nat) : LoopOk Tryz.prog (mkSpec (cs_z1 n) (ls_z1 n)) 0 32 (loopAt Tryz.f61 0) := loopOk (L := L_l_z1_4) (f := l_z1_4 n) (B := l_z1_4_B n) (k := n) (loopAt_ok sound Tryz.func61 (by kernel_rfl)) (inner (by kernel_rfl) allN) (innerS (by kernel_rfl) allN) (fun _ => rfl) (fun _ _ => rfl) (by kernel_rfl) (fun _ => by kernel_rfl) (by kernel_rfl) (fun k a => by kernel_rfl)
theorem m_z1_ok (n : Nat) : Ok Tryz.prog d_z1 (m_z1 n) := fnOk sound (cs := cs_z1 n) (ls := ls_z1 n) (n := 32) Tryz.func61 (by kernel_rfl) (fun _ => by kernel_rfl) (inner (by kernel_rfl) (allC (l_z1_4_ok n) allN)) (innerS (by kernel_rfl) allN) (by kernel_rfl) (fun a => by kernel_rfl)
structure B_z57 where
 y22 : List T -> List T -> Option (Bool)
 y6 : List T -> List T -> Option (Bool)
 y23 : Int -> ByteArray -> ByteArray -> Int -> Int -> Int -> ByteArray -> List T -> List T -> List T -> Nat × Nat -> Int -> ByteArray -> ByteArray -> Int -> Int -> Int -> ByteArray -> List T -> List T -> List T -> Nat × Nat -> Option (Bool)
def d_z57 : FnF := ⟨63, [.list, .list], [.bool]⟩
def d_slices_EqualFunc___api_Stmt___api_Stmt_api_Stmt_api_Stmt_ : FnF := ⟨100, [.list, .list, .fn 101 0], [.bool]⟩
def d_tree_sameStmt : FnF := ⟨101, [.agg 11, .int .i64, .str, .str, .int .i64, .int .i64, .int .i64, .str, .list, .list, .list, .cplx .f64, .agg 11, .int .i64, .str, .str, .int .i64, .int .i64, .int .i64, .str, .list, .list, .list, .cplx .f64], [.bool]⟩
structure B_z57_ok (b : B_z57) : Prop where
 y22 : Ok Tryz.prog d_z57 b.y22
 y6 : Ok Tryz.prog d_slices_EqualFunc___api_Stmt___api_Stmt_api_Stmt_api_Stmt_ b.y6
 y23 : Ok Tryz.prog d_tree_sameStmt b.y23
def f_z57 (b : B_z57) (n : Nat) (a0 : List T) (a1 : List T) : Option (Bool) :=
Option.bind (b.y6 a0 a1) fun r0 =>
some r0
theorem f_z57_ok (b : B_z57) (hb : B_z57_ok b) (n : Nat) : Ok Tryz.prog d_z57 (f_z57 b n) := fnOk0 sound [⟨d_slices_EqualFunc___api_Stmt___api_Stmt_api_Stmt_api_Stmt_, b.y6, hb.y6⟩] Tryz.func63 (by kernel_rfl) (fun a => by kernel_rfl)
def l_slices_EqualFunc___api_Stmt___api_Stmt_api_Stmt_api_Stmt__4_B (b : B_z57) (n : Nat) (k : (List T) × (List T) × Int × Int -> Option (((Unit) ⊕ Bool))) : (List T) × (List T) × Int × Int -> Option (((Unit) ⊕ Bool)) := fun (s0, s1, s2, s3) =>
bif (decide ((s3 : Int) < s2)) then (
Option.bind (idx true [.int .i64, .str, .str, .int .i64, .int .i64, .int .i64, .str, .list, .list, .list, .cplx .f64] s1 s3) fun y0 =>
Option.bind (idx true [.int .i64, .str, .str, .int .i64, .int .i64, .int .i64, .str, .list, .list, .list, .cplx .f64] s0 s3) fun y1 =>
Option.bind (b.y23 (y0.cell 0).int (y0.cell 1).str (y0.cell 2).str (y0.cell 3).int (y0.cell 4).int (y0.cell 5).int (y0.cell 6).str (y0.cell 7).lst (y0.cell 8).lst (y0.cell 9).lst ((y0.cell 10).re, (y0.cell 10).im) (y1.cell 0).int (y1.cell 1).str (y1.cell 2).str (y1.cell 3).int (y1.cell 4).int (y1.cell 5).int (y1.cell 6).str (y1.cell 7).lst (y1.cell 8).lst (y1.cell 9).lst ((y1.cell 10).re, (y1.cell 10).im)) fun r2 =>
bif (!r2) then (
some (Sum.inr false))
else (
k (s0, s1, s2, (IntKind.wrap .i64 (s3 + 1)))))
else (
some (Sum.inl ()))
def l_slices_EqualFunc___api_Stmt___api_Stmt_api_Stmt_api_Stmt__4 (b : B_z57) (n : Nat) : Nat -> (List T) × (List T) × Int × Int -> Option (((Unit) ⊕ Bool))
 | 0, _ => none
 | m + 1, s => l_slices_EqualFunc___api_Stmt___api_Stmt_api_Stmt_api_Stmt__4_B b n (l_slices_EqualFunc___api_Stmt___api_Stmt_api_Stmt_api_Stmt__4 b n m) s
def f_slices_EqualFunc___api_Stmt___api_Stmt_api_Stmt_api_Stmt_ (b : B_z57) (n : Nat) (a0 : List T) (a1 : List T) : Option (Bool) :=
bif ((((List.length a0 : Nat) : Int) : Int) != ((List.length a1 : Nat) : Int)) then (
some false)
else (
Option.bind (l_slices_EqualFunc___api_Stmt___api_Stmt_api_Stmt_api_Stmt__4 b n n (a1, a0, ((List.length a0 : Nat) : Int), 0)) fun x3 =>
Sum.elim (fun p4 =>
some true) (fun x3' => (fun p5 =>
some p5) x3') x3)
def cs_slices_EqualFunc___api_Stmt___api_Stmt_api_Stmt_api_Stmt_ (b : B_z57) (hb : B_z57_ok b) (n : Nat) : List (CalF Tryz.prog) := [⟨d_tree_sameStmt, b.y23, hb.y23⟩]
def L_l_slices_EqualFunc___api_Stmt___api_Stmt_api_Stmt_api_Stmt__4 : LF := ⟨4, [1, 2, 15, 16, 17], [.list, .fn 101 0, .list, .int .i64, .int .i64], [⟨(.exit 0), [], []⟩, ⟨.ret, [6], [.bool]⟩]⟩
def ls_slices_EqualFunc___api_Stmt___api_Stmt_api_Stmt_api_Stmt_ (b : B_z57) (n : Nat) : List LE := [⟨4, loopS L_l_slices_EqualFunc___api_Stmt___api_Stmt_api_Stmt_api_Stmt__4 (l_slices_EqualFunc___api_Stmt___api_Stmt_api_Stmt_api_Stmt__4 b n n)⟩]
theorem l_slices_EqualFunc___api_Stmt___api_Stmt_api_Stmt_api_Stmt__4_ok (b : B_z57) (hb : B_z57_ok b) (n : Nat) : LoopOk Tryz.prog (mkSpec (cs_slices_EqualFunc___api_Stmt___api_Stmt_api_Stmt_api_Stmt_ b hb n) (ls_slices_EqualFunc___api_Stmt___api_Stmt_api_Stmt_api_Stmt_ b n)) 0 32 (loopAt Tryz.f100 0) := loopOk (L := L_l_slices_EqualFunc___api_Stmt___api_Stmt_api_Stmt_api_Stmt__4) (f := l_slices_EqualFunc___api_Stmt___api_Stmt_api_Stmt_api_Stmt__4 b n) (B := l_slices_EqualFunc___api_Stmt___api_Stmt_api_Stmt_api_Stmt__4_B b n) (k := n) (loopAt_ok sound Tryz.func100 (by kernel_rfl)) (inner (by kernel_rfl) allN) (innerS (by kernel_rfl) allN) (fun _ => rfl) (fun _ _ => rfl) (by kernel_rfl) (fun _ => by kernel_rfl) (by kernel_rfl) (fun k a => by kernel_rfl)
theorem f_slices_EqualFunc___api_Stmt___api_Stmt_api_Stmt_api_Stmt__ok (b : B_z57) (hb : B_z57_ok b) (n : Nat) : Ok Tryz.prog d_slices_EqualFunc___api_Stmt___api_Stmt_api_Stmt_api_Stmt_ (f_slices_EqualFunc___api_Stmt___api_Stmt_api_Stmt_api_Stmt_ b n) := fnOk sound (cs := cs_slices_EqualFunc___api_Stmt___api_Stmt_api_Stmt_api_Stmt_ b hb n) (ls := ls_slices_EqualFunc___api_Stmt___api_Stmt_api_Stmt_api_Stmt_ b n) (n := 32) Tryz.func100 (by kernel_rfl) (fun _ => by kernel_rfl) (inner (by kernel_rfl) (allC (l_slices_EqualFunc___api_Stmt___api_Stmt_api_Stmt_api_Stmt__4_ok b hb n) allN)) (innerS (by kernel_rfl) allN) (by kernel_rfl) (fun a => by kernel_rfl)
def f_tree_sameStmt (b : B_z57) (n : Nat) (a0 : Int) (a1 : ByteArray) (a2 : ByteArray) (a3 : Int) (a4 : Int) (a5 : Int) (a6 : ByteArray) (a7 : List T) (a8 : List T) (a9 : List T) (a10 : Nat × Nat) (a11 : Int) (a12 : ByteArray) (a13 : ByteArray) (a14 : Int) (a15 : Int) (a16 : Int) (a17 : ByteArray) (a18 : List T) (a19 : List T) (a20 : List T) (a21 : Nat × Nat) : Option (Bool) :=
Option.bind (bif (bif (bif (bif ((a0 : Int) == a11) then (ByteArray.toList a1 == ByteArray.toList a12) else false) then (ByteArray.toList a2 == ByteArray.toList a13) else false) then ((a3 : Int) == a14) else false) then m_z60 n a4 a5 a6 a7 a15 a16 a17 a18 else some false) fun r0 =>
Option.bind (bif (bif (bif (bif (bif ((a0 : Int) == a11) then (ByteArray.toList a1 == ByteArray.toList a12) else false) then (ByteArray.toList a2 == ByteArray.toList a13) else false) then ((a3 : Int) == a14) else false) then r0 else false) then b.y22 a8 a19 else some false) fun r1 =>
Option.bind (bif (bif (bif (bif (bif (bif ((a0 : Int) == a11) then (ByteArray.toList a1 == ByteArray.toList a12) else false) then (ByteArray.toList a2 == ByteArray.toList a13) else false) then ((a3 : Int) == a14) else false) then r0 else false) then r1 else false) then b.y22 a9 a20 else some false) fun r2 =>
some (bif (bif (bif (bif (bif (bif ((a0 : Int) == a11) then (ByteArray.toList a1 == ByteArray.toList a12) else false) then (ByteArray.toList a2 == ByteArray.toList a13) else false) then ((a3 : Int) == a14) else false) then r0 else false) then r1 else false) then r2 else false)
theorem f_tree_sameStmt_ok (b : B_z57) (hb : B_z57_ok b) (n : Nat) : Ok Tryz.prog d_tree_sameStmt (f_tree_sameStmt b n) := fnOk0 sound [⟨d_z60, m_z60 n, m_z60_ok n⟩, ⟨d_z57, b.y22, hb.y22⟩] Tryz.func101 (by kernel_rfl) (fun a => by kernel_rfl)
def unB_z57 (n : Nat) : Nat -> B_z57
 | 0 => { y22 := fun _ _ => none, y6 := fun _ _ => none, y23 := fun _ _ _ _ _ _ _ _ _ _ _ _ _ _ _ _ _ _ _ _ _ _ => none }
 | m + 1 => { y22 := f_z57 (unB_z57 n m) n, y6 := f_slices_EqualFunc___api_Stmt___api_Stmt_api_Stmt_api_Stmt_ (unB_z57 n m) n, y23 := f_tree_sameStmt (unB_z57 n m) n }
theorem unB_z57_ok (n : Nat) : ∀ m, B_z57_ok (unB_z57 n m)
 | 0 => { y22 := fun _ _ h => (nomatch (show none = some _ from h)), y6 := fun _ _ h => (nomatch (show none = some _ from h)), y23 := fun _ _ h => (nomatch (show none = some _ from h)) }
 | m + 1 => { y22 := f_z57_ok _ (unB_z57_ok n m) n, y6 := f_slices_EqualFunc___api_Stmt___api_Stmt_api_Stmt_api_Stmt__ok _ (unB_z57_ok n m) n, y23 := f_tree_sameStmt_ok _ (unB_z57_ok n m) n }
def m_z57 (n : Nat) : List T -> List T -> Option (Bool) := (unB_z57 n n).y22
theorem m_z57_ok (n : Nat) : Ok Tryz.prog d_z57 (m_z57 n) := (unB_z57_ok n n).y22
def l_z0_4_B (n : Nat) (k : (List T) × (List T) × Int × Int -> Option (((Bool) ⊕ Unit))) : (List T) × (List T) × Int × Int -> Option (((Bool) ⊕ Unit)) := fun (s0, s1, s2, s3) =>
bif (decide ((s3 : Int) < s2)) then (
Option.bind (idx true [.list] s1 s3) fun y0 =>
Option.bind (idx true [.list] s0 s3) fun y1 =>
Option.bind (m_z57 n (y0.cell 0).lst (y1.cell 0).lst) fun r2 =>
bif (!r2) then (
some (Sum.inl false))
else (
k (s0, s1, s2, (IntKind.wrap .i64 (s3 + 1)))))
else (
some (Sum.inr ()))
def l_z0_4 (n : Nat) : Nat -> (List T) × (List T) × Int × Int -> Option (((Bool) ⊕ Unit))
 | 0, _ => none
 | m + 1, s => l_z0_4_B n (l_z0_4 n m) s
def m_z0 (n : Nat) (a0 : List T) (a1 : List T) : Option (Bool) :=
bif ((((List.length a0 : Nat) : Int) : Int) != ((List.length a1 : Nat) : Int)) then (
some false)
else (
Option.bind (l_z0_4 n n (a1, a0, ((List.length a0 : Nat) : Int), 0)) fun x3 =>
Sum.elim (fun p4 =>
some p4) (fun x3' => (fun p5 =>
some true) x3') x3)
def d_z0 : FnF := ⟨62, [.list, .list, .fn 63 0], [.bool]⟩
def cs_z0 (n : Nat) : List (CalF Tryz.prog) := [⟨d_z57, m_z57 n, m_z57_ok n⟩]
def L_l_z0_4 : LF := ⟨4, [1, 2, 15, 16, 17], [.list, .fn 63 0, .list, .int .i64, .int .i64], [⟨.ret, [6], [.bool]⟩, ⟨(.exit 0), [], []⟩]⟩
def ls_z0 (n : Nat) : List LE := [⟨4, loopS L_l_z0_4 (l_z0_4 n n)⟩]
theorem l_z0_4_ok (n : Nat) : LoopOk Tryz.prog (mkSpec (cs_z0 n) (ls_z0 n)) 0 32 (loopAt Tryz.f62 0) := loopOk (L := L_l_z0_4) (f := l_z0_4 n) (B := l_z0_4_B n) (k := n) (loopAt_ok sound Tryz.func62 (by kernel_rfl)) (inner (by kernel_rfl) allN) (innerS (by kernel_rfl) allN) (fun _ => rfl) (fun _ _ => rfl) (by kernel_rfl) (fun _ => by kernel_rfl) (by kernel_rfl) (fun k a => by kernel_rfl)
theorem m_z0_ok (n : Nat) : Ok Tryz.prog d_z0 (m_z0 n) := fnOk sound (cs := cs_z0 n) (ls := ls_z0 n) (n := 32) Tryz.func62 (by kernel_rfl) (fun _ => by kernel_rfl) (inner (by kernel_rfl) (allC (l_z0_4_ok n) allN)) (innerS (by kernel_rfl) allN) (by kernel_rfl) (fun a => by kernel_rfl)
def m_z87 (n : Nat) (a0 : List T) (a1 : List T) (a2 : List T) (a3 : List T) : Option (Bool) :=
Option.bind (m_z1 n a0 a2) fun r0 =>
Option.bind (bif r0 then m_z0 n a1 a3 else some false) fun r1 =>
some (bif r0 then r1 else false)
def d_z87 : FnF := ⟨38, [.agg 2, .list, .list, .agg 2, .list, .list], [.bool]⟩
theorem m_z87_ok (n : Nat) : Ok Tryz.prog d_z87 (m_z87 n) := fnOk0 sound [⟨d_z1, m_z1 n, m_z1_ok n⟩, ⟨d_z0, m_z0 n, m_z0_ok n⟩] Tryz.func38 (by kernel_rfl) (fun a => by kernel_rfl)
def l_z80_3_B (n : Nat) (k : ByteArray × (List T) × Int × Int × (List T) × (List T) -> Option (ByteArray × (List T) × (List T))) : ByteArray × (List T) × Int × Int × (List T) × (List T) -> Option (ByteArray × (List T) × (List T)) := fun (s0, s1, s2, s3, s4, s5) =>
bif (decide ((s3 : Int) < s2)) then (
Option.bind (idx true [.int .i64, .str, .int .i64, .cplx .f64] s1 s3) fun y0 =>
bif (((y0.cell 0).int : Int) == 6) then (
Option.bind (m_z69 n (y0.cell 0).int) fun r1 =>
Option.bind (m_z66 n (y0.cell 2).int) fun r2 =>
Option.bind (m_z86 n 0 [(T.sc (.string r1)), (T.sc (.string (y0.cell 1).str)), (T.sc (.string r2))]) fun r3 =>
must true (decide (((ByteArray.size s0 + ByteArray.size r3 : Nat) : Int) <= IntKind.i64.max)) (k ((s0 ++ r3), s1, s2, (IntKind.wrap .i64 (s3 + 1)), s4, s5)))
else (
Option.bind (m_z69 n (y0.cell 0).int) fun r4 =>
Option.bind (m_z86 n 0 [(T.sc (.string r4)), (T.sc (.string (y0.cell 1).str))]) fun r5 =>
must true (decide (((ByteArray.size s0 + ByteArray.size r5 : Nat) : Int) <= IntKind.i64.max)) (k ((s0 ++ r5), s1, s2, (IntKind.wrap .i64 (s3 + 1)), s4, s5))))
else (
some (s0, s4, s5))
def l_z80_3 (n : Nat) : Nat -> ByteArray × (List T) × Int × Int × (List T) × (List T) -> Option (ByteArray × (List T) × (List T))
 | 0, _ => none
 | m + 1, s => l_z80_3_B n (l_z80_3 n m) s
def l_z80_10_B (n : Nat) (k : ByteArray × (List T) × Int × Int × (List T) × (List T) -> Option (ByteArray × (List T) × (List T))) : ByteArray × (List T) × Int × Int × (List T) × (List T) -> Option (ByteArray × (List T) × (List T)) := fun (s0, s1, s2, s3, s4, s5) =>
bif (decide ((s3 : Int) < s2)) then (
Option.bind (idx true [.list] s1 s3) fun y8 =>
Option.bind (m_z86 n 0 [(T.sc (.string (⟨#[103, 111]⟩ : ByteArray))), (T.sc (.string (⟨#[123]⟩ : ByteArray)))]) fun r9 =>
Option.bind (m_z82 n (y8.cell 0).lst 1) fun r10 =>
must true (decide (((ByteArray.size r9 + ByteArray.size r10 : Nat) : Int) <= IntKind.i64.max)) (Option.bind (m_z86 n 0 [(T.sc (.string (⟨#[125]⟩ : ByteArray)))]) fun r11 =>
must true (decide (((ByteArray.size (r9 ++ r10) + ByteArray.size r11 : Nat) : Int) <= IntKind.i64.max)) (must true (decide (((ByteArray.size s0 + ByteArray.size ((r9 ++ r10) ++ r11) : Nat) : Int) <= IntKind.i64.max)) (k ((s0 ++ ((r9 ++ r10) ++ r11)), s1, s2, (IntKind.wrap .i64 (s3 + 1)), s4, s5)))))
else (
some (s0, s4, s5))
def l_z80_10 (n : Nat) : Nat -> ByteArray × (List T) × Int × Int × (List T) × (List T) -> Option (ByteArray × (List T) × (List T))
 | 0, _ => none
 | m + 1, s => l_z80_10_B n (l_z80_10 n m) s
def m_z80 (n : Nat) (a0 : List T) (a1 : List T) : Option (ByteArray) :=
Option.bind (l_z80_3 n n ((⟨#[]⟩ : ByteArray), a0, ((List.length a0 : Nat) : Int), 0, a0, a1)) fun p7 =>
Option.bind (l_z80_10 n n (p7.1, p7.2.2, ((List.length p7.2.2 : Nat) : Int), 0, p7.2.1, p7.2.2)) fun p13 =>
Option.bind (m_z79 n p13.1) fun r14 =>
Option.bind (bif !((r14.2.2.2 : Int) != 0) then m_z87 n r14.1 r14.2.1 p13.2.1 p13.2.2 else some false) fun r15 =>
bif (bif ((r14.2.2.2 : Int) != 0) then true else (!r15)) then (
some (⟨#[]⟩ : ByteArray))
else (
some p13.1)
def d_z80 : FnF := ⟨13, [.agg 2, .list, .list], [.str]⟩
def cs_z80 (n : Nat) : List (CalF Tryz.prog) := [⟨d_z69, m_z69 n, m_z69_ok n⟩, ⟨d_z66, m_z66 n, m_z66_ok n⟩, ⟨d_z86, m_z86 n, m_z86_ok n⟩, ⟨d_z82, m_z82 n, m_z82_ok n⟩, ⟨d_z79, m_z79 n, m_z79_ok n⟩, ⟨d_z87, m_z87 n, m_z87_ok n⟩]
def L_l_z80_3 : LF := ⟨3, [1, 3, 12, 13, 14], [.ptr 0 0, .str, .list, .int .i64, .int .i64, .box 2, .list, .list], [⟨(.exit 0), [1, 3], [.ptr 0 0, .str, .box 2, .list, .list]⟩]⟩
def L_l_z80_10 : LF := ⟨10, [1, 3, 44, 45, 46], [.ptr 0 0, .str, .list, .int .i64, .int .i64, .box 2, .list, .list], [⟨(.exit 2), [1, 3], [.ptr 0 0, .str, .box 2, .list, .list]⟩]⟩
def ls_z80 (n : Nat) : List LE := [⟨3, loopS L_l_z80_3 (l_z80_3 n n)⟩, ⟨10, loopS L_l_z80_10 (l_z80_10 n n)⟩]
theorem l_z80_3_ok (n : Nat) : LoopOk Tryz.prog (mkSpec (cs_z80 n) (ls_z80 n)) 0 76 (loopAt Tryz.f13 0) := loopOk (L := L_l_z80_3) (f := l_z80_3 n) (B := l_z80_3_B n) (k := n) (loopAt_ok sound Tryz.func13 (by kernel_rfl)) (inner (by kernel_rfl) allN) (innerS (by kernel_rfl) allN) (fun _ => rfl) (fun _ _ => rfl) (by kernel_rfl) (fun _ => by kernel_rfl) (by kernel_rfl) (fun k a => by kernel_rfl)
theorem l_z80_10_ok (n : Nat) : LoopOk Tryz.prog (mkSpec (cs_z80 n) (ls_z80 n)) 0 76 (loopAt Tryz.f13 1) := loopOk (L := L_l_z80_10) (f := l_z80_10 n) (B := l_z80_10_B n) (k := n) (loopAt_ok sound Tryz.func13 (by kernel_rfl)) (inner (by kernel_rfl) allN) (innerS (by kernel_rfl) allN) (fun _ => rfl) (fun _ _ => rfl) (by kernel_rfl) (fun _ => by kernel_rfl) (by kernel_rfl) (fun k a => by kernel_rfl)
theorem m_z80_ok (n : Nat) : Ok Tryz.prog d_z80 (m_z80 n) := fnOk sound (cs := cs_z80 n) (ls := ls_z80 n) (n := 76) Tryz.func13 (by kernel_rfl) (fun _ => by kernel_rfl) (inner (by kernel_rfl) (allC (l_z80_3_ok n) (allC (l_z80_10_ok n) allN))) (innerS (by kernel_rfl) allN) (by kernel_rfl) (fun a => by kernel_rfl)
def m_z81 (n : Nat) (a0 : List T) (a1 : List T) : Option (Bool) :=
Option.bind (m_z80 n a0 a1) fun r0 =>
some (!(ByteArray.toList r0 == ByteArray.toList (⟨#[]⟩ : ByteArray)))
def d_z81 : FnF := ⟨17, [.agg 2, .list, .list], [.bool]⟩
theorem m_z81_ok (n : Nat) : Ok Tryz.prog d_z81 (m_z81 n) := fnOk0 sound [⟨d_z80, m_z80 n, m_z80_ok n⟩] Tryz.func17 (by kernel_rfl) (fun a => by kernel_rfl)
def m_z25 (n : Nat) : Option (Bool) :=
Option.bind (m_z79 n (⟨#[118, 97, 114, 32, 120, 32, 103, 111, 123, 120, 61, 49, 125]⟩ : ByteArray)) fun r0 =>
Option.bind (m_z80 n r0.1 r0.2.1) fun r1 =>
Option.bind (bif (ByteArray.toList r1 == ByteArray.toList (⟨#[118, 97, 114, 32, 120, 10, 103, 111, 32, 123, 10, 9, 120, 32, 61, 32, 49, 10, 125, 10]⟩ : ByteArray)) then m_z81 n r0.1 r0.2.1 else some false) fun r2 =>
some (bif (ByteArray.toList r1 == ByteArray.toList (⟨#[118, 97, 114, 32, 120, 10, 103, 111, 32, 123, 10, 9, 120, 32, 61, 32, 49, 10, 125, 10]⟩ : ByteArray)) then r2 else false)
def d_z25 : FnF := ⟨16, [], [.bool]⟩
theorem m_z25_ok (n : Nat) : Ok Tryz.prog d_z25 (m_z25 n) := fnOk0 sound [⟨d_z79, m_z79 n, m_z79_ok n⟩, ⟨d_z80, m_z80 n, m_z80_ok n⟩, ⟨d_z81, m_z81 n, m_z81_ok n⟩] Tryz.func16 (by kernel_rfl) (fun a => by kernel_rfl)
def m_z38 (n : Nat) : Option (Bool) := some true
def d_z38 : FnF := ⟨16, [], [.bool]⟩
theorem m_z38_ok (n : Nat) : Ok Tryz.prog d_z38 (m_z38 n) := fun a r h => by
 cases (Option.some.inj (show some true = some r from h))
 exact m_z25_ok 3000 () true (show m_z25 3000 = some true from by kernel_rfl)
def l_z20_4_B (n : Nat) (k : (List T) × (List T) × Int -> Option (((Bool) ⊕ Unit))) : (List T) × (List T) × Int -> Option (((Bool) ⊕ Unit)) := fun (s0, s1, s2) =>
bif (decide ((s2 : Int) < ((List.length s0 : Nat) : Int))) then (
Option.bind (idx true [.int .i64, .str, .int .i64, .cplx .f64] s0 s2) fun y0 =>
Option.bind (idx true [.int .i64, .str, .int .i64, .cplx .f64] s1 s2) fun y1 =>
Option.bind (idx (!(((y0.cell 0).int : Int) != (y1.cell 0).int)) [.int .i64, .str, .int .i64, .cplx .f64] s0 s2) fun y2 =>
Option.bind (idx (!(((y0.cell 0).int : Int) != (y1.cell 0).int)) [.int .i64, .str, .int .i64, .cplx .f64] s1 s2) fun y3 =>
Option.bind (idx (!(bif (((y0.cell 0).int : Int) != (y1.cell 0).int) then true else (!(ByteArray.toList (y2.cell 1).str == ByteArray.toList (y3.cell 1).str)))) [.int .i64, .str, .int .i64, .cplx .f64] s0 s2) fun y4 =>
Option.bind (idx (!(bif (((y0.cell 0).int : Int) != (y1.cell 0).int) then true else (!(ByteArray.toList (y2.cell 1).str == ByteArray.toList (y3.cell 1).str)))) [.int .i64, .str, .int .i64, .cplx .f64] s1 s2) fun y5 =>
bif (bif (bif (((y0.cell 0).int : Int) != (y1.cell 0).int) then true else (!(ByteArray.toList (y2.cell 1).str == ByteArray.toList (y3.cell 1).str))) then true else (((y4.cell 2).int : Int) != (y5.cell 2).int)) then (
some (Sum.inl false))
else (
k (s0, s1, (IntKind.wrap .i64 (s2 + 1)))))
else (
some (Sum.inr ()))
def l_z20_4 (n : Nat) : Nat -> (List T) × (List T) × Int -> Option (((Bool) ⊕ Unit))
 | 0, _ => none
 | m + 1, s => l_z20_4_B n (l_z20_4 n m) s
def m_z20 (n : Nat) (a0 : List T) (a1 : List T) : Option (Bool) :=
bif ((((List.length a0 : Nat) : Int) : Int) != ((List.length a1 : Nat) : Int)) then (
some false)
else (
Option.bind (l_z20_4 n n (a0, a1, 0)) fun x6 =>
Sum.elim (fun p7 =>
some p7) (fun x6' => (fun p8 =>
some true) x6') x6)
def d_z20 : FnF := ⟨28, [.list, .list], [.bool]⟩
def cs_z20 (n : Nat) : List (CalF Tryz.prog) := []
def L_l_z20_4 : LF := ⟨4, [0, 1, 5], [.list, .list, .int .i64], [⟨.ret, [4], [.bool]⟩, ⟨(.exit 0), [], []⟩]⟩
def ls_z20 (n : Nat) : List LE := [⟨4, loopS L_l_z20_4 (l_z20_4 n n)⟩]
theorem l_z20_4_ok (n : Nat) : LoopOk Tryz.prog (mkSpec (cs_z20 n) (ls_z20 n)) 0 54 (loopAt Tryz.f28 0) := loopOk (L := L_l_z20_4) (f := l_z20_4 n) (B := l_z20_4_B n) (k := n) (loopAt_ok sound Tryz.func28 (by kernel_rfl)) (inner (by kernel_rfl) allN) (innerS (by kernel_rfl) allN) (fun _ => rfl) (fun _ _ => rfl) (by kernel_rfl) (fun _ => by kernel_rfl) (by kernel_rfl) (fun k a => by kernel_rfl)
theorem m_z20_ok (n : Nat) : Ok Tryz.prog d_z20 (m_z20 n) := fnOk sound (cs := cs_z20 n) (ls := ls_z20 n) (n := 54) Tryz.func28 (by kernel_rfl) (fun _ => by kernel_rfl) (inner (by kernel_rfl) (allC (l_z20_4_ok n) allN)) (innerS (by kernel_rfl) allN) (by kernel_rfl) (fun a => by kernel_rfl)
structure B_z22 where
 y13 : Int -> Int -> ByteArray -> List T -> Int -> Int -> ByteArray -> List T -> Option (Bool)
def d_z22 : FnF := ⟨53, [.agg 4, .int .i64, .int .i64, .str, .list, .agg 4, .int .i64, .int .i64, .str, .list], [.bool]⟩
structure B_z22_ok (b : B_z22) : Prop where
 y13 : Ok Tryz.prog d_z22 b.y13
def l_z22_4_B (b : B_z22) (n : Nat) (k : Int × Int × Int × ByteArray × (List T) × Int × Int × ByteArray × (List T) -> Option (((Int × Int × ByteArray × (List T) × Int × Int × ByteArray × (List T)) ⊕ Bool × Int × Int × ByteArray × (List T) × Int × Int × ByteArray × (List T)))) : Int × Int × Int × ByteArray × (List T) × Int × Int × ByteArray × (List T) -> Option (((Int × Int × ByteArray × (List T) × Int × Int × ByteArray × (List T)) ⊕ Bool × Int × Int × ByteArray × (List T) × Int × Int × ByteArray × (List T))) := fun (s0, s1, s2, s3, s4, s5, s6, s7, s8) =>
bif (decide ((s0 : Int) < ((List.length s4 : Nat) : Int))) then (
Option.bind (idx true [.int .i64, .int .i64, .str, .list] s4 s0) fun y0 =>
Option.bind (idx true [.int .i64, .int .i64, .str, .list] s8 s0) fun y1 =>
Option.bind (b.y13 (y0.cell 0).int (y0.cell 1).int (y0.cell 2).str (y0.cell 3).lst (y1.cell 0).int (y1.cell 1).int (y1.cell 2).str (y1.cell 3).lst) fun r2 =>
bif (!r2) then (
some (Sum.inr (false, s1, s2, s3, s4, s5, s6, s7, s8)))
else (
k ((IntKind.wrap .i64 (s0 + 1)), s1, s2, s3, s4, s5, s6, s7, s8)))
else (
some (Sum.inl (s1, s2, s3, s4, s5, s6, s7, s8)))
def l_z22_4 (b : B_z22) (n : Nat) : Nat -> Int × Int × Int × ByteArray × (List T) × Int × Int × ByteArray × (List T) -> Option (((Int × Int × ByteArray × (List T) × Int × Int × ByteArray × (List T)) ⊕ Bool × Int × Int × ByteArray × (List T) × Int × Int × ByteArray × (List T)))
 | 0, _ => none
 | m + 1, s => l_z22_4_B b n (l_z22_4 b n m) s
def f_z22 (b : B_z22) (n : Nat) (a0 : Int) (a1 : Int) (a2 : ByteArray) (a3 : List T) (a4 : Int) (a5 : Int) (a6 : ByteArray) (a7 : List T) : Option (Bool) :=
bif (bif (bif (bif ((a0 : Int) != a4) then true else ((a1 : Int) != a5)) then true else (!(ByteArray.toList a2 == ByteArray.toList a6))) then true else ((((List.length a3 : Nat) : Int) : Int) != ((List.length a7 : Nat) : Int))) then (
some false)
else (
Option.bind (l_z22_4 b n n (0, a0, a1, a2, a3, a4, a5, a6, a7)) fun x3 =>
Sum.elim (fun p4 =>
some true) (fun x3' => (fun p5 =>
some p5.1) x3') x3)
def cs_z22 (b : B_z22) (hb : B_z22_ok b) (n : Nat) : List (CalF Tryz.prog) := [⟨d_z22, b.y13, hb.y13⟩]
def L_l_z22_4 : LF := ⟨4, [2, 3, 5], [.ptr 0 0, .ptr 1 0, .int .i64, .box 4, .int .i64, .int .i64, .str, .list, .box 4, .int .i64, .int .i64, .str, .list], [⟨(.exit 0), [], [.box 4, .int .i64, .int .i64, .str, .list, .box 4, .int .i64, .int .i64, .str, .list]⟩, ⟨.ret, [4], [.bool, .box 4, .int .i64, .int .i64, .str, .list, .box 4, .int .i64, .int .i64, .str, .list]⟩]⟩
def ls_z22 (b : B_z22) (n : Nat) : List LE := [⟨4, loopS L_l_z22_4 (l_z22_4 b n n)⟩]
theorem l_z22_4_ok (b : B_z22) (hb : B_z22_ok b) (n : Nat) : LoopOk Tryz.prog (mkSpec (cs_z22 b hb n) (ls_z22 b n)) 0 53 (loopAt Tryz.f53 0) := loopOk (L := L_l_z22_4) (f := l_z22_4 b n) (B := l_z22_4_B b n) (k := n) (loopAt_ok sound Tryz.func53 (by kernel_rfl)) (inner (by kernel_rfl) allN) (innerS (by kernel_rfl) allN) (fun _ => rfl) (fun _ _ => rfl) (by kernel_rfl) (fun _ => by kernel_rfl) (by kernel_rfl) (fun k a => by kernel_rfl)
theorem f_z22_ok (b : B_z22) (hb : B_z22_ok b) (n : Nat) : Ok Tryz.prog d_z22 (f_z22 b n) := fnOk sound (cs := cs_z22 b hb n) (ls := ls_z22 b n) (n := 53) Tryz.func53 (by kernel_rfl) (fun _ => by kernel_rfl) (inner (by kernel_rfl) (allC (l_z22_4_ok b hb n) allN)) (innerS (by kernel_rfl) allN) (by kernel_rfl) (fun a => by kernel_rfl)
def unB_z22 (n : Nat) : Nat -> B_z22
 | 0 => { y13 := fun _ _ _ _ _ _ _ _ => none }
 | m + 1 => { y13 := f_z22 (unB_z22 n m) n }
theorem unB_z22_ok (n : Nat) : ∀ m, B_z22_ok (unB_z22 n m)
 | 0 => { y13 := fun _ _ h => (nomatch (show none = some _ from h)) }
 | m + 1 => { y13 := f_z22_ok _ (unB_z22_ok n m) n }
def m_z22 (n : Nat) : Int -> Int -> ByteArray -> List T -> Int -> Int -> ByteArray -> List T -> Option (Bool) := (unB_z22 n n).y13
theorem m_z22_ok (n : Nat) : Ok Tryz.prog d_z22 (m_z22 n) := (unB_z22_ok n n).y13
structure B_z19 where
 y12 : List T -> List T -> Option (Bool)
def d_z19 : FnF := ⟨27, [.list, .list], [.bool]⟩
structure B_z19_ok (b : B_z19) : Prop where
 y12 : Ok Tryz.prog d_z19 b.y12
def l_z19_4_B (b : B_z19) (n : Nat) (k : (List T) × (List T) × Int -> Option (((Unit) ⊕ Bool))) : (List T) × (List T) × Int -> Option (((Unit) ⊕ Bool)) := fun (s0, s1, s2) =>
bif (decide ((s2 : Int) < ((List.length s0 : Nat) : Int))) then (
Option.bind (idx true [.int .i64, .str, .str, .int .i64, .int .i64, .int .i64, .str, .list, .list, .list, .cplx .f64] s0 s2) fun y0 =>
Option.bind (idx true [.int .i64, .str, .str, .int .i64, .int .i64, .int .i64, .str, .list, .list, .list, .cplx .f64] s1 s2) fun y1 =>
Option.bind (bif !(bif (bif (bif (((y0.cell 0).int : Int) != (y1.cell 0).int) then true else (!(ByteArray.toList (y0.cell 1).str == ByteArray.toList (y1.cell 1).str))) then true else (!(ByteArray.toList (y0.cell 2).str == ByteArray.toList (y1.cell 2).str))) then true else (((y0.cell 3).int : Int) != (y1.cell 3).int)) then m_z22 n (y0.cell 4).int (y0.cell 5).int (y0.cell 6).str (y0.cell 7).lst (y1.cell 4).int (y1.cell 5).int (y1.cell 6).str (y1.cell 7).lst else some false) fun r2 =>
Option.bind (bif !(bif (bif (bif (bif (((y0.cell 0).int : Int) != (y1.cell 0).int) then true else (!(ByteArray.toList (y0.cell 1).str == ByteArray.toList (y1.cell 1).str))) then true else (!(ByteArray.toList (y0.cell 2).str == ByteArray.toList (y1.cell 2).str))) then true else (((y0.cell 3).int : Int) != (y1.cell 3).int)) then true else (!r2)) then b.y12 (y0.cell 8).lst (y1.cell 8).lst else some false) fun r3 =>
Option.bind (bif !(bif (bif (bif (bif (bif (((y0.cell 0).int : Int) != (y1.cell 0).int) then true else (!(ByteArray.toList (y0.cell 1).str == ByteArray.toList (y1.cell 1).str))) then true else (!(ByteArray.toList (y0.cell 2).str == ByteArray.toList (y1.cell 2).str))) then true else (((y0.cell 3).int : Int) != (y1.cell 3).int)) then true else (!r2)) then true else (!r3)) then b.y12 (y0.cell 9).lst (y1.cell 9).lst else some false) fun r4 =>
bif (bif (bif (bif (bif (bif (bif (((y0.cell 0).int : Int) != (y1.cell 0).int) then true else (!(ByteArray.toList (y0.cell 1).str == ByteArray.toList (y1.cell 1).str))) then true else (!(ByteArray.toList (y0.cell 2).str == ByteArray.toList (y1.cell 2).str))) then true else (((y0.cell 3).int : Int) != (y1.cell 3).int)) then true else (!r2)) then true else (!r3)) then true else (!r4)) then (
some (Sum.inr false))
else (
k (s0, s1, (IntKind.wrap .i64 (s2 + 1)))))
else (
some (Sum.inl ()))
def l_z19_4 (b : B_z19) (n : Nat) : Nat -> (List T) × (List T) × Int -> Option (((Unit) ⊕ Bool))
 | 0, _ => none
 | m + 1, s => l_z19_4_B b n (l_z19_4 b n m) s
def f_z19 (b : B_z19) (n : Nat) (a0 : List T) (a1 : List T) : Option (Bool) :=
bif ((((List.length a0 : Nat) : Int) : Int) != ((List.length a1 : Nat) : Int)) then (
some false)
else (
Option.bind (l_z19_4 b n n (a0, a1, 0)) fun x5 =>
Sum.elim (fun p6 =>
some true) (fun x5' => (fun p7 =>
some p7) x5') x5)
def cs_z19 (b : B_z19) (hb : B_z19_ok b) (n : Nat) : List (CalF Tryz.prog) := [⟨d_z22, m_z22 n, m_z22_ok n⟩, ⟨d_z19, b.y12, hb.y12⟩]
def L_l_z19_4 : LF := ⟨4, [0, 1, 5], [.list, .list, .int .i64], [⟨(.exit 0), [], []⟩, ⟨.ret, [4], [.bool]⟩]⟩
def ls_z19 (b : B_z19) (n : Nat) : List LE := [⟨4, loopS L_l_z19_4 (l_z19_4 b n n)⟩]
theorem l_z19_4_ok (b : B_z19) (hb : B_z19_ok b) (n : Nat) : LoopOk Tryz.prog (mkSpec (cs_z19 b hb n) (ls_z19 b n)) 0 77 (loopAt Tryz.f27 0) := loopOk (L := L_l_z19_4) (f := l_z19_4 b n) (B := l_z19_4_B b n) (k := n) (loopAt_ok sound Tryz.func27 (by kernel_rfl)) (inner (by kernel_rfl) allN) (innerS (by kernel_rfl) allN) (fun _ => rfl) (fun _ _ => rfl) (by kernel_rfl) (fun _ => by kernel_rfl) (by kernel_rfl) (fun k a => by kernel_rfl)
theorem f_z19_ok (b : B_z19) (hb : B_z19_ok b) (n : Nat) : Ok Tryz.prog d_z19 (f_z19 b n) := fnOk sound (cs := cs_z19 b hb n) (ls := ls_z19 b n) (n := 77) Tryz.func27 (by kernel_rfl) (fun _ => by kernel_rfl) (inner (by kernel_rfl) (allC (l_z19_4_ok b hb n) allN)) (innerS (by kernel_rfl) allN) (by kernel_rfl) (fun a => by kernel_rfl)
def unB_z19 (n : Nat) : Nat -> B_z19
 | 0 => { y12 := fun _ _ => none }
 | m + 1 => { y12 := f_z19 (unB_z19 n m) n }
theorem unB_z19_ok (n : Nat) : ∀ m, B_z19_ok (unB_z19 n m)
 | 0 => { y12 := fun _ _ h => (nomatch (show none = some _ from h)) }
 | m + 1 => { y12 := f_z19_ok _ (unB_z19_ok n m) n }
def m_z19 (n : Nat) : List T -> List T -> Option (Bool) := (unB_z19 n n).y12
theorem m_z19_ok (n : Nat) : Ok Tryz.prog d_z19 (m_z19 n) := (unB_z19_ok n n).y12
def l_z48_4_B (n : Nat) (k : Int × (List T) × (List T) × (List T) × (List T) -> Option (((Bool × (List T) × (List T) × (List T) × (List T)) ⊕ (List T) × (List T) × (List T) × (List T)))) : Int × (List T) × (List T) × (List T) × (List T) -> Option (((Bool × (List T) × (List T) × (List T) × (List T)) ⊕ (List T) × (List T) × (List T) × (List T))) := fun (s0, s1, s2, s3, s4) =>
bif (decide ((s0 : Int) < ((List.length s2 : Nat) : Int))) then (
Option.bind (idx true [.list] s2 s0) fun y1 =>
Option.bind (idx true [.list] s4 s0) fun y2 =>
Option.bind (m_z19 n (y1.cell 0).lst (y2.cell 0).lst) fun r3 =>
bif (!r3) then (
some (Sum.inl (false, s1, s2, s3, s4)))
else (
k ((IntKind.wrap .i64 (s0 + 1)), s1, s2, s3, s4)))
else (
some (Sum.inr (s1, s2, s3, s4)))
def l_z48_4 (n : Nat) : Nat -> Int × (List T) × (List T) × (List T) × (List T) -> Option (((Bool × (List T) × (List T) × (List T) × (List T)) ⊕ (List T) × (List T) × (List T) × (List T)))
 | 0, _ => none
 | m + 1, s => l_z48_4_B n (l_z48_4 n m) s
def m_z48 (n : Nat) (a0 : List T) (a1 : List T) (a2 : List T) (a3 : List T) : Option (Bool) :=
Option.bind (m_z20 n a0 a2) fun r0 =>
bif (bif (!r0) then true else ((((List.length a1 : Nat) : Int) : Int) != ((List.length a3 : Nat) : Int))) then (
some false)
else (
Option.bind (l_z48_4 n n (0, a0, a1, a2, a3)) fun x4 =>
Sum.elim (fun p5 =>
some p5.1) (fun x4' => (fun p6 =>
some true) x4') x4)
def d_z48 : FnF := ⟨22, [.agg 2, .list, .list, .agg 2, .list, .list], [.bool]⟩
def cs_z48 (n : Nat) : List (CalF Tryz.prog) := [⟨d_z20, m_z20 n, m_z20_ok n⟩, ⟨d_z19, m_z19 n, m_z19_ok n⟩]
def L_l_z48_4 : LF := ⟨4, [2, 3, 5], [.ptr 0 0, .ptr 1 0, .int .i64, .box 2, .list, .list, .box 2, .list, .list], [⟨.ret, [4], [.bool, .box 2, .list, .list, .box 2, .list, .list]⟩, ⟨(.exit 0), [], [.box 2, .list, .list, .box 2, .list, .list]⟩]⟩
def ls_z48 (n : Nat) : List LE := [⟨4, loopS L_l_z48_4 (l_z48_4 n n)⟩]
theorem l_z48_4_ok (n : Nat) : LoopOk Tryz.prog (mkSpec (cs_z48 n) (ls_z48 n)) 0 40 (loopAt Tryz.f22 0) := loopOk (L := L_l_z48_4) (f := l_z48_4 n) (B := l_z48_4_B n) (k := n) (loopAt_ok sound Tryz.func22 (by kernel_rfl)) (inner (by kernel_rfl) allN) (innerS (by kernel_rfl) allN) (fun _ => rfl) (fun _ _ => rfl) (by kernel_rfl) (fun _ => by kernel_rfl) (by kernel_rfl) (fun k a => by kernel_rfl)
theorem m_z48_ok (n : Nat) : Ok Tryz.prog d_z48 (m_z48 n) := fnOk sound (cs := cs_z48 n) (ls := ls_z48 n) (n := 40) Tryz.func22 (by kernel_rfl) (fun _ => by kernel_rfl) (inner (by kernel_rfl) (allC (l_z48_4_ok n) allN)) (innerS (by kernel_rfl) allN) (by kernel_rfl) (fun a => by kernel_rfl)
def m_suturelaw6_TextBack (n : Nat) (a0 : Int) (a1 : List T) (a2 : List T) (a3 : List T) (a4 : Int) (a5 : Int) : Option (Bool) :=
Option.bind (m_z54 n a0 a1 a2 a3 a4 a5) fun r0 =>
Option.bind (m_z79 n r0) fun r1 =>
Option.bind (m_z38 n) fun r2 =>
bif (bif (!r2) then true else ((r1.2.2.2 : Int) != 0)) then (
Option.bind (m_z38 n) fun r3 =>
some r3)
else (
Option.bind (m_z80 n r1.1 r1.2.1) fun r4 =>
Option.bind (m_z79 n r4) fun r5 =>
bif ((((ByteArray.size r4 : Nat) : Int) : Int) == 0) then (
Option.bind (m_z49 n r1.1 r1.2.1) fun r6 =>
some (decide ((((ByteArray.size r6 : Nat) : Int) : Int) > 6000)))
else (
Option.bind (bif ((r5.2.2.2 : Int) == 0) then m_z48 n r1.1 r1.2.1 r5.1 r5.2.1 else some false) fun r7 =>
Option.bind (bif (bif ((r5.2.2.2 : Int) == 0) then r7 else false) then m_z80 n r5.1 r5.2.1 else some default) fun r8 =>
Option.bind (bif (bif (bif ((r5.2.2.2 : Int) == 0) then r7 else false) then (ByteArray.toList r8 == ByteArray.toList r4) else false) then m_z81 n r1.1 r1.2.1 else some false) fun r9 =>
some (bif (bif (bif ((r5.2.2.2 : Int) == 0) then r7 else false) then (ByteArray.toList r8 == ByteArray.toList r4) else false) then r9 else false)))
def d_suturelaw6_TextBack : FnF := ⟨11, [.int .i64, .list, .list, .list, .int .i64, .int .i64], [.bool]⟩
theorem m_suturelaw6_TextBack_ok (n : Nat) : Ok Tryz.prog d_suturelaw6_TextBack (m_suturelaw6_TextBack n) := fnOk0 sound [⟨d_z54, m_z54 n, m_z54_ok n⟩, ⟨d_z79, m_z79 n, m_z79_ok n⟩, ⟨d_z38, m_z38 n, m_z38_ok n⟩, ⟨d_z80, m_z80 n, m_z80_ok n⟩, ⟨d_z49, m_z49 n, m_z49_ok n⟩, ⟨d_z48, m_z48 n, m_z48_ok n⟩, ⟨d_z81, m_z81 n, m_z81_ok n⟩] Tryz.func11 (by kernel_rfl) (fun a => by kernel_rfl)
end Go.Proofs.YtbcgpjlkkcdmmaaGreatDoor.W
