/- What the engine's walk comes to, printed by a program of this work: for each function its model, and that it is one. No conditions. -/
import Derived.Test.YtbcgpjlkkcdmmaaGreatDoorS2
namespace Go.Proofs.YtbcgpjlkkcdmmaaGreatDoor.W
open Go Go.Eng
set_option linter.unusedVariables false
set_option linter.unusedSimpArgs false
set_option maxRecDepth 100000
noncomputable section
def j_z52_0_B1 (n : Nat) (k : (((List T) × Int × ByteArray × Int × (Nat × Nat)) ⊕ ((ByteArray × (List T) × Int × Int × ByteArray × Int × (Nat × Nat)) ⊕ ((ByteArray × (List T) × Int × Int × ByteArray × Int × (Nat × Nat)) ⊕ ((ByteArray × (List T) × Int × Int × ByteArray × Int × (Nat × Nat)) ⊕ ((Int × ByteArray × Int × (Nat × Nat)) ⊕ ((ByteArray × (List T) × Int × Int × Int × ByteArray × Int × (Nat × Nat)) ⊕ ByteArray × (List T) × Int × Int × ByteArray × Int × (Nat × Nat))))))) -> Option ((List T) × (Nat × Nat) × Int × Int × ByteArray × Int × (Nat × Nat))) : (List T) × Int × ByteArray × Int × (Nat × Nat) -> Option ((List T) × (Nat × Nat) × Int × Int × ByteArray × Int × (Nat × Nat)) := fun (s0, s1, s2, s3, s4) =>
must true ((Nat.beq 4 4 || Nat.beq 4 0) && (decide (List.length s0 + List.length [(T.agg [(T.sc (.int .i64 4)), (T.sc (.string s2)), (T.sc (.int .i64 s3)), (T.sc (.complex .f64 s4.1 s4.2))])] <= 1073741824) && sized 4 [(T.agg [(T.sc (.int .i64 4)), (T.sc (.string s2)), (T.sc (.int .i64 s3)), (T.sc (.complex .f64 s4.1 s4.2))])])) (Option.bind (m_z1 n (s0 ++ [(T.agg [(T.sc (.int .i64 4)), (T.sc (.string s2)), (T.sc (.int .i64 s3)), (T.sc (.complex .f64 s4.1 s4.2))])])) fun r3 =>
some (r3, (0, 0), 0, 4, s2, s3, s4))
def j_z52_0_B2 (n : Nat) (k : (((List T) × Int × ByteArray × Int × (Nat × Nat)) ⊕ ((ByteArray × (List T) × Int × Int × ByteArray × Int × (Nat × Nat)) ⊕ ((ByteArray × (List T) × Int × Int × ByteArray × Int × (Nat × Nat)) ⊕ ((ByteArray × (List T) × Int × Int × ByteArray × Int × (Nat × Nat)) ⊕ ((Int × ByteArray × Int × (Nat × Nat)) ⊕ ((ByteArray × (List T) × Int × Int × Int × ByteArray × Int × (Nat × Nat)) ⊕ ByteArray × (List T) × Int × Int × ByteArray × Int × (Nat × Nat))))))) -> Option ((List T) × (Nat × Nat) × Int × Int × ByteArray × Int × (Nat × Nat))) : ByteArray × (List T) × Int × Int × ByteArray × Int × (Nat × Nat) -> Option ((List T) × (Nat × Nat) × Int × Int × ByteArray × Int × (Nat × Nat)) := fun (s0, s1, s2, s3, s4, s5, s6) =>
must true (decide (0 <= s2) && decide (s2 <= ((ByteArray.size s0 : Nat) : Int)) && decide (((ByteArray.size s0 : Nat) : Int) <= ((ByteArray.size s0 : Nat) : Int))) (Option.bind (m_z54 n (ByteArray.extract s0 (Int.toNat s2) (Int.toNat ((ByteArray.size s0 : Nat) : Int)))) fun r4 =>
k (Sum.inr (Sum.inr (Sum.inr (Sum.inr (Sum.inr (Sum.inr (s0, s1, (IntKind.wrap .i64 (s2 + r4)), s3, s4, s5, s6))))))))
def j_z52_0_B3 (n : Nat) (k : (((List T) × Int × ByteArray × Int × (Nat × Nat)) ⊕ ((ByteArray × (List T) × Int × Int × ByteArray × Int × (Nat × Nat)) ⊕ ((ByteArray × (List T) × Int × Int × ByteArray × Int × (Nat × Nat)) ⊕ ((ByteArray × (List T) × Int × Int × ByteArray × Int × (Nat × Nat)) ⊕ ((Int × ByteArray × Int × (Nat × Nat)) ⊕ ((ByteArray × (List T) × Int × Int × Int × ByteArray × Int × (Nat × Nat)) ⊕ ByteArray × (List T) × Int × Int × ByteArray × Int × (Nat × Nat))))))) -> Option ((List T) × (Nat × Nat) × Int × Int × ByteArray × Int × (Nat × Nat))) : ByteArray × (List T) × Int × Int × ByteArray × Int × (Nat × Nat) -> Option ((List T) × (Nat × Nat) × Int × Int × ByteArray × Int × (Nat × Nat)) := fun (s0, s1, s2, s3, s4, s5, s6) =>
must true (decide (0 <= s2) && decide (s2 <= ((ByteArray.size s0 : Nat) : Int)) && decide (((ByteArray.size s0 : Nat) : Int) <= ((ByteArray.size s0 : Nat) : Int))) (Option.bind (m_z61 n (ByteArray.extract s0 (Int.toNat s2) (Int.toNat ((ByteArray.size s0 : Nat) : Int)))) fun r5 =>
k (Sum.inr (Sum.inr (Sum.inr (Sum.inr (Sum.inr (Sum.inl (s0, s1, s2, r5, 1, s4, s5, s6))))))))
def j_z52_0_B4 (n : Nat) (k : (((List T) × Int × ByteArray × Int × (Nat × Nat)) ⊕ ((ByteArray × (List T) × Int × Int × ByteArray × Int × (Nat × Nat)) ⊕ ((ByteArray × (List T) × Int × Int × ByteArray × Int × (Nat × Nat)) ⊕ ((ByteArray × (List T) × Int × Int × ByteArray × Int × (Nat × Nat)) ⊕ ((Int × ByteArray × Int × (Nat × Nat)) ⊕ ((ByteArray × (List T) × Int × Int × Int × ByteArray × Int × (Nat × Nat)) ⊕ ByteArray × (List T) × Int × Int × ByteArray × Int × (Nat × Nat))))))) -> Option ((List T) × (Nat × Nat) × Int × Int × ByteArray × Int × (Nat × Nat))) : ByteArray × (List T) × Int × Int × ByteArray × Int × (Nat × Nat) -> Option ((List T) × (Nat × Nat) × Int × Int × ByteArray × Int × (Nat × Nat)) := fun (s0, s1, s2, s3, s4, s5, s6) =>
must true (decide (0 <= s2) && decide (s2 <= ((ByteArray.size s0 : Nat) : Int)) && decide (((ByteArray.size s0 : Nat) : Int) <= ((ByteArray.size s0 : Nat) : Int))) (Option.bind (m_z56 n (ByteArray.extract s0 (Int.toNat s2) (Int.toNat ((ByteArray.size s0 : Nat) : Int)))) fun r6 =>
must true (decide (0 <= s2) && decide (s2 <= (IntKind.wrap .i64 (s2 + r6))) && decide ((IntKind.wrap .i64 (s2 + r6)) <= ((ByteArray.size s0 : Nat) : Int))) (Option.bind (m_z48 n (ByteArray.extract s0 (Int.toNat s2) (Int.toNat (IntKind.wrap .i64 (s2 + r6))))) fun r7 =>
Option.bind (m_z49 n r7) fun r8 =>
must true (decide (0 <= s2) && decide (s2 <= (IntKind.wrap .i64 (s2 + r6))) && decide ((IntKind.wrap .i64 (s2 + r6)) <= ((ByteArray.size s0 : Nat) : Int))) (bif (!(ByteArray.toList r8 == ByteArray.toList (ByteArray.extract s0 (Int.toNat s2) (Int.toNat (IntKind.wrap .i64 (s2 + r6)))))) then (
k (Sum.inr (Sum.inr (Sum.inr (Sum.inr (Sum.inl (2, s4, r7, s6)))))))
else (
bif ((r6 : Int) == 0) then (
k (Sum.inr (Sum.inr (Sum.inr (Sum.inr (Sum.inl (2, s4, r7, s6)))))))
else (
must true (decide (0 <= s2) && decide (s2 <= (IntKind.wrap .i64 (s2 + r6))) && decide ((IntKind.wrap .i64 (s2 + r6)) <= ((ByteArray.size s0 : Nat) : Int))) (must true ((Nat.beq 4 4 || Nat.beq 4 0) && (decide (List.length s1 + List.length [(T.agg [(T.sc (.int .i64 2)), (T.sc (.string (ByteArray.extract s0 (Int.toNat s2) (Int.toNat (IntKind.wrap .i64 (s2 + r6)))))), (T.sc (.int .i64 r7)), (T.sc (.complex .f64 s6.1 s6.2))])] <= 1073741824) && sized 4 [(T.agg [(T.sc (.int .i64 2)), (T.sc (.string (ByteArray.extract s0 (Int.toNat s2) (Int.toNat (IntKind.wrap .i64 (s2 + r6)))))), (T.sc (.int .i64 r7)), (T.sc (.complex .f64 s6.1 s6.2))])])) (k (Sum.inr (Sum.inr (Sum.inr (Sum.inr (Sum.inr (Sum.inr (s0, (s1 ++ [(T.agg [(T.sc (.int .i64 2)), (T.sc (.string (ByteArray.extract s0 (Int.toNat s2) (Int.toNat (IntKind.wrap .i64 (s2 + r6)))))), (T.sc (.int .i64 r7)), (T.sc (.complex .f64 s6.1 s6.2))])]), (IntKind.wrap .i64 (s2 + r6)), 2, (ByteArray.extract s0 (Int.toNat s2) (Int.toNat (IntKind.wrap .i64 (s2 + r6)))), r7, s6))))))))))))))
def j_z52_0_B5 (n : Nat) (k : (((List T) × Int × ByteArray × Int × (Nat × Nat)) ⊕ ((ByteArray × (List T) × Int × Int × ByteArray × Int × (Nat × Nat)) ⊕ ((ByteArray × (List T) × Int × Int × ByteArray × Int × (Nat × Nat)) ⊕ ((ByteArray × (List T) × Int × Int × ByteArray × Int × (Nat × Nat)) ⊕ ((Int × ByteArray × Int × (Nat × Nat)) ⊕ ((ByteArray × (List T) × Int × Int × Int × ByteArray × Int × (Nat × Nat)) ⊕ ByteArray × (List T) × Int × Int × ByteArray × Int × (Nat × Nat))))))) -> Option ((List T) × (Nat × Nat) × Int × Int × ByteArray × Int × (Nat × Nat))) : Int × ByteArray × Int × (Nat × Nat) -> Option ((List T) × (Nat × Nat) × Int × Int × ByteArray × Int × (Nat × Nat)) := fun (s0, s1, s2, s3) =>
some (([] : List T), s3, 2, s0, s1, s2, s3)
def j_z52_0_B6 (n : Nat) (k : (((List T) × Int × ByteArray × Int × (Nat × Nat)) ⊕ ((ByteArray × (List T) × Int × Int × ByteArray × Int × (Nat × Nat)) ⊕ ((ByteArray × (List T) × Int × Int × ByteArray × Int × (Nat × Nat)) ⊕ ((ByteArray × (List T) × Int × Int × ByteArray × Int × (Nat × Nat)) ⊕ ((Int × ByteArray × Int × (Nat × Nat)) ⊕ ((ByteArray × (List T) × Int × Int × Int × ByteArray × Int × (Nat × Nat)) ⊕ ByteArray × (List T) × Int × Int × ByteArray × Int × (Nat × Nat))))))) -> Option ((List T) × (Nat × Nat) × Int × Int × ByteArray × Int × (Nat × Nat))) : ByteArray × (List T) × Int × Int × Int × ByteArray × Int × (Nat × Nat) -> Option ((List T) × (Nat × Nat) × Int × Int × ByteArray × Int × (Nat × Nat)) := fun (s0, s1, s2, s3, s4, s5, s6, s7) =>
bif ((s3 : Int) == 0) then (
k (Sum.inr (Sum.inr (Sum.inr (Sum.inr (Sum.inl (s4, s5, s6, s7)))))))
else (
must true (decide (0 <= s2) && decide (s2 <= (IntKind.wrap .i64 (s2 + s3))) && decide ((IntKind.wrap .i64 (s2 + s3)) <= ((ByteArray.size s0 : Nat) : Int))) (must true ((Nat.beq 4 4 || Nat.beq 4 0) && (decide (List.length s1 + List.length [(T.agg [(T.sc (.int .i64 s4)), (T.sc (.string (ByteArray.extract s0 (Int.toNat s2) (Int.toNat (IntKind.wrap .i64 (s2 + s3)))))), (T.sc (.int .i64 s6)), (T.sc (.complex .f64 s7.1 s7.2))])] <= 1073741824) && sized 4 [(T.agg [(T.sc (.int .i64 s4)), (T.sc (.string (ByteArray.extract s0 (Int.toNat s2) (Int.toNat (IntKind.wrap .i64 (s2 + s3)))))), (T.sc (.int .i64 s6)), (T.sc (.complex .f64 s7.1 s7.2))])])) (k (Sum.inr (Sum.inr (Sum.inr (Sum.inr (Sum.inr (Sum.inr (s0, (s1 ++ [(T.agg [(T.sc (.int .i64 s4)), (T.sc (.string (ByteArray.extract s0 (Int.toNat s2) (Int.toNat (IntKind.wrap .i64 (s2 + s3)))))), (T.sc (.int .i64 s6)), (T.sc (.complex .f64 s7.1 s7.2))])]), (IntKind.wrap .i64 (s2 + s3)), s4, (ByteArray.extract s0 (Int.toNat s2) (Int.toNat (IntKind.wrap .i64 (s2 + s3)))), s6, s7))))))))))
def j_z52_0_B0 (n : Nat) (k : (((List T) × Int × ByteArray × Int × (Nat × Nat)) ⊕ ((ByteArray × (List T) × Int × Int × ByteArray × Int × (Nat × Nat)) ⊕ ((ByteArray × (List T) × Int × Int × ByteArray × Int × (Nat × Nat)) ⊕ ((ByteArray × (List T) × Int × Int × ByteArray × Int × (Nat × Nat)) ⊕ ((Int × ByteArray × Int × (Nat × Nat)) ⊕ ((ByteArray × (List T) × Int × Int × Int × ByteArray × Int × (Nat × Nat)) ⊕ ByteArray × (List T) × Int × Int × ByteArray × Int × (Nat × Nat))))))) -> Option ((List T) × (Nat × Nat) × Int × Int × ByteArray × Int × (Nat × Nat))) : ByteArray × (List T) × Int × Int × ByteArray × Int × (Nat × Nat) -> Option ((List T) × (Nat × Nat) × Int × Int × ByteArray × Int × (Nat × Nat)) := fun (s0, s1, s2, s3, s4, s5, s6) =>
must true (decide (0 <= s2) && decide (s2 <= ((ByteArray.size s0 : Nat) : Int)) && decide (((ByteArray.size s0 : Nat) : Int) <= ((ByteArray.size s0 : Nat) : Int))) (Option.bind (m_z63 n (ByteArray.extract s0 (Int.toNat s2) (Int.toNat ((ByteArray.size s0 : Nat) : Int)))) fun r9 =>
Option.bind (m_z62 n s0 (IntKind.wrap .i64 (s2 + r9))) fun r10 =>
bif (((IntKind.wrap .i64 (s2 + r9)) : Int) == ((ByteArray.size s0 : Nat) : Int)) then (
k (Sum.inl (s1, 0, (⟨#[]⟩ : ByteArray), 0, r10)))
else (
Option.bind (bidx true s0 (IntKind.wrap .i64 (s2 + r9))) fun b11 =>
bif ((((UInt8.toNat b11 : Nat) : Int) : Int) == 35) then (
k (Sum.inr (Sum.inl (s0, s1, (IntKind.wrap .i64 (s2 + r9)), 0, (⟨#[]⟩ : ByteArray), 0, r10))))
else (
Option.bind (bidx true s0 (IntKind.wrap .i64 (s2 + r9))) fun b12 =>
Option.bind (m_z53 n ((UInt8.toNat b12 : Nat) : Int)) fun r13 =>
bif r13 then (
k (Sum.inr (Sum.inr (Sum.inl (s0, s1, (IntKind.wrap .i64 (s2 + r9)), 0, (⟨#[]⟩ : ByteArray), 0, r10)))))
else (
Option.bind (bidx true s0 (IntKind.wrap .i64 (s2 + r9))) fun b14 =>
Option.bind (m_z60 n ((UInt8.toNat b14 : Nat) : Int)) fun r15 =>
bif r15 then (
k (Sum.inr (Sum.inr (Sum.inr (Sum.inl (s0, s1, (IntKind.wrap .i64 (s2 + r9)), 0, (⟨#[]⟩ : ByteArray), 0, r10))))))
else (
must true (decide (0 <= (IntKind.wrap .i64 (s2 + r9))) && decide ((IntKind.wrap .i64 (s2 + r9)) <= ((ByteArray.size s0 : Nat) : Int)) && decide (((ByteArray.size s0 : Nat) : Int) <= ((ByteArray.size s0 : Nat) : Int))) (Option.bind (m_z24 n (ByteArray.extract s0 (Int.toNat (IntKind.wrap .i64 (s2 + r9))) (Int.toNat ((ByteArray.size s0 : Nat) : Int))) (⟨#[61, 61]⟩ : ByteArray)) fun r16 =>
bif r16 then (
Option.bind (bidx true s0 (IntKind.wrap .i64 (s2 + r9))) fun b17 =>
Option.bind (m_z25 n (⟨#[61, 60, 43, 45, 42, 47, 37, 40, 41, 123, 125]⟩ : ByteArray) ((UInt8.toNat b17 : Nat) : Int)) fun r18 =>
bif (decide ((r18 : Int) < 0)) then (
k (Sum.inr (Sum.inr (Sum.inr (Sum.inr (Sum.inl (0, (⟨#[]⟩ : ByteArray), 0, r10)))))))
else (
k (Sum.inr (Sum.inr (Sum.inr (Sum.inr (Sum.inr (Sum.inl (s0, s1, (IntKind.wrap .i64 (s2 + r9)), 2, 3, (⟨#[]⟩ : ByteArray), 0, r10)))))))))
else (
Option.bind (bidx true s0 (IntKind.wrap .i64 (s2 + r9))) fun b19 =>
Option.bind (m_z25 n (⟨#[61, 60, 43, 45, 42, 47, 37, 40, 41, 123, 125]⟩ : ByteArray) ((UInt8.toNat b19 : Nat) : Int)) fun r20 =>
bif (decide ((r20 : Int) < 0)) then (
k (Sum.inr (Sum.inr (Sum.inr (Sum.inr (Sum.inl (0, (⟨#[]⟩ : ByteArray), 0, r10)))))))
else (
k (Sum.inr (Sum.inr (Sum.inr (Sum.inr (Sum.inr (Sum.inl (s0, s1, (IntKind.wrap .i64 (s2 + r9)), 1, 3, (⟨#[]⟩ : ByteArray), 0, r10)))))))))))))))
def j_z52_0 (n : Nat) : Nat -> (((List T) × Int × ByteArray × Int × (Nat × Nat)) ⊕ ((ByteArray × (List T) × Int × Int × ByteArray × Int × (Nat × Nat)) ⊕ ((ByteArray × (List T) × Int × Int × ByteArray × Int × (Nat × Nat)) ⊕ ((ByteArray × (List T) × Int × Int × ByteArray × Int × (Nat × Nat)) ⊕ ((Int × ByteArray × Int × (Nat × Nat)) ⊕ ((ByteArray × (List T) × Int × Int × Int × ByteArray × Int × (Nat × Nat)) ⊕ ByteArray × (List T) × Int × Int × ByteArray × Int × (Nat × Nat))))))) -> Option ((List T) × (Nat × Nat) × Int × Int × ByteArray × Int × (Nat × Nat))
 | 0, _ => none
 | m + 1, s => Sum.elim (fun p1 => j_z52_0_B1 n (j_z52_0 n m) p1) (fun s' => Sum.elim (fun p2 => j_z52_0_B2 n (j_z52_0 n m) p2) (fun s'' => Sum.elim (fun p3 => j_z52_0_B3 n (j_z52_0 n m) p3) (fun s''' => Sum.elim (fun p4 => j_z52_0_B4 n (j_z52_0 n m) p4) (fun s'''' => Sum.elim (fun p5 => j_z52_0_B5 n (j_z52_0 n m) p5) (fun s''''' => Sum.elim (fun p6 => j_z52_0_B6 n (j_z52_0 n m) p6) (fun s'''''' => (fun p0 => j_z52_0_B0 n (j_z52_0 n m) p0) s'''''') s''''') s'''') s''') s'') s') s
def m_z52 (n : Nat) (a0 : ByteArray) : Option ((List T) × (Nat × Nat) × Int) :=
bif (decide ((((ByteArray.size a0 : Nat) : Int) : Int) > 6000)) then (
Option.bind (m_z62 n a0 6000) fun r0 =>
some (([] : List T), r0, 2))
else (
must true (decide (0 <= 0) && decide (0 <= ((ByteArray.size a0 : Nat) : Int)) && decide (((ByteArray.size a0 : Nat) : Int) <= ((ByteArray.size a0 : Nat) : Int))) (Option.bind (m_z63 n (ByteArray.extract a0 (Int.toNat 0) (Int.toNat ((ByteArray.size a0 : Nat) : Int)))) fun r1 =>
Option.bind (m_z62 n a0 (IntKind.wrap .i64 (0 + r1))) fun r2 =>
bif (((IntKind.wrap .i64 (0 + r1)) : Int) == ((ByteArray.size a0 : Nat) : Int)) then (
Option.bind (j_z52_0 n n (Sum.inl (([] : List T), 0, (⟨#[]⟩ : ByteArray), 0, r2))) fun p22 =>
some (p22.1, p22.2.1, p22.2.2.1))
else (
Option.bind (bidx true a0 (IntKind.wrap .i64 (0 + r1))) fun b23 =>
bif ((((UInt8.toNat b23 : Nat) : Int) : Int) == 35) then (
Option.bind (j_z52_0 n n (Sum.inr (Sum.inl (a0, ([] : List T), (IntKind.wrap .i64 (0 + r1)), 0, (⟨#[]⟩ : ByteArray), 0, r2)))) fun p25 =>
some (p25.1, p25.2.1, p25.2.2.1))
else (
Option.bind (bidx true a0 (IntKind.wrap .i64 (0 + r1))) fun b26 =>
Option.bind (m_z53 n ((UInt8.toNat b26 : Nat) : Int)) fun r27 =>
bif r27 then (
Option.bind (j_z52_0 n n (Sum.inr (Sum.inr (Sum.inl (a0, ([] : List T), (IntKind.wrap .i64 (0 + r1)), 0, (⟨#[]⟩ : ByteArray), 0, r2))))) fun p29 =>
some (p29.1, p29.2.1, p29.2.2.1))
else (
Option.bind (bidx true a0 (IntKind.wrap .i64 (0 + r1))) fun b30 =>
Option.bind (m_z60 n ((UInt8.toNat b30 : Nat) : Int)) fun r31 =>
bif r31 then (
Option.bind (j_z52_0 n n (Sum.inr (Sum.inr (Sum.inr (Sum.inl (a0, ([] : List T), (IntKind.wrap .i64 (0 + r1)), 0, (⟨#[]⟩ : ByteArray), 0, r2)))))) fun p33 =>
some (p33.1, p33.2.1, p33.2.2.1))
else (
must true (decide (0 <= (IntKind.wrap .i64 (0 + r1))) && decide ((IntKind.wrap .i64 (0 + r1)) <= ((ByteArray.size a0 : Nat) : Int)) && decide (((ByteArray.size a0 : Nat) : Int) <= ((ByteArray.size a0 : Nat) : Int))) (Option.bind (m_z24 n (ByteArray.extract a0 (Int.toNat (IntKind.wrap .i64 (0 + r1))) (Int.toNat ((ByteArray.size a0 : Nat) : Int))) (⟨#[61, 61]⟩ : ByteArray)) fun r34 =>
bif r34 then (
Option.bind (bidx true a0 (IntKind.wrap .i64 (0 + r1))) fun b35 =>
Option.bind (m_z25 n (⟨#[61, 60, 43, 45, 42, 47, 37, 40, 41, 123, 125]⟩ : ByteArray) ((UInt8.toNat b35 : Nat) : Int)) fun r36 =>
bif (decide ((r36 : Int) < 0)) then (
Option.bind (j_z52_0 n n (Sum.inr (Sum.inr (Sum.inr (Sum.inr (Sum.inl (0, (⟨#[]⟩ : ByteArray), 0, r2))))))) fun p38 =>
some (p38.1, p38.2.1, p38.2.2.1))
else (
Option.bind (j_z52_0 n n (Sum.inr (Sum.inr (Sum.inr (Sum.inr (Sum.inr (Sum.inl (a0, ([] : List T), (IntKind.wrap .i64 (0 + r1)), 2, 3, (⟨#[]⟩ : ByteArray), 0, r2)))))))) fun p40 =>
some (p40.1, p40.2.1, p40.2.2.1)))
else (
Option.bind (bidx true a0 (IntKind.wrap .i64 (0 + r1))) fun b41 =>
Option.bind (m_z25 n (⟨#[61, 60, 43, 45, 42, 47, 37, 40, 41, 123, 125]⟩ : ByteArray) ((UInt8.toNat b41 : Nat) : Int)) fun r42 =>
bif (decide ((r42 : Int) < 0)) then (
Option.bind (j_z52_0 n n (Sum.inr (Sum.inr (Sum.inr (Sum.inr (Sum.inl (0, (⟨#[]⟩ : ByteArray), 0, r2))))))) fun p44 =>
some (p44.1, p44.2.1, p44.2.2.1))
else (
Option.bind (j_z52_0 n n (Sum.inr (Sum.inr (Sum.inr (Sum.inr (Sum.inr (Sum.inl (a0, ([] : List T), (IntKind.wrap .i64 (0 + r1)), 1, 3, (⟨#[]⟩ : ByteArray), 0, r2)))))))) fun p46 =>
some (p46.1, p46.2.1, p46.2.2.1))))))))))
def enc_z52 (r : (List T) × (Nat × Nat) × Int) : V := (V.tup [(V.t (T.list r.1)), (V.t (T.sc (.complex .f64 r.2.1.1 r.2.1.2))), (V.t (T.sc (.int .i64 r.2.2)))])
def encS_z52 (r : (List T) × (Nat × Nat) × Int) : Sig := []
def ok_z52 (m : ByteArray -> Option ((List T) × (Nat × Nat) × Int)) : Prop := ∀ (a0 : ByteArray) (r : (List T) × (Nat × Nat) × Int), m a0 = some r -> FuncOk Tryz.prog 41 [(V.t (T.sc (.string a0)))] [] (enc_z52 r) (encS_z52 r)
def c_z52 (m : ByteArray -> Option ((List T) × (Nat × Nat) × Int)) (vs : List V) (sg : Sig) : Option CallM := bif Nat.beq vs.length 1 && Nat.beq sg.length 0 then Option.bind (V.strOf (vs.getD 0 .any)) fun u0 => some { α := (List T) × (Nat × Nat) × Int, m := m u0, dflt := ([], (0, 0), 0), enc := fun y => ((V.tup [(V.t (T.list y.1)), (V.t (T.sc (.complex .f64 y.2.1.1 y.2.1.2))), (V.t (T.sc (.int .i64 y.2.2)))]), []) } else none
theorem c_z52_ok (m : ByteArray -> Option ((List T) × (Nat × Nat) × Int)) (hm : ok_z52 m) (vs : List V) (sg : Sig) (cm : CallM) (x : cm.α) (h : c_z52 m vs sg = some cm) (hx : cm.m = some x) : FuncOk Tryz.prog 41 vs sg (cm.enc x).1 (cm.enc x).2 := by
 unfold c_z52 at h
 obtain ⟨hl, hs, h⟩ := callee_sig h
 obtain ⟨u0, hu0, h⟩ := ob h
 cases h
 exact (hm u0 x hx).wk (args_wk hl (.cons (sW hu0) .nil)) (wkSg_of hs .nil)
def code_z52 : Code := Tryz.f41.body.getD .skip
def j_z52_0_S1 (n : Nat) (R : Type) (E : SEnv) (sg : Sig) (K : Ex -> SEnv -> Sig -> Option R) : Option R := Option.bind (V.ownOf 4 (SEnv.at E 5)) fun u0 => Option.bind (V.ptrOf 0 0 (SEnv.at E 6)) fun u1 => Option.bind (cellsN 4 sg 0) fun u2 => Option.bind (V.intOf .i64 (u2.getD 0 .any)) fun u3 => Option.bind (V.strOf (u2.getD 1 .any)) fun u4 => Option.bind (V.intOf .i64 (u2.getD 2 .any)) fun u5 => Option.bind (V.cplxOf .f64 (u2.getD 3 .any)) fun u6 => Option.bind (j_z52_0 n n (Sum.inl (u0, u3, u4, u5, u6))) fun p0 => K .ret [(2, (V.own 4 p0.1)), (3, (V.t (T.sc (.complex .f64 p0.2.1.1 p0.2.1.2)))), (4, (V.t (T.sc (.int .i64 p0.2.2.1))))] [some [(V.t (T.sc (.int .i64 p0.2.2.2.1))), (V.t (T.sc (.string p0.2.2.2.2.1))), (V.t (T.sc (.int .i64 p0.2.2.2.2.2.1))), (V.t (T.sc (.complex .f64 p0.2.2.2.2.2.2.1 p0.2.2.2.2.2.2.2)))]]
def j_z52_0_S2 (n : Nat) (R : Type) (E : SEnv) (sg : Sig) (K : Ex -> SEnv -> Sig -> Option R) : Option R := Option.bind (V.strOf (SEnv.at E 0)) fun u0 => Option.bind (V.ownOf 4 (SEnv.at E 5)) fun u1 => Option.bind (V.ptrOf 0 0 (SEnv.at E 6)) fun u2 => Option.bind (V.intOf .i64 (SEnv.at E 7)) fun u3 => Option.bind (cellsN 4 sg 0) fun u4 => Option.bind (V.intOf .i64 (u4.getD 0 .any)) fun u5 => Option.bind (V.strOf (u4.getD 1 .any)) fun u6 => Option.bind (V.intOf .i64 (u4.getD 2 .any)) fun u7 => Option.bind (V.cplxOf .f64 (u4.getD 3 .any)) fun u8 => Option.bind (j_z52_0 n n (Sum.inr (Sum.inl (u0, u1, u3, u5, u6, u7, u8)))) fun p0 => K .ret [(2, (V.own 4 p0.1)), (3, (V.t (T.sc (.complex .f64 p0.2.1.1 p0.2.1.2)))), (4, (V.t (T.sc (.int .i64 p0.2.2.1))))] [some [(V.t (T.sc (.int .i64 p0.2.2.2.1))), (V.t (T.sc (.string p0.2.2.2.2.1))), (V.t (T.sc (.int .i64 p0.2.2.2.2.2.1))), (V.t (T.sc (.complex .f64 p0.2.2.2.2.2.2.1 p0.2.2.2.2.2.2.2)))]]
def j_z52_0_S3 (n : Nat) (R : Type) (E : SEnv) (sg : Sig) (K : Ex -> SEnv -> Sig -> Option R) : Option R := Option.bind (V.strOf (SEnv.at E 0)) fun u0 => Option.bind (V.ownOf 4 (SEnv.at E 5)) fun u1 => Option.bind (V.ptrOf 0 0 (SEnv.at E 6)) fun u2 => Option.bind (V.intOf .i64 (SEnv.at E 7)) fun u3 => Option.bind (cellsN 4 sg 0) fun u4 => Option.bind (V.intOf .i64 (u4.getD 0 .any)) fun u5 => Option.bind (V.strOf (u4.getD 1 .any)) fun u6 => Option.bind (V.intOf .i64 (u4.getD 2 .any)) fun u7 => Option.bind (V.cplxOf .f64 (u4.getD 3 .any)) fun u8 => Option.bind (j_z52_0 n n (Sum.inr (Sum.inr (Sum.inl (u0, u1, u3, u5, u6, u7, u8))))) fun p0 => K .ret [(2, (V.own 4 p0.1)), (3, (V.t (T.sc (.complex .f64 p0.2.1.1 p0.2.1.2)))), (4, (V.t (T.sc (.int .i64 p0.2.2.1))))] [some [(V.t (T.sc (.int .i64 p0.2.2.2.1))), (V.t (T.sc (.string p0.2.2.2.2.1))), (V.t (T.sc (.int .i64 p0.2.2.2.2.2.1))), (V.t (T.sc (.complex .f64 p0.2.2.2.2.2.2.1 p0.2.2.2.2.2.2.2)))]]
def j_z52_0_S4 (n : Nat) (R : Type) (E : SEnv) (sg : Sig) (K : Ex -> SEnv -> Sig -> Option R) : Option R := Option.bind (V.strOf (SEnv.at E 0)) fun u0 => Option.bind (V.ownOf 4 (SEnv.at E 5)) fun u1 => Option.bind (V.ptrOf 0 0 (SEnv.at E 6)) fun u2 => Option.bind (V.intOf .i64 (SEnv.at E 7)) fun u3 => Option.bind (cellsN 4 sg 0) fun u4 => Option.bind (V.intOf .i64 (u4.getD 0 .any)) fun u5 => Option.bind (V.strOf (u4.getD 1 .any)) fun u6 => Option.bind (V.intOf .i64 (u4.getD 2 .any)) fun u7 => Option.bind (V.cplxOf .f64 (u4.getD 3 .any)) fun u8 => Option.bind (j_z52_0 n n (Sum.inr (Sum.inr (Sum.inr (Sum.inl (u0, u1, u3, u5, u6, u7, u8)))))) fun p0 => K .ret [(2, (V.own 4 p0.1)), (3, (V.t (T.sc (.complex .f64 p0.2.1.1 p0.2.1.2)))), (4, (V.t (T.sc (.int .i64 p0.2.2.1))))] [some [(V.t (T.sc (.int .i64 p0.2.2.2.1))), (V.t (T.sc (.string p0.2.2.2.2.1))), (V.t (T.sc (.int .i64 p0.2.2.2.2.2.1))), (V.t (T.sc (.complex .f64 p0.2.2.2.2.2.2.1 p0.2.2.2.2.2.2.2)))]]
def j_z52_0_S5 (n : Nat) (R : Type) (E : SEnv) (sg : Sig) (K : Ex -> SEnv -> Sig -> Option R) : Option R := Option.bind (V.ptrOf 0 0 (SEnv.at E 6)) fun u0 => Option.bind (cellsN 4 sg 0) fun u1 => Option.bind (V.intOf .i64 (u1.getD 0 .any)) fun u2 => Option.bind (V.strOf (u1.getD 1 .any)) fun u3 => Option.bind (V.intOf .i64 (u1.getD 2 .any)) fun u4 => Option.bind (V.cplxOf .f64 (u1.getD 3 .any)) fun u5 => Option.bind (j_z52_0 n n (Sum.inr (Sum.inr (Sum.inr (Sum.inr (Sum.inl (u2, u3, u4, u5))))))) fun p0 => K .ret [(2, (V.own 4 p0.1)), (3, (V.t (T.sc (.complex .f64 p0.2.1.1 p0.2.1.2)))), (4, (V.t (T.sc (.int .i64 p0.2.2.1))))] [some [(V.t (T.sc (.int .i64 p0.2.2.2.1))), (V.t (T.sc (.string p0.2.2.2.2.1))), (V.t (T.sc (.int .i64 p0.2.2.2.2.2.1))), (V.t (T.sc (.complex .f64 p0.2.2.2.2.2.2.1 p0.2.2.2.2.2.2.2)))]]
def j_z52_0_S6 (n : Nat) (R : Type) (E : SEnv) (sg : Sig) (K : Ex -> SEnv -> Sig -> Option R) : Option R := Option.bind (V.strOf (SEnv.at E 0)) fun u0 => Option.bind (V.ownOf 4 (SEnv.at E 5)) fun u1 => Option.bind (V.ptrOf 0 0 (SEnv.at E 6)) fun u2 => Option.bind (V.intOf .i64 (SEnv.at E 7)) fun u3 => Option.bind (V.intOf .i64 (SEnv.at E 8)) fun u4 => Option.bind (cellsN 4 sg 0) fun u5 => Option.bind (V.intOf .i64 (u5.getD 0 .any)) fun u6 => Option.bind (V.strOf (u5.getD 1 .any)) fun u7 => Option.bind (V.intOf .i64 (u5.getD 2 .any)) fun u8 => Option.bind (V.cplxOf .f64 (u5.getD 3 .any)) fun u9 => Option.bind (j_z52_0 n n (Sum.inr (Sum.inr (Sum.inr (Sum.inr (Sum.inr (Sum.inl (u0, u1, u3, u4, u6, u7, u8, u9)))))))) fun p0 => K .ret [(2, (V.own 4 p0.1)), (3, (V.t (T.sc (.complex .f64 p0.2.1.1 p0.2.1.2)))), (4, (V.t (T.sc (.int .i64 p0.2.2.1))))] [some [(V.t (T.sc (.int .i64 p0.2.2.2.1))), (V.t (T.sc (.string p0.2.2.2.2.1))), (V.t (T.sc (.int .i64 p0.2.2.2.2.2.1))), (V.t (T.sc (.complex .f64 p0.2.2.2.2.2.2.1 p0.2.2.2.2.2.2.2)))]]
def j_z52_0_S0 (n : Nat) (R : Type) (E : SEnv) (sg : Sig) (K : Ex -> SEnv -> Sig -> Option R) : Option R := Option.bind (V.strOf (SEnv.at E 0)) fun u0 => Option.bind (V.ownOf 4 (SEnv.at E 5)) fun u1 => Option.bind (V.ptrOf 0 0 (SEnv.at E 6)) fun u2 => Option.bind (V.intOf .i64 (SEnv.at E 7)) fun u3 => Option.bind (cellsN 4 sg 0) fun u4 => Option.bind (V.intOf .i64 (u4.getD 0 .any)) fun u5 => Option.bind (V.strOf (u4.getD 1 .any)) fun u6 => Option.bind (V.intOf .i64 (u4.getD 2 .any)) fun u7 => Option.bind (V.cplxOf .f64 (u4.getD 3 .any)) fun u8 => Option.bind (j_z52_0 n n (Sum.inr (Sum.inr (Sum.inr (Sum.inr (Sum.inr (Sum.inr (u0, u1, u3, u5, u6, u7, u8)))))))) fun p0 => K .ret [(2, (V.own 4 p0.1)), (3, (V.t (T.sc (.complex .f64 p0.2.1.1 p0.2.1.2)))), (4, (V.t (T.sc (.int .i64 p0.2.2.1))))] [some [(V.t (T.sc (.int .i64 p0.2.2.2.1))), (V.t (T.sc (.string p0.2.2.2.2.1))), (V.t (T.sc (.int .i64 p0.2.2.2.2.2.1))), (V.t (T.sc (.complex .f64 p0.2.2.2.2.2.2.1 p0.2.2.2.2.2.2.2)))]]
def sp_z52 (n : Nat) : Go.Eng.Spec := ⟨fun f vs sg => (match f with
  | 67 => c_z62 (m_z62 n) vs sg
  | 68 => orC (c_z63 (m_z63 n) vs sg) (orC (c_z54 (m_z54 n) vs sg) (c_z56 (m_z56 n) vs sg))
  | 77 => c_z1 (m_z1 n) vs sg
  | 75 => c_z61 (m_z61 n) vs sg
  | 76 => c_z48 (m_z48 n) vs sg
  | 36 => c_z49 (m_z49 n) vs sg
  | 70 => c_z53 (m_z53 n) vs sg
  | 71 => c_z60 (m_z60 n) vs sg
  | 72 => c_z24 (m_z24 n) vs sg
  | 73 => c_z25 (m_z25 n) vs sg
  | _ => none), fun R key E sg K => (match key with
  | 1000001 => j_z52_0_S1 n R E sg K
  | 1000002 => j_z52_0_S2 n R E sg K
  | 1000003 => j_z52_0_S3 n R E sg K
  | 1000004 => j_z52_0_S4 n R E sg K
  | 1000005 => j_z52_0_S5 n R E sg K
  | 1000006 => j_z52_0_S6 n R E sg K
  | 1000000 => j_z52_0_S0 n R E sg K
  | _ => none)⟩
theorem sp_z52_ok (n : Nat) : CallsOk Tryz.prog (sp_z52 n) := by
 intro f vs sg cm x h hx
 simp only [sp_z52] at h
 split at h
 ·exact c_z62_ok _ (m_z62_ok n) vs sg cm x h hx
 ·exact (orC_some h).elim (fun h1 => c_z63_ok _ (m_z63_ok n) vs sg cm x h1 hx) (fun h2' => (orC_some h2').elim (fun h1 => c_z54_ok _ (m_z54_ok n) vs sg cm x h1 hx) (fun h1' => c_z56_ok _ (m_z56_ok n) vs sg cm x h1' hx))
 ·exact c_z1_ok _ (m_z1_ok n) vs sg cm x h hx
 ·exact c_z61_ok _ (m_z61_ok n) vs sg cm x h hx
 ·exact c_z48_ok _ (m_z48_ok n) vs sg cm x h hx
 ·exact c_z49_ok _ (m_z49_ok n) vs sg cm x h hx
 ·exact c_z53_ok _ (m_z53_ok n) vs sg cm x h hx
 ·exact c_z60_ok _ (m_z60_ok n) vs sg cm x h hx
 ·exact c_z24_ok _ (m_z24_ok n) vs sg cm x h hx
 ·exact c_z25_ok _ (m_z25_ok n) vs sg cm x h hx
 ·cases h
theorem code_z52_fn : Tryz.prog.funcs[41]? = some Tryz.f41 := Tryz.func41
theorem code_z52_body : Tryz.f41.body = some code_z52 := by kernel_rfl
theorem code_z52_ok : CodeOk Tryz.prog code_z52 := (sound 41 _ _ code_z52_fn code_z52_body).1
def code_j_z52_0 : Code := (scopesOf code_z52).getD 0 .skip
theorem code_j_z52_0_ok : CodeOk Tryz.prog code_j_z52_0 := codeOk_scopes code_z52_ok _ (getD_mem (by kernel_rfl))
def j_z52_0_K (k : (((List T) × Int × ByteArray × Int × (Nat × Nat)) ⊕ ((ByteArray × (List T) × Int × Int × ByteArray × Int × (Nat × Nat)) ⊕ ((ByteArray × (List T) × Int × Int × ByteArray × Int × (Nat × Nat)) ⊕ ((ByteArray × (List T) × Int × Int × ByteArray × Int × (Nat × Nat)) ⊕ ((Int × ByteArray × Int × (Nat × Nat)) ⊕ ((ByteArray × (List T) × Int × Int × Int × ByteArray × Int × (Nat × Nat)) ⊕ ByteArray × (List T) × Int × Int × ByteArray × Int × (Nat × Nat))))))) -> Option ((List T) × (Nat × Nat) × Int × Int × ByteArray × Int × (Nat × Nat))) : Ex -> SEnv -> Sig -> Option ((List T) × (Nat × Nat) × Int × Int × ByteArray × Int × (Nat × Nat)) := fun x E sg => match x with
 | .goto 1 => Option.bind (V.ownOf 4 (SEnv.at E 5)) fun u0 => Option.bind (V.ptrOf 0 0 (SEnv.at E 6)) fun u1 => Option.bind (cellsN 4 sg 0) fun u2 => Option.bind (V.intOf .i64 (u2.getD 0 .any)) fun u3 => Option.bind (V.strOf (u2.getD 1 .any)) fun u4 => Option.bind (V.intOf .i64 (u2.getD 2 .any)) fun u5 => Option.bind (V.cplxOf .f64 (u2.getD 3 .any)) fun u6 => k (Sum.inl (u0, u3, u4, u5, u6))
 | .goto 2 => Option.bind (V.strOf (SEnv.at E 0)) fun u0 => Option.bind (V.ownOf 4 (SEnv.at E 5)) fun u1 => Option.bind (V.ptrOf 0 0 (SEnv.at E 6)) fun u2 => Option.bind (V.intOf .i64 (SEnv.at E 7)) fun u3 => Option.bind (cellsN 4 sg 0) fun u4 => Option.bind (V.intOf .i64 (u4.getD 0 .any)) fun u5 => Option.bind (V.strOf (u4.getD 1 .any)) fun u6 => Option.bind (V.intOf .i64 (u4.getD 2 .any)) fun u7 => Option.bind (V.cplxOf .f64 (u4.getD 3 .any)) fun u8 => k (Sum.inr (Sum.inl (u0, u1, u3, u5, u6, u7, u8)))
 | .goto 3 => Option.bind (V.strOf (SEnv.at E 0)) fun u0 => Option.bind (V.ownOf 4 (SEnv.at E 5)) fun u1 => Option.bind (V.ptrOf 0 0 (SEnv.at E 6)) fun u2 => Option.bind (V.intOf .i64 (SEnv.at E 7)) fun u3 => Option.bind (cellsN 4 sg 0) fun u4 => Option.bind (V.intOf .i64 (u4.getD 0 .any)) fun u5 => Option.bind (V.strOf (u4.getD 1 .any)) fun u6 => Option.bind (V.intOf .i64 (u4.getD 2 .any)) fun u7 => Option.bind (V.cplxOf .f64 (u4.getD 3 .any)) fun u8 => k (Sum.inr (Sum.inr (Sum.inl (u0, u1, u3, u5, u6, u7, u8))))
 | .goto 4 => Option.bind (V.strOf (SEnv.at E 0)) fun u0 => Option.bind (V.ownOf 4 (SEnv.at E 5)) fun u1 => Option.bind (V.ptrOf 0 0 (SEnv.at E 6)) fun u2 => Option.bind (V.intOf .i64 (SEnv.at E 7)) fun u3 => Option.bind (cellsN 4 sg 0) fun u4 => Option.bind (V.intOf .i64 (u4.getD 0 .any)) fun u5 => Option.bind (V.strOf (u4.getD 1 .any)) fun u6 => Option.bind (V.intOf .i64 (u4.getD 2 .any)) fun u7 => Option.bind (V.cplxOf .f64 (u4.getD 3 .any)) fun u8 => k (Sum.inr (Sum.inr (Sum.inr (Sum.inl (u0, u1, u3, u5, u6, u7, u8)))))
 | .goto 5 => Option.bind (V.ptrOf 0 0 (SEnv.at E 6)) fun u0 => Option.bind (cellsN 4 sg 0) fun u1 => Option.bind (V.intOf .i64 (u1.getD 0 .any)) fun u2 => Option.bind (V.strOf (u1.getD 1 .any)) fun u3 => Option.bind (V.intOf .i64 (u1.getD 2 .any)) fun u4 => Option.bind (V.cplxOf .f64 (u1.getD 3 .any)) fun u5 => k (Sum.inr (Sum.inr (Sum.inr (Sum.inr (Sum.inl (u2, u3, u4, u5))))))
 | .goto 6 => Option.bind (V.strOf (SEnv.at E 0)) fun u0 => Option.bind (V.ownOf 4 (SEnv.at E 5)) fun u1 => Option.bind (V.ptrOf 0 0 (SEnv.at E 6)) fun u2 => Option.bind (V.intOf .i64 (SEnv.at E 7)) fun u3 => Option.bind (V.intOf .i64 (SEnv.at E 8)) fun u4 => Option.bind (cellsN 4 sg 0) fun u5 => Option.bind (V.intOf .i64 (u5.getD 0 .any)) fun u6 => Option.bind (V.strOf (u5.getD 1 .any)) fun u7 => Option.bind (V.intOf .i64 (u5.getD 2 .any)) fun u8 => Option.bind (V.cplxOf .f64 (u5.getD 3 .any)) fun u9 => k (Sum.inr (Sum.inr (Sum.inr (Sum.inr (Sum.inr (Sum.inl (u0, u1, u3, u4, u6, u7, u8, u9)))))))
 | .goto 0 => Option.bind (V.strOf (SEnv.at E 0)) fun u0 => Option.bind (V.ownOf 4 (SEnv.at E 5)) fun u1 => Option.bind (V.ptrOf 0 0 (SEnv.at E 6)) fun u2 => Option.bind (V.intOf .i64 (SEnv.at E 7)) fun u3 => Option.bind (cellsN 4 sg 0) fun u4 => Option.bind (V.intOf .i64 (u4.getD 0 .any)) fun u5 => Option.bind (V.strOf (u4.getD 1 .any)) fun u6 => Option.bind (V.intOf .i64 (u4.getD 2 .any)) fun u7 => Option.bind (V.cplxOf .f64 (u4.getD 3 .any)) fun u8 => k (Sum.inr (Sum.inr (Sum.inr (Sum.inr (Sum.inr (Sum.inr (u0, u1, u3, u5, u6, u7, u8)))))))
 | .ret => Option.bind (V.ownOf 4 (SEnv.at E 2)) fun u0 => Option.bind (V.cplxOf .f64 (SEnv.at E 3)) fun u1 => Option.bind (V.intOf .i64 (SEnv.at E 4)) fun u2 => Option.bind (cellsN 4 sg 0) fun u3 => Option.bind (V.intOf .i64 (u3.getD 0 .any)) fun u4 => Option.bind (V.strOf (u3.getD 1 .any)) fun u5 => Option.bind (V.intOf .i64 (u3.getD 2 .any)) fun u6 => Option.bind (V.cplxOf .f64 (u3.getD 3 .any)) fun u7 => some (u0, u1, u2, u4, u5, u6, u7)
 | _ => none
def code_j_z52_0_1 : Code := (findLabel code_j_z52_0 1).getD .skip
theorem code_j_z52_0_1_find : findLabel code_j_z52_0 1 = some code_j_z52_0_1 := by kernel_rfl
theorem j_z52_0_eq1 (n : Nat) (k : (((List T) × Int × ByteArray × Int × (Nat × Nat)) ⊕ ((ByteArray × (List T) × Int × Int × ByteArray × Int × (Nat × Nat)) ⊕ ((ByteArray × (List T) × Int × Int × ByteArray × Int × (Nat × Nat)) ⊕ ((ByteArray × (List T) × Int × Int × ByteArray × Int × (Nat × Nat)) ⊕ ((Int × ByteArray × Int × (Nat × Nat)) ⊕ ((ByteArray × (List T) × Int × Int × Int × ByteArray × Int × (Nat × Nat)) ⊕ ByteArray × (List T) × Int × Int × ByteArray × Int × (Nat × Nat))))))) -> Option ((List T) × (Nat × Nat) × Int × Int × ByteArray × Int × (Nat × Nat))) (s0 : List T) (s1 : Int) (s2 : ByteArray) (s3 : Int) (s4 : Nat × Nat) : mX Tryz.prog (sp_z52 n) 116 code_j_z52_0_1 [(5, (V.own 4 s0)), (6, (V.ptr 0 0))] [some [(V.t (T.sc (.int .i64 s1))), (V.t (T.sc (.string s2))), (V.t (T.sc (.int .i64 s3))), (V.t (T.sc (.complex .f64 s4.1 s4.2)))]] (j_z52_0_K k) = j_z52_0_B1 n k (s0, s1, s2, s3, s4) := by kernel_rfl
def code_j_z52_0_2 : Code := (findLabel code_j_z52_0 2).getD .skip
theorem code_j_z52_0_2_find : findLabel code_j_z52_0 2 = some code_j_z52_0_2 := by kernel_rfl
theorem j_z52_0_eq2 (n : Nat) (k : (((List T) × Int × ByteArray × Int × (Nat × Nat)) ⊕ ((ByteArray × (List T) × Int × Int × ByteArray × Int × (Nat × Nat)) ⊕ ((ByteArray × (List T) × Int × Int × ByteArray × Int × (Nat × Nat)) ⊕ ((ByteArray × (List T) × Int × Int × ByteArray × Int × (Nat × Nat)) ⊕ ((Int × ByteArray × Int × (Nat × Nat)) ⊕ ((ByteArray × (List T) × Int × Int × Int × ByteArray × Int × (Nat × Nat)) ⊕ ByteArray × (List T) × Int × Int × ByteArray × Int × (Nat × Nat))))))) -> Option ((List T) × (Nat × Nat) × Int × Int × ByteArray × Int × (Nat × Nat))) (s0 : ByteArray) (s1 : List T) (s2 : Int) (s3 : Int) (s4 : ByteArray) (s5 : Int) (s6 : Nat × Nat) : mX Tryz.prog (sp_z52 n) 116 code_j_z52_0_2 [(0, (V.t (T.sc (.string s0)))), (5, (V.own 4 s1)), (6, (V.ptr 0 0)), (7, (V.t (T.sc (.int .i64 s2))))] [some [(V.t (T.sc (.int .i64 s3))), (V.t (T.sc (.string s4))), (V.t (T.sc (.int .i64 s5))), (V.t (T.sc (.complex .f64 s6.1 s6.2)))]] (j_z52_0_K k) = j_z52_0_B2 n k (s0, s1, s2, s3, s4, s5, s6) := by kernel_rfl
def code_j_z52_0_3 : Code := (findLabel code_j_z52_0 3).getD .skip
theorem code_j_z52_0_3_find : findLabel code_j_z52_0 3 = some code_j_z52_0_3 := by kernel_rfl
theorem j_z52_0_eq3 (n : Nat) (k : (((List T) × Int × ByteArray × Int × (Nat × Nat)) ⊕ ((ByteArray × (List T) × Int × Int × ByteArray × Int × (Nat × Nat)) ⊕ ((ByteArray × (List T) × Int × Int × ByteArray × Int × (Nat × Nat)) ⊕ ((ByteArray × (List T) × Int × Int × ByteArray × Int × (Nat × Nat)) ⊕ ((Int × ByteArray × Int × (Nat × Nat)) ⊕ ((ByteArray × (List T) × Int × Int × Int × ByteArray × Int × (Nat × Nat)) ⊕ ByteArray × (List T) × Int × Int × ByteArray × Int × (Nat × Nat))))))) -> Option ((List T) × (Nat × Nat) × Int × Int × ByteArray × Int × (Nat × Nat))) (s0 : ByteArray) (s1 : List T) (s2 : Int) (s3 : Int) (s4 : ByteArray) (s5 : Int) (s6 : Nat × Nat) : mX Tryz.prog (sp_z52 n) 116 code_j_z52_0_3 [(0, (V.t (T.sc (.string s0)))), (5, (V.own 4 s1)), (6, (V.ptr 0 0)), (7, (V.t (T.sc (.int .i64 s2))))] [some [(V.t (T.sc (.int .i64 s3))), (V.t (T.sc (.string s4))), (V.t (T.sc (.int .i64 s5))), (V.t (T.sc (.complex .f64 s6.1 s6.2)))]] (j_z52_0_K k) = j_z52_0_B3 n k (s0, s1, s2, s3, s4, s5, s6) := by kernel_rfl
def code_j_z52_0_4 : Code := (findLabel code_j_z52_0 4).getD .skip
theorem code_j_z52_0_4_find : findLabel code_j_z52_0 4 = some code_j_z52_0_4 := by kernel_rfl
theorem j_z52_0_eq4 (n : Nat) (k : (((List T) × Int × ByteArray × Int × (Nat × Nat)) ⊕ ((ByteArray × (List T) × Int × Int × ByteArray × Int × (Nat × Nat)) ⊕ ((ByteArray × (List T) × Int × Int × ByteArray × Int × (Nat × Nat)) ⊕ ((ByteArray × (List T) × Int × Int × ByteArray × Int × (Nat × Nat)) ⊕ ((Int × ByteArray × Int × (Nat × Nat)) ⊕ ((ByteArray × (List T) × Int × Int × Int × ByteArray × Int × (Nat × Nat)) ⊕ ByteArray × (List T) × Int × Int × ByteArray × Int × (Nat × Nat))))))) -> Option ((List T) × (Nat × Nat) × Int × Int × ByteArray × Int × (Nat × Nat))) (s0 : ByteArray) (s1 : List T) (s2 : Int) (s3 : Int) (s4 : ByteArray) (s5 : Int) (s6 : Nat × Nat) : mX Tryz.prog (sp_z52 n) 116 code_j_z52_0_4 [(0, (V.t (T.sc (.string s0)))), (5, (V.own 4 s1)), (6, (V.ptr 0 0)), (7, (V.t (T.sc (.int .i64 s2))))] [some [(V.t (T.sc (.int .i64 s3))), (V.t (T.sc (.string s4))), (V.t (T.sc (.int .i64 s5))), (V.t (T.sc (.complex .f64 s6.1 s6.2)))]] (j_z52_0_K k) = j_z52_0_B4 n k (s0, s1, s2, s3, s4, s5, s6) := by kernel_rfl
def code_j_z52_0_5 : Code := (findLabel code_j_z52_0 5).getD .skip
theorem code_j_z52_0_5_find : findLabel code_j_z52_0 5 = some code_j_z52_0_5 := by kernel_rfl
theorem j_z52_0_eq5 (n : Nat) (k : (((List T) × Int × ByteArray × Int × (Nat × Nat)) ⊕ ((ByteArray × (List T) × Int × Int × ByteArray × Int × (Nat × Nat)) ⊕ ((ByteArray × (List T) × Int × Int × ByteArray × Int × (Nat × Nat)) ⊕ ((ByteArray × (List T) × Int × Int × ByteArray × Int × (Nat × Nat)) ⊕ ((Int × ByteArray × Int × (Nat × Nat)) ⊕ ((ByteArray × (List T) × Int × Int × Int × ByteArray × Int × (Nat × Nat)) ⊕ ByteArray × (List T) × Int × Int × ByteArray × Int × (Nat × Nat))))))) -> Option ((List T) × (Nat × Nat) × Int × Int × ByteArray × Int × (Nat × Nat))) (s0 : Int) (s1 : ByteArray) (s2 : Int) (s3 : Nat × Nat) : mX Tryz.prog (sp_z52 n) 116 code_j_z52_0_5 [(6, (V.ptr 0 0))] [some [(V.t (T.sc (.int .i64 s0))), (V.t (T.sc (.string s1))), (V.t (T.sc (.int .i64 s2))), (V.t (T.sc (.complex .f64 s3.1 s3.2)))]] (j_z52_0_K k) = j_z52_0_B5 n k (s0, s1, s2, s3) := by kernel_rfl
def code_j_z52_0_6 : Code := (findLabel code_j_z52_0 6).getD .skip
theorem code_j_z52_0_6_find : findLabel code_j_z52_0 6 = some code_j_z52_0_6 := by kernel_rfl
theorem j_z52_0_eq6 (n : Nat) (k : (((List T) × Int × ByteArray × Int × (Nat × Nat)) ⊕ ((ByteArray × (List T) × Int × Int × ByteArray × Int × (Nat × Nat)) ⊕ ((ByteArray × (List T) × Int × Int × ByteArray × Int × (Nat × Nat)) ⊕ ((ByteArray × (List T) × Int × Int × ByteArray × Int × (Nat × Nat)) ⊕ ((Int × ByteArray × Int × (Nat × Nat)) ⊕ ((ByteArray × (List T) × Int × Int × Int × ByteArray × Int × (Nat × Nat)) ⊕ ByteArray × (List T) × Int × Int × ByteArray × Int × (Nat × Nat))))))) -> Option ((List T) × (Nat × Nat) × Int × Int × ByteArray × Int × (Nat × Nat))) (s0 : ByteArray) (s1 : List T) (s2 : Int) (s3 : Int) (s4 : Int) (s5 : ByteArray) (s6 : Int) (s7 : Nat × Nat) : mX Tryz.prog (sp_z52 n) 116 code_j_z52_0_6 [(0, (V.t (T.sc (.string s0)))), (5, (V.own 4 s1)), (6, (V.ptr 0 0)), (7, (V.t (T.sc (.int .i64 s2)))), (8, (V.t (T.sc (.int .i64 s3))))] [some [(V.t (T.sc (.int .i64 s4))), (V.t (T.sc (.string s5))), (V.t (T.sc (.int .i64 s6))), (V.t (T.sc (.complex .f64 s7.1 s7.2)))]] (j_z52_0_K k) = j_z52_0_B6 n k (s0, s1, s2, s3, s4, s5, s6, s7) := by kernel_rfl
def code_j_z52_0_0 : Code := (findLabel code_j_z52_0 0).getD .skip
theorem code_j_z52_0_0_find : findLabel code_j_z52_0 0 = some code_j_z52_0_0 := by kernel_rfl
theorem j_z52_0_eq0 (n : Nat) (k : (((List T) × Int × ByteArray × Int × (Nat × Nat)) ⊕ ((ByteArray × (List T) × Int × Int × ByteArray × Int × (Nat × Nat)) ⊕ ((ByteArray × (List T) × Int × Int × ByteArray × Int × (Nat × Nat)) ⊕ ((ByteArray × (List T) × Int × Int × ByteArray × Int × (Nat × Nat)) ⊕ ((Int × ByteArray × Int × (Nat × Nat)) ⊕ ((ByteArray × (List T) × Int × Int × Int × ByteArray × Int × (Nat × Nat)) ⊕ ByteArray × (List T) × Int × Int × ByteArray × Int × (Nat × Nat))))))) -> Option ((List T) × (Nat × Nat) × Int × Int × ByteArray × Int × (Nat × Nat))) (s0 : ByteArray) (s1 : List T) (s2 : Int) (s3 : Int) (s4 : ByteArray) (s5 : Int) (s6 : Nat × Nat) : mX Tryz.prog (sp_z52 n) 116 code_j_z52_0_0 [(0, (V.t (T.sc (.string s0)))), (5, (V.own 4 s1)), (6, (V.ptr 0 0)), (7, (V.t (T.sc (.int .i64 s2))))] [some [(V.t (T.sc (.int .i64 s3))), (V.t (T.sc (.string s4))), (V.t (T.sc (.int .i64 s5))), (V.t (T.sc (.complex .f64 s6.1 s6.2)))]] (j_z52_0_K k) = j_z52_0_B0 n k (s0, s1, s2, s3, s4, s5, s6) := by kernel_rfl
def j_z52_0_Q (x : (List T) × (Nat × Nat) × Int × Int × ByteArray × Int × (Nat × Nat)) (ex : Ex) (e : Env) (s : Sig) : Prop := (fun p0 => (ex = .ret /\ e = SEnv.env 116 [(2, (V.own 4 p0.1)), (3, (V.t (T.sc (.complex .f64 p0.2.1.1 p0.2.1.2)))), (4, (V.t (T.sc (.int .i64 p0.2.2.1))))] /\ s = [some [(V.t (T.sc (.int .i64 p0.2.2.2.1))), (V.t (T.sc (.string p0.2.2.2.2.1))), (V.t (T.sc (.int .i64 p0.2.2.2.2.2.1))), (V.t (T.sc (.complex .f64 p0.2.2.2.2.2.2.1 p0.2.2.2.2.2.2.2)))]])) x
theorem j_z52_0_run (n : Nat) : ∀ (m : Nat), (∀ (s0 : List T) (s1 : Int) (s2 : ByteArray) (s3 : Int) (s4 : Nat × Nat) (x : (List T) × (Nat × Nat) × Int × Int × ByteArray × Int × (Nat × Nat)), j_z52_0 n m (Sum.inl (s0, s1, s2, s3, s4)) = some x -> SemC Tryz.prog 0 code_j_z52_0 code_j_z52_0_1 (SEnv.env 116 [(5, (V.own 4 s0)), (6, (V.ptr 0 0))]) [some [(V.t (T.sc (.int .i64 s1))), (V.t (T.sc (.string s2))), (V.t (T.sc (.int .i64 s3))), (V.t (T.sc (.complex .f64 s4.1 s4.2)))]] (j_z52_0_Q x)) /\ (∀ (s0 : ByteArray) (s1 : List T) (s2 : Int) (s3 : Int) (s4 : ByteArray) (s5 : Int) (s6 : Nat × Nat) (x : (List T) × (Nat × Nat) × Int × Int × ByteArray × Int × (Nat × Nat)), j_z52_0 n m (Sum.inr (Sum.inl (s0, s1, s2, s3, s4, s5, s6))) = some x -> SemC Tryz.prog 0 code_j_z52_0 code_j_z52_0_2 (SEnv.env 116 [(0, (V.t (T.sc (.string s0)))), (5, (V.own 4 s1)), (6, (V.ptr 0 0)), (7, (V.t (T.sc (.int .i64 s2))))]) [some [(V.t (T.sc (.int .i64 s3))), (V.t (T.sc (.string s4))), (V.t (T.sc (.int .i64 s5))), (V.t (T.sc (.complex .f64 s6.1 s6.2)))]] (j_z52_0_Q x)) /\ (∀ (s0 : ByteArray) (s1 : List T) (s2 : Int) (s3 : Int) (s4 : ByteArray) (s5 : Int) (s6 : Nat × Nat) (x : (List T) × (Nat × Nat) × Int × Int × ByteArray × Int × (Nat × Nat)), j_z52_0 n m (Sum.inr (Sum.inr (Sum.inl (s0, s1, s2, s3, s4, s5, s6)))) = some x -> SemC Tryz.prog 0 code_j_z52_0 code_j_z52_0_3 (SEnv.env 116 [(0, (V.t (T.sc (.string s0)))), (5, (V.own 4 s1)), (6, (V.ptr 0 0)), (7, (V.t (T.sc (.int .i64 s2))))]) [some [(V.t (T.sc (.int .i64 s3))), (V.t (T.sc (.string s4))), (V.t (T.sc (.int .i64 s5))), (V.t (T.sc (.complex .f64 s6.1 s6.2)))]] (j_z52_0_Q x)) /\ (∀ (s0 : ByteArray) (s1 : List T) (s2 : Int) (s3 : Int) (s4 : ByteArray) (s5 : Int) (s6 : Nat × Nat) (x : (List T) × (Nat × Nat) × Int × Int × ByteArray × Int × (Nat × Nat)), j_z52_0 n m (Sum.inr (Sum.inr (Sum.inr (Sum.inl (s0, s1, s2, s3, s4, s5, s6))))) = some x -> SemC Tryz.prog 0 code_j_z52_0 code_j_z52_0_4 (SEnv.env 116 [(0, (V.t (T.sc (.string s0)))), (5, (V.own 4 s1)), (6, (V.ptr 0 0)), (7, (V.t (T.sc (.int .i64 s2))))]) [some [(V.t (T.sc (.int .i64 s3))), (V.t (T.sc (.string s4))), (V.t (T.sc (.int .i64 s5))), (V.t (T.sc (.complex .f64 s6.1 s6.2)))]] (j_z52_0_Q x)) /\ (∀ (s0 : Int) (s1 : ByteArray) (s2 : Int) (s3 : Nat × Nat) (x : (List T) × (Nat × Nat) × Int × Int × ByteArray × Int × (Nat × Nat)), j_z52_0 n m (Sum.inr (Sum.inr (Sum.inr (Sum.inr (Sum.inl (s0, s1, s2, s3)))))) = some x -> SemC Tryz.prog 0 code_j_z52_0 code_j_z52_0_5 (SEnv.env 116 [(6, (V.ptr 0 0))]) [some [(V.t (T.sc (.int .i64 s0))), (V.t (T.sc (.string s1))), (V.t (T.sc (.int .i64 s2))), (V.t (T.sc (.complex .f64 s3.1 s3.2)))]] (j_z52_0_Q x)) /\ (∀ (s0 : ByteArray) (s1 : List T) (s2 : Int) (s3 : Int) (s4 : Int) (s5 : ByteArray) (s6 : Int) (s7 : Nat × Nat) (x : (List T) × (Nat × Nat) × Int × Int × ByteArray × Int × (Nat × Nat)), j_z52_0 n m (Sum.inr (Sum.inr (Sum.inr (Sum.inr (Sum.inr (Sum.inl (s0, s1, s2, s3, s4, s5, s6, s7))))))) = some x -> SemC Tryz.prog 0 code_j_z52_0 code_j_z52_0_6 (SEnv.env 116 [(0, (V.t (T.sc (.string s0)))), (5, (V.own 4 s1)), (6, (V.ptr 0 0)), (7, (V.t (T.sc (.int .i64 s2)))), (8, (V.t (T.sc (.int .i64 s3))))]) [some [(V.t (T.sc (.int .i64 s4))), (V.t (T.sc (.string s5))), (V.t (T.sc (.int .i64 s6))), (V.t (T.sc (.complex .f64 s7.1 s7.2)))]] (j_z52_0_Q x)) /\ (∀ (s0 : ByteArray) (s1 : List T) (s2 : Int) (s3 : Int) (s4 : ByteArray) (s5 : Int) (s6 : Nat × Nat) (x : (List T) × (Nat × Nat) × Int × Int × ByteArray × Int × (Nat × Nat)), j_z52_0 n m (Sum.inr (Sum.inr (Sum.inr (Sum.inr (Sum.inr (Sum.inr (s0, s1, s2, s3, s4, s5, s6))))))) = some x -> SemC Tryz.prog 0 code_j_z52_0 code_j_z52_0_0 (SEnv.env 116 [(0, (V.t (T.sc (.string s0)))), (5, (V.own 4 s1)), (6, (V.ptr 0 0)), (7, (V.t (T.sc (.int .i64 s2))))]) [some [(V.t (T.sc (.int .i64 s3))), (V.t (T.sc (.string s4))), (V.t (T.sc (.int .i64 s5))), (V.t (T.sc (.complex .f64 s6.1 s6.2)))]] (j_z52_0_Q x))
 | 0 => ⟨(fun _ _ _ _ _ x h => by cases h), (fun _ _ _ _ _ _ _ x h => by cases h), (fun _ _ _ _ _ _ _ x h => by cases h), (fun _ _ _ _ _ _ _ x h => by cases h), (fun _ _ _ _ x h => by cases h), (fun _ _ _ _ _ _ _ _ x h => by cases h), (fun _ _ _ _ _ _ _ x h => by cases h)⟩
 | m + 1 => by
  have ih := j_z52_0_run n m
  have fin : ∀ (x : (List T) × (Nat × Nat) × Int × Int × ByteArray × Int × (Nat × Nat)) (ex : Ex) (E : SEnv) (sg : Sig), j_z52_0_K (j_z52_0 n m) ex E sg = some x -> (∃ l rest, ex = .goto l /\ findLabel code_j_z52_0 l = some rest /\ SemC Tryz.prog 0 code_j_z52_0 rest (SEnv.env 116 E) sg (j_z52_0_Q x)) \/ ((∀ l, ex = .goto l -> findLabel code_j_z52_0 l = none) /\ ∃ k e1 s1, 0 <= k /\ WkE k (SEnv.env 116 E) e1 /\ WkS k sg s1 /\ j_z52_0_Q x ex e1 s1) := by
   intro x ex E sg h
   unfold j_z52_0_K at h
   split at h
   ·obtain ⟨u0, hu0, u1, hu1, u2, hu2, u3, hu3, h⟩ := ob4 h
    obtain ⟨u4, hu4, u5, hu5, h⟩ := ob2 h
    obtain ⟨u6, hu6, h⟩ := ob h
    exact .inl ⟨1, _, rfl, code_j_z52_0_1_find, SemC.pre (k := 1) (by decide) (WkA.env (WkA.cons (oW hu0) rfl (WkA.cons (pW hu1) rfl WkA.nil)) 116) (wkR_sig (WkR.cons (nW hu2 (.cons (iW hu3) (.cons (sW hu4) (.cons (iW hu5) (.cons (xW hu6) .nil))))).1 (nW hu2 (.cons (iW hu3) (.cons (sW hu4) (.cons (iW hu5) (.cons (xW hu6) .nil))))).2 (renL_mem (.cons rfl (.cons rfl (.cons rfl (.cons rfl .nil))))) (WkR.nil _)) rfl) (ih.1 _ _ _ _ _ x h)⟩
   ·obtain ⟨u0, hu0, u1, hu1, u2, hu2, u3, hu3, h⟩ := ob4 h
    obtain ⟨u4, hu4, u5, hu5, u6, hu6, u7, hu7, h⟩ := ob4 h
    obtain ⟨u8, hu8, h⟩ := ob h
    exact .inl ⟨2, _, rfl, code_j_z52_0_2_find, SemC.pre (k := 1) (by decide) (WkA.env (WkA.cons (sW hu0) rfl (WkA.cons (oW hu1) rfl (WkA.cons (pW hu2) rfl (WkA.cons (iW hu3) rfl WkA.nil)))) 116) (wkR_sig (WkR.cons (nW hu4 (.cons (iW hu5) (.cons (sW hu6) (.cons (iW hu7) (.cons (xW hu8) .nil))))).1 (nW hu4 (.cons (iW hu5) (.cons (sW hu6) (.cons (iW hu7) (.cons (xW hu8) .nil))))).2 (renL_mem (.cons rfl (.cons rfl (.cons rfl (.cons rfl .nil))))) (WkR.nil _)) rfl) (ih.2.1 _ _ _ _ _ _ _ x h)⟩
   ·obtain ⟨u0, hu0, u1, hu1, u2, hu2, u3, hu3, h⟩ := ob4 h
    obtain ⟨u4, hu4, u5, hu5, u6, hu6, u7, hu7, h⟩ := ob4 h
    obtain ⟨u8, hu8, h⟩ := ob h
    exact .inl ⟨3, _, rfl, code_j_z52_0_3_find, SemC.pre (k := 1) (by decide) (WkA.env (WkA.cons (sW hu0) rfl (WkA.cons (oW hu1) rfl (WkA.cons (pW hu2) rfl (WkA.cons (iW hu3) rfl WkA.nil)))) 116) (wkR_sig (WkR.cons (nW hu4 (.cons (iW hu5) (.cons (sW hu6) (.cons (iW hu7) (.cons (xW hu8) .nil))))).1 (nW hu4 (.cons (iW hu5) (.cons (sW hu6) (.cons (iW hu7) (.cons (xW hu8) .nil))))).2 (renL_mem (.cons rfl (.cons rfl (.cons rfl (.cons rfl .nil))))) (WkR.nil _)) rfl) (ih.2.2.1 _ _ _ _ _ _ _ x h)⟩
   ·obtain ⟨u0, hu0, u1, hu1, u2, hu2, u3, hu3, h⟩ := ob4 h
    obtain ⟨u4, hu4, u5, hu5, u6, hu6, u7, hu7, h⟩ := ob4 h
    obtain ⟨u8, hu8, h⟩ := ob h
    exact .inl ⟨4, _, rfl, code_j_z52_0_4_find, SemC.pre (k := 1) (by decide) (WkA.env (WkA.cons (sW hu0) rfl (WkA.cons (oW hu1) rfl (WkA.cons (pW hu2) rfl (WkA.cons (iW hu3) rfl WkA.nil)))) 116) (wkR_sig (WkR.cons (nW hu4 (.cons (iW hu5) (.cons (sW hu6) (.cons (iW hu7) (.cons (xW hu8) .nil))))).1 (nW hu4 (.cons (iW hu5) (.cons (sW hu6) (.cons (iW hu7) (.cons (xW hu8) .nil))))).2 (renL_mem (.cons rfl (.cons rfl (.cons rfl (.cons rfl .nil))))) (WkR.nil _)) rfl) (ih.2.2.2.1 _ _ _ _ _ _ _ x h)⟩
   ·obtain ⟨u0, hu0, u1, hu1, u2, hu2, u3, hu3, h⟩ := ob4 h
    obtain ⟨u4, hu4, u5, hu5, h⟩ := ob2 h
    exact .inl ⟨5, _, rfl, code_j_z52_0_5_find, SemC.pre (k := 1) (by decide) (WkA.env (WkA.cons (pW hu0) rfl WkA.nil) 116) (wkR_sig (WkR.cons (nW hu1 (.cons (iW hu2) (.cons (sW hu3) (.cons (iW hu4) (.cons (xW hu5) .nil))))).1 (nW hu1 (.cons (iW hu2) (.cons (sW hu3) (.cons (iW hu4) (.cons (xW hu5) .nil))))).2 (renL_mem (.cons rfl (.cons rfl (.cons rfl (.cons rfl .nil))))) (WkR.nil _)) rfl) (ih.2.2.2.2.1 _ _ _ _ x h)⟩
   ·obtain ⟨u0, hu0, u1, hu1, u2, hu2, u3, hu3, h⟩ := ob4 h
    obtain ⟨u4, hu4, u5, hu5, u6, hu6, u7, hu7, h⟩ := ob4 h
    obtain ⟨u8, hu8, u9, hu9, h⟩ := ob2 h
    exact .inl ⟨6, _, rfl, code_j_z52_0_6_find, SemC.pre (k := 1) (by decide) (WkA.env (WkA.cons (sW hu0) rfl (WkA.cons (oW hu1) rfl (WkA.cons (pW hu2) rfl (WkA.cons (iW hu3) rfl (WkA.cons (iW hu4) rfl WkA.nil))))) 116) (wkR_sig (WkR.cons (nW hu5 (.cons (iW hu6) (.cons (sW hu7) (.cons (iW hu8) (.cons (xW hu9) .nil))))).1 (nW hu5 (.cons (iW hu6) (.cons (sW hu7) (.cons (iW hu8) (.cons (xW hu9) .nil))))).2 (renL_mem (.cons rfl (.cons rfl (.cons rfl (.cons rfl .nil))))) (WkR.nil _)) rfl) (ih.2.2.2.2.2.1 _ _ _ _ _ _ _ _ x h)⟩
   ·obtain ⟨u0, hu0, u1, hu1, u2, hu2, u3, hu3, h⟩ := ob4 h
    obtain ⟨u4, hu4, u5, hu5, u6, hu6, u7, hu7, h⟩ := ob4 h
    obtain ⟨u8, hu8, h⟩ := ob h
    exact .inl ⟨0, _, rfl, code_j_z52_0_0_find, SemC.pre (k := 1) (by decide) (WkA.env (WkA.cons (sW hu0) rfl (WkA.cons (oW hu1) rfl (WkA.cons (pW hu2) rfl (WkA.cons (iW hu3) rfl WkA.nil)))) 116) (wkR_sig (WkR.cons (nW hu4 (.cons (iW hu5) (.cons (sW hu6) (.cons (iW hu7) (.cons (xW hu8) .nil))))).1 (nW hu4 (.cons (iW hu5) (.cons (sW hu6) (.cons (iW hu7) (.cons (xW hu8) .nil))))).2 (renL_mem (.cons rfl (.cons rfl (.cons rfl (.cons rfl .nil))))) (WkR.nil _)) rfl) (ih.2.2.2.2.2.2 _ _ _ _ _ _ _ x h)⟩
   ·obtain ⟨u0, hu0, u1, hu1, u2, hu2, u3, hu3, h⟩ := ob4 h
    obtain ⟨u4, hu4, u5, hu5, u6, hu6, u7, hu7, h⟩ := ob4 h
    cases h
    exact .inr ⟨fun l hl => (by cases hl), 1, _, _, by decide, WkA.env (WkA.cons (oW hu0) rfl (WkA.cons (xW hu1) rfl (WkA.cons (iW hu2) rfl WkA.nil))) 116, (wkR_sig (WkR.cons (nW hu3 (.cons (iW hu4) (.cons (sW hu5) (.cons (iW hu6) (.cons (xW hu7) .nil))))).1 (nW hu3 (.cons (iW hu4) (.cons (sW hu5) (.cons (iW hu6) (.cons (xW hu7) .nil))))).2 (renL_mem (.cons rfl (.cons rfl (.cons rfl (.cons rfl .nil))))) (WkR.nil _)) rfl), rfl, rfl, rfl⟩
   ·cases h
  refine ⟨?_, ?_, ?_, ?_, ?_, ?_, ?_⟩
  ·intro s0 s1 s2 s3 s4 x h
   exact scope_step (sp_z52_ok n) (code_j_z52_0_ok.find code_j_z52_0_1_find) (nl (by kernel_rfl)) (no_scope (by kernel_rfl)) ((j_z52_0_eq1 n (j_z52_0 n m) s0 s1 s2 s3 s4).trans h) (fun ex E sg h => fin x ex E sg h)
  ·intro s0 s1 s2 s3 s4 s5 s6 x h
   exact scope_step (sp_z52_ok n) (code_j_z52_0_ok.find code_j_z52_0_2_find) (nl (by kernel_rfl)) (no_scope (by kernel_rfl)) ((j_z52_0_eq2 n (j_z52_0 n m) s0 s1 s2 s3 s4 s5 s6).trans h) (fun ex E sg h => fin x ex E sg h)
  ·intro s0 s1 s2 s3 s4 s5 s6 x h
   exact scope_step (sp_z52_ok n) (code_j_z52_0_ok.find code_j_z52_0_3_find) (nl (by kernel_rfl)) (no_scope (by kernel_rfl)) ((j_z52_0_eq3 n (j_z52_0 n m) s0 s1 s2 s3 s4 s5 s6).trans h) (fun ex E sg h => fin x ex E sg h)
  ·intro s0 s1 s2 s3 s4 s5 s6 x h
   exact scope_step (sp_z52_ok n) (code_j_z52_0_ok.find code_j_z52_0_4_find) (nl (by kernel_rfl)) (no_scope (by kernel_rfl)) ((j_z52_0_eq4 n (j_z52_0 n m) s0 s1 s2 s3 s4 s5 s6).trans h) (fun ex E sg h => fin x ex E sg h)
  ·intro s0 s1 s2 s3 x h
   exact scope_step (sp_z52_ok n) (code_j_z52_0_ok.find code_j_z52_0_5_find) (nl (by kernel_rfl)) (no_scope (by kernel_rfl)) ((j_z52_0_eq5 n (j_z52_0 n m) s0 s1 s2 s3).trans h) (fun ex E sg h => fin x ex E sg h)
  ·intro s0 s1 s2 s3 s4 s5 s6 s7 x h
   exact scope_step (sp_z52_ok n) (code_j_z52_0_ok.find code_j_z52_0_6_find) (nl (by kernel_rfl)) (no_scope (by kernel_rfl)) ((j_z52_0_eq6 n (j_z52_0 n m) s0 s1 s2 s3 s4 s5 s6 s7).trans h) (fun ex E sg h => fin x ex E sg h)
  ·intro s0 s1 s2 s3 s4 s5 s6 x h
   exact scope_step (sp_z52_ok n) (code_j_z52_0_ok.find code_j_z52_0_0_find) (nl (by kernel_rfl)) (no_scope (by kernel_rfl)) ((j_z52_0_eq0 n (j_z52_0 n m) s0 s1 s2 s3 s4 s5 s6).trans h) (fun ex E sg h => fin x ex E sg h)
theorem j_z52_0_ok (n : Nat) : JumpOk Tryz.prog (sp_z52 n) 0 116 code_j_z52_0 := by
  intro l rest hf R E sg K r h
  have hl := find_mem hf
  rw [show labelsOf code_j_z52_0 = [0, 2, 3, 4, 6, 5, 1] from by kernel_rfl] at hl
  simp only [List.mem_cons, List.not_mem_nil, or_false] at hl
  rcases hl with rfl | rfl | rfl | rfl | rfl | rfl | rfl
  ·obtain rfl : rest = code_j_z52_0_0 := (Option.some.inj (code_j_z52_0_0_find.symm.trans hf)).symm
   have h : j_z52_0_S0 n R E sg K = some r := h
   unfold j_z52_0_S0 at h
   obtain ⟨u0, hu0, u1, hu1, u2, hu2, u3, hu3, h⟩ := ob4 h
   obtain ⟨u4, hu4, u5, hu5, u6, hu6, u7, hu7, h⟩ := ob4 h
   obtain ⟨u8, hu8, x, hx, h⟩ := ob2 h
   refine (SemC.pre (k := 1) (by decide) (WkA.env (WkA.cons (sW hu0) rfl (WkA.cons (oW hu1) rfl (WkA.cons (pW hu2) rfl (WkA.cons (iW hu3) rfl WkA.nil)))) 116) (wkR_sig (WkR.cons (nW hu4 (.cons (iW hu5) (.cons (sW hu6) (.cons (iW hu7) (.cons (xW hu8) .nil))))).1 (nW hu4 (.cons (iW hu5) (.cons (sW hu6) (.cons (iW hu7) (.cons (xW hu8) .nil))))).2 (renL_mem (.cons rfl (.cons rfl (.cons rfl (.cons rfl .nil))))) (WkR.nil _)) rfl) ((j_z52_0_run n n).2.2.2.2.2.2 _ _ _ _ _ _ _ x hx)).mono ?_
   intro ex e s hq
   obtain ⟨rfl, rfl, rfl⟩ := hq
   exact ⟨_, rfl, h⟩
  ·obtain rfl : rest = code_j_z52_0_2 := (Option.some.inj (code_j_z52_0_2_find.symm.trans hf)).symm
   have h : j_z52_0_S2 n R E sg K = some r := h
   unfold j_z52_0_S2 at h
   obtain ⟨u0, hu0, u1, hu1, u2, hu2, u3, hu3, h⟩ := ob4 h
   obtain ⟨u4, hu4, u5, hu5, u6, hu6, u7, hu7, h⟩ := ob4 h
   obtain ⟨u8, hu8, x, hx, h⟩ := ob2 h
   refine (SemC.pre (k := 1) (by decide) (WkA.env (WkA.cons (sW hu0) rfl (WkA.cons (oW hu1) rfl (WkA.cons (pW hu2) rfl (WkA.cons (iW hu3) rfl WkA.nil)))) 116) (wkR_sig (WkR.cons (nW hu4 (.cons (iW hu5) (.cons (sW hu6) (.cons (iW hu7) (.cons (xW hu8) .nil))))).1 (nW hu4 (.cons (iW hu5) (.cons (sW hu6) (.cons (iW hu7) (.cons (xW hu8) .nil))))).2 (renL_mem (.cons rfl (.cons rfl (.cons rfl (.cons rfl .nil))))) (WkR.nil _)) rfl) ((j_z52_0_run n n).2.1 _ _ _ _ _ _ _ x hx)).mono ?_
   intro ex e s hq
   obtain ⟨rfl, rfl, rfl⟩ := hq
   exact ⟨_, rfl, h⟩
  ·obtain rfl : rest = code_j_z52_0_3 := (Option.some.inj (code_j_z52_0_3_find.symm.trans hf)).symm
   have h : j_z52_0_S3 n R E sg K = some r := h
   unfold j_z52_0_S3 at h
   obtain ⟨u0, hu0, u1, hu1, u2, hu2, u3, hu3, h⟩ := ob4 h
   obtain ⟨u4, hu4, u5, hu5, u6, hu6, u7, hu7, h⟩ := ob4 h
   obtain ⟨u8, hu8, x, hx, h⟩ := ob2 h
   refine (SemC.pre (k := 1) (by decide) (WkA.env (WkA.cons (sW hu0) rfl (WkA.cons (oW hu1) rfl (WkA.cons (pW hu2) rfl (WkA.cons (iW hu3) rfl WkA.nil)))) 116) (wkR_sig (WkR.cons (nW hu4 (.cons (iW hu5) (.cons (sW hu6) (.cons (iW hu7) (.cons (xW hu8) .nil))))).1 (nW hu4 (.cons (iW hu5) (.cons (sW hu6) (.cons (iW hu7) (.cons (xW hu8) .nil))))).2 (renL_mem (.cons rfl (.cons rfl (.cons rfl (.cons rfl .nil))))) (WkR.nil _)) rfl) ((j_z52_0_run n n).2.2.1 _ _ _ _ _ _ _ x hx)).mono ?_
   intro ex e s hq
   obtain ⟨rfl, rfl, rfl⟩ := hq
   exact ⟨_, rfl, h⟩
  ·obtain rfl : rest = code_j_z52_0_4 := (Option.some.inj (code_j_z52_0_4_find.symm.trans hf)).symm
   have h : j_z52_0_S4 n R E sg K = some r := h
   unfold j_z52_0_S4 at h
   obtain ⟨u0, hu0, u1, hu1, u2, hu2, u3, hu3, h⟩ := ob4 h
   obtain ⟨u4, hu4, u5, hu5, u6, hu6, u7, hu7, h⟩ := ob4 h
   obtain ⟨u8, hu8, x, hx, h⟩ := ob2 h
   refine (SemC.pre (k := 1) (by decide) (WkA.env (WkA.cons (sW hu0) rfl (WkA.cons (oW hu1) rfl (WkA.cons (pW hu2) rfl (WkA.cons (iW hu3) rfl WkA.nil)))) 116) (wkR_sig (WkR.cons (nW hu4 (.cons (iW hu5) (.cons (sW hu6) (.cons (iW hu7) (.cons (xW hu8) .nil))))).1 (nW hu4 (.cons (iW hu5) (.cons (sW hu6) (.cons (iW hu7) (.cons (xW hu8) .nil))))).2 (renL_mem (.cons rfl (.cons rfl (.cons rfl (.cons rfl .nil))))) (WkR.nil _)) rfl) ((j_z52_0_run n n).2.2.2.1 _ _ _ _ _ _ _ x hx)).mono ?_
   intro ex e s hq
   obtain ⟨rfl, rfl, rfl⟩ := hq
   exact ⟨_, rfl, h⟩
  ·obtain rfl : rest = code_j_z52_0_6 := (Option.some.inj (code_j_z52_0_6_find.symm.trans hf)).symm
   have h : j_z52_0_S6 n R E sg K = some r := h
   unfold j_z52_0_S6 at h
   obtain ⟨u0, hu0, u1, hu1, u2, hu2, u3, hu3, h⟩ := ob4 h
   obtain ⟨u4, hu4, u5, hu5, u6, hu6, u7, hu7, h⟩ := ob4 h
   obtain ⟨u8, hu8, u9, hu9, h⟩ := ob2 h
   obtain ⟨x, hx, h⟩ := ob h
   refine (SemC.pre (k := 1) (by decide) (WkA.env (WkA.cons (sW hu0) rfl (WkA.cons (oW hu1) rfl (WkA.cons (pW hu2) rfl (WkA.cons (iW hu3) rfl (WkA.cons (iW hu4) rfl WkA.nil))))) 116) (wkR_sig (WkR.cons (nW hu5 (.cons (iW hu6) (.cons (sW hu7) (.cons (iW hu8) (.cons (xW hu9) .nil))))).1 (nW hu5 (.cons (iW hu6) (.cons (sW hu7) (.cons (iW hu8) (.cons (xW hu9) .nil))))).2 (renL_mem (.cons rfl (.cons rfl (.cons rfl (.cons rfl .nil))))) (WkR.nil _)) rfl) ((j_z52_0_run n n).2.2.2.2.2.1 _ _ _ _ _ _ _ _ x hx)).mono ?_
   intro ex e s hq
   obtain ⟨rfl, rfl, rfl⟩ := hq
   exact ⟨_, rfl, h⟩
  ·obtain rfl : rest = code_j_z52_0_5 := (Option.some.inj (code_j_z52_0_5_find.symm.trans hf)).symm
   have h : j_z52_0_S5 n R E sg K = some r := h
   unfold j_z52_0_S5 at h
   obtain ⟨u0, hu0, u1, hu1, u2, hu2, u3, hu3, h⟩ := ob4 h
   obtain ⟨u4, hu4, u5, hu5, h⟩ := ob2 h
   obtain ⟨x, hx, h⟩ := ob h
   refine (SemC.pre (k := 1) (by decide) (WkA.env (WkA.cons (pW hu0) rfl WkA.nil) 116) (wkR_sig (WkR.cons (nW hu1 (.cons (iW hu2) (.cons (sW hu3) (.cons (iW hu4) (.cons (xW hu5) .nil))))).1 (nW hu1 (.cons (iW hu2) (.cons (sW hu3) (.cons (iW hu4) (.cons (xW hu5) .nil))))).2 (renL_mem (.cons rfl (.cons rfl (.cons rfl (.cons rfl .nil))))) (WkR.nil _)) rfl) ((j_z52_0_run n n).2.2.2.2.1 _ _ _ _ x hx)).mono ?_
   intro ex e s hq
   obtain ⟨rfl, rfl, rfl⟩ := hq
   exact ⟨_, rfl, h⟩
  ·obtain rfl : rest = code_j_z52_0_1 := (Option.some.inj (code_j_z52_0_1_find.symm.trans hf)).symm
   have h : j_z52_0_S1 n R E sg K = some r := h
   unfold j_z52_0_S1 at h
   obtain ⟨u0, hu0, u1, hu1, u2, hu2, u3, hu3, h⟩ := ob4 h
   obtain ⟨u4, hu4, u5, hu5, u6, hu6, x, hx, h⟩ := ob4 h
   refine (SemC.pre (k := 1) (by decide) (WkA.env (WkA.cons (oW hu0) rfl (WkA.cons (pW hu1) rfl WkA.nil)) 116) (wkR_sig (WkR.cons (nW hu2 (.cons (iW hu3) (.cons (sW hu4) (.cons (iW hu5) (.cons (xW hu6) .nil))))).1 (nW hu2 (.cons (iW hu3) (.cons (sW hu4) (.cons (iW hu5) (.cons (xW hu6) .nil))))).2 (renL_mem (.cons rfl (.cons rfl (.cons rfl (.cons rfl .nil))))) (WkR.nil _)) rfl) ((j_z52_0_run n n).1 _ _ _ _ _ x hx)).mono ?_
   intro ex e s hq
   obtain ⟨rfl, rfl, rfl⟩ := hq
   exact ⟨_, rfl, h⟩
def K_z52 (v : V) (s : Sig) : Option ((List T) × (Nat × Nat) × Int) := Option.bind (V.tupN 3 v) fun u0 => Option.bind (V.lstOf (u0.getD 0 .any)) fun u1 => Option.bind (V.cplxOf .f64 (u0.getD 1 .any)) fun u2 => Option.bind (V.intOf .i64 (u0.getD 2 .any)) fun u3 => some (u1, u2, u3)
theorem K_z52_wk {v : V} {s : Sig} {r : (List T) × (Nat × Nat) × Int} (h : K_z52 v s = some r) : Wk v (enc_z52 r) /\ WkS 0 s (encS_z52 r) := by
 unfold K_z52 at h
 obtain ⟨u0, hu0, u1, hu1, u2, hu2, u3, hu3, h⟩ := ob4 h
 cases h
 exact ⟨(tupN_wk hu0 (.cons (lW hu1) (.cons (xW hu2) (.cons (iW hu3) .nil)))), (WkS.none _)⟩
theorem m_z52_eq (n : Nat) (a0 : ByteArray) : mF Tryz.prog (sp_z52 n) 41 [(V.t (T.sc (.string a0)))] [] K_z52 = m_z52 n a0 := by kernel_rfl
theorem m_z52_ok (n : Nat) : ok_z52 (m_z52 n) := fun a0 r h => mF_ok sound (sp_z52_ok n) code_z52_fn code_z52_body (nl (by kernel_rfl)) (forall_getD (d := .skip) 1 (by kernel_rfl) (fun i hi => match i, hi with | 0, _ => j_z52_0_ok n | i + 1, hi => absurd hi (by omega))) ((m_z52_eq n a0).trans h) (fun v s hk => ⟨(K_z52_wk hk).1, rfl, (K_z52_wk hk).2⟩)
def m_z47 (n : Nat) (a0 : ByteArray) : Option (Int) :=
bif (ByteArray.toList a0 == ByteArray.toList (⟨#[118, 97, 114]⟩ : ByteArray)) then (
some 1)
else (
bif (ByteArray.toList a0 == ByteArray.toList (⟨#[119, 105, 100, 101]⟩ : ByteArray)) then (
some 2)
else (
bif (ByteArray.toList a0 == ByteArray.toList (⟨#[97, 116, 111, 109, 105, 99]⟩ : ByteArray)) then (
some 3)
else (
bif (ByteArray.toList a0 == ByteArray.toList (⟨#[108, 111, 99, 97, 108]⟩ : ByteArray)) then (
some 4)
else (
bif (ByteArray.toList a0 == ByteArray.toList (⟨#[109, 117, 116, 101, 120]⟩ : ByteArray)) then (
some 5)
else (
bif (ByteArray.toList a0 == ByteArray.toList (⟨#[99, 104, 97, 110]⟩ : ByteArray)) then (
some 6)
else (
some 0))))))
def enc_z47 (r : Int) : V := (V.t (T.sc (.int .i64 r)))
def encS_z47 (r : Int) : Sig := []
def ok_z47 (m : ByteArray -> Option (Int)) : Prop := ∀ (a0 : ByteArray) (r : Int), m a0 = some r -> FuncOk Tryz.prog 113 [(V.t (T.sc (.string a0)))] [] (enc_z47 r) (encS_z47 r)
def c_z47 (m : ByteArray -> Option (Int)) (vs : List V) (sg : Sig) : Option CallM := bif Nat.beq vs.length 1 && Nat.beq sg.length 0 then Option.bind (V.strOf (vs.getD 0 .any)) fun u0 => some { α := Int, m := m u0, dflt := 0, enc := fun y => ((V.t (T.sc (.int .i64 y))), []) } else none
theorem c_z47_ok (m : ByteArray -> Option (Int)) (hm : ok_z47 m) (vs : List V) (sg : Sig) (cm : CallM) (x : cm.α) (h : c_z47 m vs sg = some cm) (hx : cm.m = some x) : FuncOk Tryz.prog 113 vs sg (cm.enc x).1 (cm.enc x).2 := by
 unfold c_z47 at h
 obtain ⟨hl, hs, h⟩ := callee_sig h
 obtain ⟨u0, hu0, h⟩ := ob h
 cases h
 exact (hm u0 x hx).wk (args_wk hl (.cons (sW hu0) .nil)) (wkSg_of hs .nil)
def code_z47 : Code := Tryz.f113.body.getD .skip
def sp_z47 (n : Nat) : Go.Eng.Spec := ⟨fun f vs sg => (match f with
  | _ => none), fun R key E sg K => (match key with
  | _ => none)⟩
theorem sp_z47_ok (n : Nat) : CallsOk Tryz.prog (sp_z47 n) := by
 intro f vs sg cm x h hx
 have h : (none : Option CallM) = some cm := h
 cases h
theorem code_z47_fn : Tryz.prog.funcs[113]? = some Tryz.f113 := Tryz.func113
theorem code_z47_body : Tryz.f113.body = some code_z47 := by kernel_rfl
def K_z47 (v : V) (s : Sig) : Option (Int) := Option.bind (V.intOf .i64 v) fun u0 => some u0
theorem K_z47_wk {v : V} {s : Sig} {r : Int} (h : K_z47 v s = some r) : Wk v (enc_z47 r) /\ WkS 0 s (encS_z47 r) := by
 unfold K_z47 at h
 obtain ⟨u0, hu0, h⟩ := ob h
 cases h
 exact ⟨(iW hu0), (WkS.none _)⟩
theorem m_z47_eq (n : Nat) (a0 : ByteArray) : mF Tryz.prog (sp_z47 n) 113 [(V.t (T.sc (.string a0)))] [] K_z47 = m_z47 n a0 := by kernel_rfl
theorem m_z47_ok (n : Nat) : ok_z47 (m_z47 n) := fun a0 r h => mF_ok sound (sp_z47_ok n) code_z47_fn code_z47_body (nl (by kernel_rfl)) (no_scope (by kernel_rfl)) ((m_z47_eq n a0).trans h) (fun v s hk => ⟨(K_z47_wk hk).1, rfl, (K_z47_wk hk).2⟩)
def m_z13 (n : Nat) (a0 : List T) (a1 : Int) (a2 : Bool) : Option ((List T) × Int × Bool) :=
some (a0, a1, true)
def enc_z13 (r : (List T) × Int × Bool) : V := (V.tup [])
def encS_z13 (r : (List T) × Int × Bool) : Sig := [some [(V.t (T.list r.1)), (V.t (T.sc (.int .i64 r.2.1))), (V.t (T.sc (.bool r.2.2)))]]
def ok_z13 (m : List T -> Int -> Bool -> Option ((List T) × Int × Bool)) : Prop := ∀ (a0 : List T) (a1 : Int) (a2 : Bool) (r : (List T) × Int × Bool), m a0 a1 a2 = some r -> FuncOk Tryz.prog 79 [(V.ptr 0 0)] [some [(V.t (T.list a0)), (V.t (T.sc (.int .i64 a1))), (V.t (T.sc (.bool a2)))]] (enc_z13 r) (encS_z13 r)
def c_z13 (m : List T -> Int -> Bool -> Option ((List T) × Int × Bool)) (vs : List V) (sg : Sig) : Option CallM := bif Nat.beq vs.length 1 && Nat.beq sg.length 1 then Option.bind (V.ptrOf 0 0 (vs.getD 0 .any)) fun u0 => Option.bind (cellsN 3 sg 0) fun g0 => Option.bind (V.lstOf (g0.getD 0 .any)) fun g1 => Option.bind (V.intOf .i64 (g0.getD 1 .any)) fun g2 => Option.bind (V.boolOf (g0.getD 2 .any)) fun g3 => some { α := (List T) × Int × Bool, m := m g1 g2 g3, dflt := ([], 0, false), enc := fun y => ((V.tup []), [some [(V.t (T.list y.1)), (V.t (T.sc (.int .i64 y.2.1))), (V.t (T.sc (.bool y.2.2)))]]) } else none
theorem c_z13_ok (m : List T -> Int -> Bool -> Option ((List T) × Int × Bool)) (hm : ok_z13 m) (vs : List V) (sg : Sig) (cm : CallM) (x : cm.α) (h : c_z13 m vs sg = some cm) (hx : cm.m = some x) : FuncOk Tryz.prog 79 vs sg (cm.enc x).1 (cm.enc x).2 := by
 unfold c_z13 at h
 obtain ⟨hl, hs, h⟩ := callee_sig h
 obtain ⟨u0, hu0, g0, hg0, g1, hg1, g2, hg2, h⟩ := ob4 h
 obtain ⟨g3, hg3, h⟩ := ob h
 cases h
 exact (hm g1 g2 g3 x hx).wk (args_wk hl (.cons (pW hu0) .nil)) (wkSg_of hs (.cons (nW hg0 (.cons (lW hg1) (.cons (iW hg2) (.cons (bW hg3) .nil)))) .nil))
def code_z13 : Code := Tryz.f79.body.getD .skip
def sp_z13 (n : Nat) : Go.Eng.Spec := ⟨fun f vs sg => (match f with
  | _ => none), fun R key E sg K => (match key with
  | _ => none)⟩
theorem sp_z13_ok (n : Nat) : CallsOk Tryz.prog (sp_z13 n) := by
 intro f vs sg cm x h hx
 have h : (none : Option CallM) = some cm := h
 cases h
theorem code_z13_fn : Tryz.prog.funcs[79]? = some Tryz.f79 := Tryz.func79
theorem code_z13_body : Tryz.f79.body = some code_z13 := by kernel_rfl
def K_z13 (v : V) (s : Sig) : Option ((List T) × Int × Bool) := Option.bind (V.tupN 0 v) fun u0 => Option.bind (cellsN 3 s 0) fun g0 => Option.bind (V.lstOf (g0.getD 0 .any)) fun g1 => Option.bind (V.intOf .i64 (g0.getD 1 .any)) fun g2 => Option.bind (V.boolOf (g0.getD 2 .any)) fun g3 => some (g1, g2, g3)
theorem K_z13_wk {v : V} {s : Sig} {r : (List T) × Int × Bool} (h : K_z13 v s = some r) : Wk v (enc_z13 r) /\ WkS 1 s (encS_z13 r) := by
 unfold K_z13 at h
 obtain ⟨u0, hu0, g0, hg0, g1, hg1, g2, hg2, h⟩ := ob4 h
 obtain ⟨g3, hg3, h⟩ := ob h
 cases h
 exact ⟨(tupN_wk hu0 .nil), (wkR_sig (WkR.cons (nW hg0 (.cons (lW hg1) (.cons (iW hg2) (.cons (bW hg3) .nil)))).1 (nW hg0 (.cons (lW hg1) (.cons (iW hg2) (.cons (bW hg3) .nil)))).2 (renL_mem (.cons rfl (.cons rfl (.cons rfl .nil)))) (WkR.nil _)) rfl)⟩
theorem m_z13_eq (n : Nat) (a0 : List T) (a1 : Int) (a2 : Bool) : mF Tryz.prog (sp_z13 n) 79 [(V.ptr 0 0)] [some [(V.t (T.list a0)), (V.t (T.sc (.int .i64 a1))), (V.t (T.sc (.bool a2)))]] K_z13 = m_z13 n a0 a1 a2 := by kernel_rfl
theorem m_z13_ok (n : Nat) : ok_z13 (m_z13 n) := fun a0 a1 a2 r h => mF_ok sound (sp_z13_ok n) code_z13_fn code_z13_body (nl (by kernel_rfl)) (no_scope (by kernel_rfl)) ((m_z13_eq n a0 a1 a2).trans h) (fun v s hk => ⟨(K_z13_wk hk).1, rfl, (K_z13_wk hk).2⟩)
def l_z6_2_B (n : Nat) (k : (List T) × ByteArray × Int × Int -> Option (((Int) ⊕ Unit))) : (List T) × ByteArray × Int × Int -> Option (((Int) ⊕ Unit)) := fun (s0, s1, s2, s3) =>
bif (decide ((s3 : Int) < s2)) then (
Option.bind (idx true [.str] s0 s3) fun y0 =>
bif (ByteArray.toList s1 == ByteArray.toList (y0.cell 0).str) then (
some (Sum.inl s3))
else (
k (s0, s1, s2, (IntKind.wrap .i64 (s3 + 1)))))
else (
some (Sum.inr ()))
def l_z6_2 (n : Nat) : Nat -> (List T) × ByteArray × Int × Int -> Option (((Int) ⊕ Unit))
 | 0, _ => none
 | m + 1, s => l_z6_2_B n (l_z6_2 n m) s
def m_z6 (n : Nat) (a0 : List T) (a1 : ByteArray) : Option (Int) :=
Option.bind (l_z6_2 n n (a0, a1, ((List.length a0 : Nat) : Int), 0)) fun x1 =>
Sum.elim (fun p2 =>
some p2) (fun x1' => (fun p3 =>
some (-1)) x1') x1
def enc_z6 (r : Int) : V := (V.t (T.sc (.int .i64 r)))
def encS_z6 (r : Int) : Sig := []
def ok_z6 (m : List T -> ByteArray -> Option (Int)) : Prop := ∀ (a0 : List T) (a1 : ByteArray) (r : Int), m a0 a1 = some r -> FuncOk Tryz.prog 184 [(V.t (T.list a0)), (V.t (T.sc (.string a1)))] [] (enc_z6 r) (encS_z6 r)
def c_z6 (m : List T -> ByteArray -> Option (Int)) (vs : List V) (sg : Sig) : Option CallM := bif Nat.beq vs.length 2 && Nat.beq sg.length 0 then Option.bind (V.lstOf (vs.getD 0 .any)) fun u0 => Option.bind (V.strOf (vs.getD 1 .any)) fun u1 => some { α := Int, m := m u0 u1, dflt := 0, enc := fun y => ((V.t (T.sc (.int .i64 y))), []) } else none
theorem c_z6_ok (m : List T -> ByteArray -> Option (Int)) (hm : ok_z6 m) (vs : List V) (sg : Sig) (cm : CallM) (x : cm.α) (h : c_z6 m vs sg = some cm) (hx : cm.m = some x) : FuncOk Tryz.prog 184 vs sg (cm.enc x).1 (cm.enc x).2 := by
 unfold c_z6 at h
 obtain ⟨hl, hs, h⟩ := callee_sig h
 obtain ⟨u0, hu0, u1, hu1, h⟩ := ob2 h
 cases h
 exact (hm u0 u1 x hx).wk (args_wk hl (.cons (lW hu0) (.cons (sW hu1) .nil))) (wkSg_of hs .nil)
def code_z6 : Code := Tryz.f184.body.getD .skip
def l_z6_2_S (n : Nat) (R : Type) (E : SEnv) (sg : Sig) (K : Ex -> SEnv -> Sig -> Option R) : Option R := Option.bind (V.lstOf (SEnv.at E 0)) fun u0 => Option.bind (V.strOf (SEnv.at E 1)) fun u1 => Option.bind (V.intOf .i64 (SEnv.at E 7)) fun u2 => Option.bind (V.intOf .i64 (SEnv.at E 8)) fun u3 => Option.bind (l_z6_2 n n (u0, u1, u2, u3)) fun y => Sum.elim (fun p0 => K .ret [(4, (V.t (T.sc (.int .i64 p0))))] []) (fun y' => (fun p1 => K (.exit 0) [] []) y') y
def sp_z6 (n : Nat) : Go.Eng.Spec := ⟨fun f vs sg => (match f with
  | _ => none), fun R key E sg K => (match key with
  | 2 => l_z6_2_S n R E sg K
  | _ => none)⟩
theorem sp_z6_ok (n : Nat) : CallsOk Tryz.prog (sp_z6 n) := by
 intro f vs sg cm x h hx
 have h : (none : Option CallM) = some cm := h
 cases h
theorem code_z6_fn : Tryz.prog.funcs[184]? = some Tryz.f184 := Tryz.func184
theorem code_z6_body : Tryz.f184.body = some code_z6 := by kernel_rfl
theorem code_z6_ok : CodeOk Tryz.prog code_z6 := (sound 184 _ _ code_z6_fn code_z6_body).1
def code_l_z6_2 : Code := (loopsOf code_z6).getD 0 .skip
theorem code_l_z6_2_ok : CodeOk Tryz.prog code_l_z6_2 := codeOk_loops code_z6_ok _ (getD_mem (by kernel_rfl))
def l_z6_2_K (k : (List T) × ByteArray × Int × Int -> Option (((Int) ⊕ Unit))) : Ex -> SEnv -> Sig -> Option (((Int) ⊕ Unit)) := fun x E sg => match x with
 | .normal => Option.bind (V.lstOf (SEnv.at E 0)) fun u0 => Option.bind (V.strOf (SEnv.at E 1)) fun u1 => Option.bind (V.intOf .i64 (SEnv.at E 7)) fun u2 => Option.bind (V.intOf .i64 (SEnv.at E 8)) fun u3 => k (u0, u1, u2, u3)
 | .ret => Option.bind (V.intOf .i64 (SEnv.at E 4)) fun u0 => some (Sum.inl u0)
 | (.exit 0) => some (Sum.inr ())
 | _ => none
theorem l_z6_2_eq (n : Nat) (k : (List T) × ByteArray × Int × Int -> Option (((Int) ⊕ Unit))) (s0 : List T) (s1 : ByteArray) (s2 : Int) (s3 : Int) : mX Tryz.prog (sp_z6 n) 19 code_l_z6_2 [(0, (V.t (T.list s0))), (1, (V.t (T.sc (.string s1)))), (7, (V.t (T.sc (.int .i64 s2)))), (8, (V.t (T.sc (.int .i64 s3))))] [] (l_z6_2_K k) = l_z6_2_B n k (s0, s1, s2, s3) := by kernel_rfl
def l_z6_2_Q (x : ((Int) ⊕ Unit)) (ex : Ex) (e : Env) (s : Sig) : Prop := Sum.elim (fun p0 => (ex = .ret /\ e = SEnv.env 19 [(4, (V.t (T.sc (.int .i64 p0))))] /\ s = [])) (fun x' => (fun p1 => (ex = (.exit 0) /\ e = SEnv.env 19 [] /\ s = [])) x') x
theorem l_z6_2_run (n : Nat) : ∀ (m : Nat) (s0 : List T) (s1 : ByteArray) (s2 : Int) (s3 : Int) (x : ((Int) ⊕ Unit)), l_z6_2 n m (s0, s1, s2, s3) = some x -> SemL Tryz.prog 0 code_l_z6_2 (SEnv.env 19 [(0, (V.t (T.list s0))), (1, (V.t (T.sc (.string s1)))), (7, (V.t (T.sc (.int .i64 s2)))), (8, (V.t (T.sc (.int .i64 s3))))]) [] (l_z6_2_Q x)
 | 0, s0, s1, s2, s3, x, h => by cases h
 | m + 1, s0, s1, s2, s3, x, h => by
  refine loop_step (sp_z6_ok n) code_l_z6_2_ok (nl (by kernel_rfl)) (no_scope (by kernel_rfl)) ((l_z6_2_eq n _ s0 s1 s2 s3).trans h) (fun E sg h => ?_) (fun ex E sg hne h => ?_)
  ·simp only [l_z6_2_K] at h
   obtain ⟨u0, hu0, u1, hu1, u2, hu2, u3, hu3, h⟩ := ob4 h
   exact SemL.pre (k := 0) (by decide) (WkA.env (WkA.cons (lW hu0) rfl (WkA.cons (sW hu1) rfl (WkA.cons (iW hu2) rfl (WkA.cons (iW hu3) rfl WkA.nil)))) 19) (WkS.none _) (l_z6_2_run n m _ _ _ _ x h)
  ·unfold l_z6_2_K at h
   split at h
   ·exact absurd rfl hne
   ·obtain ⟨u0, hu0, h⟩ := ob h
    cases h
    exact ⟨0, _, _, by decide, WkA.env (WkA.cons (iW hu0) rfl WkA.nil) 19, (WkS.none _), rfl, rfl, rfl⟩
   ·cases h
    exact ⟨0, _, _, by decide, WkA.env WkA.nil 19, (WkS.none _), rfl, rfl, rfl⟩
   ·cases h
theorem l_z6_2_ok (n : Nat) : LoopOk Tryz.prog (sp_z6 n) 0 19 code_l_z6_2 := by
  intro R key E sg K r hk h
  rw [show Go.Eng.keyOf code_l_z6_2 = some 2 from by kernel_rfl] at hk
  cases hk
  have h : l_z6_2_S n R E sg K = some r := h
  unfold l_z6_2_S at h
  obtain ⟨u0, hu0, u1, hu1, u2, hu2, u3, hu3, h⟩ := ob4 h
  obtain ⟨x, hx, h⟩ := ob h
  refine (SemL.pre (k := 0) (by decide) (WkA.env (WkA.cons (lW hu0) rfl (WkA.cons (sW hu1) rfl (WkA.cons (iW hu2) rfl (WkA.cons (iW hu3) rfl WkA.nil)))) 19) (WkS.none _) (l_z6_2_run n n _ _ _ _ x hx)).mono ?_
  intro ex e s hq
  rcases x with x | x <;> (obtain ⟨rfl, rfl, rfl⟩ := hq; exact ⟨_, rfl, h⟩)
def K_z6 (v : V) (s : Sig) : Option (Int) := Option.bind (V.intOf .i64 v) fun u0 => some u0
theorem K_z6_wk {v : V} {s : Sig} {r : Int} (h : K_z6 v s = some r) : Wk v (enc_z6 r) /\ WkS 0 s (encS_z6 r) := by
 unfold K_z6 at h
 obtain ⟨u0, hu0, h⟩ := ob h
 cases h
 exact ⟨(iW hu0), (WkS.none _)⟩
theorem m_z6_eq (n : Nat) (a0 : List T) (a1 : ByteArray) : mF Tryz.prog (sp_z6 n) 184 [(V.t (T.list a0)), (V.t (T.sc (.string a1)))] [] K_z6 = m_z6 n a0 a1 := by kernel_rfl
theorem m_z6_ok (n : Nat) : ok_z6 (m_z6 n) := fun a0 a1 r h => mF_ok sound (sp_z6_ok n) code_z6_fn code_z6_body (forall_getD (d := .skip) 1 (by kernel_rfl) (fun i hi => match i, hi with | 0, _ => l_z6_2_ok n | i + 1, hi => absurd hi (by omega))) (no_scope (by kernel_rfl)) ((m_z6_eq n a0 a1).trans h) (fun v s hk => ⟨(K_z6_wk hk).1, rfl, (K_z6_wk hk).2⟩)
def m_z4 (n : Nat) (a0 : List T) (a1 : ByteArray) : Option (Bool) :=
Option.bind (m_z6 n a0 a1) fun r0 =>
some (decide ((r0 : Int) ≥ 0))
def enc_z4 (r : Bool) : V := (V.t (T.sc (.bool r)))
def encS_z4 (r : Bool) : Sig := []
def ok_z4 (m : List T -> ByteArray -> Option (Bool)) : Prop := ∀ (a0 : List T) (a1 : ByteArray) (r : Bool), m a0 a1 = some r -> FuncOk Tryz.prog 179 [(V.t (T.list a0)), (V.t (T.sc (.string a1)))] [] (enc_z4 r) (encS_z4 r)
def c_z4 (m : List T -> ByteArray -> Option (Bool)) (vs : List V) (sg : Sig) : Option CallM := bif Nat.beq vs.length 2 && Nat.beq sg.length 0 then Option.bind (V.lstOf (vs.getD 0 .any)) fun u0 => Option.bind (V.strOf (vs.getD 1 .any)) fun u1 => some { α := Bool, m := m u0 u1, dflt := false, enc := fun y => ((V.t (T.sc (.bool y))), []) } else none
theorem c_z4_ok (m : List T -> ByteArray -> Option (Bool)) (hm : ok_z4 m) (vs : List V) (sg : Sig) (cm : CallM) (x : cm.α) (h : c_z4 m vs sg = some cm) (hx : cm.m = some x) : FuncOk Tryz.prog 179 vs sg (cm.enc x).1 (cm.enc x).2 := by
 unfold c_z4 at h
 obtain ⟨hl, hs, h⟩ := callee_sig h
 obtain ⟨u0, hu0, u1, hu1, h⟩ := ob2 h
 cases h
 exact (hm u0 u1 x hx).wk (args_wk hl (.cons (lW hu0) (.cons (sW hu1) .nil))) (wkSg_of hs .nil)
def code_z4 : Code := Tryz.f179.body.getD .skip
def sp_z4 (n : Nat) : Go.Eng.Spec := ⟨fun f vs sg => (match f with
  | 184 => c_z6 (m_z6 n) vs sg
  | _ => none), fun R key E sg K => (match key with
  | _ => none)⟩
theorem sp_z4_ok (n : Nat) : CallsOk Tryz.prog (sp_z4 n) := by
 intro f vs sg cm x h hx
 simp only [sp_z4] at h
 split at h
 ·exact c_z6_ok _ (m_z6_ok n) vs sg cm x h hx
 ·cases h
theorem code_z4_fn : Tryz.prog.funcs[179]? = some Tryz.f179 := Tryz.func179
theorem code_z4_body : Tryz.f179.body = some code_z4 := by kernel_rfl
def K_z4 (v : V) (s : Sig) : Option (Bool) := Option.bind (V.boolOf v) fun u0 => some u0
theorem K_z4_wk {v : V} {s : Sig} {r : Bool} (h : K_z4 v s = some r) : Wk v (enc_z4 r) /\ WkS 0 s (encS_z4 r) := by
 unfold K_z4 at h
 obtain ⟨u0, hu0, h⟩ := ob h
 cases h
 exact ⟨(bW hu0), (WkS.none _)⟩
theorem m_z4_eq (n : Nat) (a0 : List T) (a1 : ByteArray) : mF Tryz.prog (sp_z4 n) 179 [(V.t (T.list a0)), (V.t (T.sc (.string a1)))] [] K_z4 = m_z4 n a0 a1 := by kernel_rfl
theorem m_z4_ok (n : Nat) : ok_z4 (m_z4 n) := fun a0 a1 r h => mF_ok sound (sp_z4_ok n) code_z4_fn code_z4_body (nl (by kernel_rfl)) (no_scope (by kernel_rfl)) ((m_z4_eq n a0 a1).trans h) (fun v s hk => ⟨(K_z4_wk hk).1, rfl, (K_z4_wk hk).2⟩)
end
end Go.Proofs.YtbcgpjlkkcdmmaaGreatDoor.W
