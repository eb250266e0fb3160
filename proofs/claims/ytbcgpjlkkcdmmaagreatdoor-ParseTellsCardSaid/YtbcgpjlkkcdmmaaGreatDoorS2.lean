/- What the engine's walk comes to, printed by a program of this work: for each function its model, and that it is one. No conditions. -/
import Derived.Test.YtbcgpjlkkcdmmaaGreatDoorS1
namespace Go.Proofs.YtbcgpjlkkcdmmaaGreatDoor.W
open Go Go.Eng
set_option linter.unusedVariables false
set_option linter.unusedSimpArgs false
set_option maxRecDepth 100000
def j_z86_0_B1 (n:Nat) (k:(((List T) × Int × ByteArray × Int × (Nat × Nat)) ⊕ ((ByteArray × (List T) × Int × Int × ByteArray × Int × (Nat × Nat)) ⊕ ((ByteArray × (List T) × Int × Int × ByteArray × Int × (Nat × Nat)) ⊕ ((ByteArray × (List T) × Int × Int × ByteArray × Int × (Nat × Nat)) ⊕ ((Int × ByteArray × Int × (Nat × Nat)) ⊕ ((ByteArray × (List T) × Int × Int × Int × ByteArray × Int × (Nat × Nat)) ⊕ ByteArray × (List T) × Int × Int × ByteArray × Int × (Nat × Nat))))))) -> Option ((List T) × (Nat × Nat) × Int × Int × ByteArray × Int × (Nat × Nat))):(List T) × Int × ByteArray × Int × (Nat × Nat) -> Option ((List T) × (Nat × Nat) × Int × Int × ByteArray × Int × (Nat × Nat)) := fun (s0,s1,s2,s3,s4) =>
must true ((Nat.beq 4 4 || Nat.beq 4 0)&&(decide (List.length s0 + List.length [(T.agg [(T.sc (.int .i64 4)),(T.sc (.string s2)),(T.sc (.int .i64 s3)),(T.sc (.complex .f64 s4.1 s4.2))])] <= 1073741824)&&sized 4 [(T.agg [(T.sc (.int .i64 4)),(T.sc (.string s2)),(T.sc (.int .i64 s3)),(T.sc (.complex .f64 s4.1 s4.2))])])) (Option.bind (m_z1 n (s0++[(T.agg [(T.sc (.int .i64 4)),(T.sc (.string s2)),(T.sc (.int .i64 s3)),(T.sc (.complex .f64 s4.1 s4.2))])])) fun r3 =>
some (r3,(0,0),0,4,s2,s3,s4))
def j_z86_0_B2 (n:Nat) (k:(((List T) × Int × ByteArray × Int × (Nat × Nat)) ⊕ ((ByteArray × (List T) × Int × Int × ByteArray × Int × (Nat × Nat)) ⊕ ((ByteArray × (List T) × Int × Int × ByteArray × Int × (Nat × Nat)) ⊕ ((ByteArray × (List T) × Int × Int × ByteArray × Int × (Nat × Nat)) ⊕ ((Int × ByteArray × Int × (Nat × Nat)) ⊕ ((ByteArray × (List T) × Int × Int × Int × ByteArray × Int × (Nat × Nat)) ⊕ ByteArray × (List T) × Int × Int × ByteArray × Int × (Nat × Nat))))))) -> Option ((List T) × (Nat × Nat) × Int × Int × ByteArray × Int × (Nat × Nat))):ByteArray × (List T) × Int × Int × ByteArray × Int × (Nat × Nat) -> Option ((List T) × (Nat × Nat) × Int × Int × ByteArray × Int × (Nat × Nat)) := fun (s0,s1,s2,s3,s4,s5,s6) =>
must true (decide (0 <= s2)&&decide (s2 <= ((ByteArray.size s0:Nat):Int))&&decide (((ByteArray.size s0:Nat):Int) <= ((ByteArray.size s0:Nat):Int))) (Option.bind (m_z88 n (ByteArray.extract s0 (Int.toNat s2) (Int.toNat ((ByteArray.size s0:Nat):Int)))) fun r4 =>
k (Sum.inr (Sum.inr (Sum.inr (Sum.inr (Sum.inr (Sum.inr (s0,s1,(IntKind.wrap .i64 (s2 + r4)),s3,s4,s5,s6))))))))
def j_z86_0_B3 (n:Nat) (k:(((List T) × Int × ByteArray × Int × (Nat × Nat)) ⊕ ((ByteArray × (List T) × Int × Int × ByteArray × Int × (Nat × Nat)) ⊕ ((ByteArray × (List T) × Int × Int × ByteArray × Int × (Nat × Nat)) ⊕ ((ByteArray × (List T) × Int × Int × ByteArray × Int × (Nat × Nat)) ⊕ ((Int × ByteArray × Int × (Nat × Nat)) ⊕ ((ByteArray × (List T) × Int × Int × Int × ByteArray × Int × (Nat × Nat)) ⊕ ByteArray × (List T) × Int × Int × ByteArray × Int × (Nat × Nat))))))) -> Option ((List T) × (Nat × Nat) × Int × Int × ByteArray × Int × (Nat × Nat))):ByteArray × (List T) × Int × Int × ByteArray × Int × (Nat × Nat) -> Option ((List T) × (Nat × Nat) × Int × Int × ByteArray × Int × (Nat × Nat)) := fun (s0,s1,s2,s3,s4,s5,s6) =>
must true (decide (0 <= s2)&&decide (s2 <= ((ByteArray.size s0:Nat):Int))&&decide (((ByteArray.size s0:Nat):Int) <= ((ByteArray.size s0:Nat):Int))) (Option.bind (m_z95 n (ByteArray.extract s0 (Int.toNat s2) (Int.toNat ((ByteArray.size s0:Nat):Int)))) fun r5 =>
k (Sum.inr (Sum.inr (Sum.inr (Sum.inr (Sum.inr (Sum.inl (s0,s1,s2,r5,1,s4,s5,s6))))))))
def j_z86_0_B4 (n:Nat) (k:(((List T) × Int × ByteArray × Int × (Nat × Nat)) ⊕ ((ByteArray × (List T) × Int × Int × ByteArray × Int × (Nat × Nat)) ⊕ ((ByteArray × (List T) × Int × Int × ByteArray × Int × (Nat × Nat)) ⊕ ((ByteArray × (List T) × Int × Int × ByteArray × Int × (Nat × Nat)) ⊕ ((Int × ByteArray × Int × (Nat × Nat)) ⊕ ((ByteArray × (List T) × Int × Int × Int × ByteArray × Int × (Nat × Nat)) ⊕ ByteArray × (List T) × Int × Int × ByteArray × Int × (Nat × Nat))))))) -> Option ((List T) × (Nat × Nat) × Int × Int × ByteArray × Int × (Nat × Nat))):ByteArray × (List T) × Int × Int × ByteArray × Int × (Nat × Nat) -> Option ((List T) × (Nat × Nat) × Int × Int × ByteArray × Int × (Nat × Nat)) := fun (s0,s1,s2,s3,s4,s5,s6) =>
must true (decide (0 <= s2)&&decide (s2 <= ((ByteArray.size s0:Nat):Int))&&decide (((ByteArray.size s0:Nat):Int) <= ((ByteArray.size s0:Nat):Int))) (Option.bind (m_z90 n (ByteArray.extract s0 (Int.toNat s2) (Int.toNat ((ByteArray.size s0:Nat):Int)))) fun r6 =>
must true (decide (0 <= s2)&&decide (s2 <= (IntKind.wrap .i64 (s2 + r6)))&&decide ((IntKind.wrap .i64 (s2 + r6)) <= ((ByteArray.size s0:Nat):Int))) (Option.bind (m_z82 n (ByteArray.extract s0 (Int.toNat s2) (Int.toNat (IntKind.wrap .i64 (s2 + r6))))) fun r7 =>
Option.bind (m_z83 n r7) fun r8 =>
must true (decide (0 <= s2)&&decide (s2 <= (IntKind.wrap .i64 (s2 + r6)))&&decide ((IntKind.wrap .i64 (s2 + r6)) <= ((ByteArray.size s0:Nat):Int))) (bif (!(ByteArray.toList r8 == ByteArray.toList (ByteArray.extract s0 (Int.toNat s2) (Int.toNat (IntKind.wrap .i64 (s2 + r6)))))) then (
k (Sum.inr (Sum.inr (Sum.inr (Sum.inr (Sum.inl (2,s4,r7,s6)))))))
else (
bif ((r6:Int) == 0) then (
k (Sum.inr (Sum.inr (Sum.inr (Sum.inr (Sum.inl (2,s4,r7,s6)))))))
else (
must true (decide (0 <= s2)&&decide (s2 <= (IntKind.wrap .i64 (s2 + r6)))&&decide ((IntKind.wrap .i64 (s2 + r6)) <= ((ByteArray.size s0:Nat):Int))) (must true ((Nat.beq 4 4 || Nat.beq 4 0)&&(decide (List.length s1 + List.length [(T.agg [(T.sc (.int .i64 2)),(T.sc (.string (ByteArray.extract s0 (Int.toNat s2) (Int.toNat (IntKind.wrap .i64 (s2 + r6)))))),(T.sc (.int .i64 r7)),(T.sc (.complex .f64 s6.1 s6.2))])] <= 1073741824)&&sized 4 [(T.agg [(T.sc (.int .i64 2)),(T.sc (.string (ByteArray.extract s0 (Int.toNat s2) (Int.toNat (IntKind.wrap .i64 (s2 + r6)))))),(T.sc (.int .i64 r7)),(T.sc (.complex .f64 s6.1 s6.2))])])) (k (Sum.inr (Sum.inr (Sum.inr (Sum.inr (Sum.inr (Sum.inr (s0,(s1++[(T.agg [(T.sc (.int .i64 2)),(T.sc (.string (ByteArray.extract s0 (Int.toNat s2) (Int.toNat (IntKind.wrap .i64 (s2 + r6)))))),(T.sc (.int .i64 r7)),(T.sc (.complex .f64 s6.1 s6.2))])]),(IntKind.wrap .i64 (s2 + r6)),2,(ByteArray.extract s0 (Int.toNat s2) (Int.toNat (IntKind.wrap .i64 (s2 + r6)))),r7,s6))))))))))))))
def j_z86_0_B5 (n:Nat) (k:(((List T) × Int × ByteArray × Int × (Nat × Nat)) ⊕ ((ByteArray × (List T) × Int × Int × ByteArray × Int × (Nat × Nat)) ⊕ ((ByteArray × (List T) × Int × Int × ByteArray × Int × (Nat × Nat)) ⊕ ((ByteArray × (List T) × Int × Int × ByteArray × Int × (Nat × Nat)) ⊕ ((Int × ByteArray × Int × (Nat × Nat)) ⊕ ((ByteArray × (List T) × Int × Int × Int × ByteArray × Int × (Nat × Nat)) ⊕ ByteArray × (List T) × Int × Int × ByteArray × Int × (Nat × Nat))))))) -> Option ((List T) × (Nat × Nat) × Int × Int × ByteArray × Int × (Nat × Nat))):Int × ByteArray × Int × (Nat × Nat) -> Option ((List T) × (Nat × Nat) × Int × Int × ByteArray × Int × (Nat × Nat)) := fun (s0,s1,s2,s3) =>
some (([]:List T),s3,2,s0,s1,s2,s3)
def j_z86_0_B6 (n:Nat) (k:(((List T) × Int × ByteArray × Int × (Nat × Nat)) ⊕ ((ByteArray × (List T) × Int × Int × ByteArray × Int × (Nat × Nat)) ⊕ ((ByteArray × (List T) × Int × Int × ByteArray × Int × (Nat × Nat)) ⊕ ((ByteArray × (List T) × Int × Int × ByteArray × Int × (Nat × Nat)) ⊕ ((Int × ByteArray × Int × (Nat × Nat)) ⊕ ((ByteArray × (List T) × Int × Int × Int × ByteArray × Int × (Nat × Nat)) ⊕ ByteArray × (List T) × Int × Int × ByteArray × Int × (Nat × Nat))))))) -> Option ((List T) × (Nat × Nat) × Int × Int × ByteArray × Int × (Nat × Nat))):ByteArray × (List T) × Int × Int × Int × ByteArray × Int × (Nat × Nat) -> Option ((List T) × (Nat × Nat) × Int × Int × ByteArray × Int × (Nat × Nat)) := fun (s0,s1,s2,s3,s4,s5,s6,s7) =>
bif ((s3:Int) == 0) then (
k (Sum.inr (Sum.inr (Sum.inr (Sum.inr (Sum.inl (s4,s5,s6,s7)))))))
else (
must true (decide (0 <= s2)&&decide (s2 <= (IntKind.wrap .i64 (s2 + s3)))&&decide ((IntKind.wrap .i64 (s2 + s3)) <= ((ByteArray.size s0:Nat):Int))) (must true ((Nat.beq 4 4 || Nat.beq 4 0)&&(decide (List.length s1 + List.length [(T.agg [(T.sc (.int .i64 s4)),(T.sc (.string (ByteArray.extract s0 (Int.toNat s2) (Int.toNat (IntKind.wrap .i64 (s2 + s3)))))),(T.sc (.int .i64 s6)),(T.sc (.complex .f64 s7.1 s7.2))])] <= 1073741824)&&sized 4 [(T.agg [(T.sc (.int .i64 s4)),(T.sc (.string (ByteArray.extract s0 (Int.toNat s2) (Int.toNat (IntKind.wrap .i64 (s2 + s3)))))),(T.sc (.int .i64 s6)),(T.sc (.complex .f64 s7.1 s7.2))])])) (k (Sum.inr (Sum.inr (Sum.inr (Sum.inr (Sum.inr (Sum.inr (s0,(s1++[(T.agg [(T.sc (.int .i64 s4)),(T.sc (.string (ByteArray.extract s0 (Int.toNat s2) (Int.toNat (IntKind.wrap .i64 (s2 + s3)))))),(T.sc (.int .i64 s6)),(T.sc (.complex .f64 s7.1 s7.2))])]),(IntKind.wrap .i64 (s2 + s3)),s4,(ByteArray.extract s0 (Int.toNat s2) (Int.toNat (IntKind.wrap .i64 (s2 + s3)))),s6,s7))))))))))
def j_z86_0_B0 (n:Nat) (k:(((List T) × Int × ByteArray × Int × (Nat × Nat)) ⊕ ((ByteArray × (List T) × Int × Int × ByteArray × Int × (Nat × Nat)) ⊕ ((ByteArray × (List T) × Int × Int × ByteArray × Int × (Nat × Nat)) ⊕ ((ByteArray × (List T) × Int × Int × ByteArray × Int × (Nat × Nat)) ⊕ ((Int × ByteArray × Int × (Nat × Nat)) ⊕ ((ByteArray × (List T) × Int × Int × Int × ByteArray × Int × (Nat × Nat)) ⊕ ByteArray × (List T) × Int × Int × ByteArray × Int × (Nat × Nat))))))) -> Option ((List T) × (Nat × Nat) × Int × Int × ByteArray × Int × (Nat × Nat))):ByteArray × (List T) × Int × Int × ByteArray × Int × (Nat × Nat) -> Option ((List T) × (Nat × Nat) × Int × Int × ByteArray × Int × (Nat × Nat)) := fun (s0,s1,s2,s3,s4,s5,s6) =>
must true (decide (0 <= s2)&&decide (s2 <= ((ByteArray.size s0:Nat):Int))&&decide (((ByteArray.size s0:Nat):Int) <= ((ByteArray.size s0:Nat):Int))) (Option.bind (m_z97 n (ByteArray.extract s0 (Int.toNat s2) (Int.toNat ((ByteArray.size s0:Nat):Int)))) fun r9 =>
Option.bind (m_z96 n s0 (IntKind.wrap .i64 (s2 + r9))) fun r10 =>
bif (((IntKind.wrap .i64 (s2 + r9)):Int) == ((ByteArray.size s0:Nat):Int)) then (
k (Sum.inl (s1,0,(⟨#[]⟩:ByteArray),0,r10)))
else (
Option.bind (bidx true s0 (IntKind.wrap .i64 (s2 + r9))) fun b11 =>
bif ((((UInt8.toNat b11:Nat):Int):Int) == 35) then (
k (Sum.inr (Sum.inl (s0,s1,(IntKind.wrap .i64 (s2 + r9)),0,(⟨#[]⟩:ByteArray),0,r10))))
else (
Option.bind (bidx true s0 (IntKind.wrap .i64 (s2 + r9))) fun b12 =>
Option.bind (m_z87 n ((UInt8.toNat b12:Nat):Int)) fun r13 =>
bif r13 then (
k (Sum.inr (Sum.inr (Sum.inl (s0,s1,(IntKind.wrap .i64 (s2 + r9)),0,(⟨#[]⟩:ByteArray),0,r10)))))
else (
Option.bind (bidx true s0 (IntKind.wrap .i64 (s2 + r9))) fun b14 =>
Option.bind (m_z94 n ((UInt8.toNat b14:Nat):Int)) fun r15 =>
bif r15 then (
k (Sum.inr (Sum.inr (Sum.inr (Sum.inl (s0,s1,(IntKind.wrap .i64 (s2 + r9)),0,(⟨#[]⟩:ByteArray),0,r10))))))
else (
must true (decide (0 <= (IntKind.wrap .i64 (s2 + r9)))&&decide ((IntKind.wrap .i64 (s2 + r9)) <= ((ByteArray.size s0:Nat):Int))&&decide (((ByteArray.size s0:Nat):Int) <= ((ByteArray.size s0:Nat):Int))) (Option.bind (m_z37 n (ByteArray.extract s0 (Int.toNat (IntKind.wrap .i64 (s2 + r9))) (Int.toNat ((ByteArray.size s0:Nat):Int))) (⟨#[61,61]⟩:ByteArray)) fun r16 =>
bif r16 then (
Option.bind (bidx true s0 (IntKind.wrap .i64 (s2 + r9))) fun b17 =>
Option.bind (m_z38 n (⟨#[61,60,43,45,42,47,37,40,41,123,125]⟩:ByteArray) ((UInt8.toNat b17:Nat):Int)) fun r18 =>
bif (decide ((r18:Int) < 0)) then (
k (Sum.inr (Sum.inr (Sum.inr (Sum.inr (Sum.inl (0,(⟨#[]⟩:ByteArray),0,r10)))))))
else (
k (Sum.inr (Sum.inr (Sum.inr (Sum.inr (Sum.inr (Sum.inl (s0,s1,(IntKind.wrap .i64 (s2 + r9)),2,3,(⟨#[]⟩:ByteArray),0,r10)))))))))
else (
Option.bind (bidx true s0 (IntKind.wrap .i64 (s2 + r9))) fun b19 =>
Option.bind (m_z38 n (⟨#[61,60,43,45,42,47,37,40,41,123,125]⟩:ByteArray) ((UInt8.toNat b19:Nat):Int)) fun r20 =>
bif (decide ((r20:Int) < 0)) then (
k (Sum.inr (Sum.inr (Sum.inr (Sum.inr (Sum.inl (0,(⟨#[]⟩:ByteArray),0,r10)))))))
else (
k (Sum.inr (Sum.inr (Sum.inr (Sum.inr (Sum.inr (Sum.inl (s0,s1,(IntKind.wrap .i64 (s2 + r9)),1,3,(⟨#[]⟩:ByteArray),0,r10)))))))))))))))
def j_z86_0 (n:Nat):Nat -> (((List T) × Int × ByteArray × Int × (Nat × Nat)) ⊕ ((ByteArray × (List T) × Int × Int × ByteArray × Int × (Nat × Nat)) ⊕ ((ByteArray × (List T) × Int × Int × ByteArray × Int × (Nat × Nat)) ⊕ ((ByteArray × (List T) × Int × Int × ByteArray × Int × (Nat × Nat)) ⊕ ((Int × ByteArray × Int × (Nat × Nat)) ⊕ ((ByteArray × (List T) × Int × Int × Int × ByteArray × Int × (Nat × Nat)) ⊕ ByteArray × (List T) × Int × Int × ByteArray × Int × (Nat × Nat))))))) -> Option ((List T) × (Nat × Nat) × Int × Int × ByteArray × Int × (Nat × Nat))
 | 0,_=>none
 | m + 1,s=>Sum.elim (fun p1=>j_z86_0_B1 n (j_z86_0 n m) p1) (fun s'=>Sum.elim (fun p2=>j_z86_0_B2 n (j_z86_0 n m) p2) (fun s''=>Sum.elim (fun p3=>j_z86_0_B3 n (j_z86_0 n m) p3) (fun s'''=>Sum.elim (fun p4=>j_z86_0_B4 n (j_z86_0 n m) p4) (fun s''''=>Sum.elim (fun p5=>j_z86_0_B5 n (j_z86_0 n m) p5) (fun s'''''=>Sum.elim (fun p6=>j_z86_0_B6 n (j_z86_0 n m) p6) (fun s''''''=>(fun p0=>j_z86_0_B0 n (j_z86_0 n m) p0) s'''''') s''''') s'''') s''') s'') s') s
def m_z86 (n:Nat) (a0:ByteArray):Option ((List T) × (Nat × Nat) × Int) :=
bif (decide ((((ByteArray.size a0:Nat):Int):Int) > 6000)) then (
Option.bind (m_z96 n a0 6000) fun r0 =>
some (([]:List T),r0,2))
else (
must true (decide (0 <= 0)&&decide (0 <= ((ByteArray.size a0:Nat):Int))&&decide (((ByteArray.size a0:Nat):Int) <= ((ByteArray.size a0:Nat):Int))) (Option.bind (m_z97 n (ByteArray.extract a0 (Int.toNat 0) (Int.toNat ((ByteArray.size a0:Nat):Int)))) fun r1 =>
Option.bind (m_z96 n a0 (IntKind.wrap .i64 (0 + r1))) fun r2 =>
bif (((IntKind.wrap .i64 (0 + r1)):Int) == ((ByteArray.size a0:Nat):Int)) then (
Option.bind (j_z86_0 n n (Sum.inl (([]:List T),0,(⟨#[]⟩:ByteArray),0,r2))) fun p22 =>
some (p22.1,p22.2.1,p22.2.2.1))
else (
Option.bind (bidx true a0 (IntKind.wrap .i64 (0 + r1))) fun b23 =>
bif ((((UInt8.toNat b23:Nat):Int):Int) == 35) then (
Option.bind (j_z86_0 n n (Sum.inr (Sum.inl (a0,([]:List T),(IntKind.wrap .i64 (0 + r1)),0,(⟨#[]⟩:ByteArray),0,r2)))) fun p25 =>
some (p25.1,p25.2.1,p25.2.2.1))
else (
Option.bind (bidx true a0 (IntKind.wrap .i64 (0 + r1))) fun b26 =>
Option.bind (m_z87 n ((UInt8.toNat b26:Nat):Int)) fun r27 =>
bif r27 then (
Option.bind (j_z86_0 n n (Sum.inr (Sum.inr (Sum.inl (a0,([]:List T),(IntKind.wrap .i64 (0 + r1)),0,(⟨#[]⟩:ByteArray),0,r2))))) fun p29 =>
some (p29.1,p29.2.1,p29.2.2.1))
else (
Option.bind (bidx true a0 (IntKind.wrap .i64 (0 + r1))) fun b30 =>
Option.bind (m_z94 n ((UInt8.toNat b30:Nat):Int)) fun r31 =>
bif r31 then (
Option.bind (j_z86_0 n n (Sum.inr (Sum.inr (Sum.inr (Sum.inl (a0,([]:List T),(IntKind.wrap .i64 (0 + r1)),0,(⟨#[]⟩:ByteArray),0,r2)))))) fun p33 =>
some (p33.1,p33.2.1,p33.2.2.1))
else (
must true (decide (0 <= (IntKind.wrap .i64 (0 + r1)))&&decide ((IntKind.wrap .i64 (0 + r1)) <= ((ByteArray.size a0:Nat):Int))&&decide (((ByteArray.size a0:Nat):Int) <= ((ByteArray.size a0:Nat):Int))) (Option.bind (m_z37 n (ByteArray.extract a0 (Int.toNat (IntKind.wrap .i64 (0 + r1))) (Int.toNat ((ByteArray.size a0:Nat):Int))) (⟨#[61,61]⟩:ByteArray)) fun r34 =>
bif r34 then (
Option.bind (bidx true a0 (IntKind.wrap .i64 (0 + r1))) fun b35 =>
Option.bind (m_z38 n (⟨#[61,60,43,45,42,47,37,40,41,123,125]⟩:ByteArray) ((UInt8.toNat b35:Nat):Int)) fun r36 =>
bif (decide ((r36:Int) < 0)) then (
Option.bind (j_z86_0 n n (Sum.inr (Sum.inr (Sum.inr (Sum.inr (Sum.inl (0,(⟨#[]⟩:ByteArray),0,r2))))))) fun p38 =>
some (p38.1,p38.2.1,p38.2.2.1))
else (
Option.bind (j_z86_0 n n (Sum.inr (Sum.inr (Sum.inr (Sum.inr (Sum.inr (Sum.inl (a0,([]:List T),(IntKind.wrap .i64 (0 + r1)),2,3,(⟨#[]⟩:ByteArray),0,r2)))))))) fun p40 =>
some (p40.1,p40.2.1,p40.2.2.1)))
else (
Option.bind (bidx true a0 (IntKind.wrap .i64 (0 + r1))) fun b41 =>
Option.bind (m_z38 n (⟨#[61,60,43,45,42,47,37,40,41,123,125]⟩:ByteArray) ((UInt8.toNat b41:Nat):Int)) fun r42 =>
bif (decide ((r42:Int) < 0)) then (
Option.bind (j_z86_0 n n (Sum.inr (Sum.inr (Sum.inr (Sum.inr (Sum.inl (0,(⟨#[]⟩:ByteArray),0,r2))))))) fun p44 =>
some (p44.1,p44.2.1,p44.2.2.1))
else (
Option.bind (j_z86_0 n n (Sum.inr (Sum.inr (Sum.inr (Sum.inr (Sum.inr (Sum.inl (a0,([]:List T),(IntKind.wrap .i64 (0 + r1)),1,3,(⟨#[]⟩:ByteArray),0,r2)))))))) fun p46 =>
some (p46.1,p46.2.1,p46.2.2.1))))))))))
def d_z86:FnF := ⟨41,[.str],[.tup 3,.list,.cplx .f64,.int .i64]⟩
def cs_z86 (n:Nat):List (CalF Tryz.prog) := [⟨d_z96,m_z96 n,m_z96_ok n⟩,⟨d_z97,m_z97 n,m_z97_ok n⟩,⟨d_z1,m_z1 n,m_z1_ok n⟩,⟨d_z88,m_z88 n,m_z88_ok n⟩,⟨d_z95,m_z95 n,m_z95_ok n⟩,⟨d_z90,m_z90 n,m_z90_ok n⟩,⟨d_z82,m_z82 n,m_z82_ok n⟩,⟨d_z83,m_z83 n,m_z83_ok n⟩,⟨d_z87,m_z87 n,m_z87_ok n⟩,⟨d_z94,m_z94 n,m_z94_ok n⟩,⟨d_z37,m_z37 n,m_z37_ok n⟩,⟨d_z38,m_z38 n,m_z38_ok n⟩]
def J_j_z86_0_1:XF := ⟨(.goto 1),[5,6],[.own 4,.ptr 0 0,.box 4,.int .i64,.str,.int .i64,.cplx .f64]⟩
def J_j_z86_0_2:XF := ⟨(.goto 2),[0,5,6,7],[.str,.own 4,.ptr 0 0,.int .i64,.box 4,.int .i64,.str,.int .i64,.cplx .f64]⟩
def J_j_z86_0_3:XF := ⟨(.goto 3),[0,5,6,7],[.str,.own 4,.ptr 0 0,.int .i64,.box 4,.int .i64,.str,.int .i64,.cplx .f64]⟩
def J_j_z86_0_4:XF := ⟨(.goto 4),[0,5,6,7],[.str,.own 4,.ptr 0 0,.int .i64,.box 4,.int .i64,.str,.int .i64,.cplx .f64]⟩
def J_j_z86_0_5:XF := ⟨(.goto 5),[6],[.ptr 0 0,.box 4,.int .i64,.str,.int .i64,.cplx .f64]⟩
def J_j_z86_0_6:XF := ⟨(.goto 6),[0,5,6,7,8],[.str,.own 4,.ptr 0 0,.int .i64,.int .i64,.box 4,.int .i64,.str,.int .i64,.cplx .f64]⟩
def J_j_z86_0_0:XF := ⟨(.goto 0),[0,5,6,7],[.str,.own 4,.ptr 0 0,.int .i64,.box 4,.int .i64,.str,.int .i64,.cplx .f64]⟩
def X_j_z86_0:List XF := [⟨.ret,[2,3,4],[.own 4,.cplx .f64,.int .i64,.box 4,.int .i64,.str,.int .i64,.cplx .f64]⟩]
def ls_z86 (n:Nat):List LE := [⟨1000001,jumpS J_j_z86_0_1 X_j_z86_0 (fun x=>j_z86_0 n n (Sum.inl x))⟩,⟨1000002,jumpS J_j_z86_0_2 X_j_z86_0 (fun x=>j_z86_0 n n (Sum.inr (Sum.inl x)))⟩,⟨1000003,jumpS J_j_z86_0_3 X_j_z86_0 (fun x=>j_z86_0 n n (Sum.inr (Sum.inr (Sum.inl x))))⟩,⟨1000004,jumpS J_j_z86_0_4 X_j_z86_0 (fun x=>j_z86_0 n n (Sum.inr (Sum.inr (Sum.inr (Sum.inl x)))))⟩,⟨1000005,jumpS J_j_z86_0_5 X_j_z86_0 (fun x=>j_z86_0 n n (Sum.inr (Sum.inr (Sum.inr (Sum.inr (Sum.inl x))))))⟩,⟨1000006,jumpS J_j_z86_0_6 X_j_z86_0 (fun x=>j_z86_0 n n (Sum.inr (Sum.inr (Sum.inr (Sum.inr (Sum.inr (Sum.inl x)))))))⟩,⟨1000000,jumpS J_j_z86_0_0 X_j_z86_0 (fun x=>j_z86_0 n n (Sum.inr (Sum.inr (Sum.inr (Sum.inr (Sum.inr (Sum.inr x)))))))⟩]
theorem j_z86_0_ok (n:Nat):JumpOk Tryz.prog (mkSpec (cs_z86 n) (ls_z86 n)) 0 116 (scopeAt Tryz.f41 0) := jumpOk (labs := [J_j_z86_0_1,J_j_z86_0_2,J_j_z86_0_3,J_j_z86_0_4,J_j_z86_0_5,J_j_z86_0_6,J_j_z86_0_0]) (xs := X_j_z86_0) (f := j_z86_0 n) (G := (fun k s=>Sum.elim (fun p1=>j_z86_0_B1 n k p1) (fun s'=>Sum.elim (fun p2=>j_z86_0_B2 n k p2) (fun s''=>Sum.elim (fun p3=>j_z86_0_B3 n k p3) (fun s'''=>Sum.elim (fun p4=>j_z86_0_B4 n k p4) (fun s''''=>Sum.elim (fun p5=>j_z86_0_B5 n k p5) (fun s'''''=>Sum.elim (fun p6=>j_z86_0_B6 n k p6) (fun s''''''=>(fun p0=>j_z86_0_B0 n k p0) s'''''') s''''') s'''') s''') s'') s') s)) (k := n) (scopeAt_ok sound Tryz.func41 (by kernel_rfl)) (fun _=>rfl) (fun _ _=>rfl) (by kernel_rfl) (hall_of (l0 := [0,2,3,4,6,5,1]) (by kernel_rfl) (by kernel_rfl)) ⟨⟨1,restAt (scopeAt Tryz.f41 0) 1,rfl,by kernel_rfl,fun _=>by kernel_rfl,(inner (by kernel_rfl) allN),by kernel_rfl,fun k a=>by kernel_rfl⟩,⟨2,restAt (scopeAt Tryz.f41 0) 2,rfl,by kernel_rfl,fun _=>by kernel_rfl,(inner (by kernel_rfl) allN),by kernel_rfl,fun k a=>by kernel_rfl⟩,⟨3,restAt (scopeAt Tryz.f41 0) 3,rfl,by kernel_rfl,fun _=>by kernel_rfl,(inner (by kernel_rfl) allN),by kernel_rfl,fun k a=>by kernel_rfl⟩,⟨4,restAt (scopeAt Tryz.f41 0) 4,rfl,by kernel_rfl,fun _=>by kernel_rfl,(inner (by kernel_rfl) allN),by kernel_rfl,fun k a=>by kernel_rfl⟩,⟨5,restAt (scopeAt Tryz.f41 0) 5,rfl,by kernel_rfl,fun _=>by kernel_rfl,(inner (by kernel_rfl) allN),by kernel_rfl,fun k a=>by kernel_rfl⟩,⟨6,restAt (scopeAt Tryz.f41 0) 6,rfl,by kernel_rfl,fun _=>by kernel_rfl,(inner (by kernel_rfl) allN),by kernel_rfl,fun k a=>by kernel_rfl⟩,⟨0,restAt (scopeAt Tryz.f41 0) 0,rfl,by kernel_rfl,fun _=>by kernel_rfl,(inner (by kernel_rfl) allN),by kernel_rfl,fun k a=>by kernel_rfl⟩⟩
theorem m_z86_ok (n:Nat):Ok Tryz.prog d_z86 (m_z86 n) := fnOk sound (cs := cs_z86 n) (ls := ls_z86 n) (n := 116) Tryz.func41 (by kernel_rfl) (fun _=>by kernel_rfl) (inner (by kernel_rfl) allN) (innerS (by kernel_rfl) (allC (j_z86_0_ok n) allN)) (by kernel_rfl) (fun a=>by kernel_rfl)
def m_z81 (n:Nat) (a0:ByteArray):Option (Int) :=
bif (ByteArray.toList a0 == ByteArray.toList (⟨#[118,97,114]⟩:ByteArray)) then (
some 1)
else (
bif (ByteArray.toList a0 == ByteArray.toList (⟨#[119,105,100,101]⟩:ByteArray)) then (
some 2)
else (
bif (ByteArray.toList a0 == ByteArray.toList (⟨#[97,116,111,109,105,99]⟩:ByteArray)) then (
some 3)
else (
bif (ByteArray.toList a0 == ByteArray.toList (⟨#[108,111,99,97,108]⟩:ByteArray)) then (
some 4)
else (
bif (ByteArray.toList a0 == ByteArray.toList (⟨#[109,117,116,101,120]⟩:ByteArray)) then (
some 5)
else (
bif (ByteArray.toList a0 == ByteArray.toList (⟨#[99,104,97,110]⟩:ByteArray)) then (
some 6)
else (
some 0))))))
def d_z81:FnF := ⟨113,[.str],[.int .i64]⟩
theorem m_z81_ok (n:Nat):Ok Tryz.prog d_z81 (m_z81 n) := fnOk0 sound [] Tryz.func113 (by kernel_rfl) (fun a=>by kernel_rfl)
def m_z23 (n:Nat) (a0:List T) (a1:Int) (a2:Bool):Option ((List T) × Int × Bool) :=
some (a0,a1,true)
def d_z23:FnF := ⟨79,[.ptr 0 0,.box 3,.list,.int .i64,.bool],[.tup 0,.box 3,.list,.int .i64,.bool]⟩
theorem m_z23_ok (n:Nat):Ok Tryz.prog d_z23 (m_z23 n) := fnOk0 sound [] Tryz.func79 (by kernel_rfl) (fun a=>by kernel_rfl)
def l_z6_2_B (n:Nat) (k:(List T) × ByteArray × Int × Int -> Option (((Int) ⊕ Unit))):(List T) × ByteArray × Int × Int -> Option (((Int) ⊕ Unit)) := fun (s0,s1,s2,s3) =>
bif (decide ((s3:Int) < s2)) then (
Option.bind (idx true [.str] s0 s3) fun y0 =>
bif (ByteArray.toList s1 == ByteArray.toList (y0.cell 0).str) then (
some (Sum.inl s3))
else (
k (s0,s1,s2,(IntKind.wrap .i64 (s3 + 1)))))
else (
some (Sum.inr ()))
def l_z6_2 (n:Nat):Nat -> (List T) × ByteArray × Int × Int -> Option (((Int) ⊕ Unit))
 | 0,_=>none
 | m + 1,s=>l_z6_2_B n (l_z6_2 n m) s
def m_z6 (n:Nat) (a0:List T) (a1:ByteArray):Option (Int) :=
Option.bind (l_z6_2 n n (a0,a1,((List.length a0:Nat):Int),0)) fun x1 =>
Sum.elim (fun p2 =>
some p2) (fun x1'=>(fun p3 =>
some (-1)) x1') x1
def d_z6:FnF := ⟨184,[.list,.str],[.int .i64]⟩
def cs_z6 (n:Nat):List (CalF Tryz.prog) := []
def L_l_z6_2:LF := ⟨2,[0,1,7,8],[.list,.str,.int .i64,.int .i64],[⟨.ret,[4],[.int .i64]⟩,⟨(.exit 0),[],[]⟩]⟩
def ls_z6 (n:Nat):List LE := [⟨2,loopS L_l_z6_2 (l_z6_2 n n)⟩]
theorem l_z6_2_ok (n:Nat):LoopOk Tryz.prog (mkSpec (cs_z6 n) (ls_z6 n)) 0 19 (loopAt Tryz.f184 0) := loopOk (L := L_l_z6_2) (f := l_z6_2 n) (B := l_z6_2_B n) (k := n) (loopAt_ok sound Tryz.func184 (by kernel_rfl)) (inner (by kernel_rfl) allN) (innerS (by kernel_rfl) allN) (fun _=>rfl) (fun _ _=>rfl) (by kernel_rfl) (fun _=>by kernel_rfl) (by kernel_rfl) (fun k a=>by kernel_rfl)
theorem m_z6_ok (n:Nat):Ok Tryz.prog d_z6 (m_z6 n) := fnOk sound (cs := cs_z6 n) (ls := ls_z6 n) (n := 19) Tryz.func184 (by kernel_rfl) (fun _=>by kernel_rfl) (inner (by kernel_rfl) (allC (l_z6_2_ok n) allN)) (innerS (by kernel_rfl) allN) (by kernel_rfl) (fun a=>by kernel_rfl)
def m_z4 (n:Nat) (a0:List T) (a1:ByteArray):Option (Bool) :=
Option.bind (m_z6 n a0 a1) fun r0 =>
some (decide ((r0:Int) ≥ 0))
def d_z4:FnF := ⟨179,[.list,.str],[.bool]⟩
theorem m_z4_ok (n:Nat):Ok Tryz.prog d_z4 (m_z4 n) := fnOk0 sound [⟨d_z6,m_z6 n,m_z6_ok n⟩] Tryz.func179 (by kernel_rfl) (fun a=>by kernel_rfl)
def m_z84 (n:Nat) (a0:ByteArray):Option (Bool) :=
Option.bind (m_z4 n [(T.sc (.string (⟨#[118,97,114]⟩:ByteArray))),(T.sc (.string (⟨#[119,105,100,101]⟩:ByteArray))),(T.sc (.string (⟨#[97,116,111,109,105,99]⟩:ByteArray))),(T.sc (.string (⟨#[108,111,99,97,108]⟩:ByteArray))),(T.sc (.string (⟨#[109,117,116,101,120]⟩:ByteArray))),(T.sc (.string (⟨#[99,104,97,110]⟩:ByteArray))),(T.sc (.string (⟨#[103,111]⟩:ByteArray))),(T.sc (.string (⟨#[108,111,99,107]⟩:ByteArray))),(T.sc (.string (⟨#[117,110,108,111,99,107]⟩:ByteArray))),(T.sc (.string (⟨#[115,101,110,100]⟩:ByteArray))),(T.sc (.string (⟨#[114,101,99,118]⟩:ByteArray))),(T.sc (.string (⟨#[112,114,105,110,116]⟩:ByteArray))),(T.sc (.string (⟨#[105,102]⟩:ByteArray))),(T.sc (.string (⟨#[101,108,115,101]⟩:ByteArray))),(T.sc (.string (⟨#[114,101,112,101,97,116]⟩:ByteArray))),(T.sc (.string (⟨#[103,111,116,111]⟩:ByteArray))),(T.sc (.string (⟨#[108,97,98,101,108]⟩:ByteArray)))] a0) fun r0 =>
some r0
def d_z84:FnF := ⟨167,[.str],[.bool]⟩
theorem m_z84_ok (n:Nat):Ok Tryz.prog d_z84 (m_z84 n) := fnOk0 sound [⟨d_z4,m_z4 n,m_z4_ok n⟩] Tryz.func167 (by kernel_rfl) (fun a=>by kernel_rfl)
def m_z85 (n:Nat) (a0:ByteArray):Option (Bool) :=
Option.bind (bif (!(ByteArray.toList a0 == ByteArray.toList (⟨#[]⟩:ByteArray))) then m_z95 n a0 else some 0) fun r0 =>
Option.bind (bif (bif (!(ByteArray.toList a0 == ByteArray.toList (⟨#[]⟩:ByteArray))) then ((r0:Int) == ((ByteArray.size a0:Nat):Int)) else false) then m_z84 n a0 else some false) fun r1 =>
some (bif (bif (!(ByteArray.toList a0 == ByteArray.toList (⟨#[]⟩:ByteArray))) then ((r0:Int) == ((ByteArray.size a0:Nat):Int)) else false) then (!r1) else false)
def d_z85:FnF := ⟨150,[.str],[.bool]⟩
theorem m_z85_ok (n:Nat):Ok Tryz.prog d_z85 (m_z85 n) := fnOk0 sound [⟨d_z95,m_z95 n,m_z95_ok n⟩,⟨d_z84,m_z84 n,m_z84_ok n⟩] Tryz.func150 (by kernel_rfl) (fun a=>by kernel_rfl)
def m_z25 (n:Nat) (a0:List T) (a1:Int) (a2:Bool):Option (ByteArray × (List T) × Int × Bool) :=
Option.bind (idx true [.int .i64,.str,.int .i64,.cplx .f64] a0 a1) fun y0 =>
Option.bind (bif !(bif a2 then true else (((y0.cell 0).int:Int) != 1)) then m_z85 n (y0.cell 1).str else some false) fun r1 =>
bif (bif (bif a2 then true else (((y0.cell 0).int:Int) != 1)) then true else (!r1)) then (
Option.bind (m_z23 n a0 a1 a2) fun r2 =>
some ((⟨#[]⟩:ByteArray),r2.1,r2.2.1,r2.2.2))
else (
some ((y0.cell 1).str,a0,(IntKind.wrap .i64 (a1 + 1)),a2))
def d_z25:FnF := ⟨114,[.ptr 0 0,.box 3,.list,.int .i64,.bool],[.str,.box 3,.list,.int .i64,.bool]⟩
theorem m_z25_ok (n:Nat):Ok Tryz.prog d_z25 (m_z25 n) := fnOk0 sound [⟨d_z85,m_z85 n,m_z85_ok n⟩,⟨d_z23,m_z23 n,m_z23_ok n⟩] Tryz.func114 (by kernel_rfl) (fun a=>by kernel_rfl)
def m_z17 (n:Nat) (a0:Int) (a1:List T) (a2:Int) (a3:Bool):Option (Int × (List T) × Int × Bool) :=
Option.bind (idx true [.int .i64,.str,.int .i64,.cplx .f64] a1 a2) fun y0 =>
bif (bif (bif a3 then true else (((y0.cell 0).int:Int) != 2)) then true else (decide (((y0.cell 2).int:Int) > a0))) then (
Option.bind (m_z23 n a1 a2 a3) fun r1 =>
some (0,r1.1,r1.2.1,r1.2.2))
else (
some ((y0.cell 2).int,a1,(IntKind.wrap .i64 (a2 + 1)),a3))
def d_z17:FnF := ⟨115,[.ptr 0 0,.int .i64,.box 3,.list,.int .i64,.bool],[.int .i64,.box 3,.list,.int .i64,.bool]⟩
theorem m_z17_ok (n:Nat):Ok Tryz.prog d_z17 (m_z17 n) := fnOk0 sound [⟨d_z23,m_z23 n,m_z23_ok n⟩] Tryz.func115 (by kernel_rfl) (fun a=>by kernel_rfl)
def m_z2 (n:Nat) (a0:List T):Option ((List T)) :=
must true (decide (0 <= 0)&&decide (0 <= ((List.length a0:Nat):Int))&&decide (((List.length a0:Nat):Int) <= ((List.length a0:Nat):Int))&&sized 4 a0) (must true (decide (((List.length a0:Nat):Int) = ((List.length a0:Nat):Int))) (some (List.drop (Int.toNat 0) (List.take (Int.toNat ((List.length a0:Nat):Int)) a0))))
def d_z2:FnF := ⟨116,[.list],[.own 4]⟩
theorem m_z2_ok (n:Nat):Ok Tryz.prog d_z2 (m_z2 n) := fnOk0 sound [] Tryz.func116 (by kernel_rfl) (fun a=>by kernel_rfl)
def l_z19_2_B (n:Nat) (k:(List T) × (List T) × Int × Bool -> Option ((List T) × (List T) × Int × Bool)):(List T) × (List T) × Int × Bool -> Option ((List T) × (List T) × Int × Bool) := fun (s0,s1,s2,s3) =>
Option.bind (idx ((!s3)) [.int .i64,.str,.int .i64,.cplx .f64] s1 s2) fun y0 =>
bif (bif (!s3) then (((y0.cell 0).int:Int) == 1) else false) then (
Option.bind (idx true [.int .i64,.str,.int .i64,.cplx .f64] s1 s2) fun y1 =>
Option.bind (m_z81 n (y1.cell 1).str) fun r2 =>
Option.bind (idx true [.int .i64,.str,.int .i64,.cplx .f64] s1 s2) fun y3 =>
bif ((r2:Int) == 0) then (
some (s0,s1,s2,s3))
else (
bif ((((List.length s0:Nat):Int):Int) == 24) then (
Option.bind (m_z23 n s1 s2 s3) fun r4 =>
some (s0,r4.1,r4.2.1,r4.2.2))
else (
Option.bind (m_z25 n s1 (IntKind.wrap .i64 (s2 + 1)) s3) fun r5 =>
bif ((r2:Int) == 6) then (
Option.bind (m_z17 n 3 r5.2.1 r5.2.2.1 r5.2.2.2) fun r6 =>
must true ((Nat.beq 4 4 || Nat.beq 4 0)&&(decide (List.length s0 + List.length [(T.agg [(T.sc (.int .i64 r2)),(T.sc (.string r5.1)),(T.sc (.int .i64 r6.1)),(T.sc (.complex .f64 (y3.cell 3).re (y3.cell 3).im))])] <= 1073741824)&&sized 4 [(T.agg [(T.sc (.int .i64 r2)),(T.sc (.string r5.1)),(T.sc (.int .i64 r6.1)),(T.sc (.complex .f64 (y3.cell 3).re (y3.cell 3).im))])])) (k ((s0++[(T.agg [(T.sc (.int .i64 r2)),(T.sc (.string r5.1)),(T.sc (.int .i64 r6.1)),(T.sc (.complex .f64 (y3.cell 3).re (y3.cell 3).im))])]),r6.2.1,r6.2.2.1,r6.2.2.2)))
else (
must true ((Nat.beq 4 4 || Nat.beq 4 0)&&(decide (List.length s0 + List.length [(T.agg [(T.sc (.int .i64 r2)),(T.sc (.string r5.1)),(T.sc (.int .i64 0)),(T.sc (.complex .f64 (y3.cell 3).re (y3.cell 3).im))])] <= 1073741824)&&sized 4 [(T.agg [(T.sc (.int .i64 r2)),(T.sc (.string r5.1)),(T.sc (.int .i64 0)),(T.sc (.complex .f64 (y3.cell 3).re (y3.cell 3).im))])])) (k ((s0++[(T.agg [(T.sc (.int .i64 r2)),(T.sc (.string r5.1)),(T.sc (.int .i64 0)),(T.sc (.complex .f64 (y3.cell 3).re (y3.cell 3).im))])]),r5.2.1,r5.2.2.1,r5.2.2.2))))))
else (
some (s0,s1,s2,s3))
def l_z19_2 (n:Nat):Nat -> (List T) × (List T) × Int × Bool -> Option ((List T) × (List T) × Int × Bool)
 | 0,_=>none
 | m + 1,s=>l_z19_2_B n (l_z19_2 n m) s
def m_z19 (n:Nat) (a0:List T) (a1:Int) (a2:Bool):Option ((List T) × (List T) × Int × Bool) :=
Option.bind (l_z19_2 n n (([]:List T),a0,a1,a2)) fun p8 =>
Option.bind (m_z2 n p8.1) fun r9 =>
some (r9,p8.2.1,p8.2.2.1,p8.2.2.2)
def d_z19:FnF := ⟨78,[.ptr 0 0,.box 3,.list,.int .i64,.bool],[.own 4,.box 3,.list,.int .i64,.bool]⟩
def cs_z19 (n:Nat):List (CalF Tryz.prog) := [⟨d_z81,m_z81 n,m_z81_ok n⟩,⟨d_z23,m_z23 n,m_z23_ok n⟩,⟨d_z25,m_z25 n,m_z25_ok n⟩,⟨d_z17,m_z17 n,m_z17_ok n⟩,⟨d_z2,m_z2 n,m_z2_ok n⟩]
def L_l_z19_2:LF := ⟨2,[0,3],[.ptr 0 0,.own 4,.box 3,.list,.int .i64,.bool],[⟨(.exit 0),[3],[.own 4,.box 3,.list,.int .i64,.bool]⟩]⟩
def ls_z19 (n:Nat):List LE := [⟨2,loopS L_l_z19_2 (l_z19_2 n n)⟩]
theorem l_z19_2_ok (n:Nat):LoopOk Tryz.prog (mkSpec (cs_z19 n) (ls_z19 n)) 1 78 (loopAt Tryz.f78 0) := loopOk (L := L_l_z19_2) (f := l_z19_2 n) (B := l_z19_2_B n) (k := n) (loopAt_ok sound Tryz.func78 (by kernel_rfl)) (inner (by kernel_rfl) allN) (innerS (by kernel_rfl) allN) (fun _=>rfl) (fun _ _=>rfl) (by kernel_rfl) (fun _=>by kernel_rfl) (by kernel_rfl) (fun k a=>by kernel_rfl)
theorem m_z19_ok (n:Nat):Ok Tryz.prog d_z19 (m_z19 n) := fnOk sound (cs := cs_z19 n) (ls := ls_z19 n) (n := 78) Tryz.func78 (by kernel_rfl) (fun _=>by kernel_rfl) (inner (by kernel_rfl) (allC (l_z19_2_ok n) allN)) (innerS (by kernel_rfl) allN) (by kernel_rfl) (fun a=>by kernel_rfl)
def m_z32 (n:Nat) (a0:ByteArray) (a1:List T) (a2:Int) (a3:Bool):Option (Bool × (List T) × Int × Bool) :=
Option.bind (idx true [.int .i64,.str,.int .i64,.cplx .f64] a1 a2) fun y0 =>
some ((bif (bif (!a3) then (bif (((y0.cell 0).int:Int) == 1) then true else (((y0.cell 0).int:Int) == 3)) else false) then (ByteArray.toList (y0.cell 1).str == ByteArray.toList a0) else false),a1,a2,a3)
def d_z32:FnF := ⟨117,[.ptr 0 0,.str,.box 3,.list,.int .i64,.bool],[.bool,.box 3,.list,.int .i64,.bool]⟩
theorem m_z32_ok (n:Nat):Ok Tryz.prog d_z32 (m_z32 n) := fnOk0 sound [] Tryz.func117 (by kernel_rfl) (fun a=>by kernel_rfl)
def m_z24 (n:Nat) (a0:ByteArray) (a1:List T) (a2:Int) (a3:Bool):Option ((List T) × Int × Bool) :=
Option.bind (m_z32 n a0 a1 a2 a3) fun r0 =>
bif (!r0.1) then (
Option.bind (m_z23 n r0.2.1 r0.2.2.1 r0.2.2.2) fun r1 =>
some (r1.1,r1.2.1,r1.2.2))
else (
some (r0.2.1,(IntKind.wrap .i64 (r0.2.2.1 + 1)),r0.2.2.2))
def d_z24:FnF := ⟨80,[.ptr 0 0,.str,.box 3,.list,.int .i64,.bool],[.tup 0,.box 3,.list,.int .i64,.bool]⟩
theorem m_z24_ok (n:Nat):Ok Tryz.prog d_z24 (m_z24 n) := fnOk0 sound [⟨d_z32,m_z32 n,m_z32_ok n⟩,⟨d_z23,m_z23 n,m_z23_ok n⟩] Tryz.func80 (by kernel_rfl) (fun a=>by kernel_rfl)
def m_z3 (n:Nat) (a0:List T):Option ((List T)) :=
must true (decide (0 <= 0)&&decide (0 <= ((List.length a0:Nat):Int))&&decide (((List.length a0:Nat):Int) <= ((List.length a0:Nat):Int))&&sized 11 a0) (must true (decide (((List.length a0:Nat):Int) = ((List.length a0:Nat):Int))) (some (List.drop (Int.toNat 0) (List.take (Int.toNat ((List.length a0:Nat):Int)) a0))))
def d_z3:FnF := ⟨119,[.list],[.own 11]⟩
theorem m_z3_ok (n:Nat):Ok Tryz.prog d_z3 (m_z3 n) := fnOk0 sound [] Tryz.func119 (by kernel_rfl) (fun a=>by kernel_rfl)
def m_z36 (n:Nat) (a0:ByteArray) (a1:List T) (a2:Int) (a3:Bool):Option (Bool × (List T) × Int × Bool) :=
Option.bind (idx ((!a3)) [.int .i64,.str,.int .i64,.cplx .f64] a1 a2) fun y0 =>
Option.bind (idx ((bif (!a3) then (((y0.cell 0).int:Int) == 3) else false)) [.int .i64,.str,.int .i64,.cplx .f64] a1 a2) fun y1 =>
some ((bif (bif (!a3) then (((y0.cell 0).int:Int) == 3) else false) then (ByteArray.toList (y1.cell 1).str == ByteArray.toList a0) else false),a1,a2,a3)
def d_z36:FnF := ⟨181,[.ptr 0 0,.str,.box 3,.list,.int .i64,.bool],[.bool,.box 3,.list,.int .i64,.bool]⟩
theorem m_z36_ok (n:Nat):Ok Tryz.prog d_z36 (m_z36 n) := fnOk0 sound [] Tryz.func181 (by kernel_rfl) (fun a=>by kernel_rfl)
def m_z29 (n:Nat) (a0:List T) (a1:Int) (a2:Bool):Option (Int × Int × ByteArray × (List T) × (List T) × Int × Bool) :=
some (0,0,(⟨#[]⟩:ByteArray),([]:List T),a0,a1,true)
def d_z29:FnF := ⟨182,[.ptr 0 0,.box 3,.list,.int .i64,.bool],[.agg 4,.int .i64,.int .i64,.str,.list,.box 3,.list,.int .i64,.bool]⟩
theorem m_z29_ok (n:Nat):Ok Tryz.prog d_z29 (m_z29 n) := fnOk0 sound [] Tryz.func182 (by kernel_rfl) (fun a=>by kernel_rfl)
def m_z77 (n:Nat) (a0:Int) (a1:ByteArray) (a2:Int) (a3:Nat × Nat) (a4:Int):Option (Int) := opM a0 a1 a4
def d_z77:FnF := ⟨173,[.agg 4,.int .i64,.str,.int .i64,.cplx .f64,.int .i64],[.int .i64]⟩
theorem m_z77_ok (n:Nat):Ok Tryz.prog d_z77 (m_z77 n) := fun a r h=>x_expr_operator (show opM a.1 a.2.1 a.2.2.2.2.1 = some r from h)
structure B_z21 where
 y1:Int -> Int -> List T -> Int -> Bool -> Option (Int × Int × ByteArray × (List T) × (List T) × Int × Bool)
 y0:Int -> List T -> Int -> Bool -> Option (Int × Int × ByteArray × (List T) × (List T) × Int × Bool)
def d_z21:FnF := ⟨161,[.ptr 0 0,.int .i64,.int .i64,.box 3,.list,.int .i64,.bool],[.agg 4,.int .i64,.int .i64,.str,.list,.box 3,.list,.int .i64,.bool]⟩
def d___expr_reader__factor:FnF := ⟨172,[.ptr 0 0,.int .i64,.box 3,.list,.int .i64,.bool],[.agg 4,.int .i64,.int .i64,.str,.list,.box 3,.list,.int .i64,.bool]⟩
structure B_z21_ok (b:B_z21):Prop where
 y1:Ok Tryz.prog d_z21 b.y1
 y0:Ok Tryz.prog d___expr_reader__factor b.y0
def l_z21_4_B (b:B_z21) (n:Nat) (k:Int × Int × (List T) × Int × Bool × Int × Int × ByteArray × (List T) × Int × Int × ByteArray × (List T) -> Option ((List T) × Int × Bool × Int × Int × ByteArray × (List T) × Int × Int × ByteArray × (List T))):Int × Int × (List T) × Int × Bool × Int × Int × ByteArray × (List T) × Int × Int × ByteArray × (List T) -> Option ((List T) × Int × Bool × Int × Int × ByteArray × (List T) × Int × Int × ByteArray × (List T)) := fun (s0,s1,s2,s3,s4,s5,s6,s7,s8,s9,s10,s11,s12) =>
bif (!s4) then (
Option.bind (idx true [.int .i64,.str,.int .i64,.cplx .f64] s2 s3) fun y2 =>
Option.bind (m_z77 n (y2.cell 0).int (y2.cell 1).str (y2.cell 2).int ((y2.cell 3).re,(y2.cell 3).im) s0) fun r3 =>
bif ((r3:Int) == 0) then (
some (s2,s3,s4,s5,s6,s7,s8,s9,s10,s11,s12))
else (
Option.bind (b.y1 (IntKind.wrap .i64 (s0 + 1)) s1 s2 (IntKind.wrap .i64 (s3 + 1)) s4) fun r4 =>
bif ((s0:Int) == 0) then (
some (r4.2.2.2.2.1,r4.2.2.2.2.2.1,r4.2.2.2.2.2.2,s5,s6,s7,s8,r3,0,(⟨#[]⟩:ByteArray),[(T.agg [(T.sc (.int .i64 s9)),(T.sc (.int .i64 s10)),(T.sc (.string s11)),(T.list s12)]),(T.agg [(T.sc (.int .i64 r4.1)),(T.sc (.int .i64 r4.2.1)),(T.sc (.string r4.2.2.1)),(T.list r4.2.2.2.1)])]))
else (
k (s0,s1,r4.2.2.2.2.1,r4.2.2.2.2.2.1,r4.2.2.2.2.2.2,s5,s6,s7,s8,r3,0,(⟨#[]⟩:ByteArray),[(T.agg [(T.sc (.int .i64 s9)),(T.sc (.int .i64 s10)),(T.sc (.string s11)),(T.list s12)]),(T.agg [(T.sc (.int .i64 r4.1)),(T.sc (.int .i64 r4.2.1)),(T.sc (.string r4.2.2.1)),(T.list r4.2.2.2.1)])]))))
else (
some (s2,s3,s4,s5,s6,s7,s8,s9,s10,s11,s12))
def l_z21_4 (b:B_z21) (n:Nat):Nat -> Int × Int × (List T) × Int × Bool × Int × Int × ByteArray × (List T) × Int × Int × ByteArray × (List T) -> Option ((List T) × Int × Bool × Int × Int × ByteArray × (List T) × Int × Int × ByteArray × (List T))
 | 0,_=>none
 | m + 1,s=>l_z21_4_B b n (l_z21_4 b n m) s
def f_z21 (b:B_z21) (n:Nat) (a0:Int) (a1:Int) (a2:List T) (a3:Int) (a4:Bool):Option (Int × Int × ByteArray × (List T) × (List T) × Int × Bool) :=
bif ((a0:Int) == 3) then (
Option.bind (b.y0 a1 a2 a3 a4) fun r0 =>
some (r0.1,r0.2.1,r0.2.2.1,r0.2.2.2.1,r0.2.2.2.2.1,r0.2.2.2.2.2.1,r0.2.2.2.2.2.2))
else (
Option.bind (b.y1 (IntKind.wrap .i64 (a0 + 1)) a1 a2 a3 a4) fun r1 =>
Option.bind (l_z21_4 b n n (a0,a1,r1.2.2.2.2.1,r1.2.2.2.2.2.1,r1.2.2.2.2.2.2,0,0,(⟨#[]⟩:ByteArray),([]:List T),r1.1,r1.2.1,r1.2.2.1,r1.2.2.2.1)) fun p6 =>
some (p6.2.2.2.2.2.2.2.1,p6.2.2.2.2.2.2.2.2.1,p6.2.2.2.2.2.2.2.2.2.1,p6.2.2.2.2.2.2.2.2.2.2,p6.1,p6.2.1,p6.2.2.1))
def cs_z21 (b:B_z21) (hb:B_z21_ok b) (n:Nat):List (CalF Tryz.prog) := [⟨d___expr_reader__factor,b.y0,hb.y0⟩,⟨d_z21,b.y1,hb.y1⟩,⟨d_z77,m_z77 n,m_z77_ok n⟩]
def L_l_z21_4:LF := ⟨4,[0,1,2,6,7],[.ptr 0 0,.int .i64,.int .i64,.ptr 1 0,.ptr 2 0,.box 3,.list,.int .i64,.bool,.box 4,.int .i64,.int .i64,.str,.own 0,.box 4,.int .i64,.int .i64,.str,.list],[⟨(.exit 0),[6,7],[.ptr 1 0,.ptr 2 0,.box 3,.list,.int .i64,.bool,.box 4,.int .i64,.int .i64,.str,.own 0,.box 4,.int .i64,.int .i64,.str,.list]⟩]⟩
def ls_z21 (b:B_z21) (n:Nat):List LE := [⟨4,loopS L_l_z21_4 (l_z21_4 b n n)⟩]
theorem l_z21_4_ok (b:B_z21) (hb:B_z21_ok b) (n:Nat):LoopOk Tryz.prog (mkSpec (cs_z21 b hb n) (ls_z21 b n)) 1 57 (loopAt Tryz.f161 0) := loopOk (L := L_l_z21_4) (f := l_z21_4 b n) (B := l_z21_4_B b n) (k := n) (loopAt_ok sound Tryz.func161 (by kernel_rfl)) (inner (by kernel_rfl) allN) (innerS (by kernel_rfl) allN) (fun _=>rfl) (fun _ _=>rfl) (by kernel_rfl) (fun _=>by kernel_rfl) (by kernel_rfl) (fun k a=>by kernel_rfl)
theorem f_z21_ok (b:B_z21) (hb:B_z21_ok b) (n:Nat):Ok Tryz.prog d_z21 (f_z21 b n) := fnOk sound (cs := cs_z21 b hb n) (ls := ls_z21 b n) (n := 57) Tryz.func161 (by kernel_rfl) (fun _=>by kernel_rfl) (inner (by kernel_rfl) (allC (l_z21_4_ok b hb n) allN)) (innerS (by kernel_rfl) allN) (by kernel_rfl) (fun a=>by kernel_rfl)
def f___expr_reader__factor (b:B_z21) (n:Nat) (a0:Int) (a1:List T) (a2:Int) (a3:Bool):Option (Int × Int × ByteArray × (List T) × (List T) × Int × Bool) :=
Option.bind (idx true [.int .i64,.str,.int .i64,.cplx .f64] a1 a2) fun y0 =>
Option.bind (m_z36 n (⟨#[45]⟩:ByteArray) a1 a2 a3) fun r1 =>
Option.bind (m_z36 n (⟨#[40]⟩:ByteArray) r1.2.1 r1.2.2.1 r1.2.2.2) fun r2 =>
bif r2.2.2.2 then (
some (0,0,(⟨#[]⟩:ByteArray),([]:List T),r2.2.1,r2.2.2.1,r2.2.2.2))
else (
bif (((y0.cell 0).int:Int) == 2) then (
some (1,(y0.cell 2).int,(⟨#[]⟩:ByteArray),([]:List T),r2.2.1,(IntKind.wrap .i64 (r2.2.2.1 + 1)),r2.2.2.2))
else (
Option.bind (bif (((y0.cell 0).int:Int) == 1) then m_z85 n (y0.cell 1).str else some false) fun r3 =>
bif (bif (((y0.cell 0).int:Int) == 1) then r3 else false) then (
some (2,0,(y0.cell 1).str,([]:List T),r2.2.1,(IntKind.wrap .i64 (r2.2.2.1 + 1)),r2.2.2.2))
else (
bif (bif (bif (!r1.1) then (!r2.1) else false) then true else ((a0:Int) == 8)) then (
Option.bind (m_z29 n r2.2.1 r2.2.2.1 r2.2.2.2) fun r4 =>
some (r4.1,r4.2.1,r4.2.2.1,r4.2.2.2.1,r4.2.2.2.2.1,r4.2.2.2.2.2.1,r4.2.2.2.2.2.2))
else (
bif r1.1 then (
Option.bind (b.y0 (IntKind.wrap .i64 (a0 + 1)) r2.2.1 (IntKind.wrap .i64 (r2.2.2.1 + 1)) r2.2.2.2) fun r5 =>
some (3,0,(⟨#[]⟩:ByteArray),[(T.agg [(T.sc (.int .i64 r5.1)),(T.sc (.int .i64 r5.2.1)),(T.sc (.string r5.2.2.1)),(T.list r5.2.2.2.1)])],r5.2.2.2.2.1,r5.2.2.2.2.2.1,r5.2.2.2.2.2.2))
else (
Option.bind (b.y1 0 (IntKind.wrap .i64 (a0 + 1)) r2.2.1 (IntKind.wrap .i64 (r2.2.2.1 + 1)) r2.2.2.2) fun r6 =>
Option.bind (m_z36 n (⟨#[41]⟩:ByteArray) r6.2.2.2.2.1 r6.2.2.2.2.2.1 r6.2.2.2.2.2.2) fun r7 =>
bif (!r7.1) then (
Option.bind (m_z29 n r7.2.1 r7.2.2.1 r7.2.2.2) fun r8 =>
some (r8.1,r8.2.1,r8.2.2.1,r8.2.2.2.1,r8.2.2.2.2.1,r8.2.2.2.2.2.1,r8.2.2.2.2.2.2))
else (
some (r6.1,r6.2.1,r6.2.2.1,r6.2.2.2.1,r7.2.1,(IntKind.wrap .i64 (r7.2.2.1 + 1)),r7.2.2.2)))))))
theorem f___expr_reader__factor_ok (b:B_z21) (hb:B_z21_ok b) (n:Nat):Ok Tryz.prog d___expr_reader__factor (f___expr_reader__factor b n) := fnOk0 sound [⟨d_z36,m_z36 n,m_z36_ok n⟩,⟨d_z85,m_z85 n,m_z85_ok n⟩,⟨d_z29,m_z29 n,m_z29_ok n⟩,⟨d___expr_reader__factor,b.y0,hb.y0⟩,⟨d_z21,b.y1,hb.y1⟩] Tryz.func172 (by kernel_rfl) (fun a=>by kernel_rfl)
def unB_z21 (n:Nat):Nat -> B_z21
 | 0=>{ y1 := fun _ _ _ _ _=>none,y0 := fun _ _ _ _=>none }
 | m + 1=>{ y1 := f_z21 (unB_z21 n m) n,y0 := f___expr_reader__factor (unB_z21 n m) n }
theorem unB_z21_ok (n:Nat):∀ m,B_z21_ok (unB_z21 n m)
 | 0=>{ y1 := fun _ _ h=>(nomatch (show none = some _ from h)),y0 := fun _ _ h=>(nomatch (show none = some _ from h)) }
 | m + 1=>{ y1 := f_z21_ok _ (unB_z21_ok n m) n,y0 := f___expr_reader__factor_ok _ (unB_z21_ok n m) n }
def m_z21 (n:Nat):Int -> Int -> List T -> Int -> Bool -> Option (Int × Int × ByteArray × (List T) × (List T) × Int × Bool) := (unB_z21 n n).y1
theorem m_z21_ok (n:Nat):Ok Tryz.prog d_z21 (m_z21 n) := (unB_z21_ok n n).y1
def m_z93 (n:Nat) (a0:List T) (a1:Int):Option (Int × Int × ByteArray × (List T) × Int × Bool) :=
Option.bind (m_z21 n 0 0 a0 a1 false) fun r0 =>
bif r0.2.2.2.2.2.2 then (
some (0,0,(⟨#[]⟩:ByteArray),([]:List T),r0.2.2.2.2.2.1,false))
else (
some (r0.1,r0.2.1,r0.2.2.1,r0.2.2.2.1,r0.2.2.2.2.2.1,true))
def d_z93:FnF := ⟨136,[.list,.int .i64],[.tup 3,.agg 4,.int .i64,.int .i64,.str,.list,.int .i64,.bool]⟩
theorem m_z93_ok (n:Nat):Ok Tryz.prog d_z93 (m_z93 n) := fnOk0 sound [⟨d_z21,m_z21 n,m_z21_ok n⟩] Tryz.func136 (by kernel_rfl) (fun a=>by kernel_rfl)
def m_z22 (n:Nat) (a0:List T) (a1:Int) (a2:Bool):Option (Int × Int × ByteArray × (List T) × (List T) × Int × Bool) :=
bif a2 then (
some (0,0,(⟨#[]⟩:ByteArray),([]:List T),a0,a1,a2))
else (
Option.bind (m_z93 n a0 a1) fun r0 =>
some (r0.1,r0.2.1,r0.2.2.1,r0.2.2.2.1,a0,r0.2.2.2.2.1,(!r0.2.2.2.2.2)))
def d_z22:FnF := ⟨151,[.ptr 0 0,.box 3,.list,.int .i64,.bool],[.agg 4,.int .i64,.int .i64,.str,.list,.box 3,.list,.int .i64,.bool]⟩
theorem m_z22_ok (n:Nat):Ok Tryz.prog d_z22 (m_z22 n) := fnOk0 sound [⟨d_z93,m_z93 n,m_z93_ok n⟩] Tryz.func151 (by kernel_rfl) (fun a=>by kernel_rfl)
structure B_z18 where
 y2:Int -> List T -> Int -> Bool -> Option ((List T) × (List T) × Int × Bool)
 y3:Int -> List T -> Int -> Bool -> Option (Int × ByteArray × ByteArray × Int × Int × Int × ByteArray × (List T) × (List T) × (List T) × (Nat × Nat) × (List T) × Int × Bool)
def d_z18:FnF := ⟨81,[.ptr 0 0,.int .i64,.box 3,.list,.int .i64,.bool],[.own 11,.box 3,.list,.int .i64,.bool]⟩
def d___parse_reader__stmt:FnF := ⟨118,[.ptr 0 0,.int .i64,.box 3,.list,.int .i64,.bool],[.agg 11,.int .i64,.str,.str,.int .i64,.int .i64,.int .i64,.str,.list,.list,.list,.cplx .f64,.box 3,.list,.int .i64,.bool]⟩
structure B_z18_ok (b:B_z18):Prop where
 y2:Ok Tryz.prog d_z18 b.y2
 y3:Ok Tryz.prog d___parse_reader__stmt b.y3
def l_z18_5_B (b:B_z18) (n:Nat) (k:Int × (List T) × (List T) × Int × Bool -> Option ((List T) × (List T) × Int × Bool)):Int × (List T) × (List T) × Int × Bool -> Option ((List T) × (List T) × Int × Bool) := fun (s0,s1,s2,s3,s4) =>
Option.bind (bif (!s4) then m_z32 n (⟨#[125]⟩:ByteArray) s2 s3 s4 else some (false,[],0,false)) fun r2 =>
bif (bif (!s4) then (!r2.1) else false) then (
Option.bind (b.y3 (IntKind.wrap .i64 (s0 + 1)) (bif (!s4) then r2.2.1 else s2) (bif (!s4) then r2.2.2.1 else s3) (bif (!s4) then r2.2.2.2 else s4)) fun r3 =>
must true ((Nat.beq 11 11 || Nat.beq 11 0)&&(decide (List.length s1 + List.length [(T.agg [(T.sc (.int .i64 r3.1)),(T.sc (.string r3.2.1)),(T.sc (.string r3.2.2.1)),(T.sc (.int .i64 r3.2.2.2.1)),(T.sc (.int .i64 r3.2.2.2.2.1)),(T.sc (.int .i64 r3.2.2.2.2.2.1)),(T.sc (.string r3.2.2.2.2.2.2.1)),(T.list r3.2.2.2.2.2.2.2.1),(T.list r3.2.2.2.2.2.2.2.2.1),(T.list r3.2.2.2.2.2.2.2.2.2.1),(T.sc (.complex .f64 r3.2.2.2.2.2.2.2.2.2.2.1.1 r3.2.2.2.2.2.2.2.2.2.2.1.2))])] <= 1073741824)&&sized 11 [(T.agg [(T.sc (.int .i64 r3.1)),(T.sc (.string r3.2.1)),(T.sc (.string r3.2.2.1)),(T.sc (.int .i64 r3.2.2.2.1)),(T.sc (.int .i64 r3.2.2.2.2.1)),(T.sc (.int .i64 r3.2.2.2.2.2.1)),(T.sc (.string r3.2.2.2.2.2.2.1)),(T.list r3.2.2.2.2.2.2.2.1),(T.list r3.2.2.2.2.2.2.2.2.1),(T.list r3.2.2.2.2.2.2.2.2.2.1),(T.sc (.complex .f64 r3.2.2.2.2.2.2.2.2.2.2.1.1 r3.2.2.2.2.2.2.2.2.2.2.1.2))])])) (k (s0,(s1++[(T.agg [(T.sc (.int .i64 r3.1)),(T.sc (.string r3.2.1)),(T.sc (.string r3.2.2.1)),(T.sc (.int .i64 r3.2.2.2.1)),(T.sc (.int .i64 r3.2.2.2.2.1)),(T.sc (.int .i64 r3.2.2.2.2.2.1)),(T.sc (.string r3.2.2.2.2.2.2.1)),(T.list r3.2.2.2.2.2.2.2.1),(T.list r3.2.2.2.2.2.2.2.2.1),(T.list r3.2.2.2.2.2.2.2.2.2.1),(T.sc (.complex .f64 r3.2.2.2.2.2.2.2.2.2.2.1.1 r3.2.2.2.2.2.2.2.2.2.2.1.2))])]),r3.2.2.2.2.2.2.2.2.2.2.2.1,r3.2.2.2.2.2.2.2.2.2.2.2.2.1,r3.2.2.2.2.2.2.2.2.2.2.2.2.2)))
else (
some (s1,(bif (!s4) then r2.2.1 else s2),(bif (!s4) then r2.2.2.1 else s3),(bif (!s4) then r2.2.2.2 else s4)))
def l_z18_5 (b:B_z18) (n:Nat):Nat -> Int × (List T) × (List T) × Int × Bool -> Option ((List T) × (List T) × Int × Bool)
 | 0,_=>none
 | m + 1,s=>l_z18_5_B b n (l_z18_5 b n m) s
def f_z18 (b:B_z18) (n:Nat) (a0:Int) (a1:List T) (a2:Int) (a3:Bool):Option ((List T) × (List T) × Int × Bool) :=
bif ((a0:Int) == 8) then (
Option.bind (m_z23 n a1 a2 a3) fun r0 =>
Option.bind (m_z24 n (⟨#[123]⟩:ByteArray) r0.1 r0.2.1 r0.2.2) fun r1 =>
Option.bind (l_z18_5 b n n (a0,([]:List T),r1.1,r1.2.1,r1.2.2)) fun p5 =>
Option.bind (m_z24 n (⟨#[125]⟩:ByteArray) p5.2.1 p5.2.2.1 p5.2.2.2) fun r6 =>
Option.bind (m_z3 n p5.1) fun r7 =>
some (r7,r6.1,r6.2.1,r6.2.2))
else (
Option.bind (m_z24 n (⟨#[123]⟩:ByteArray) a1 a2 a3) fun r8 =>
Option.bind (l_z18_5 b n n (a0,([]:List T),r8.1,r8.2.1,r8.2.2)) fun p10 =>
Option.bind (m_z24 n (⟨#[125]⟩:ByteArray) p10.2.1 p10.2.2.1 p10.2.2.2) fun r11 =>
Option.bind (m_z3 n p10.1) fun r12 =>
some (r12,r11.1,r11.2.1,r11.2.2))
def cs_z18 (b:B_z18) (hb:B_z18_ok b) (n:Nat):List (CalF Tryz.prog) := [⟨d_z23,m_z23 n,m_z23_ok n⟩,⟨d_z24,m_z24 n,m_z24_ok n⟩,⟨d_z32,m_z32 n,m_z32_ok n⟩,⟨d___parse_reader__stmt,b.y3,hb.y3⟩,⟨d_z3,m_z3 n,m_z3_ok n⟩]
def L_l_z18_5:LF := ⟨5,[0,1,5],[.ptr 0 0,.int .i64,.own 11,.box 3,.list,.int .i64,.bool],[⟨(.exit 0),[0,5],[.ptr 0 0,.own 11,.box 3,.list,.int .i64,.bool]⟩]⟩
def ls_z18 (b:B_z18) (n:Nat):List LE := [⟨5,loopS L_l_z18_5 (l_z18_5 b n n)⟩]
theorem l_z18_5_ok (b:B_z18) (hb:B_z18_ok b) (n:Nat):LoopOk Tryz.prog (mkSpec (cs_z18 b hb n) (ls_z18 b n)) 1 33 (loopAt Tryz.f81 0) := loopOk (L := L_l_z18_5) (f := l_z18_5 b n) (B := l_z18_5_B b n) (k := n) (loopAt_ok sound Tryz.func81 (by kernel_rfl)) (inner (by kernel_rfl) allN) (innerS (by kernel_rfl) allN) (fun _=>rfl) (fun _ _=>rfl) (by kernel_rfl) (fun _=>by kernel_rfl) (by kernel_rfl) (fun k a=>by kernel_rfl)
theorem f_z18_ok (b:B_z18) (hb:B_z18_ok b) (n:Nat):Ok Tryz.prog d_z18 (f_z18 b n) := fnOk sound (cs := cs_z18 b hb n) (ls := ls_z18 b n) (n := 33) Tryz.func81 (by kernel_rfl) (fun _=>by kernel_rfl) (inner (by kernel_rfl) (allC (l_z18_5_ok b hb n) allN)) (innerS (by kernel_rfl) allN) (by kernel_rfl) (fun a=>by kernel_rfl)
def f___parse_reader__stmt (b:B_z18) (n:Nat) (a0:Int) (a1:List T) (a2:Int) (a3:Bool):Option (Int × ByteArray × ByteArray × Int × Int × Int × ByteArray × (List T) × (List T) × (List T) × (Nat × Nat) × (List T) × Int × Bool) :=
Option.bind (idx true [.int .i64,.str,.int .i64,.cplx .f64] a1 a2) fun y0 =>
bif (((y0.cell 0).int:Int) != 1) then (
Option.bind (m_z23 n a1 a2 a3) fun r1 =>
some (0,(⟨#[]⟩:ByteArray),(⟨#[]⟩:ByteArray),0,0,0,(⟨#[]⟩:ByteArray),([]:List T),([]:List T),([]:List T),((y0.cell 3).re,(y0.cell 3).im),r1.1,r1.2.1,r1.2.2))
else (
Option.bind (m_z85 n (y0.cell 1).str) fun r2 =>
bif r2 then (
Option.bind (m_z25 n a1 a2 a3) fun r3 =>
Option.bind (m_z24 n (⟨#[61]⟩:ByteArray) r3.2.1 r3.2.2.1 r3.2.2.2) fun r4 =>
Option.bind (m_z22 n r4.1 r4.2.1 r4.2.2) fun r5 =>
some (1,r3.1,(⟨#[]⟩:ByteArray),0,r5.1,r5.2.1,r5.2.2.1,r5.2.2.2.1,([]:List T),([]:List T),((y0.cell 3).re,(y0.cell 3).im),r5.2.2.2.2.1,r5.2.2.2.2.2.1,r5.2.2.2.2.2.2))
else (
bif (ByteArray.toList (y0.cell 1).str == ByteArray.toList (⟨#[108,111,99,107]⟩:ByteArray)) then (
Option.bind (m_z25 n a1 (IntKind.wrap .i64 (a2 + 1)) a3) fun r6 =>
some (2,r6.1,(⟨#[]⟩:ByteArray),0,0,0,(⟨#[]⟩:ByteArray),([]:List T),([]:List T),([]:List T),((y0.cell 3).re,(y0.cell 3).im),r6.2.1,r6.2.2.1,r6.2.2.2))
else (
bif (ByteArray.toList (y0.cell 1).str == ByteArray.toList (⟨#[117,110,108,111,99,107]⟩:ByteArray)) then (
Option.bind (m_z25 n a1 (IntKind.wrap .i64 (a2 + 1)) a3) fun r7 =>
some (3,r7.1,(⟨#[]⟩:ByteArray),0,0,0,(⟨#[]⟩:ByteArray),([]:List T),([]:List T),([]:List T),((y0.cell 3).re,(y0.cell 3).im),r7.2.1,r7.2.2.1,r7.2.2.2))
else (
bif (ByteArray.toList (y0.cell 1).str == ByteArray.toList (⟨#[115,101,110,100]⟩:ByteArray)) then (
Option.bind (m_z25 n a1 (IntKind.wrap .i64 (a2 + 1)) a3) fun r8 =>
Option.bind (m_z22 n r8.2.1 r8.2.2.1 r8.2.2.2) fun r9 =>
some (4,r8.1,(⟨#[]⟩:ByteArray),0,r9.1,r9.2.1,r9.2.2.1,r9.2.2.2.1,([]:List T),([]:List T),((y0.cell 3).re,(y0.cell 3).im),r9.2.2.2.2.1,r9.2.2.2.2.2.1,r9.2.2.2.2.2.2))
else (
bif (ByteArray.toList (y0.cell 1).str == ByteArray.toList (⟨#[114,101,99,118]⟩:ByteArray)) then (
Option.bind (m_z25 n a1 (IntKind.wrap .i64 (a2 + 1)) a3) fun r10 =>
Option.bind (m_z25 n r10.2.1 r10.2.2.1 r10.2.2.2) fun r11 =>
some (5,r10.1,r11.1,0,0,0,(⟨#[]⟩:ByteArray),([]:List T),([]:List T),([]:List T),((y0.cell 3).re,(y0.cell 3).im),r11.2.1,r11.2.2.1,r11.2.2.2))
else (
bif (ByteArray.toList (y0.cell 1).str == ByteArray.toList (⟨#[112,114,105,110,116]⟩:ByteArray)) then (
Option.bind (m_z22 n a1 (IntKind.wrap .i64 (a2 + 1)) a3) fun r12 =>
some (6,(⟨#[]⟩:ByteArray),(⟨#[]⟩:ByteArray),0,r12.1,r12.2.1,r12.2.2.1,r12.2.2.2.1,([]:List T),([]:List T),((y0.cell 3).re,(y0.cell 3).im),r12.2.2.2.2.1,r12.2.2.2.2.2.1,r12.2.2.2.2.2.2))
else (
bif (ByteArray.toList (y0.cell 1).str == ByteArray.toList (⟨#[105,102]⟩:ByteArray)) then (
Option.bind (m_z22 n a1 (IntKind.wrap .i64 (a2 + 1)) a3) fun r13 =>
Option.bind (b.y2 a0 r13.2.2.2.2.1 r13.2.2.2.2.2.1 r13.2.2.2.2.2.2) fun r14 =>
Option.bind (m_z32 n (⟨#[101,108,115,101]⟩:ByteArray) r14.2.1 r14.2.2.1 r14.2.2.2) fun r15 =>
bif r15.1 then (
Option.bind (b.y2 a0 r15.2.1 (IntKind.wrap .i64 (r15.2.2.1 + 1)) r15.2.2.2) fun r16 =>
some (7,(⟨#[]⟩:ByteArray),(⟨#[]⟩:ByteArray),0,r13.1,r13.2.1,r13.2.2.1,r13.2.2.2.1,r14.1,r16.1,((y0.cell 3).re,(y0.cell 3).im),r16.2.1,r16.2.2.1,r16.2.2.2))
else (
some (7,(⟨#[]⟩:ByteArray),(⟨#[]⟩:ByteArray),0,r13.1,r13.2.1,r13.2.2.1,r13.2.2.2.1,r14.1,([]:List T),((y0.cell 3).re,(y0.cell 3).im),r15.2.1,r15.2.2.1,r15.2.2.2)))
else (
bif (ByteArray.toList (y0.cell 1).str == ByteArray.toList (⟨#[114,101,112,101,97,116]⟩:ByteArray)) then (
Option.bind (m_z17 n 9 a1 (IntKind.wrap .i64 (a2 + 1)) a3) fun r17 =>
Option.bind (b.y2 a0 r17.2.1 r17.2.2.1 r17.2.2.2) fun r18 =>
some (8,(⟨#[]⟩:ByteArray),(⟨#[]⟩:ByteArray),r17.1,0,0,(⟨#[]⟩:ByteArray),([]:List T),r18.1,([]:List T),((y0.cell 3).re,(y0.cell 3).im),r18.2.1,r18.2.2.1,r18.2.2.2))
else (
bif (ByteArray.toList (y0.cell 1).str == ByteArray.toList (⟨#[103,111,116,111]⟩:ByteArray)) then (
Option.bind (m_z25 n a1 (IntKind.wrap .i64 (a2 + 1)) a3) fun r19 =>
some (9,r19.1,(⟨#[]⟩:ByteArray),0,0,0,(⟨#[]⟩:ByteArray),([]:List T),([]:List T),([]:List T),((y0.cell 3).re,(y0.cell 3).im),r19.2.1,r19.2.2.1,r19.2.2.2))
else (
bif (ByteArray.toList (y0.cell 1).str == ByteArray.toList (⟨#[108,97,98,101,108]⟩:ByteArray)) then (
Option.bind (m_z25 n a1 (IntKind.wrap .i64 (a2 + 1)) a3) fun r20 =>
some (10,r20.1,(⟨#[]⟩:ByteArray),0,0,0,(⟨#[]⟩:ByteArray),([]:List T),([]:List T),([]:List T),((y0.cell 3).re,(y0.cell 3).im),r20.2.1,r20.2.2.1,r20.2.2.2))
else (
Option.bind (m_z23 n a1 (IntKind.wrap .i64 ((IntKind.wrap .i64 (a2 + 1)) - 1)) a3) fun r21 =>
some (0,(⟨#[]⟩:ByteArray),(⟨#[]⟩:ByteArray),0,0,0,(⟨#[]⟩:ByteArray),([]:List T),([]:List T),([]:List T),((y0.cell 3).re,(y0.cell 3).im),r21.1,r21.2.1,r21.2.2))))))))))))
theorem f___parse_reader__stmt_ok (b:B_z18) (hb:B_z18_ok b) (n:Nat):Ok Tryz.prog d___parse_reader__stmt (f___parse_reader__stmt b n) := fnOk0 sound [⟨d_z23,m_z23 n,m_z23_ok n⟩,⟨d_z85,m_z85 n,m_z85_ok n⟩,⟨d_z25,m_z25 n,m_z25_ok n⟩,⟨d_z24,m_z24 n,m_z24_ok n⟩,⟨d_z22,m_z22 n,m_z22_ok n⟩,⟨d_z18,b.y2,hb.y2⟩,⟨d_z32,m_z32 n,m_z32_ok n⟩,⟨d_z17,m_z17 n,m_z17_ok n⟩] Tryz.func118 (by kernel_rfl) (fun a=>by kernel_rfl)
def unB_z18 (n:Nat):Nat -> B_z18
 | 0=>{ y2 := fun _ _ _ _=>none,y3 := fun _ _ _ _=>none }
 | m + 1=>{ y2 := f_z18 (unB_z18 n m) n,y3 := f___parse_reader__stmt (unB_z18 n m) n }
theorem unB_z18_ok (n:Nat):∀ m,B_z18_ok (unB_z18 n m)
 | 0=>{ y2 := fun _ _ h=>(nomatch (show none = some _ from h)),y3 := fun _ _ h=>(nomatch (show none = some _ from h)) }
 | m + 1=>{ y2 := f_z18_ok _ (unB_z18_ok n m) n,y3 := f___parse_reader__stmt_ok _ (unB_z18_ok n m) n }
def m_z18 (n:Nat):Int -> List T -> Int -> Bool -> Option ((List T) × (List T) × Int × Bool) := (unB_z18 n n).y2
theorem m_z18_ok (n:Nat):Ok Tryz.prog d_z18 (m_z18 n) := (unB_z18_ok n n).y2
def m_z0 (n:Nat) (a0:List T):Option ((List T)) :=
must true (decide (0 <= 0)&&decide (0 <= ((List.length a0:Nat):Int))&&decide (((List.length a0:Nat):Int) <= ((List.length a0:Nat):Int))&&sized 1 a0) (must true (decide (((List.length a0:Nat):Int) = ((List.length a0:Nat):Int))) (some (List.drop (Int.toNat 0) (List.take (Int.toNat ((List.length a0:Nat):Int)) a0))))
def d_z0:FnF := ⟨82,[.list],[.own 1]⟩
theorem m_z0_ok (n:Nat):Ok Tryz.prog d_z0 (m_z0 n) := fnOk0 sound [] Tryz.func82 (by kernel_rfl) (fun a=>by kernel_rfl)
def l_z26_2_B (n:Nat) (k:(List T) × Int × Bool × (List T) × (List T) × (List T) × (List T) -> Option ((List T) × Int × Bool × (List T) × (List T) × (List T) × (List T))):(List T) × Int × Bool × (List T) × (List T) × (List T) × (List T) -> Option ((List T) × Int × Bool × (List T) × (List T) × (List T) × (List T)) := fun (s0,s1,s2,s3,s4,s5,s6) =>
Option.bind (idx (((!s2)&&!((((List.length s6:Nat):Int):Int) == 0))) [.int .i64,.str,.int .i64,.cplx .f64] s0 s1) fun y1 =>
bif (bif (!s2) then (bif ((((List.length s6:Nat):Int):Int) == 0) then true else (((y1.cell 0).int:Int) != 4)) else false) then (
bif ((((List.length s6:Nat):Int):Int) == 4) then (
Option.bind (m_z23 n s0 s1 s2) fun r2 =>
Option.bind (m_z24 n (⟨#[103,111]⟩:ByteArray) r2.1 r2.2.1 r2.2.2) fun r3 =>
Option.bind (m_z18 n 0 r3.1 r3.2.1 r3.2.2) fun r4 =>
must true ((Nat.beq 1 1 || Nat.beq 1 0)&&(decide (List.length s6 + List.length [(T.list r4.1)] <= 1073741824)&&sized 1 [(T.list r4.1)])) (k (r4.2.1,r4.2.2.1,r4.2.2.2,s3,s4,s5,(s6++[(T.list r4.1)]))))
else (
Option.bind (m_z24 n (⟨#[103,111]⟩:ByteArray) s0 s1 s2) fun r5 =>
Option.bind (m_z18 n 0 r5.1 r5.2.1 r5.2.2) fun r6 =>
must true ((Nat.beq 1 1 || Nat.beq 1 0)&&(decide (List.length s6 + List.length [(T.list r6.1)] <= 1073741824)&&sized 1 [(T.list r6.1)])) (k (r6.2.1,r6.2.2.1,r6.2.2.2,s3,s4,s5,(s6++[(T.list r6.1)])))))
else (
some (s0,s1,s2,s3,s4,s5,s6))
def l_z26_2 (n:Nat):Nat -> (List T) × Int × Bool × (List T) × (List T) × (List T) × (List T) -> Option ((List T) × Int × Bool × (List T) × (List T) × (List T) × (List T))
 | 0,_=>none
 | m + 1,s=>l_z26_2_B n (l_z26_2 n m) s
def m_z26 (n:Nat) (a0:List T) (a1:Int) (a2:Bool):Option ((List T) × (List T) × (List T) × Int × Bool) :=
Option.bind (m_z19 n a0 a1 a2) fun r0 =>
Option.bind (l_z26_2 n n (r0.2.1,r0.2.2.1,r0.2.2.2,([]:List T),([]:List T),r0.1,([]:List T))) fun p8 =>
Option.bind (m_z0 n p8.2.2.2.2.2.2) fun r9 =>
some (p8.2.2.2.2.2.1,r9,p8.1,p8.2.1,p8.2.2.1)
def d_z26:FnF := ⟨42,[.ptr 0 0,.box 3,.list,.int .i64,.bool],[.agg 2,.list,.list,.box 3,.list,.int .i64,.bool]⟩
def cs_z26 (n:Nat):List (CalF Tryz.prog) := [⟨d_z19,m_z19 n,m_z19_ok n⟩,⟨d_z23,m_z23 n,m_z23_ok n⟩,⟨d_z24,m_z24 n,m_z24_ok n⟩,⟨d_z18,m_z18 n,m_z18_ok n⟩,⟨d_z0,m_z0 n,m_z0_ok n⟩]
def L_l_z26_2:LF := ⟨2,[0,2,3],[.ptr 0 0,.ptr 1 0,.ptr 2 0,.box 3,.list,.int .i64,.bool,.box 2,.own 0,.own 0,.box 2,.list,.own 1],[⟨(.exit 0),[2,3],[.ptr 1 0,.ptr 2 0,.box 3,.list,.int .i64,.bool,.box 2,.own 0,.own 0,.box 2,.list,.own 1]⟩]⟩
def ls_z26 (n:Nat):List LE := [⟨2,loopS L_l_z26_2 (l_z26_2 n n)⟩]
theorem l_z26_2_ok (n:Nat):LoopOk Tryz.prog (mkSpec (cs_z26 n) (ls_z26 n)) 1 52 (loopAt Tryz.f42 0) := loopOk (L := L_l_z26_2) (f := l_z26_2 n) (B := l_z26_2_B n) (k := n) (loopAt_ok sound Tryz.func42 (by kernel_rfl)) (inner (by kernel_rfl) allN) (innerS (by kernel_rfl) allN) (fun _=>rfl) (fun _ _=>rfl) (by kernel_rfl) (fun _=>by kernel_rfl) (by kernel_rfl) (fun k a=>by kernel_rfl)
theorem m_z26_ok (n:Nat):Ok Tryz.prog d_z26 (m_z26 n) := fnOk sound (cs := cs_z26 n) (ls := ls_z26 n) (n := 52) Tryz.func42 (by kernel_rfl) (fun _=>by kernel_rfl) (inner (by kernel_rfl) (allC (l_z26_2_ok n) allN)) (innerS (by kernel_rfl) allN) (by kernel_rfl) (fun a=>by kernel_rfl)
def m_z92 (n:Nat) (a0:ByteArray):Option ((List T) × (List T) × (Nat × Nat) × Int) :=
Option.bind (m_z86 n a0) fun r0 =>
bif ((r0.2.2:Int) != 0) then (
some (([]:List T),([]:List T),r0.2.1,r0.2.2))
else (
Option.bind (m_z26 n r0.1 0 false) fun r1 =>
bif r1.2.2.2.2 then (
Option.bind (idx true [.int .i64,.str,.int .i64,.cplx .f64] r0.1 r1.2.2.2.1) fun y2 =>
some (([]:List T),([]:List T),((y2.cell 3).re,(y2.cell 3).im),2))
else (
some (r1.1,r1.2.1,(0,0),0)))
def d_z92:FnF := ⟨19,[.str],[.tup 3,.agg 2,.list,.list,.cplx .f64,.int .i64]⟩
theorem m_z92_ok (n:Nat):Ok Tryz.prog d_z92 (m_z92 n) := fnOk0 sound [⟨d_z86,m_z86 n,m_z86_ok n⟩,⟨d_z26,m_z26 n,m_z26_ok n⟩] Tryz.func19 (by kernel_rfl) (fun a=>by kernel_rfl)
def m_z45 (n:Nat) (a0:Int):Option (Bool) :=
some (bif (decide ((a0:Int) ≥ 97)) then (decide ((a0:Int) <= 122)) else false)
def d_z45:FnF := ⟨120,[.int .u8],[.bool]⟩
theorem m_z45_ok (n:Nat):Ok Tryz.prog d_z45 (m_z45 n) := fnOk0 sound [] Tryz.func120 (by kernel_rfl) (fun a=>by kernel_rfl)
def m_z57 (n:Nat) (a0:Int):Option (Bool) :=
some (bif (decide ((a0:Int) ≥ 48)) then (decide ((a0:Int) <= 57)) else false)
def d_z57:FnF := ⟨121,[.int .u8],[.bool]⟩
theorem m_z57_ok (n:Nat):Ok Tryz.prog d_z57 (m_z57 n) := fnOk0 sound [] Tryz.func121 (by kernel_rfl) (fun a=>by kernel_rfl)
def l_z46_3_B (n:Nat) (k:ByteArray × Int × Int -> Option (((Int × Bool) ⊕ ByteArray × Int))):ByteArray × Int × Int -> Option (((Int × Bool) ⊕ ByteArray × Int)) := fun (s0,s1,s2) =>
bif (decide ((s2:Int) < ((ByteArray.size s0:Nat):Int))) then (
Option.bind (bidx true s0 s2) fun b0 =>
must true (!decide (10 = 0)) (bif (decide ((s1:Int) > (IntKind.wrap .i64 (Int.tdiv (IntKind.wrap .i64 (9223372036854775807 - (IntKind.wrap .i64 (IntKind.wrap .u8 (((UInt8.toNat b0:Nat):Int) - 48))))) 10)))) then (
some (Sum.inl (0,false)))
else (
k (s0,(IntKind.wrap .i64 ((IntKind.wrap .i64 (10 * s1)) + (IntKind.wrap .i64 (IntKind.wrap .u8 (((UInt8.toNat b0:Nat):Int) - 48))))),(IntKind.wrap .i64 (s2 + 1))))))
else (
some (Sum.inr (s0,s1)))
def l_z46_3 (n:Nat):Nat -> ByteArray × Int × Int -> Option (((Int × Bool) ⊕ ByteArray × Int))
 | 0,_=>none
 | m + 1,s=>l_z46_3_B n (l_z46_3 n m) s
def m_z46 (n:Nat) (a0:ByteArray):Option (Int × Bool) :=
Option.bind (l_z46_3 n n (a0,0,0)) fun x1 =>
Sum.elim (fun p2 =>
some (p2.1,p2.2)) (fun x1'=>(fun p3 =>
Option.bind (bidx ((!(ByteArray.toList p3.1 == ByteArray.toList (⟨#[]⟩:ByteArray)))) p3.1 0) fun b4 =>
some (p3.2,(bif (!(ByteArray.toList p3.1 == ByteArray.toList (⟨#[]⟩:ByteArray))) then (bif ((((UInt8.toNat b4:Nat):Int):Int) != 48) then true else (ByteArray.toList p3.1 == ByteArray.toList (⟨#[48]⟩:ByteArray))) else false))) x1') x1
def d_z46:FnF := ⟨122,[.str],[.tup 2,.int .i64,.bool]⟩
def cs_z46 (n:Nat):List (CalF Tryz.prog) := []
def L_l_z46_3:LF := ⟨3,[0,4,5],[.str,.int .i64,.int .i64],[⟨.ret,[2,3],[.int .i64,.bool]⟩,⟨(.exit 0),[0,4],[.str,.int .i64]⟩]⟩
def ls_z46 (n:Nat):List LE := [⟨3,loopS L_l_z46_3 (l_z46_3 n n)⟩]
theorem l_z46_3_ok (n:Nat):LoopOk Tryz.prog (mkSpec (cs_z46 n) (ls_z46 n)) 0 39 (loopAt Tryz.f122 0) := loopOk (L := L_l_z46_3) (f := l_z46_3 n) (B := l_z46_3_B n) (k := n) (loopAt_ok sound Tryz.func122 (by kernel_rfl)) (inner (by kernel_rfl) allN) (innerS (by kernel_rfl) allN) (fun _=>rfl) (fun _ _=>rfl) (by kernel_rfl) (fun _=>by kernel_rfl) (by kernel_rfl) (fun k a=>by kernel_rfl)
theorem m_z46_ok (n:Nat):Ok Tryz.prog d_z46 (m_z46 n) := fnOk sound (cs := cs_z46 n) (ls := ls_z46 n) (n := 39) Tryz.func122 (by kernel_rfl) (fun _=>by kernel_rfl) (inner (by kernel_rfl) (allC (l_z46_3_ok n) allN)) (innerS (by kernel_rfl) allN) (by kernel_rfl) (fun a=>by kernel_rfl)
def l_z75_4_B (n:Nat) (k:ByteArray × Int × Int × Int × ByteArray × Int × Int -> Option (ByteArray × Int × Int × Int × ByteArray × Int × Int)):ByteArray × Int × Int × Int × ByteArray × Int × Int -> Option (ByteArray × Int × Int × Int × ByteArray × Int × Int) := fun (s0,s1,s2,s3,s4,s5,s6) =>
Option.bind (bidx ((decide ((s2:Int) < ((ByteArray.size s0:Nat):Int)))) s0 s2) fun b2 =>
Option.bind (bif (decide ((s2:Int) < ((ByteArray.size s0:Nat):Int))) then m_z45 n ((UInt8.toNat b2:Nat):Int) else some false) fun r3 =>
Option.bind (bidx (((decide ((s2:Int) < ((ByteArray.size s0:Nat):Int)))&&!r3)) s0 s2) fun b4 =>
Option.bind (bif ((decide ((s2:Int) < ((ByteArray.size s0:Nat):Int)))&&!r3) then m_z57 n ((UInt8.toNat b4:Nat):Int) else some false) fun r5 =>
bif (bif (decide ((s2:Int) < ((ByteArray.size s0:Nat):Int))) then (bif r3 then true else r5) else false) then (
k (s0,s1,(IntKind.wrap .i64 (s2 + 1)),s3,s4,s5,s6))
else (
some (s0,s1,s2,s3,s4,s5,s6))
def l_z75_4 (n:Nat):Nat -> ByteArray × Int × Int × Int × ByteArray × Int × Int -> Option (ByteArray × Int × Int × Int × ByteArray × Int × Int)
 | 0,_=>none
 | m + 1,s=>l_z75_4_B n (l_z75_4 n m) s
def l_z75_10_B (n:Nat) (k:ByteArray × Int × Int × Int × ByteArray × Int × Int -> Option (ByteArray × Int × Int × Int × ByteArray × Int × Int)):ByteArray × Int × Int × Int × ByteArray × Int × Int -> Option (ByteArray × Int × Int × Int × ByteArray × Int × Int) := fun (s0,s1,s2,s3,s4,s5,s6) =>
Option.bind (bidx ((decide ((s2:Int) < ((ByteArray.size s0:Nat):Int)))) s0 s2) fun b9 =>
Option.bind (bif (decide ((s2:Int) < ((ByteArray.size s0:Nat):Int))) then m_z57 n ((UInt8.toNat b9:Nat):Int) else some false) fun r10 =>
bif (bif (decide ((s2:Int) < ((ByteArray.size s0:Nat):Int))) then r10 else false) then (
k (s0,s1,(IntKind.wrap .i64 (s2 + 1)),s3,s4,s5,s6))
else (
some (s0,s1,s2,s3,s4,s5,s6))
def l_z75_10 (n:Nat):Nat -> ByteArray × Int × Int × Int × ByteArray × Int × Int -> Option (ByteArray × Int × Int × Int × ByteArray × Int × Int)
 | 0,_=>none
 | m + 1,s=>l_z75_10_B n (l_z75_10 n m) s
def l_z75_19_B (n:Nat) (k:ByteArray × Int × Int × Int × Int × Int × ByteArray × Int × Int -> Option (((Int × Int × ByteArray × Int × Int) ⊕ Int × ByteArray × Int × Int))):ByteArray × Int × Int × Int × Int × Int × ByteArray × Int × Int -> Option (((Int × Int × ByteArray × Int × Int) ⊕ Int × ByteArray × Int × Int)) := fun (s0,s1,s2,s3,s4,s5,s6,s7,s8) =>
bif (decide ((s4:Int) < 11)) then (
Option.bind (bidx true (⟨#[61,60,43,45,42,47,37,40,41,123,125]⟩:ByteArray) s4) fun b15 =>
bif ((((UInt8.toNat b15:Nat):Int):Int) == s2) then (
must true (decide (0 <= s1)&&decide (s1 <= s3)&&decide (s3 <= ((ByteArray.size s0:Nat):Int))) (some (Sum.inl (1,3,(ByteArray.extract s0 (Int.toNat s1) (Int.toNat s3)),0,s1))))
else (
k (s0,s1,s2,s3,(IntKind.wrap .i64 (s4 + 1)),s5,s6,s7,s8)))
else (
some (Sum.inr (s5,s6,s7,s8)))
def l_z75_19 (n:Nat):Nat -> ByteArray × Int × Int × Int × Int × Int × ByteArray × Int × Int -> Option (((Int × Int × ByteArray × Int × Int) ⊕ Int × ByteArray × Int × Int))
 | 0,_=>none
 | m + 1,s=>l_z75_19_B n (l_z75_19 n m) s
def m_z75 (n:Nat) (a0:ByteArray) (a1:Int):Option (Int × ByteArray × Int × Int × Int) :=
Option.bind (bidx true a0 a1) fun b0 =>
Option.bind (m_z45 n ((UInt8.toNat b0:Nat):Int)) fun r1 =>
bif r1 then (
Option.bind (l_z75_4 n n (a0,a1,(IntKind.wrap .i64 (a1 + 1)),0,(⟨#[]⟩:ByteArray),0,0)) fun p7 =>
bif (decide (((IntKind.wrap .i64 (p7.2.2.1 - p7.2.1)):Int) > 12)) then (
some (0,(⟨#[]⟩:ByteArray),0,0,0))
else (
must true (decide (0 <= p7.2.1)&&decide (p7.2.1 <= p7.2.2.1)&&decide (p7.2.2.1 <= ((ByteArray.size p7.1:Nat):Int))) (some (1,(ByteArray.extract p7.1 (Int.toNat p7.2.1) (Int.toNat p7.2.2.1)),0,p7.2.1,(IntKind.wrap .i64 (p7.2.2.1 - p7.2.1))))))
else (
Option.bind (m_z57 n ((UInt8.toNat b0:Nat):Int)) fun r8 =>
bif r8 then (
Option.bind (l_z75_10 n n (a0,a1,(IntKind.wrap .i64 (a1 + 1)),0,(⟨#[]⟩:ByteArray),0,0)) fun p12 =>
must true (decide (0 <= p12.2.1)&&decide (p12.2.1 <= p12.2.2.1)&&decide (p12.2.2.1 <= ((ByteArray.size p12.1:Nat):Int))) (Option.bind (m_z46 n (ByteArray.extract p12.1 (Int.toNat p12.2.1) (Int.toNat p12.2.2.1))) fun r13 =>
bif (!r13.2) then (
some (0,(⟨#[]⟩:ByteArray),0,0,0))
else (
must true (decide (0 <= p12.2.1)&&decide (p12.2.1 <= p12.2.2.1)&&decide (p12.2.2.1 <= ((ByteArray.size p12.1:Nat):Int))) (some (2,(ByteArray.extract p12.1 (Int.toNat p12.2.1) (Int.toNat p12.2.2.1)),r13.1,p12.2.1,(IntKind.wrap .i64 (p12.2.2.1 - p12.2.1)))))))
else (
Option.bind (bidx ((bif ((((UInt8.toNat b0:Nat):Int):Int) == 61) then (decide (((IntKind.wrap .i64 (a1 + 1)):Int) < ((ByteArray.size a0:Nat):Int))) else false)) a0 (IntKind.wrap .i64 (a1 + 1))) fun b14 =>
bif (bif (bif ((((UInt8.toNat b0:Nat):Int):Int) == 61) then (decide (((IntKind.wrap .i64 (a1 + 1)):Int) < ((ByteArray.size a0:Nat):Int))) else false) then ((((UInt8.toNat b14:Nat):Int):Int) == 61) else false) then (
some (3,(⟨#[61,61]⟩:ByteArray),0,a1,2))
else (
Option.bind (l_z75_19 n n (a0,a1,((UInt8.toNat b0:Nat):Int),(IntKind.wrap .i64 (a1 + 1)),0,0,(⟨#[]⟩:ByteArray),0,0)) fun x16 =>
Sum.elim (fun p17 =>
some (p17.2.1,p17.2.2.1,p17.2.2.2.1,p17.2.2.2.2,p17.1)) (fun x16'=>(fun p18 =>
some (0,(⟨#[]⟩:ByteArray),0,0,0)) x16') x16)))
def d_z75:FnF := ⟨83,[.str,.int .i64],[.tup 2,.agg 4,.int .i64,.str,.int .i64,.int .i64,.int .i64]⟩
def cs_z75 (n:Nat):List (CalF Tryz.prog) := [⟨d_z45,m_z45 n,m_z45_ok n⟩,⟨d_z57,m_z57 n,m_z57_ok n⟩,⟨d_z46,m_z46 n,m_z46_ok n⟩]
def L_l_z75_4:LF := ⟨4,[0,1,4,7],[.str,.int .i64,.ptr 0 0,.int .i64,.box 4,.int .i64,.str,.int .i64,.int .i64],[⟨(.exit 1),[0,1,4,7],[.str,.int .i64,.ptr 0 0,.int .i64,.box 4,.int .i64,.str,.int .i64,.int .i64]⟩]⟩
def L_l_z75_10:LF := ⟨10,[0,1,4,7],[.str,.int .i64,.ptr 0 0,.int .i64,.box 4,.int .i64,.str,.int .i64,.int .i64],[⟨(.exit 3),[0,1,4,7],[.str,.int .i64,.ptr 0 0,.int .i64,.box 4,.int .i64,.str,.int .i64,.int .i64]⟩]⟩
def L_l_z75_19:LF := ⟨19,[0,1,4,6,7,10],[.str,.int .i64,.ptr 0 0,.int .u8,.int .i64,.int .i64,.box 4,.int .i64,.str,.int .i64,.int .i64],[⟨.ret,[4,5],[.ptr 0 0,.int .i64,.box 4,.int .i64,.str,.int .i64,.int .i64]⟩,⟨(.exit 5),[4],[.ptr 0 0,.box 4,.int .i64,.str,.int .i64,.int .i64]⟩]⟩
def ls_z75 (n:Nat):List LE := [⟨4,loopS L_l_z75_4 (l_z75_4 n n)⟩,⟨10,loopS L_l_z75_10 (l_z75_10 n n)⟩,⟨19,loopS L_l_z75_19 (l_z75_19 n n)⟩]
theorem l_z75_4_ok (n:Nat):LoopOk Tryz.prog (mkSpec (cs_z75 n) (ls_z75 n)) 0 119 (loopAt Tryz.f83 0) := loopOk (L := L_l_z75_4) (f := l_z75_4 n) (B := l_z75_4_B n) (k := n) (loopAt_ok sound Tryz.func83 (by kernel_rfl)) (inner (by kernel_rfl) allN) (innerS (by kernel_rfl) allN) (fun _=>rfl) (fun _ _=>rfl) (by kernel_rfl) (fun _=>by kernel_rfl) (by kernel_rfl) (fun k a=>by kernel_rfl)
theorem l_z75_10_ok (n:Nat):LoopOk Tryz.prog (mkSpec (cs_z75 n) (ls_z75 n)) 0 119 (loopAt Tryz.f83 1) := loopOk (L := L_l_z75_10) (f := l_z75_10 n) (B := l_z75_10_B n) (k := n) (loopAt_ok sound Tryz.func83 (by kernel_rfl)) (inner (by kernel_rfl) allN) (innerS (by kernel_rfl) allN) (fun _=>rfl) (fun _ _=>rfl) (by kernel_rfl) (fun _=>by kernel_rfl) (by kernel_rfl) (fun k a=>by kernel_rfl)
theorem l_z75_19_ok (n:Nat):LoopOk Tryz.prog (mkSpec (cs_z75 n) (ls_z75 n)) 0 119 (loopAt Tryz.f83 2) := loopOk (L := L_l_z75_19) (f := l_z75_19 n) (B := l_z75_19_B n) (k := n) (loopAt_ok sound Tryz.func83 (by kernel_rfl)) (inner (by kernel_rfl) allN) (innerS (by kernel_rfl) allN) (fun _=>rfl) (fun _ _=>rfl) (by kernel_rfl) (fun _=>by kernel_rfl) (by kernel_rfl) (fun k a=>by kernel_rfl)
theorem m_z75_ok (n:Nat):Ok Tryz.prog d_z75 (m_z75 n) := fnOk sound (cs := cs_z75 n) (ls := ls_z75 n) (n := 119) Tryz.func83 (by kernel_rfl) (fun _=>by kernel_rfl) (inner (by kernel_rfl) (allC (l_z75_4_ok n) (allC (l_z75_10_ok n) (allC (l_z75_19_ok n) allN)))) (innerS (by kernel_rfl) allN) (by kernel_rfl) (fun a=>by kernel_rfl)
def l_z42_10_B (n:Nat) (k:ByteArray × (List T) × Int -> Option (ByteArray × (List T) × Int)):ByteArray × (List T) × Int -> Option (ByteArray × (List T) × Int) := fun (s0,s1,s2) =>
Option.bind (bidx ((decide ((s2:Int) < ((ByteArray.size s0:Nat):Int)))) s0 s2) fun b1 =>
bif (bif (decide ((s2:Int) < ((ByteArray.size s0:Nat):Int))) then ((((UInt8.toNat b1:Nat):Int):Int) != 10) else false) then (
k (s0,s1,(IntKind.wrap .i64 (s2 + 1))))
else (
some (s0,s1,s2))
def l_z42_10 (n:Nat):Nat -> ByteArray × (List T) × Int -> Option (ByteArray × (List T) × Int)
 | 0,_=>none
 | m + 1,s=>l_z42_10_B n (l_z42_10 n m) s
def l_z42_5_B (n:Nat) (k:ByteArray × (List T) × Int -> Option ((((List T) × Int × Int) ⊕ (List T) × Int))):ByteArray × (List T) × Int -> Option ((((List T) × Int × Int) ⊕ (List T) × Int)) := fun (s0,s1,s2) =>
bif (decide ((s2:Int) < ((ByteArray.size s0:Nat):Int))) then (
Option.bind (bidx true s0 s2) fun b0 =>
bif (bif (bif ((((UInt8.toNat b0:Nat):Int):Int) == 32) then true else ((((UInt8.toNat b0:Nat):Int):Int) == 9)) then true else ((((UInt8.toNat b0:Nat):Int):Int) == 10)) then (
k (s0,s1,(IntKind.wrap .i64 (s2 + 1))))
else (
bif ((((UInt8.toNat b0:Nat):Int):Int) == 35) then (
Option.bind (l_z42_10 n n (s0,s1,s2)) fun p3 =>
k (p3.1,p3.2.1,p3.2.2))
else (
Option.bind (m_z75 n s0 s2) fun r4 =>
bif ((r4.2.2.2.2:Int) == 0) then (
some (Sum.inl (([]:List T),s2,2)))
else (
must true ((Nat.beq 4 4 || Nat.beq 4 0)&&(decide (List.length s1 + List.length [(T.agg [(T.sc (.int .i64 r4.1)),(T.sc (.string r4.2.1)),(T.sc (.int .i64 r4.2.2.1)),(T.sc (.int .i64 r4.2.2.2.1))])] <= 1073741824)&&sized 4 [(T.agg [(T.sc (.int .i64 r4.1)),(T.sc (.string r4.2.1)),(T.sc (.int .i64 r4.2.2.1)),(T.sc (.int .i64 r4.2.2.2.1))])])) (k (s0,(s1++[(T.agg [(T.sc (.int .i64 r4.1)),(T.sc (.string r4.2.1)),(T.sc (.int .i64 r4.2.2.1)),(T.sc (.int .i64 r4.2.2.2.1))])]),(IntKind.wrap .i64 (s2 + r4.2.2.2.2))))))))
else (
some (Sum.inr (s1,s2)))
def l_z42_5 (n:Nat):Nat -> ByteArray × (List T) × Int -> Option ((((List T) × Int × Int) ⊕ (List T) × Int))
 | 0,_=>none
 | m + 1,s=>l_z42_5_B n (l_z42_5 n m) s
def m_z42 (n:Nat) (a0:ByteArray):Option ((List T) × Int × Int) :=
bif (decide ((((ByteArray.size a0:Nat):Int):Int) > 6000)) then (
some (([]:List T),6000,2))
else (
Option.bind (l_z42_5 n n (a0,([]:List T),0)) fun x5 =>
Sum.elim (fun p6 =>
some (p6.1,p6.2.1,p6.2.2)) (fun x5'=>(fun p7 =>
must true ((Nat.beq 4 4 || Nat.beq 4 0)&&(decide (List.length p7.1 + List.length [(T.agg [(T.sc (.int .i64 4)),(T.sc (.string (⟨#[]⟩:ByteArray))),(T.sc (.int .i64 0)),(T.sc (.int .i64 p7.2))])] <= 1073741824)&&sized 4 [(T.agg [(T.sc (.int .i64 4)),(T.sc (.string (⟨#[]⟩:ByteArray))),(T.sc (.int .i64 0)),(T.sc (.int .i64 p7.2))])])) (some ((p7.1++[(T.agg [(T.sc (.int .i64 4)),(T.sc (.string (⟨#[]⟩:ByteArray))),(T.sc (.int .i64 0)),(T.sc (.int .i64 p7.2))])]),0,0))) x5') x5)
def d_z42:FnF := ⟨43,[.str],[.tup 3,.list,.int .i64,.int .i64]⟩
def cs_z42 (n:Nat):List (CalF Tryz.prog) := [⟨d_z75,m_z75 n,m_z75_ok n⟩]
def L_l_z42_10:LF := ⟨10,[0,5,6],[.str,.own 4,.int .i64],[⟨(.exit 2),[0,5,6],[.str,.own 4,.int .i64]⟩]⟩
def L_l_z42_5:LF := ⟨5,[0,5,6],[.str,.own 4,.int .i64],[⟨.ret,[2,3,4],[.own 0,.int .i64,.int .i64]⟩,⟨(.exit 0),[5,6],[.own 4,.int .i64]⟩]⟩
def ls_z42 (n:Nat):List LE := [⟨10,loopS L_l_z42_10 (l_z42_10 n n)⟩,⟨5,loopS L_l_z42_5 (l_z42_5 n n)⟩]
theorem l_z42_10_ok (n:Nat):LoopOk Tryz.prog (mkSpec (cs_z42 n) (ls_z42 n)) 0 67 (loopAt Tryz.f43 1) := loopOk (L := L_l_z42_10) (f := l_z42_10 n) (B := l_z42_10_B n) (k := n) (loopAt_ok sound Tryz.func43 (by kernel_rfl)) (inner (by kernel_rfl) allN) (innerS (by kernel_rfl) allN) (fun _=>rfl) (fun _ _=>rfl) (by kernel_rfl) (fun _=>by kernel_rfl) (by kernel_rfl) (fun k a=>by kernel_rfl)
theorem l_z42_5_ok (n:Nat):LoopOk Tryz.prog (mkSpec (cs_z42 n) (ls_z42 n)) 0 67 (loopAt Tryz.f43 0) := loopOk (L := L_l_z42_5) (f := l_z42_5 n) (B := l_z42_5_B n) (k := n) (loopAt_ok sound Tryz.func43 (by kernel_rfl)) (inner (by kernel_rfl) (allC (l_z42_10_ok n) allN)) (innerS (by kernel_rfl) allN) (fun _=>rfl) (fun _ _=>rfl) (by kernel_rfl) (fun _=>by kernel_rfl) (by kernel_rfl) (fun k a=>by kernel_rfl)
theorem m_z42_ok (n:Nat):Ok Tryz.prog d_z42 (m_z42 n) := fnOk sound (cs := cs_z42 n) (ls := ls_z42 n) (n := 67) Tryz.func43 (by kernel_rfl) (fun _=>by kernel_rfl) (inner (by kernel_rfl) (allC (l_z42_5_ok n) (allC (l_z42_10_ok n) allN))) (innerS (by kernel_rfl) allN) (by kernel_rfl) (fun a=>by kernel_rfl)
def l_z31_2_B (n:Nat) (k:ByteArray × ByteArray × ByteArray × ByteArray × ByteArray × ByteArray × ByteArray × Int -> Option (((Int) ⊕ Unit))):ByteArray × ByteArray × ByteArray × ByteArray × ByteArray × ByteArray × ByteArray × Int -> Option (((Int) ⊕ Unit)) := fun (s0,s1,s2,s3,s4,s5,s6,s7) =>
bif (decide ((s7:Int) < 6)) then (
Option.bind (idx1 true (.str) [(T.sc (.string s1)),(T.sc (.string s2)),(T.sc (.string s3)),(T.sc (.string s4)),(T.sc (.string s5)),(T.sc (.string s6))] s7) fun y0 =>
bif (ByteArray.toList s0 == ByteArray.toList y0.str) then (
some (Sum.inl (IntKind.wrap .i64 (1 + s7))))
else (
k (s0,s1,s2,s3,s4,s5,s6,(IntKind.wrap .i64 (s7 + 1)))))
else (
some (Sum.inr ()))
def l_z31_2 (n:Nat):Nat -> ByteArray × ByteArray × ByteArray × ByteArray × ByteArray × ByteArray × ByteArray × Int -> Option (((Int) ⊕ Unit))
 | 0,_=>none
 | m + 1,s=>l_z31_2_B n (l_z31_2 n m) s
def m_z31 (n:Nat) (a0:ByteArray):Option (Int) :=
Option.bind (l_z31_2 n n (a0,(⟨#[118,97,114]⟩:ByteArray),(⟨#[119,105,100,101]⟩:ByteArray),(⟨#[97,116,111,109,105,99]⟩:ByteArray),(⟨#[108,111,99,97,108]⟩:ByteArray),(⟨#[109,117,116,101,120]⟩:ByteArray),(⟨#[99,104,97,110]⟩:ByteArray),0)) fun x1 =>
Sum.elim (fun p2 =>
some p2) (fun x1'=>(fun p3 =>
some 0) x1') x1
def d_z31:FnF := ⟨44,[.str],[.int .i64]⟩
def cs_z31 (n:Nat):List (CalF Tryz.prog) := []
def L_l_z31_2:LF := ⟨2,[0,5,6],[.str,.agg 6,.str,.str,.str,.str,.str,.str,.int .i64],[⟨.ret,[2],[.int .i64]⟩,⟨(.exit 0),[],[]⟩]⟩
def ls_z31 (n:Nat):List LE := [⟨2,loopS L_l_z31_2 (l_z31_2 n n)⟩]
theorem l_z31_2_ok (n:Nat):LoopOk Tryz.prog (mkSpec (cs_z31 n) (ls_z31 n)) 0 16 (loopAt Tryz.f44 0) := loopOk (L := L_l_z31_2) (f := l_z31_2 n) (B := l_z31_2_B n) (k := n) (loopAt_ok sound Tryz.func44 (by kernel_rfl)) (inner (by kernel_rfl) allN) (innerS (by kernel_rfl) allN) (fun _=>rfl) (fun _ _=>rfl) (by kernel_rfl) (fun _=>by kernel_rfl) (by kernel_rfl) (fun k a=>by kernel_rfl)
theorem m_z31_ok (n:Nat):Ok Tryz.prog d_z31 (m_z31 n) := fnOk sound (cs := cs_z31 n) (ls := ls_z31 n) (n := 16) Tryz.func44 (by kernel_rfl) (fun _=>by kernel_rfl) (inner (by kernel_rfl) (allC (l_z31_2_ok n) allN)) (innerS (by kernel_rfl) allN) (by kernel_rfl) (fun a=>by kernel_rfl)
def m_z7 (n:Nat) (a0:Int) (a1:List T) (a2:Int) (a3:Bool) (a4:Int):Option ((List T) × Int × Bool × Int) :=
bif (!a3) then (
some (a1,a2,true,a0))
else (
some (a1,a2,a3,a4))
def d_z7:FnF := ⟨84,[.ptr 0 0,.int .i64,.box 4,.list,.int .i64,.bool,.int .i64],[.tup 0,.box 4,.list,.int .i64,.bool,.int .i64]⟩
theorem m_z7_ok (n:Nat):Ok Tryz.prog d_z7 (m_z7 n) := fnOk0 sound [] Tryz.func84 (by kernel_rfl) (fun a=>by kernel_rfl)
def m_z12 (n:Nat) (a0:List T) (a1:Int) (a2:Bool) (a3:Int):Option ((List T) × Int × Bool × Int) :=
Option.bind (m_z7 n a1 a0 a1 a2 a3) fun r0 =>
some (r0.1,r0.2.1,r0.2.2.1,r0.2.2.2)
def d_z12:FnF := ⟨45,[.ptr 0 0,.box 4,.list,.int .i64,.bool,.int .i64],[.tup 0,.box 4,.list,.int .i64,.bool,.int .i64]⟩
theorem m_z12_ok (n:Nat):Ok Tryz.prog d_z12 (m_z12 n) := fnOk0 sound [⟨d_z7,m_z7 n,m_z7_ok n⟩] Tryz.func45 (by kernel_rfl) (fun a=>by kernel_rfl)
def m_z43 (n:Nat) (a0:Int) (a1:Int) (a2:Int):Option (Int) :=
some (if (a1:Int) < (if (a0:Int) < a2 then a0 else a2) then (if (a0:Int) < a2 then a0 else a2) else a1)
def d_z43:FnF := ⟨89,[.int .i64,.int .i64,.int .i64],[.int .i64]⟩
theorem m_z43_ok (n:Nat):Ok Tryz.prog d_z43 (m_z43 n) := fnOk0 sound [] Tryz.func89 (by kernel_rfl) (fun a=>by kernel_rfl)
def l_z69_5_B (n:Nat) (k:ByteArray × Int × Int × Int × Int -> Option (Int × Int)):ByteArray × Int × Int × Int × Int -> Option (Int × Int) := fun (s0,s1,s2,s3,s4) =>
bif (decide ((s4:Int) < s1)) then (
Option.bind (bidx true s0 s4) fun b1 =>
bif ((((UInt8.toNat b1:Nat):Int):Int) == 10) then (
k (s0,s1,(IntKind.wrap .i64 (s2 + 1)),1,(IntKind.wrap .i64 (s4 + 1))))
else (
k (s0,s1,s2,(IntKind.wrap .i64 (s3 + 1)),(IntKind.wrap .i64 (s4 + 1)))))
else (
some (s2,s3))
def l_z69_5 (n:Nat):Nat -> ByteArray × Int × Int × Int × Int -> Option (Int × Int)
 | 0,_=>none
 | m + 1,s=>l_z69_5_B n (l_z69_5 n m) s
def m_z69 (n:Nat) (a0:ByteArray) (a1:Int):Option (Int × Int) :=
Option.bind (m_z43 n a1 0 ((ByteArray.size a0:Nat):Int)) fun r0 =>
Option.bind (l_z69_5 n n (a0,r0,1,1,0)) fun p3 =>
some (p3.1,p3.2)
def d_z69:FnF := ⟨50,[.str,.int .i64],[.tup 2,.int .i64,.int .i64]⟩
def cs_z69 (n:Nat):List (CalF Tryz.prog) := [⟨d_z43,m_z43 n,m_z43_ok n⟩]
def L_l_z69_5:LF := ⟨5,[0,1,6,7,8],[.str,.int .i64,.int .i64,.int .i64,.int .i64],[⟨(.exit 0),[6,7],[.int .i64,.int .i64]⟩]⟩
def ls_z69 (n:Nat):List LE := [⟨5,loopS L_l_z69_5 (l_z69_5 n n)⟩]
theorem l_z69_5_ok (n:Nat):LoopOk Tryz.prog (mkSpec (cs_z69 n) (ls_z69 n)) 0 28 (loopAt Tryz.f50 0) := loopOk (L := L_l_z69_5) (f := l_z69_5 n) (B := l_z69_5_B n) (k := n) (loopAt_ok sound Tryz.func50 (by kernel_rfl)) (inner (by kernel_rfl) allN) (innerS (by kernel_rfl) allN) (fun _=>rfl) (fun _ _=>rfl) (by kernel_rfl) (fun _=>by kernel_rfl) (by kernel_rfl) (fun k a=>by kernel_rfl)
theorem m_z69_ok (n:Nat):Ok Tryz.prog d_z69 (m_z69 n) := fnOk sound (cs := cs_z69 n) (ls := ls_z69 n) (n := 28) Tryz.func50 (by kernel_rfl) (fun _=>by kernel_rfl) (inner (by kernel_rfl) (allC (l_z69_5_ok n) allN)) (innerS (by kernel_rfl) allN) (by kernel_rfl) (fun a=>by kernel_rfl)
def m_z56 (n:Nat) (a0:ByteArray) (a1:Int):Option ((Nat × Nat)) :=
Option.bind (m_z69 n a0 a1) fun r0 =>
some ((FloatKind.nearest .f64 r0.1),(FloatKind.nearest .f64 r0.2))
def d_z56:FnF := ⟨23,[.str,.int .i64],[.cplx .f64]⟩
theorem m_z56_ok (n:Nat):Ok Tryz.prog d_z56 (m_z56 n) := fnOk0 sound [⟨d_z69,m_z69 n,m_z69_ok n⟩] Tryz.func23 (by kernel_rfl) (fun a=>by kernel_rfl)
def l_z35_2_B (n:Nat) (k:ByteArray × ByteArray × ByteArray × ByteArray × ByteArray × ByteArray × ByteArray × ByteArray × ByteArray × ByteArray × ByteArray × ByteArray × ByteArray × ByteArray × ByteArray × ByteArray × ByteArray × ByteArray × Int -> Option (((Bool) ⊕ Unit))):ByteArray × ByteArray × ByteArray × ByteArray × ByteArray × ByteArray × ByteArray × ByteArray × ByteArray × ByteArray × ByteArray × ByteArray × ByteArray × ByteArray × ByteArray × ByteArray × ByteArray × ByteArray × Int -> Option (((Bool) ⊕ Unit)) := fun (s0,s1,s2,s3,s4,s5,s6,s7,s8,s9,s10,s11,s12,s13,s14,s15,s16,s17,s18) =>
bif (decide ((s18:Int) < 17)) then (
Option.bind (idx1 true (.str) [(T.sc (.string s1)),(T.sc (.string s2)),(T.sc (.string s3)),(T.sc (.string s4)),(T.sc (.string s5)),(T.sc (.string s6)),(T.sc (.string s7)),(T.sc (.string s8)),(T.sc (.string s9)),(T.sc (.string s10)),(T.sc (.string s11)),(T.sc (.string s12)),(T.sc (.string s13)),(T.sc (.string s14)),(T.sc (.string s15)),(T.sc (.string s16)),(T.sc (.string s17))] s18) fun y0 =>
bif (ByteArray.toList s0 == ByteArray.toList y0.str) then (
some (Sum.inl true))
else (
k (s0,s1,s2,s3,s4,s5,s6,s7,s8,s9,s10,s11,s12,s13,s14,s15,s16,s17,(IntKind.wrap .i64 (s18 + 1)))))
else (
some (Sum.inr ()))
def l_z35_2 (n:Nat):Nat -> ByteArray × ByteArray × ByteArray × ByteArray × ByteArray × ByteArray × ByteArray × ByteArray × ByteArray × ByteArray × ByteArray × ByteArray × ByteArray × ByteArray × ByteArray × ByteArray × ByteArray × ByteArray × Int -> Option (((Bool) ⊕ Unit))
 | 0,_=>none
 | m + 1,s=>l_z35_2_B n (l_z35_2 n m) s
def m_z35 (n:Nat) (a0:ByteArray):Option (Bool) :=
Option.bind (l_z35_2 n n (a0,(⟨#[118,97,114]⟩:ByteArray),(⟨#[119,105,100,101]⟩:ByteArray),(⟨#[97,116,111,109,105,99]⟩:ByteArray),(⟨#[108,111,99,97,108]⟩:ByteArray),(⟨#[109,117,116,101,120]⟩:ByteArray),(⟨#[99,104,97,110]⟩:ByteArray),(⟨#[103,111]⟩:ByteArray),(⟨#[108,111,99,107]⟩:ByteArray),(⟨#[117,110,108,111,99,107]⟩:ByteArray),(⟨#[115,101,110,100]⟩:ByteArray),(⟨#[114,101,99,118]⟩:ByteArray),(⟨#[112,114,105,110,116]⟩:ByteArray),(⟨#[105,102]⟩:ByteArray),(⟨#[101,108,115,101]⟩:ByteArray),(⟨#[114,101,112,101,97,116]⟩:ByteArray),(⟨#[103,111,116,111]⟩:ByteArray),(⟨#[108,97,98,101,108]⟩:ByteArray),0)) fun x1 =>
Sum.elim (fun p2 =>
some p2) (fun x1'=>(fun p3 =>
some false) x1') x1
def d_z35:FnF := ⟨85,[.str],[.bool]⟩
def cs_z35 (n:Nat):List (CalF Tryz.prog) := []
def L_l_z35_2:LF := ⟨2,[0,5,6],[.str,.agg 17,.str,.str,.str,.str,.str,.str,.str,.str,.str,.str,.str,.str,.str,.str,.str,.str,.str,.int .i64],[⟨.ret,[2],[.bool]⟩,⟨(.exit 0),[],[]⟩]⟩
def ls_z35 (n:Nat):List LE := [⟨2,loopS L_l_z35_2 (l_z35_2 n n)⟩]
theorem l_z35_2_ok (n:Nat):LoopOk Tryz.prog (mkSpec (cs_z35 n) (ls_z35 n)) 0 13 (loopAt Tryz.f85 0) := loopOk (L := L_l_z35_2) (f := l_z35_2 n) (B := l_z35_2_B n) (k := n) (loopAt_ok sound Tryz.func85 (by kernel_rfl)) (inner (by kernel_rfl) allN) (innerS (by kernel_rfl) allN) (fun _=>rfl) (fun _ _=>rfl) (by kernel_rfl) (fun _=>by kernel_rfl) (by kernel_rfl) (fun k a=>by kernel_rfl)
theorem m_z35_ok (n:Nat):Ok Tryz.prog d_z35 (m_z35 n) := fnOk sound (cs := cs_z35 n) (ls := ls_z35 n) (n := 13) Tryz.func85 (by kernel_rfl) (fun _=>by kernel_rfl) (inner (by kernel_rfl) (allC (l_z35_2_ok n) allN)) (innerS (by kernel_rfl) allN) (by kernel_rfl) (fun a=>by kernel_rfl)
def m_z14 (n:Nat) (a0:List T) (a1:Int) (a2:Bool) (a3:Int):Option (ByteArray × (List T) × Int × Bool × Int) :=
Option.bind (idx (!a2) [.int .i64,.str,.int .i64,.int .i64] a0 a1) fun y0 =>
Option.bind (idx (!(bif a2 then true else (((y0.cell 0).int:Int) != 1))) [.int .i64,.str,.int .i64,.int .i64] a0 a1) fun y1 =>
Option.bind (bif !(bif a2 then true else (((y0.cell 0).int:Int) != 1)) then m_z35 n (y1.cell 1).str else some false) fun r2 =>
bif (bif (bif a2 then true else (((y0.cell 0).int:Int) != 1)) then true else r2) then (
Option.bind (m_z12 n a0 a1 a2 a3) fun r3 =>
some ((⟨#[]⟩:ByteArray),r3.1,r3.2.1,r3.2.2.1,r3.2.2.2))
else (
Option.bind (idx true [.int .i64,.str,.int .i64,.int .i64] a0 (IntKind.wrap .i64 ((IntKind.wrap .i64 (a1 + 1)) - 1))) fun y4 =>
some ((y4.cell 1).str,a0,(IntKind.wrap .i64 (a1 + 1)),a2,a3))
def d_z14:FnF := ⟨46,[.ptr 0 0,.box 4,.list,.int .i64,.bool,.int .i64],[.str,.box 4,.list,.int .i64,.bool,.int .i64]⟩
theorem m_z14_ok (n:Nat):Ok Tryz.prog d_z14 (m_z14 n) := fnOk0 sound [⟨d_z35,m_z35 n,m_z35_ok n⟩,⟨d_z12,m_z12 n,m_z12_ok n⟩] Tryz.func46 (by kernel_rfl) (fun a=>by kernel_rfl)
def m_z8 (n:Nat) (a0:Int) (a1:List T) (a2:Int) (a3:Bool) (a4:Int):Option (Int × (List T) × Int × Bool × Int) :=
Option.bind (idx (!a3) [.int .i64,.str,.int .i64,.int .i64] a1 a2) fun y0 =>
Option.bind (idx (!(bif a3 then true else (((y0.cell 0).int:Int) != 2))) [.int .i64,.str,.int .i64,.int .i64] a1 a2) fun y1 =>
bif (bif (bif a3 then true else (((y0.cell 0).int:Int) != 2)) then true else (decide (((y1.cell 2).int:Int) > a0))) then (
Option.bind (m_z12 n a1 a2 a3 a4) fun r2 =>
some (0,r2.1,r2.2.1,r2.2.2.1,r2.2.2.2))
else (
Option.bind (idx true [.int .i64,.str,.int .i64,.int .i64] a1 (IntKind.wrap .i64 ((IntKind.wrap .i64 (a2 + 1)) - 1))) fun y3 =>
some ((y3.cell 2).int,a1,(IntKind.wrap .i64 (a2 + 1)),a3,a4))
def d_z8:FnF := ⟨47,[.ptr 0 0,.int .i64,.box 4,.list,.int .i64,.bool,.int .i64],[.int .i64,.box 4,.list,.int .i64,.bool,.int .i64]⟩
theorem m_z8_ok (n:Nat):Ok Tryz.prog d_z8 (m_z8 n) := fnOk0 sound [⟨d_z12,m_z12 n,m_z12_ok n⟩] Tryz.func47 (by kernel_rfl) (fun a=>by kernel_rfl)
def m_z16 (n:Nat) (a0:ByteArray) (a1:List T) (a2:Int) (a3:Bool) (a4:Int):Option (Bool × (List T) × Int × Bool × Int) :=
Option.bind (idx ((!a3)) [.int .i64,.str,.int .i64,.int .i64] a1 a2) fun y0 =>
Option.bind (idx ((bif (!a3) then (((y0.cell 0).int:Int) == 1) else false)) [.int .i64,.str,.int .i64,.int .i64] a1 a2) fun y1 =>
some ((bif (bif (!a3) then (((y0.cell 0).int:Int) == 1) else false) then (ByteArray.toList (y1.cell 1).str == ByteArray.toList a0) else false),a1,a2,a3,a4)
def d_z16:FnF := ⟨48,[.ptr 0 0,.str,.box 4,.list,.int .i64,.bool,.int .i64],[.bool,.box 4,.list,.int .i64,.bool,.int .i64]⟩
theorem m_z16_ok (n:Nat):Ok Tryz.prog d_z16 (m_z16 n) := fnOk0 sound [] Tryz.func48 (by kernel_rfl) (fun a=>by kernel_rfl)
def m_z15 (n:Nat) (a0:ByteArray) (a1:List T) (a2:Int) (a3:Bool) (a4:Int):Option (Bool × (List T) × Int × Bool × Int) :=
Option.bind (idx ((!a3)) [.int .i64,.str,.int .i64,.int .i64] a1 a2) fun y0 =>
Option.bind (idx ((bif (!a3) then (((y0.cell 0).int:Int) == 3) else false)) [.int .i64,.str,.int .i64,.int .i64] a1 a2) fun y1 =>
some ((bif (bif (!a3) then (((y0.cell 0).int:Int) == 3) else false) then (ByteArray.toList (y1.cell 1).str == ByteArray.toList a0) else false),a1,a2,a3,a4)
def d_z15:FnF := ⟨87,[.ptr 0 0,.str,.box 4,.list,.int .i64,.bool,.int .i64],[.bool,.box 4,.list,.int .i64,.bool,.int .i64]⟩
theorem m_z15_ok (n:Nat):Ok Tryz.prog d_z15 (m_z15 n) := fnOk0 sound [] Tryz.func87 (by kernel_rfl) (fun a=>by kernel_rfl)
def m_z13 (n:Nat) (a0:ByteArray) (a1:List T) (a2:Int) (a3:Bool) (a4:Int):Option ((List T) × Int × Bool × Int) :=
Option.bind (m_z15 n a0 a1 a2 a3 a4) fun r0 =>
bif (!r0.1) then (
Option.bind (m_z12 n r0.2.1 r0.2.2.1 r0.2.2.2.1 r0.2.2.2.2) fun r1 =>
some (r1.1,r1.2.1,r1.2.2.1,r1.2.2.2))
else (
some (r0.2.1,(IntKind.wrap .i64 (r0.2.2.1 + 1)),r0.2.2.2.1,r0.2.2.2.2))
def d_z13:FnF := ⟨86,[.ptr 0 0,.str,.box 4,.list,.int .i64,.bool,.int .i64],[.tup 0,.box 4,.list,.int .i64,.bool,.int .i64]⟩
theorem m_z13_ok (n:Nat):Ok Tryz.prog d_z13 (m_z13 n) := fnOk0 sound [⟨d_z15,m_z15 n,m_z15_ok n⟩,⟨d_z12,m_z12 n,m_z12_ok n⟩] Tryz.func86 (by kernel_rfl) (fun a=>by kernel_rfl)
def m_z44 (n:Nat) (a0:Int) (a1:Int) (a2:Int) (a3:ByteArray) (a4:List T) (a5:Int) (a6:Int) (a7:ByteArray) (a8:List T):Option (Int × Int × ByteArray × (List T)) :=
some (a0,0,(⟨#[]⟩:ByteArray),[(T.agg [(T.sc (.int .i64 a1)),(T.sc (.int .i64 a2)),(T.sc (.string a3)),(T.list a4)]),(T.agg [(T.sc (.int .i64 a5)),(T.sc (.int .i64 a6)),(T.sc (.string a7)),(T.list a8)])])
def d_z44:FnF := ⟨169,[.int .i64,.agg 4,.int .i64,.int .i64,.str,.list,.agg 4,.int .i64,.int .i64,.str,.list],[.agg 4,.int .i64,.int .i64,.str,.list]⟩
theorem m_z44_ok (n:Nat):Ok Tryz.prog d_z44 (m_z44 n) := fnOk0 sound [] Tryz.func169 (by kernel_rfl) (fun a=>by kernel_rfl)
structure B_z11 where
 y5:Int -> List T -> Int -> Bool -> Int -> Option (Int × Int × ByteArray × (List T) × (List T) × Int × Bool × Int)
 y8:Int -> List T -> Int -> Bool -> Int -> Option (Int × Int × ByteArray × (List T) × (List T) × Int × Bool × Int)
 y9:Int -> List T -> Int -> Bool -> Int -> Option (Int × Int × ByteArray × (List T) × (List T) × Int × Bool × Int)
 y6:Int -> List T -> Int -> Bool -> Int -> Option (Int × Int × ByteArray × (List T) × (List T) × Int × Bool × Int)
def d_z11:FnF := ⟨152,[.ptr 0 0,.int .i64,.box 4,.list,.int .i64,.bool,.int .i64],[.agg 4,.int .i64,.int .i64,.str,.list,.box 4,.list,.int .i64,.bool,.int .i64]⟩
def d___sutureref1_Reader__sum:FnF := ⟨168,[.ptr 0 0,.int .i64,.box 4,.list,.int .i64,.bool,.int .i64],[.agg 4,.int .i64,.int .i64,.str,.list,.box 4,.list,.int .i64,.bool,.int .i64]⟩
def d___sutureref1_Reader__term:FnF := ⟨180,[.ptr 0 0,.int .i64,.box 4,.list,.int .i64,.bool,.int .i64],[.agg 4,.int .i64,.int .i64,.str,.list,.box 4,.list,.int .i64,.bool,.int .i64]⟩
def d___sutureref1_Reader__factor:FnF := ⟨185,[.ptr 0 0,.int .i64,.box 4,.list,.int .i64,.bool,.int .i64],[.agg 4,.int .i64,.int .i64,.str,.list,.box 4,.list,.int .i64,.bool,.int .i64]⟩
structure B_z11_ok (b:B_z11):Prop where
 y5:Ok Tryz.prog d_z11 b.y5
 y8:Ok Tryz.prog d___sutureref1_Reader__sum b.y8
 y9:Ok Tryz.prog d___sutureref1_Reader__term b.y9
 y6:Ok Tryz.prog d___sutureref1_Reader__factor b.y6
def f_z11 (b:B_z11) (n:Nat) (a0:Int) (a1:List T) (a2:Int) (a3:Bool) (a4:Int):Option (Int × Int × ByteArray × (List T) × (List T) × Int × Bool × Int) :=
Option.bind (b.y8 a0 a1 a2 a3 a4) fun r0 =>
Option.bind (m_z15 n (⟨#[60]⟩:ByteArray) r0.2.2.2.2.1 r0.2.2.2.2.2.1 r0.2.2.2.2.2.2.1 r0.2.2.2.2.2.2.2) fun r1 =>
bif r1.1 then (
bif ((9:Int) == 0) then (
some (r0.1,r0.2.1,r0.2.2.1,r0.2.2.2.1,r1.2.1,r1.2.2.1,r1.2.2.2.1,r1.2.2.2.2))
else (
Option.bind (b.y8 a0 r1.2.1 (IntKind.wrap .i64 (r1.2.2.1 + 1)) r1.2.2.2.1 r1.2.2.2.2) fun r2 =>
Option.bind (m_z44 n 9 r0.1 r0.2.1 r0.2.2.1 r0.2.2.2.1 r2.1 r2.2.1 r2.2.2.1 r2.2.2.2.1) fun r3 =>
some (r3.1,r3.2.1,r3.2.2.1,r3.2.2.2,r2.2.2.2.2.1,r2.2.2.2.2.2.1,r2.2.2.2.2.2.2.1,r2.2.2.2.2.2.2.2)))
else (
Option.bind (m_z15 n (⟨#[61,61]⟩:ByteArray) r1.2.1 r1.2.2.1 r1.2.2.2.1 r1.2.2.2.2) fun r4 =>
bif r4.1 then (
bif ((10:Int) == 0) then (
some (r0.1,r0.2.1,r0.2.2.1,r0.2.2.2.1,r4.2.1,r4.2.2.1,r4.2.2.2.1,r4.2.2.2.2))
else (
Option.bind (b.y8 a0 r4.2.1 (IntKind.wrap .i64 (r4.2.2.1 + 1)) r4.2.2.2.1 r4.2.2.2.2) fun r5 =>
Option.bind (m_z44 n 10 r0.1 r0.2.1 r0.2.2.1 r0.2.2.2.1 r5.1 r5.2.1 r5.2.2.1 r5.2.2.2.1) fun r6 =>
some (r6.1,r6.2.1,r6.2.2.1,r6.2.2.2,r5.2.2.2.2.1,r5.2.2.2.2.2.1,r5.2.2.2.2.2.2.1,r5.2.2.2.2.2.2.2)))
else (
bif ((0:Int) == 0) then (
some (r0.1,r0.2.1,r0.2.2.1,r0.2.2.2.1,r4.2.1,r4.2.2.1,r4.2.2.2.1,r4.2.2.2.2))
else (
Option.bind (b.y8 a0 r4.2.1 (IntKind.wrap .i64 (r4.2.2.1 + 1)) r4.2.2.2.1 r4.2.2.2.2) fun r7 =>
Option.bind (m_z44 n 0 r0.1 r0.2.1 r0.2.2.1 r0.2.2.2.1 r7.1 r7.2.1 r7.2.2.1 r7.2.2.2.1) fun r8 =>
some (r8.1,r8.2.1,r8.2.2.1,r8.2.2.2,r7.2.2.2.2.1,r7.2.2.2.2.2.1,r7.2.2.2.2.2.2.1,r7.2.2.2.2.2.2.2))))
theorem f_z11_ok (b:B_z11) (hb:B_z11_ok b) (n:Nat):Ok Tryz.prog d_z11 (f_z11 b n) := fnOk0 sound [⟨d___sutureref1_Reader__sum,b.y8,hb.y8⟩,⟨d_z15,m_z15 n,m_z15_ok n⟩,⟨d_z44,m_z44 n,m_z44_ok n⟩] Tryz.func152 (by kernel_rfl) (fun a=>by kernel_rfl)
def l___sutureref1_Reader__sum_2_B (b:B_z11) (n:Nat) (k:Int × (List T) × Int × Bool × Int × Int × Int × ByteArray × (List T) × Int × Int × ByteArray × (List T) -> Option ((List T) × Int × Bool × Int × Int × Int × ByteArray × (List T) × Int × Int × ByteArray × (List T))):Int × (List T) × Int × Bool × Int × Int × Int × ByteArray × (List T) × Int × Int × ByteArray × (List T) -> Option ((List T) × Int × Bool × Int × Int × Int × ByteArray × (List T) × Int × Int × ByteArray × (List T)) := fun (s0,s1,s2,s3,s4,s5,s6,s7,s8,s9,s10,s11,s12) =>
bif (!s3) then (
Option.bind (m_z15 n (⟨#[43]⟩:ByteArray) s1 s2 s3 s4) fun r1 =>
bif r1.1 then (
bif ((4:Int) == 0) then (
some (r1.2.1,r1.2.2.1,r1.2.2.2.1,r1.2.2.2.2,s5,s6,s7,s8,s9,s10,s11,s12))
else (
Option.bind (b.y9 s0 r1.2.1 (IntKind.wrap .i64 (r1.2.2.1 + 1)) r1.2.2.2.1 r1.2.2.2.2) fun r2 =>
Option.bind (m_z44 n 4 s9 s10 s11 s12 r2.1 r2.2.1 r2.2.2.1 r2.2.2.2.1) fun r3 =>
k (s0,r2.2.2.2.2.1,r2.2.2.2.2.2.1,r2.2.2.2.2.2.2.1,r2.2.2.2.2.2.2.2,s5,s6,s7,s8,r3.1,r3.2.1,r3.2.2.1,r3.2.2.2)))
else (
Option.bind (m_z15 n (⟨#[45]⟩:ByteArray) r1.2.1 r1.2.2.1 r1.2.2.2.1 r1.2.2.2.2) fun r4 =>
bif r4.1 then (
bif ((5:Int) == 0) then (
some (r4.2.1,r4.2.2.1,r4.2.2.2.1,r4.2.2.2.2,s5,s6,s7,s8,s9,s10,s11,s12))
else (
Option.bind (b.y9 s0 r4.2.1 (IntKind.wrap .i64 (r4.2.2.1 + 1)) r4.2.2.2.1 r4.2.2.2.2) fun r5 =>
Option.bind (m_z44 n 5 s9 s10 s11 s12 r5.1 r5.2.1 r5.2.2.1 r5.2.2.2.1) fun r6 =>
k (s0,r5.2.2.2.2.1,r5.2.2.2.2.2.1,r5.2.2.2.2.2.2.1,r5.2.2.2.2.2.2.2,s5,s6,s7,s8,r6.1,r6.2.1,r6.2.2.1,r6.2.2.2)))
else (
bif ((0:Int) == 0) then (
some (r4.2.1,r4.2.2.1,r4.2.2.2.1,r4.2.2.2.2,s5,s6,s7,s8,s9,s10,s11,s12))
else (
Option.bind (b.y9 s0 r4.2.1 (IntKind.wrap .i64 (r4.2.2.1 + 1)) r4.2.2.2.1 r4.2.2.2.2) fun r7 =>
Option.bind (m_z44 n 0 s9 s10 s11 s12 r7.1 r7.2.1 r7.2.2.1 r7.2.2.2.1) fun r8 =>
k (s0,r7.2.2.2.2.1,r7.2.2.2.2.2.1,r7.2.2.2.2.2.2.1,r7.2.2.2.2.2.2.2,s5,s6,s7,s8,r8.1,r8.2.1,r8.2.2.1,r8.2.2.2)))))
else (
some (s1,s2,s3,s4,s5,s6,s7,s8,s9,s10,s11,s12))
def l___sutureref1_Reader__sum_2 (b:B_z11) (n:Nat):Nat -> Int × (List T) × Int × Bool × Int × Int × Int × ByteArray × (List T) × Int × Int × ByteArray × (List T) -> Option ((List T) × Int × Bool × Int × Int × Int × ByteArray × (List T) × Int × Int × ByteArray × (List T))
 | 0,_=>none
 | m + 1,s=>l___sutureref1_Reader__sum_2_B b n (l___sutureref1_Reader__sum_2 b n m) s
def f___sutureref1_Reader__sum (b:B_z11) (n:Nat) (a0:Int) (a1:List T) (a2:Int) (a3:Bool) (a4:Int):Option (Int × Int × ByteArray × (List T) × (List T) × Int × Bool × Int) :=
Option.bind (b.y9 a0 a1 a2 a3 a4) fun r0 =>
Option.bind (l___sutureref1_Reader__sum_2 b n n (a0,r0.2.2.2.2.1,r0.2.2.2.2.2.1,r0.2.2.2.2.2.2.1,r0.2.2.2.2.2.2.2,0,0,(⟨#[]⟩:ByteArray),([]:List T),r0.1,r0.2.1,r0.2.2.1,r0.2.2.2.1)) fun p10 =>
some (p10.2.2.2.2.2.2.2.2.1,p10.2.2.2.2.2.2.2.2.2.1,p10.2.2.2.2.2.2.2.2.2.2.1,p10.2.2.2.2.2.2.2.2.2.2.2,p10.1,p10.2.1,p10.2.2.1,p10.2.2.2.1)
def cs___sutureref1_Reader__sum (b:B_z11) (hb:B_z11_ok b) (n:Nat):List (CalF Tryz.prog) := [⟨d___sutureref1_Reader__term,b.y9,hb.y9⟩,⟨d_z15,m_z15 n,m_z15_ok n⟩,⟨d_z44,m_z44 n,m_z44_ok n⟩]
def L_l___sutureref1_Reader__sum_2:LF := ⟨2,[0,1,4,5],[.ptr 0 0,.int .i64,.ptr 1 0,.ptr 2 0,.box 4,.list,.int .i64,.bool,.int .i64,.box 4,.int .i64,.int .i64,.str,.own 0,.box 4,.int .i64,.int .i64,.str,.list],[⟨(.exit 0),[4,5],[.ptr 1 0,.ptr 2 0,.box 4,.list,.int .i64,.bool,.int .i64,.box 4,.int .i64,.int .i64,.str,.own 0,.box 4,.int .i64,.int .i64,.str,.list]⟩]⟩
def ls___sutureref1_Reader__sum (b:B_z11) (n:Nat):List LE := [⟨2,loopS L_l___sutureref1_Reader__sum_2 (l___sutureref1_Reader__sum_2 b n n)⟩]
theorem l___sutureref1_Reader__sum_2_ok (b:B_z11) (hb:B_z11_ok b) (n:Nat):LoopOk Tryz.prog (mkSpec (cs___sutureref1_Reader__sum b hb n) (ls___sutureref1_Reader__sum b n)) 1 37 (loopAt Tryz.f168 0) := loopOk (L := L_l___sutureref1_Reader__sum_2) (f := l___sutureref1_Reader__sum_2 b n) (B := l___sutureref1_Reader__sum_2_B b n) (k := n) (loopAt_ok sound Tryz.func168 (by kernel_rfl)) (inner (by kernel_rfl) allN) (innerS (by kernel_rfl) allN) (fun _=>rfl) (fun _ _=>rfl) (by kernel_rfl) (fun _=>by kernel_rfl) (by kernel_rfl) (fun k a=>by kernel_rfl)
theorem f___sutureref1_Reader__sum_ok (b:B_z11) (hb:B_z11_ok b) (n:Nat):Ok Tryz.prog d___sutureref1_Reader__sum (f___sutureref1_Reader__sum b n) := fnOk sound (cs := cs___sutureref1_Reader__sum b hb n) (ls := ls___sutureref1_Reader__sum b n) (n := 37) Tryz.func168 (by kernel_rfl) (fun _=>by kernel_rfl) (inner (by kernel_rfl) (allC (l___sutureref1_Reader__sum_2_ok b hb n) allN)) (innerS (by kernel_rfl) allN) (by kernel_rfl) (fun a=>by kernel_rfl)
def l___sutureref1_Reader__term_2_B (b:B_z11) (n:Nat) (k:Int × (List T) × Int × Bool × Int × Int × Int × ByteArray × (List T) × Int × Int × ByteArray × (List T) -> Option ((List T) × Int × Bool × Int × Int × Int × ByteArray × (List T) × Int × Int × ByteArray × (List T))):Int × (List T) × Int × Bool × Int × Int × Int × ByteArray × (List T) × Int × Int × ByteArray × (List T) -> Option ((List T) × Int × Bool × Int × Int × Int × ByteArray × (List T) × Int × Int × ByteArray × (List T)) := fun (s0,s1,s2,s3,s4,s5,s6,s7,s8,s9,s10,s11,s12) =>
bif (!s3) then (
Option.bind (m_z15 n (⟨#[42]⟩:ByteArray) s1 s2 s3 s4) fun r1 =>
bif r1.1 then (
bif ((6:Int) == 0) then (
some (r1.2.1,r1.2.2.1,r1.2.2.2.1,r1.2.2.2.2,s5,s6,s7,s8,s9,s10,s11,s12))
else (
Option.bind (b.y6 s0 r1.2.1 (IntKind.wrap .i64 (r1.2.2.1 + 1)) r1.2.2.2.1 r1.2.2.2.2) fun r2 =>
Option.bind (m_z44 n 6 s9 s10 s11 s12 r2.1 r2.2.1 r2.2.2.1 r2.2.2.2.1) fun r3 =>
k (s0,r2.2.2.2.2.1,r2.2.2.2.2.2.1,r2.2.2.2.2.2.2.1,r2.2.2.2.2.2.2.2,s5,s6,s7,s8,r3.1,r3.2.1,r3.2.2.1,r3.2.2.2)))
else (
Option.bind (m_z15 n (⟨#[47]⟩:ByteArray) r1.2.1 r1.2.2.1 r1.2.2.2.1 r1.2.2.2.2) fun r4 =>
bif r4.1 then (
bif ((7:Int) == 0) then (
some (r4.2.1,r4.2.2.1,r4.2.2.2.1,r4.2.2.2.2,s5,s6,s7,s8,s9,s10,s11,s12))
else (
Option.bind (b.y6 s0 r4.2.1 (IntKind.wrap .i64 (r4.2.2.1 + 1)) r4.2.2.2.1 r4.2.2.2.2) fun r5 =>
Option.bind (m_z44 n 7 s9 s10 s11 s12 r5.1 r5.2.1 r5.2.2.1 r5.2.2.2.1) fun r6 =>
k (s0,r5.2.2.2.2.1,r5.2.2.2.2.2.1,r5.2.2.2.2.2.2.1,r5.2.2.2.2.2.2.2,s5,s6,s7,s8,r6.1,r6.2.1,r6.2.2.1,r6.2.2.2)))
else (
Option.bind (m_z15 n (⟨#[37]⟩:ByteArray) r4.2.1 r4.2.2.1 r4.2.2.2.1 r4.2.2.2.2) fun r7 =>
bif r7.1 then (
bif ((8:Int) == 0) then (
some (r7.2.1,r7.2.2.1,r7.2.2.2.1,r7.2.2.2.2,s5,s6,s7,s8,s9,s10,s11,s12))
else (
Option.bind (b.y6 s0 r7.2.1 (IntKind.wrap .i64 (r7.2.2.1 + 1)) r7.2.2.2.1 r7.2.2.2.2) fun r8 =>
Option.bind (m_z44 n 8 s9 s10 s11 s12 r8.1 r8.2.1 r8.2.2.1 r8.2.2.2.1) fun r9 =>
k (s0,r8.2.2.2.2.1,r8.2.2.2.2.2.1,r8.2.2.2.2.2.2.1,r8.2.2.2.2.2.2.2,s5,s6,s7,s8,r9.1,r9.2.1,r9.2.2.1,r9.2.2.2)))
else (
bif ((0:Int) == 0) then (
some (r7.2.1,r7.2.2.1,r7.2.2.2.1,r7.2.2.2.2,s5,s6,s7,s8,s9,s10,s11,s12))
else (
Option.bind (b.y6 s0 r7.2.1 (IntKind.wrap .i64 (r7.2.2.1 + 1)) r7.2.2.2.1 r7.2.2.2.2) fun r10 =>
Option.bind (m_z44 n 0 s9 s10 s11 s12 r10.1 r10.2.1 r10.2.2.1 r10.2.2.2.1) fun r11 =>
k (s0,r10.2.2.2.2.1,r10.2.2.2.2.2.1,r10.2.2.2.2.2.2.1,r10.2.2.2.2.2.2.2,s5,s6,s7,s8,r11.1,r11.2.1,r11.2.2.1,r11.2.2.2))))))
else (
some (s1,s2,s3,s4,s5,s6,s7,s8,s9,s10,s11,s12))
def l___sutureref1_Reader__term_2 (b:B_z11) (n:Nat):Nat -> Int × (List T) × Int × Bool × Int × Int × Int × ByteArray × (List T) × Int × Int × ByteArray × (List T) -> Option ((List T) × Int × Bool × Int × Int × Int × ByteArray × (List T) × Int × Int × ByteArray × (List T))
 | 0,_=>none
 | m + 1,s=>l___sutureref1_Reader__term_2_B b n (l___sutureref1_Reader__term_2 b n m) s
def f___sutureref1_Reader__term (b:B_z11) (n:Nat) (a0:Int) (a1:List T) (a2:Int) (a3:Bool) (a4:Int):Option (Int × Int × ByteArray × (List T) × (List T) × Int × Bool × Int) :=
Option.bind (b.y6 a0 a1 a2 a3 a4) fun r0 =>
Option.bind (l___sutureref1_Reader__term_2 b n n (a0,r0.2.2.2.2.1,r0.2.2.2.2.2.1,r0.2.2.2.2.2.2.1,r0.2.2.2.2.2.2.2,0,0,(⟨#[]⟩:ByteArray),([]:List T),r0.1,r0.2.1,r0.2.2.1,r0.2.2.2.1)) fun p13 =>
some (p13.2.2.2.2.2.2.2.2.1,p13.2.2.2.2.2.2.2.2.2.1,p13.2.2.2.2.2.2.2.2.2.2.1,p13.2.2.2.2.2.2.2.2.2.2.2,p13.1,p13.2.1,p13.2.2.1,p13.2.2.2.1)
def cs___sutureref1_Reader__term (b:B_z11) (hb:B_z11_ok b) (n:Nat):List (CalF Tryz.prog) := [⟨d___sutureref1_Reader__factor,b.y6,hb.y6⟩,⟨d_z15,m_z15 n,m_z15_ok n⟩,⟨d_z44,m_z44 n,m_z44_ok n⟩]
def L_l___sutureref1_Reader__term_2:LF := ⟨2,[0,1,4,5],[.ptr 0 0,.int .i64,.ptr 1 0,.ptr 2 0,.box 4,.list,.int .i64,.bool,.int .i64,.box 4,.int .i64,.int .i64,.str,.own 0,.box 4,.int .i64,.int .i64,.str,.list],[⟨(.exit 0),[4,5],[.ptr 1 0,.ptr 2 0,.box 4,.list,.int .i64,.bool,.int .i64,.box 4,.int .i64,.int .i64,.str,.own 0,.box 4,.int .i64,.int .i64,.str,.list]⟩]⟩
def ls___sutureref1_Reader__term (b:B_z11) (n:Nat):List LE := [⟨2,loopS L_l___sutureref1_Reader__term_2 (l___sutureref1_Reader__term_2 b n n)⟩]
theorem l___sutureref1_Reader__term_2_ok (b:B_z11) (hb:B_z11_ok b) (n:Nat):LoopOk Tryz.prog (mkSpec (cs___sutureref1_Reader__term b hb n) (ls___sutureref1_Reader__term b n)) 1 40 (loopAt Tryz.f180 0) := loopOk (L := L_l___sutureref1_Reader__term_2) (f := l___sutureref1_Reader__term_2 b n) (B := l___sutureref1_Reader__term_2_B b n) (k := n) (loopAt_ok sound Tryz.func180 (by kernel_rfl)) (inner (by kernel_rfl) allN) (innerS (by kernel_rfl) allN) (fun _=>rfl) (fun _ _=>rfl) (by kernel_rfl) (fun _=>by kernel_rfl) (by kernel_rfl) (fun k a=>by kernel_rfl)
theorem f___sutureref1_Reader__term_ok (b:B_z11) (hb:B_z11_ok b) (n:Nat):Ok Tryz.prog d___sutureref1_Reader__term (f___sutureref1_Reader__term b n) := fnOk sound (cs := cs___sutureref1_Reader__term b hb n) (ls := ls___sutureref1_Reader__term b n) (n := 40) Tryz.func180 (by kernel_rfl) (fun _=>by kernel_rfl) (inner (by kernel_rfl) (allC (l___sutureref1_Reader__term_2_ok b hb n) allN)) (innerS (by kernel_rfl) allN) (by kernel_rfl) (fun a=>by kernel_rfl)
def f___sutureref1_Reader__factor (b:B_z11) (n:Nat) (a0:Int) (a1:List T) (a2:Int) (a3:Bool) (a4:Int):Option (Int × Int × ByteArray × (List T) × (List T) × Int × Bool × Int) :=
bif a3 then (
some (0,0,(⟨#[]⟩:ByteArray),([]:List T),a1,a2,a3,a4))
else (
Option.bind (idx true [.int .i64,.str,.int .i64,.int .i64] a1 a2) fun y0 =>
bif (((y0.cell 0).int:Int) == 2) then (
some (1,(y0.cell 2).int,(⟨#[]⟩:ByteArray),([]:List T),a1,(IntKind.wrap .i64 (a2 + 1)),a3,a4))
else (
Option.bind (bif (((y0.cell 0).int:Int) == 1) then m_z35 n (y0.cell 1).str else some false) fun r1 =>
bif (bif (((y0.cell 0).int:Int) == 1) then (!r1) else false) then (
some (2,0,(y0.cell 1).str,([]:List T),a1,(IntKind.wrap .i64 (a2 + 1)),a3,a4))
else (
Option.bind (m_z15 n (⟨#[45]⟩:ByteArray) a1 a2 a3 a4) fun r2 =>
bif (bif r2.1 then (decide ((a0:Int) < 8)) else false) then (
Option.bind (b.y6 (IntKind.wrap .i64 (a0 + 1)) r2.2.1 (IntKind.wrap .i64 (r2.2.2.1 + 1)) r2.2.2.2.1 r2.2.2.2.2) fun r3 =>
some (3,0,(⟨#[]⟩:ByteArray),[(T.agg [(T.sc (.int .i64 r3.1)),(T.sc (.int .i64 r3.2.1)),(T.sc (.string r3.2.2.1)),(T.list r3.2.2.2.1)])],r3.2.2.2.2.1,r3.2.2.2.2.2.1,r3.2.2.2.2.2.2.1,r3.2.2.2.2.2.2.2))
else (
Option.bind (m_z15 n (⟨#[40]⟩:ByteArray) r2.2.1 r2.2.2.1 r2.2.2.2.1 r2.2.2.2.2) fun r4 =>
bif (bif r4.1 then (decide ((a0:Int) < 8)) else false) then (
Option.bind (b.y5 (IntKind.wrap .i64 (a0 + 1)) r4.2.1 (IntKind.wrap .i64 (r4.2.2.1 + 1)) r4.2.2.2.1 r4.2.2.2.2) fun r5 =>
Option.bind (m_z13 n (⟨#[41]⟩:ByteArray) r5.2.2.2.2.1 r5.2.2.2.2.2.1 r5.2.2.2.2.2.2.1 r5.2.2.2.2.2.2.2) fun r6 =>
some (r5.1,r5.2.1,r5.2.2.1,r5.2.2.2.1,r6.1,r6.2.1,r6.2.2.1,r6.2.2.2))
else (
Option.bind (m_z12 n r4.2.1 r4.2.2.1 r4.2.2.2.1 r4.2.2.2.2) fun r7 =>
some (0,0,(⟨#[]⟩:ByteArray),([]:List T),r7.1,r7.2.1,r7.2.2.1,r7.2.2.2))))))
theorem f___sutureref1_Reader__factor_ok (b:B_z11) (hb:B_z11_ok b) (n:Nat):Ok Tryz.prog d___sutureref1_Reader__factor (f___sutureref1_Reader__factor b n) := fnOk0 sound [⟨d_z35,m_z35 n,m_z35_ok n⟩,⟨d_z15,m_z15 n,m_z15_ok n⟩,⟨d___sutureref1_Reader__factor,b.y6,hb.y6⟩,⟨d_z11,b.y5,hb.y5⟩,⟨d_z13,m_z13 n,m_z13_ok n⟩,⟨d_z12,m_z12 n,m_z12_ok n⟩] Tryz.func185 (by kernel_rfl) (fun a=>by kernel_rfl)
def unB_z11 (n:Nat):Nat -> B_z11
 | 0=>{ y5 := fun _ _ _ _ _=>none,y8 := fun _ _ _ _ _=>none,y9 := fun _ _ _ _ _=>none,y6 := fun _ _ _ _ _=>none }
 | m + 1=>{ y5 := f_z11 (unB_z11 n m) n,y8 := f___sutureref1_Reader__sum (unB_z11 n m) n,y9 := f___sutureref1_Reader__term (unB_z11 n m) n,y6 := f___sutureref1_Reader__factor (unB_z11 n m) n }
theorem unB_z11_ok (n:Nat):∀ m,B_z11_ok (unB_z11 n m)
 | 0=>{ y5 := fun _ _ h=>(nomatch (show none = some _ from h)),y8 := fun _ _ h=>(nomatch (show none = some _ from h)),y9 := fun _ _ h=>(nomatch (show none = some _ from h)),y6 := fun _ _ h=>(nomatch (show none = some _ from h)) }
 | m + 1=>{ y5 := f_z11_ok _ (unB_z11_ok n m) n,y8 := f___sutureref1_Reader__sum_ok _ (unB_z11_ok n m) n,y9 := f___sutureref1_Reader__term_ok _ (unB_z11_ok n m) n,y6 := f___sutureref1_Reader__factor_ok _ (unB_z11_ok n m) n }
def m_z11 (n:Nat):Int -> List T -> Int -> Bool -> Int -> Option (Int × Int × ByteArray × (List T) × (List T) × Int × Bool × Int) := (unB_z11 n n).y5
theorem m_z11_ok (n:Nat):Ok Tryz.prog d_z11 (m_z11 n) := (unB_z11_ok n n).y5
def m_z10 (n:Nat) (a0:ByteArray) (a1:List T) (a2:Int) (a3:Bool) (a4:Int):Option (Int × Int × ByteArray × (List T) × (List T) × Int × Bool × Int) :=
bif (!a3) then (
Option.bind (m_z11 n 0 a1 a2 a3 a4) fun r0 =>
some (r0.1,r0.2.1,r0.2.2.1,r0.2.2.2.1,r0.2.2.2.2.1,r0.2.2.2.2.2.1,r0.2.2.2.2.2.2.1,r0.2.2.2.2.2.2.2))
else (
some (0,0,(⟨#[]⟩:ByteArray),([]:List T),a1,a2,a3,a4))
def d_z10:FnF := ⟨123,[.ptr 0 0,.str,.box 4,.list,.int .i64,.bool,.int .i64],[.agg 4,.int .i64,.int .i64,.str,.list,.box 4,.list,.int .i64,.bool,.int .i64]⟩
theorem m_z10_ok (n:Nat):Ok Tryz.prog d_z10 (m_z10 n) := fnOk0 sound [⟨d_z11,m_z11 n,m_z11_ok n⟩] Tryz.func123 (by kernel_rfl) (fun a=>by kernel_rfl)
structure B_z9 where
 y4:ByteArray -> Int -> List T -> Int -> Bool -> Int -> Option ((List T) × (List T) × Int × Bool × Int)
 y7:ByteArray -> Int -> List T -> Int -> Bool -> Int -> Option (Int × ByteArray × ByteArray × Int × Int × Int × ByteArray × (List T) × (List T) × (List T) × (Nat × Nat) × (List T) × Int × Bool × Int)
def d_z9:FnF := ⟨49,[.ptr 0 0,.str,.int .i64,.box 4,.list,.int .i64,.bool,.int .i64],[.own 11,.box 4,.list,.int .i64,.bool,.int .i64]⟩
def d___sutureref1_Reader__stmt:FnF := ⟨88,[.ptr 0 0,.str,.int .i64,.box 4,.list,.int .i64,.bool,.int .i64],[.agg 11,.int .i64,.str,.str,.int .i64,.int .i64,.int .i64,.str,.list,.list,.list,.cplx .f64,.box 4,.list,.int .i64,.bool,.int .i64]⟩
structure B_z9_ok (b:B_z9):Prop where
 y4:Ok Tryz.prog d_z9 b.y4
 y7:Ok Tryz.prog d___sutureref1_Reader__stmt b.y7
def l_z9_5_B (b:B_z9) (n:Nat) (k:ByteArray × Int × (List T) × (List T) × Int × Bool × Int -> Option ((List T) × (List T) × Int × Bool × Int)):ByteArray × Int × (List T) × (List T) × Int × Bool × Int -> Option ((List T) × (List T) × Int × Bool × Int) := fun (s0,s1,s2,s3,s4,s5,s6) =>
Option.bind (bif (!s5) then m_z15 n (⟨#[125]⟩:ByteArray) s3 s4 s5 s6 else some (false,[],0,false,0)) fun r2 =>
bif (bif (!s5) then (!r2.1) else false) then (
Option.bind (b.y7 s0 s1 (bif (!s5) then r2.2.1 else s3) (bif (!s5) then r2.2.2.1 else s4) (bif (!s5) then r2.2.2.2.1 else s5) (bif (!s5) then r2.2.2.2.2 else s6)) fun r3 =>
bif (!r3.2.2.2.2.2.2.2.2.2.2.2.2.2.1) then (
must true ((Nat.beq 11 11 || Nat.beq 11 0)&&(decide (List.length s2 + List.length [(T.agg [(T.sc (.int .i64 r3.1)),(T.sc (.string r3.2.1)),(T.sc (.string r3.2.2.1)),(T.sc (.int .i64 r3.2.2.2.1)),(T.sc (.int .i64 r3.2.2.2.2.1)),(T.sc (.int .i64 r3.2.2.2.2.2.1)),(T.sc (.string r3.2.2.2.2.2.2.1)),(T.list r3.2.2.2.2.2.2.2.1),(T.list r3.2.2.2.2.2.2.2.2.1),(T.list r3.2.2.2.2.2.2.2.2.2.1),(T.sc (.complex .f64 r3.2.2.2.2.2.2.2.2.2.2.1.1 r3.2.2.2.2.2.2.2.2.2.2.1.2))])] <= 1073741824)&&sized 11 [(T.agg [(T.sc (.int .i64 r3.1)),(T.sc (.string r3.2.1)),(T.sc (.string r3.2.2.1)),(T.sc (.int .i64 r3.2.2.2.1)),(T.sc (.int .i64 r3.2.2.2.2.1)),(T.sc (.int .i64 r3.2.2.2.2.2.1)),(T.sc (.string r3.2.2.2.2.2.2.1)),(T.list r3.2.2.2.2.2.2.2.1),(T.list r3.2.2.2.2.2.2.2.2.1),(T.list r3.2.2.2.2.2.2.2.2.2.1),(T.sc (.complex .f64 r3.2.2.2.2.2.2.2.2.2.2.1.1 r3.2.2.2.2.2.2.2.2.2.2.1.2))])])) (k (s0,s1,(s2++[(T.agg [(T.sc (.int .i64 r3.1)),(T.sc (.string r3.2.1)),(T.sc (.string r3.2.2.1)),(T.sc (.int .i64 r3.2.2.2.1)),(T.sc (.int .i64 r3.2.2.2.2.1)),(T.sc (.int .i64 r3.2.2.2.2.2.1)),(T.sc (.string r3.2.2.2.2.2.2.1)),(T.list r3.2.2.2.2.2.2.2.1),(T.list r3.2.2.2.2.2.2.2.2.1),(T.list r3.2.2.2.2.2.2.2.2.2.1),(T.sc (.complex .f64 r3.2.2.2.2.2.2.2.2.2.2.1.1 r3.2.2.2.2.2.2.2.2.2.2.1.2))])]),r3.2.2.2.2.2.2.2.2.2.2.2.1,r3.2.2.2.2.2.2.2.2.2.2.2.2.1,r3.2.2.2.2.2.2.2.2.2.2.2.2.2.1,r3.2.2.2.2.2.2.2.2.2.2.2.2.2.2)))
else (
k (s0,s1,s2,r3.2.2.2.2.2.2.2.2.2.2.2.1,r3.2.2.2.2.2.2.2.2.2.2.2.2.1,r3.2.2.2.2.2.2.2.2.2.2.2.2.2.1,r3.2.2.2.2.2.2.2.2.2.2.2.2.2.2)))
else (
some (s2,(bif (!s5) then r2.2.1 else s3),(bif (!s5) then r2.2.2.1 else s4),(bif (!s5) then r2.2.2.2.1 else s5),(bif (!s5) then r2.2.2.2.2 else s6)))
def l_z9_5 (b:B_z9) (n:Nat):Nat -> ByteArray × Int × (List T) × (List T) × Int × Bool × Int -> Option ((List T) × (List T) × Int × Bool × Int)
 | 0,_=>none
 | m + 1,s=>l_z9_5_B b n (l_z9_5 b n m) s
def f_z9 (b:B_z9) (n:Nat) (a0:ByteArray) (a1:Int) (a2:List T) (a3:Int) (a4:Bool) (a5:Int):Option ((List T) × (List T) × Int × Bool × Int) :=
bif (decide ((a1:Int) > 8)) then (
Option.bind (m_z12 n a2 a3 a4 a5) fun r0 =>
Option.bind (m_z13 n (⟨#[123]⟩:ByteArray) r0.1 r0.2.1 r0.2.2.1 r0.2.2.2) fun r1 =>
Option.bind (l_z9_5 b n n (a0,a1,([]:List T),r1.1,r1.2.1,r1.2.2.1,r1.2.2.2)) fun p5 =>
Option.bind (m_z13 n (⟨#[125]⟩:ByteArray) p5.2.1 p5.2.2.1 p5.2.2.2.1 p5.2.2.2.2) fun r6 =>
some (p5.1,r6.1,r6.2.1,r6.2.2.1,r6.2.2.2))
else (
Option.bind (m_z13 n (⟨#[123]⟩:ByteArray) a2 a3 a4 a5) fun r7 =>
Option.bind (l_z9_5 b n n (a0,a1,([]:List T),r7.1,r7.2.1,r7.2.2.1,r7.2.2.2)) fun p9 =>
Option.bind (m_z13 n (⟨#[125]⟩:ByteArray) p9.2.1 p9.2.2.1 p9.2.2.2.1 p9.2.2.2.2) fun r10 =>
some (p9.1,r10.1,r10.2.1,r10.2.2.1,r10.2.2.2))
def cs_z9 (b:B_z9) (hb:B_z9_ok b) (n:Nat):List (CalF Tryz.prog) := [⟨d_z12,m_z12 n,m_z12_ok n⟩,⟨d_z13,m_z13 n,m_z13_ok n⟩,⟨d_z15,m_z15 n,m_z15_ok n⟩,⟨d___sutureref1_Reader__stmt,b.y7,hb.y7⟩]
def L_l_z9_5:LF := ⟨5,[0,1,2,7],[.ptr 0 0,.str,.int .i64,.own 11,.box 4,.list,.int .i64,.bool,.int .i64],[⟨(.exit 0),[0,7],[.ptr 0 0,.own 11,.box 4,.list,.int .i64,.bool,.int .i64]⟩]⟩
def ls_z9 (b:B_z9) (n:Nat):List LE := [⟨5,loopS L_l_z9_5 (l_z9_5 b n n)⟩]
theorem l_z9_5_ok (b:B_z9) (hb:B_z9_ok b) (n:Nat):LoopOk Tryz.prog (mkSpec (cs_z9 b hb n) (ls_z9 b n)) 1 41 (loopAt Tryz.f49 0) := loopOk (L := L_l_z9_5) (f := l_z9_5 b n) (B := l_z9_5_B b n) (k := n) (loopAt_ok sound Tryz.func49 (by kernel_rfl)) (inner (by kernel_rfl) allN) (innerS (by kernel_rfl) allN) (fun _=>rfl) (fun _ _=>rfl) (by kernel_rfl) (fun _=>by kernel_rfl) (by kernel_rfl) (fun k a=>by kernel_rfl)
theorem f_z9_ok (b:B_z9) (hb:B_z9_ok b) (n:Nat):Ok Tryz.prog d_z9 (f_z9 b n) := fnOk sound (cs := cs_z9 b hb n) (ls := ls_z9 b n) (n := 41) Tryz.func49 (by kernel_rfl) (fun _=>by kernel_rfl) (inner (by kernel_rfl) (allC (l_z9_5_ok b hb n) allN)) (innerS (by kernel_rfl) allN) (by kernel_rfl) (fun a=>by kernel_rfl)
end Go.Proofs.YtbcgpjlkkcdmmaaGreatDoor.W
