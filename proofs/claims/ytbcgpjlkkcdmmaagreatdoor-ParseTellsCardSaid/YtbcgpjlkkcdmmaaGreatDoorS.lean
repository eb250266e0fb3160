/- What the engine's walk comes to, printed by a program of this work: for each function its model, and that it is one. No conditions. -/
import Derived.Test.YtbcgpjlkkcdmmaaGreatDoorS2
namespace Go.Proofs.YtbcgpjlkkcdmmaaGreatDoor.W
open Go Go.Eng
set_option linter.unusedVariables false
set_option linter.unusedSimpArgs false
set_option maxRecDepth 100000
def f___sutureref1_Reader__stmt (b:B_z9) (n:Nat) (a0:ByteArray) (a1:Int) (a2:List T) (a3:Int) (a4:Bool) (a5:Int):Option (Int × ByteArray × ByteArray × Int × Int × Int × ByteArray × (List T) × (List T) × (List T) × (Nat × Nat) × (List T) × Int × Bool × Int) :=
Option.bind (idx true [.int .i64,.str,.int .i64,.int .i64] a2 a3) fun y0 =>
Option.bind (m_z56 n a0 (y0.cell 3).int) fun r1 =>
bif (((y0.cell 0).int:Int) != 1) then (
Option.bind (m_z12 n a2 a3 a4 a5) fun r2 =>
some (0,(⟨#[]⟩:ByteArray),(⟨#[]⟩:ByteArray),0,0,0,(⟨#[]⟩:ByteArray),([]:List T),([]:List T),([]:List T),r1,r2.1,r2.2.1,r2.2.2.1,r2.2.2.2))
else (
bif (ByteArray.toList (y0.cell 1).str == ByteArray.toList (⟨#[108,111,99,107]⟩:ByteArray)) then (
bif (ByteArray.toList (y0.cell 1).str == ByteArray.toList (⟨#[108,111,99,107]⟩:ByteArray)) then (
bif (ByteArray.toList (y0.cell 1).str == ByteArray.toList (⟨#[117,110,108,111,99,107]⟩:ByteArray)) then (
Option.bind (m_z14 n a2 (IntKind.wrap .i64 (a3 + 1)) a4 a5) fun r3 =>
some (3,r3.1,(⟨#[]⟩:ByteArray),0,0,0,(⟨#[]⟩:ByteArray),([]:List T),([]:List T),([]:List T),r1,r3.2.1,r3.2.2.1,r3.2.2.2.1,r3.2.2.2.2))
else (
bif (ByteArray.toList (y0.cell 1).str == ByteArray.toList (⟨#[103,111,116,111]⟩:ByteArray)) then (
Option.bind (m_z14 n a2 (IntKind.wrap .i64 (a3 + 1)) a4 a5) fun r4 =>
some (9,r4.1,(⟨#[]⟩:ByteArray),0,0,0,(⟨#[]⟩:ByteArray),([]:List T),([]:List T),([]:List T),r1,r4.2.1,r4.2.2.1,r4.2.2.2.1,r4.2.2.2.2))
else (
bif (ByteArray.toList (y0.cell 1).str == ByteArray.toList (⟨#[108,97,98,101,108]⟩:ByteArray)) then (
Option.bind (m_z14 n a2 (IntKind.wrap .i64 (a3 + 1)) a4 a5) fun r5 =>
some (10,r5.1,(⟨#[]⟩:ByteArray),0,0,0,(⟨#[]⟩:ByteArray),([]:List T),([]:List T),([]:List T),r1,r5.2.1,r5.2.2.1,r5.2.2.2.1,r5.2.2.2.2))
else (
Option.bind (m_z14 n a2 (IntKind.wrap .i64 (a3 + 1)) a4 a5) fun r6 =>
some (2,r6.1,(⟨#[]⟩:ByteArray),0,0,0,(⟨#[]⟩:ByteArray),([]:List T),([]:List T),([]:List T),r1,r6.2.1,r6.2.2.1,r6.2.2.2.1,r6.2.2.2.2)))))
else (
bif (ByteArray.toList (y0.cell 1).str == ByteArray.toList (⟨#[115,101,110,100]⟩:ByteArray)) then (
Option.bind (m_z14 n a2 (IntKind.wrap .i64 (a3 + 1)) a4 a5) fun r7 =>
Option.bind (m_z10 n a0 r7.2.1 r7.2.2.1 r7.2.2.2.1 r7.2.2.2.2) fun r8 =>
some (4,r7.1,(⟨#[]⟩:ByteArray),0,r8.1,r8.2.1,r8.2.2.1,r8.2.2.2.1,([]:List T),([]:List T),r1,r8.2.2.2.2.1,r8.2.2.2.2.2.1,r8.2.2.2.2.2.2.1,r8.2.2.2.2.2.2.2))
else (
bif (ByteArray.toList (y0.cell 1).str == ByteArray.toList (⟨#[114,101,99,118]⟩:ByteArray)) then (
Option.bind (m_z14 n a2 (IntKind.wrap .i64 (a3 + 1)) a4 a5) fun r9 =>
Option.bind (m_z14 n r9.2.1 r9.2.2.1 r9.2.2.2.1 r9.2.2.2.2) fun r10 =>
some (5,r9.1,r10.1,0,0,0,(⟨#[]⟩:ByteArray),([]:List T),([]:List T),([]:List T),r1,r10.2.1,r10.2.2.1,r10.2.2.2.1,r10.2.2.2.2))
else (
bif (ByteArray.toList (y0.cell 1).str == ByteArray.toList (⟨#[112,114,105,110,116]⟩:ByteArray)) then (
Option.bind (m_z10 n a0 a2 (IntKind.wrap .i64 (a3 + 1)) a4 a5) fun r11 =>
some (6,(⟨#[]⟩:ByteArray),(⟨#[]⟩:ByteArray),0,r11.1,r11.2.1,r11.2.2.1,r11.2.2.2.1,([]:List T),([]:List T),r1,r11.2.2.2.2.1,r11.2.2.2.2.2.1,r11.2.2.2.2.2.2.1,r11.2.2.2.2.2.2.2))
else (
bif (ByteArray.toList (y0.cell 1).str == ByteArray.toList (⟨#[105,102]⟩:ByteArray)) then (
Option.bind (m_z10 n a0 a2 (IntKind.wrap .i64 (a3 + 1)) a4 a5) fun r12 =>
Option.bind (b.y4 a0 (IntKind.wrap .i64 (a1 + 1)) r12.2.2.2.2.1 r12.2.2.2.2.2.1 r12.2.2.2.2.2.2.1 r12.2.2.2.2.2.2.2) fun r13 =>
Option.bind (m_z16 n (⟨#[101,108,115,101]⟩:ByteArray) r13.2.1 r13.2.2.1 r13.2.2.2.1 r13.2.2.2.2) fun r14 =>
bif r14.1 then (
Option.bind (b.y4 a0 (IntKind.wrap .i64 (a1 + 1)) r14.2.1 (IntKind.wrap .i64 (r14.2.2.1 + 1)) r14.2.2.2.1 r14.2.2.2.2) fun r15 =>
some (7,(⟨#[]⟩:ByteArray),(⟨#[]⟩:ByteArray),0,r12.1,r12.2.1,r12.2.2.1,r12.2.2.2.1,r13.1,r15.1,r1,r15.2.1,r15.2.2.1,r15.2.2.2.1,r15.2.2.2.2))
else (
some (7,(⟨#[]⟩:ByteArray),(⟨#[]⟩:ByteArray),0,r12.1,r12.2.1,r12.2.2.1,r12.2.2.2.1,r13.1,([]:List T),r1,r14.2.1,r14.2.2.1,r14.2.2.2.1,r14.2.2.2.2)))
else (
bif (ByteArray.toList (y0.cell 1).str == ByteArray.toList (⟨#[114,101,112,101,97,116]⟩:ByteArray)) then (
Option.bind (m_z8 n 9 a2 (IntKind.wrap .i64 (a3 + 1)) a4 a5) fun r16 =>
Option.bind (b.y4 a0 (IntKind.wrap .i64 (a1 + 1)) r16.2.1 r16.2.2.1 r16.2.2.2.1 r16.2.2.2.2) fun r17 =>
some (8,(⟨#[]⟩:ByteArray),(⟨#[]⟩:ByteArray),r16.1,0,0,(⟨#[]⟩:ByteArray),([]:List T),r17.1,([]:List T),r1,r17.2.1,r17.2.2.1,r17.2.2.2.1,r17.2.2.2.2))
else (
Option.bind (m_z35 n (y0.cell 1).str) fun r18 =>
bif r18 then (
Option.bind (m_z7 n (IntKind.wrap .i64 ((IntKind.wrap .i64 (a3 + 1)) - 1)) a2 (IntKind.wrap .i64 (a3 + 1)) a4 a5) fun r19 =>
some (0,(⟨#[]⟩:ByteArray),(⟨#[]⟩:ByteArray),0,0,0,(⟨#[]⟩:ByteArray),([]:List T),([]:List T),([]:List T),r1,r19.1,r19.2.1,r19.2.2.1,r19.2.2.2))
else (
Option.bind (m_z13 n (⟨#[61]⟩:ByteArray) a2 (IntKind.wrap .i64 (a3 + 1)) a4 a5) fun r20 =>
Option.bind (m_z10 n a0 r20.1 r20.2.1 r20.2.2.1 r20.2.2.2) fun r21 =>
some (1,(y0.cell 1).str,(⟨#[]⟩:ByteArray),0,r21.1,r21.2.1,r21.2.2.1,r21.2.2.2.1,([]:List T),([]:List T),r1,r21.2.2.2.2.1,r21.2.2.2.2.2.1,r21.2.2.2.2.2.2.1,r21.2.2.2.2.2.2.2)))))))))
else (
bif (ByteArray.toList (y0.cell 1).str == ByteArray.toList (⟨#[117,110,108,111,99,107]⟩:ByteArray)) then (
bif (ByteArray.toList (y0.cell 1).str == ByteArray.toList (⟨#[117,110,108,111,99,107]⟩:ByteArray)) then (
bif (ByteArray.toList (y0.cell 1).str == ByteArray.toList (⟨#[117,110,108,111,99,107]⟩:ByteArray)) then (
Option.bind (m_z14 n a2 (IntKind.wrap .i64 (a3 + 1)) a4 a5) fun r22 =>
some (3,r22.1,(⟨#[]⟩:ByteArray),0,0,0,(⟨#[]⟩:ByteArray),([]:List T),([]:List T),([]:List T),r1,r22.2.1,r22.2.2.1,r22.2.2.2.1,r22.2.2.2.2))
else (
bif (ByteArray.toList (y0.cell 1).str == ByteArray.toList (⟨#[103,111,116,111]⟩:ByteArray)) then (
Option.bind (m_z14 n a2 (IntKind.wrap .i64 (a3 + 1)) a4 a5) fun r23 =>
some (9,r23.1,(⟨#[]⟩:ByteArray),0,0,0,(⟨#[]⟩:ByteArray),([]:List T),([]:List T),([]:List T),r1,r23.2.1,r23.2.2.1,r23.2.2.2.1,r23.2.2.2.2))
else (
bif (ByteArray.toList (y0.cell 1).str == ByteArray.toList (⟨#[108,97,98,101,108]⟩:ByteArray)) then (
Option.bind (m_z14 n a2 (IntKind.wrap .i64 (a3 + 1)) a4 a5) fun r24 =>
some (10,r24.1,(⟨#[]⟩:ByteArray),0,0,0,(⟨#[]⟩:ByteArray),([]:List T),([]:List T),([]:List T),r1,r24.2.1,r24.2.2.1,r24.2.2.2.1,r24.2.2.2.2))
else (
Option.bind (m_z14 n a2 (IntKind.wrap .i64 (a3 + 1)) a4 a5) fun r25 =>
some (2,r25.1,(⟨#[]⟩:ByteArray),0,0,0,(⟨#[]⟩:ByteArray),([]:List T),([]:List T),([]:List T),r1,r25.2.1,r25.2.2.1,r25.2.2.2.1,r25.2.2.2.2)))))
else (
bif (ByteArray.toList (y0.cell 1).str == ByteArray.toList (⟨#[115,101,110,100]⟩:ByteArray)) then (
Option.bind (m_z14 n a2 (IntKind.wrap .i64 (a3 + 1)) a4 a5) fun r26 =>
Option.bind (m_z10 n a0 r26.2.1 r26.2.2.1 r26.2.2.2.1 r26.2.2.2.2) fun r27 =>
some (4,r26.1,(⟨#[]⟩:ByteArray),0,r27.1,r27.2.1,r27.2.2.1,r27.2.2.2.1,([]:List T),([]:List T),r1,r27.2.2.2.2.1,r27.2.2.2.2.2.1,r27.2.2.2.2.2.2.1,r27.2.2.2.2.2.2.2))
else (
bif (ByteArray.toList (y0.cell 1).str == ByteArray.toList (⟨#[114,101,99,118]⟩:ByteArray)) then (
Option.bind (m_z14 n a2 (IntKind.wrap .i64 (a3 + 1)) a4 a5) fun r28 =>
Option.bind (m_z14 n r28.2.1 r28.2.2.1 r28.2.2.2.1 r28.2.2.2.2) fun r29 =>
some (5,r28.1,r29.1,0,0,0,(⟨#[]⟩:ByteArray),([]:List T),([]:List T),([]:List T),r1,r29.2.1,r29.2.2.1,r29.2.2.2.1,r29.2.2.2.2))
else (
bif (ByteArray.toList (y0.cell 1).str == ByteArray.toList (⟨#[112,114,105,110,116]⟩:ByteArray)) then (
Option.bind (m_z10 n a0 a2 (IntKind.wrap .i64 (a3 + 1)) a4 a5) fun r30 =>
some (6,(⟨#[]⟩:ByteArray),(⟨#[]⟩:ByteArray),0,r30.1,r30.2.1,r30.2.2.1,r30.2.2.2.1,([]:List T),([]:List T),r1,r30.2.2.2.2.1,r30.2.2.2.2.2.1,r30.2.2.2.2.2.2.1,r30.2.2.2.2.2.2.2))
else (
bif (ByteArray.toList (y0.cell 1).str == ByteArray.toList (⟨#[105,102]⟩:ByteArray)) then (
Option.bind (m_z10 n a0 a2 (IntKind.wrap .i64 (a3 + 1)) a4 a5) fun r31 =>
Option.bind (b.y4 a0 (IntKind.wrap .i64 (a1 + 1)) r31.2.2.2.2.1 r31.2.2.2.2.2.1 r31.2.2.2.2.2.2.1 r31.2.2.2.2.2.2.2) fun r32 =>
Option.bind (m_z16 n (⟨#[101,108,115,101]⟩:ByteArray) r32.2.1 r32.2.2.1 r32.2.2.2.1 r32.2.2.2.2) fun r33 =>
bif r33.1 then (
Option.bind (b.y4 a0 (IntKind.wrap .i64 (a1 + 1)) r33.2.1 (IntKind.wrap .i64 (r33.2.2.1 + 1)) r33.2.2.2.1 r33.2.2.2.2) fun r34 =>
some (7,(⟨#[]⟩:ByteArray),(⟨#[]⟩:ByteArray),0,r31.1,r31.2.1,r31.2.2.1,r31.2.2.2.1,r32.1,r34.1,r1,r34.2.1,r34.2.2.1,r34.2.2.2.1,r34.2.2.2.2))
else (
some (7,(⟨#[]⟩:ByteArray),(⟨#[]⟩:ByteArray),0,r31.1,r31.2.1,r31.2.2.1,r31.2.2.2.1,r32.1,([]:List T),r1,r33.2.1,r33.2.2.1,r33.2.2.2.1,r33.2.2.2.2)))
else (
bif (ByteArray.toList (y0.cell 1).str == ByteArray.toList (⟨#[114,101,112,101,97,116]⟩:ByteArray)) then (
Option.bind (m_z8 n 9 a2 (IntKind.wrap .i64 (a3 + 1)) a4 a5) fun r35 =>
Option.bind (b.y4 a0 (IntKind.wrap .i64 (a1 + 1)) r35.2.1 r35.2.2.1 r35.2.2.2.1 r35.2.2.2.2) fun r36 =>
some (8,(⟨#[]⟩:ByteArray),(⟨#[]⟩:ByteArray),r35.1,0,0,(⟨#[]⟩:ByteArray),([]:List T),r36.1,([]:List T),r1,r36.2.1,r36.2.2.1,r36.2.2.2.1,r36.2.2.2.2))
else (
Option.bind (m_z35 n (y0.cell 1).str) fun r37 =>
bif r37 then (
Option.bind (m_z7 n (IntKind.wrap .i64 ((IntKind.wrap .i64 (a3 + 1)) - 1)) a2 (IntKind.wrap .i64 (a3 + 1)) a4 a5) fun r38 =>
some (0,(⟨#[]⟩:ByteArray),(⟨#[]⟩:ByteArray),0,0,0,(⟨#[]⟩:ByteArray),([]:List T),([]:List T),([]:List T),r1,r38.1,r38.2.1,r38.2.2.1,r38.2.2.2))
else (
Option.bind (m_z13 n (⟨#[61]⟩:ByteArray) a2 (IntKind.wrap .i64 (a3 + 1)) a4 a5) fun r39 =>
Option.bind (m_z10 n a0 r39.1 r39.2.1 r39.2.2.1 r39.2.2.2) fun r40 =>
some (1,(y0.cell 1).str,(⟨#[]⟩:ByteArray),0,r40.1,r40.2.1,r40.2.2.1,r40.2.2.2.1,([]:List T),([]:List T),r1,r40.2.2.2.2.1,r40.2.2.2.2.2.1,r40.2.2.2.2.2.2.1,r40.2.2.2.2.2.2.2)))))))))
else (
bif (ByteArray.toList (y0.cell 1).str == ByteArray.toList (⟨#[103,111,116,111]⟩:ByteArray)) then (
bif (ByteArray.toList (y0.cell 1).str == ByteArray.toList (⟨#[103,111,116,111]⟩:ByteArray)) then (
bif (ByteArray.toList (y0.cell 1).str == ByteArray.toList (⟨#[117,110,108,111,99,107]⟩:ByteArray)) then (
Option.bind (m_z14 n a2 (IntKind.wrap .i64 (a3 + 1)) a4 a5) fun r41 =>
some (3,r41.1,(⟨#[]⟩:ByteArray),0,0,0,(⟨#[]⟩:ByteArray),([]:List T),([]:List T),([]:List T),r1,r41.2.1,r41.2.2.1,r41.2.2.2.1,r41.2.2.2.2))
else (
bif (ByteArray.toList (y0.cell 1).str == ByteArray.toList (⟨#[103,111,116,111]⟩:ByteArray)) then (
Option.bind (m_z14 n a2 (IntKind.wrap .i64 (a3 + 1)) a4 a5) fun r42 =>
some (9,r42.1,(⟨#[]⟩:ByteArray),0,0,0,(⟨#[]⟩:ByteArray),([]:List T),([]:List T),([]:List T),r1,r42.2.1,r42.2.2.1,r42.2.2.2.1,r42.2.2.2.2))
else (
bif (ByteArray.toList (y0.cell 1).str == ByteArray.toList (⟨#[108,97,98,101,108]⟩:ByteArray)) then (
Option.bind (m_z14 n a2 (IntKind.wrap .i64 (a3 + 1)) a4 a5) fun r43 =>
some (10,r43.1,(⟨#[]⟩:ByteArray),0,0,0,(⟨#[]⟩:ByteArray),([]:List T),([]:List T),([]:List T),r1,r43.2.1,r43.2.2.1,r43.2.2.2.1,r43.2.2.2.2))
else (
Option.bind (m_z14 n a2 (IntKind.wrap .i64 (a3 + 1)) a4 a5) fun r44 =>
some (2,r44.1,(⟨#[]⟩:ByteArray),0,0,0,(⟨#[]⟩:ByteArray),([]:List T),([]:List T),([]:List T),r1,r44.2.1,r44.2.2.1,r44.2.2.2.1,r44.2.2.2.2)))))
else (
bif (ByteArray.toList (y0.cell 1).str == ByteArray.toList (⟨#[115,101,110,100]⟩:ByteArray)) then (
Option.bind (m_z14 n a2 (IntKind.wrap .i64 (a3 + 1)) a4 a5) fun r45 =>
Option.bind (m_z10 n a0 r45.2.1 r45.2.2.1 r45.2.2.2.1 r45.2.2.2.2) fun r46 =>
some (4,r45.1,(⟨#[]⟩:ByteArray),0,r46.1,r46.2.1,r46.2.2.1,r46.2.2.2.1,([]:List T),([]:List T),r1,r46.2.2.2.2.1,r46.2.2.2.2.2.1,r46.2.2.2.2.2.2.1,r46.2.2.2.2.2.2.2))
else (
bif (ByteArray.toList (y0.cell 1).str == ByteArray.toList (⟨#[114,101,99,118]⟩:ByteArray)) then (
Option.bind (m_z14 n a2 (IntKind.wrap .i64 (a3 + 1)) a4 a5) fun r47 =>
Option.bind (m_z14 n r47.2.1 r47.2.2.1 r47.2.2.2.1 r47.2.2.2.2) fun r48 =>
some (5,r47.1,r48.1,0,0,0,(⟨#[]⟩:ByteArray),([]:List T),([]:List T),([]:List T),r1,r48.2.1,r48.2.2.1,r48.2.2.2.1,r48.2.2.2.2))
else (
bif (ByteArray.toList (y0.cell 1).str == ByteArray.toList (⟨#[112,114,105,110,116]⟩:ByteArray)) then (
Option.bind (m_z10 n a0 a2 (IntKind.wrap .i64 (a3 + 1)) a4 a5) fun r49 =>
some (6,(⟨#[]⟩:ByteArray),(⟨#[]⟩:ByteArray),0,r49.1,r49.2.1,r49.2.2.1,r49.2.2.2.1,([]:List T),([]:List T),r1,r49.2.2.2.2.1,r49.2.2.2.2.2.1,r49.2.2.2.2.2.2.1,r49.2.2.2.2.2.2.2))
else (
bif (ByteArray.toList (y0.cell 1).str == ByteArray.toList (⟨#[105,102]⟩:ByteArray)) then (
Option.bind (m_z10 n a0 a2 (IntKind.wrap .i64 (a3 + 1)) a4 a5) fun r50 =>
Option.bind (b.y4 a0 (IntKind.wrap .i64 (a1 + 1)) r50.2.2.2.2.1 r50.2.2.2.2.2.1 r50.2.2.2.2.2.2.1 r50.2.2.2.2.2.2.2) fun r51 =>
Option.bind (m_z16 n (⟨#[101,108,115,101]⟩:ByteArray) r51.2.1 r51.2.2.1 r51.2.2.2.1 r51.2.2.2.2) fun r52 =>
bif r52.1 then (
Option.bind (b.y4 a0 (IntKind.wrap .i64 (a1 + 1)) r52.2.1 (IntKind.wrap .i64 (r52.2.2.1 + 1)) r52.2.2.2.1 r52.2.2.2.2) fun r53 =>
some (7,(⟨#[]⟩:ByteArray),(⟨#[]⟩:ByteArray),0,r50.1,r50.2.1,r50.2.2.1,r50.2.2.2.1,r51.1,r53.1,r1,r53.2.1,r53.2.2.1,r53.2.2.2.1,r53.2.2.2.2))
else (
some (7,(⟨#[]⟩:ByteArray),(⟨#[]⟩:ByteArray),0,r50.1,r50.2.1,r50.2.2.1,r50.2.2.2.1,r51.1,([]:List T),r1,r52.2.1,r52.2.2.1,r52.2.2.2.1,r52.2.2.2.2)))
else (
bif (ByteArray.toList (y0.cell 1).str == ByteArray.toList (⟨#[114,101,112,101,97,116]⟩:ByteArray)) then (
Option.bind (m_z8 n 9 a2 (IntKind.wrap .i64 (a3 + 1)) a4 a5) fun r54 =>
Option.bind (b.y4 a0 (IntKind.wrap .i64 (a1 + 1)) r54.2.1 r54.2.2.1 r54.2.2.2.1 r54.2.2.2.2) fun r55 =>
some (8,(⟨#[]⟩:ByteArray),(⟨#[]⟩:ByteArray),r54.1,0,0,(⟨#[]⟩:ByteArray),([]:List T),r55.1,([]:List T),r1,r55.2.1,r55.2.2.1,r55.2.2.2.1,r55.2.2.2.2))
else (
Option.bind (m_z35 n (y0.cell 1).str) fun r56 =>
bif r56 then (
Option.bind (m_z7 n (IntKind.wrap .i64 ((IntKind.wrap .i64 (a3 + 1)) - 1)) a2 (IntKind.wrap .i64 (a3 + 1)) a4 a5) fun r57 =>
some (0,(⟨#[]⟩:ByteArray),(⟨#[]⟩:ByteArray),0,0,0,(⟨#[]⟩:ByteArray),([]:List T),([]:List T),([]:List T),r1,r57.1,r57.2.1,r57.2.2.1,r57.2.2.2))
else (
Option.bind (m_z13 n (⟨#[61]⟩:ByteArray) a2 (IntKind.wrap .i64 (a3 + 1)) a4 a5) fun r58 =>
Option.bind (m_z10 n a0 r58.1 r58.2.1 r58.2.2.1 r58.2.2.2) fun r59 =>
some (1,(y0.cell 1).str,(⟨#[]⟩:ByteArray),0,r59.1,r59.2.1,r59.2.2.1,r59.2.2.2.1,([]:List T),([]:List T),r1,r59.2.2.2.2.1,r59.2.2.2.2.2.1,r59.2.2.2.2.2.2.1,r59.2.2.2.2.2.2.2)))))))))
else (
bif (ByteArray.toList (y0.cell 1).str == ByteArray.toList (⟨#[108,97,98,101,108]⟩:ByteArray)) then (
bif (ByteArray.toList (y0.cell 1).str == ByteArray.toList (⟨#[117,110,108,111,99,107]⟩:ByteArray)) then (
Option.bind (m_z14 n a2 (IntKind.wrap .i64 (a3 + 1)) a4 a5) fun r60 =>
some (3,r60.1,(⟨#[]⟩:ByteArray),0,0,0,(⟨#[]⟩:ByteArray),([]:List T),([]:List T),([]:List T),r1,r60.2.1,r60.2.2.1,r60.2.2.2.1,r60.2.2.2.2))
else (
bif (ByteArray.toList (y0.cell 1).str == ByteArray.toList (⟨#[103,111,116,111]⟩:ByteArray)) then (
Option.bind (m_z14 n a2 (IntKind.wrap .i64 (a3 + 1)) a4 a5) fun r61 =>
some (9,r61.1,(⟨#[]⟩:ByteArray),0,0,0,(⟨#[]⟩:ByteArray),([]:List T),([]:List T),([]:List T),r1,r61.2.1,r61.2.2.1,r61.2.2.2.1,r61.2.2.2.2))
else (
bif (ByteArray.toList (y0.cell 1).str == ByteArray.toList (⟨#[108,97,98,101,108]⟩:ByteArray)) then (
Option.bind (m_z14 n a2 (IntKind.wrap .i64 (a3 + 1)) a4 a5) fun r62 =>
some (10,r62.1,(⟨#[]⟩:ByteArray),0,0,0,(⟨#[]⟩:ByteArray),([]:List T),([]:List T),([]:List T),r1,r62.2.1,r62.2.2.1,r62.2.2.2.1,r62.2.2.2.2))
else (
Option.bind (m_z14 n a2 (IntKind.wrap .i64 (a3 + 1)) a4 a5) fun r63 =>
some (2,r63.1,(⟨#[]⟩:ByteArray),0,0,0,(⟨#[]⟩:ByteArray),([]:List T),([]:List T),([]:List T),r1,r63.2.1,r63.2.2.1,r63.2.2.2.1,r63.2.2.2.2)))))
else (
bif (ByteArray.toList (y0.cell 1).str == ByteArray.toList (⟨#[115,101,110,100]⟩:ByteArray)) then (
Option.bind (m_z14 n a2 (IntKind.wrap .i64 (a3 + 1)) a4 a5) fun r64 =>
Option.bind (m_z10 n a0 r64.2.1 r64.2.2.1 r64.2.2.2.1 r64.2.2.2.2) fun r65 =>
some (4,r64.1,(⟨#[]⟩:ByteArray),0,r65.1,r65.2.1,r65.2.2.1,r65.2.2.2.1,([]:List T),([]:List T),r1,r65.2.2.2.2.1,r65.2.2.2.2.2.1,r65.2.2.2.2.2.2.1,r65.2.2.2.2.2.2.2))
else (
bif (ByteArray.toList (y0.cell 1).str == ByteArray.toList (⟨#[114,101,99,118]⟩:ByteArray)) then (
Option.bind (m_z14 n a2 (IntKind.wrap .i64 (a3 + 1)) a4 a5) fun r66 =>
Option.bind (m_z14 n r66.2.1 r66.2.2.1 r66.2.2.2.1 r66.2.2.2.2) fun r67 =>
some (5,r66.1,r67.1,0,0,0,(⟨#[]⟩:ByteArray),([]:List T),([]:List T),([]:List T),r1,r67.2.1,r67.2.2.1,r67.2.2.2.1,r67.2.2.2.2))
else (
bif (ByteArray.toList (y0.cell 1).str == ByteArray.toList (⟨#[112,114,105,110,116]⟩:ByteArray)) then (
Option.bind (m_z10 n a0 a2 (IntKind.wrap .i64 (a3 + 1)) a4 a5) fun r68 =>
some (6,(⟨#[]⟩:ByteArray),(⟨#[]⟩:ByteArray),0,r68.1,r68.2.1,r68.2.2.1,r68.2.2.2.1,([]:List T),([]:List T),r1,r68.2.2.2.2.1,r68.2.2.2.2.2.1,r68.2.2.2.2.2.2.1,r68.2.2.2.2.2.2.2))
else (
bif (ByteArray.toList (y0.cell 1).str == ByteArray.toList (⟨#[105,102]⟩:ByteArray)) then (
Option.bind (m_z10 n a0 a2 (IntKind.wrap .i64 (a3 + 1)) a4 a5) fun r69 =>
Option.bind (b.y4 a0 (IntKind.wrap .i64 (a1 + 1)) r69.2.2.2.2.1 r69.2.2.2.2.2.1 r69.2.2.2.2.2.2.1 r69.2.2.2.2.2.2.2) fun r70 =>
Option.bind (m_z16 n (⟨#[101,108,115,101]⟩:ByteArray) r70.2.1 r70.2.2.1 r70.2.2.2.1 r70.2.2.2.2) fun r71 =>
bif r71.1 then (
Option.bind (b.y4 a0 (IntKind.wrap .i64 (a1 + 1)) r71.2.1 (IntKind.wrap .i64 (r71.2.2.1 + 1)) r71.2.2.2.1 r71.2.2.2.2) fun r72 =>
some (7,(⟨#[]⟩:ByteArray),(⟨#[]⟩:ByteArray),0,r69.1,r69.2.1,r69.2.2.1,r69.2.2.2.1,r70.1,r72.1,r1,r72.2.1,r72.2.2.1,r72.2.2.2.1,r72.2.2.2.2))
else (
some (7,(⟨#[]⟩:ByteArray),(⟨#[]⟩:ByteArray),0,r69.1,r69.2.1,r69.2.2.1,r69.2.2.2.1,r70.1,([]:List T),r1,r71.2.1,r71.2.2.1,r71.2.2.2.1,r71.2.2.2.2)))
else (
bif (ByteArray.toList (y0.cell 1).str == ByteArray.toList (⟨#[114,101,112,101,97,116]⟩:ByteArray)) then (
Option.bind (m_z8 n 9 a2 (IntKind.wrap .i64 (a3 + 1)) a4 a5) fun r73 =>
Option.bind (b.y4 a0 (IntKind.wrap .i64 (a1 + 1)) r73.2.1 r73.2.2.1 r73.2.2.2.1 r73.2.2.2.2) fun r74 =>
some (8,(⟨#[]⟩:ByteArray),(⟨#[]⟩:ByteArray),r73.1,0,0,(⟨#[]⟩:ByteArray),([]:List T),r74.1,([]:List T),r1,r74.2.1,r74.2.2.1,r74.2.2.2.1,r74.2.2.2.2))
else (
Option.bind (m_z35 n (y0.cell 1).str) fun r75 =>
bif r75 then (
Option.bind (m_z7 n (IntKind.wrap .i64 ((IntKind.wrap .i64 (a3 + 1)) - 1)) a2 (IntKind.wrap .i64 (a3 + 1)) a4 a5) fun r76 =>
some (0,(⟨#[]⟩:ByteArray),(⟨#[]⟩:ByteArray),0,0,0,(⟨#[]⟩:ByteArray),([]:List T),([]:List T),([]:List T),r1,r76.1,r76.2.1,r76.2.2.1,r76.2.2.2))
else (
Option.bind (m_z13 n (⟨#[61]⟩:ByteArray) a2 (IntKind.wrap .i64 (a3 + 1)) a4 a5) fun r77 =>
Option.bind (m_z10 n a0 r77.1 r77.2.1 r77.2.2.1 r77.2.2.2) fun r78 =>
some (1,(y0.cell 1).str,(⟨#[]⟩:ByteArray),0,r78.1,r78.2.1,r78.2.2.1,r78.2.2.2.1,([]:List T),([]:List T),r1,r78.2.2.2.2.1,r78.2.2.2.2.2.1,r78.2.2.2.2.2.2.1,r78.2.2.2.2.2.2.2))))))))))))
theorem f___sutureref1_Reader__stmt_ok (b:B_z9) (hb:B_z9_ok b) (n:Nat):Ok Tryz.prog d___sutureref1_Reader__stmt (f___sutureref1_Reader__stmt b n) := fnOk0 sound [⟨d_z56,m_z56 n,m_z56_ok n⟩,⟨d_z12,m_z12 n,m_z12_ok n⟩,⟨d_z14,m_z14 n,m_z14_ok n⟩,⟨d_z10,m_z10 n,m_z10_ok n⟩,⟨d_z9,b.y4,hb.y4⟩,⟨d_z16,m_z16 n,m_z16_ok n⟩,⟨d_z8,m_z8 n,m_z8_ok n⟩,⟨d_z35,m_z35 n,m_z35_ok n⟩,⟨d_z7,m_z7 n,m_z7_ok n⟩,⟨d_z13,m_z13 n,m_z13_ok n⟩] Tryz.func88 (by kernel_rfl) (fun a=>by kernel_rfl)
def unB_z9 (n:Nat):Nat -> B_z9
 | 0=>{ y4 := fun _ _ _ _ _ _=>none,y7 := fun _ _ _ _ _ _=>none }
 | m + 1=>{ y4 := f_z9 (unB_z9 n m) n,y7 := f___sutureref1_Reader__stmt (unB_z9 n m) n }
theorem unB_z9_ok (n:Nat):∀ m,B_z9_ok (unB_z9 n m)
 | 0=>{ y4 := fun _ _ h=>(nomatch (show none = some _ from h)),y7 := fun _ _ h=>(nomatch (show none = some _ from h)) }
 | m + 1=>{ y4 := f_z9_ok _ (unB_z9_ok n m) n,y7 := f___sutureref1_Reader__stmt_ok _ (unB_z9_ok n m) n }
def m_z9 (n:Nat):ByteArray -> Int -> List T -> Int -> Bool -> Int -> Option ((List T) × (List T) × Int × Bool × Int) := (unB_z9 n n).y4
theorem m_z9_ok (n:Nat):Ok Tryz.prog d_z9 (m_z9 n) := (unB_z9_ok n n).y4
def l_z55_6_B (n:Nat) (k:ByteArray × (List T) × (List T) × (List T) × (List T) × Int × Bool × Int × (List T) × (List T) -> Option (ByteArray × (List T) × (List T) × (List T) × (List T) × Int × Bool × Int × (List T) × (List T))):ByteArray × (List T) × (List T) × (List T) × (List T) × Int × Bool × Int × (List T) × (List T) -> Option (ByteArray × (List T) × (List T) × (List T) × (List T) × Int × Bool × Int × (List T) × (List T)) := fun (s0,s1,s2,s3,s4,s5,s6,s7,s8,s9) =>
Option.bind (idx ((!s6)) [.int .i64,.str,.int .i64,.int .i64] s4 s5) fun y1 =>
Option.bind (idx ((bif (!s6) then (((y1.cell 0).int:Int) == 1) else false)) [.int .i64,.str,.int .i64,.int .i64] s4 s5) fun y2 =>
Option.bind (bif (bif (!s6) then (((y1.cell 0).int:Int) == 1) else false) then m_z31 n (y2.cell 1).str else some 0) fun r3 =>
bif (bif (bif (!s6) then (((y1.cell 0).int:Int) == 1) else false) then (decide ((r3:Int) > 0)) else false) then (
bif ((((List.length s8:Nat):Int):Int) == 24) then (
Option.bind (m_z12 n s4 s5 s6 s7) fun r4 =>
some (s0,s1,s2,s3,r4.1,r4.2.1,r4.2.2.1,r4.2.2.2,s8,s9))
else (
Option.bind (idx true [.int .i64,.str,.int .i64,.int .i64] s4 s5) fun y5 =>
Option.bind (m_z31 n (y5.cell 1).str) fun r6 =>
Option.bind (idx true [.int .i64,.str,.int .i64,.int .i64] s4 s5) fun y7 =>
Option.bind (m_z56 n s0 (y7.cell 3).int) fun r8 =>
Option.bind (m_z14 n s4 (IntKind.wrap .i64 (s5 + 1)) s6 s7) fun r9 =>
bif ((r6:Int) == 6) then (
Option.bind (m_z8 n 3 r9.2.1 r9.2.2.1 r9.2.2.2.1 r9.2.2.2.2) fun r10 =>
must true ((Nat.beq 4 4 || Nat.beq 4 0)&&(decide (List.length s8 + List.length [(T.agg [(T.sc (.int .i64 r6)),(T.sc (.string r9.1)),(T.sc (.int .i64 r10.1)),(T.sc (.complex .f64 r8.1 r8.2))])] <= 1073741824)&&sized 4 [(T.agg [(T.sc (.int .i64 r6)),(T.sc (.string r9.1)),(T.sc (.int .i64 r10.1)),(T.sc (.complex .f64 r8.1 r8.2))])])) (k (s0,s1,s2,s3,r10.2.1,r10.2.2.1,r10.2.2.2.1,r10.2.2.2.2,(s8++[(T.agg [(T.sc (.int .i64 r6)),(T.sc (.string r9.1)),(T.sc (.int .i64 r10.1)),(T.sc (.complex .f64 r8.1 r8.2))])]),s9)))
else (
must true ((Nat.beq 4 4 || Nat.beq 4 0)&&(decide (List.length s8 + List.length [(T.agg [(T.sc (.int .i64 r6)),(T.sc (.string r9.1)),(T.sc (.int .i64 0)),(T.sc (.complex .f64 r8.1 r8.2))])] <= 1073741824)&&sized 4 [(T.agg [(T.sc (.int .i64 r6)),(T.sc (.string r9.1)),(T.sc (.int .i64 0)),(T.sc (.complex .f64 r8.1 r8.2))])])) (k (s0,s1,s2,s3,r9.2.1,r9.2.2.1,r9.2.2.2.1,r9.2.2.2.2,(s8++[(T.agg [(T.sc (.int .i64 r6)),(T.sc (.string r9.1)),(T.sc (.int .i64 0)),(T.sc (.complex .f64 r8.1 r8.2))])]),s9)))))
else (
some (s0,s1,s2,s3,s4,s5,s6,s7,s8,s9))
def l_z55_6 (n:Nat):Nat -> ByteArray × (List T) × (List T) × (List T) × (List T) × Int × Bool × Int × (List T) × (List T) -> Option (ByteArray × (List T) × (List T) × (List T) × (List T) × Int × Bool × Int × (List T) × (List T))
 | 0,_=>none
 | m + 1,s=>l_z55_6_B n (l_z55_6 n m) s
def l_z55_15_B (n:Nat) (k:ByteArray × (List T) × (List T) × (List T) × (List T) × Int × Bool × Int × (List T) × (List T) -> Option ((List T) × (List T) × (List T) × (List T) × Int × Bool × Int × (List T) × (List T))):ByteArray × (List T) × (List T) × (List T) × (List T) × Int × Bool × Int × (List T) × (List T) -> Option ((List T) × (List T) × (List T) × (List T) × Int × Bool × Int × (List T) × (List T)) := fun (s0,s1,s2,s3,s4,s5,s6,s7,s8,s9) =>
Option.bind (idx ((!s6)) [.int .i64,.str,.int .i64,.int .i64] s4 s5) fun y13 =>
bif (bif (!s6) then (bif (((y13.cell 0).int:Int) != 4) then true else ((((List.length s9:Nat):Int):Int) == 0)) else false) then (
Option.bind (m_z16 n (⟨#[103,111]⟩:ByteArray) s4 s5 s6 s7) fun r14 =>
bif (bif (!r14.1) then true else ((((List.length s9:Nat):Int):Int) == 4)) then (
Option.bind (m_z12 n r14.2.1 r14.2.2.1 r14.2.2.2.1 r14.2.2.2.2) fun r15 =>
some (s1,s2,s3,r15.1,r15.2.1,r15.2.2.1,r15.2.2.2,s8,s9))
else (
Option.bind (m_z9 n s0 1 r14.2.1 (IntKind.wrap .i64 (r14.2.2.1 + 1)) r14.2.2.2.1 r14.2.2.2.2) fun r16 =>
must true ((Nat.beq 1 1 || Nat.beq 1 0)&&(decide (List.length s9 + List.length [(T.list r16.1)] <= 1073741824)&&sized 1 [(T.list r16.1)])) (k (s0,s1,s2,s3,r16.2.1,r16.2.2.1,r16.2.2.2.1,r16.2.2.2.2,s8,(s9++[(T.list r16.1)])))))
else (
some (s1,s2,s3,s4,s5,s6,s7,s8,s9))
def l_z55_15 (n:Nat):Nat -> ByteArray × (List T) × (List T) × (List T) × (List T) × Int × Bool × Int × (List T) × (List T) -> Option ((List T) × (List T) × (List T) × (List T) × Int × Bool × Int × (List T) × (List T))
 | 0,_=>none
 | m + 1,s=>l_z55_15_B n (l_z55_15 n m) s
def m_z55 (n:Nat) (a0:ByteArray):Option ((List T) × (List T) × Int × Int) :=
Option.bind (m_z42 n a0) fun r0 =>
bif ((r0.2.2:Int) != 0) then (
some (([]:List T),([]:List T),r0.2.1,r0.2.2))
else (
Option.bind (l_z55_6 n n (a0,r0.1,([]:List T),([]:List T),r0.1,0,false,0,([]:List T),([]:List T))) fun p12 =>
Option.bind (l_z55_15 n n (p12.1,p12.2.1,p12.2.2.1,p12.2.2.2.1,p12.2.2.2.2.1,p12.2.2.2.2.2.1,p12.2.2.2.2.2.2.1,p12.2.2.2.2.2.2.2.1,p12.2.2.2.2.2.2.2.2.1,p12.2.2.2.2.2.2.2.2.2)) fun p18 =>
bif p18.2.2.2.2.2.1 then (
Option.bind (idx true [.int .i64,.str,.int .i64,.int .i64] p18.1 p18.2.2.2.2.2.2.1) fun y19 =>
some (([]:List T),([]:List T),(y19.cell 3).int,2))
else (
some (p18.2.2.2.2.2.2.2.1,p18.2.2.2.2.2.2.2.2,0,0)))
def d_z55:FnF := ⟨20,[.str],[.tup 3,.agg 2,.list,.list,.int .i64,.int .i64]⟩
def cs_z55 (n:Nat):List (CalF Tryz.prog) := [⟨d_z42,m_z42 n,m_z42_ok n⟩,⟨d_z31,m_z31 n,m_z31_ok n⟩,⟨d_z12,m_z12 n,m_z12_ok n⟩,⟨d_z56,m_z56 n,m_z56_ok n⟩,⟨d_z14,m_z14 n,m_z14_ok n⟩,⟨d_z8,m_z8 n,m_z8_ok n⟩,⟨d_z16,m_z16 n,m_z16_ok n⟩,⟨d_z9,m_z9 n,m_z9_ok n⟩]
def L_l_z55_6:LF := ⟨6,[0,2,5,8,9],[.str,.ptr 0 0,.list,.ptr 1 0,.ptr 2 0,.box 2,.own 0,.own 0,.box 4,.list,.int .i64,.bool,.int .i64,.box 2,.own 4,.own 0],[⟨(.exit 0),[0,2,5,8,9],[.str,.ptr 0 0,.list,.ptr 1 0,.ptr 2 0,.box 2,.own 0,.own 0,.box 4,.list,.int .i64,.bool,.int .i64,.box 2,.own 4,.own 0]⟩]⟩
def L_l_z55_15:LF := ⟨15,[0,2,5,8,9],[.str,.ptr 0 0,.list,.ptr 1 0,.ptr 2 0,.box 2,.own 0,.own 0,.box 4,.list,.int .i64,.bool,.int .i64,.box 2,.own 4,.own 1],[⟨(.exit 2),[2,5,8,9],[.ptr 0 0,.list,.ptr 1 0,.ptr 2 0,.box 2,.own 0,.own 0,.box 4,.list,.int .i64,.bool,.int .i64,.box 2,.own 4,.own 1]⟩]⟩
def ls_z55 (n:Nat):List LE := [⟨6,loopS L_l_z55_6 (l_z55_6 n n)⟩,⟨15,loopS L_l_z55_15 (l_z55_15 n n)⟩]
theorem l_z55_6_ok (n:Nat):LoopOk Tryz.prog (mkSpec (cs_z55 n) (ls_z55 n)) 0 179 (loopAt Tryz.f20 0) := loopOk (L := L_l_z55_6) (f := l_z55_6 n) (B := l_z55_6_B n) (k := n) (loopAt_ok sound Tryz.func20 (by kernel_rfl)) (inner (by kernel_rfl) allN) (innerS (by kernel_rfl) allN) (fun _=>rfl) (fun _ _=>rfl) (by kernel_rfl) (fun _=>by kernel_rfl) (by kernel_rfl) (fun k a=>by kernel_rfl)
theorem l_z55_15_ok (n:Nat):LoopOk Tryz.prog (mkSpec (cs_z55 n) (ls_z55 n)) 0 179 (loopAt Tryz.f20 1) := loopOk (L := L_l_z55_15) (f := l_z55_15 n) (B := l_z55_15_B n) (k := n) (loopAt_ok sound Tryz.func20 (by kernel_rfl)) (inner (by kernel_rfl) allN) (innerS (by kernel_rfl) allN) (fun _=>rfl) (fun _ _=>rfl) (by kernel_rfl) (fun _=>by kernel_rfl) (by kernel_rfl) (fun k a=>by kernel_rfl)
theorem m_z55_ok (n:Nat):Ok Tryz.prog d_z55 (m_z55 n) := fnOk sound (cs := cs_z55 n) (ls := ls_z55 n) (n := 179) Tryz.func20 (by kernel_rfl) (fun _=>by kernel_rfl) (inner (by kernel_rfl) (allC (l_z55_6_ok n) (allC (l_z55_15_ok n) allN))) (innerS (by kernel_rfl) allN) (by kernel_rfl) (fun a=>by kernel_rfl)
def m_z34 (n:Nat):Option (Bool) :=
Option.bind (m_z92 n (⟨#[118,97,114,32,120,32,103,111,123,120,61,49,125]⟩:ByteArray)) fun r0 =>
Option.bind (idx ((bif ((r0.2.2.2:Int) == 0) then ((((List.length r0.1:Nat):Int):Int) == 1) else false)) [.int .i64,.str,.int .i64,.cplx .f64] r0.1 0) fun y1 =>
Option.bind (idx ((bif (bif (bif ((r0.2.2.2:Int) == 0) then ((((List.length r0.1:Nat):Int):Int) == 1) else false) then (cplxEq .f64 (y1.cell 3).re (y1.cell 3).im 4607182418800017408 4607182418800017408) else false) then ((((List.length r0.2.1:Nat):Int):Int) == 1) else false)) [.list] r0.2.1 0) fun y2 =>
Option.bind (idx ((bif (bif (bif (bif ((r0.2.2.2:Int) == 0) then ((((List.length r0.1:Nat):Int):Int) == 1) else false) then (cplxEq .f64 (y1.cell 3).re (y1.cell 3).im 4607182418800017408 4607182418800017408) else false) then ((((List.length r0.2.1:Nat):Int):Int) == 1) else false) then ((((List.length (y2.cell 0).lst:Nat):Int):Int) == 1) else false)) [.list] r0.2.1 0) fun y3 =>
Option.bind (idx ((bif (bif (bif (bif ((r0.2.2.2:Int) == 0) then ((((List.length r0.1:Nat):Int):Int) == 1) else false) then (cplxEq .f64 (y1.cell 3).re (y1.cell 3).im 4607182418800017408 4607182418800017408) else false) then ((((List.length r0.2.1:Nat):Int):Int) == 1) else false) then ((((List.length (y2.cell 0).lst:Nat):Int):Int) == 1) else false)) [.int .i64,.str,.str,.int .i64,.int .i64,.int .i64,.str,.list,.list,.list,.cplx .f64] (y3.cell 0).lst 0) fun y4 =>
Option.bind (idx ((bif (bif (bif (bif (bif ((r0.2.2.2:Int) == 0) then ((((List.length r0.1:Nat):Int):Int) == 1) else false) then (cplxEq .f64 (y1.cell 3).re (y1.cell 3).im 4607182418800017408 4607182418800017408) else false) then ((((List.length r0.2.1:Nat):Int):Int) == 1) else false) then ((((List.length (y2.cell 0).lst:Nat):Int):Int) == 1) else false) then (((y4.cell 0).int:Int) == 1) else false)) [.list] r0.2.1 0) fun y5 =>
Option.bind (idx ((bif (bif (bif (bif (bif ((r0.2.2.2:Int) == 0) then ((((List.length r0.1:Nat):Int):Int) == 1) else false) then (cplxEq .f64 (y1.cell 3).re (y1.cell 3).im 4607182418800017408 4607182418800017408) else false) then ((((List.length r0.2.1:Nat):Int):Int) == 1) else false) then ((((List.length (y2.cell 0).lst:Nat):Int):Int) == 1) else false) then (((y4.cell 0).int:Int) == 1) else false)) [.int .i64,.str,.str,.int .i64,.int .i64,.int .i64,.str,.list,.list,.list,.cplx .f64] (y5.cell 0).lst 0) fun y6 =>
some (bif (bif (bif (bif (bif (bif ((r0.2.2.2:Int) == 0) then ((((List.length r0.1:Nat):Int):Int) == 1) else false) then (cplxEq .f64 (y1.cell 3).re (y1.cell 3).im 4607182418800017408 4607182418800017408) else false) then ((((List.length r0.2.1:Nat):Int):Int) == 1) else false) then ((((List.length (y2.cell 0).lst:Nat):Int):Int) == 1) else false) then (((y4.cell 0).int:Int) == 1) else false) then (cplxEq .f64 (y6.cell 10).re (y6.cell 10).im 4607182418800017408 4621819117588971520) else false)
def d_z34:FnF := ⟨21,[],[.bool]⟩
theorem m_z34_ok (n:Nat):Ok Tryz.prog d_z34 (m_z34 n) := fnOk0 sound [⟨d_z92,m_z92 n,m_z92_ok n⟩] Tryz.func21 (by kernel_rfl) (fun a=>by kernel_rfl)
def m_z54 (n:Nat):Option (Bool) := some true
def d_z54:FnF := ⟨21,[],[.bool]⟩
theorem m_z54_ok (n:Nat):Ok Tryz.prog d_z54 (m_z54 n) := fun a r h=>by
 cases (Option.some.inj (show some true = some r from h))
 exact m_z34_ok 3000 () true (show m_z34 3000 = some true from by kernel_rfl)
def l_z28_4_B (n:Nat) (k:(List T) × (List T) × Int -> Option (((Bool) ⊕ Unit))):(List T) × (List T) × Int -> Option (((Bool) ⊕ Unit)) := fun (s0,s1,s2) =>
bif (decide ((s2:Int) < ((List.length s0:Nat):Int))) then (
Option.bind (idx true [.int .i64,.str,.int .i64,.cplx .f64] s0 s2) fun y0 =>
Option.bind (idx true [.int .i64,.str,.int .i64,.cplx .f64] s1 s2) fun y1 =>
Option.bind (idx (!(((y0.cell 0).int:Int) != (y1.cell 0).int)) [.int .i64,.str,.int .i64,.cplx .f64] s0 s2) fun y2 =>
Option.bind (idx (!(((y0.cell 0).int:Int) != (y1.cell 0).int)) [.int .i64,.str,.int .i64,.cplx .f64] s1 s2) fun y3 =>
Option.bind (idx (!(bif (((y0.cell 0).int:Int) != (y1.cell 0).int) then true else (!(ByteArray.toList (y2.cell 1).str == ByteArray.toList (y3.cell 1).str)))) [.int .i64,.str,.int .i64,.cplx .f64] s0 s2) fun y4 =>
Option.bind (idx (!(bif (((y0.cell 0).int:Int) != (y1.cell 0).int) then true else (!(ByteArray.toList (y2.cell 1).str == ByteArray.toList (y3.cell 1).str)))) [.int .i64,.str,.int .i64,.cplx .f64] s1 s2) fun y5 =>
bif (bif (bif (((y0.cell 0).int:Int) != (y1.cell 0).int) then true else (!(ByteArray.toList (y2.cell 1).str == ByteArray.toList (y3.cell 1).str))) then true else (((y4.cell 2).int:Int) != (y5.cell 2).int)) then (
some (Sum.inl false))
else (
k (s0,s1,(IntKind.wrap .i64 (s2 + 1)))))
else (
some (Sum.inr ()))
def l_z28_4 (n:Nat):Nat -> (List T) × (List T) × Int -> Option (((Bool) ⊕ Unit))
 | 0,_=>none
 | m + 1,s=>l_z28_4_B n (l_z28_4 n m) s
def m_z28 (n:Nat) (a0:List T) (a1:List T):Option (Bool) :=
bif ((((List.length a0:Nat):Int):Int) != ((List.length a1:Nat):Int)) then (
some false)
else (
Option.bind (l_z28_4 n n (a0,a1,0)) fun x6 =>
Sum.elim (fun p7 =>
some p7) (fun x6'=>(fun p8 =>
some true) x6') x6)
def d_z28:FnF := ⟨28,[.list,.list],[.bool]⟩
def cs_z28 (n:Nat):List (CalF Tryz.prog) := []
def L_l_z28_4:LF := ⟨4,[0,1,5],[.list,.list,.int .i64],[⟨.ret,[4],[.bool]⟩,⟨(.exit 0),[],[]⟩]⟩
def ls_z28 (n:Nat):List LE := [⟨4,loopS L_l_z28_4 (l_z28_4 n n)⟩]
theorem l_z28_4_ok (n:Nat):LoopOk Tryz.prog (mkSpec (cs_z28 n) (ls_z28 n)) 0 54 (loopAt Tryz.f28 0) := loopOk (L := L_l_z28_4) (f := l_z28_4 n) (B := l_z28_4_B n) (k := n) (loopAt_ok sound Tryz.func28 (by kernel_rfl)) (inner (by kernel_rfl) allN) (innerS (by kernel_rfl) allN) (fun _=>rfl) (fun _ _=>rfl) (by kernel_rfl) (fun _=>by kernel_rfl) (by kernel_rfl) (fun k a=>by kernel_rfl)
theorem m_z28_ok (n:Nat):Ok Tryz.prog d_z28 (m_z28 n) := fnOk sound (cs := cs_z28 n) (ls := ls_z28 n) (n := 54) Tryz.func28 (by kernel_rfl) (fun _=>by kernel_rfl) (inner (by kernel_rfl) (allC (l_z28_4_ok n) allN)) (innerS (by kernel_rfl) allN) (by kernel_rfl) (fun a=>by kernel_rfl)
structure B_z30 where
 y17:Int -> Int -> ByteArray -> List T -> Int -> Int -> ByteArray -> List T -> Option (Bool)
def d_z30:FnF := ⟨53,[.agg 4,.int .i64,.int .i64,.str,.list,.agg 4,.int .i64,.int .i64,.str,.list],[.bool]⟩
structure B_z30_ok (b:B_z30):Prop where
 y17:Ok Tryz.prog d_z30 b.y17
def l_z30_4_B (b:B_z30) (n:Nat) (k:Int × Int × Int × ByteArray × (List T) × Int × Int × ByteArray × (List T) -> Option (((Int × Int × ByteArray × (List T) × Int × Int × ByteArray × (List T)) ⊕ Bool × Int × Int × ByteArray × (List T) × Int × Int × ByteArray × (List T)))):Int × Int × Int × ByteArray × (List T) × Int × Int × ByteArray × (List T) -> Option (((Int × Int × ByteArray × (List T) × Int × Int × ByteArray × (List T)) ⊕ Bool × Int × Int × ByteArray × (List T) × Int × Int × ByteArray × (List T))) := fun (s0,s1,s2,s3,s4,s5,s6,s7,s8) =>
bif (decide ((s0:Int) < ((List.length s4:Nat):Int))) then (
Option.bind (idx true [.int .i64,.int .i64,.str,.list] s4 s0) fun y0 =>
Option.bind (idx true [.int .i64,.int .i64,.str,.list] s8 s0) fun y1 =>
Option.bind (b.y17 (y0.cell 0).int (y0.cell 1).int (y0.cell 2).str (y0.cell 3).lst (y1.cell 0).int (y1.cell 1).int (y1.cell 2).str (y1.cell 3).lst) fun r2 =>
bif (!r2) then (
some (Sum.inr (false,s1,s2,s3,s4,s5,s6,s7,s8)))
else (
k ((IntKind.wrap .i64 (s0 + 1)),s1,s2,s3,s4,s5,s6,s7,s8)))
else (
some (Sum.inl (s1,s2,s3,s4,s5,s6,s7,s8)))
def l_z30_4 (b:B_z30) (n:Nat):Nat -> Int × Int × Int × ByteArray × (List T) × Int × Int × ByteArray × (List T) -> Option (((Int × Int × ByteArray × (List T) × Int × Int × ByteArray × (List T)) ⊕ Bool × Int × Int × ByteArray × (List T) × Int × Int × ByteArray × (List T)))
 | 0,_=>none
 | m + 1,s=>l_z30_4_B b n (l_z30_4 b n m) s
def f_z30 (b:B_z30) (n:Nat) (a0:Int) (a1:Int) (a2:ByteArray) (a3:List T) (a4:Int) (a5:Int) (a6:ByteArray) (a7:List T):Option (Bool) :=
bif (bif (bif (bif ((a0:Int) != a4) then true else ((a1:Int) != a5)) then true else (!(ByteArray.toList a2 == ByteArray.toList a6))) then true else ((((List.length a3:Nat):Int):Int) != ((List.length a7:Nat):Int))) then (
some false)
else (
Option.bind (l_z30_4 b n n (0,a0,a1,a2,a3,a4,a5,a6,a7)) fun x3 =>
Sum.elim (fun p4 =>
some true) (fun x3'=>(fun p5 =>
some p5.1) x3') x3)
def cs_z30 (b:B_z30) (hb:B_z30_ok b) (n:Nat):List (CalF Tryz.prog) := [⟨d_z30,b.y17,hb.y17⟩]
def L_l_z30_4:LF := ⟨4,[2,3,5],[.ptr 0 0,.ptr 1 0,.int .i64,.box 4,.int .i64,.int .i64,.str,.list,.box 4,.int .i64,.int .i64,.str,.list],[⟨(.exit 0),[],[.box 4,.int .i64,.int .i64,.str,.list,.box 4,.int .i64,.int .i64,.str,.list]⟩,⟨.ret,[4],[.bool,.box 4,.int .i64,.int .i64,.str,.list,.box 4,.int .i64,.int .i64,.str,.list]⟩]⟩
def ls_z30 (b:B_z30) (n:Nat):List LE := [⟨4,loopS L_l_z30_4 (l_z30_4 b n n)⟩]
theorem l_z30_4_ok (b:B_z30) (hb:B_z30_ok b) (n:Nat):LoopOk Tryz.prog (mkSpec (cs_z30 b hb n) (ls_z30 b n)) 0 53 (loopAt Tryz.f53 0) := loopOk (L := L_l_z30_4) (f := l_z30_4 b n) (B := l_z30_4_B b n) (k := n) (loopAt_ok sound Tryz.func53 (by kernel_rfl)) (inner (by kernel_rfl) allN) (innerS (by kernel_rfl) allN) (fun _=>rfl) (fun _ _=>rfl) (by kernel_rfl) (fun _=>by kernel_rfl) (by kernel_rfl) (fun k a=>by kernel_rfl)
theorem f_z30_ok (b:B_z30) (hb:B_z30_ok b) (n:Nat):Ok Tryz.prog d_z30 (f_z30 b n) := fnOk sound (cs := cs_z30 b hb n) (ls := ls_z30 b n) (n := 53) Tryz.func53 (by kernel_rfl) (fun _=>by kernel_rfl) (inner (by kernel_rfl) (allC (l_z30_4_ok b hb n) allN)) (innerS (by kernel_rfl) allN) (by kernel_rfl) (fun a=>by kernel_rfl)
def unB_z30 (n:Nat):Nat -> B_z30
 | 0=>{ y17 := fun _ _ _ _ _ _ _ _=>none }
 | m + 1=>{ y17 := f_z30 (unB_z30 n m) n }
theorem unB_z30_ok (n:Nat):∀ m,B_z30_ok (unB_z30 n m)
 | 0=>{ y17 := fun _ _ h=>(nomatch (show none = some _ from h)) }
 | m + 1=>{ y17 := f_z30_ok _ (unB_z30_ok n m) n }
def m_z30 (n:Nat):Int -> Int -> ByteArray -> List T -> Int -> Int -> ByteArray -> List T -> Option (Bool) := (unB_z30 n n).y17
theorem m_z30_ok (n:Nat):Ok Tryz.prog d_z30 (m_z30 n) := (unB_z30_ok n n).y17
structure B_z27 where
 y16:List T -> List T -> Option (Bool)
def d_z27:FnF := ⟨27,[.list,.list],[.bool]⟩
structure B_z27_ok (b:B_z27):Prop where
 y16:Ok Tryz.prog d_z27 b.y16
def l_z27_4_B (b:B_z27) (n:Nat) (k:(List T) × (List T) × Int -> Option (((Unit) ⊕ Bool))):(List T) × (List T) × Int -> Option (((Unit) ⊕ Bool)) := fun (s0,s1,s2) =>
bif (decide ((s2:Int) < ((List.length s0:Nat):Int))) then (
Option.bind (idx true [.int .i64,.str,.str,.int .i64,.int .i64,.int .i64,.str,.list,.list,.list,.cplx .f64] s0 s2) fun y0 =>
Option.bind (idx true [.int .i64,.str,.str,.int .i64,.int .i64,.int .i64,.str,.list,.list,.list,.cplx .f64] s1 s2) fun y1 =>
Option.bind (bif !(bif (bif (bif (((y0.cell 0).int:Int) != (y1.cell 0).int) then true else (!(ByteArray.toList (y0.cell 1).str == ByteArray.toList (y1.cell 1).str))) then true else (!(ByteArray.toList (y0.cell 2).str == ByteArray.toList (y1.cell 2).str))) then true else (((y0.cell 3).int:Int) != (y1.cell 3).int)) then m_z30 n (y0.cell 4).int (y0.cell 5).int (y0.cell 6).str (y0.cell 7).lst (y1.cell 4).int (y1.cell 5).int (y1.cell 6).str (y1.cell 7).lst else some false) fun r2 =>
Option.bind (bif !(bif (bif (bif (bif (((y0.cell 0).int:Int) != (y1.cell 0).int) then true else (!(ByteArray.toList (y0.cell 1).str == ByteArray.toList (y1.cell 1).str))) then true else (!(ByteArray.toList (y0.cell 2).str == ByteArray.toList (y1.cell 2).str))) then true else (((y0.cell 3).int:Int) != (y1.cell 3).int)) then true else (!r2)) then b.y16 (y0.cell 8).lst (y1.cell 8).lst else some false) fun r3 =>
Option.bind (bif !(bif (bif (bif (bif (bif (((y0.cell 0).int:Int) != (y1.cell 0).int) then true else (!(ByteArray.toList (y0.cell 1).str == ByteArray.toList (y1.cell 1).str))) then true else (!(ByteArray.toList (y0.cell 2).str == ByteArray.toList (y1.cell 2).str))) then true else (((y0.cell 3).int:Int) != (y1.cell 3).int)) then true else (!r2)) then true else (!r3)) then b.y16 (y0.cell 9).lst (y1.cell 9).lst else some false) fun r4 =>
bif (bif (bif (bif (bif (bif (bif (((y0.cell 0).int:Int) != (y1.cell 0).int) then true else (!(ByteArray.toList (y0.cell 1).str == ByteArray.toList (y1.cell 1).str))) then true else (!(ByteArray.toList (y0.cell 2).str == ByteArray.toList (y1.cell 2).str))) then true else (((y0.cell 3).int:Int) != (y1.cell 3).int)) then true else (!r2)) then true else (!r3)) then true else (!r4)) then (
some (Sum.inr false))
else (
k (s0,s1,(IntKind.wrap .i64 (s2 + 1)))))
else (
some (Sum.inl ()))
def l_z27_4 (b:B_z27) (n:Nat):Nat -> (List T) × (List T) × Int -> Option (((Unit) ⊕ Bool))
 | 0,_=>none
 | m + 1,s=>l_z27_4_B b n (l_z27_4 b n m) s
def f_z27 (b:B_z27) (n:Nat) (a0:List T) (a1:List T):Option (Bool) :=
bif ((((List.length a0:Nat):Int):Int) != ((List.length a1:Nat):Int)) then (
some false)
else (
Option.bind (l_z27_4 b n n (a0,a1,0)) fun x5 =>
Sum.elim (fun p6 =>
some true) (fun x5'=>(fun p7 =>
some p7) x5') x5)
def cs_z27 (b:B_z27) (hb:B_z27_ok b) (n:Nat):List (CalF Tryz.prog) := [⟨d_z30,m_z30 n,m_z30_ok n⟩,⟨d_z27,b.y16,hb.y16⟩]
def L_l_z27_4:LF := ⟨4,[0,1,5],[.list,.list,.int .i64],[⟨(.exit 0),[],[]⟩,⟨.ret,[4],[.bool]⟩]⟩
def ls_z27 (b:B_z27) (n:Nat):List LE := [⟨4,loopS L_l_z27_4 (l_z27_4 b n n)⟩]
theorem l_z27_4_ok (b:B_z27) (hb:B_z27_ok b) (n:Nat):LoopOk Tryz.prog (mkSpec (cs_z27 b hb n) (ls_z27 b n)) 0 77 (loopAt Tryz.f27 0) := loopOk (L := L_l_z27_4) (f := l_z27_4 b n) (B := l_z27_4_B b n) (k := n) (loopAt_ok sound Tryz.func27 (by kernel_rfl)) (inner (by kernel_rfl) allN) (innerS (by kernel_rfl) allN) (fun _=>rfl) (fun _ _=>rfl) (by kernel_rfl) (fun _=>by kernel_rfl) (by kernel_rfl) (fun k a=>by kernel_rfl)
theorem f_z27_ok (b:B_z27) (hb:B_z27_ok b) (n:Nat):Ok Tryz.prog d_z27 (f_z27 b n) := fnOk sound (cs := cs_z27 b hb n) (ls := ls_z27 b n) (n := 77) Tryz.func27 (by kernel_rfl) (fun _=>by kernel_rfl) (inner (by kernel_rfl) (allC (l_z27_4_ok b hb n) allN)) (innerS (by kernel_rfl) allN) (by kernel_rfl) (fun a=>by kernel_rfl)
def unB_z27 (n:Nat):Nat -> B_z27
 | 0=>{ y16 := fun _ _=>none }
 | m + 1=>{ y16 := f_z27 (unB_z27 n m) n }
theorem unB_z27_ok (n:Nat):∀ m,B_z27_ok (unB_z27 n m)
 | 0=>{ y16 := fun _ _ h=>(nomatch (show none = some _ from h)) }
 | m + 1=>{ y16 := f_z27_ok _ (unB_z27_ok n m) n }
def m_z27 (n:Nat):List T -> List T -> Option (Bool) := (unB_z27 n n).y16
theorem m_z27_ok (n:Nat):Ok Tryz.prog d_z27 (m_z27 n) := (unB_z27_ok n n).y16
def l_z67_4_B (n:Nat) (k:Int × (List T) × (List T) × (List T) × (List T) -> Option (((Bool × (List T) × (List T) × (List T) × (List T)) ⊕ (List T) × (List T) × (List T) × (List T)))):Int × (List T) × (List T) × (List T) × (List T) -> Option (((Bool × (List T) × (List T) × (List T) × (List T)) ⊕ (List T) × (List T) × (List T) × (List T))) := fun (s0,s1,s2,s3,s4) =>
bif (decide ((s0:Int) < ((List.length s2:Nat):Int))) then (
Option.bind (idx true [.list] s2 s0) fun y1 =>
Option.bind (idx true [.list] s4 s0) fun y2 =>
Option.bind (m_z27 n (y1.cell 0).lst (y2.cell 0).lst) fun r3 =>
bif (!r3) then (
some (Sum.inl (false,s1,s2,s3,s4)))
else (
k ((IntKind.wrap .i64 (s0 + 1)),s1,s2,s3,s4)))
else (
some (Sum.inr (s1,s2,s3,s4)))
def l_z67_4 (n:Nat):Nat -> Int × (List T) × (List T) × (List T) × (List T) -> Option (((Bool × (List T) × (List T) × (List T) × (List T)) ⊕ (List T) × (List T) × (List T) × (List T)))
 | 0,_=>none
 | m + 1,s=>l_z67_4_B n (l_z67_4 n m) s
def m_z67 (n:Nat) (a0:List T) (a1:List T) (a2:List T) (a3:List T):Option (Bool) :=
Option.bind (m_z28 n a0 a2) fun r0 =>
bif (bif (!r0) then true else ((((List.length a1:Nat):Int):Int) != ((List.length a3:Nat):Int))) then (
some false)
else (
Option.bind (l_z67_4 n n (0,a0,a1,a2,a3)) fun x4 =>
Sum.elim (fun p5 =>
some p5.1) (fun x4'=>(fun p6 =>
some true) x4') x4)
def d_z67:FnF := ⟨22,[.agg 2,.list,.list,.agg 2,.list,.list],[.bool]⟩
def cs_z67 (n:Nat):List (CalF Tryz.prog) := [⟨d_z28,m_z28 n,m_z28_ok n⟩,⟨d_z27,m_z27 n,m_z27_ok n⟩]
def L_l_z67_4:LF := ⟨4,[2,3,5],[.ptr 0 0,.ptr 1 0,.int .i64,.box 2,.list,.list,.box 2,.list,.list],[⟨.ret,[4],[.bool,.box 2,.list,.list,.box 2,.list,.list]⟩,⟨(.exit 0),[],[.box 2,.list,.list,.box 2,.list,.list]⟩]⟩
def ls_z67 (n:Nat):List LE := [⟨4,loopS L_l_z67_4 (l_z67_4 n n)⟩]
theorem l_z67_4_ok (n:Nat):LoopOk Tryz.prog (mkSpec (cs_z67 n) (ls_z67 n)) 0 40 (loopAt Tryz.f22 0) := loopOk (L := L_l_z67_4) (f := l_z67_4 n) (B := l_z67_4_B n) (k := n) (loopAt_ok sound Tryz.func22 (by kernel_rfl)) (inner (by kernel_rfl) allN) (innerS (by kernel_rfl) allN) (fun _=>rfl) (fun _ _=>rfl) (by kernel_rfl) (fun _=>by kernel_rfl) (by kernel_rfl) (fun k a=>by kernel_rfl)
theorem m_z67_ok (n:Nat):Ok Tryz.prog d_z67 (m_z67 n) := fnOk sound (cs := cs_z67 n) (ls := ls_z67 n) (n := 40) Tryz.func22 (by kernel_rfl) (fun _=>by kernel_rfl) (inner (by kernel_rfl) (allC (l_z67_4_ok n) allN)) (innerS (by kernel_rfl) allN) (by kernel_rfl) (fun a=>by kernel_rfl)
structure B_z40 where
 y14:List T -> List T -> Option (Bool)
def d_z40:FnF := ⟨24,[.list,.list],[.bool]⟩
structure B_z40_ok (b:B_z40):Prop where
 y14:Ok Tryz.prog d_z40 b.y14
def l_z40_2_B (b:B_z40) (n:Nat) (k:(List T) × (List T) × Int × Int -> Option (((Unit) ⊕ Bool))):(List T) × (List T) × Int × Int -> Option (((Unit) ⊕ Bool)) := fun (s0,s1,s2,s3) =>
bif (decide ((s3:Int) < s2)) then (
Option.bind (idx true [.int .i64,.str,.str,.int .i64,.int .i64,.int .i64,.str,.list,.list,.list,.cplx .f64] s0 s3) fun y0 =>
Option.bind (idx true [.int .i64,.str,.str,.int .i64,.int .i64,.int .i64,.str,.list,.list,.list,.cplx .f64] s1 s3) fun y1 =>
Option.bind (idx (!(!(cplxEq .f64 (y0.cell 10).re (y0.cell 10).im (y1.cell 10).re (y1.cell 10).im))) [.int .i64,.str,.str,.int .i64,.int .i64,.int .i64,.str,.list,.list,.list,.cplx .f64] s0 s3) fun y2 =>
Option.bind (idx (!(!(cplxEq .f64 (y0.cell 10).re (y0.cell 10).im (y1.cell 10).re (y1.cell 10).im))) [.int .i64,.str,.str,.int .i64,.int .i64,.int .i64,.str,.list,.list,.list,.cplx .f64] s1 s3) fun y3 =>
Option.bind (bif !(!(cplxEq .f64 (y0.cell 10).re (y0.cell 10).im (y1.cell 10).re (y1.cell 10).im)) then b.y14 (y2.cell 8).lst (y3.cell 8).lst else some false) fun r4 =>
Option.bind (idx (!(bif (!(cplxEq .f64 (y0.cell 10).re (y0.cell 10).im (y1.cell 10).re (y1.cell 10).im)) then true else (!r4))) [.int .i64,.str,.str,.int .i64,.int .i64,.int .i64,.str,.list,.list,.list,.cplx .f64] s0 s3) fun y5 =>
Option.bind (idx (!(bif (!(cplxEq .f64 (y0.cell 10).re (y0.cell 10).im (y1.cell 10).re (y1.cell 10).im)) then true else (!r4))) [.int .i64,.str,.str,.int .i64,.int .i64,.int .i64,.str,.list,.list,.list,.cplx .f64] s1 s3) fun y6 =>
Option.bind (bif !(bif (!(cplxEq .f64 (y0.cell 10).re (y0.cell 10).im (y1.cell 10).re (y1.cell 10).im)) then true else (!r4)) then b.y14 (y5.cell 9).lst (y6.cell 9).lst else some false) fun r7 =>
bif (bif (bif (!(cplxEq .f64 (y0.cell 10).re (y0.cell 10).im (y1.cell 10).re (y1.cell 10).im)) then true else (!r4)) then true else (!r7)) then (
some (Sum.inr false))
else (
k (s0,s1,s2,(IntKind.wrap .i64 (s3 + 1)))))
else (
some (Sum.inl ()))
def l_z40_2 (b:B_z40) (n:Nat):Nat -> (List T) × (List T) × Int × Int -> Option (((Unit) ⊕ Bool))
 | 0,_=>none
 | m + 1,s=>l_z40_2_B b n (l_z40_2 b n m) s
def f_z40 (b:B_z40) (n:Nat) (a0:List T) (a1:List T):Option (Bool) :=
Option.bind (l_z40_2 b n n (a0,a1,((List.length a0:Nat):Int),0)) fun x8 =>
Sum.elim (fun p9 =>
some true) (fun x8'=>(fun p10 =>
some p10) x8') x8
def cs_z40 (b:B_z40) (hb:B_z40_ok b) (n:Nat):List (CalF Tryz.prog) := [⟨d_z40,b.y14,hb.y14⟩]
def L_l_z40_2:LF := ⟨2,[0,1,7,8],[.list,.list,.int .i64,.int .i64],[⟨(.exit 0),[],[]⟩,⟨.ret,[4],[.bool]⟩]⟩
def ls_z40 (b:B_z40) (n:Nat):List LE := [⟨2,loopS L_l_z40_2 (l_z40_2 b n n)⟩]
theorem l_z40_2_ok (b:B_z40) (hb:B_z40_ok b) (n:Nat):LoopOk Tryz.prog (mkSpec (cs_z40 b hb n) (ls_z40 b n)) 0 51 (loopAt Tryz.f24 0) := loopOk (L := L_l_z40_2) (f := l_z40_2 b n) (B := l_z40_2_B b n) (k := n) (loopAt_ok sound Tryz.func24 (by kernel_rfl)) (inner (by kernel_rfl) allN) (innerS (by kernel_rfl) allN) (fun _=>rfl) (fun _ _=>rfl) (by kernel_rfl) (fun _=>by kernel_rfl) (by kernel_rfl) (fun k a=>by kernel_rfl)
theorem f_z40_ok (b:B_z40) (hb:B_z40_ok b) (n:Nat):Ok Tryz.prog d_z40 (f_z40 b n) := fnOk sound (cs := cs_z40 b hb n) (ls := ls_z40 b n) (n := 51) Tryz.func24 (by kernel_rfl) (fun _=>by kernel_rfl) (inner (by kernel_rfl) (allC (l_z40_2_ok b hb n) allN)) (innerS (by kernel_rfl) allN) (by kernel_rfl) (fun a=>by kernel_rfl)
def unB_z40 (n:Nat):Nat -> B_z40
 | 0=>{ y14 := fun _ _=>none }
 | m + 1=>{ y14 := f_z40 (unB_z40 n m) n }
theorem unB_z40_ok (n:Nat):∀ m,B_z40_ok (unB_z40 n m)
 | 0=>{ y14 := fun _ _ h=>(nomatch (show none = some _ from h)) }
 | m + 1=>{ y14 := f_z40_ok _ (unB_z40_ok n m) n }
def m_z40 (n:Nat):List T -> List T -> Option (Bool) := (unB_z40 n n).y14
theorem m_z40_ok (n:Nat):Ok Tryz.prog d_z40 (m_z40 n) := (unB_z40_ok n n).y14
def l_suturelaw5_ParseTells_9_B (n:Nat) (k:Int × Int × (List T) × (List T) × (List T) × (List T) -> Option (((Bool × (List T) × (List T) × (List T) × (List T)) ⊕ (List T) × (List T) × (List T) × (List T)))):Int × Int × (List T) × (List T) × (List T) × (List T) -> Option (((Bool × (List T) × (List T) × (List T) × (List T)) ⊕ (List T) × (List T) × (List T) × (List T))) := fun (s0,s1,s2,s3,s4,s5) =>
bif (decide ((s1:Int) < s0)) then (
Option.bind (idx true [.list] s3 s1) fun y6 =>
Option.bind (idx true [.list] s5 s1) fun y7 =>
Option.bind (m_z40 n (y6.cell 0).lst (y7.cell 0).lst) fun r8 =>
bif (!r8) then (
some (Sum.inl (false,s2,s3,s4,s5)))
else (
k (s0,(IntKind.wrap .i64 (s1 + 1)),s2,s3,s4,s5)))
else (
some (Sum.inr (s2,s3,s4,s5)))
def l_suturelaw5_ParseTells_9 (n:Nat):Nat -> Int × Int × (List T) × (List T) × (List T) × (List T) -> Option (((Bool × (List T) × (List T) × (List T) × (List T)) ⊕ (List T) × (List T) × (List T) × (List T)))
 | 0,_=>none
 | m + 1,s=>l_suturelaw5_ParseTells_9_B n (l_suturelaw5_ParseTells_9 n m) s
def l_suturelaw5_ParseTells_15_B (n:Nat) (k:Int × Int × (List T) × (List T) × (List T) × (List T) -> Option (((Bool × (List T) × (List T) × (List T) × (List T)) ⊕ (List T) × (List T) × (List T) × (List T)))):Int × Int × (List T) × (List T) × (List T) × (List T) -> Option (((Bool × (List T) × (List T) × (List T) × (List T)) ⊕ (List T) × (List T) × (List T) × (List T))) := fun (s0,s1,s2,s3,s4,s5) =>
bif (decide ((s1:Int) < s0)) then (
Option.bind (idx true [.int .i64,.str,.int .i64,.cplx .f64] s2 s1) fun y12 =>
Option.bind (idx true [.int .i64,.str,.int .i64,.cplx .f64] s4 s1) fun y13 =>
bif (!(cplxEq .f64 (y12.cell 3).re (y12.cell 3).im (y13.cell 3).re (y13.cell 3).im)) then (
some (Sum.inl (false,s2,s3,s4,s5)))
else (
k (s0,(IntKind.wrap .i64 (s1 + 1)),s2,s3,s4,s5)))
else (
some (Sum.inr (s2,s3,s4,s5)))
def l_suturelaw5_ParseTells_15 (n:Nat):Nat -> Int × Int × (List T) × (List T) × (List T) × (List T) -> Option (((Bool × (List T) × (List T) × (List T) × (List T)) ⊕ (List T) × (List T) × (List T) × (List T)))
 | 0,_=>none
 | m + 1,s=>l_suturelaw5_ParseTells_15_B n (l_suturelaw5_ParseTells_15 n m) s
def m_suturelaw5_ParseTells (n:Nat) (a0:Int) (a1:List T) (a2:List T) (a3:List T) (a4:Int) (a5:Int) (a6:ByteArray) (a7:Bool):Option (Bool) :=
Option.bind (m_z73 n a0 a1 a2 a3 a4 a5) fun r0 =>
bif a7 then (
Option.bind (m_z92 n a6) fun r1 =>
Option.bind (m_z55 n a6) fun r2 =>
Option.bind (m_z54 n) fun r3 =>
Option.bind (bif !(bif (!r3) then true else ((r1.2.2.2:Int) != r2.2.2.2)) then m_z67 n r1.1 r1.2.1 r2.1 r2.2.1 else some false) fun r4 =>
Option.bind (bif (!(bif (bif (!r3) then true else ((r1.2.2.2:Int) != r2.2.2.2)) then true else (!r4))&&((r1.2.2.2:Int) != 0)) then m_z56 n a6 r2.2.2.1 else some (0,0)) fun r5 =>
bif (bif (bif (bif (bif (!r3) then true else ((r1.2.2.2:Int) != r2.2.2.2)) then true else (!r4)) then true else (bif ((r1.2.2.2:Int) != 0) then (!(cplxEq .f64 r1.2.2.1.1 r1.2.2.1.2 r5.1 r5.2)) else false)) then true else (bif ((r1.2.2.2:Int) == 0) then (!(cplxEq .f64 r1.2.2.1.1 r1.2.2.1.2 0 0)) else false)) then (
some false)
else (
Option.bind (l_suturelaw5_ParseTells_9 n n (((List.length r2.2.1:Nat):Int),0,r1.1,r1.2.1,r2.1,r2.2.1)) fun x9 =>
Sum.elim (fun p10 =>
some p10.1) (fun x9'=>(fun p11 =>
Option.bind (l_suturelaw5_ParseTells_15 n n (((List.length p11.2.2.1:Nat):Int),0,p11.1,p11.2.1,p11.2.2.1,p11.2.2.2)) fun x14 =>
Sum.elim (fun p15 =>
some p15.1) (fun x14'=>(fun p16 =>
some true) x14') x14) x9') x9))
else (
Option.bind (m_z92 n r0) fun r17 =>
Option.bind (m_z55 n r0) fun r18 =>
Option.bind (m_z54 n) fun r19 =>
Option.bind (bif !(bif (!r19) then true else ((r17.2.2.2:Int) != r18.2.2.2)) then m_z67 n r17.1 r17.2.1 r18.1 r18.2.1 else some false) fun r20 =>
Option.bind (bif (!(bif (bif (!r19) then true else ((r17.2.2.2:Int) != r18.2.2.2)) then true else (!r20))&&((r17.2.2.2:Int) != 0)) then m_z56 n r0 r18.2.2.1 else some (0,0)) fun r21 =>
bif (bif (bif (bif (bif (!r19) then true else ((r17.2.2.2:Int) != r18.2.2.2)) then true else (!r20)) then true else (bif ((r17.2.2.2:Int) != 0) then (!(cplxEq .f64 r17.2.2.1.1 r17.2.2.1.2 r21.1 r21.2)) else false)) then true else (bif ((r17.2.2.2:Int) == 0) then (!(cplxEq .f64 r17.2.2.1.1 r17.2.2.1.2 0 0)) else false)) then (
some false)
else (
Option.bind (l_suturelaw5_ParseTells_9 n n (((List.length r18.2.1:Nat):Int),0,r17.1,r17.2.1,r18.1,r18.2.1)) fun x22 =>
Sum.elim (fun p23 =>
some p23.1) (fun x22'=>(fun p24 =>
Option.bind (l_suturelaw5_ParseTells_15 n n (((List.length p24.2.2.1:Nat):Int),0,p24.1,p24.2.1,p24.2.2.1,p24.2.2.2)) fun x25 =>
Sum.elim (fun p26 =>
some p26.1) (fun x25'=>(fun p27 =>
some true) x25') x25) x22') x22))
def d_suturelaw5_ParseTells:FnF := ⟨5,[.int .i64,.list,.list,.list,.int .i64,.int .i64,.str,.bool],[.bool]⟩
def cs_suturelaw5_ParseTells (n:Nat):List (CalF Tryz.prog) := [⟨d_z73,m_z73 n,m_z73_ok n⟩,⟨d_z92,m_z92 n,m_z92_ok n⟩,⟨d_z55,m_z55 n,m_z55_ok n⟩,⟨d_z54,m_z54 n,m_z54_ok n⟩,⟨d_z67,m_z67 n,m_z67_ok n⟩,⟨d_z56,m_z56 n,m_z56_ok n⟩,⟨d_z40,m_z40 n,m_z40_ok n⟩]
def L_l_suturelaw5_ParseTells_9:LF := ⟨9,[18,21,81,82],[.ptr 0 0,.ptr 1 0,.int .i64,.int .i64,.box 2,.list,.list,.box 2,.list,.list],[⟨.ret,[16],[.bool,.box 2,.list,.list,.box 2,.list,.list]⟩,⟨(.exit 0),[18,21],[.ptr 0 0,.ptr 1 0,.box 2,.list,.list,.box 2,.list,.list]⟩]⟩
def L_l_suturelaw5_ParseTells_15:LF := ⟨15,[18,21,100,101],[.ptr 0 0,.ptr 1 0,.int .i64,.int .i64,.box 2,.list,.list,.box 2,.list,.list],[⟨.ret,[16],[.bool,.box 2,.list,.list,.box 2,.list,.list]⟩,⟨(.exit 2),[],[.box 2,.list,.list,.box 2,.list,.list]⟩]⟩
def ls_suturelaw5_ParseTells (n:Nat):List LE := [⟨9,loopS L_l_suturelaw5_ParseTells_9 (l_suturelaw5_ParseTells_9 n n)⟩,⟨15,loopS L_l_suturelaw5_ParseTells_15 (l_suturelaw5_ParseTells_15 n n)⟩]
theorem l_suturelaw5_ParseTells_9_ok (n:Nat):LoopOk Tryz.prog (mkSpec (cs_suturelaw5_ParseTells n) (ls_suturelaw5_ParseTells n)) 0 118 (loopAt Tryz.f5 0) := loopOk (L := L_l_suturelaw5_ParseTells_9) (f := l_suturelaw5_ParseTells_9 n) (B := l_suturelaw5_ParseTells_9_B n) (k := n) (loopAt_ok sound Tryz.func5 (by kernel_rfl)) (inner (by kernel_rfl) allN) (innerS (by kernel_rfl) allN) (fun _=>rfl) (fun _ _=>rfl) (by kernel_rfl) (fun _=>by kernel_rfl) (by kernel_rfl) (fun k a=>by kernel_rfl)
theorem l_suturelaw5_ParseTells_15_ok (n:Nat):LoopOk Tryz.prog (mkSpec (cs_suturelaw5_ParseTells n) (ls_suturelaw5_ParseTells n)) 0 118 (loopAt Tryz.f5 1) := loopOk (L := L_l_suturelaw5_ParseTells_15) (f := l_suturelaw5_ParseTells_15 n) (B := l_suturelaw5_ParseTells_15_B n) (k := n) (loopAt_ok sound Tryz.func5 (by kernel_rfl)) (inner (by kernel_rfl) allN) (innerS (by kernel_rfl) allN) (fun _=>rfl) (fun _ _=>rfl) (by kernel_rfl) (fun _=>by kernel_rfl) (by kernel_rfl) (fun k a=>by kernel_rfl)
theorem m_suturelaw5_ParseTells_ok (n:Nat):Ok Tryz.prog d_suturelaw5_ParseTells (m_suturelaw5_ParseTells n) := fnOk sound (cs := cs_suturelaw5_ParseTells n) (ls := ls_suturelaw5_ParseTells n) (n := 118) Tryz.func5 (by kernel_rfl) (fun _=>by kernel_rfl) (inner (by kernel_rfl) (allC (l_suturelaw5_ParseTells_9_ok n) (allC (l_suturelaw5_ParseTells_15_ok n) allN))) (innerS (by kernel_rfl) allN) (by kernel_rfl) (fun a=>by kernel_rfl)
end Go.Proofs.YtbcgpjlkkcdmmaaGreatDoor.W
