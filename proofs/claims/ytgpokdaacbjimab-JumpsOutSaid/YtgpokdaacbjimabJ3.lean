/- What the engine's walk comes to, printed by a program of this work: for each function its model, and that it is one. No conditions. -/
import Derived.Test.YtgpokdaacbjimabJ2
namespace Go.Proofs.Ytgpokdaacbjimab.W
open Go Go.Eng
set_option linter.unusedVariables false
set_option linter.unusedSimpArgs false
set_option maxRecDepth 100000

/-! (*suture/sutureref1.Reader).stmt -/
def f___sutureref1_Reader__stmt (b : B___sutureref1_Reader__block) (n : Nat) (a0 : ByteArray) (a1 : Int) (a2 : List T) (a3 : Int) (a4 : Bool) (a5 : Int) : Option (Int × ByteArray × ByteArray × Int × Int × Int × ByteArray × (List T) × (List T) × (List T) × (Nat × Nat) × (List T) × Int × Bool × Int) :=
Option.bind (idx true [.int .i64, .str, .int .i64, .int .i64] a2 a3) fun y0 =>
Option.bind (m_sutureref1_Place n a0 (y0.cell 3).int) fun r1 =>
bif (((y0.cell 0).int : Int) != 1) then (
Option.bind (m___sutureref1_Reader__fail n a2 a3 a4 a5) fun r2 =>
some (0, (⟨#[]⟩ : ByteArray), (⟨#[]⟩ : ByteArray), 0, 0, 0, (⟨#[]⟩ : ByteArray), ([] : List T), ([] : List T), ([] : List T), r1, r2.1, r2.2.1, r2.2.2.1, r2.2.2.2))
else (
bif (ByteArray.toList (y0.cell 1).str == ByteArray.toList (⟨#[108, 111, 99, 107]⟩ : ByteArray)) then (
bif (ByteArray.toList (y0.cell 1).str == ByteArray.toList (⟨#[108, 111, 99, 107]⟩ : ByteArray)) then (
bif (ByteArray.toList (y0.cell 1).str == ByteArray.toList (⟨#[117, 110, 108, 111, 99, 107]⟩ : ByteArray)) then (
Option.bind (m___sutureref1_Reader__name n a2 (IntKind.wrap .i64 (a3 + 1)) a4 a5) fun r3 =>
some (3, r3.1, (⟨#[]⟩ : ByteArray), 0, 0, 0, (⟨#[]⟩ : ByteArray), ([] : List T), ([] : List T), ([] : List T), r1, r3.2.1, r3.2.2.1, r3.2.2.2.1, r3.2.2.2.2))
else (
bif (ByteArray.toList (y0.cell 1).str == ByteArray.toList (⟨#[103, 111, 116, 111]⟩ : ByteArray)) then (
Option.bind (m___sutureref1_Reader__name n a2 (IntKind.wrap .i64 (a3 + 1)) a4 a5) fun r4 =>
some (9, r4.1, (⟨#[]⟩ : ByteArray), 0, 0, 0, (⟨#[]⟩ : ByteArray), ([] : List T), ([] : List T), ([] : List T), r1, r4.2.1, r4.2.2.1, r4.2.2.2.1, r4.2.2.2.2))
else (
bif (ByteArray.toList (y0.cell 1).str == ByteArray.toList (⟨#[108, 97, 98, 101, 108]⟩ : ByteArray)) then (
Option.bind (m___sutureref1_Reader__name n a2 (IntKind.wrap .i64 (a3 + 1)) a4 a5) fun r5 =>
some (10, r5.1, (⟨#[]⟩ : ByteArray), 0, 0, 0, (⟨#[]⟩ : ByteArray), ([] : List T), ([] : List T), ([] : List T), r1, r5.2.1, r5.2.2.1, r5.2.2.2.1, r5.2.2.2.2))
else (
Option.bind (m___sutureref1_Reader__name n a2 (IntKind.wrap .i64 (a3 + 1)) a4 a5) fun r6 =>
some (2, r6.1, (⟨#[]⟩ : ByteArray), 0, 0, 0, (⟨#[]⟩ : ByteArray), ([] : List T), ([] : List T), ([] : List T), r1, r6.2.1, r6.2.2.1, r6.2.2.2.1, r6.2.2.2.2)))))
else (
bif (ByteArray.toList (y0.cell 1).str == ByteArray.toList (⟨#[115, 101, 110, 100]⟩ : ByteArray)) then (
Option.bind (m___sutureref1_Reader__name n a2 (IntKind.wrap .i64 (a3 + 1)) a4 a5) fun r7 =>
Option.bind (m___sutureref1_Reader__whole n a0 r7.2.1 r7.2.2.1 r7.2.2.2.1 r7.2.2.2.2) fun r8 =>
some (4, r7.1, (⟨#[]⟩ : ByteArray), 0, r8.1, r8.2.1, r8.2.2.1, r8.2.2.2.1, ([] : List T), ([] : List T), r1, r8.2.2.2.2.1, r8.2.2.2.2.2.1, r8.2.2.2.2.2.2.1, r8.2.2.2.2.2.2.2))
else (
bif (ByteArray.toList (y0.cell 1).str == ByteArray.toList (⟨#[114, 101, 99, 118]⟩ : ByteArray)) then (
Option.bind (m___sutureref1_Reader__name n a2 (IntKind.wrap .i64 (a3 + 1)) a4 a5) fun r9 =>
Option.bind (m___sutureref1_Reader__name n r9.2.1 r9.2.2.1 r9.2.2.2.1 r9.2.2.2.2) fun r10 =>
some (5, r9.1, r10.1, 0, 0, 0, (⟨#[]⟩ : ByteArray), ([] : List T), ([] : List T), ([] : List T), r1, r10.2.1, r10.2.2.1, r10.2.2.2.1, r10.2.2.2.2))
else (
bif (ByteArray.toList (y0.cell 1).str == ByteArray.toList (⟨#[112, 114, 105, 110, 116]⟩ : ByteArray)) then (
Option.bind (m___sutureref1_Reader__whole n a0 a2 (IntKind.wrap .i64 (a3 + 1)) a4 a5) fun r11 =>
some (6, (⟨#[]⟩ : ByteArray), (⟨#[]⟩ : ByteArray), 0, r11.1, r11.2.1, r11.2.2.1, r11.2.2.2.1, ([] : List T), ([] : List T), r1, r11.2.2.2.2.1, r11.2.2.2.2.2.1, r11.2.2.2.2.2.2.1, r11.2.2.2.2.2.2.2))
else (
bif (ByteArray.toList (y0.cell 1).str == ByteArray.toList (⟨#[105, 102]⟩ : ByteArray)) then (
Option.bind (m___sutureref1_Reader__whole n a0 a2 (IntKind.wrap .i64 (a3 + 1)) a4 a5) fun r12 =>
Option.bind (b.__sutureref1_Reader__block a0 (IntKind.wrap .i64 (a1 + 1)) r12.2.2.2.2.1 r12.2.2.2.2.2.1 r12.2.2.2.2.2.2.1 r12.2.2.2.2.2.2.2) fun r13 =>
Option.bind (m___sutureref1_Reader__word n (⟨#[101, 108, 115, 101]⟩ : ByteArray) r13.2.1 r13.2.2.1 r13.2.2.2.1 r13.2.2.2.2) fun r14 =>
bif r14.1 then (
Option.bind (b.__sutureref1_Reader__block a0 (IntKind.wrap .i64 (a1 + 1)) r14.2.1 (IntKind.wrap .i64 (r14.2.2.1 + 1)) r14.2.2.2.1 r14.2.2.2.2) fun r15 =>
some (7, (⟨#[]⟩ : ByteArray), (⟨#[]⟩ : ByteArray), 0, r12.1, r12.2.1, r12.2.2.1, r12.2.2.2.1, r13.1, r15.1, r1, r15.2.1, r15.2.2.1, r15.2.2.2.1, r15.2.2.2.2))
else (
some (7, (⟨#[]⟩ : ByteArray), (⟨#[]⟩ : ByteArray), 0, r12.1, r12.2.1, r12.2.2.1, r12.2.2.2.1, r13.1, ([] : List T), r1, r14.2.1, r14.2.2.1, r14.2.2.2.1, r14.2.2.2.2)))
else (
bif (ByteArray.toList (y0.cell 1).str == ByteArray.toList (⟨#[114, 101, 112, 101, 97, 116]⟩ : ByteArray)) then (
Option.bind (m___sutureref1_Reader__number n 9 a2 (IntKind.wrap .i64 (a3 + 1)) a4 a5) fun r16 =>
Option.bind (b.__sutureref1_Reader__block a0 (IntKind.wrap .i64 (a1 + 1)) r16.2.1 r16.2.2.1 r16.2.2.2.1 r16.2.2.2.2) fun r17 =>
some (8, (⟨#[]⟩ : ByteArray), (⟨#[]⟩ : ByteArray), r16.1, 0, 0, (⟨#[]⟩ : ByteArray), ([] : List T), r17.1, ([] : List T), r1, r17.2.1, r17.2.2.1, r17.2.2.2.1, r17.2.2.2.2))
else (
Option.bind (m_sutureref1_Keyword n (y0.cell 1).str) fun r18 =>
bif r18 then (
Option.bind (m___sutureref1_Reader__failAt n (IntKind.wrap .i64 ((IntKind.wrap .i64 (a3 + 1)) - 1)) a2 (IntKind.wrap .i64 (a3 + 1)) a4 a5) fun r19 =>
some (0, (⟨#[]⟩ : ByteArray), (⟨#[]⟩ : ByteArray), 0, 0, 0, (⟨#[]⟩ : ByteArray), ([] : List T), ([] : List T), ([] : List T), r1, r19.1, r19.2.1, r19.2.2.1, r19.2.2.2))
else (
Option.bind (m___sutureref1_Reader__must n (⟨#[61]⟩ : ByteArray) a2 (IntKind.wrap .i64 (a3 + 1)) a4 a5) fun r20 =>
Option.bind (m___sutureref1_Reader__whole n a0 r20.1 r20.2.1 r20.2.2.1 r20.2.2.2) fun r21 =>
some (1, (y0.cell 1).str, (⟨#[]⟩ : ByteArray), 0, r21.1, r21.2.1, r21.2.2.1, r21.2.2.2.1, ([] : List T), ([] : List T), r1, r21.2.2.2.2.1, r21.2.2.2.2.2.1, r21.2.2.2.2.2.2.1, r21.2.2.2.2.2.2.2)))))))))
else (
bif (ByteArray.toList (y0.cell 1).str == ByteArray.toList (⟨#[117, 110, 108, 111, 99, 107]⟩ : ByteArray)) then (
bif (ByteArray.toList (y0.cell 1).str == ByteArray.toList (⟨#[117, 110, 108, 111, 99, 107]⟩ : ByteArray)) then (
bif (ByteArray.toList (y0.cell 1).str == ByteArray.toList (⟨#[117, 110, 108, 111, 99, 107]⟩ : ByteArray)) then (
Option.bind (m___sutureref1_Reader__name n a2 (IntKind.wrap .i64 (a3 + 1)) a4 a5) fun r22 =>
some (3, r22.1, (⟨#[]⟩ : ByteArray), 0, 0, 0, (⟨#[]⟩ : ByteArray), ([] : List T), ([] : List T), ([] : List T), r1, r22.2.1, r22.2.2.1, r22.2.2.2.1, r22.2.2.2.2))
else (
bif (ByteArray.toList (y0.cell 1).str == ByteArray.toList (⟨#[103, 111, 116, 111]⟩ : ByteArray)) then (
Option.bind (m___sutureref1_Reader__name n a2 (IntKind.wrap .i64 (a3 + 1)) a4 a5) fun r23 =>
some (9, r23.1, (⟨#[]⟩ : ByteArray), 0, 0, 0, (⟨#[]⟩ : ByteArray), ([] : List T), ([] : List T), ([] : List T), r1, r23.2.1, r23.2.2.1, r23.2.2.2.1, r23.2.2.2.2))
else (
bif (ByteArray.toList (y0.cell 1).str == ByteArray.toList (⟨#[108, 97, 98, 101, 108]⟩ : ByteArray)) then (
Option.bind (m___sutureref1_Reader__name n a2 (IntKind.wrap .i64 (a3 + 1)) a4 a5) fun r24 =>
some (10, r24.1, (⟨#[]⟩ : ByteArray), 0, 0, 0, (⟨#[]⟩ : ByteArray), ([] : List T), ([] : List T), ([] : List T), r1, r24.2.1, r24.2.2.1, r24.2.2.2.1, r24.2.2.2.2))
else (
Option.bind (m___sutureref1_Reader__name n a2 (IntKind.wrap .i64 (a3 + 1)) a4 a5) fun r25 =>
some (2, r25.1, (⟨#[]⟩ : ByteArray), 0, 0, 0, (⟨#[]⟩ : ByteArray), ([] : List T), ([] : List T), ([] : List T), r1, r25.2.1, r25.2.2.1, r25.2.2.2.1, r25.2.2.2.2)))))
else (
bif (ByteArray.toList (y0.cell 1).str == ByteArray.toList (⟨#[115, 101, 110, 100]⟩ : ByteArray)) then (
Option.bind (m___sutureref1_Reader__name n a2 (IntKind.wrap .i64 (a3 + 1)) a4 a5) fun r26 =>
Option.bind (m___sutureref1_Reader__whole n a0 r26.2.1 r26.2.2.1 r26.2.2.2.1 r26.2.2.2.2) fun r27 =>
some (4, r26.1, (⟨#[]⟩ : ByteArray), 0, r27.1, r27.2.1, r27.2.2.1, r27.2.2.2.1, ([] : List T), ([] : List T), r1, r27.2.2.2.2.1, r27.2.2.2.2.2.1, r27.2.2.2.2.2.2.1, r27.2.2.2.2.2.2.2))
else (
bif (ByteArray.toList (y0.cell 1).str == ByteArray.toList (⟨#[114, 101, 99, 118]⟩ : ByteArray)) then (
Option.bind (m___sutureref1_Reader__name n a2 (IntKind.wrap .i64 (a3 + 1)) a4 a5) fun r28 =>
Option.bind (m___sutureref1_Reader__name n r28.2.1 r28.2.2.1 r28.2.2.2.1 r28.2.2.2.2) fun r29 =>
some (5, r28.1, r29.1, 0, 0, 0, (⟨#[]⟩ : ByteArray), ([] : List T), ([] : List T), ([] : List T), r1, r29.2.1, r29.2.2.1, r29.2.2.2.1, r29.2.2.2.2))
else (
bif (ByteArray.toList (y0.cell 1).str == ByteArray.toList (⟨#[112, 114, 105, 110, 116]⟩ : ByteArray)) then (
Option.bind (m___sutureref1_Reader__whole n a0 a2 (IntKind.wrap .i64 (a3 + 1)) a4 a5) fun r30 =>
some (6, (⟨#[]⟩ : ByteArray), (⟨#[]⟩ : ByteArray), 0, r30.1, r30.2.1, r30.2.2.1, r30.2.2.2.1, ([] : List T), ([] : List T), r1, r30.2.2.2.2.1, r30.2.2.2.2.2.1, r30.2.2.2.2.2.2.1, r30.2.2.2.2.2.2.2))
else (
bif (ByteArray.toList (y0.cell 1).str == ByteArray.toList (⟨#[105, 102]⟩ : ByteArray)) then (
Option.bind (m___sutureref1_Reader__whole n a0 a2 (IntKind.wrap .i64 (a3 + 1)) a4 a5) fun r31 =>
Option.bind (b.__sutureref1_Reader__block a0 (IntKind.wrap .i64 (a1 + 1)) r31.2.2.2.2.1 r31.2.2.2.2.2.1 r31.2.2.2.2.2.2.1 r31.2.2.2.2.2.2.2) fun r32 =>
Option.bind (m___sutureref1_Reader__word n (⟨#[101, 108, 115, 101]⟩ : ByteArray) r32.2.1 r32.2.2.1 r32.2.2.2.1 r32.2.2.2.2) fun r33 =>
bif r33.1 then (
Option.bind (b.__sutureref1_Reader__block a0 (IntKind.wrap .i64 (a1 + 1)) r33.2.1 (IntKind.wrap .i64 (r33.2.2.1 + 1)) r33.2.2.2.1 r33.2.2.2.2) fun r34 =>
some (7, (⟨#[]⟩ : ByteArray), (⟨#[]⟩ : ByteArray), 0, r31.1, r31.2.1, r31.2.2.1, r31.2.2.2.1, r32.1, r34.1, r1, r34.2.1, r34.2.2.1, r34.2.2.2.1, r34.2.2.2.2))
else (
some (7, (⟨#[]⟩ : ByteArray), (⟨#[]⟩ : ByteArray), 0, r31.1, r31.2.1, r31.2.2.1, r31.2.2.2.1, r32.1, ([] : List T), r1, r33.2.1, r33.2.2.1, r33.2.2.2.1, r33.2.2.2.2)))
else (
bif (ByteArray.toList (y0.cell 1).str == ByteArray.toList (⟨#[114, 101, 112, 101, 97, 116]⟩ : ByteArray)) then (
Option.bind (m___sutureref1_Reader__number n 9 a2 (IntKind.wrap .i64 (a3 + 1)) a4 a5) fun r35 =>
Option.bind (b.__sutureref1_Reader__block a0 (IntKind.wrap .i64 (a1 + 1)) r35.2.1 r35.2.2.1 r35.2.2.2.1 r35.2.2.2.2) fun r36 =>
some (8, (⟨#[]⟩ : ByteArray), (⟨#[]⟩ : ByteArray), r35.1, 0, 0, (⟨#[]⟩ : ByteArray), ([] : List T), r36.1, ([] : List T), r1, r36.2.1, r36.2.2.1, r36.2.2.2.1, r36.2.2.2.2))
else (
Option.bind (m_sutureref1_Keyword n (y0.cell 1).str) fun r37 =>
bif r37 then (
Option.bind (m___sutureref1_Reader__failAt n (IntKind.wrap .i64 ((IntKind.wrap .i64 (a3 + 1)) - 1)) a2 (IntKind.wrap .i64 (a3 + 1)) a4 a5) fun r38 =>
some (0, (⟨#[]⟩ : ByteArray), (⟨#[]⟩ : ByteArray), 0, 0, 0, (⟨#[]⟩ : ByteArray), ([] : List T), ([] : List T), ([] : List T), r1, r38.1, r38.2.1, r38.2.2.1, r38.2.2.2))
else (
Option.bind (m___sutureref1_Reader__must n (⟨#[61]⟩ : ByteArray) a2 (IntKind.wrap .i64 (a3 + 1)) a4 a5) fun r39 =>
Option.bind (m___sutureref1_Reader__whole n a0 r39.1 r39.2.1 r39.2.2.1 r39.2.2.2) fun r40 =>
some (1, (y0.cell 1).str, (⟨#[]⟩ : ByteArray), 0, r40.1, r40.2.1, r40.2.2.1, r40.2.2.2.1, ([] : List T), ([] : List T), r1, r40.2.2.2.2.1, r40.2.2.2.2.2.1, r40.2.2.2.2.2.2.1, r40.2.2.2.2.2.2.2)))))))))
else (
bif (ByteArray.toList (y0.cell 1).str == ByteArray.toList (⟨#[103, 111, 116, 111]⟩ : ByteArray)) then (
bif (ByteArray.toList (y0.cell 1).str == ByteArray.toList (⟨#[103, 111, 116, 111]⟩ : ByteArray)) then (
bif (ByteArray.toList (y0.cell 1).str == ByteArray.toList (⟨#[117, 110, 108, 111, 99, 107]⟩ : ByteArray)) then (
Option.bind (m___sutureref1_Reader__name n a2 (IntKind.wrap .i64 (a3 + 1)) a4 a5) fun r41 =>
some (3, r41.1, (⟨#[]⟩ : ByteArray), 0, 0, 0, (⟨#[]⟩ : ByteArray), ([] : List T), ([] : List T), ([] : List T), r1, r41.2.1, r41.2.2.1, r41.2.2.2.1, r41.2.2.2.2))
else (
bif (ByteArray.toList (y0.cell 1).str == ByteArray.toList (⟨#[103, 111, 116, 111]⟩ : ByteArray)) then (
Option.bind (m___sutureref1_Reader__name n a2 (IntKind.wrap .i64 (a3 + 1)) a4 a5) fun r42 =>
some (9, r42.1, (⟨#[]⟩ : ByteArray), 0, 0, 0, (⟨#[]⟩ : ByteArray), ([] : List T), ([] : List T), ([] : List T), r1, r42.2.1, r42.2.2.1, r42.2.2.2.1, r42.2.2.2.2))
else (
bif (ByteArray.toList (y0.cell 1).str == ByteArray.toList (⟨#[108, 97, 98, 101, 108]⟩ : ByteArray)) then (
Option.bind (m___sutureref1_Reader__name n a2 (IntKind.wrap .i64 (a3 + 1)) a4 a5) fun r43 =>
some (10, r43.1, (⟨#[]⟩ : ByteArray), 0, 0, 0, (⟨#[]⟩ : ByteArray), ([] : List T), ([] : List T), ([] : List T), r1, r43.2.1, r43.2.2.1, r43.2.2.2.1, r43.2.2.2.2))
else (
Option.bind (m___sutureref1_Reader__name n a2 (IntKind.wrap .i64 (a3 + 1)) a4 a5) fun r44 =>
some (2, r44.1, (⟨#[]⟩ : ByteArray), 0, 0, 0, (⟨#[]⟩ : ByteArray), ([] : List T), ([] : List T), ([] : List T), r1, r44.2.1, r44.2.2.1, r44.2.2.2.1, r44.2.2.2.2)))))
else (
bif (ByteArray.toList (y0.cell 1).str == ByteArray.toList (⟨#[115, 101, 110, 100]⟩ : ByteArray)) then (
Option.bind (m___sutureref1_Reader__name n a2 (IntKind.wrap .i64 (a3 + 1)) a4 a5) fun r45 =>
Option.bind (m___sutureref1_Reader__whole n a0 r45.2.1 r45.2.2.1 r45.2.2.2.1 r45.2.2.2.2) fun r46 =>
some (4, r45.1, (⟨#[]⟩ : ByteArray), 0, r46.1, r46.2.1, r46.2.2.1, r46.2.2.2.1, ([] : List T), ([] : List T), r1, r46.2.2.2.2.1, r46.2.2.2.2.2.1, r46.2.2.2.2.2.2.1, r46.2.2.2.2.2.2.2))
else (
bif (ByteArray.toList (y0.cell 1).str == ByteArray.toList (⟨#[114, 101, 99, 118]⟩ : ByteArray)) then (
Option.bind (m___sutureref1_Reader__name n a2 (IntKind.wrap .i64 (a3 + 1)) a4 a5) fun r47 =>
Option.bind (m___sutureref1_Reader__name n r47.2.1 r47.2.2.1 r47.2.2.2.1 r47.2.2.2.2) fun r48 =>
some (5, r47.1, r48.1, 0, 0, 0, (⟨#[]⟩ : ByteArray), ([] : List T), ([] : List T), ([] : List T), r1, r48.2.1, r48.2.2.1, r48.2.2.2.1, r48.2.2.2.2))
else (
bif (ByteArray.toList (y0.cell 1).str == ByteArray.toList (⟨#[112, 114, 105, 110, 116]⟩ : ByteArray)) then (
Option.bind (m___sutureref1_Reader__whole n a0 a2 (IntKind.wrap .i64 (a3 + 1)) a4 a5) fun r49 =>
some (6, (⟨#[]⟩ : ByteArray), (⟨#[]⟩ : ByteArray), 0, r49.1, r49.2.1, r49.2.2.1, r49.2.2.2.1, ([] : List T), ([] : List T), r1, r49.2.2.2.2.1, r49.2.2.2.2.2.1, r49.2.2.2.2.2.2.1, r49.2.2.2.2.2.2.2))
else (
bif (ByteArray.toList (y0.cell 1).str == ByteArray.toList (⟨#[105, 102]⟩ : ByteArray)) then (
Option.bind (m___sutureref1_Reader__whole n a0 a2 (IntKind.wrap .i64 (a3 + 1)) a4 a5) fun r50 =>
Option.bind (b.__sutureref1_Reader__block a0 (IntKind.wrap .i64 (a1 + 1)) r50.2.2.2.2.1 r50.2.2.2.2.2.1 r50.2.2.2.2.2.2.1 r50.2.2.2.2.2.2.2) fun r51 =>
Option.bind (m___sutureref1_Reader__word n (⟨#[101, 108, 115, 101]⟩ : ByteArray) r51.2.1 r51.2.2.1 r51.2.2.2.1 r51.2.2.2.2) fun r52 =>
bif r52.1 then (
Option.bind (b.__sutureref1_Reader__block a0 (IntKind.wrap .i64 (a1 + 1)) r52.2.1 (IntKind.wrap .i64 (r52.2.2.1 + 1)) r52.2.2.2.1 r52.2.2.2.2) fun r53 =>
some (7, (⟨#[]⟩ : ByteArray), (⟨#[]⟩ : ByteArray), 0, r50.1, r50.2.1, r50.2.2.1, r50.2.2.2.1, r51.1, r53.1, r1, r53.2.1, r53.2.2.1, r53.2.2.2.1, r53.2.2.2.2))
else (
some (7, (⟨#[]⟩ : ByteArray), (⟨#[]⟩ : ByteArray), 0, r50.1, r50.2.1, r50.2.2.1, r50.2.2.2.1, r51.1, ([] : List T), r1, r52.2.1, r52.2.2.1, r52.2.2.2.1, r52.2.2.2.2)))
else (
bif (ByteArray.toList (y0.cell 1).str == ByteArray.toList (⟨#[114, 101, 112, 101, 97, 116]⟩ : ByteArray)) then (
Option.bind (m___sutureref1_Reader__number n 9 a2 (IntKind.wrap .i64 (a3 + 1)) a4 a5) fun r54 =>
Option.bind (b.__sutureref1_Reader__block a0 (IntKind.wrap .i64 (a1 + 1)) r54.2.1 r54.2.2.1 r54.2.2.2.1 r54.2.2.2.2) fun r55 =>
some (8, (⟨#[]⟩ : ByteArray), (⟨#[]⟩ : ByteArray), r54.1, 0, 0, (⟨#[]⟩ : ByteArray), ([] : List T), r55.1, ([] : List T), r1, r55.2.1, r55.2.2.1, r55.2.2.2.1, r55.2.2.2.2))
else (
Option.bind (m_sutureref1_Keyword n (y0.cell 1).str) fun r56 =>
bif r56 then (
Option.bind (m___sutureref1_Reader__failAt n (IntKind.wrap .i64 ((IntKind.wrap .i64 (a3 + 1)) - 1)) a2 (IntKind.wrap .i64 (a3 + 1)) a4 a5) fun r57 =>
some (0, (⟨#[]⟩ : ByteArray), (⟨#[]⟩ : ByteArray), 0, 0, 0, (⟨#[]⟩ : ByteArray), ([] : List T), ([] : List T), ([] : List T), r1, r57.1, r57.2.1, r57.2.2.1, r57.2.2.2))
else (
Option.bind (m___sutureref1_Reader__must n (⟨#[61]⟩ : ByteArray) a2 (IntKind.wrap .i64 (a3 + 1)) a4 a5) fun r58 =>
Option.bind (m___sutureref1_Reader__whole n a0 r58.1 r58.2.1 r58.2.2.1 r58.2.2.2) fun r59 =>
some (1, (y0.cell 1).str, (⟨#[]⟩ : ByteArray), 0, r59.1, r59.2.1, r59.2.2.1, r59.2.2.2.1, ([] : List T), ([] : List T), r1, r59.2.2.2.2.1, r59.2.2.2.2.2.1, r59.2.2.2.2.2.2.1, r59.2.2.2.2.2.2.2)))))))))
else (
bif (ByteArray.toList (y0.cell 1).str == ByteArray.toList (⟨#[108, 97, 98, 101, 108]⟩ : ByteArray)) then (
bif (ByteArray.toList (y0.cell 1).str == ByteArray.toList (⟨#[117, 110, 108, 111, 99, 107]⟩ : ByteArray)) then (
Option.bind (m___sutureref1_Reader__name n a2 (IntKind.wrap .i64 (a3 + 1)) a4 a5) fun r60 =>
some (3, r60.1, (⟨#[]⟩ : ByteArray), 0, 0, 0, (⟨#[]⟩ : ByteArray), ([] : List T), ([] : List T), ([] : List T), r1, r60.2.1, r60.2.2.1, r60.2.2.2.1, r60.2.2.2.2))
else (
bif (ByteArray.toList (y0.cell 1).str == ByteArray.toList (⟨#[103, 111, 116, 111]⟩ : ByteArray)) then (
Option.bind (m___sutureref1_Reader__name n a2 (IntKind.wrap .i64 (a3 + 1)) a4 a5) fun r61 =>
some (9, r61.1, (⟨#[]⟩ : ByteArray), 0, 0, 0, (⟨#[]⟩ : ByteArray), ([] : List T), ([] : List T), ([] : List T), r1, r61.2.1, r61.2.2.1, r61.2.2.2.1, r61.2.2.2.2))
else (
bif (ByteArray.toList (y0.cell 1).str == ByteArray.toList (⟨#[108, 97, 98, 101, 108]⟩ : ByteArray)) then (
Option.bind (m___sutureref1_Reader__name n a2 (IntKind.wrap .i64 (a3 + 1)) a4 a5) fun r62 =>
some (10, r62.1, (⟨#[]⟩ : ByteArray), 0, 0, 0, (⟨#[]⟩ : ByteArray), ([] : List T), ([] : List T), ([] : List T), r1, r62.2.1, r62.2.2.1, r62.2.2.2.1, r62.2.2.2.2))
else (
Option.bind (m___sutureref1_Reader__name n a2 (IntKind.wrap .i64 (a3 + 1)) a4 a5) fun r63 =>
some (2, r63.1, (⟨#[]⟩ : ByteArray), 0, 0, 0, (⟨#[]⟩ : ByteArray), ([] : List T), ([] : List T), ([] : List T), r1, r63.2.1, r63.2.2.1, r63.2.2.2.1, r63.2.2.2.2)))))
else (
bif (ByteArray.toList (y0.cell 1).str == ByteArray.toList (⟨#[115, 101, 110, 100]⟩ : ByteArray)) then (
Option.bind (m___sutureref1_Reader__name n a2 (IntKind.wrap .i64 (a3 + 1)) a4 a5) fun r64 =>
Option.bind (m___sutureref1_Reader__whole n a0 r64.2.1 r64.2.2.1 r64.2.2.2.1 r64.2.2.2.2) fun r65 =>
some (4, r64.1, (⟨#[]⟩ : ByteArray), 0, r65.1, r65.2.1, r65.2.2.1, r65.2.2.2.1, ([] : List T), ([] : List T), r1, r65.2.2.2.2.1, r65.2.2.2.2.2.1, r65.2.2.2.2.2.2.1, r65.2.2.2.2.2.2.2))
else (
bif (ByteArray.toList (y0.cell 1).str == ByteArray.toList (⟨#[114, 101, 99, 118]⟩ : ByteArray)) then (
Option.bind (m___sutureref1_Reader__name n a2 (IntKind.wrap .i64 (a3 + 1)) a4 a5) fun r66 =>
Option.bind (m___sutureref1_Reader__name n r66.2.1 r66.2.2.1 r66.2.2.2.1 r66.2.2.2.2) fun r67 =>
some (5, r66.1, r67.1, 0, 0, 0, (⟨#[]⟩ : ByteArray), ([] : List T), ([] : List T), ([] : List T), r1, r67.2.1, r67.2.2.1, r67.2.2.2.1, r67.2.2.2.2))
else (
bif (ByteArray.toList (y0.cell 1).str == ByteArray.toList (⟨#[112, 114, 105, 110, 116]⟩ : ByteArray)) then (
Option.bind (m___sutureref1_Reader__whole n a0 a2 (IntKind.wrap .i64 (a3 + 1)) a4 a5) fun r68 =>
some (6, (⟨#[]⟩ : ByteArray), (⟨#[]⟩ : ByteArray), 0, r68.1, r68.2.1, r68.2.2.1, r68.2.2.2.1, ([] : List T), ([] : List T), r1, r68.2.2.2.2.1, r68.2.2.2.2.2.1, r68.2.2.2.2.2.2.1, r68.2.2.2.2.2.2.2))
else (
bif (ByteArray.toList (y0.cell 1).str == ByteArray.toList (⟨#[105, 102]⟩ : ByteArray)) then (
Option.bind (m___sutureref1_Reader__whole n a0 a2 (IntKind.wrap .i64 (a3 + 1)) a4 a5) fun r69 =>
Option.bind (b.__sutureref1_Reader__block a0 (IntKind.wrap .i64 (a1 + 1)) r69.2.2.2.2.1 r69.2.2.2.2.2.1 r69.2.2.2.2.2.2.1 r69.2.2.2.2.2.2.2) fun r70 =>
Option.bind (m___sutureref1_Reader__word n (⟨#[101, 108, 115, 101]⟩ : ByteArray) r70.2.1 r70.2.2.1 r70.2.2.2.1 r70.2.2.2.2) fun r71 =>
bif r71.1 then (
Option.bind (b.__sutureref1_Reader__block a0 (IntKind.wrap .i64 (a1 + 1)) r71.2.1 (IntKind.wrap .i64 (r71.2.2.1 + 1)) r71.2.2.2.1 r71.2.2.2.2) fun r72 =>
some (7, (⟨#[]⟩ : ByteArray), (⟨#[]⟩ : ByteArray), 0, r69.1, r69.2.1, r69.2.2.1, r69.2.2.2.1, r70.1, r72.1, r1, r72.2.1, r72.2.2.1, r72.2.2.2.1, r72.2.2.2.2))
else (
some (7, (⟨#[]⟩ : ByteArray), (⟨#[]⟩ : ByteArray), 0, r69.1, r69.2.1, r69.2.2.1, r69.2.2.2.1, r70.1, ([] : List T), r1, r71.2.1, r71.2.2.1, r71.2.2.2.1, r71.2.2.2.2)))
else (
bif (ByteArray.toList (y0.cell 1).str == ByteArray.toList (⟨#[114, 101, 112, 101, 97, 116]⟩ : ByteArray)) then (
Option.bind (m___sutureref1_Reader__number n 9 a2 (IntKind.wrap .i64 (a3 + 1)) a4 a5) fun r73 =>
Option.bind (b.__sutureref1_Reader__block a0 (IntKind.wrap .i64 (a1 + 1)) r73.2.1 r73.2.2.1 r73.2.2.2.1 r73.2.2.2.2) fun r74 =>
some (8, (⟨#[]⟩ : ByteArray), (⟨#[]⟩ : ByteArray), r73.1, 0, 0, (⟨#[]⟩ : ByteArray), ([] : List T), r74.1, ([] : List T), r1, r74.2.1, r74.2.2.1, r74.2.2.2.1, r74.2.2.2.2))
else (
Option.bind (m_sutureref1_Keyword n (y0.cell 1).str) fun r75 =>
bif r75 then (
Option.bind (m___sutureref1_Reader__failAt n (IntKind.wrap .i64 ((IntKind.wrap .i64 (a3 + 1)) - 1)) a2 (IntKind.wrap .i64 (a3 + 1)) a4 a5) fun r76 =>
some (0, (⟨#[]⟩ : ByteArray), (⟨#[]⟩ : ByteArray), 0, 0, 0, (⟨#[]⟩ : ByteArray), ([] : List T), ([] : List T), ([] : List T), r1, r76.1, r76.2.1, r76.2.2.1, r76.2.2.2))
else (
Option.bind (m___sutureref1_Reader__must n (⟨#[61]⟩ : ByteArray) a2 (IntKind.wrap .i64 (a3 + 1)) a4 a5) fun r77 =>
Option.bind (m___sutureref1_Reader__whole n a0 r77.1 r77.2.1 r77.2.2.1 r77.2.2.2) fun r78 =>
some (1, (y0.cell 1).str, (⟨#[]⟩ : ByteArray), 0, r78.1, r78.2.1, r78.2.2.1, r78.2.2.2.1, ([] : List T), ([] : List T), r1, r78.2.2.2.2.1, r78.2.2.2.2.2.1, r78.2.2.2.2.2.2.1, r78.2.2.2.2.2.2.2))))))))))))
noncomputable def code___sutureref1_Reader__stmt : Code := Try.f55.body.getD .skip
noncomputable def sp___sutureref1_Reader__stmt (b : B___sutureref1_Reader__block) (n : Nat) : Go.Eng.Spec := ⟨fun f vs sg => (match f with
    | 9 => c_sutureref1_Place (m_sutureref1_Place n) vs sg
    | 37 => c___sutureref1_Reader__fail (m___sutureref1_Reader__fail n) vs sg
    | 38 => c___sutureref1_Reader__name (m___sutureref1_Reader__name n) vs sg
    | 60 => c___sutureref1_Reader__whole (m___sutureref1_Reader__whole n) vs sg
    | 41 => c___sutureref1_Reader__block b.__sutureref1_Reader__block vs sg
    | 40 => c___sutureref1_Reader__word (m___sutureref1_Reader__word n) vs sg
    | 39 => c___sutureref1_Reader__number (m___sutureref1_Reader__number n) vs sg
    | 52 => c_sutureref1_Keyword (m_sutureref1_Keyword n) vs sg
    | 51 => c___sutureref1_Reader__failAt (m___sutureref1_Reader__failAt n) vs sg
    | 53 => c___sutureref1_Reader__must (m___sutureref1_Reader__must n) vs sg
    | _ => none), fun R key E sg K => (match key with
    | _ => none)⟩
theorem sp___sutureref1_Reader__stmt_ok (b : B___sutureref1_Reader__block) (hb : B___sutureref1_Reader__block_ok b) (n : Nat) : CallsOk Try.prog (sp___sutureref1_Reader__stmt b n) := by
  intro f vs sg cm x h hx
  simp only [sp___sutureref1_Reader__stmt] at h
  split at h
  · exact c_sutureref1_Place_ok _ (m_sutureref1_Place_ok n) vs sg cm x h hx
  · exact c___sutureref1_Reader__fail_ok _ (m___sutureref1_Reader__fail_ok n) vs sg cm x h hx
  · exact c___sutureref1_Reader__name_ok _ (m___sutureref1_Reader__name_ok n) vs sg cm x h hx
  · exact c___sutureref1_Reader__whole_ok _ (m___sutureref1_Reader__whole_ok n) vs sg cm x h hx
  · exact c___sutureref1_Reader__block_ok _ hb.__sutureref1_Reader__block vs sg cm x h hx
  · exact c___sutureref1_Reader__word_ok _ (m___sutureref1_Reader__word_ok n) vs sg cm x h hx
  · exact c___sutureref1_Reader__number_ok _ (m___sutureref1_Reader__number_ok n) vs sg cm x h hx
  · exact c_sutureref1_Keyword_ok _ (m_sutureref1_Keyword_ok n) vs sg cm x h hx
  · exact c___sutureref1_Reader__failAt_ok _ (m___sutureref1_Reader__failAt_ok n) vs sg cm x h hx
  · exact c___sutureref1_Reader__must_ok _ (m___sutureref1_Reader__must_ok n) vs sg cm x h hx
  · cases h
theorem code___sutureref1_Reader__stmt_fn : Try.prog.funcs[55]? = some Try.f55 := Try.func55
theorem code___sutureref1_Reader__stmt_body : Try.f55.body = some code___sutureref1_Reader__stmt := by kernel_rfl
theorem code___sutureref1_Reader__stmt_ok : CodeOk Try.prog code___sutureref1_Reader__stmt := (sound 55 _ _ code___sutureref1_Reader__stmt_fn code___sutureref1_Reader__stmt_body).1
def K___sutureref1_Reader__stmt (v : V) (s : Sig) : Option (Int × ByteArray × ByteArray × Int × Int × Int × ByteArray × (List T) × (List T) × (List T) × (Nat × Nat) × (List T) × Int × Bool × Int) := Option.bind (V.aggN 11 v) fun u0 => Option.bind (V.intOf .i64 (u0.getD 0 .any)) fun u1 => Option.bind (V.strOf (u0.getD 1 .any)) fun u2 => Option.bind (V.strOf (u0.getD 2 .any)) fun u3 => Option.bind (V.intOf .i64 (u0.getD 3 .any)) fun u4 => Option.bind (V.intOf .i64 (u0.getD 4 .any)) fun u5 => Option.bind (V.intOf .i64 (u0.getD 5 .any)) fun u6 => Option.bind (V.strOf (u0.getD 6 .any)) fun u7 => Option.bind (V.lstOf (u0.getD 7 .any)) fun u8 => Option.bind (V.lstOf (u0.getD 8 .any)) fun u9 => Option.bind (V.lstOf (u0.getD 9 .any)) fun u10 => Option.bind (V.cplxOf .f64 (u0.getD 10 .any)) fun u11 => Option.bind (cellsN 4 s 0) fun g0 => Option.bind (V.lstOf (g0.getD 0 .any)) fun g1 => Option.bind (V.intOf .i64 (g0.getD 1 .any)) fun g2 => Option.bind (V.boolOf (g0.getD 2 .any)) fun g3 => Option.bind (V.intOf .i64 (g0.getD 3 .any)) fun g4 => some (u1, u2, u3, u4, u5, u6, u7, u8, u9, u10, u11, g1, g2, g3, g4)
theorem K___sutureref1_Reader__stmt_wk {v : V} {s : Sig} {r : Int × ByteArray × ByteArray × Int × Int × Int × ByteArray × (List T) × (List T) × (List T) × (Nat × Nat) × (List T) × Int × Bool × Int} (h : K___sutureref1_Reader__stmt v s = some r) : Wk v (enc___sutureref1_Reader__stmt r) ∧ WkS 1 s (encS___sutureref1_Reader__stmt r) := by
  unfold K___sutureref1_Reader__stmt at h
  obtain ⟨u0, hu0, h⟩ := Option.bind_eq_some_iff.1 h
  obtain ⟨u1, hu1, h⟩ := Option.bind_eq_some_iff.1 h
  obtain ⟨u2, hu2, h⟩ := Option.bind_eq_some_iff.1 h
  obtain ⟨u3, hu3, h⟩ := Option.bind_eq_some_iff.1 h
  obtain ⟨u4, hu4, h⟩ := Option.bind_eq_some_iff.1 h
  obtain ⟨u5, hu5, h⟩ := Option.bind_eq_some_iff.1 h
  obtain ⟨u6, hu6, h⟩ := Option.bind_eq_some_iff.1 h
  obtain ⟨u7, hu7, h⟩ := Option.bind_eq_some_iff.1 h
  obtain ⟨u8, hu8, h⟩ := Option.bind_eq_some_iff.1 h
  obtain ⟨u9, hu9, h⟩ := Option.bind_eq_some_iff.1 h
  obtain ⟨u10, hu10, h⟩ := Option.bind_eq_some_iff.1 h
  obtain ⟨u11, hu11, h⟩ := Option.bind_eq_some_iff.1 h
  obtain ⟨g0, hg0, h⟩ := Option.bind_eq_some_iff.1 h
  obtain ⟨g1, hg1, h⟩ := Option.bind_eq_some_iff.1 h
  obtain ⟨g2, hg2, h⟩ := Option.bind_eq_some_iff.1 h
  obtain ⟨g3, hg3, h⟩ := Option.bind_eq_some_iff.1 h
  obtain ⟨g4, hg4, h⟩ := Option.bind_eq_some_iff.1 h
  simp only [Option.some.injEq] at h
  subst h
  exact ⟨(aggN_wk hu0 (.cons (intOf_wk hu1) (.cons (strOf_wk hu2) (.cons (strOf_wk hu3) (.cons (intOf_wk hu4) (.cons (intOf_wk hu5) (.cons (intOf_wk hu6) (.cons (strOf_wk hu7) (.cons (lstOf_wk hu8) (.cons (lstOf_wk hu9) (.cons (lstOf_wk hu10) (.cons (cplxOf_wk hu11) .nil)))))))))))), (wkR_sig (WkR.cons (cellsN_wk hg0 (.cons (lstOf_wk hg1) (.cons (intOf_wk hg2) (.cons (boolOf_wk hg3) (.cons (intOf_wk hg4) .nil))))).1 (cellsN_wk hg0 (.cons (lstOf_wk hg1) (.cons (intOf_wk hg2) (.cons (boolOf_wk hg3) (.cons (intOf_wk hg4) .nil))))).2 (renL_mem (.cons rfl (.cons rfl (.cons rfl (.cons rfl .nil))))) (WkR.nil _)) rfl)⟩
theorem f___sutureref1_Reader__stmt_eq (b : B___sutureref1_Reader__block) (n : Nat) (a0 : ByteArray) (a1 : Int) (a2 : List T) (a3 : Int) (a4 : Bool) (a5 : Int) : mF Try.prog (sp___sutureref1_Reader__stmt b n) 55 [(V.ptr 0 0), (V.t (T.sc (.string a0))), (V.t (T.sc (.int .i64 a1)))] [some [(V.t (T.list a2)), (V.t (T.sc (.int .i64 a3))), (V.t (T.sc (.bool a4))), (V.t (T.sc (.int .i64 a5)))]] K___sutureref1_Reader__stmt = f___sutureref1_Reader__stmt b n a0 a1 a2 a3 a4 a5 := by kernel_rfl
theorem f___sutureref1_Reader__stmt_ok (b : B___sutureref1_Reader__block) (hb : B___sutureref1_Reader__block_ok b) (n : Nat) : ok___sutureref1_Reader__stmt (f___sutureref1_Reader__stmt b n) := fun a0 a1 a2 a3 a4 a5 r h => mF_ok sound (sp___sutureref1_Reader__stmt_ok b hb n) code___sutureref1_Reader__stmt_fn code___sutureref1_Reader__stmt_body (fun a ha => absurd ha (by rw [show loopsOf code___sutureref1_Reader__stmt = [] from by kernel_rfl]; simp)) (no_scope (by kernel_rfl)) ((f___sutureref1_Reader__stmt_eq b n a0 a1 a2 a3 a4 a5).trans h) (fun v s hk => ⟨(K___sutureref1_Reader__stmt_wk hk).1, rfl, (K___sutureref1_Reader__stmt_wk hk).2⟩)
def unB___sutureref1_Reader__block (n : Nat) : Nat → B___sutureref1_Reader__block
  | 0 => { __sutureref1_Reader__block := fun _ _ _ _ _ _ => none, __sutureref1_Reader__stmt := fun _ _ _ _ _ _ => none }
  | m + 1 => { __sutureref1_Reader__block := f___sutureref1_Reader__block (unB___sutureref1_Reader__block n m) n, __sutureref1_Reader__stmt := f___sutureref1_Reader__stmt (unB___sutureref1_Reader__block n m) n }
theorem unB___sutureref1_Reader__block_ok (n : Nat) : ∀ m, B___sutureref1_Reader__block_ok (unB___sutureref1_Reader__block n m)
  | 0 => { __sutureref1_Reader__block := fun _ _ _ _ _ _ _ h => (nomatch (show none = some _ from h)), __sutureref1_Reader__stmt := fun _ _ _ _ _ _ _ h => (nomatch (show none = some _ from h)) }
  | m + 1 => { __sutureref1_Reader__block := f___sutureref1_Reader__block_ok _ (unB___sutureref1_Reader__block_ok n m) n, __sutureref1_Reader__stmt := f___sutureref1_Reader__stmt_ok _ (unB___sutureref1_Reader__block_ok n m) n }
def m___sutureref1_Reader__block (n : Nat) : ByteArray → Int → List T → Int → Bool → Int → Option ((List T) × (List T) × Int × Bool × Int) := (unB___sutureref1_Reader__block n n).__sutureref1_Reader__block
theorem m___sutureref1_Reader__block_ok (n : Nat) : ok___sutureref1_Reader__block (m___sutureref1_Reader__block n) := (unB___sutureref1_Reader__block_ok n n).__sutureref1_Reader__block
def m___sutureref1_Reader__stmt (n : Nat) : ByteArray → Int → List T → Int → Bool → Int → Option (Int × ByteArray × ByteArray × Int × Int × Int × ByteArray × (List T) × (List T) × (List T) × (Nat × Nat) × (List T) × Int × Bool × Int) := (unB___sutureref1_Reader__block n n).__sutureref1_Reader__stmt
theorem m___sutureref1_Reader__stmt_ok (n : Nat) : ok___sutureref1_Reader__stmt (m___sutureref1_Reader__stmt n) := (unB___sutureref1_Reader__block_ok n n).__sutureref1_Reader__stmt


/-! suture/sutureref1.Parse -/
def l_sutureref1_Parse_6_B (n : Nat) (k : ByteArray × (List T) × (List T) × (List T) × (List T) × Int × Bool × Int × (List T) × (List T) → Option (ByteArray × (List T) × (List T) × (List T) × (List T) × Int × Bool × Int × (List T) × (List T))) : ByteArray × (List T) × (List T) × (List T) × (List T) × Int × Bool × Int × (List T) × (List T) → Option (ByteArray × (List T) × (List T) × (List T) × (List T) × Int × Bool × Int × (List T) × (List T)) := fun (s0, s1, s2, s3, s4, s5, s6, s7, s8, s9) =>
Option.bind (idx ((!s6)) [.int .i64, .str, .int .i64, .int .i64] s4 s5) fun y1 =>
Option.bind (idx ((bif (!s6) then (((y1.cell 0).int : Int) == 1) else false)) [.int .i64, .str, .int .i64, .int .i64] s4 s5) fun y2 =>
Option.bind (bif (bif (!s6) then (((y1.cell 0).int : Int) == 1) else false) then m_sutureref1_declKind n (y2.cell 1).str else some 0) fun r3 =>
bif (bif (bif (!s6) then (((y1.cell 0).int : Int) == 1) else false) then (decide ((r3 : Int) > 0)) else false) then (
bif ((((List.length s8 : Nat) : Int) : Int) == 24) then (
Option.bind (m___sutureref1_Reader__fail n s4 s5 s6 s7) fun r4 =>
some (s0, s1, s2, s3, r4.1, r4.2.1, r4.2.2.1, r4.2.2.2, s8, s9))
else (
Option.bind (idx true [.int .i64, .str, .int .i64, .int .i64] s4 s5) fun y5 =>
Option.bind (m_sutureref1_declKind n (y5.cell 1).str) fun r6 =>
Option.bind (idx true [.int .i64, .str, .int .i64, .int .i64] s4 s5) fun y7 =>
Option.bind (m_sutureref1_Place n s0 (y7.cell 3).int) fun r8 =>
Option.bind (m___sutureref1_Reader__name n s4 (IntKind.wrap .i64 (s5 + 1)) s6 s7) fun r9 =>
bif ((r6 : Int) == 6) then (
Option.bind (m___sutureref1_Reader__number n 3 r9.2.1 r9.2.2.1 r9.2.2.2.1 r9.2.2.2.2) fun r10 =>
must true ((Nat.beq 4 4 || Nat.beq 4 0) && (decide (List.length s8 + List.length [(T.agg [(T.sc (.int .i64 r6)), (T.sc (.string r9.1)), (T.sc (.int .i64 r10.1)), (T.sc (.complex .f64 r8.1 r8.2))])] ≤ 1073741824) && sized 4 [(T.agg [(T.sc (.int .i64 r6)), (T.sc (.string r9.1)), (T.sc (.int .i64 r10.1)), (T.sc (.complex .f64 r8.1 r8.2))])])) (k (s0, s1, s2, s3, r10.2.1, r10.2.2.1, r10.2.2.2.1, r10.2.2.2.2, (s8 ++ [(T.agg [(T.sc (.int .i64 r6)), (T.sc (.string r9.1)), (T.sc (.int .i64 r10.1)), (T.sc (.complex .f64 r8.1 r8.2))])]), s9)))
else (
must true ((Nat.beq 4 4 || Nat.beq 4 0) && (decide (List.length s8 + List.length [(T.agg [(T.sc (.int .i64 r6)), (T.sc (.string r9.1)), (T.sc (.int .i64 0)), (T.sc (.complex .f64 r8.1 r8.2))])] ≤ 1073741824) && sized 4 [(T.agg [(T.sc (.int .i64 r6)), (T.sc (.string r9.1)), (T.sc (.int .i64 0)), (T.sc (.complex .f64 r8.1 r8.2))])])) (k (s0, s1, s2, s3, r9.2.1, r9.2.2.1, r9.2.2.2.1, r9.2.2.2.2, (s8 ++ [(T.agg [(T.sc (.int .i64 r6)), (T.sc (.string r9.1)), (T.sc (.int .i64 0)), (T.sc (.complex .f64 r8.1 r8.2))])]), s9)))))
else (
some (s0, s1, s2, s3, s4, s5, s6, s7, s8, s9))
def l_sutureref1_Parse_6 (n : Nat) : Nat → ByteArray × (List T) × (List T) × (List T) × (List T) × Int × Bool × Int × (List T) × (List T) → Option (ByteArray × (List T) × (List T) × (List T) × (List T) × Int × Bool × Int × (List T) × (List T))
  | 0, _ => none
  | m + 1, s => l_sutureref1_Parse_6_B n (l_sutureref1_Parse_6 n m) s
def l_sutureref1_Parse_15_B (n : Nat) (k : ByteArray × (List T) × (List T) × (List T) × (List T) × Int × Bool × Int × (List T) × (List T) → Option ((List T) × (List T) × (List T) × (List T) × Int × Bool × Int × (List T) × (List T))) : ByteArray × (List T) × (List T) × (List T) × (List T) × Int × Bool × Int × (List T) × (List T) → Option ((List T) × (List T) × (List T) × (List T) × Int × Bool × Int × (List T) × (List T)) := fun (s0, s1, s2, s3, s4, s5, s6, s7, s8, s9) =>
Option.bind (idx ((!s6)) [.int .i64, .str, .int .i64, .int .i64] s4 s5) fun y13 =>
bif (bif (!s6) then (bif (((y13.cell 0).int : Int) != 4) then true else ((((List.length s9 : Nat) : Int) : Int) == 0)) else false) then (
Option.bind (m___sutureref1_Reader__word n (⟨#[103, 111]⟩ : ByteArray) s4 s5 s6 s7) fun r14 =>
bif (bif (!r14.1) then true else ((((List.length s9 : Nat) : Int) : Int) == 4)) then (
Option.bind (m___sutureref1_Reader__fail n r14.2.1 r14.2.2.1 r14.2.2.2.1 r14.2.2.2.2) fun r15 =>
some (s1, s2, s3, r15.1, r15.2.1, r15.2.2.1, r15.2.2.2, s8, s9))
else (
Option.bind (m___sutureref1_Reader__block n s0 1 r14.2.1 (IntKind.wrap .i64 (r14.2.2.1 + 1)) r14.2.2.2.1 r14.2.2.2.2) fun r16 =>
must true ((Nat.beq 1 1 || Nat.beq 1 0) && (decide (List.length s9 + List.length [(T.list r16.1)] ≤ 1073741824) && sized 1 [(T.list r16.1)])) (k (s0, s1, s2, s3, r16.2.1, r16.2.2.1, r16.2.2.2.1, r16.2.2.2.2, s8, (s9 ++ [(T.list r16.1)])))))
else (
some (s1, s2, s3, s4, s5, s6, s7, s8, s9))
def l_sutureref1_Parse_15 (n : Nat) : Nat → ByteArray × (List T) × (List T) × (List T) × (List T) × Int × Bool × Int × (List T) × (List T) → Option ((List T) × (List T) × (List T) × (List T) × Int × Bool × Int × (List T) × (List T))
  | 0, _ => none
  | m + 1, s => l_sutureref1_Parse_15_B n (l_sutureref1_Parse_15 n m) s
def m_sutureref1_Parse (n : Nat) (a0 : ByteArray) : Option ((List T) × (List T) × Int × Int) :=
Option.bind (m_sutureref1_Tokens n a0) fun r0 =>
bif ((r0.2.2 : Int) != 0) then (
some (([] : List T), ([] : List T), r0.2.1, r0.2.2))
else (
Option.bind (l_sutureref1_Parse_6 n n (a0, r0.1, ([] : List T), ([] : List T), r0.1, 0, false, 0, ([] : List T), ([] : List T))) fun p12 =>
Option.bind (l_sutureref1_Parse_15 n n (p12.1, p12.2.1, p12.2.2.1, p12.2.2.2.1, p12.2.2.2.2.1, p12.2.2.2.2.2.1, p12.2.2.2.2.2.2.1, p12.2.2.2.2.2.2.2.1, p12.2.2.2.2.2.2.2.2.1, p12.2.2.2.2.2.2.2.2.2)) fun p18 =>
bif p18.2.2.2.2.2.1 then (
Option.bind (idx true [.int .i64, .str, .int .i64, .int .i64] p18.1 p18.2.2.2.2.2.2.1) fun y19 =>
some (([] : List T), ([] : List T), (y19.cell 3).int, 2))
else (
some (p18.2.2.2.2.2.2.2.1, p18.2.2.2.2.2.2.2.2, 0, 0)))
def enc_sutureref1_Parse (r : (List T) × (List T) × Int × Int) : V := (V.tup [(V.agg [(V.t (T.list r.1)), (V.t (T.list r.2.1))]), (V.t (T.sc (.int .i64 r.2.2.1))), (V.t (T.sc (.int .i64 r.2.2.2)))])
def encS_sutureref1_Parse (r : (List T) × (List T) × Int × Int) : Sig := []
def ok_sutureref1_Parse (m : ByteArray → Option ((List T) × (List T) × Int × Int)) : Prop := ∀ (a0 : ByteArray) (r : (List T) × (List T) × Int × Int), m a0 = some r → FuncOk Try.prog 23 [(V.t (T.sc (.string a0)))] [] (enc_sutureref1_Parse r) (encS_sutureref1_Parse r)
def c_sutureref1_Parse (m : ByteArray → Option ((List T) × (List T) × Int × Int)) (vs : List V) (sg : Sig) : Option CallM := bif Nat.beq vs.length 1 && Nat.beq sg.length 0 then Option.bind (V.strOf (vs.getD 0 .any)) fun u0 => some { α := (List T) × (List T) × Int × Int, m := m u0, dflt := ([], [], 0, 0), enc := fun y => ((V.tup [(V.agg [(V.t (T.list y.1)), (V.t (T.list y.2.1))]), (V.t (T.sc (.int .i64 y.2.2.1))), (V.t (T.sc (.int .i64 y.2.2.2)))]), []) } else none
theorem c_sutureref1_Parse_ok (m : ByteArray → Option ((List T) × (List T) × Int × Int)) (hm : ok_sutureref1_Parse m) (vs : List V) (sg : Sig) (cm : CallM) (x : cm.α) (h : c_sutureref1_Parse m vs sg = some cm) (hx : cm.m = some x) : FuncOk Try.prog 23 vs sg (cm.enc x).1 (cm.enc x).2 := by
  unfold c_sutureref1_Parse at h
  have h0 := callee_sig h
  clear h
  obtain ⟨hl, hs, h⟩ := h0
  obtain ⟨u0, hu0, h⟩ := Option.bind_eq_some_iff.1 h
  simp only [Option.some.injEq] at h
  subst h
  exact (hm u0 x hx).wk (args_wk hl (.cons (strOf_wk hu0) .nil)) (wkSg_of hs .nil)
noncomputable def code_sutureref1_Parse : Code := Try.f23.body.getD .skip
def l_sutureref1_Parse_6_S (n : Nat) (R : Type) (E : SEnv) (sg : Sig) (K : Ex → SEnv → Sig → Option R) : Option R := Option.bind (V.strOf (SEnv.at E 0)) fun u0 => Option.bind (V.ptrOf 0 0 (SEnv.at E 2)) fun u1 => Option.bind (V.lstOf (SEnv.at E 5)) fun u2 => Option.bind (V.ptrOf 1 0 (SEnv.at E 8)) fun u3 => Option.bind (V.ptrOf 2 0 (SEnv.at E 9)) fun u4 => Option.bind (cellsN 2 sg 0) fun u5 => Option.bind (V.ownOf 0 (u5.getD 0 .any)) fun u6 => Option.bind (V.ownOf 0 (u5.getD 1 .any)) fun u7 => Option.bind (cellsN 4 sg 1) fun u8 => Option.bind (V.lstOf (u8.getD 0 .any)) fun u9 => Option.bind (V.intOf .i64 (u8.getD 1 .any)) fun u10 => Option.bind (V.boolOf (u8.getD 2 .any)) fun u11 => Option.bind (V.intOf .i64 (u8.getD 3 .any)) fun u12 => Option.bind (cellsN 2 sg 2) fun u13 => Option.bind (V.ownOf 4 (u13.getD 0 .any)) fun u14 => Option.bind (V.ownOf 0 (u13.getD 1 .any)) fun u15 => Option.bind (l_sutureref1_Parse_6 n n (u0, u2, u6, u7, u9, u10, u11, u12, u14, u15)) fun p0 => K (.exit 0) [(0, (V.t (T.sc (.string p0.1)))), (2, (V.ptr 0 0)), (5, (V.t (T.list p0.2.1))), (8, (V.ptr 1 0)), (9, (V.ptr 2 0))] [some [(V.own 0 p0.2.2.1), (V.own 0 p0.2.2.2.1)], some [(V.t (T.list p0.2.2.2.2.1)), (V.t (T.sc (.int .i64 p0.2.2.2.2.2.1))), (V.t (T.sc (.bool p0.2.2.2.2.2.2.1))), (V.t (T.sc (.int .i64 p0.2.2.2.2.2.2.2.1)))], some [(V.own 4 p0.2.2.2.2.2.2.2.2.1), (V.own 0 p0.2.2.2.2.2.2.2.2.2)]]
def l_sutureref1_Parse_15_S (n : Nat) (R : Type) (E : SEnv) (sg : Sig) (K : Ex → SEnv → Sig → Option R) : Option R := Option.bind (V.strOf (SEnv.at E 0)) fun u0 => Option.bind (V.ptrOf 0 0 (SEnv.at E 2)) fun u1 => Option.bind (V.lstOf (SEnv.at E 5)) fun u2 => Option.bind (V.ptrOf 1 0 (SEnv.at E 8)) fun u3 => Option.bind (V.ptrOf 2 0 (SEnv.at E 9)) fun u4 => Option.bind (cellsN 2 sg 0) fun u5 => Option.bind (V.ownOf 0 (u5.getD 0 .any)) fun u6 => Option.bind (V.ownOf 0 (u5.getD 1 .any)) fun u7 => Option.bind (cellsN 4 sg 1) fun u8 => Option.bind (V.lstOf (u8.getD 0 .any)) fun u9 => Option.bind (V.intOf .i64 (u8.getD 1 .any)) fun u10 => Option.bind (V.boolOf (u8.getD 2 .any)) fun u11 => Option.bind (V.intOf .i64 (u8.getD 3 .any)) fun u12 => Option.bind (cellsN 2 sg 2) fun u13 => Option.bind (V.ownOf 4 (u13.getD 0 .any)) fun u14 => Option.bind (V.ownOf 1 (u13.getD 1 .any)) fun u15 => Option.bind (l_sutureref1_Parse_15 n n (u0, u2, u6, u7, u9, u10, u11, u12, u14, u15)) fun p0 => K (.exit 2) [(2, (V.ptr 0 0)), (5, (V.t (T.list p0.1))), (8, (V.ptr 1 0)), (9, (V.ptr 2 0))] [some [(V.own 0 p0.2.1), (V.own 0 p0.2.2.1)], some [(V.t (T.list p0.2.2.2.1)), (V.t (T.sc (.int .i64 p0.2.2.2.2.1))), (V.t (T.sc (.bool p0.2.2.2.2.2.1))), (V.t (T.sc (.int .i64 p0.2.2.2.2.2.2.1)))], some [(V.own 4 p0.2.2.2.2.2.2.2.1), (V.own 1 p0.2.2.2.2.2.2.2.2)]]
noncomputable def sp_sutureref1_Parse (n : Nat) : Go.Eng.Spec := ⟨fun f vs sg => (match f with
    | 35 => c_sutureref1_Tokens (m_sutureref1_Tokens n) vs sg
    | 36 => c_sutureref1_declKind (m_sutureref1_declKind n) vs sg
    | 37 => c___sutureref1_Reader__fail (m___sutureref1_Reader__fail n) vs sg
    | 9 => c_sutureref1_Place (m_sutureref1_Place n) vs sg
    | 38 => c___sutureref1_Reader__name (m___sutureref1_Reader__name n) vs sg
    | 39 => c___sutureref1_Reader__number (m___sutureref1_Reader__number n) vs sg
    | 40 => c___sutureref1_Reader__word (m___sutureref1_Reader__word n) vs sg
    | 41 => c___sutureref1_Reader__block (m___sutureref1_Reader__block n) vs sg
    | _ => none), fun R key E sg K => (match key with
    | 6 => l_sutureref1_Parse_6_S n R E sg K
    | 15 => l_sutureref1_Parse_15_S n R E sg K
    | _ => none)⟩
theorem sp_sutureref1_Parse_ok (n : Nat) : CallsOk Try.prog (sp_sutureref1_Parse n) := by
  intro f vs sg cm x h hx
  simp only [sp_sutureref1_Parse] at h
  split at h
  · exact c_sutureref1_Tokens_ok _ (m_sutureref1_Tokens_ok n) vs sg cm x h hx
  · exact c_sutureref1_declKind_ok _ (m_sutureref1_declKind_ok n) vs sg cm x h hx
  · exact c___sutureref1_Reader__fail_ok _ (m___sutureref1_Reader__fail_ok n) vs sg cm x h hx
  · exact c_sutureref1_Place_ok _ (m_sutureref1_Place_ok n) vs sg cm x h hx
  · exact c___sutureref1_Reader__name_ok _ (m___sutureref1_Reader__name_ok n) vs sg cm x h hx
  · exact c___sutureref1_Reader__number_ok _ (m___sutureref1_Reader__number_ok n) vs sg cm x h hx
  · exact c___sutureref1_Reader__word_ok _ (m___sutureref1_Reader__word_ok n) vs sg cm x h hx
  · exact c___sutureref1_Reader__block_ok _ (m___sutureref1_Reader__block_ok n) vs sg cm x h hx
  · cases h
theorem code_sutureref1_Parse_fn : Try.prog.funcs[23]? = some Try.f23 := Try.func23
theorem code_sutureref1_Parse_body : Try.f23.body = some code_sutureref1_Parse := by kernel_rfl
theorem code_sutureref1_Parse_ok : CodeOk Try.prog code_sutureref1_Parse := (sound 23 _ _ code_sutureref1_Parse_fn code_sutureref1_Parse_body).1
noncomputable def code_l_sutureref1_Parse_6 : Code := (loopsOf code_sutureref1_Parse).getD 0 .skip
theorem code_l_sutureref1_Parse_6_ok : CodeOk Try.prog code_l_sutureref1_Parse_6 := codeOk_loops code_sutureref1_Parse_ok _ (getD_mem (by kernel_rfl))
def l_sutureref1_Parse_6_K (k : ByteArray × (List T) × (List T) × (List T) × (List T) × Int × Bool × Int × (List T) × (List T) → Option (ByteArray × (List T) × (List T) × (List T) × (List T) × Int × Bool × Int × (List T) × (List T))) : Ex → SEnv → Sig → Option (ByteArray × (List T) × (List T) × (List T) × (List T) × Int × Bool × Int × (List T) × (List T)) := fun x E sg => match x with
  | .normal => Option.bind (V.strOf (SEnv.at E 0)) fun u0 => Option.bind (V.ptrOf 0 0 (SEnv.at E 2)) fun u1 => Option.bind (V.lstOf (SEnv.at E 5)) fun u2 => Option.bind (V.ptrOf 1 0 (SEnv.at E 8)) fun u3 => Option.bind (V.ptrOf 2 0 (SEnv.at E 9)) fun u4 => Option.bind (cellsN 2 sg 0) fun u5 => Option.bind (V.ownOf 0 (u5.getD 0 .any)) fun u6 => Option.bind (V.ownOf 0 (u5.getD 1 .any)) fun u7 => Option.bind (cellsN 4 sg 1) fun u8 => Option.bind (V.lstOf (u8.getD 0 .any)) fun u9 => Option.bind (V.intOf .i64 (u8.getD 1 .any)) fun u10 => Option.bind (V.boolOf (u8.getD 2 .any)) fun u11 => Option.bind (V.intOf .i64 (u8.getD 3 .any)) fun u12 => Option.bind (cellsN 2 sg 2) fun u13 => Option.bind (V.ownOf 4 (u13.getD 0 .any)) fun u14 => Option.bind (V.ownOf 0 (u13.getD 1 .any)) fun u15 => k (u0, u2, u6, u7, u9, u10, u11, u12, u14, u15)
  | (.exit 0) => Option.bind (V.strOf (SEnv.at E 0)) fun u0 => Option.bind (V.ptrOf 0 0 (SEnv.at E 2)) fun u1 => Option.bind (V.lstOf (SEnv.at E 5)) fun u2 => Option.bind (V.ptrOf 1 0 (SEnv.at E 8)) fun u3 => Option.bind (V.ptrOf 2 0 (SEnv.at E 9)) fun u4 => Option.bind (cellsN 2 sg 0) fun u5 => Option.bind (V.ownOf 0 (u5.getD 0 .any)) fun u6 => Option.bind (V.ownOf 0 (u5.getD 1 .any)) fun u7 => Option.bind (cellsN 4 sg 1) fun u8 => Option.bind (V.lstOf (u8.getD 0 .any)) fun u9 => Option.bind (V.intOf .i64 (u8.getD 1 .any)) fun u10 => Option.bind (V.boolOf (u8.getD 2 .any)) fun u11 => Option.bind (V.intOf .i64 (u8.getD 3 .any)) fun u12 => Option.bind (cellsN 2 sg 2) fun u13 => Option.bind (V.ownOf 4 (u13.getD 0 .any)) fun u14 => Option.bind (V.ownOf 0 (u13.getD 1 .any)) fun u15 => some (u0, u2, u6, u7, u9, u10, u11, u12, u14, u15)
  | _ => none
theorem l_sutureref1_Parse_6_eq (n : Nat) (k : ByteArray × (List T) × (List T) × (List T) × (List T) × Int × Bool × Int × (List T) × (List T) → Option (ByteArray × (List T) × (List T) × (List T) × (List T) × Int × Bool × Int × (List T) × (List T))) (s0 : ByteArray) (s1 : List T) (s2 : List T) (s3 : List T) (s4 : List T) (s5 : Int) (s6 : Bool) (s7 : Int) (s8 : List T) (s9 : List T) : mX Try.prog (sp_sutureref1_Parse n) 179 code_l_sutureref1_Parse_6 [(0, (V.t (T.sc (.string s0)))), (2, (V.ptr 0 0)), (5, (V.t (T.list s1))), (8, (V.ptr 1 0)), (9, (V.ptr 2 0))] [some [(V.own 0 s2), (V.own 0 s3)], some [(V.t (T.list s4)), (V.t (T.sc (.int .i64 s5))), (V.t (T.sc (.bool s6))), (V.t (T.sc (.int .i64 s7)))], some [(V.own 4 s8), (V.own 0 s9)]] (l_sutureref1_Parse_6_K k) = l_sutureref1_Parse_6_B n k (s0, s1, s2, s3, s4, s5, s6, s7, s8, s9) := by kernel_rfl
def l_sutureref1_Parse_6_Q (x : ByteArray × (List T) × (List T) × (List T) × (List T) × Int × Bool × Int × (List T) × (List T)) (ex : Ex) (e : Env) (s : Sig) : Prop := (fun p0 => (ex = (.exit 0) ∧ e = SEnv.env 179 [(0, (V.t (T.sc (.string p0.1)))), (2, (V.ptr 0 0)), (5, (V.t (T.list p0.2.1))), (8, (V.ptr 1 0)), (9, (V.ptr 2 0))] ∧ s = [some [(V.own 0 p0.2.2.1), (V.own 0 p0.2.2.2.1)], some [(V.t (T.list p0.2.2.2.2.1)), (V.t (T.sc (.int .i64 p0.2.2.2.2.2.1))), (V.t (T.sc (.bool p0.2.2.2.2.2.2.1))), (V.t (T.sc (.int .i64 p0.2.2.2.2.2.2.2.1)))], some [(V.own 4 p0.2.2.2.2.2.2.2.2.1), (V.own 0 p0.2.2.2.2.2.2.2.2.2)]])) x
theorem l_sutureref1_Parse_6_run (n : Nat) : ∀ (m : Nat) (s0 : ByteArray) (s1 : List T) (s2 : List T) (s3 : List T) (s4 : List T) (s5 : Int) (s6 : Bool) (s7 : Int) (s8 : List T) (s9 : List T) (x : ByteArray × (List T) × (List T) × (List T) × (List T) × Int × Bool × Int × (List T) × (List T)), l_sutureref1_Parse_6 n m (s0, s1, s2, s3, s4, s5, s6, s7, s8, s9) = some x → SemL Try.prog 0 code_l_sutureref1_Parse_6 (SEnv.env 179 [(0, (V.t (T.sc (.string s0)))), (2, (V.ptr 0 0)), (5, (V.t (T.list s1))), (8, (V.ptr 1 0)), (9, (V.ptr 2 0))]) [some [(V.own 0 s2), (V.own 0 s3)], some [(V.t (T.list s4)), (V.t (T.sc (.int .i64 s5))), (V.t (T.sc (.bool s6))), (V.t (T.sc (.int .i64 s7)))], some [(V.own 4 s8), (V.own 0 s9)]] (l_sutureref1_Parse_6_Q x)
  | 0, s0, s1, s2, s3, s4, s5, s6, s7, s8, s9, x, h => by cases h
  | m + 1, s0, s1, s2, s3, s4, s5, s6, s7, s8, s9, x, h => by
    refine loop_step (sp_sutureref1_Parse_ok n) code_l_sutureref1_Parse_6_ok (fun a ha => absurd ha (by rw [show loopsOf code_l_sutureref1_Parse_6 = [] from by kernel_rfl]; simp)) (no_scope (by kernel_rfl)) ((l_sutureref1_Parse_6_eq n _ s0 s1 s2 s3 s4 s5 s6 s7 s8 s9).trans h) (fun E sg h => ?_) (fun ex E sg hne h => ?_)
    · simp only [l_sutureref1_Parse_6_K] at h
      obtain ⟨u0, hu0, h⟩ := Option.bind_eq_some_iff.1 h
      obtain ⟨u1, hu1, h⟩ := Option.bind_eq_some_iff.1 h
      obtain ⟨u2, hu2, h⟩ := Option.bind_eq_some_iff.1 h
      obtain ⟨u3, hu3, h⟩ := Option.bind_eq_some_iff.1 h
      obtain ⟨u4, hu4, h⟩ := Option.bind_eq_some_iff.1 h
      obtain ⟨u5, hu5, h⟩ := Option.bind_eq_some_iff.1 h
      obtain ⟨u6, hu6, h⟩ := Option.bind_eq_some_iff.1 h
      obtain ⟨u7, hu7, h⟩ := Option.bind_eq_some_iff.1 h
      obtain ⟨u8, hu8, h⟩ := Option.bind_eq_some_iff.1 h
      obtain ⟨u9, hu9, h⟩ := Option.bind_eq_some_iff.1 h
      obtain ⟨u10, hu10, h⟩ := Option.bind_eq_some_iff.1 h
      obtain ⟨u11, hu11, h⟩ := Option.bind_eq_some_iff.1 h
      obtain ⟨u12, hu12, h⟩ := Option.bind_eq_some_iff.1 h
      obtain ⟨u13, hu13, h⟩ := Option.bind_eq_some_iff.1 h
      obtain ⟨u14, hu14, h⟩ := Option.bind_eq_some_iff.1 h
      obtain ⟨u15, hu15, h⟩ := Option.bind_eq_some_iff.1 h
      exact SemL.pre (k := 3) (by decide) (WkA.env (WkA.cons (strOf_wk hu0) rfl (WkA.cons (ptrOf_wk hu1) rfl (WkA.cons (lstOf_wk hu2) rfl (WkA.cons (ptrOf_wk hu3) rfl (WkA.cons (ptrOf_wk hu4) rfl WkA.nil))))) 179) (wkR_sig (WkR.cons (cellsN_wk hu5 (.cons (ownOf_wk hu6) (.cons (ownOf_wk hu7) .nil))).1 (cellsN_wk hu5 (.cons (ownOf_wk hu6) (.cons (ownOf_wk hu7) .nil))).2 (renL_mem (.cons rfl (.cons rfl .nil))) (WkR.cons (cellsN_wk hu8 (.cons (lstOf_wk hu9) (.cons (intOf_wk hu10) (.cons (boolOf_wk hu11) (.cons (intOf_wk hu12) .nil))))).1 (cellsN_wk hu8 (.cons (lstOf_wk hu9) (.cons (intOf_wk hu10) (.cons (boolOf_wk hu11) (.cons (intOf_wk hu12) .nil))))).2 (renL_mem (.cons rfl (.cons rfl (.cons rfl (.cons rfl .nil))))) (WkR.cons (cellsN_wk hu13 (.cons (ownOf_wk hu14) (.cons (ownOf_wk hu15) .nil))).1 (cellsN_wk hu13 (.cons (ownOf_wk hu14) (.cons (ownOf_wk hu15) .nil))).2 (renL_mem (.cons rfl (.cons rfl .nil))) (WkR.nil _)))) rfl) (l_sutureref1_Parse_6_run n m _ _ _ _ _ _ _ _ _ _ x h)
    · unfold l_sutureref1_Parse_6_K at h
      split at h
      · exact absurd rfl hne
      · obtain ⟨u0, hu0, h⟩ := Option.bind_eq_some_iff.1 h
        obtain ⟨u1, hu1, h⟩ := Option.bind_eq_some_iff.1 h
        obtain ⟨u2, hu2, h⟩ := Option.bind_eq_some_iff.1 h
        obtain ⟨u3, hu3, h⟩ := Option.bind_eq_some_iff.1 h
        obtain ⟨u4, hu4, h⟩ := Option.bind_eq_some_iff.1 h
        obtain ⟨u5, hu5, h⟩ := Option.bind_eq_some_iff.1 h
        obtain ⟨u6, hu6, h⟩ := Option.bind_eq_some_iff.1 h
        obtain ⟨u7, hu7, h⟩ := Option.bind_eq_some_iff.1 h
        obtain ⟨u8, hu8, h⟩ := Option.bind_eq_some_iff.1 h
        obtain ⟨u9, hu9, h⟩ := Option.bind_eq_some_iff.1 h
        obtain ⟨u10, hu10, h⟩ := Option.bind_eq_some_iff.1 h
        obtain ⟨u11, hu11, h⟩ := Option.bind_eq_some_iff.1 h
        obtain ⟨u12, hu12, h⟩ := Option.bind_eq_some_iff.1 h
        obtain ⟨u13, hu13, h⟩ := Option.bind_eq_some_iff.1 h
        obtain ⟨u14, hu14, h⟩ := Option.bind_eq_some_iff.1 h
        obtain ⟨u15, hu15, h⟩ := Option.bind_eq_some_iff.1 h
        simp only [Option.some.injEq] at h
        subst h
        exact ⟨3, _, _, by decide, WkA.env (WkA.cons (strOf_wk hu0) rfl (WkA.cons (ptrOf_wk hu1) rfl (WkA.cons (lstOf_wk hu2) rfl (WkA.cons (ptrOf_wk hu3) rfl (WkA.cons (ptrOf_wk hu4) rfl WkA.nil))))) 179, (wkR_sig (WkR.cons (cellsN_wk hu5 (.cons (ownOf_wk hu6) (.cons (ownOf_wk hu7) .nil))).1 (cellsN_wk hu5 (.cons (ownOf_wk hu6) (.cons (ownOf_wk hu7) .nil))).2 (renL_mem (.cons rfl (.cons rfl .nil))) (WkR.cons (cellsN_wk hu8 (.cons (lstOf_wk hu9) (.cons (intOf_wk hu10) (.cons (boolOf_wk hu11) (.cons (intOf_wk hu12) .nil))))).1 (cellsN_wk hu8 (.cons (lstOf_wk hu9) (.cons (intOf_wk hu10) (.cons (boolOf_wk hu11) (.cons (intOf_wk hu12) .nil))))).2 (renL_mem (.cons rfl (.cons rfl (.cons rfl (.cons rfl .nil))))) (WkR.cons (cellsN_wk hu13 (.cons (ownOf_wk hu14) (.cons (ownOf_wk hu15) .nil))).1 (cellsN_wk hu13 (.cons (ownOf_wk hu14) (.cons (ownOf_wk hu15) .nil))).2 (renL_mem (.cons rfl (.cons rfl .nil))) (WkR.nil _)))) rfl), rfl, rfl, rfl⟩
      · cases h
theorem l_sutureref1_Parse_6_ok (n : Nat) : LoopOk Try.prog (sp_sutureref1_Parse n) 0 179 code_l_sutureref1_Parse_6 := by
    intro R key E sg K r hk h
    rw [show Go.Eng.keyOf code_l_sutureref1_Parse_6 = some 6 from by kernel_rfl] at hk
    cases hk
    have h : l_sutureref1_Parse_6_S n R E sg K = some r := h
    unfold l_sutureref1_Parse_6_S at h
    obtain ⟨u0, hu0, h⟩ := Option.bind_eq_some_iff.1 h
    obtain ⟨u1, hu1, h⟩ := Option.bind_eq_some_iff.1 h
    obtain ⟨u2, hu2, h⟩ := Option.bind_eq_some_iff.1 h
    obtain ⟨u3, hu3, h⟩ := Option.bind_eq_some_iff.1 h
    obtain ⟨u4, hu4, h⟩ := Option.bind_eq_some_iff.1 h
    obtain ⟨u5, hu5, h⟩ := Option.bind_eq_some_iff.1 h
    obtain ⟨u6, hu6, h⟩ := Option.bind_eq_some_iff.1 h
    obtain ⟨u7, hu7, h⟩ := Option.bind_eq_some_iff.1 h
    obtain ⟨u8, hu8, h⟩ := Option.bind_eq_some_iff.1 h
    obtain ⟨u9, hu9, h⟩ := Option.bind_eq_some_iff.1 h
    obtain ⟨u10, hu10, h⟩ := Option.bind_eq_some_iff.1 h
    obtain ⟨u11, hu11, h⟩ := Option.bind_eq_some_iff.1 h
    obtain ⟨u12, hu12, h⟩ := Option.bind_eq_some_iff.1 h
    obtain ⟨u13, hu13, h⟩ := Option.bind_eq_some_iff.1 h
    obtain ⟨u14, hu14, h⟩ := Option.bind_eq_some_iff.1 h
    obtain ⟨u15, hu15, h⟩ := Option.bind_eq_some_iff.1 h
    obtain ⟨x, hx, h⟩ := Option.bind_eq_some_iff.1 h
    refine (SemL.pre (k := 3) (by decide) (WkA.env (WkA.cons (strOf_wk hu0) rfl (WkA.cons (ptrOf_wk hu1) rfl (WkA.cons (lstOf_wk hu2) rfl (WkA.cons (ptrOf_wk hu3) rfl (WkA.cons (ptrOf_wk hu4) rfl WkA.nil))))) 179) (wkR_sig (WkR.cons (cellsN_wk hu5 (.cons (ownOf_wk hu6) (.cons (ownOf_wk hu7) .nil))).1 (cellsN_wk hu5 (.cons (ownOf_wk hu6) (.cons (ownOf_wk hu7) .nil))).2 (renL_mem (.cons rfl (.cons rfl .nil))) (WkR.cons (cellsN_wk hu8 (.cons (lstOf_wk hu9) (.cons (intOf_wk hu10) (.cons (boolOf_wk hu11) (.cons (intOf_wk hu12) .nil))))).1 (cellsN_wk hu8 (.cons (lstOf_wk hu9) (.cons (intOf_wk hu10) (.cons (boolOf_wk hu11) (.cons (intOf_wk hu12) .nil))))).2 (renL_mem (.cons rfl (.cons rfl (.cons rfl (.cons rfl .nil))))) (WkR.cons (cellsN_wk hu13 (.cons (ownOf_wk hu14) (.cons (ownOf_wk hu15) .nil))).1 (cellsN_wk hu13 (.cons (ownOf_wk hu14) (.cons (ownOf_wk hu15) .nil))).2 (renL_mem (.cons rfl (.cons rfl .nil))) (WkR.nil _)))) rfl) (l_sutureref1_Parse_6_run n n _ _ _ _ _ _ _ _ _ _ x hx)).mono ?_
    intro ex e s hq
    obtain ⟨rfl, rfl, rfl⟩ := hq
    exact ⟨_, rfl, h⟩
noncomputable def code_l_sutureref1_Parse_15 : Code := (loopsOf code_sutureref1_Parse).getD 1 .skip
theorem code_l_sutureref1_Parse_15_ok : CodeOk Try.prog code_l_sutureref1_Parse_15 := codeOk_loops code_sutureref1_Parse_ok _ (getD_mem (by kernel_rfl))
def l_sutureref1_Parse_15_K (k : ByteArray × (List T) × (List T) × (List T) × (List T) × Int × Bool × Int × (List T) × (List T) → Option ((List T) × (List T) × (List T) × (List T) × Int × Bool × Int × (List T) × (List T))) : Ex → SEnv → Sig → Option ((List T) × (List T) × (List T) × (List T) × Int × Bool × Int × (List T) × (List T)) := fun x E sg => match x with
  | .normal => Option.bind (V.strOf (SEnv.at E 0)) fun u0 => Option.bind (V.ptrOf 0 0 (SEnv.at E 2)) fun u1 => Option.bind (V.lstOf (SEnv.at E 5)) fun u2 => Option.bind (V.ptrOf 1 0 (SEnv.at E 8)) fun u3 => Option.bind (V.ptrOf 2 0 (SEnv.at E 9)) fun u4 => Option.bind (cellsN 2 sg 0) fun u5 => Option.bind (V.ownOf 0 (u5.getD 0 .any)) fun u6 => Option.bind (V.ownOf 0 (u5.getD 1 .any)) fun u7 => Option.bind (cellsN 4 sg 1) fun u8 => Option.bind (V.lstOf (u8.getD 0 .any)) fun u9 => Option.bind (V.intOf .i64 (u8.getD 1 .any)) fun u10 => Option.bind (V.boolOf (u8.getD 2 .any)) fun u11 => Option.bind (V.intOf .i64 (u8.getD 3 .any)) fun u12 => Option.bind (cellsN 2 sg 2) fun u13 => Option.bind (V.ownOf 4 (u13.getD 0 .any)) fun u14 => Option.bind (V.ownOf 1 (u13.getD 1 .any)) fun u15 => k (u0, u2, u6, u7, u9, u10, u11, u12, u14, u15)
  | (.exit 2) => Option.bind (V.ptrOf 0 0 (SEnv.at E 2)) fun u0 => Option.bind (V.lstOf (SEnv.at E 5)) fun u1 => Option.bind (V.ptrOf 1 0 (SEnv.at E 8)) fun u2 => Option.bind (V.ptrOf 2 0 (SEnv.at E 9)) fun u3 => Option.bind (cellsN 2 sg 0) fun u4 => Option.bind (V.ownOf 0 (u4.getD 0 .any)) fun u5 => Option.bind (V.ownOf 0 (u4.getD 1 .any)) fun u6 => Option.bind (cellsN 4 sg 1) fun u7 => Option.bind (V.lstOf (u7.getD 0 .any)) fun u8 => Option.bind (V.intOf .i64 (u7.getD 1 .any)) fun u9 => Option.bind (V.boolOf (u7.getD 2 .any)) fun u10 => Option.bind (V.intOf .i64 (u7.getD 3 .any)) fun u11 => Option.bind (cellsN 2 sg 2) fun u12 => Option.bind (V.ownOf 4 (u12.getD 0 .any)) fun u13 => Option.bind (V.ownOf 1 (u12.getD 1 .any)) fun u14 => some (u1, u5, u6, u8, u9, u10, u11, u13, u14)
  | _ => none
theorem l_sutureref1_Parse_15_eq (n : Nat) (k : ByteArray × (List T) × (List T) × (List T) × (List T) × Int × Bool × Int × (List T) × (List T) → Option ((List T) × (List T) × (List T) × (List T) × Int × Bool × Int × (List T) × (List T))) (s0 : ByteArray) (s1 : List T) (s2 : List T) (s3 : List T) (s4 : List T) (s5 : Int) (s6 : Bool) (s7 : Int) (s8 : List T) (s9 : List T) : mX Try.prog (sp_sutureref1_Parse n) 179 code_l_sutureref1_Parse_15 [(0, (V.t (T.sc (.string s0)))), (2, (V.ptr 0 0)), (5, (V.t (T.list s1))), (8, (V.ptr 1 0)), (9, (V.ptr 2 0))] [some [(V.own 0 s2), (V.own 0 s3)], some [(V.t (T.list s4)), (V.t (T.sc (.int .i64 s5))), (V.t (T.sc (.bool s6))), (V.t (T.sc (.int .i64 s7)))], some [(V.own 4 s8), (V.own 1 s9)]] (l_sutureref1_Parse_15_K k) = l_sutureref1_Parse_15_B n k (s0, s1, s2, s3, s4, s5, s6, s7, s8, s9) := by kernel_rfl
def l_sutureref1_Parse_15_Q (x : (List T) × (List T) × (List T) × (List T) × Int × Bool × Int × (List T) × (List T)) (ex : Ex) (e : Env) (s : Sig) : Prop := (fun p0 => (ex = (.exit 2) ∧ e = SEnv.env 179 [(2, (V.ptr 0 0)), (5, (V.t (T.list p0.1))), (8, (V.ptr 1 0)), (9, (V.ptr 2 0))] ∧ s = [some [(V.own 0 p0.2.1), (V.own 0 p0.2.2.1)], some [(V.t (T.list p0.2.2.2.1)), (V.t (T.sc (.int .i64 p0.2.2.2.2.1))), (V.t (T.sc (.bool p0.2.2.2.2.2.1))), (V.t (T.sc (.int .i64 p0.2.2.2.2.2.2.1)))], some [(V.own 4 p0.2.2.2.2.2.2.2.1), (V.own 1 p0.2.2.2.2.2.2.2.2)]])) x
theorem l_sutureref1_Parse_15_run (n : Nat) : ∀ (m : Nat) (s0 : ByteArray) (s1 : List T) (s2 : List T) (s3 : List T) (s4 : List T) (s5 : Int) (s6 : Bool) (s7 : Int) (s8 : List T) (s9 : List T) (x : (List T) × (List T) × (List T) × (List T) × Int × Bool × Int × (List T) × (List T)), l_sutureref1_Parse_15 n m (s0, s1, s2, s3, s4, s5, s6, s7, s8, s9) = some x → SemL Try.prog 0 code_l_sutureref1_Parse_15 (SEnv.env 179 [(0, (V.t (T.sc (.string s0)))), (2, (V.ptr 0 0)), (5, (V.t (T.list s1))), (8, (V.ptr 1 0)), (9, (V.ptr 2 0))]) [some [(V.own 0 s2), (V.own 0 s3)], some [(V.t (T.list s4)), (V.t (T.sc (.int .i64 s5))), (V.t (T.sc (.bool s6))), (V.t (T.sc (.int .i64 s7)))], some [(V.own 4 s8), (V.own 1 s9)]] (l_sutureref1_Parse_15_Q x)
  | 0, s0, s1, s2, s3, s4, s5, s6, s7, s8, s9, x, h => by cases h
  | m + 1, s0, s1, s2, s3, s4, s5, s6, s7, s8, s9, x, h => by
    refine loop_step (sp_sutureref1_Parse_ok n) code_l_sutureref1_Parse_15_ok (fun a ha => absurd ha (by rw [show loopsOf code_l_sutureref1_Parse_15 = [] from by kernel_rfl]; simp)) (no_scope (by kernel_rfl)) ((l_sutureref1_Parse_15_eq n _ s0 s1 s2 s3 s4 s5 s6 s7 s8 s9).trans h) (fun E sg h => ?_) (fun ex E sg hne h => ?_)
    · simp only [l_sutureref1_Parse_15_K] at h
      obtain ⟨u0, hu0, h⟩ := Option.bind_eq_some_iff.1 h
      obtain ⟨u1, hu1, h⟩ := Option.bind_eq_some_iff.1 h
      obtain ⟨u2, hu2, h⟩ := Option.bind_eq_some_iff.1 h
      obtain ⟨u3, hu3, h⟩ := Option.bind_eq_some_iff.1 h
      obtain ⟨u4, hu4, h⟩ := Option.bind_eq_some_iff.1 h
      obtain ⟨u5, hu5, h⟩ := Option.bind_eq_some_iff.1 h
      obtain ⟨u6, hu6, h⟩ := Option.bind_eq_some_iff.1 h
      obtain ⟨u7, hu7, h⟩ := Option.bind_eq_some_iff.1 h
      obtain ⟨u8, hu8, h⟩ := Option.bind_eq_some_iff.1 h
      obtain ⟨u9, hu9, h⟩ := Option.bind_eq_some_iff.1 h
      obtain ⟨u10, hu10, h⟩ := Option.bind_eq_some_iff.1 h
      obtain ⟨u11, hu11, h⟩ := Option.bind_eq_some_iff.1 h
      obtain ⟨u12, hu12, h⟩ := Option.bind_eq_some_iff.1 h
      obtain ⟨u13, hu13, h⟩ := Option.bind_eq_some_iff.1 h
      obtain ⟨u14, hu14, h⟩ := Option.bind_eq_some_iff.1 h
      obtain ⟨u15, hu15, h⟩ := Option.bind_eq_some_iff.1 h
      exact SemL.pre (k := 3) (by decide) (WkA.env (WkA.cons (strOf_wk hu0) rfl (WkA.cons (ptrOf_wk hu1) rfl (WkA.cons (lstOf_wk hu2) rfl (WkA.cons (ptrOf_wk hu3) rfl (WkA.cons (ptrOf_wk hu4) rfl WkA.nil))))) 179) (wkR_sig (WkR.cons (cellsN_wk hu5 (.cons (ownOf_wk hu6) (.cons (ownOf_wk hu7) .nil))).1 (cellsN_wk hu5 (.cons (ownOf_wk hu6) (.cons (ownOf_wk hu7) .nil))).2 (renL_mem (.cons rfl (.cons rfl .nil))) (WkR.cons (cellsN_wk hu8 (.cons (lstOf_wk hu9) (.cons (intOf_wk hu10) (.cons (boolOf_wk hu11) (.cons (intOf_wk hu12) .nil))))).1 (cellsN_wk hu8 (.cons (lstOf_wk hu9) (.cons (intOf_wk hu10) (.cons (boolOf_wk hu11) (.cons (intOf_wk hu12) .nil))))).2 (renL_mem (.cons rfl (.cons rfl (.cons rfl (.cons rfl .nil))))) (WkR.cons (cellsN_wk hu13 (.cons (ownOf_wk hu14) (.cons (ownOf_wk hu15) .nil))).1 (cellsN_wk hu13 (.cons (ownOf_wk hu14) (.cons (ownOf_wk hu15) .nil))).2 (renL_mem (.cons rfl (.cons rfl .nil))) (WkR.nil _)))) rfl) (l_sutureref1_Parse_15_run n m _ _ _ _ _ _ _ _ _ _ x h)
    · unfold l_sutureref1_Parse_15_K at h
      split at h
      · exact absurd rfl hne
      · obtain ⟨u0, hu0, h⟩ := Option.bind_eq_some_iff.1 h
        obtain ⟨u1, hu1, h⟩ := Option.bind_eq_some_iff.1 h
        obtain ⟨u2, hu2, h⟩ := Option.bind_eq_some_iff.1 h
        obtain ⟨u3, hu3, h⟩ := Option.bind_eq_some_iff.1 h
        obtain ⟨u4, hu4, h⟩ := Option.bind_eq_some_iff.1 h
        obtain ⟨u5, hu5, h⟩ := Option.bind_eq_some_iff.1 h
        obtain ⟨u6, hu6, h⟩ := Option.bind_eq_some_iff.1 h
        obtain ⟨u7, hu7, h⟩ := Option.bind_eq_some_iff.1 h
        obtain ⟨u8, hu8, h⟩ := Option.bind_eq_some_iff.1 h
        obtain ⟨u9, hu9, h⟩ := Option.bind_eq_some_iff.1 h
        obtain ⟨u10, hu10, h⟩ := Option.bind_eq_some_iff.1 h
        obtain ⟨u11, hu11, h⟩ := Option.bind_eq_some_iff.1 h
        obtain ⟨u12, hu12, h⟩ := Option.bind_eq_some_iff.1 h
        obtain ⟨u13, hu13, h⟩ := Option.bind_eq_some_iff.1 h
        obtain ⟨u14, hu14, h⟩ := Option.bind_eq_some_iff.1 h
        simp only [Option.some.injEq] at h
        subst h
        exact ⟨3, _, _, by decide, WkA.env (WkA.cons (ptrOf_wk hu0) rfl (WkA.cons (lstOf_wk hu1) rfl (WkA.cons (ptrOf_wk hu2) rfl (WkA.cons (ptrOf_wk hu3) rfl WkA.nil)))) 179, (wkR_sig (WkR.cons (cellsN_wk hu4 (.cons (ownOf_wk hu5) (.cons (ownOf_wk hu6) .nil))).1 (cellsN_wk hu4 (.cons (ownOf_wk hu5) (.cons (ownOf_wk hu6) .nil))).2 (renL_mem (.cons rfl (.cons rfl .nil))) (WkR.cons (cellsN_wk hu7 (.cons (lstOf_wk hu8) (.cons (intOf_wk hu9) (.cons (boolOf_wk hu10) (.cons (intOf_wk hu11) .nil))))).1 (cellsN_wk hu7 (.cons (lstOf_wk hu8) (.cons (intOf_wk hu9) (.cons (boolOf_wk hu10) (.cons (intOf_wk hu11) .nil))))).2 (renL_mem (.cons rfl (.cons rfl (.cons rfl (.cons rfl .nil))))) (WkR.cons (cellsN_wk hu12 (.cons (ownOf_wk hu13) (.cons (ownOf_wk hu14) .nil))).1 (cellsN_wk hu12 (.cons (ownOf_wk hu13) (.cons (ownOf_wk hu14) .nil))).2 (renL_mem (.cons rfl (.cons rfl .nil))) (WkR.nil _)))) rfl), rfl, rfl, rfl⟩
      · cases h
theorem l_sutureref1_Parse_15_ok (n : Nat) : LoopOk Try.prog (sp_sutureref1_Parse n) 0 179 code_l_sutureref1_Parse_15 := by
    intro R key E sg K r hk h
    rw [show Go.Eng.keyOf code_l_sutureref1_Parse_15 = some 15 from by kernel_rfl] at hk
    cases hk
    have h : l_sutureref1_Parse_15_S n R E sg K = some r := h
    unfold l_sutureref1_Parse_15_S at h
    obtain ⟨u0, hu0, h⟩ := Option.bind_eq_some_iff.1 h
    obtain ⟨u1, hu1, h⟩ := Option.bind_eq_some_iff.1 h
    obtain ⟨u2, hu2, h⟩ := Option.bind_eq_some_iff.1 h
    obtain ⟨u3, hu3, h⟩ := Option.bind_eq_some_iff.1 h
    obtain ⟨u4, hu4, h⟩ := Option.bind_eq_some_iff.1 h
    obtain ⟨u5, hu5, h⟩ := Option.bind_eq_some_iff.1 h
    obtain ⟨u6, hu6, h⟩ := Option.bind_eq_some_iff.1 h
    obtain ⟨u7, hu7, h⟩ := Option.bind_eq_some_iff.1 h
    obtain ⟨u8, hu8, h⟩ := Option.bind_eq_some_iff.1 h
    obtain ⟨u9, hu9, h⟩ := Option.bind_eq_some_iff.1 h
    obtain ⟨u10, hu10, h⟩ := Option.bind_eq_some_iff.1 h
    obtain ⟨u11, hu11, h⟩ := Option.bind_eq_some_iff.1 h
    obtain ⟨u12, hu12, h⟩ := Option.bind_eq_some_iff.1 h
    obtain ⟨u13, hu13, h⟩ := Option.bind_eq_some_iff.1 h
    obtain ⟨u14, hu14, h⟩ := Option.bind_eq_some_iff.1 h
    obtain ⟨u15, hu15, h⟩ := Option.bind_eq_some_iff.1 h
    obtain ⟨x, hx, h⟩ := Option.bind_eq_some_iff.1 h
    refine (SemL.pre (k := 3) (by decide) (WkA.env (WkA.cons (strOf_wk hu0) rfl (WkA.cons (ptrOf_wk hu1) rfl (WkA.cons (lstOf_wk hu2) rfl (WkA.cons (ptrOf_wk hu3) rfl (WkA.cons (ptrOf_wk hu4) rfl WkA.nil))))) 179) (wkR_sig (WkR.cons (cellsN_wk hu5 (.cons (ownOf_wk hu6) (.cons (ownOf_wk hu7) .nil))).1 (cellsN_wk hu5 (.cons (ownOf_wk hu6) (.cons (ownOf_wk hu7) .nil))).2 (renL_mem (.cons rfl (.cons rfl .nil))) (WkR.cons (cellsN_wk hu8 (.cons (lstOf_wk hu9) (.cons (intOf_wk hu10) (.cons (boolOf_wk hu11) (.cons (intOf_wk hu12) .nil))))).1 (cellsN_wk hu8 (.cons (lstOf_wk hu9) (.cons (intOf_wk hu10) (.cons (boolOf_wk hu11) (.cons (intOf_wk hu12) .nil))))).2 (renL_mem (.cons rfl (.cons rfl (.cons rfl (.cons rfl .nil))))) (WkR.cons (cellsN_wk hu13 (.cons (ownOf_wk hu14) (.cons (ownOf_wk hu15) .nil))).1 (cellsN_wk hu13 (.cons (ownOf_wk hu14) (.cons (ownOf_wk hu15) .nil))).2 (renL_mem (.cons rfl (.cons rfl .nil))) (WkR.nil _)))) rfl) (l_sutureref1_Parse_15_run n n _ _ _ _ _ _ _ _ _ _ x hx)).mono ?_
    intro ex e s hq
    obtain ⟨rfl, rfl, rfl⟩ := hq
    exact ⟨_, rfl, h⟩
def K_sutureref1_Parse (v : V) (s : Sig) : Option ((List T) × (List T) × Int × Int) := Option.bind (V.tupN 3 v) fun u0 => Option.bind (V.aggN 2 (u0.getD 0 .any)) fun u1 => Option.bind (V.lstOf (u1.getD 0 .any)) fun u2 => Option.bind (V.lstOf (u1.getD 1 .any)) fun u3 => Option.bind (V.intOf .i64 (u0.getD 1 .any)) fun u4 => Option.bind (V.intOf .i64 (u0.getD 2 .any)) fun u5 => some (u2, u3, u4, u5)
theorem K_sutureref1_Parse_wk {v : V} {s : Sig} {r : (List T) × (List T) × Int × Int} (h : K_sutureref1_Parse v s = some r) : Wk v (enc_sutureref1_Parse r) ∧ WkS 0 s (encS_sutureref1_Parse r) := by
  unfold K_sutureref1_Parse at h
  obtain ⟨u0, hu0, h⟩ := Option.bind_eq_some_iff.1 h
  obtain ⟨u1, hu1, h⟩ := Option.bind_eq_some_iff.1 h
  obtain ⟨u2, hu2, h⟩ := Option.bind_eq_some_iff.1 h
  obtain ⟨u3, hu3, h⟩ := Option.bind_eq_some_iff.1 h
  obtain ⟨u4, hu4, h⟩ := Option.bind_eq_some_iff.1 h
  obtain ⟨u5, hu5, h⟩ := Option.bind_eq_some_iff.1 h
  simp only [Option.some.injEq] at h
  subst h
  exact ⟨(tupN_wk hu0 (.cons (aggN_wk hu1 (.cons (lstOf_wk hu2) (.cons (lstOf_wk hu3) .nil))) (.cons (intOf_wk hu4) (.cons (intOf_wk hu5) .nil)))), (WkS.none _)⟩
theorem m_sutureref1_Parse_eq (n : Nat) (a0 : ByteArray) : mF Try.prog (sp_sutureref1_Parse n) 23 [(V.t (T.sc (.string a0)))] [] K_sutureref1_Parse = m_sutureref1_Parse n a0 := by kernel_rfl
theorem m_sutureref1_Parse_ok (n : Nat) : ok_sutureref1_Parse (m_sutureref1_Parse n) := fun a0 r h => mF_ok sound (sp_sutureref1_Parse_ok n) code_sutureref1_Parse_fn code_sutureref1_Parse_body (forall_getD (d := .skip) 2 (by kernel_rfl) (fun i hi => match i, hi with | 0, _ => l_sutureref1_Parse_6_ok n | 1, _ => l_sutureref1_Parse_15_ok n | i + 2, hi => absurd hi (by omega))) (no_scope (by kernel_rfl)) ((m_sutureref1_Parse_eq n a0).trans h) (fun v s hk => ⟨(K_sutureref1_Parse_wk hk).1, rfl, (K_sutureref1_Parse_wk hk).2⟩)


/-! suture/suturelaw9.read -/
def m_suturelaw9_read (n : Nat) (a0 : ByteArray) : Option ((List T) × (List T)) :=
Option.bind (m_sutureref1_Parse n a0) fun r0 =>
some (r0.1, r0.2.1)
def enc_suturelaw9_read (r : (List T) × (List T)) : V := (V.agg [(V.t (T.list r.1)), (V.t (T.list r.2))])
def encS_suturelaw9_read (r : (List T) × (List T)) : Sig := []
def ok_suturelaw9_read (m : ByteArray → Option ((List T) × (List T))) : Prop := ∀ (a0 : ByteArray) (r : (List T) × (List T)), m a0 = some r → FuncOk Try.prog 8 [(V.t (T.sc (.string a0)))] [] (enc_suturelaw9_read r) (encS_suturelaw9_read r)
def c_suturelaw9_read (m : ByteArray → Option ((List T) × (List T))) (vs : List V) (sg : Sig) : Option CallM := bif Nat.beq vs.length 1 && Nat.beq sg.length 0 then Option.bind (V.strOf (vs.getD 0 .any)) fun u0 => some { α := (List T) × (List T), m := m u0, dflt := ([], []), enc := fun y => ((V.agg [(V.t (T.list y.1)), (V.t (T.list y.2))]), []) } else none
theorem c_suturelaw9_read_ok (m : ByteArray → Option ((List T) × (List T))) (hm : ok_suturelaw9_read m) (vs : List V) (sg : Sig) (cm : CallM) (x : cm.α) (h : c_suturelaw9_read m vs sg = some cm) (hx : cm.m = some x) : FuncOk Try.prog 8 vs sg (cm.enc x).1 (cm.enc x).2 := by
  unfold c_suturelaw9_read at h
  have h0 := callee_sig h
  clear h
  obtain ⟨hl, hs, h⟩ := h0
  obtain ⟨u0, hu0, h⟩ := Option.bind_eq_some_iff.1 h
  simp only [Option.some.injEq] at h
  subst h
  exact (hm u0 x hx).wk (args_wk hl (.cons (strOf_wk hu0) .nil)) (wkSg_of hs .nil)
noncomputable def code_suturelaw9_read : Code := Try.f8.body.getD .skip
noncomputable def sp_suturelaw9_read (n : Nat) : Go.Eng.Spec := ⟨fun f vs sg => (match f with
    | 23 => c_sutureref1_Parse (m_sutureref1_Parse n) vs sg
    | _ => none), fun R key E sg K => (match key with
    | _ => none)⟩
theorem sp_suturelaw9_read_ok (n : Nat) : CallsOk Try.prog (sp_suturelaw9_read n) := by
  intro f vs sg cm x h hx
  simp only [sp_suturelaw9_read] at h
  split at h
  · exact c_sutureref1_Parse_ok _ (m_sutureref1_Parse_ok n) vs sg cm x h hx
  · cases h
theorem code_suturelaw9_read_fn : Try.prog.funcs[8]? = some Try.f8 := Try.func8
theorem code_suturelaw9_read_body : Try.f8.body = some code_suturelaw9_read := by kernel_rfl
theorem code_suturelaw9_read_ok : CodeOk Try.prog code_suturelaw9_read := (sound 8 _ _ code_suturelaw9_read_fn code_suturelaw9_read_body).1
def K_suturelaw9_read (v : V) (s : Sig) : Option ((List T) × (List T)) := Option.bind (V.aggN 2 v) fun u0 => Option.bind (V.lstOf (u0.getD 0 .any)) fun u1 => Option.bind (V.lstOf (u0.getD 1 .any)) fun u2 => some (u1, u2)
theorem K_suturelaw9_read_wk {v : V} {s : Sig} {r : (List T) × (List T)} (h : K_suturelaw9_read v s = some r) : Wk v (enc_suturelaw9_read r) ∧ WkS 0 s (encS_suturelaw9_read r) := by
  unfold K_suturelaw9_read at h
  obtain ⟨u0, hu0, h⟩ := Option.bind_eq_some_iff.1 h
  obtain ⟨u1, hu1, h⟩ := Option.bind_eq_some_iff.1 h
  obtain ⟨u2, hu2, h⟩ := Option.bind_eq_some_iff.1 h
  simp only [Option.some.injEq] at h
  subst h
  exact ⟨(aggN_wk hu0 (.cons (lstOf_wk hu1) (.cons (lstOf_wk hu2) .nil))), (WkS.none _)⟩
theorem m_suturelaw9_read_eq (n : Nat) (a0 : ByteArray) : mF Try.prog (sp_suturelaw9_read n) 8 [(V.t (T.sc (.string a0)))] [] K_suturelaw9_read = m_suturelaw9_read n a0 := by kernel_rfl
theorem m_suturelaw9_read_ok (n : Nat) : ok_suturelaw9_read (m_suturelaw9_read n) := fun a0 r h => mF_ok sound (sp_suturelaw9_read_ok n) code_suturelaw9_read_fn code_suturelaw9_read_body (fun a ha => absurd ha (by rw [show loopsOf code_suturelaw9_read = [] from by kernel_rfl]; simp)) (no_scope (by kernel_rfl)) ((m_suturelaw9_read_eq n a0).trans h) (fun v s hk => ⟨(K_suturelaw9_read_wk hk).1, rfl, (K_suturelaw9_read_wk hk).2⟩)


/-! suture/suturelaw9.deep -/
def l_suturelaw9_deep_4_B (n : Nat) (k : ByteArray × Int × (List T) × Int × Int × (List T) × (List T) → Option (ByteArray × Int × (List T) × (List T))) : ByteArray × Int × (List T) × Int × Int × (List T) × (List T) → Option (ByteArray × Int × (List T) × (List T)) := fun (s0, s1, s2, s3, s4, s5, s6) =>
bif (decide ((s4 : Int) < s3)) then (
Option.bind (idx true [.int .i64] s2 s4) fun y0 =>
Option.bind (m_suturehand_Pick n (y0.cell 0).int 10) fun r1 =>
bif (decide ((r1 : Int) < 3)) then (
must true (decide (((ByteArray.size s0 + ByteArray.size (⟨#[32, 103, 111, 116, 111, 32]⟩ : ByteArray) : Nat) : Int) ≤ IntKind.i64.max)) (must true (!decide (10 = 0)) (Option.bind (m_suturehand_Pick n (IntKind.wrap .i64 (Int.tdiv (y0.cell 0).int 10)) 3) fun r2 =>
Option.bind (idx1 true (.str) [(T.sc (.string (⟨#[97]⟩ : ByteArray))), (T.sc (.string (⟨#[98]⟩ : ByteArray))), (T.sc (.string (⟨#[101]⟩ : ByteArray)))] r2) fun y3 =>
must true (decide (((ByteArray.size (s0 ++ (⟨#[32, 103, 111, 116, 111, 32]⟩ : ByteArray)) + ByteArray.size y3.str : Nat) : Int) ≤ IntKind.i64.max)) (k (((s0 ++ (⟨#[32, 103, 111, 116, 111, 32]⟩ : ByteArray)) ++ y3.str), s1, s2, s3, (IntKind.wrap .i64 (s4 + 1)), s5, s6)))))
else (
bif (decide ((r1 : Int) < 6)) then (
must true (decide (((ByteArray.size s0 + ByteArray.size (⟨#[32, 108, 97, 98, 101, 108, 32]⟩ : ByteArray) : Nat) : Int) ≤ IntKind.i64.max)) (must true (!decide (10 = 0)) (Option.bind (m_suturehand_Pick n (IntKind.wrap .i64 (Int.tdiv (y0.cell 0).int 10)) 3) fun r4 =>
Option.bind (idx1 true (.str) [(T.sc (.string (⟨#[97]⟩ : ByteArray))), (T.sc (.string (⟨#[98]⟩ : ByteArray))), (T.sc (.string (⟨#[101]⟩ : ByteArray)))] r4) fun y5 =>
must true (decide (((ByteArray.size (s0 ++ (⟨#[32, 108, 97, 98, 101, 108, 32]⟩ : ByteArray)) + ByteArray.size y5.str : Nat) : Int) ≤ IntKind.i64.max)) (k (((s0 ++ (⟨#[32, 108, 97, 98, 101, 108, 32]⟩ : ByteArray)) ++ y5.str), s1, s2, s3, (IntKind.wrap .i64 (s4 + 1)), s5, s6)))))
else (
bif (decide ((r1 : Int) < 8)) then (
bif (decide ((s1 : Int) < 5)) then (
must true (!decide (10 = 0)) (Option.bind (m_suturehand_Pick n (IntKind.wrap .i64 (Int.tdiv (y0.cell 0).int 10)) 2) fun r6 =>
Option.bind (idx1 true (.str) [(T.sc (.string (⟨#[32, 105, 102, 32, 49, 32, 123]⟩ : ByteArray))), (T.sc (.string (⟨#[32, 114, 101, 112, 101, 97, 116, 32, 50, 32, 123]⟩ : ByteArray)))] r6) fun y7 =>
must true (decide (((ByteArray.size s0 + ByteArray.size y7.str : Nat) : Int) ≤ IntKind.i64.max)) (k ((s0 ++ y7.str), (IntKind.wrap .i64 (s1 + 1)), s2, s3, (IntKind.wrap .i64 (s4 + 1)), s5, s6))))
else (
k (s0, s1, s2, s3, (IntKind.wrap .i64 (s4 + 1)), s5, s6)))
else (
bif ((r1 : Int) == 8) then (
bif (decide ((s1 : Int) > 0)) then (
must true (decide (((ByteArray.size s0 + ByteArray.size (⟨#[125]⟩ : ByteArray) : Nat) : Int) ≤ IntKind.i64.max)) (k ((s0 ++ (⟨#[125]⟩ : ByteArray)), (IntKind.wrap .i64 (s1 - 1)), s2, s3, (IntKind.wrap .i64 (s4 + 1)), s5, s6)))
else (
k (s0, s1, s2, s3, (IntKind.wrap .i64 (s4 + 1)), s5, s6)))
else (
bif ((s1 : Int) == 0) then (
must true (decide (((ByteArray.size s0 + ByteArray.size (⟨#[125, 32, 103, 111, 32, 123]⟩ : ByteArray) : Nat) : Int) ≤ IntKind.i64.max)) (k ((s0 ++ (⟨#[125, 32, 103, 111, 32, 123]⟩ : ByteArray)), s1, s2, s3, (IntKind.wrap .i64 (s4 + 1)), s5, s6)))
else (
k (s0, s1, s2, s3, (IntKind.wrap .i64 (s4 + 1)), s5, s6)))))))
else (
some (s0, s1, s5, s6))
def l_suturelaw9_deep_4 (n : Nat) : Nat → ByteArray × Int × (List T) × Int × Int × (List T) × (List T) → Option (ByteArray × Int × (List T) × (List T))
  | 0, _ => none
  | m + 1, s => l_suturelaw9_deep_4_B n (l_suturelaw9_deep_4 n m) s
def l_suturelaw9_deep_22_B (n : Nat) (k : ByteArray × Int × (List T) × (List T) → Option (ByteArray × (List T) × (List T))) : ByteArray × Int × (List T) × (List T) → Option (ByteArray × (List T) × (List T)) := fun (s0, s1, s2, s3) =>
bif (decide ((s1 : Int) ≥ 0)) then (
must true (decide (((ByteArray.size s0 + ByteArray.size (⟨#[125]⟩ : ByteArray) : Nat) : Int) ≤ IntKind.i64.max)) (k ((s0 ++ (⟨#[125]⟩ : ByteArray)), (IntKind.wrap .i64 (s1 - 1)), s2, s3)))
else (
some (s0, s2, s3))
def l_suturelaw9_deep_22 (n : Nat) : Nat → ByteArray × Int × (List T) × (List T) → Option (ByteArray × (List T) × (List T))
  | 0, _ => none
  | m + 1, s => l_suturelaw9_deep_22_B n (l_suturelaw9_deep_22 n m) s
def m_suturelaw9_deep (n : Nat) (a0 : List T) : Option ((List T) × (List T)) :=
Option.bind (l_suturelaw9_deep_4 n n ((⟨#[103, 111, 123]⟩ : ByteArray), 0, a0, ((List.length a0 : Nat) : Int), 0, ([] : List T), ([] : List T))) fun p9 =>
Option.bind (l_suturelaw9_deep_22 n n (p9.1, p9.2.1, p9.2.2.1, p9.2.2.2)) fun p11 =>
Option.bind (m_suturelaw9_read n p11.1) fun r12 =>
some (r12.1, r12.2)
def enc_suturelaw9_deep (r : (List T) × (List T)) : V := (V.agg [(V.t (T.list r.1)), (V.t (T.list r.2))])
def encS_suturelaw9_deep (r : (List T) × (List T)) : Sig := []
def ok_suturelaw9_deep (m : List T → Option ((List T) × (List T))) : Prop := ∀ (a0 : List T) (r : (List T) × (List T)), m a0 = some r → FuncOk Try.prog 12 [(V.t (T.list a0))] [] (enc_suturelaw9_deep r) (encS_suturelaw9_deep r)
def c_suturelaw9_deep (m : List T → Option ((List T) × (List T))) (vs : List V) (sg : Sig) : Option CallM := bif Nat.beq vs.length 1 && Nat.beq sg.length 0 then Option.bind (V.lstOf (vs.getD 0 .any)) fun u0 => some { α := (List T) × (List T), m := m u0, dflt := ([], []), enc := fun y => ((V.agg [(V.t (T.list y.1)), (V.t (T.list y.2))]), []) } else none
theorem c_suturelaw9_deep_ok (m : List T → Option ((List T) × (List T))) (hm : ok_suturelaw9_deep m) (vs : List V) (sg : Sig) (cm : CallM) (x : cm.α) (h : c_suturelaw9_deep m vs sg = some cm) (hx : cm.m = some x) : FuncOk Try.prog 12 vs sg (cm.enc x).1 (cm.enc x).2 := by
  unfold c_suturelaw9_deep at h
  have h0 := callee_sig h
  clear h
  obtain ⟨hl, hs, h⟩ := h0
  obtain ⟨u0, hu0, h⟩ := Option.bind_eq_some_iff.1 h
  simp only [Option.some.injEq] at h
  subst h
  exact (hm u0 x hx).wk (args_wk hl (.cons (lstOf_wk hu0) .nil)) (wkSg_of hs .nil)
noncomputable def code_suturelaw9_deep : Code := Try.f12.body.getD .skip
def l_suturelaw9_deep_4_S (n : Nat) (R : Type) (E : SEnv) (sg : Sig) (K : Ex → SEnv → Sig → Option R) : Option R := Option.bind (V.ptrOf 0 0 (SEnv.at E 2)) fun u0 => Option.bind (V.strOf (SEnv.at E 3)) fun u1 => Option.bind (V.intOf .i64 (SEnv.at E 4)) fun u2 => Option.bind (V.lstOf (SEnv.at E 8)) fun u3 => Option.bind (V.intOf .i64 (SEnv.at E 9)) fun u4 => Option.bind (V.intOf .i64 (SEnv.at E 10)) fun u5 => Option.bind (cellsN 2 sg 0) fun u6 => Option.bind (V.ownOf 0 (u6.getD 0 .any)) fun u7 => Option.bind (V.ownOf 0 (u6.getD 1 .any)) fun u8 => Option.bind (l_suturelaw9_deep_4 n n (u1, u2, u3, u4, u5, u7, u8)) fun p0 => K (.exit 0) [(2, (V.ptr 0 0)), (3, (V.t (T.sc (.string p0.1)))), (4, (V.t (T.sc (.int .i64 p0.2.1))))] [some [(V.own 0 p0.2.2.1), (V.own 0 p0.2.2.2)]]
def l_suturelaw9_deep_22_S (n : Nat) (R : Type) (E : SEnv) (sg : Sig) (K : Ex → SEnv → Sig → Option R) : Option R := Option.bind (V.ptrOf 0 0 (SEnv.at E 2)) fun u0 => Option.bind (V.strOf (SEnv.at E 3)) fun u1 => Option.bind (V.intOf .i64 (SEnv.at E 4)) fun u2 => Option.bind (cellsN 2 sg 0) fun u3 => Option.bind (V.ownOf 0 (u3.getD 0 .any)) fun u4 => Option.bind (V.ownOf 0 (u3.getD 1 .any)) fun u5 => Option.bind (l_suturelaw9_deep_22 n n (u1, u2, u4, u5)) fun p0 => K (.exit 3) [(2, (V.ptr 0 0)), (3, (V.t (T.sc (.string p0.1))))] [some [(V.own 0 p0.2.1), (V.own 0 p0.2.2)]]
noncomputable def sp_suturelaw9_deep (n : Nat) : Go.Eng.Spec := ⟨fun f vs sg => (match f with
    | 19 => c_suturehand_Pick (m_suturehand_Pick n) vs sg
    | 8 => c_suturelaw9_read (m_suturelaw9_read n) vs sg
    | _ => none), fun R key E sg K => (match key with
    | 4 => l_suturelaw9_deep_4_S n R E sg K
    | 22 => l_suturelaw9_deep_22_S n R E sg K
    | _ => none)⟩
theorem sp_suturelaw9_deep_ok (n : Nat) : CallsOk Try.prog (sp_suturelaw9_deep n) := by
  intro f vs sg cm x h hx
  simp only [sp_suturelaw9_deep] at h
  split at h
  · exact c_suturehand_Pick_ok _ (m_suturehand_Pick_ok n) vs sg cm x h hx
  · exact c_suturelaw9_read_ok _ (m_suturelaw9_read_ok n) vs sg cm x h hx
  · cases h
theorem code_suturelaw9_deep_fn : Try.prog.funcs[12]? = some Try.f12 := Try.func12
theorem code_suturelaw9_deep_body : Try.f12.body = some code_suturelaw9_deep := by kernel_rfl
theorem code_suturelaw9_deep_ok : CodeOk Try.prog code_suturelaw9_deep := (sound 12 _ _ code_suturelaw9_deep_fn code_suturelaw9_deep_body).1
noncomputable def code_l_suturelaw9_deep_4 : Code := (loopsOf code_suturelaw9_deep).getD 0 .skip
theorem code_l_suturelaw9_deep_4_ok : CodeOk Try.prog code_l_suturelaw9_deep_4 := codeOk_loops code_suturelaw9_deep_ok _ (getD_mem (by kernel_rfl))
def l_suturelaw9_deep_4_K (k : ByteArray × Int × (List T) × Int × Int × (List T) × (List T) → Option (ByteArray × Int × (List T) × (List T))) : Ex → SEnv → Sig → Option (ByteArray × Int × (List T) × (List T)) := fun x E sg => match x with
  | .normal => Option.bind (V.ptrOf 0 0 (SEnv.at E 2)) fun u0 => Option.bind (V.strOf (SEnv.at E 3)) fun u1 => Option.bind (V.intOf .i64 (SEnv.at E 4)) fun u2 => Option.bind (V.lstOf (SEnv.at E 8)) fun u3 => Option.bind (V.intOf .i64 (SEnv.at E 9)) fun u4 => Option.bind (V.intOf .i64 (SEnv.at E 10)) fun u5 => Option.bind (cellsN 2 sg 0) fun u6 => Option.bind (V.ownOf 0 (u6.getD 0 .any)) fun u7 => Option.bind (V.ownOf 0 (u6.getD 1 .any)) fun u8 => k (u1, u2, u3, u4, u5, u7, u8)
  | (.exit 0) => Option.bind (V.ptrOf 0 0 (SEnv.at E 2)) fun u0 => Option.bind (V.strOf (SEnv.at E 3)) fun u1 => Option.bind (V.intOf .i64 (SEnv.at E 4)) fun u2 => Option.bind (cellsN 2 sg 0) fun u3 => Option.bind (V.ownOf 0 (u3.getD 0 .any)) fun u4 => Option.bind (V.ownOf 0 (u3.getD 1 .any)) fun u5 => some (u1, u2, u4, u5)
  | _ => none
theorem l_suturelaw9_deep_4_eq (n : Nat) (k : ByteArray × Int × (List T) × Int × Int × (List T) × (List T) → Option (ByteArray × Int × (List T) × (List T))) (s0 : ByteArray) (s1 : Int) (s2 : List T) (s3 : Int) (s4 : Int) (s5 : List T) (s6 : List T) : mX Try.prog (sp_suturelaw9_deep n) 74 code_l_suturelaw9_deep_4 [(2, (V.ptr 0 0)), (3, (V.t (T.sc (.string s0)))), (4, (V.t (T.sc (.int .i64 s1)))), (8, (V.t (T.list s2))), (9, (V.t (T.sc (.int .i64 s3)))), (10, (V.t (T.sc (.int .i64 s4))))] [some [(V.own 0 s5), (V.own 0 s6)]] (l_suturelaw9_deep_4_K k) = l_suturelaw9_deep_4_B n k (s0, s1, s2, s3, s4, s5, s6) := by kernel_rfl
def l_suturelaw9_deep_4_Q (x : ByteArray × Int × (List T) × (List T)) (ex : Ex) (e : Env) (s : Sig) : Prop := (fun p0 => (ex = (.exit 0) ∧ e = SEnv.env 74 [(2, (V.ptr 0 0)), (3, (V.t (T.sc (.string p0.1)))), (4, (V.t (T.sc (.int .i64 p0.2.1))))] ∧ s = [some [(V.own 0 p0.2.2.1), (V.own 0 p0.2.2.2)]])) x
theorem l_suturelaw9_deep_4_run (n : Nat) : ∀ (m : Nat) (s0 : ByteArray) (s1 : Int) (s2 : List T) (s3 : Int) (s4 : Int) (s5 : List T) (s6 : List T) (x : ByteArray × Int × (List T) × (List T)), l_suturelaw9_deep_4 n m (s0, s1, s2, s3, s4, s5, s6) = some x → SemL Try.prog 0 code_l_suturelaw9_deep_4 (SEnv.env 74 [(2, (V.ptr 0 0)), (3, (V.t (T.sc (.string s0)))), (4, (V.t (T.sc (.int .i64 s1)))), (8, (V.t (T.list s2))), (9, (V.t (T.sc (.int .i64 s3)))), (10, (V.t (T.sc (.int .i64 s4))))]) [some [(V.own 0 s5), (V.own 0 s6)]] (l_suturelaw9_deep_4_Q x)
  | 0, s0, s1, s2, s3, s4, s5, s6, x, h => by cases h
  | m + 1, s0, s1, s2, s3, s4, s5, s6, x, h => by
    refine loop_step (sp_suturelaw9_deep_ok n) code_l_suturelaw9_deep_4_ok (fun a ha => absurd ha (by rw [show loopsOf code_l_suturelaw9_deep_4 = [] from by kernel_rfl]; simp)) (no_scope (by kernel_rfl)) ((l_suturelaw9_deep_4_eq n _ s0 s1 s2 s3 s4 s5 s6).trans h) (fun E sg h => ?_) (fun ex E sg hne h => ?_)
    · simp only [l_suturelaw9_deep_4_K] at h
      obtain ⟨u0, hu0, h⟩ := Option.bind_eq_some_iff.1 h
      obtain ⟨u1, hu1, h⟩ := Option.bind_eq_some_iff.1 h
      obtain ⟨u2, hu2, h⟩ := Option.bind_eq_some_iff.1 h
      obtain ⟨u3, hu3, h⟩ := Option.bind_eq_some_iff.1 h
      obtain ⟨u4, hu4, h⟩ := Option.bind_eq_some_iff.1 h
      obtain ⟨u5, hu5, h⟩ := Option.bind_eq_some_iff.1 h
      obtain ⟨u6, hu6, h⟩ := Option.bind_eq_some_iff.1 h
      obtain ⟨u7, hu7, h⟩ := Option.bind_eq_some_iff.1 h
      obtain ⟨u8, hu8, h⟩ := Option.bind_eq_some_iff.1 h
      exact SemL.pre (k := 1) (by decide) (WkA.env (WkA.cons (ptrOf_wk hu0) rfl (WkA.cons (strOf_wk hu1) rfl (WkA.cons (intOf_wk hu2) rfl (WkA.cons (lstOf_wk hu3) rfl (WkA.cons (intOf_wk hu4) rfl (WkA.cons (intOf_wk hu5) rfl WkA.nil)))))) 74) (wkR_sig (WkR.cons (cellsN_wk hu6 (.cons (ownOf_wk hu7) (.cons (ownOf_wk hu8) .nil))).1 (cellsN_wk hu6 (.cons (ownOf_wk hu7) (.cons (ownOf_wk hu8) .nil))).2 (renL_mem (.cons rfl (.cons rfl .nil))) (WkR.nil _)) rfl) (l_suturelaw9_deep_4_run n m _ _ _ _ _ _ _ x h)
    · unfold l_suturelaw9_deep_4_K at h
      split at h
      · exact absurd rfl hne
      · obtain ⟨u0, hu0, h⟩ := Option.bind_eq_some_iff.1 h
        obtain ⟨u1, hu1, h⟩ := Option.bind_eq_some_iff.1 h
        obtain ⟨u2, hu2, h⟩ := Option.bind_eq_some_iff.1 h
        obtain ⟨u3, hu3, h⟩ := Option.bind_eq_some_iff.1 h
        obtain ⟨u4, hu4, h⟩ := Option.bind_eq_some_iff.1 h
        obtain ⟨u5, hu5, h⟩ := Option.bind_eq_some_iff.1 h
        simp only [Option.some.injEq] at h
        subst h
        exact ⟨1, _, _, by decide, WkA.env (WkA.cons (ptrOf_wk hu0) rfl (WkA.cons (strOf_wk hu1) rfl (WkA.cons (intOf_wk hu2) rfl WkA.nil))) 74, (wkR_sig (WkR.cons (cellsN_wk hu3 (.cons (ownOf_wk hu4) (.cons (ownOf_wk hu5) .nil))).1 (cellsN_wk hu3 (.cons (ownOf_wk hu4) (.cons (ownOf_wk hu5) .nil))).2 (renL_mem (.cons rfl (.cons rfl .nil))) (WkR.nil _)) rfl), rfl, rfl, rfl⟩
      · cases h
theorem l_suturelaw9_deep_4_ok (n : Nat) : LoopOk Try.prog (sp_suturelaw9_deep n) 0 74 code_l_suturelaw9_deep_4 := by
    intro R key E sg K r hk h
    rw [show Go.Eng.keyOf code_l_suturelaw9_deep_4 = some 4 from by kernel_rfl] at hk
    cases hk
    have h : l_suturelaw9_deep_4_S n R E sg K = some r := h
    unfold l_suturelaw9_deep_4_S at h
    obtain ⟨u0, hu0, h⟩ := Option.bind_eq_some_iff.1 h
    obtain ⟨u1, hu1, h⟩ := Option.bind_eq_some_iff.1 h
    obtain ⟨u2, hu2, h⟩ := Option.bind_eq_some_iff.1 h
    obtain ⟨u3, hu3, h⟩ := Option.bind_eq_some_iff.1 h
    obtain ⟨u4, hu4, h⟩ := Option.bind_eq_some_iff.1 h
    obtain ⟨u5, hu5, h⟩ := Option.bind_eq_some_iff.1 h
    obtain ⟨u6, hu6, h⟩ := Option.bind_eq_some_iff.1 h
    obtain ⟨u7, hu7, h⟩ := Option.bind_eq_some_iff.1 h
    obtain ⟨u8, hu8, h⟩ := Option.bind_eq_some_iff.1 h
    obtain ⟨x, hx, h⟩ := Option.bind_eq_some_iff.1 h
    refine (SemL.pre (k := 1) (by decide) (WkA.env (WkA.cons (ptrOf_wk hu0) rfl (WkA.cons (strOf_wk hu1) rfl (WkA.cons (intOf_wk hu2) rfl (WkA.cons (lstOf_wk hu3) rfl (WkA.cons (intOf_wk hu4) rfl (WkA.cons (intOf_wk hu5) rfl WkA.nil)))))) 74) (wkR_sig (WkR.cons (cellsN_wk hu6 (.cons (ownOf_wk hu7) (.cons (ownOf_wk hu8) .nil))).1 (cellsN_wk hu6 (.cons (ownOf_wk hu7) (.cons (ownOf_wk hu8) .nil))).2 (renL_mem (.cons rfl (.cons rfl .nil))) (WkR.nil _)) rfl) (l_suturelaw9_deep_4_run n n _ _ _ _ _ _ _ x hx)).mono ?_
    intro ex e s hq
    obtain ⟨rfl, rfl, rfl⟩ := hq
    exact ⟨_, rfl, h⟩
noncomputable def code_l_suturelaw9_deep_22 : Code := (loopsOf code_suturelaw9_deep).getD 1 .skip
theorem code_l_suturelaw9_deep_22_ok : CodeOk Try.prog code_l_suturelaw9_deep_22 := codeOk_loops code_suturelaw9_deep_ok _ (getD_mem (by kernel_rfl))
def l_suturelaw9_deep_22_K (k : ByteArray × Int × (List T) × (List T) → Option (ByteArray × (List T) × (List T))) : Ex → SEnv → Sig → Option (ByteArray × (List T) × (List T)) := fun x E sg => match x with
  | .normal => Option.bind (V.ptrOf 0 0 (SEnv.at E 2)) fun u0 => Option.bind (V.strOf (SEnv.at E 3)) fun u1 => Option.bind (V.intOf .i64 (SEnv.at E 4)) fun u2 => Option.bind (cellsN 2 sg 0) fun u3 => Option.bind (V.ownOf 0 (u3.getD 0 .any)) fun u4 => Option.bind (V.ownOf 0 (u3.getD 1 .any)) fun u5 => k (u1, u2, u4, u5)
  | (.exit 3) => Option.bind (V.ptrOf 0 0 (SEnv.at E 2)) fun u0 => Option.bind (V.strOf (SEnv.at E 3)) fun u1 => Option.bind (cellsN 2 sg 0) fun u2 => Option.bind (V.ownOf 0 (u2.getD 0 .any)) fun u3 => Option.bind (V.ownOf 0 (u2.getD 1 .any)) fun u4 => some (u1, u3, u4)
  | _ => none
theorem l_suturelaw9_deep_22_eq (n : Nat) (k : ByteArray × Int × (List T) × (List T) → Option (ByteArray × (List T) × (List T))) (s0 : ByteArray) (s1 : Int) (s2 : List T) (s3 : List T) : mX Try.prog (sp_suturelaw9_deep n) 74 code_l_suturelaw9_deep_22 [(2, (V.ptr 0 0)), (3, (V.t (T.sc (.string s0)))), (4, (V.t (T.sc (.int .i64 s1))))] [some [(V.own 0 s2), (V.own 0 s3)]] (l_suturelaw9_deep_22_K k) = l_suturelaw9_deep_22_B n k (s0, s1, s2, s3) := by kernel_rfl
def l_suturelaw9_deep_22_Q (x : ByteArray × (List T) × (List T)) (ex : Ex) (e : Env) (s : Sig) : Prop := (fun p0 => (ex = (.exit 3) ∧ e = SEnv.env 74 [(2, (V.ptr 0 0)), (3, (V.t (T.sc (.string p0.1))))] ∧ s = [some [(V.own 0 p0.2.1), (V.own 0 p0.2.2)]])) x
theorem l_suturelaw9_deep_22_run (n : Nat) : ∀ (m : Nat) (s0 : ByteArray) (s1 : Int) (s2 : List T) (s3 : List T) (x : ByteArray × (List T) × (List T)), l_suturelaw9_deep_22 n m (s0, s1, s2, s3) = some x → SemL Try.prog 0 code_l_suturelaw9_deep_22 (SEnv.env 74 [(2, (V.ptr 0 0)), (3, (V.t (T.sc (.string s0)))), (4, (V.t (T.sc (.int .i64 s1))))]) [some [(V.own 0 s2), (V.own 0 s3)]] (l_suturelaw9_deep_22_Q x)
  | 0, s0, s1, s2, s3, x, h => by cases h
  | m + 1, s0, s1, s2, s3, x, h => by
    refine loop_step (sp_suturelaw9_deep_ok n) code_l_suturelaw9_deep_22_ok (fun a ha => absurd ha (by rw [show loopsOf code_l_suturelaw9_deep_22 = [] from by kernel_rfl]; simp)) (no_scope (by kernel_rfl)) ((l_suturelaw9_deep_22_eq n _ s0 s1 s2 s3).trans h) (fun E sg h => ?_) (fun ex E sg hne h => ?_)
    · simp only [l_suturelaw9_deep_22_K] at h
      obtain ⟨u0, hu0, h⟩ := Option.bind_eq_some_iff.1 h
      obtain ⟨u1, hu1, h⟩ := Option.bind_eq_some_iff.1 h
      obtain ⟨u2, hu2, h⟩ := Option.bind_eq_some_iff.1 h
      obtain ⟨u3, hu3, h⟩ := Option.bind_eq_some_iff.1 h
      obtain ⟨u4, hu4, h⟩ := Option.bind_eq_some_iff.1 h
      obtain ⟨u5, hu5, h⟩ := Option.bind_eq_some_iff.1 h
      exact SemL.pre (k := 1) (by decide) (WkA.env (WkA.cons (ptrOf_wk hu0) rfl (WkA.cons (strOf_wk hu1) rfl (WkA.cons (intOf_wk hu2) rfl WkA.nil))) 74) (wkR_sig (WkR.cons (cellsN_wk hu3 (.cons (ownOf_wk hu4) (.cons (ownOf_wk hu5) .nil))).1 (cellsN_wk hu3 (.cons (ownOf_wk hu4) (.cons (ownOf_wk hu5) .nil))).2 (renL_mem (.cons rfl (.cons rfl .nil))) (WkR.nil _)) rfl) (l_suturelaw9_deep_22_run n m _ _ _ _ x h)
    · unfold l_suturelaw9_deep_22_K at h
      split at h
      · exact absurd rfl hne
      · obtain ⟨u0, hu0, h⟩ := Option.bind_eq_some_iff.1 h
        obtain ⟨u1, hu1, h⟩ := Option.bind_eq_some_iff.1 h
        obtain ⟨u2, hu2, h⟩ := Option.bind_eq_some_iff.1 h
        obtain ⟨u3, hu3, h⟩ := Option.bind_eq_some_iff.1 h
        obtain ⟨u4, hu4, h⟩ := Option.bind_eq_some_iff.1 h
        simp only [Option.some.injEq] at h
        subst h
        exact ⟨1, _, _, by decide, WkA.env (WkA.cons (ptrOf_wk hu0) rfl (WkA.cons (strOf_wk hu1) rfl WkA.nil)) 74, (wkR_sig (WkR.cons (cellsN_wk hu2 (.cons (ownOf_wk hu3) (.cons (ownOf_wk hu4) .nil))).1 (cellsN_wk hu2 (.cons (ownOf_wk hu3) (.cons (ownOf_wk hu4) .nil))).2 (renL_mem (.cons rfl (.cons rfl .nil))) (WkR.nil _)) rfl), rfl, rfl, rfl⟩
      · cases h
theorem l_suturelaw9_deep_22_ok (n : Nat) : LoopOk Try.prog (sp_suturelaw9_deep n) 0 74 code_l_suturelaw9_deep_22 := by
    intro R key E sg K r hk h
    rw [show Go.Eng.keyOf code_l_suturelaw9_deep_22 = some 22 from by kernel_rfl] at hk
    cases hk
    have h : l_suturelaw9_deep_22_S n R E sg K = some r := h
    unfold l_suturelaw9_deep_22_S at h
    obtain ⟨u0, hu0, h⟩ := Option.bind_eq_some_iff.1 h
    obtain ⟨u1, hu1, h⟩ := Option.bind_eq_some_iff.1 h
    obtain ⟨u2, hu2, h⟩ := Option.bind_eq_some_iff.1 h
    obtain ⟨u3, hu3, h⟩ := Option.bind_eq_some_iff.1 h
    obtain ⟨u4, hu4, h⟩ := Option.bind_eq_some_iff.1 h
    obtain ⟨u5, hu5, h⟩ := Option.bind_eq_some_iff.1 h
    obtain ⟨x, hx, h⟩ := Option.bind_eq_some_iff.1 h
    refine (SemL.pre (k := 1) (by decide) (WkA.env (WkA.cons (ptrOf_wk hu0) rfl (WkA.cons (strOf_wk hu1) rfl (WkA.cons (intOf_wk hu2) rfl WkA.nil))) 74) (wkR_sig (WkR.cons (cellsN_wk hu3 (.cons (ownOf_wk hu4) (.cons (ownOf_wk hu5) .nil))).1 (cellsN_wk hu3 (.cons (ownOf_wk hu4) (.cons (ownOf_wk hu5) .nil))).2 (renL_mem (.cons rfl (.cons rfl .nil))) (WkR.nil _)) rfl) (l_suturelaw9_deep_22_run n n _ _ _ _ x hx)).mono ?_
    intro ex e s hq
    obtain ⟨rfl, rfl, rfl⟩ := hq
    exact ⟨_, rfl, h⟩
def K_suturelaw9_deep (v : V) (s : Sig) : Option ((List T) × (List T)) := Option.bind (V.aggN 2 v) fun u0 => Option.bind (V.lstOf (u0.getD 0 .any)) fun u1 => Option.bind (V.lstOf (u0.getD 1 .any)) fun u2 => some (u1, u2)
theorem K_suturelaw9_deep_wk {v : V} {s : Sig} {r : (List T) × (List T)} (h : K_suturelaw9_deep v s = some r) : Wk v (enc_suturelaw9_deep r) ∧ WkS 0 s (encS_suturelaw9_deep r) := by
  unfold K_suturelaw9_deep at h
  obtain ⟨u0, hu0, h⟩ := Option.bind_eq_some_iff.1 h
  obtain ⟨u1, hu1, h⟩ := Option.bind_eq_some_iff.1 h
  obtain ⟨u2, hu2, h⟩ := Option.bind_eq_some_iff.1 h
  simp only [Option.some.injEq] at h
  subst h
  exact ⟨(aggN_wk hu0 (.cons (lstOf_wk hu1) (.cons (lstOf_wk hu2) .nil))), (WkS.none _)⟩
theorem m_suturelaw9_deep_eq (n : Nat) (a0 : List T) : mF Try.prog (sp_suturelaw9_deep n) 12 [(V.t (T.list a0))] [] K_suturelaw9_deep = m_suturelaw9_deep n a0 := by kernel_rfl
theorem m_suturelaw9_deep_ok (n : Nat) : ok_suturelaw9_deep (m_suturelaw9_deep n) := fun a0 r h => mF_ok sound (sp_suturelaw9_deep_ok n) code_suturelaw9_deep_fn code_suturelaw9_deep_body (forall_getD (d := .skip) 2 (by kernel_rfl) (fun i hi => match i, hi with | 0, _ => l_suturelaw9_deep_4_ok n | 1, _ => l_suturelaw9_deep_22_ok n | i + 2, hi => absurd hi (by omega))) (no_scope (by kernel_rfl)) ((m_suturelaw9_deep_eq n a0).trans h) (fun v s hk => ⟨(K_suturelaw9_deep_wk hk).1, rfl, (K_suturelaw9_deep_wk hk).2⟩)


/-! slices.Clone[[]int,int] -/
def m_slices_Clone___int_int_ (n : Nat) (a0 : List T) : Option (List T) := must true ((Nat.beq 1 1 || Nat.beq 1 0) && (decide (List.length ([] : List T) + List.length a0 ≤ 1073741824) && sized 1 a0)) (some (([] : List T) ++ a0))
def enc_slices_Clone___int_int_ (r : (List T)) : V := (V.own 1 r)
def encS_slices_Clone___int_int_ (r : (List T)) : Sig := []
def ok_slices_Clone___int_int_ (m : List T → Option ((List T))) : Prop := ∀ (a0 : List T) (r : (List T)), m a0 = some r → FuncOk Try.prog 47 [(V.t (T.list a0))] [] (enc_slices_Clone___int_int_ r) (encS_slices_Clone___int_int_ r)
def c_slices_Clone___int_int_ (m : List T → Option ((List T))) (vs : List V) (sg : Sig) : Option CallM := bif Nat.beq vs.length 1 && Nat.beq sg.length 0 then Option.bind (V.lstOf (vs.getD 0 .any)) fun u0 => some { α := (List T), m := m u0, dflt := [], enc := fun y => ((V.own 1 y), []) } else none
theorem c_slices_Clone___int_int__ok (m : List T → Option ((List T))) (hm : ok_slices_Clone___int_int_ m) (vs : List V) (sg : Sig) (cm : CallM) (x : cm.α) (h : c_slices_Clone___int_int_ m vs sg = some cm) (hx : cm.m = some x) : FuncOk Try.prog 47 vs sg (cm.enc x).1 (cm.enc x).2 := by
  unfold c_slices_Clone___int_int_ at h
  have h0 := callee_sig h
  clear h
  obtain ⟨hl, hs, h⟩ := h0
  obtain ⟨u0, hu0, h⟩ := Option.bind_eq_some_iff.1 h
  simp only [Option.some.injEq] at h
  subst h
  exact (hm u0 x hx).wk (args_wk hl (.cons (lstOf_wk hu0) .nil)) (wkSg_of hs .nil)
noncomputable def code_slices_Clone___int_int_ : Code := Try.f47.body.getD .skip
noncomputable def sp_slices_Clone___int_int_ (n : Nat) : Go.Eng.Spec := ⟨fun f vs sg => (match f with
    | _ => none), fun R key E sg K => (match key with
    | _ => none)⟩
theorem sp_slices_Clone___int_int__ok (n : Nat) : CallsOk Try.prog (sp_slices_Clone___int_int_ n) := by
  intro f vs sg cm x h hx
  have h : (none : Option CallM) = some cm := h
  cases h
theorem code_slices_Clone___int_int__fn : Try.prog.funcs[47]? = some Try.f47 := Try.func47
theorem code_slices_Clone___int_int__body : Try.f47.body = some code_slices_Clone___int_int_ := by kernel_rfl
def K_slices_Clone___int_int_ (v : V) (s : Sig) : Option (List T) := Option.bind (V.ownOf 1 v) fun u0 => some u0
theorem m_slices_Clone___int_int__eq (n : Nat) (y : T) (ys : List T) : mF Try.prog (sp_slices_Clone___int_int_ n) 47 [V.t (T.list (y :: ys))] [] K_slices_Clone___int_int_ = m_slices_Clone___int_int_ n (y :: ys) := by kernel_rfl
theorem m_slices_Clone___int_int__ok (n : Nat) : ok_slices_Clone___int_int_ (m_slices_Clone___int_int_ n) := fun a0 r h => nil_split (m := m_slices_Clone___int_int_ n) sound code_slices_Clone___int_int__fn code_slices_Clone___int_int__body (func_sound sound 9 _ _ _ _ _ (show evFunc Try.prog 9 47 [.nil] [] = some (.nil, []) from by kernel_rfl)).1 (func_sound sound 9 _ _ _ _ _ (show evFunc Try.prog 9 47 [.t .vac] [] = some (.own 1 [], []) from by kernel_rfl)).1 (fun r h => (Option.some.inj h).symm)
    (fun y ys r h => mF_sound sound (sp_slices_Clone___int_int__ok n) code_slices_Clone___int_int__fn code_slices_Clone___int_int__body (fun a ha => absurd ha (by rw [show loopsOf code_slices_Clone___int_int_ = [] from by kernel_rfl]; simp)) (no_scope (by kernel_rfl)) ((m_slices_Clone___int_int__eq n y ys).trans h) (fun v s hk => by
      unfold K_slices_Clone___int_int_ at hk
      obtain ⟨u0, hu0, hk⟩ := Option.bind_eq_some_iff.1 hk
      simp only [Option.some.injEq] at hk
      subst hk
      exact ⟨ownOf_wk hu0, rfl, WkS.none _⟩)) a0 r h
-- 8


/-! jumps_place_v2, jumps_place_v3: a circle -/
structure B_jumps_place_v2 where
  jumps_place_v2 : List T → Int → List T → List T → Int → Option ((List T) × Int)
  jumps_place_v3 : List T → Int → List T → List T → Int → Option ((List T) × Int)
def enc_jumps_place_v2 (r : (List T) × Int) : V := (V.own 13 r.1)
def encS_jumps_place_v2 (r : (List T) × Int) : Sig := [some [(V.t (T.sc (.int .i64 r.2)))]]
def ok_jumps_place_v2 (m : List T → Int → List T → List T → Int → Option ((List T) × Int)) : Prop := ∀ (a0 : List T) (a1 : Int) (a2 : List T) (a3 : List T) (a4 : Int) (r : (List T) × Int), m a0 a1 a2 a3 a4 = some r → FuncOk Try.prog 31 [(V.own 13 a0), (V.ptr 0 0), (V.t (T.sc (.int .i64 a1))), (V.own 1 a2), (V.t (T.list a3))] [some [(V.t (T.sc (.int .i64 a4)))]] (enc_jumps_place_v2 r) (encS_jumps_place_v2 r)
def c_jumps_place_v2 (m : List T → Int → List T → List T → Int → Option ((List T) × Int)) (vs : List V) (sg : Sig) : Option CallM := bif Nat.beq vs.length 5 && Nat.beq sg.length 1 then Option.bind (V.ownOf 13 (vs.getD 0 .any)) fun u0 => Option.bind (V.ptrOf 0 0 (vs.getD 1 .any)) fun u1 => Option.bind (V.intOf .i64 (vs.getD 2 .any)) fun u2 => Option.bind (V.ownOf 1 (vs.getD 3 .any)) fun u3 => Option.bind (V.lstOf (vs.getD 4 .any)) fun u4 => Option.bind (cellsN 1 sg 0) fun g0 => Option.bind (V.intOf .i64 (g0.getD 0 .any)) fun g1 => some { α := (List T) × Int, m := m u0 u2 u3 u4 g1, dflt := ([], 0), enc := fun y => ((V.own 13 y.1), [some [(V.t (T.sc (.int .i64 y.2)))]]) } else none
theorem c_jumps_place_v2_ok (m : List T → Int → List T → List T → Int → Option ((List T) × Int)) (hm : ok_jumps_place_v2 m) (vs : List V) (sg : Sig) (cm : CallM) (x : cm.α) (h : c_jumps_place_v2 m vs sg = some cm) (hx : cm.m = some x) : FuncOk Try.prog 31 vs sg (cm.enc x).1 (cm.enc x).2 := by
  unfold c_jumps_place_v2 at h
  have h0 := callee_sig h
  clear h
  obtain ⟨hl, hs, h⟩ := h0
  obtain ⟨u0, hu0, h⟩ := Option.bind_eq_some_iff.1 h
  obtain ⟨u1, hu1, h⟩ := Option.bind_eq_some_iff.1 h
  obtain ⟨u2, hu2, h⟩ := Option.bind_eq_some_iff.1 h
  obtain ⟨u3, hu3, h⟩ := Option.bind_eq_some_iff.1 h
  obtain ⟨u4, hu4, h⟩ := Option.bind_eq_some_iff.1 h
  obtain ⟨g0, hg0, h⟩ := Option.bind_eq_some_iff.1 h
  obtain ⟨g1, hg1, h⟩ := Option.bind_eq_some_iff.1 h
  simp only [Option.some.injEq] at h
  subst h
  exact (hm u0 u2 u3 u4 g1 x hx).wk (args_wk hl (.cons (ownOf_wk hu0) (.cons (ptrOf_wk hu1) (.cons (intOf_wk hu2) (.cons (ownOf_wk hu3) (.cons (lstOf_wk hu4) .nil)))))) (wkSg_of hs (.cons (cellsN_wk hg0 (.cons (intOf_wk hg1) .nil)) .nil))
def enc_jumps_place_v3 (r : (List T) × Int) : V := (V.own 13 r.1)
def encS_jumps_place_v3 (r : (List T) × Int) : Sig := [some [(V.t (T.sc (.int .i64 r.2)))]]
def ok_jumps_place_v3 (m : List T → Int → List T → List T → Int → Option ((List T) × Int)) : Prop := ∀ (a0 : List T) (a1 : Int) (a2 : List T) (a3 : List T) (a4 : Int) (r : (List T) × Int), m a0 a1 a2 a3 a4 = some r → FuncOk Try.prog 31 [(V.own 13 a0), (V.ptr 0 0), (V.t (T.sc (.int .i64 a1))), (V.t (T.list a2)), (V.t (T.list a3))] [some [(V.t (T.sc (.int .i64 a4)))]] (enc_jumps_place_v3 r) (encS_jumps_place_v3 r)
def c_jumps_place_v3 (m : List T → Int → List T → List T → Int → Option ((List T) × Int)) (vs : List V) (sg : Sig) : Option CallM := bif Nat.beq vs.length 5 && Nat.beq sg.length 1 then Option.bind (V.ownOf 13 (vs.getD 0 .any)) fun u0 => Option.bind (V.ptrOf 0 0 (vs.getD 1 .any)) fun u1 => Option.bind (V.intOf .i64 (vs.getD 2 .any)) fun u2 => Option.bind (V.lstOf (vs.getD 3 .any)) fun u3 => Option.bind (V.lstOf (vs.getD 4 .any)) fun u4 => Option.bind (cellsN 1 sg 0) fun g0 => Option.bind (V.intOf .i64 (g0.getD 0 .any)) fun g1 => some { α := (List T) × Int, m := m u0 u2 u3 u4 g1, dflt := ([], 0), enc := fun y => ((V.own 13 y.1), [some [(V.t (T.sc (.int .i64 y.2)))]]) } else none
theorem c_jumps_place_v3_ok (m : List T → Int → List T → List T → Int → Option ((List T) × Int)) (hm : ok_jumps_place_v3 m) (vs : List V) (sg : Sig) (cm : CallM) (x : cm.α) (h : c_jumps_place_v3 m vs sg = some cm) (hx : cm.m = some x) : FuncOk Try.prog 31 vs sg (cm.enc x).1 (cm.enc x).2 := by
  unfold c_jumps_place_v3 at h
  have h0 := callee_sig h
  clear h
  obtain ⟨hl, hs, h⟩ := h0
  obtain ⟨u0, hu0, h⟩ := Option.bind_eq_some_iff.1 h
  obtain ⟨u1, hu1, h⟩ := Option.bind_eq_some_iff.1 h
  obtain ⟨u2, hu2, h⟩ := Option.bind_eq_some_iff.1 h
  obtain ⟨u3, hu3, h⟩ := Option.bind_eq_some_iff.1 h
  obtain ⟨u4, hu4, h⟩ := Option.bind_eq_some_iff.1 h
  obtain ⟨g0, hg0, h⟩ := Option.bind_eq_some_iff.1 h
  obtain ⟨g1, hg1, h⟩ := Option.bind_eq_some_iff.1 h
  simp only [Option.some.injEq] at h
  subst h
  exact (hm u0 u2 u3 u4 g1 x hx).wk (args_wk hl (.cons (ownOf_wk hu0) (.cons (ptrOf_wk hu1) (.cons (intOf_wk hu2) (.cons (lstOf_wk hu3) (.cons (lstOf_wk hu4) .nil)))))) (wkSg_of hs (.cons (cellsN_wk hg0 (.cons (intOf_wk hg1) .nil)) .nil))
structure B_jumps_place_v2_ok (b : B_jumps_place_v2) : Prop where
  jumps_place_v2 : ok_jumps_place_v2 b.jumps_place_v2
  jumps_place_v3 : ok_jumps_place_v3 b.jumps_place_v3

/-! suture/jumps.place -/
def l_jumps_place_v2_4_B (b : B_jumps_place_v2) (n : Nat) (k : (List T) × Int × (List T) × (List T) × Int × Int × Int → Option ((List T) × Int)) : (List T) × Int × (List T) × (List T) × Int × Int × Int → Option ((List T) × Int) := fun (s0, s1, s2, s3, s4, s5, s6) =>
bif (decide ((s5 : Int) < s4)) then (
Option.bind (idx true [.int .i64, .str, .str, .int .i64, .int .i64, .int .i64, .str, .list, .list, .list, .cplx .f64] s3 s5) fun y1 =>
must true ((Nat.beq 13 13 || Nat.beq 13 0) && (decide (List.length s0 + List.length [(T.agg [(T.sc (.int .i64 (y1.cell 0).int)), (T.sc (.string (y1.cell 1).str)), (T.sc (.string (y1.cell 2).str)), (T.sc (.int .i64 (y1.cell 3).int)), (T.sc (.int .i64 (y1.cell 4).int)), (T.sc (.int .i64 (y1.cell 5).int)), (T.sc (.string (y1.cell 6).str)), (T.list (y1.cell 7).lst), (T.list (y1.cell 8).lst), (T.list (y1.cell 9).lst), (T.sc (.complex .f64 (y1.cell 10).re (y1.cell 10).im)), (T.sc (.int .i64 s1)), (T.list s2)])] ≤ 1073741824) && sized 13 [(T.agg [(T.sc (.int .i64 (y1.cell 0).int)), (T.sc (.string (y1.cell 1).str)), (T.sc (.string (y1.cell 2).str)), (T.sc (.int .i64 (y1.cell 3).int)), (T.sc (.int .i64 (y1.cell 4).int)), (T.sc (.int .i64 (y1.cell 5).int)), (T.sc (.string (y1.cell 6).str)), (T.list (y1.cell 7).lst), (T.list (y1.cell 8).lst), (T.list (y1.cell 9).lst), (T.sc (.complex .f64 (y1.cell 10).re (y1.cell 10).im)), (T.sc (.int .i64 s1)), (T.list s2)])])) (Option.bind (b.jumps_place_v3 (s0 ++ [(T.agg [(T.sc (.int .i64 (y1.cell 0).int)), (T.sc (.string (y1.cell 1).str)), (T.sc (.string (y1.cell 2).str)), (T.sc (.int .i64 (y1.cell 3).int)), (T.sc (.int .i64 (y1.cell 4).int)), (T.sc (.int .i64 (y1.cell 5).int)), (T.sc (.string (y1.cell 6).str)), (T.list (y1.cell 7).lst), (T.list (y1.cell 8).lst), (T.list (y1.cell 9).lst), (T.sc (.complex .f64 (y1.cell 10).re (y1.cell 10).im)), (T.sc (.int .i64 s1)), (T.list s2)])]) s1 s2 (y1.cell 8).lst s6) fun r2 =>
Option.bind (b.jumps_place_v3 r2.1 s1 s2 (y1.cell 9).lst r2.2) fun r3 =>
k (r3.1, s1, s2, s3, s4, (IntKind.wrap .i64 (s5 + 1)), r3.2)))
else (
some (s0, s6))
def l_jumps_place_v2_4 (b : B_jumps_place_v2) (n : Nat) : Nat → (List T) × Int × (List T) × (List T) × Int × Int × Int → Option ((List T) × Int)
  | 0, _ => none
  | m + 1, s => l_jumps_place_v2_4_B b n (l_jumps_place_v2_4 b n m) s
def f_jumps_place_v2 (b : B_jumps_place_v2) (n : Nat) (a0 : List T) (a1 : Int) (a2 : List T) (a3 : List T) (a4 : Int) : Option ((List T) × Int) :=
Option.bind (m_slices_Clone___int_int_ n a2) fun r0 =>
must true ((Nat.beq 1 1 || Nat.beq 1 0) && (decide (List.length r0 + List.length [(T.sc (.int .i64 a4))] ≤ 1073741824) && sized 1 [(T.sc (.int .i64 a4))])) (Option.bind (l_jumps_place_v2_4 b n n (a0, a1, (r0 ++ [(T.sc (.int .i64 a4))]), a3, ((List.length a3 : Nat) : Int), 0, (IntKind.wrap .i64 (a4 + 1)))) fun p5 =>
some (p5.1, p5.2))
noncomputable def code_jumps_place_v2 : Code := Try.f31.body.getD .skip
def l_jumps_place_v2_4_S (b : B_jumps_place_v2) (n : Nat) (R : Type) (E : SEnv) (sg : Sig) (K : Ex → SEnv → Sig → Option R) : Option R := Option.bind (V.ownOf 13 (SEnv.at E 0)) fun u0 => Option.bind (V.ptrOf 0 0 (SEnv.at E 1)) fun u1 => Option.bind (V.intOf .i64 (SEnv.at E 2)) fun u2 => Option.bind (V.ownOf 1 (SEnv.at E 3)) fun u3 => Option.bind (V.lstOf (SEnv.at E 25)) fun u4 => Option.bind (V.intOf .i64 (SEnv.at E 26)) fun u5 => Option.bind (V.intOf .i64 (SEnv.at E 27)) fun u6 => Option.bind (cellsN 1 sg 0) fun u7 => Option.bind (V.intOf .i64 (u7.getD 0 .any)) fun u8 => Option.bind (l_jumps_place_v2_4 b n n (u0, u2, u3, u4, u5, u6, u8)) fun p0 => K (.exit 0) [(0, (V.own 13 p0.1))] [some [(V.t (T.sc (.int .i64 p0.2)))]]
noncomputable def sp_jumps_place_v2 (b : B_jumps_place_v2) (n : Nat) : Go.Eng.Spec := ⟨fun f vs sg => (match f with
    | 47 => c_slices_Clone___int_int_ (m_slices_Clone___int_int_ n) vs sg
    | 31 => c_jumps_place_v3 b.jumps_place_v3 vs sg
    | _ => none), fun R key E sg K => (match key with
    | 4 => l_jumps_place_v2_4_S b n R E sg K
    | _ => none)⟩
theorem sp_jumps_place_v2_ok (b : B_jumps_place_v2) (hb : B_jumps_place_v2_ok b) (n : Nat) : CallsOk Try.prog (sp_jumps_place_v2 b n) := by
  intro f vs sg cm x h hx
  simp only [sp_jumps_place_v2] at h
  split at h
  · exact c_slices_Clone___int_int__ok _ (m_slices_Clone___int_int__ok n) vs sg cm x h hx
  · exact c_jumps_place_v3_ok _ hb.jumps_place_v3 vs sg cm x h hx
  · cases h
theorem code_jumps_place_v2_fn : Try.prog.funcs[31]? = some Try.f31 := Try.func31
theorem code_jumps_place_v2_body : Try.f31.body = some code_jumps_place_v2 := by kernel_rfl
theorem code_jumps_place_v2_ok : CodeOk Try.prog code_jumps_place_v2 := (sound 31 _ _ code_jumps_place_v2_fn code_jumps_place_v2_body).1
noncomputable def code_l_jumps_place_v2_4 : Code := (loopsOf code_jumps_place_v2).getD 0 .skip
theorem code_l_jumps_place_v2_4_ok : CodeOk Try.prog code_l_jumps_place_v2_4 := codeOk_loops code_jumps_place_v2_ok _ (getD_mem (by kernel_rfl))
def l_jumps_place_v2_4_K (k : (List T) × Int × (List T) × (List T) × Int × Int × Int → Option ((List T) × Int)) : Ex → SEnv → Sig → Option ((List T) × Int) := fun x E sg => match x with
  | .normal => Option.bind (V.ownOf 13 (SEnv.at E 0)) fun u0 => Option.bind (V.ptrOf 0 0 (SEnv.at E 1)) fun u1 => Option.bind (V.intOf .i64 (SEnv.at E 2)) fun u2 => Option.bind (V.ownOf 1 (SEnv.at E 3)) fun u3 => Option.bind (V.lstOf (SEnv.at E 25)) fun u4 => Option.bind (V.intOf .i64 (SEnv.at E 26)) fun u5 => Option.bind (V.intOf .i64 (SEnv.at E 27)) fun u6 => Option.bind (cellsN 1 sg 0) fun u7 => Option.bind (V.intOf .i64 (u7.getD 0 .any)) fun u8 => k (u0, u2, u3, u4, u5, u6, u8)
  | (.exit 0) => Option.bind (V.ownOf 13 (SEnv.at E 0)) fun u0 => Option.bind (cellsN 1 sg 0) fun u1 => Option.bind (V.intOf .i64 (u1.getD 0 .any)) fun u2 => some (u0, u2)
  | _ => none
theorem l_jumps_place_v2_4_eq (b : B_jumps_place_v2) (n : Nat) (k : (List T) × Int × (List T) × (List T) × Int × Int × Int → Option ((List T) × Int)) (s0 : List T) (s1 : Int) (s2 : List T) (s3 : List T) (s4 : Int) (s5 : Int) (s6 : Int) : mX Try.prog (sp_jumps_place_v2 b n) 54 code_l_jumps_place_v2_4 [(0, (V.own 13 s0)), (1, (V.ptr 0 0)), (2, (V.t (T.sc (.int .i64 s1)))), (3, (V.own 1 s2)), (25, (V.t (T.list s3))), (26, (V.t (T.sc (.int .i64 s4)))), (27, (V.t (T.sc (.int .i64 s5))))] [some [(V.t (T.sc (.int .i64 s6)))]] (l_jumps_place_v2_4_K k) = l_jumps_place_v2_4_B b n k (s0, s1, s2, s3, s4, s5, s6) := by kernel_rfl
def l_jumps_place_v2_4_Q (x : (List T) × Int) (ex : Ex) (e : Env) (s : Sig) : Prop := (fun p0 => (ex = (.exit 0) ∧ e = SEnv.env 54 [(0, (V.own 13 p0.1))] ∧ s = [some [(V.t (T.sc (.int .i64 p0.2)))]])) x
theorem l_jumps_place_v2_4_run (b : B_jumps_place_v2) (hb : B_jumps_place_v2_ok b) (n : Nat) : ∀ (m : Nat) (s0 : List T) (s1 : Int) (s2 : List T) (s3 : List T) (s4 : Int) (s5 : Int) (s6 : Int) (x : (List T) × Int), l_jumps_place_v2_4 b n m (s0, s1, s2, s3, s4, s5, s6) = some x → SemL Try.prog 1 code_l_jumps_place_v2_4 (SEnv.env 54 [(0, (V.own 13 s0)), (1, (V.ptr 0 0)), (2, (V.t (T.sc (.int .i64 s1)))), (3, (V.own 1 s2)), (25, (V.t (T.list s3))), (26, (V.t (T.sc (.int .i64 s4)))), (27, (V.t (T.sc (.int .i64 s5))))]) [some [(V.t (T.sc (.int .i64 s6)))]] (l_jumps_place_v2_4_Q x)
  | 0, s0, s1, s2, s3, s4, s5, s6, x, h => by cases h
  | m + 1, s0, s1, s2, s3, s4, s5, s6, x, h => by
    refine loop_step (sp_jumps_place_v2_ok b hb n) code_l_jumps_place_v2_4_ok (fun a ha => absurd ha (by rw [show loopsOf code_l_jumps_place_v2_4 = [] from by kernel_rfl]; simp)) (no_scope (by kernel_rfl)) ((l_jumps_place_v2_4_eq b n _ s0 s1 s2 s3 s4 s5 s6).trans h) (fun E sg h => ?_) (fun ex E sg hne h => ?_)
    · simp only [l_jumps_place_v2_4_K] at h
      obtain ⟨u0, hu0, h⟩ := Option.bind_eq_some_iff.1 h
      obtain ⟨u1, hu1, h⟩ := Option.bind_eq_some_iff.1 h
      obtain ⟨u2, hu2, h⟩ := Option.bind_eq_some_iff.1 h
      obtain ⟨u3, hu3, h⟩ := Option.bind_eq_some_iff.1 h
      obtain ⟨u4, hu4, h⟩ := Option.bind_eq_some_iff.1 h
      obtain ⟨u5, hu5, h⟩ := Option.bind_eq_some_iff.1 h
      obtain ⟨u6, hu6, h⟩ := Option.bind_eq_some_iff.1 h
      obtain ⟨u7, hu7, h⟩ := Option.bind_eq_some_iff.1 h
      obtain ⟨u8, hu8, h⟩ := Option.bind_eq_some_iff.1 h
      exact SemL.pre (k := 1) (by decide) (WkA.env (WkA.cons (ownOf_wk hu0) rfl (WkA.cons (ptrOf_wk hu1) rfl (WkA.cons (intOf_wk hu2) rfl (WkA.cons (ownOf_wk hu3) rfl (WkA.cons (lstOf_wk hu4) rfl (WkA.cons (intOf_wk hu5) rfl (WkA.cons (intOf_wk hu6) rfl WkA.nil))))))) 54) (wkR_sig (WkR.cons (cellsN_wk hu7 (.cons (intOf_wk hu8) .nil)).1 (cellsN_wk hu7 (.cons (intOf_wk hu8) .nil)).2 (renL_mem (.cons rfl .nil)) (WkR.nil _)) rfl) (l_jumps_place_v2_4_run b hb n m _ _ _ _ _ _ _ x h)
    · unfold l_jumps_place_v2_4_K at h
      split at h
      · exact absurd rfl hne
      · obtain ⟨u0, hu0, h⟩ := Option.bind_eq_some_iff.1 h
        obtain ⟨u1, hu1, h⟩ := Option.bind_eq_some_iff.1 h
        obtain ⟨u2, hu2, h⟩ := Option.bind_eq_some_iff.1 h
        simp only [Option.some.injEq] at h
        subst h
        exact ⟨1, _, _, by decide, WkA.env (WkA.cons (ownOf_wk hu0) rfl WkA.nil) 54, (wkR_sig (WkR.cons (cellsN_wk hu1 (.cons (intOf_wk hu2) .nil)).1 (cellsN_wk hu1 (.cons (intOf_wk hu2) .nil)).2 (renL_mem (.cons rfl .nil)) (WkR.nil _)) rfl), rfl, rfl, rfl⟩
      · cases h
theorem l_jumps_place_v2_4_ok (b : B_jumps_place_v2) (hb : B_jumps_place_v2_ok b) (n : Nat) : LoopOk Try.prog (sp_jumps_place_v2 b n) 1 54 code_l_jumps_place_v2_4 := by
    intro R key E sg K r hk h
    rw [show Go.Eng.keyOf code_l_jumps_place_v2_4 = some 4 from by kernel_rfl] at hk
    cases hk
    have h : l_jumps_place_v2_4_S b n R E sg K = some r := h
    unfold l_jumps_place_v2_4_S at h
    obtain ⟨u0, hu0, h⟩ := Option.bind_eq_some_iff.1 h
    obtain ⟨u1, hu1, h⟩ := Option.bind_eq_some_iff.1 h
    obtain ⟨u2, hu2, h⟩ := Option.bind_eq_some_iff.1 h
    obtain ⟨u3, hu3, h⟩ := Option.bind_eq_some_iff.1 h
    obtain ⟨u4, hu4, h⟩ := Option.bind_eq_some_iff.1 h
    obtain ⟨u5, hu5, h⟩ := Option.bind_eq_some_iff.1 h
    obtain ⟨u6, hu6, h⟩ := Option.bind_eq_some_iff.1 h
    obtain ⟨u7, hu7, h⟩ := Option.bind_eq_some_iff.1 h
    obtain ⟨u8, hu8, h⟩ := Option.bind_eq_some_iff.1 h
    obtain ⟨x, hx, h⟩ := Option.bind_eq_some_iff.1 h
    refine (SemL.pre (k := 1) (by decide) (WkA.env (WkA.cons (ownOf_wk hu0) rfl (WkA.cons (ptrOf_wk hu1) rfl (WkA.cons (intOf_wk hu2) rfl (WkA.cons (ownOf_wk hu3) rfl (WkA.cons (lstOf_wk hu4) rfl (WkA.cons (intOf_wk hu5) rfl (WkA.cons (intOf_wk hu6) rfl WkA.nil))))))) 54) (wkR_sig (WkR.cons (cellsN_wk hu7 (.cons (intOf_wk hu8) .nil)).1 (cellsN_wk hu7 (.cons (intOf_wk hu8) .nil)).2 (renL_mem (.cons rfl .nil)) (WkR.nil _)) rfl) (l_jumps_place_v2_4_run b hb n n _ _ _ _ _ _ _ x hx)).mono ?_
    intro ex e s hq
    obtain ⟨rfl, rfl, rfl⟩ := hq
    exact ⟨_, rfl, h⟩
def K_jumps_place_v2 (v : V) (s : Sig) : Option ((List T) × Int) := Option.bind (V.ownOf 13 v) fun u0 => Option.bind (cellsN 1 s 0) fun g0 => Option.bind (V.intOf .i64 (g0.getD 0 .any)) fun g1 => some (u0, g1)
theorem K_jumps_place_v2_wk {v : V} {s : Sig} {r : (List T) × Int} (h : K_jumps_place_v2 v s = some r) : Wk v (enc_jumps_place_v2 r) ∧ WkS 1 s (encS_jumps_place_v2 r) := by
  unfold K_jumps_place_v2 at h
  obtain ⟨u0, hu0, h⟩ := Option.bind_eq_some_iff.1 h
  obtain ⟨g0, hg0, h⟩ := Option.bind_eq_some_iff.1 h
  obtain ⟨g1, hg1, h⟩ := Option.bind_eq_some_iff.1 h
  simp only [Option.some.injEq] at h
  subst h
  exact ⟨(ownOf_wk hu0), (wkR_sig (WkR.cons (cellsN_wk hg0 (.cons (intOf_wk hg1) .nil)).1 (cellsN_wk hg0 (.cons (intOf_wk hg1) .nil)).2 (renL_mem (.cons rfl .nil)) (WkR.nil _)) rfl)⟩
theorem f_jumps_place_v2_eq (b : B_jumps_place_v2) (n : Nat) (a0 : List T) (a1 : Int) (a2 : List T) (a3 : List T) (a4 : Int) : mF Try.prog (sp_jumps_place_v2 b n) 31 [(V.own 13 a0), (V.ptr 0 0), (V.t (T.sc (.int .i64 a1))), (V.own 1 a2), (V.t (T.list a3))] [some [(V.t (T.sc (.int .i64 a4)))]] K_jumps_place_v2 = f_jumps_place_v2 b n a0 a1 a2 a3 a4 := by kernel_rfl
theorem f_jumps_place_v2_ok (b : B_jumps_place_v2) (hb : B_jumps_place_v2_ok b) (n : Nat) : ok_jumps_place_v2 (f_jumps_place_v2 b n) := fun a0 a1 a2 a3 a4 r h => mF_ok sound (sp_jumps_place_v2_ok b hb n) code_jumps_place_v2_fn code_jumps_place_v2_body (forall_getD (d := .skip) 1 (by kernel_rfl) (fun i hi => match i, hi with | 0, _ => l_jumps_place_v2_4_ok b hb n | i + 1, hi => absurd hi (by omega))) (no_scope (by kernel_rfl)) ((f_jumps_place_v2_eq b n a0 a1 a2 a3 a4).trans h) (fun v s hk => ⟨(K_jumps_place_v2_wk hk).1, rfl, (K_jumps_place_v2_wk hk).2⟩)

/-! suture/jumps.place -/
def l_jumps_place_v3_4_B (b : B_jumps_place_v2) (n : Nat) (k : (List T) × Int × (List T) × (List T) × Int × Int × Int → Option ((List T) × Int)) : (List T) × Int × (List T) × (List T) × Int × Int × Int → Option ((List T) × Int) := fun (s0, s1, s2, s3, s4, s5, s6) =>
bif (decide ((s5 : Int) < s4)) then (
Option.bind (idx true [.int .i64, .str, .str, .int .i64, .int .i64, .int .i64, .str, .list, .list, .list, .cplx .f64] s3 s5) fun y1 =>
must true ((Nat.beq 13 13 || Nat.beq 13 0) && (decide (List.length s0 + List.length [(T.agg [(T.sc (.int .i64 (y1.cell 0).int)), (T.sc (.string (y1.cell 1).str)), (T.sc (.string (y1.cell 2).str)), (T.sc (.int .i64 (y1.cell 3).int)), (T.sc (.int .i64 (y1.cell 4).int)), (T.sc (.int .i64 (y1.cell 5).int)), (T.sc (.string (y1.cell 6).str)), (T.list (y1.cell 7).lst), (T.list (y1.cell 8).lst), (T.list (y1.cell 9).lst), (T.sc (.complex .f64 (y1.cell 10).re (y1.cell 10).im)), (T.sc (.int .i64 s1)), (T.list s2)])] ≤ 1073741824) && sized 13 [(T.agg [(T.sc (.int .i64 (y1.cell 0).int)), (T.sc (.string (y1.cell 1).str)), (T.sc (.string (y1.cell 2).str)), (T.sc (.int .i64 (y1.cell 3).int)), (T.sc (.int .i64 (y1.cell 4).int)), (T.sc (.int .i64 (y1.cell 5).int)), (T.sc (.string (y1.cell 6).str)), (T.list (y1.cell 7).lst), (T.list (y1.cell 8).lst), (T.list (y1.cell 9).lst), (T.sc (.complex .f64 (y1.cell 10).re (y1.cell 10).im)), (T.sc (.int .i64 s1)), (T.list s2)])])) (Option.bind (b.jumps_place_v3 (s0 ++ [(T.agg [(T.sc (.int .i64 (y1.cell 0).int)), (T.sc (.string (y1.cell 1).str)), (T.sc (.string (y1.cell 2).str)), (T.sc (.int .i64 (y1.cell 3).int)), (T.sc (.int .i64 (y1.cell 4).int)), (T.sc (.int .i64 (y1.cell 5).int)), (T.sc (.string (y1.cell 6).str)), (T.list (y1.cell 7).lst), (T.list (y1.cell 8).lst), (T.list (y1.cell 9).lst), (T.sc (.complex .f64 (y1.cell 10).re (y1.cell 10).im)), (T.sc (.int .i64 s1)), (T.list s2)])]) s1 s2 (y1.cell 8).lst s6) fun r2 =>
Option.bind (b.jumps_place_v3 r2.1 s1 s2 (y1.cell 9).lst r2.2) fun r3 =>
k (r3.1, s1, s2, s3, s4, (IntKind.wrap .i64 (s5 + 1)), r3.2)))
else (
some (s0, s6))
def l_jumps_place_v3_4 (b : B_jumps_place_v2) (n : Nat) : Nat → (List T) × Int × (List T) × (List T) × Int × Int × Int → Option ((List T) × Int)
  | 0, _ => none
  | m + 1, s => l_jumps_place_v3_4_B b n (l_jumps_place_v3_4 b n m) s
def f_jumps_place_v3 (b : B_jumps_place_v2) (n : Nat) (a0 : List T) (a1 : Int) (a2 : List T) (a3 : List T) (a4 : Int) : Option ((List T) × Int) :=
Option.bind (m_slices_Clone___int_int_ n a2) fun r0 =>
must true ((Nat.beq 1 1 || Nat.beq 1 0) && (decide (List.length r0 + List.length [(T.sc (.int .i64 a4))] ≤ 1073741824) && sized 1 [(T.sc (.int .i64 a4))])) (Option.bind (l_jumps_place_v3_4 b n n (a0, a1, (r0 ++ [(T.sc (.int .i64 a4))]), a3, ((List.length a3 : Nat) : Int), 0, (IntKind.wrap .i64 (a4 + 1)))) fun p5 =>
some (p5.1, p5.2))
noncomputable def code_jumps_place_v3 : Code := Try.f31.body.getD .skip
def l_jumps_place_v3_4_S (b : B_jumps_place_v2) (n : Nat) (R : Type) (E : SEnv) (sg : Sig) (K : Ex → SEnv → Sig → Option R) : Option R := Option.bind (V.ownOf 13 (SEnv.at E 0)) fun u0 => Option.bind (V.ptrOf 0 0 (SEnv.at E 1)) fun u1 => Option.bind (V.intOf .i64 (SEnv.at E 2)) fun u2 => Option.bind (V.ownOf 1 (SEnv.at E 3)) fun u3 => Option.bind (V.lstOf (SEnv.at E 25)) fun u4 => Option.bind (V.intOf .i64 (SEnv.at E 26)) fun u5 => Option.bind (V.intOf .i64 (SEnv.at E 27)) fun u6 => Option.bind (cellsN 1 sg 0) fun u7 => Option.bind (V.intOf .i64 (u7.getD 0 .any)) fun u8 => Option.bind (l_jumps_place_v3_4 b n n (u0, u2, u3, u4, u5, u6, u8)) fun p0 => K (.exit 0) [(0, (V.own 13 p0.1))] [some [(V.t (T.sc (.int .i64 p0.2)))]]
noncomputable def sp_jumps_place_v3 (b : B_jumps_place_v2) (n : Nat) : Go.Eng.Spec := ⟨fun f vs sg => (match f with
    | 47 => c_slices_Clone___int_int_ (m_slices_Clone___int_int_ n) vs sg
    | 31 => c_jumps_place_v3 b.jumps_place_v3 vs sg
    | _ => none), fun R key E sg K => (match key with
    | 4 => l_jumps_place_v3_4_S b n R E sg K
    | _ => none)⟩
theorem sp_jumps_place_v3_ok (b : B_jumps_place_v2) (hb : B_jumps_place_v2_ok b) (n : Nat) : CallsOk Try.prog (sp_jumps_place_v3 b n) := by
  intro f vs sg cm x h hx
  simp only [sp_jumps_place_v3] at h
  split at h
  · exact c_slices_Clone___int_int__ok _ (m_slices_Clone___int_int__ok n) vs sg cm x h hx
  · exact c_jumps_place_v3_ok _ hb.jumps_place_v3 vs sg cm x h hx
  · cases h
theorem code_jumps_place_v3_fn : Try.prog.funcs[31]? = some Try.f31 := Try.func31
theorem code_jumps_place_v3_body : Try.f31.body = some code_jumps_place_v3 := by kernel_rfl
theorem code_jumps_place_v3_ok : CodeOk Try.prog code_jumps_place_v3 := (sound 31 _ _ code_jumps_place_v3_fn code_jumps_place_v3_body).1
noncomputable def code_l_jumps_place_v3_4 : Code := (loopsOf code_jumps_place_v3).getD 0 .skip
theorem code_l_jumps_place_v3_4_ok : CodeOk Try.prog code_l_jumps_place_v3_4 := codeOk_loops code_jumps_place_v3_ok _ (getD_mem (by kernel_rfl))
def l_jumps_place_v3_4_K (k : (List T) × Int × (List T) × (List T) × Int × Int × Int → Option ((List T) × Int)) : Ex → SEnv → Sig → Option ((List T) × Int) := fun x E sg => match x with
  | .normal => Option.bind (V.ownOf 13 (SEnv.at E 0)) fun u0 => Option.bind (V.ptrOf 0 0 (SEnv.at E 1)) fun u1 => Option.bind (V.intOf .i64 (SEnv.at E 2)) fun u2 => Option.bind (V.ownOf 1 (SEnv.at E 3)) fun u3 => Option.bind (V.lstOf (SEnv.at E 25)) fun u4 => Option.bind (V.intOf .i64 (SEnv.at E 26)) fun u5 => Option.bind (V.intOf .i64 (SEnv.at E 27)) fun u6 => Option.bind (cellsN 1 sg 0) fun u7 => Option.bind (V.intOf .i64 (u7.getD 0 .any)) fun u8 => k (u0, u2, u3, u4, u5, u6, u8)
  | (.exit 0) => Option.bind (V.ownOf 13 (SEnv.at E 0)) fun u0 => Option.bind (cellsN 1 sg 0) fun u1 => Option.bind (V.intOf .i64 (u1.getD 0 .any)) fun u2 => some (u0, u2)
  | _ => none
theorem l_jumps_place_v3_4_eq (b : B_jumps_place_v2) (n : Nat) (k : (List T) × Int × (List T) × (List T) × Int × Int × Int → Option ((List T) × Int)) (s0 : List T) (s1 : Int) (s2 : List T) (s3 : List T) (s4 : Int) (s5 : Int) (s6 : Int) : mX Try.prog (sp_jumps_place_v3 b n) 54 code_l_jumps_place_v3_4 [(0, (V.own 13 s0)), (1, (V.ptr 0 0)), (2, (V.t (T.sc (.int .i64 s1)))), (3, (V.own 1 s2)), (25, (V.t (T.list s3))), (26, (V.t (T.sc (.int .i64 s4)))), (27, (V.t (T.sc (.int .i64 s5))))] [some [(V.t (T.sc (.int .i64 s6)))]] (l_jumps_place_v3_4_K k) = l_jumps_place_v3_4_B b n k (s0, s1, s2, s3, s4, s5, s6) := by kernel_rfl
def l_jumps_place_v3_4_Q (x : (List T) × Int) (ex : Ex) (e : Env) (s : Sig) : Prop := (fun p0 => (ex = (.exit 0) ∧ e = SEnv.env 54 [(0, (V.own 13 p0.1))] ∧ s = [some [(V.t (T.sc (.int .i64 p0.2)))]])) x
theorem l_jumps_place_v3_4_run (b : B_jumps_place_v2) (hb : B_jumps_place_v2_ok b) (n : Nat) : ∀ (m : Nat) (s0 : List T) (s1 : Int) (s2 : List T) (s3 : List T) (s4 : Int) (s5 : Int) (s6 : Int) (x : (List T) × Int), l_jumps_place_v3_4 b n m (s0, s1, s2, s3, s4, s5, s6) = some x → SemL Try.prog 1 code_l_jumps_place_v3_4 (SEnv.env 54 [(0, (V.own 13 s0)), (1, (V.ptr 0 0)), (2, (V.t (T.sc (.int .i64 s1)))), (3, (V.own 1 s2)), (25, (V.t (T.list s3))), (26, (V.t (T.sc (.int .i64 s4)))), (27, (V.t (T.sc (.int .i64 s5))))]) [some [(V.t (T.sc (.int .i64 s6)))]] (l_jumps_place_v3_4_Q x)
  | 0, s0, s1, s2, s3, s4, s5, s6, x, h => by cases h
  | m + 1, s0, s1, s2, s3, s4, s5, s6, x, h => by
    refine loop_step (sp_jumps_place_v3_ok b hb n) code_l_jumps_place_v3_4_ok (fun a ha => absurd ha (by rw [show loopsOf code_l_jumps_place_v3_4 = [] from by kernel_rfl]; simp)) (no_scope (by kernel_rfl)) ((l_jumps_place_v3_4_eq b n _ s0 s1 s2 s3 s4 s5 s6).trans h) (fun E sg h => ?_) (fun ex E sg hne h => ?_)
    · simp only [l_jumps_place_v3_4_K] at h
      obtain ⟨u0, hu0, h⟩ := Option.bind_eq_some_iff.1 h
      obtain ⟨u1, hu1, h⟩ := Option.bind_eq_some_iff.1 h
      obtain ⟨u2, hu2, h⟩ := Option.bind_eq_some_iff.1 h
      obtain ⟨u3, hu3, h⟩ := Option.bind_eq_some_iff.1 h
      obtain ⟨u4, hu4, h⟩ := Option.bind_eq_some_iff.1 h
      obtain ⟨u5, hu5, h⟩ := Option.bind_eq_some_iff.1 h
      obtain ⟨u6, hu6, h⟩ := Option.bind_eq_some_iff.1 h
      obtain ⟨u7, hu7, h⟩ := Option.bind_eq_some_iff.1 h
      obtain ⟨u8, hu8, h⟩ := Option.bind_eq_some_iff.1 h
      exact SemL.pre (k := 1) (by decide) (WkA.env (WkA.cons (ownOf_wk hu0) rfl (WkA.cons (ptrOf_wk hu1) rfl (WkA.cons (intOf_wk hu2) rfl (WkA.cons (ownOf_wk hu3) rfl (WkA.cons (lstOf_wk hu4) rfl (WkA.cons (intOf_wk hu5) rfl (WkA.cons (intOf_wk hu6) rfl WkA.nil))))))) 54) (wkR_sig (WkR.cons (cellsN_wk hu7 (.cons (intOf_wk hu8) .nil)).1 (cellsN_wk hu7 (.cons (intOf_wk hu8) .nil)).2 (renL_mem (.cons rfl .nil)) (WkR.nil _)) rfl) (l_jumps_place_v3_4_run b hb n m _ _ _ _ _ _ _ x h)
    · unfold l_jumps_place_v3_4_K at h
      split at h
      · exact absurd rfl hne
      · obtain ⟨u0, hu0, h⟩ := Option.bind_eq_some_iff.1 h
        obtain ⟨u1, hu1, h⟩ := Option.bind_eq_some_iff.1 h
        obtain ⟨u2, hu2, h⟩ := Option.bind_eq_some_iff.1 h
        simp only [Option.some.injEq] at h
        subst h
        exact ⟨1, _, _, by decide, WkA.env (WkA.cons (ownOf_wk hu0) rfl WkA.nil) 54, (wkR_sig (WkR.cons (cellsN_wk hu1 (.cons (intOf_wk hu2) .nil)).1 (cellsN_wk hu1 (.cons (intOf_wk hu2) .nil)).2 (renL_mem (.cons rfl .nil)) (WkR.nil _)) rfl), rfl, rfl, rfl⟩
      · cases h
theorem l_jumps_place_v3_4_ok (b : B_jumps_place_v2) (hb : B_jumps_place_v2_ok b) (n : Nat) : LoopOk Try.prog (sp_jumps_place_v3 b n) 1 54 code_l_jumps_place_v3_4 := by
    intro R key E sg K r hk h
    rw [show Go.Eng.keyOf code_l_jumps_place_v3_4 = some 4 from by kernel_rfl] at hk
    cases hk
    have h : l_jumps_place_v3_4_S b n R E sg K = some r := h
    unfold l_jumps_place_v3_4_S at h
    obtain ⟨u0, hu0, h⟩ := Option.bind_eq_some_iff.1 h
    obtain ⟨u1, hu1, h⟩ := Option.bind_eq_some_iff.1 h
    obtain ⟨u2, hu2, h⟩ := Option.bind_eq_some_iff.1 h
    obtain ⟨u3, hu3, h⟩ := Option.bind_eq_some_iff.1 h
    obtain ⟨u4, hu4, h⟩ := Option.bind_eq_some_iff.1 h
    obtain ⟨u5, hu5, h⟩ := Option.bind_eq_some_iff.1 h
    obtain ⟨u6, hu6, h⟩ := Option.bind_eq_some_iff.1 h
    obtain ⟨u7, hu7, h⟩ := Option.bind_eq_some_iff.1 h
    obtain ⟨u8, hu8, h⟩ := Option.bind_eq_some_iff.1 h
    obtain ⟨x, hx, h⟩ := Option.bind_eq_some_iff.1 h
    refine (SemL.pre (k := 1) (by decide) (WkA.env (WkA.cons (ownOf_wk hu0) rfl (WkA.cons (ptrOf_wk hu1) rfl (WkA.cons (intOf_wk hu2) rfl (WkA.cons (ownOf_wk hu3) rfl (WkA.cons (lstOf_wk hu4) rfl (WkA.cons (intOf_wk hu5) rfl (WkA.cons (intOf_wk hu6) rfl WkA.nil))))))) 54) (wkR_sig (WkR.cons (cellsN_wk hu7 (.cons (intOf_wk hu8) .nil)).1 (cellsN_wk hu7 (.cons (intOf_wk hu8) .nil)).2 (renL_mem (.cons rfl .nil)) (WkR.nil _)) rfl) (l_jumps_place_v3_4_run b hb n n _ _ _ _ _ _ _ x hx)).mono ?_
    intro ex e s hq
    obtain ⟨rfl, rfl, rfl⟩ := hq
    exact ⟨_, rfl, h⟩
def K_jumps_place_v3 (v : V) (s : Sig) : Option ((List T) × Int) := Option.bind (V.ownOf 13 v) fun u0 => Option.bind (cellsN 1 s 0) fun g0 => Option.bind (V.intOf .i64 (g0.getD 0 .any)) fun g1 => some (u0, g1)
theorem K_jumps_place_v3_wk {v : V} {s : Sig} {r : (List T) × Int} (h : K_jumps_place_v3 v s = some r) : Wk v (enc_jumps_place_v3 r) ∧ WkS 1 s (encS_jumps_place_v3 r) := by
  unfold K_jumps_place_v3 at h
  obtain ⟨u0, hu0, h⟩ := Option.bind_eq_some_iff.1 h
  obtain ⟨g0, hg0, h⟩ := Option.bind_eq_some_iff.1 h
  obtain ⟨g1, hg1, h⟩ := Option.bind_eq_some_iff.1 h
  simp only [Option.some.injEq] at h
  subst h
  exact ⟨(ownOf_wk hu0), (wkR_sig (WkR.cons (cellsN_wk hg0 (.cons (intOf_wk hg1) .nil)).1 (cellsN_wk hg0 (.cons (intOf_wk hg1) .nil)).2 (renL_mem (.cons rfl .nil)) (WkR.nil _)) rfl)⟩
theorem f_jumps_place_v3_eq (b : B_jumps_place_v2) (n : Nat) (a0 : List T) (a1 : Int) (a2 : List T) (a3 : List T) (a4 : Int) : mF Try.prog (sp_jumps_place_v3 b n) 31 [(V.own 13 a0), (V.ptr 0 0), (V.t (T.sc (.int .i64 a1))), (V.t (T.list a2)), (V.t (T.list a3))] [some [(V.t (T.sc (.int .i64 a4)))]] K_jumps_place_v3 = f_jumps_place_v3 b n a0 a1 a2 a3 a4 := by kernel_rfl
theorem f_jumps_place_v3_ok (b : B_jumps_place_v2) (hb : B_jumps_place_v2_ok b) (n : Nat) : ok_jumps_place_v3 (f_jumps_place_v3 b n) := fun a0 a1 a2 a3 a4 r h => mF_ok sound (sp_jumps_place_v3_ok b hb n) code_jumps_place_v3_fn code_jumps_place_v3_body (forall_getD (d := .skip) 1 (by kernel_rfl) (fun i hi => match i, hi with | 0, _ => l_jumps_place_v3_4_ok b hb n | i + 1, hi => absurd hi (by omega))) (no_scope (by kernel_rfl)) ((f_jumps_place_v3_eq b n a0 a1 a2 a3 a4).trans h) (fun v s hk => ⟨(K_jumps_place_v3_wk hk).1, rfl, (K_jumps_place_v3_wk hk).2⟩)
def unB_jumps_place_v2 (n : Nat) : Nat → B_jumps_place_v2
  | 0 => { jumps_place_v2 := fun _ _ _ _ _ => none, jumps_place_v3 := fun _ _ _ _ _ => none }
  | m + 1 => { jumps_place_v2 := f_jumps_place_v2 (unB_jumps_place_v2 n m) n, jumps_place_v3 := f_jumps_place_v3 (unB_jumps_place_v2 n m) n }
theorem unB_jumps_place_v2_ok (n : Nat) : ∀ m, B_jumps_place_v2_ok (unB_jumps_place_v2 n m)
  | 0 => { jumps_place_v2 := fun _ _ _ _ _ _ h => (nomatch (show none = some _ from h)), jumps_place_v3 := fun _ _ _ _ _ _ h => (nomatch (show none = some _ from h)) }
  | m + 1 => { jumps_place_v2 := f_jumps_place_v2_ok _ (unB_jumps_place_v2_ok n m) n, jumps_place_v3 := f_jumps_place_v3_ok _ (unB_jumps_place_v2_ok n m) n }
def m_jumps_place_v2 (n : Nat) : List T → Int → List T → List T → Int → Option ((List T) × Int) := (unB_jumps_place_v2 n n).jumps_place_v2
theorem m_jumps_place_v2_ok (n : Nat) : ok_jumps_place_v2 (m_jumps_place_v2 n) := (unB_jumps_place_v2_ok n n).jumps_place_v2
def m_jumps_place_v3 (n : Nat) : List T → Int → List T → List T → Int → Option ((List T) × Int) := (unB_jumps_place_v2 n n).jumps_place_v3
theorem m_jumps_place_v3_ok (n : Nat) : ok_jumps_place_v3 (m_jumps_place_v3 n) := (unB_jumps_place_v2_ok n n).jumps_place_v3


/-! suture/jumps.all -/
def l_jumps_all_4_B (n : Nat) (k : (List T) × (List T) × Int × Int × (List T) × (List T) × Int → Option ((List T) × (List T) × (List T) × Int)) : (List T) × (List T) × Int × Int × (List T) × (List T) × Int → Option ((List T) × (List T) × (List T) × Int) := fun (s0, s1, s2, s3, s4, s5, s6) =>
bif (decide ((s3 : Int) < s2)) then (
Option.bind (idx true [.list] s1 s3) fun y0 =>
Option.bind (m_jumps_place_v2 n s0 s3 ([] : List T) (y0.cell 0).lst s6) fun r1 =>
k (r1.1, s1, s2, (IntKind.wrap .i64 (s3 + 1)), s4, s5, r1.2))
else (
some (s0, s4, s5, s6))
def l_jumps_all_4 (n : Nat) : Nat → (List T) × (List T) × Int × Int × (List T) × (List T) × Int → Option ((List T) × (List T) × (List T) × Int)
  | 0, _ => none
  | m + 1, s => l_jumps_all_4_B n (l_jumps_all_4 n m) s
def m_jumps_all (n : Nat) (a0 : List T) (a1 : List T) : Option ((List T)) :=
Option.bind (l_jumps_all_4 n n (([] : List T), a1, ((List.length a1 : Nat) : Int), 0, a0, a1, 0)) fun p3 =>
some p3.1
def enc_jumps_all (r : (List T)) : V := (V.own 13 r)
def encS_jumps_all (r : (List T)) : Sig := []
def ok_jumps_all (m : List T → List T → Option ((List T))) : Prop := ∀ (a0 : List T) (a1 : List T) (r : (List T)), m a0 a1 = some r → FuncOk Try.prog 20 [(V.agg [(V.t (T.list a0)), (V.t (T.list a1))])] [] (enc_jumps_all r) (encS_jumps_all r)
def c_jumps_all (m : List T → List T → Option ((List T))) (vs : List V) (sg : Sig) : Option CallM := bif Nat.beq vs.length 1 && Nat.beq sg.length 0 then Option.bind (V.aggN 2 (vs.getD 0 .any)) fun u0 => Option.bind (V.lstOf (u0.getD 0 .any)) fun u1 => Option.bind (V.lstOf (u0.getD 1 .any)) fun u2 => some { α := (List T), m := m u1 u2, dflt := [], enc := fun y => ((V.own 13 y), []) } else none
theorem c_jumps_all_ok (m : List T → List T → Option ((List T))) (hm : ok_jumps_all m) (vs : List V) (sg : Sig) (cm : CallM) (x : cm.α) (h : c_jumps_all m vs sg = some cm) (hx : cm.m = some x) : FuncOk Try.prog 20 vs sg (cm.enc x).1 (cm.enc x).2 := by
  unfold c_jumps_all at h
  have h0 := callee_sig h
  clear h
  obtain ⟨hl, hs, h⟩ := h0
  obtain ⟨u0, hu0, h⟩ := Option.bind_eq_some_iff.1 h
  obtain ⟨u1, hu1, h⟩ := Option.bind_eq_some_iff.1 h
  obtain ⟨u2, hu2, h⟩ := Option.bind_eq_some_iff.1 h
  simp only [Option.some.injEq] at h
  subst h
  exact (hm u1 u2 x hx).wk (args_wk hl (.cons (aggN_wk hu0 (.cons (lstOf_wk hu1) (.cons (lstOf_wk hu2) .nil))) .nil)) (wkSg_of hs .nil)
noncomputable def code_jumps_all : Code := Try.f20.body.getD .skip
def l_jumps_all_4_S (n : Nat) (R : Type) (E : SEnv) (sg : Sig) (K : Ex → SEnv → Sig → Option R) : Option R := Option.bind (V.ownOf 13 (SEnv.at E 3)) fun u0 => Option.bind (V.ptrOf 1 0 (SEnv.at E 4)) fun u1 => Option.bind (V.lstOf (SEnv.at E 8)) fun u2 => Option.bind (V.intOf .i64 (SEnv.at E 9)) fun u3 => Option.bind (V.intOf .i64 (SEnv.at E 10)) fun u4 => Option.bind (cellsN 2 sg 0) fun u5 => Option.bind (V.lstOf (u5.getD 0 .any)) fun u6 => Option.bind (V.lstOf (u5.getD 1 .any)) fun u7 => Option.bind (cellsN 1 sg 1) fun u8 => Option.bind (V.intOf .i64 (u8.getD 0 .any)) fun u9 => Option.bind (l_jumps_all_4 n n (u0, u2, u3, u4, u6, u7, u9)) fun p0 => K (.exit 0) [(3, (V.own 13 p0.1))] [some [(V.t (T.list p0.2.1)), (V.t (T.list p0.2.2.1))], some [(V.t (T.sc (.int .i64 p0.2.2.2)))]]
noncomputable def sp_jumps_all (n : Nat) : Go.Eng.Spec := ⟨fun f vs sg => (match f with
    | 31 => c_jumps_place_v2 (m_jumps_place_v2 n) vs sg
    | _ => none), fun R key E sg K => (match key with
    | 4 => l_jumps_all_4_S n R E sg K
    | _ => none)⟩
theorem sp_jumps_all_ok (n : Nat) : CallsOk Try.prog (sp_jumps_all n) := by
  intro f vs sg cm x h hx
  simp only [sp_jumps_all] at h
  split at h
  · exact c_jumps_place_v2_ok _ (m_jumps_place_v2_ok n) vs sg cm x h hx
  · cases h
theorem code_jumps_all_fn : Try.prog.funcs[20]? = some Try.f20 := Try.func20
theorem code_jumps_all_body : Try.f20.body = some code_jumps_all := by kernel_rfl
theorem code_jumps_all_ok : CodeOk Try.prog code_jumps_all := (sound 20 _ _ code_jumps_all_fn code_jumps_all_body).1
noncomputable def code_l_jumps_all_4 : Code := (loopsOf code_jumps_all).getD 0 .skip
theorem code_l_jumps_all_4_ok : CodeOk Try.prog code_l_jumps_all_4 := codeOk_loops code_jumps_all_ok _ (getD_mem (by kernel_rfl))
def l_jumps_all_4_K (k : (List T) × (List T) × Int × Int × (List T) × (List T) × Int → Option ((List T) × (List T) × (List T) × Int)) : Ex → SEnv → Sig → Option ((List T) × (List T) × (List T) × Int) := fun x E sg => match x with
  | .normal => Option.bind (V.ownOf 13 (SEnv.at E 3)) fun u0 => Option.bind (V.ptrOf 1 0 (SEnv.at E 4)) fun u1 => Option.bind (V.lstOf (SEnv.at E 8)) fun u2 => Option.bind (V.intOf .i64 (SEnv.at E 9)) fun u3 => Option.bind (V.intOf .i64 (SEnv.at E 10)) fun u4 => Option.bind (cellsN 2 sg 0) fun u5 => Option.bind (V.lstOf (u5.getD 0 .any)) fun u6 => Option.bind (V.lstOf (u5.getD 1 .any)) fun u7 => Option.bind (cellsN 1 sg 1) fun u8 => Option.bind (V.intOf .i64 (u8.getD 0 .any)) fun u9 => k (u0, u2, u3, u4, u6, u7, u9)
  | (.exit 0) => Option.bind (V.ownOf 13 (SEnv.at E 3)) fun u0 => Option.bind (cellsN 2 sg 0) fun u1 => Option.bind (V.lstOf (u1.getD 0 .any)) fun u2 => Option.bind (V.lstOf (u1.getD 1 .any)) fun u3 => Option.bind (cellsN 1 sg 1) fun u4 => Option.bind (V.intOf .i64 (u4.getD 0 .any)) fun u5 => some (u0, u2, u3, u5)
  | _ => none
theorem l_jumps_all_4_eq (n : Nat) (k : (List T) × (List T) × Int × Int × (List T) × (List T) × Int → Option ((List T) × (List T) × (List T) × Int)) (s0 : List T) (s1 : List T) (s2 : Int) (s3 : Int) (s4 : List T) (s5 : List T) (s6 : Int) : mX Try.prog (sp_jumps_all n) 21 code_l_jumps_all_4 [(3, (V.own 13 s0)), (4, (V.ptr 1 0)), (8, (V.t (T.list s1))), (9, (V.t (T.sc (.int .i64 s2)))), (10, (V.t (T.sc (.int .i64 s3))))] [some [(V.t (T.list s4)), (V.t (T.list s5))], some [(V.t (T.sc (.int .i64 s6)))]] (l_jumps_all_4_K k) = l_jumps_all_4_B n k (s0, s1, s2, s3, s4, s5, s6) := by kernel_rfl
def l_jumps_all_4_Q (x : (List T) × (List T) × (List T) × Int) (ex : Ex) (e : Env) (s : Sig) : Prop := (fun p0 => (ex = (.exit 0) ∧ e = SEnv.env 21 [(3, (V.own 13 p0.1))] ∧ s = [some [(V.t (T.list p0.2.1)), (V.t (T.list p0.2.2.1))], some [(V.t (T.sc (.int .i64 p0.2.2.2)))]])) x
theorem l_jumps_all_4_run (n : Nat) : ∀ (m : Nat) (s0 : List T) (s1 : List T) (s2 : Int) (s3 : Int) (s4 : List T) (s5 : List T) (s6 : Int) (x : (List T) × (List T) × (List T) × Int), l_jumps_all_4 n m (s0, s1, s2, s3, s4, s5, s6) = some x → SemL Try.prog 0 code_l_jumps_all_4 (SEnv.env 21 [(3, (V.own 13 s0)), (4, (V.ptr 1 0)), (8, (V.t (T.list s1))), (9, (V.t (T.sc (.int .i64 s2)))), (10, (V.t (T.sc (.int .i64 s3))))]) [some [(V.t (T.list s4)), (V.t (T.list s5))], some [(V.t (T.sc (.int .i64 s6)))]] (l_jumps_all_4_Q x)
  | 0, s0, s1, s2, s3, s4, s5, s6, x, h => by cases h
  | m + 1, s0, s1, s2, s3, s4, s5, s6, x, h => by
    refine loop_step (sp_jumps_all_ok n) code_l_jumps_all_4_ok (fun a ha => absurd ha (by rw [show loopsOf code_l_jumps_all_4 = [] from by kernel_rfl]; simp)) (no_scope (by kernel_rfl)) ((l_jumps_all_4_eq n _ s0 s1 s2 s3 s4 s5 s6).trans h) (fun E sg h => ?_) (fun ex E sg hne h => ?_)
    · simp only [l_jumps_all_4_K] at h
      obtain ⟨u0, hu0, h⟩ := Option.bind_eq_some_iff.1 h
      obtain ⟨u1, hu1, h⟩ := Option.bind_eq_some_iff.1 h
      obtain ⟨u2, hu2, h⟩ := Option.bind_eq_some_iff.1 h
      obtain ⟨u3, hu3, h⟩ := Option.bind_eq_some_iff.1 h
      obtain ⟨u4, hu4, h⟩ := Option.bind_eq_some_iff.1 h
      obtain ⟨u5, hu5, h⟩ := Option.bind_eq_some_iff.1 h
      obtain ⟨u6, hu6, h⟩ := Option.bind_eq_some_iff.1 h
      obtain ⟨u7, hu7, h⟩ := Option.bind_eq_some_iff.1 h
      obtain ⟨u8, hu8, h⟩ := Option.bind_eq_some_iff.1 h
      obtain ⟨u9, hu9, h⟩ := Option.bind_eq_some_iff.1 h
      exact SemL.pre (k := 2) (by decide) (WkA.env (WkA.cons (ownOf_wk hu0) rfl (WkA.cons (ptrOf_wk hu1) rfl (WkA.cons (lstOf_wk hu2) rfl (WkA.cons (intOf_wk hu3) rfl (WkA.cons (intOf_wk hu4) rfl WkA.nil))))) 21) (wkR_sig (WkR.cons (cellsN_wk hu5 (.cons (lstOf_wk hu6) (.cons (lstOf_wk hu7) .nil))).1 (cellsN_wk hu5 (.cons (lstOf_wk hu6) (.cons (lstOf_wk hu7) .nil))).2 (renL_mem (.cons rfl (.cons rfl .nil))) (WkR.cons (cellsN_wk hu8 (.cons (intOf_wk hu9) .nil)).1 (cellsN_wk hu8 (.cons (intOf_wk hu9) .nil)).2 (renL_mem (.cons rfl .nil)) (WkR.nil _))) rfl) (l_jumps_all_4_run n m _ _ _ _ _ _ _ x h)
    · unfold l_jumps_all_4_K at h
      split at h
      · exact absurd rfl hne
      · obtain ⟨u0, hu0, h⟩ := Option.bind_eq_some_iff.1 h
        obtain ⟨u1, hu1, h⟩ := Option.bind_eq_some_iff.1 h
        obtain ⟨u2, hu2, h⟩ := Option.bind_eq_some_iff.1 h
        obtain ⟨u3, hu3, h⟩ := Option.bind_eq_some_iff.1 h
        obtain ⟨u4, hu4, h⟩ := Option.bind_eq_some_iff.1 h
        obtain ⟨u5, hu5, h⟩ := Option.bind_eq_some_iff.1 h
        simp only [Option.some.injEq] at h
        subst h
        exact ⟨2, _, _, by decide, WkA.env (WkA.cons (ownOf_wk hu0) rfl WkA.nil) 21, (wkR_sig (WkR.cons (cellsN_wk hu1 (.cons (lstOf_wk hu2) (.cons (lstOf_wk hu3) .nil))).1 (cellsN_wk hu1 (.cons (lstOf_wk hu2) (.cons (lstOf_wk hu3) .nil))).2 (renL_mem (.cons rfl (.cons rfl .nil))) (WkR.cons (cellsN_wk hu4 (.cons (intOf_wk hu5) .nil)).1 (cellsN_wk hu4 (.cons (intOf_wk hu5) .nil)).2 (renL_mem (.cons rfl .nil)) (WkR.nil _))) rfl), rfl, rfl, rfl⟩
      · cases h
theorem l_jumps_all_4_ok (n : Nat) : LoopOk Try.prog (sp_jumps_all n) 0 21 code_l_jumps_all_4 := by
    intro R key E sg K r hk h
    rw [show Go.Eng.keyOf code_l_jumps_all_4 = some 4 from by kernel_rfl] at hk
    cases hk
    have h : l_jumps_all_4_S n R E sg K = some r := h
    unfold l_jumps_all_4_S at h
    obtain ⟨u0, hu0, h⟩ := Option.bind_eq_some_iff.1 h
    obtain ⟨u1, hu1, h⟩ := Option.bind_eq_some_iff.1 h
    obtain ⟨u2, hu2, h⟩ := Option.bind_eq_some_iff.1 h
    obtain ⟨u3, hu3, h⟩ := Option.bind_eq_some_iff.1 h
    obtain ⟨u4, hu4, h⟩ := Option.bind_eq_some_iff.1 h
    obtain ⟨u5, hu5, h⟩ := Option.bind_eq_some_iff.1 h
    obtain ⟨u6, hu6, h⟩ := Option.bind_eq_some_iff.1 h
    obtain ⟨u7, hu7, h⟩ := Option.bind_eq_some_iff.1 h
    obtain ⟨u8, hu8, h⟩ := Option.bind_eq_some_iff.1 h
    obtain ⟨u9, hu9, h⟩ := Option.bind_eq_some_iff.1 h
    obtain ⟨x, hx, h⟩ := Option.bind_eq_some_iff.1 h
    refine (SemL.pre (k := 2) (by decide) (WkA.env (WkA.cons (ownOf_wk hu0) rfl (WkA.cons (ptrOf_wk hu1) rfl (WkA.cons (lstOf_wk hu2) rfl (WkA.cons (intOf_wk hu3) rfl (WkA.cons (intOf_wk hu4) rfl WkA.nil))))) 21) (wkR_sig (WkR.cons (cellsN_wk hu5 (.cons (lstOf_wk hu6) (.cons (lstOf_wk hu7) .nil))).1 (cellsN_wk hu5 (.cons (lstOf_wk hu6) (.cons (lstOf_wk hu7) .nil))).2 (renL_mem (.cons rfl (.cons rfl .nil))) (WkR.cons (cellsN_wk hu8 (.cons (intOf_wk hu9) .nil)).1 (cellsN_wk hu8 (.cons (intOf_wk hu9) .nil)).2 (renL_mem (.cons rfl .nil)) (WkR.nil _))) rfl) (l_jumps_all_4_run n n _ _ _ _ _ _ _ x hx)).mono ?_
    intro ex e s hq
    obtain ⟨rfl, rfl, rfl⟩ := hq
    exact ⟨_, rfl, h⟩
def K_jumps_all (v : V) (s : Sig) : Option ((List T)) := Option.bind (V.ownOf 13 v) fun u0 => some u0
theorem K_jumps_all_wk {v : V} {s : Sig} {r : (List T)} (h : K_jumps_all v s = some r) : Wk v (enc_jumps_all r) ∧ WkS 0 s (encS_jumps_all r) := by
  unfold K_jumps_all at h
  obtain ⟨u0, hu0, h⟩ := Option.bind_eq_some_iff.1 h
  simp only [Option.some.injEq] at h
  subst h
  exact ⟨(ownOf_wk hu0), (WkS.none _)⟩
theorem m_jumps_all_eq (n : Nat) (a0 : List T) (a1 : List T) : mF Try.prog (sp_jumps_all n) 20 [(V.agg [(V.t (T.list a0)), (V.t (T.list a1))])] [] K_jumps_all = m_jumps_all n a0 a1 := by kernel_rfl
theorem m_jumps_all_ok (n : Nat) : ok_jumps_all (m_jumps_all n) := fun a0 a1 r h => mF_ok sound (sp_jumps_all_ok n) code_jumps_all_fn code_jumps_all_body (forall_getD (d := .skip) 1 (by kernel_rfl) (fun i hi => match i, hi with | 0, _ => l_jumps_all_4_ok n | i + 1, hi => absurd hi (by omega))) (no_scope (by kernel_rfl)) ((m_jumps_all_eq n a0 a1).trans h) (fun v s hk => ⟨(K_jumps_all_wk hk).1, rfl, (K_jumps_all_wk hk).2⟩)


end Go.Proofs.Ytgpokdaacbjimab.W
