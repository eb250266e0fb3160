/- What the engine's walk comes to, printed by a program of this work: for each function its model, and that it is one. No conditions. -/
import Derived.Test.YtbcgpjlkkcdmmaaDoorOper
namespace Go.Proofs.YtbcgpjlkkcdmmaaDoor.W
open Go Go.Eng
set_option linter.unusedVariables false
set_option linter.unusedSimpArgs false
set_option maxRecDepth 100000


/-! strings.Count: from elsewhere -/
def m_strings_Count (n : Nat) (a0 : ByteArray) (a1 : ByteArray) : Option (Int) := cntM a0 a1
def d_strings_Count : FnF := ⟨30, [.str, .str], [.int .i64]⟩
theorem m_strings_Count_ok (n : Nat) : Ok Tryd.prog d_strings_Count (m_strings_Count n) := fun a r h => x_strings_Count (show cntM a.1 a.2.1 = some r from h)


/-! strings.LastIndexByte: from elsewhere -/
def m_strings_LastIndexByte (n : Nat) (a0 : ByteArray) (a1 : Int) : Option (Int) := lastM a0 a1
def d_strings_LastIndexByte : FnF := ⟨31, [.str, .int .u8], [.int .i64]⟩
theorem m_strings_LastIndexByte_ok (n : Nat) : Ok Tryd.prog d_strings_LastIndexByte (m_strings_LastIndexByte n) := fun a r h => x_strings_LastIndexByte (show lastM a.1 a.2.1 = some r from h)


/-! suture/place.Of -/
def m_place_Of (n : Nat) (a0 : ByteArray) (a1 : Int) : Option ((Nat × Nat)) :=
must true (decide (0 ≤ 0) && decide (0 ≤ (if (0 : Int) < (if (((ByteArray.size a0 : Nat) : Int) : Int) < a1 then ((ByteArray.size a0 : Nat) : Int) else a1) then (if (((ByteArray.size a0 : Nat) : Int) : Int) < a1 then ((ByteArray.size a0 : Nat) : Int) else a1) else 0)) && decide ((if (0 : Int) < (if (((ByteArray.size a0 : Nat) : Int) : Int) < a1 then ((ByteArray.size a0 : Nat) : Int) else a1) then (if (((ByteArray.size a0 : Nat) : Int) : Int) < a1 then ((ByteArray.size a0 : Nat) : Int) else a1) else 0) ≤ ((ByteArray.size a0 : Nat) : Int))) (Option.bind (m_strings_Count n (ByteArray.extract a0 (Int.toNat 0) (Int.toNat (if (0 : Int) < (if (((ByteArray.size a0 : Nat) : Int) : Int) < a1 then ((ByteArray.size a0 : Nat) : Int) else a1) then (if (((ByteArray.size a0 : Nat) : Int) : Int) < a1 then ((ByteArray.size a0 : Nat) : Int) else a1) else 0))) (⟨#[10]⟩ : ByteArray)) fun r0 =>
Option.bind (m_strings_LastIndexByte n (ByteArray.extract a0 (Int.toNat 0) (Int.toNat (if (0 : Int) < (if (((ByteArray.size a0 : Nat) : Int) : Int) < a1 then ((ByteArray.size a0 : Nat) : Int) else a1) then (if (((ByteArray.size a0 : Nat) : Int) : Int) < a1 then ((ByteArray.size a0 : Nat) : Int) else a1) else 0))) 10) fun r1 =>
some ((FloatKind.nearest .f64 (IntKind.wrap .i64 (1 + r0))), (FloatKind.nearest .f64 (IntKind.wrap .i64 (((ByteArray.size (ByteArray.extract a0 (Int.toNat 0) (Int.toNat (if (0 : Int) < (if (((ByteArray.size a0 : Nat) : Int) : Int) < a1 then ((ByteArray.size a0 : Nat) : Int) else a1) then (if (((ByteArray.size a0 : Nat) : Int) : Int) < a1 then ((ByteArray.size a0 : Nat) : Int) else a1) else 0))) : Nat) : Int) - r1)))))
def d_place_Of : FnF := ⟨12, [.str, .int .i64], [.cplx .f64]⟩
theorem m_place_Of_ok (n : Nat) : Ok Tryd.prog d_place_Of (m_place_Of n) := fnOk0 sound [⟨d_strings_Count, m_strings_Count n, m_strings_Count_ok n⟩, ⟨d_strings_LastIndexByte, m_strings_LastIndexByte n, m_strings_LastIndexByte_ok n⟩] Tryd.func12 (by kernel_rfl) (fun a => by kernel_rfl)


/-! suture/lex.Tokens$1 -/
def m_lex_Tokens_1 (n : Nat) (a0 : Int) : Option (Bool) :=
some (bif (bif ((a0 : Int) == 32) then true else ((a0 : Int) == 9)) then true else ((a0 : Int) == 10))
def d_lex_Tokens_1 : FnF := ⟨14, [.int .u8], [.bool]⟩
theorem m_lex_Tokens_1_ok (n : Nat) : Ok Tryd.prog d_lex_Tokens_1 (m_lex_Tokens_1 n) := fnOk0 sound [] Tryd.func14 (by kernel_rfl) (fun a => by kernel_rfl)


/-! suture/lex.run -/
def l_lex_run_2_B (n : Nat) (k : ByteArray × Int → Option (Int)) : ByteArray × Int → Option (Int) := fun (s0, s1) =>
Option.bind (bidx ((decide ((s1 : Int) < ((ByteArray.size s0 : Nat) : Int)))) s0 s1) fun b0 =>
Option.bind (bif (decide ((s1 : Int) < ((ByteArray.size s0 : Nat) : Int))) then m_lex_Tokens_1 n ((UInt8.toNat b0 : Nat) : Int) else some false) fun r1 =>
bif (bif (decide ((s1 : Int) < ((ByteArray.size s0 : Nat) : Int))) then r1 else false) then (
k (s0, (IntKind.wrap .i64 (s1 + 1))))
else (
some s1)
def l_lex_run_2 (n : Nat) : Nat → ByteArray × Int → Option (Int)
  | 0, _ => none
  | m + 1, s => l_lex_run_2_B n (l_lex_run_2 n m) s
def m_lex_run (n : Nat) (a0 : ByteArray) : Option (Int) :=
Option.bind (l_lex_run_2 n n (a0, 0)) fun p3 =>
some p3
def d_lex_run : FnF := ⟨13, [.str, .fn 14 0], [.int .i64]⟩
def cs_lex_run (n : Nat) : List (CalF Tryd.prog) := [⟨d_lex_Tokens_1, m_lex_Tokens_1 n, m_lex_Tokens_1_ok n⟩]
def L_l_lex_run_2 : LF := ⟨2, [0, 1, 5], [.str, .fn 14 0, .int .i64], [⟨(.exit 0), [5], [.int .i64]⟩]⟩
def ls_lex_run (n : Nat) : List LE := [⟨2, loopS L_l_lex_run_2 (l_lex_run_2 n n)⟩]
theorem l_lex_run_2_ok (n : Nat) : LoopOk Tryd.prog (mkSpec (cs_lex_run n) (ls_lex_run n)) 0 20 (loopAt Tryd.f13 0) := loopOk (L := L_l_lex_run_2) (f := l_lex_run_2 n) (B := l_lex_run_2_B n) (k := n) (loopAt_ok sound Tryd.func13 (by kernel_rfl)) (inner (by kernel_rfl) allN) (innerS (by kernel_rfl) allN) (fun _ => rfl) (fun _ _ => rfl) (by kernel_rfl) (fun _ => by kernel_rfl) (by kernel_rfl) (fun k a => by kernel_rfl)
theorem m_lex_run_ok (n : Nat) : Ok Tryd.prog d_lex_run (m_lex_run n) := fnOk sound (cs := cs_lex_run n) (ls := ls_lex_run n) (n := 20) Tryd.func13 (by kernel_rfl) (fun _ => by kernel_rfl) (inner (by kernel_rfl) (allC (l_lex_run_2_ok n) allN)) (innerS (by kernel_rfl) allN) (by kernel_rfl) (fun a => by kernel_rfl)


/-! suture/lex.letter -/
def m_lex_letter (n : Nat) (a0 : Int) : Option (Bool) :=
some (bif (decide ((a0 : Int) ≥ 97)) then (decide ((a0 : Int) ≤ 122)) else false)
def d_lex_letter : FnF := ⟨15, [.int .u8], [.bool]⟩
theorem m_lex_letter_ok (n : Nat) : Ok Tryd.prog d_lex_letter (m_lex_letter n) := fnOk0 sound [] Tryd.func15 (by kernel_rfl) (fun a => by kernel_rfl)


/-! suture/lex.digit -/
def m_lex_digit (n : Nat) (a0 : Int) : Option (Bool) :=
some (bif (decide ((a0 : Int) ≥ 48)) then (decide ((a0 : Int) ≤ 57)) else false)
def d_lex_digit : FnF := ⟨16, [.int .u8], [.bool]⟩
theorem m_lex_digit_ok (n : Nat) : Ok Tryd.prog d_lex_digit (m_lex_digit n) := fnOk0 sound [] Tryd.func16 (by kernel_rfl) (fun a => by kernel_rfl)


/-! internal/stringslite.HasPrefix -/
def m_internal_stringslite_HasPrefix (n : Nat) (a0 : ByteArray) (a1 : ByteArray) : Option (Bool) :=
must ((decide ((((ByteArray.size a0 : Nat) : Int) : Int) ≥ ((ByteArray.size a1 : Nat) : Int)))) (decide (0 ≤ 0) && decide (0 ≤ ((ByteArray.size a1 : Nat) : Int)) && decide (((ByteArray.size a1 : Nat) : Int) ≤ ((ByteArray.size a0 : Nat) : Int))) (some (bif (decide ((((ByteArray.size a0 : Nat) : Int) : Int) ≥ ((ByteArray.size a1 : Nat) : Int))) then (ByteArray.toList (ByteArray.extract a0 (Int.toNat 0) (Int.toNat ((ByteArray.size a1 : Nat) : Int))) == ByteArray.toList a1) else false))
def d_internal_stringslite_HasPrefix : FnF := ⟨32, [.str, .str], [.bool]⟩
theorem m_internal_stringslite_HasPrefix_ok (n : Nat) : Ok Tryd.prog d_internal_stringslite_HasPrefix (m_internal_stringslite_HasPrefix n) := fnOk0 sound [] Tryd.func32 (by kernel_rfl) (fun a => by kernel_rfl)


/-! strings.HasPrefix -/
def m_strings_HasPrefix (n : Nat) (a0 : ByteArray) (a1 : ByteArray) : Option (Bool) :=
Option.bind (m_internal_stringslite_HasPrefix n a0 a1) fun r0 =>
some r0
def d_strings_HasPrefix : FnF := ⟨17, [.str, .str], [.bool]⟩
theorem m_strings_HasPrefix_ok (n : Nat) : Ok Tryd.prog d_strings_HasPrefix (m_strings_HasPrefix n) := fnOk0 sound [⟨d_internal_stringslite_HasPrefix, m_internal_stringslite_HasPrefix n, m_internal_stringslite_HasPrefix_ok n⟩] Tryd.func17 (by kernel_rfl) (fun a => by kernel_rfl)


/-! strings.IndexByte: from elsewhere -/
def m_strings_IndexByte (n : Nat) (a0 : ByteArray) (a1 : Int) : Option (Int) := indexM a0 a1
def d_strings_IndexByte : FnF := ⟨18, [.str, .int .u8], [.int .i64]⟩
theorem m_strings_IndexByte_ok (n : Nat) : Ok Tryd.prog d_strings_IndexByte (m_strings_IndexByte n) := fun a r h => x_strings_IndexByte (show indexM a.1 a.2.1 = some r from h)


/-! slices.Clip[[]suture/lex.Token,suture/lex.Token] -/
def m_slices_Clip___lex_Token_lex_Token_ (n : Nat) (a0 : List T) : Option ((List T)) :=
must true (decide (0 ≤ 0) && decide (0 ≤ ((List.length a0 : Nat) : Int)) && decide (((List.length a0 : Nat) : Int) ≤ ((List.length a0 : Nat) : Int)) && sized 4 a0) (must true (decide (((List.length a0 : Nat) : Int) = ((List.length a0 : Nat) : Int))) (some (List.drop (Int.toNat 0) (List.take (Int.toNat ((List.length a0 : Nat) : Int)) a0))))
def d_slices_Clip___lex_Token_lex_Token_ : FnF := ⟨23, [.list], [.own 4]⟩
theorem m_slices_Clip___lex_Token_lex_Token__ok (n : Nat) : Ok Tryd.prog d_slices_Clip___lex_Token_lex_Token_ (m_slices_Clip___lex_Token_lex_Token_ n) := fnOk0 sound [] Tryd.func23 (by kernel_rfl) (fun a => by kernel_rfl)


/-! suture/lex.Tokens$2 -/
def m_lex_Tokens_2 (n : Nat) (a0 : Int) : Option (Bool) :=
some ((a0 : Int) != 10)
def d_lex_Tokens_2 : FnF := ⟨19, [.int .u8], [.bool]⟩
theorem m_lex_Tokens_2_ok (n : Nat) : Ok Tryd.prog d_lex_Tokens_2 (m_lex_Tokens_2 n) := fnOk0 sound [] Tryd.func19 (by kernel_rfl) (fun a => by kernel_rfl)


/-! suture/lex.run -/
def l_lex_run_v2_2_B (n : Nat) (k : ByteArray × Int → Option (Int)) : ByteArray × Int → Option (Int) := fun (s0, s1) =>
Option.bind (bidx ((decide ((s1 : Int) < ((ByteArray.size s0 : Nat) : Int)))) s0 s1) fun b0 =>
Option.bind (bif (decide ((s1 : Int) < ((ByteArray.size s0 : Nat) : Int))) then m_lex_Tokens_2 n ((UInt8.toNat b0 : Nat) : Int) else some false) fun r1 =>
bif (bif (decide ((s1 : Int) < ((ByteArray.size s0 : Nat) : Int))) then r1 else false) then (
k (s0, (IntKind.wrap .i64 (s1 + 1))))
else (
some s1)
def l_lex_run_v2_2 (n : Nat) : Nat → ByteArray × Int → Option (Int)
  | 0, _ => none
  | m + 1, s => l_lex_run_v2_2_B n (l_lex_run_v2_2 n m) s
def m_lex_run_v2 (n : Nat) (a0 : ByteArray) : Option (Int) :=
Option.bind (l_lex_run_v2_2 n n (a0, 0)) fun p3 =>
some p3
def d_lex_run_v2 : FnF := ⟨13, [.str, .fn 19 0], [.int .i64]⟩
def cs_lex_run_v2 (n : Nat) : List (CalF Tryd.prog) := [⟨d_lex_Tokens_2, m_lex_Tokens_2 n, m_lex_Tokens_2_ok n⟩]
def L_l_lex_run_v2_2 : LF := ⟨2, [0, 1, 5], [.str, .fn 19 0, .int .i64], [⟨(.exit 0), [5], [.int .i64]⟩]⟩
def ls_lex_run_v2 (n : Nat) : List LE := [⟨2, loopS L_l_lex_run_v2_2 (l_lex_run_v2_2 n n)⟩]
theorem l_lex_run_v2_2_ok (n : Nat) : LoopOk Tryd.prog (mkSpec (cs_lex_run_v2 n) (ls_lex_run_v2 n)) 0 20 (loopAt Tryd.f13 0) := loopOk (L := L_l_lex_run_v2_2) (f := l_lex_run_v2_2 n) (B := l_lex_run_v2_2_B n) (k := n) (loopAt_ok sound Tryd.func13 (by kernel_rfl)) (inner (by kernel_rfl) allN) (innerS (by kernel_rfl) allN) (fun _ => rfl) (fun _ _ => rfl) (by kernel_rfl) (fun _ => by kernel_rfl) (by kernel_rfl) (fun k a => by kernel_rfl)
theorem m_lex_run_v2_ok (n : Nat) : Ok Tryd.prog d_lex_run_v2 (m_lex_run_v2 n) := fnOk sound (cs := cs_lex_run_v2 n) (ls := ls_lex_run_v2 n) (n := 20) Tryd.func13 (by kernel_rfl) (fun _ => by kernel_rfl) (inner (by kernel_rfl) (allC (l_lex_run_v2_2_ok n) allN)) (innerS (by kernel_rfl) allN) (by kernel_rfl) (fun a => by kernel_rfl)


/-! suture/lex.word$1 -/
def m_lex_word_1 (n : Nat) (a0 : Int) : Option (Bool) :=
Option.bind (m_lex_letter n a0) fun r0 =>
Option.bind (bif !r0 then m_lex_digit n a0 else some false) fun r1 =>
some (bif r0 then true else r1)
def d_lex_word_1 : FnF := ⟨34, [.int .u8], [.bool]⟩
theorem m_lex_word_1_ok (n : Nat) : Ok Tryd.prog d_lex_word_1 (m_lex_word_1 n) := fnOk0 sound [⟨d_lex_letter, m_lex_letter n, m_lex_letter_ok n⟩, ⟨d_lex_digit, m_lex_digit n, m_lex_digit_ok n⟩] Tryd.func34 (by kernel_rfl) (fun a => by kernel_rfl)


/-! suture/lex.run -/
def l_lex_run_v3_2_B (n : Nat) (k : ByteArray × Int → Option (Int)) : ByteArray × Int → Option (Int) := fun (s0, s1) =>
Option.bind (bidx ((decide ((s1 : Int) < ((ByteArray.size s0 : Nat) : Int)))) s0 s1) fun b0 =>
Option.bind (bif (decide ((s1 : Int) < ((ByteArray.size s0 : Nat) : Int))) then m_lex_word_1 n ((UInt8.toNat b0 : Nat) : Int) else some false) fun r1 =>
bif (bif (decide ((s1 : Int) < ((ByteArray.size s0 : Nat) : Int))) then r1 else false) then (
k (s0, (IntKind.wrap .i64 (s1 + 1))))
else (
some s1)
def l_lex_run_v3_2 (n : Nat) : Nat → ByteArray × Int → Option (Int)
  | 0, _ => none
  | m + 1, s => l_lex_run_v3_2_B n (l_lex_run_v3_2 n m) s
def m_lex_run_v3 (n : Nat) (a0 : ByteArray) : Option (Int) :=
Option.bind (l_lex_run_v3_2 n n (a0, 0)) fun p3 =>
some p3
def d_lex_run_v3 : FnF := ⟨13, [.str, .fn 34 0], [.int .i64]⟩
def cs_lex_run_v3 (n : Nat) : List (CalF Tryd.prog) := [⟨d_lex_word_1, m_lex_word_1 n, m_lex_word_1_ok n⟩]
def L_l_lex_run_v3_2 : LF := ⟨2, [0, 1, 5], [.str, .fn 34 0, .int .i64], [⟨(.exit 0), [5], [.int .i64]⟩]⟩
def ls_lex_run_v3 (n : Nat) : List LE := [⟨2, loopS L_l_lex_run_v3_2 (l_lex_run_v3_2 n n)⟩]
theorem l_lex_run_v3_2_ok (n : Nat) : LoopOk Tryd.prog (mkSpec (cs_lex_run_v3 n) (ls_lex_run_v3 n)) 0 20 (loopAt Tryd.f13 0) := loopOk (L := L_l_lex_run_v3_2) (f := l_lex_run_v3_2 n) (B := l_lex_run_v3_2_B n) (k := n) (loopAt_ok sound Tryd.func13 (by kernel_rfl)) (inner (by kernel_rfl) allN) (innerS (by kernel_rfl) allN) (fun _ => rfl) (fun _ _ => rfl) (by kernel_rfl) (fun _ => by kernel_rfl) (by kernel_rfl) (fun k a => by kernel_rfl)
theorem m_lex_run_v3_ok (n : Nat) : Ok Tryd.prog d_lex_run_v3 (m_lex_run_v3 n) := fnOk sound (cs := cs_lex_run_v3 n) (ls := ls_lex_run_v3 n) (n := 20) Tryd.func13 (by kernel_rfl) (fun _ => by kernel_rfl) (inner (by kernel_rfl) (allC (l_lex_run_v3_2_ok n) allN)) (innerS (by kernel_rfl) allN) (by kernel_rfl) (fun a => by kernel_rfl)


/-! suture/lex.word -/
def m_lex_word (n : Nat) (a0 : ByteArray) : Option (Int) :=
Option.bind (bidx (!(ByteArray.toList a0 == ByteArray.toList (⟨#[]⟩ : ByteArray))) a0 0) fun b0 =>
Option.bind (bif !(ByteArray.toList a0 == ByteArray.toList (⟨#[]⟩ : ByteArray)) then m_lex_letter n ((UInt8.toNat b0 : Nat) : Int) else some false) fun r1 =>
bif (bif (ByteArray.toList a0 == ByteArray.toList (⟨#[]⟩ : ByteArray)) then true else (!r1)) then (
some 0)
else (
Option.bind (m_lex_run_v3 n a0) fun r2 =>
bif (decide ((r2 : Int) > 12)) then (
some 0)
else (
some r2))
def d_lex_word : FnF := ⟨20, [.str], [.int .i64]⟩
theorem m_lex_word_ok (n : Nat) : Ok Tryd.prog d_lex_word (m_lex_word n) := fnOk0 sound [⟨d_lex_letter, m_lex_letter n, m_lex_letter_ok n⟩, ⟨d_lex_run_v3, m_lex_run_v3 n, m_lex_run_v3_ok n⟩] Tryd.func20 (by kernel_rfl) (fun a => by kernel_rfl)


/-! suture/lex.run -/
def l_lex_run_v4_2_B (n : Nat) (k : ByteArray × Int → Option (Int)) : ByteArray × Int → Option (Int) := fun (s0, s1) =>
Option.bind (bidx ((decide ((s1 : Int) < ((ByteArray.size s0 : Nat) : Int)))) s0 s1) fun b0 =>
Option.bind (bif (decide ((s1 : Int) < ((ByteArray.size s0 : Nat) : Int))) then m_lex_digit n ((UInt8.toNat b0 : Nat) : Int) else some false) fun r1 =>
bif (bif (decide ((s1 : Int) < ((ByteArray.size s0 : Nat) : Int))) then r1 else false) then (
k (s0, (IntKind.wrap .i64 (s1 + 1))))
else (
some s1)
def l_lex_run_v4_2 (n : Nat) : Nat → ByteArray × Int → Option (Int)
  | 0, _ => none
  | m + 1, s => l_lex_run_v4_2_B n (l_lex_run_v4_2 n m) s
def m_lex_run_v4 (n : Nat) (a0 : ByteArray) : Option (Int) :=
Option.bind (l_lex_run_v4_2 n n (a0, 0)) fun p3 =>
some p3
def d_lex_run_v4 : FnF := ⟨13, [.str, .fn 16 0], [.int .i64]⟩
def cs_lex_run_v4 (n : Nat) : List (CalF Tryd.prog) := [⟨d_lex_digit, m_lex_digit n, m_lex_digit_ok n⟩]
def L_l_lex_run_v4_2 : LF := ⟨2, [0, 1, 5], [.str, .fn 16 0, .int .i64], [⟨(.exit 0), [5], [.int .i64]⟩]⟩
def ls_lex_run_v4 (n : Nat) : List LE := [⟨2, loopS L_l_lex_run_v4_2 (l_lex_run_v4_2 n n)⟩]
theorem l_lex_run_v4_2_ok (n : Nat) : LoopOk Tryd.prog (mkSpec (cs_lex_run_v4 n) (ls_lex_run_v4 n)) 0 20 (loopAt Tryd.f13 0) := loopOk (L := L_l_lex_run_v4_2) (f := l_lex_run_v4_2 n) (B := l_lex_run_v4_2_B n) (k := n) (loopAt_ok sound Tryd.func13 (by kernel_rfl)) (inner (by kernel_rfl) allN) (innerS (by kernel_rfl) allN) (fun _ => rfl) (fun _ _ => rfl) (by kernel_rfl) (fun _ => by kernel_rfl) (by kernel_rfl) (fun k a => by kernel_rfl)
theorem m_lex_run_v4_ok (n : Nat) : Ok Tryd.prog d_lex_run_v4 (m_lex_run_v4 n) := fnOk sound (cs := cs_lex_run_v4 n) (ls := ls_lex_run_v4 n) (n := 20) Tryd.func13 (by kernel_rfl) (fun _ => by kernel_rfl) (inner (by kernel_rfl) (allC (l_lex_run_v4_2_ok n) allN)) (innerS (by kernel_rfl) allN) (by kernel_rfl) (fun a => by kernel_rfl)


/-! strconv.Atoi: from elsewhere -/
def m_strconv_Atoi (n : Nat) (a0 : ByteArray) : Option (Int) := atoiM a0
def d_strconv_Atoi : FnF := ⟨21, [.str], [.tup 2, .int .i64, .any]⟩
theorem m_strconv_Atoi_ok (n : Nat) : Ok Tryd.prog d_strconv_Atoi (m_strconv_Atoi n) := fun a r h => x_strconv_Atoi (show atoiM a.1 = some r from h)


/-! strconv.Itoa: from elsewhere -/
def m_strconv_Itoa (n : Nat) (a0 : Int) : Option (ByteArray) := itoaM a0
def d_strconv_Itoa : FnF := ⟨22, [.int .i64], [.str]⟩
theorem m_strconv_Itoa_ok (n : Nat) : Ok Tryd.prog d_strconv_Itoa (m_strconv_Itoa n) := fun a r h => x_strconv_Itoa (show itoaM a.1 = some r from h)


/-! suture/lex.Tokens -/
def j_lex_Tokens_0_B1 (n : Nat) (k : (((List T) × Int × ByteArray × Int × (Nat × Nat)) ⊕ ((ByteArray × (List T) × Int × Int × ByteArray × Int × (Nat × Nat)) ⊕ ((ByteArray × (List T) × Int × Int × ByteArray × Int × (Nat × Nat)) ⊕ ((ByteArray × (List T) × Int × Int × ByteArray × Int × (Nat × Nat)) ⊕ ((Int × ByteArray × Int × (Nat × Nat)) ⊕ ((ByteArray × (List T) × Int × Int × Int × ByteArray × Int × (Nat × Nat)) ⊕ ByteArray × (List T) × Int × Int × ByteArray × Int × (Nat × Nat))))))) → Option ((List T) × (Nat × Nat) × Int × Int × ByteArray × Int × (Nat × Nat))) : (List T) × Int × ByteArray × Int × (Nat × Nat) → Option ((List T) × (Nat × Nat) × Int × Int × ByteArray × Int × (Nat × Nat)) := fun (s0, s1, s2, s3, s4) =>
must true ((Nat.beq 4 4 || Nat.beq 4 0) && (decide (List.length s0 + List.length [(T.agg [(T.sc (.int .i64 4)), (T.sc (.string s2)), (T.sc (.int .i64 s3)), (T.sc (.complex .f64 s4.1 s4.2))])] ≤ 1073741824) && sized 4 [(T.agg [(T.sc (.int .i64 4)), (T.sc (.string s2)), (T.sc (.int .i64 s3)), (T.sc (.complex .f64 s4.1 s4.2))])])) (Option.bind (m_slices_Clip___lex_Token_lex_Token_ n (s0 ++ [(T.agg [(T.sc (.int .i64 4)), (T.sc (.string s2)), (T.sc (.int .i64 s3)), (T.sc (.complex .f64 s4.1 s4.2))])])) fun r3 =>
some (r3, (0, 0), 0, 4, s2, s3, s4))
def j_lex_Tokens_0_B2 (n : Nat) (k : (((List T) × Int × ByteArray × Int × (Nat × Nat)) ⊕ ((ByteArray × (List T) × Int × Int × ByteArray × Int × (Nat × Nat)) ⊕ ((ByteArray × (List T) × Int × Int × ByteArray × Int × (Nat × Nat)) ⊕ ((ByteArray × (List T) × Int × Int × ByteArray × Int × (Nat × Nat)) ⊕ ((Int × ByteArray × Int × (Nat × Nat)) ⊕ ((ByteArray × (List T) × Int × Int × Int × ByteArray × Int × (Nat × Nat)) ⊕ ByteArray × (List T) × Int × Int × ByteArray × Int × (Nat × Nat))))))) → Option ((List T) × (Nat × Nat) × Int × Int × ByteArray × Int × (Nat × Nat))) : ByteArray × (List T) × Int × Int × ByteArray × Int × (Nat × Nat) → Option ((List T) × (Nat × Nat) × Int × Int × ByteArray × Int × (Nat × Nat)) := fun (s0, s1, s2, s3, s4, s5, s6) =>
must true (decide (0 ≤ s2) && decide (s2 ≤ ((ByteArray.size s0 : Nat) : Int)) && decide (((ByteArray.size s0 : Nat) : Int) ≤ ((ByteArray.size s0 : Nat) : Int))) (Option.bind (m_lex_run_v2 n (ByteArray.extract s0 (Int.toNat s2) (Int.toNat ((ByteArray.size s0 : Nat) : Int)))) fun r4 =>
k (Sum.inr (Sum.inr (Sum.inr (Sum.inr (Sum.inr (Sum.inr (s0, s1, (IntKind.wrap .i64 (s2 + r4)), s3, s4, s5, s6))))))))
def j_lex_Tokens_0_B3 (n : Nat) (k : (((List T) × Int × ByteArray × Int × (Nat × Nat)) ⊕ ((ByteArray × (List T) × Int × Int × ByteArray × Int × (Nat × Nat)) ⊕ ((ByteArray × (List T) × Int × Int × ByteArray × Int × (Nat × Nat)) ⊕ ((ByteArray × (List T) × Int × Int × ByteArray × Int × (Nat × Nat)) ⊕ ((Int × ByteArray × Int × (Nat × Nat)) ⊕ ((ByteArray × (List T) × Int × Int × Int × ByteArray × Int × (Nat × Nat)) ⊕ ByteArray × (List T) × Int × Int × ByteArray × Int × (Nat × Nat))))))) → Option ((List T) × (Nat × Nat) × Int × Int × ByteArray × Int × (Nat × Nat))) : ByteArray × (List T) × Int × Int × ByteArray × Int × (Nat × Nat) → Option ((List T) × (Nat × Nat) × Int × Int × ByteArray × Int × (Nat × Nat)) := fun (s0, s1, s2, s3, s4, s5, s6) =>
must true (decide (0 ≤ s2) && decide (s2 ≤ ((ByteArray.size s0 : Nat) : Int)) && decide (((ByteArray.size s0 : Nat) : Int) ≤ ((ByteArray.size s0 : Nat) : Int))) (Option.bind (m_lex_word n (ByteArray.extract s0 (Int.toNat s2) (Int.toNat ((ByteArray.size s0 : Nat) : Int)))) fun r5 =>
k (Sum.inr (Sum.inr (Sum.inr (Sum.inr (Sum.inr (Sum.inl (s0, s1, s2, r5, 1, s4, s5, s6))))))))
def j_lex_Tokens_0_B4 (n : Nat) (k : (((List T) × Int × ByteArray × Int × (Nat × Nat)) ⊕ ((ByteArray × (List T) × Int × Int × ByteArray × Int × (Nat × Nat)) ⊕ ((ByteArray × (List T) × Int × Int × ByteArray × Int × (Nat × Nat)) ⊕ ((ByteArray × (List T) × Int × Int × ByteArray × Int × (Nat × Nat)) ⊕ ((Int × ByteArray × Int × (Nat × Nat)) ⊕ ((ByteArray × (List T) × Int × Int × Int × ByteArray × Int × (Nat × Nat)) ⊕ ByteArray × (List T) × Int × Int × ByteArray × Int × (Nat × Nat))))))) → Option ((List T) × (Nat × Nat) × Int × Int × ByteArray × Int × (Nat × Nat))) : ByteArray × (List T) × Int × Int × ByteArray × Int × (Nat × Nat) → Option ((List T) × (Nat × Nat) × Int × Int × ByteArray × Int × (Nat × Nat)) := fun (s0, s1, s2, s3, s4, s5, s6) =>
must true (decide (0 ≤ s2) && decide (s2 ≤ ((ByteArray.size s0 : Nat) : Int)) && decide (((ByteArray.size s0 : Nat) : Int) ≤ ((ByteArray.size s0 : Nat) : Int))) (Option.bind (m_lex_run_v4 n (ByteArray.extract s0 (Int.toNat s2) (Int.toNat ((ByteArray.size s0 : Nat) : Int)))) fun r6 =>
must true (decide (0 ≤ s2) && decide (s2 ≤ (IntKind.wrap .i64 (s2 + r6))) && decide ((IntKind.wrap .i64 (s2 + r6)) ≤ ((ByteArray.size s0 : Nat) : Int))) (Option.bind (m_strconv_Atoi n (ByteArray.extract s0 (Int.toNat s2) (Int.toNat (IntKind.wrap .i64 (s2 + r6))))) fun r7 =>
Option.bind (m_strconv_Itoa n r7) fun r8 =>
must true (decide (0 ≤ s2) && decide (s2 ≤ (IntKind.wrap .i64 (s2 + r6))) && decide ((IntKind.wrap .i64 (s2 + r6)) ≤ ((ByteArray.size s0 : Nat) : Int))) (bif (!(ByteArray.toList r8 == ByteArray.toList (ByteArray.extract s0 (Int.toNat s2) (Int.toNat (IntKind.wrap .i64 (s2 + r6)))))) then (
k (Sum.inr (Sum.inr (Sum.inr (Sum.inr (Sum.inl (2, s4, r7, s6)))))))
else (
bif ((r6 : Int) == 0) then (
k (Sum.inr (Sum.inr (Sum.inr (Sum.inr (Sum.inl (2, s4, r7, s6)))))))
else (
must true (decide (0 ≤ s2) && decide (s2 ≤ (IntKind.wrap .i64 (s2 + r6))) && decide ((IntKind.wrap .i64 (s2 + r6)) ≤ ((ByteArray.size s0 : Nat) : Int))) (must true ((Nat.beq 4 4 || Nat.beq 4 0) && (decide (List.length s1 + List.length [(T.agg [(T.sc (.int .i64 2)), (T.sc (.string (ByteArray.extract s0 (Int.toNat s2) (Int.toNat (IntKind.wrap .i64 (s2 + r6)))))), (T.sc (.int .i64 r7)), (T.sc (.complex .f64 s6.1 s6.2))])] ≤ 1073741824) && sized 4 [(T.agg [(T.sc (.int .i64 2)), (T.sc (.string (ByteArray.extract s0 (Int.toNat s2) (Int.toNat (IntKind.wrap .i64 (s2 + r6)))))), (T.sc (.int .i64 r7)), (T.sc (.complex .f64 s6.1 s6.2))])])) (k (Sum.inr (Sum.inr (Sum.inr (Sum.inr (Sum.inr (Sum.inr (s0, (s1 ++ [(T.agg [(T.sc (.int .i64 2)), (T.sc (.string (ByteArray.extract s0 (Int.toNat s2) (Int.toNat (IntKind.wrap .i64 (s2 + r6)))))), (T.sc (.int .i64 r7)), (T.sc (.complex .f64 s6.1 s6.2))])]), (IntKind.wrap .i64 (s2 + r6)), 2, (ByteArray.extract s0 (Int.toNat s2) (Int.toNat (IntKind.wrap .i64 (s2 + r6)))), r7, s6))))))))))))))
def j_lex_Tokens_0_B5 (n : Nat) (k : (((List T) × Int × ByteArray × Int × (Nat × Nat)) ⊕ ((ByteArray × (List T) × Int × Int × ByteArray × Int × (Nat × Nat)) ⊕ ((ByteArray × (List T) × Int × Int × ByteArray × Int × (Nat × Nat)) ⊕ ((ByteArray × (List T) × Int × Int × ByteArray × Int × (Nat × Nat)) ⊕ ((Int × ByteArray × Int × (Nat × Nat)) ⊕ ((ByteArray × (List T) × Int × Int × Int × ByteArray × Int × (Nat × Nat)) ⊕ ByteArray × (List T) × Int × Int × ByteArray × Int × (Nat × Nat))))))) → Option ((List T) × (Nat × Nat) × Int × Int × ByteArray × Int × (Nat × Nat))) : Int × ByteArray × Int × (Nat × Nat) → Option ((List T) × (Nat × Nat) × Int × Int × ByteArray × Int × (Nat × Nat)) := fun (s0, s1, s2, s3) =>
some (([] : List T), s3, 2, s0, s1, s2, s3)
def j_lex_Tokens_0_B6 (n : Nat) (k : (((List T) × Int × ByteArray × Int × (Nat × Nat)) ⊕ ((ByteArray × (List T) × Int × Int × ByteArray × Int × (Nat × Nat)) ⊕ ((ByteArray × (List T) × Int × Int × ByteArray × Int × (Nat × Nat)) ⊕ ((ByteArray × (List T) × Int × Int × ByteArray × Int × (Nat × Nat)) ⊕ ((Int × ByteArray × Int × (Nat × Nat)) ⊕ ((ByteArray × (List T) × Int × Int × Int × ByteArray × Int × (Nat × Nat)) ⊕ ByteArray × (List T) × Int × Int × ByteArray × Int × (Nat × Nat))))))) → Option ((List T) × (Nat × Nat) × Int × Int × ByteArray × Int × (Nat × Nat))) : ByteArray × (List T) × Int × Int × Int × ByteArray × Int × (Nat × Nat) → Option ((List T) × (Nat × Nat) × Int × Int × ByteArray × Int × (Nat × Nat)) := fun (s0, s1, s2, s3, s4, s5, s6, s7) =>
bif ((s3 : Int) == 0) then (
k (Sum.inr (Sum.inr (Sum.inr (Sum.inr (Sum.inl (s4, s5, s6, s7)))))))
else (
must true (decide (0 ≤ s2) && decide (s2 ≤ (IntKind.wrap .i64 (s2 + s3))) && decide ((IntKind.wrap .i64 (s2 + s3)) ≤ ((ByteArray.size s0 : Nat) : Int))) (must true ((Nat.beq 4 4 || Nat.beq 4 0) && (decide (List.length s1 + List.length [(T.agg [(T.sc (.int .i64 s4)), (T.sc (.string (ByteArray.extract s0 (Int.toNat s2) (Int.toNat (IntKind.wrap .i64 (s2 + s3)))))), (T.sc (.int .i64 s6)), (T.sc (.complex .f64 s7.1 s7.2))])] ≤ 1073741824) && sized 4 [(T.agg [(T.sc (.int .i64 s4)), (T.sc (.string (ByteArray.extract s0 (Int.toNat s2) (Int.toNat (IntKind.wrap .i64 (s2 + s3)))))), (T.sc (.int .i64 s6)), (T.sc (.complex .f64 s7.1 s7.2))])])) (k (Sum.inr (Sum.inr (Sum.inr (Sum.inr (Sum.inr (Sum.inr (s0, (s1 ++ [(T.agg [(T.sc (.int .i64 s4)), (T.sc (.string (ByteArray.extract s0 (Int.toNat s2) (Int.toNat (IntKind.wrap .i64 (s2 + s3)))))), (T.sc (.int .i64 s6)), (T.sc (.complex .f64 s7.1 s7.2))])]), (IntKind.wrap .i64 (s2 + s3)), s4, (ByteArray.extract s0 (Int.toNat s2) (Int.toNat (IntKind.wrap .i64 (s2 + s3)))), s6, s7))))))))))
def j_lex_Tokens_0_B0 (n : Nat) (k : (((List T) × Int × ByteArray × Int × (Nat × Nat)) ⊕ ((ByteArray × (List T) × Int × Int × ByteArray × Int × (Nat × Nat)) ⊕ ((ByteArray × (List T) × Int × Int × ByteArray × Int × (Nat × Nat)) ⊕ ((ByteArray × (List T) × Int × Int × ByteArray × Int × (Nat × Nat)) ⊕ ((Int × ByteArray × Int × (Nat × Nat)) ⊕ ((ByteArray × (List T) × Int × Int × Int × ByteArray × Int × (Nat × Nat)) ⊕ ByteArray × (List T) × Int × Int × ByteArray × Int × (Nat × Nat))))))) → Option ((List T) × (Nat × Nat) × Int × Int × ByteArray × Int × (Nat × Nat))) : ByteArray × (List T) × Int × Int × ByteArray × Int × (Nat × Nat) → Option ((List T) × (Nat × Nat) × Int × Int × ByteArray × Int × (Nat × Nat)) := fun (s0, s1, s2, s3, s4, s5, s6) =>
must true (decide (0 ≤ s2) && decide (s2 ≤ ((ByteArray.size s0 : Nat) : Int)) && decide (((ByteArray.size s0 : Nat) : Int) ≤ ((ByteArray.size s0 : Nat) : Int))) (Option.bind (m_lex_run n (ByteArray.extract s0 (Int.toNat s2) (Int.toNat ((ByteArray.size s0 : Nat) : Int)))) fun r9 =>
Option.bind (m_place_Of n s0 (IntKind.wrap .i64 (s2 + r9))) fun r10 =>
bif (((IntKind.wrap .i64 (s2 + r9)) : Int) == ((ByteArray.size s0 : Nat) : Int)) then (
k (Sum.inl (s1, 0, (⟨#[]⟩ : ByteArray), 0, r10)))
else (
Option.bind (bidx true s0 (IntKind.wrap .i64 (s2 + r9))) fun b11 =>
bif ((((UInt8.toNat b11 : Nat) : Int) : Int) == 35) then (
k (Sum.inr (Sum.inl (s0, s1, (IntKind.wrap .i64 (s2 + r9)), 0, (⟨#[]⟩ : ByteArray), 0, r10))))
else (
Option.bind (bidx true s0 (IntKind.wrap .i64 (s2 + r9))) fun b12 =>
Option.bind (m_lex_letter n ((UInt8.toNat b12 : Nat) : Int)) fun r13 =>
bif r13 then (
k (Sum.inr (Sum.inr (Sum.inl (s0, s1, (IntKind.wrap .i64 (s2 + r9)), 0, (⟨#[]⟩ : ByteArray), 0, r10)))))
else (
Option.bind (bidx true s0 (IntKind.wrap .i64 (s2 + r9))) fun b14 =>
Option.bind (m_lex_digit n ((UInt8.toNat b14 : Nat) : Int)) fun r15 =>
bif r15 then (
k (Sum.inr (Sum.inr (Sum.inr (Sum.inl (s0, s1, (IntKind.wrap .i64 (s2 + r9)), 0, (⟨#[]⟩ : ByteArray), 0, r10))))))
else (
must true (decide (0 ≤ (IntKind.wrap .i64 (s2 + r9))) && decide ((IntKind.wrap .i64 (s2 + r9)) ≤ ((ByteArray.size s0 : Nat) : Int)) && decide (((ByteArray.size s0 : Nat) : Int) ≤ ((ByteArray.size s0 : Nat) : Int))) (Option.bind (m_strings_HasPrefix n (ByteArray.extract s0 (Int.toNat (IntKind.wrap .i64 (s2 + r9))) (Int.toNat ((ByteArray.size s0 : Nat) : Int))) (⟨#[61, 61]⟩ : ByteArray)) fun r16 =>
bif r16 then (
Option.bind (bidx true s0 (IntKind.wrap .i64 (s2 + r9))) fun b17 =>
Option.bind (m_strings_IndexByte n (⟨#[61, 60, 43, 45, 42, 47, 37, 40, 41, 123, 125]⟩ : ByteArray) ((UInt8.toNat b17 : Nat) : Int)) fun r18 =>
bif (decide ((r18 : Int) < 0)) then (
k (Sum.inr (Sum.inr (Sum.inr (Sum.inr (Sum.inl (0, (⟨#[]⟩ : ByteArray), 0, r10)))))))
else (
k (Sum.inr (Sum.inr (Sum.inr (Sum.inr (Sum.inr (Sum.inl (s0, s1, (IntKind.wrap .i64 (s2 + r9)), 2, 3, (⟨#[]⟩ : ByteArray), 0, r10)))))))))
else (
Option.bind (bidx true s0 (IntKind.wrap .i64 (s2 + r9))) fun b19 =>
Option.bind (m_strings_IndexByte n (⟨#[61, 60, 43, 45, 42, 47, 37, 40, 41, 123, 125]⟩ : ByteArray) ((UInt8.toNat b19 : Nat) : Int)) fun r20 =>
bif (decide ((r20 : Int) < 0)) then (
k (Sum.inr (Sum.inr (Sum.inr (Sum.inr (Sum.inl (0, (⟨#[]⟩ : ByteArray), 0, r10)))))))
else (
k (Sum.inr (Sum.inr (Sum.inr (Sum.inr (Sum.inr (Sum.inl (s0, s1, (IntKind.wrap .i64 (s2 + r9)), 1, 3, (⟨#[]⟩ : ByteArray), 0, r10)))))))))))))))
def j_lex_Tokens_0 (n : Nat) : Nat → (((List T) × Int × ByteArray × Int × (Nat × Nat)) ⊕ ((ByteArray × (List T) × Int × Int × ByteArray × Int × (Nat × Nat)) ⊕ ((ByteArray × (List T) × Int × Int × ByteArray × Int × (Nat × Nat)) ⊕ ((ByteArray × (List T) × Int × Int × ByteArray × Int × (Nat × Nat)) ⊕ ((Int × ByteArray × Int × (Nat × Nat)) ⊕ ((ByteArray × (List T) × Int × Int × Int × ByteArray × Int × (Nat × Nat)) ⊕ ByteArray × (List T) × Int × Int × ByteArray × Int × (Nat × Nat))))))) → Option ((List T) × (Nat × Nat) × Int × Int × ByteArray × Int × (Nat × Nat))
  | 0, _ => none
  | m + 1, s => Sum.elim (fun p1 => j_lex_Tokens_0_B1 n (j_lex_Tokens_0 n m) p1) (fun s' => Sum.elim (fun p2 => j_lex_Tokens_0_B2 n (j_lex_Tokens_0 n m) p2) (fun s'' => Sum.elim (fun p3 => j_lex_Tokens_0_B3 n (j_lex_Tokens_0 n m) p3) (fun s''' => Sum.elim (fun p4 => j_lex_Tokens_0_B4 n (j_lex_Tokens_0 n m) p4) (fun s'''' => Sum.elim (fun p5 => j_lex_Tokens_0_B5 n (j_lex_Tokens_0 n m) p5) (fun s''''' => Sum.elim (fun p6 => j_lex_Tokens_0_B6 n (j_lex_Tokens_0 n m) p6) (fun s'''''' => (fun p0 => j_lex_Tokens_0_B0 n (j_lex_Tokens_0 n m) p0) s'''''') s''''') s'''') s''') s'') s') s
def m_lex_Tokens (n : Nat) (a0 : ByteArray) : Option ((List T) × (Nat × Nat) × Int) :=
bif (decide ((((ByteArray.size a0 : Nat) : Int) : Int) > 6000)) then (
Option.bind (m_place_Of n a0 6000) fun r0 =>
some (([] : List T), r0, 2))
else (
must true (decide (0 ≤ 0) && decide (0 ≤ ((ByteArray.size a0 : Nat) : Int)) && decide (((ByteArray.size a0 : Nat) : Int) ≤ ((ByteArray.size a0 : Nat) : Int))) (Option.bind (m_lex_run n (ByteArray.extract a0 (Int.toNat 0) (Int.toNat ((ByteArray.size a0 : Nat) : Int)))) fun r1 =>
Option.bind (m_place_Of n a0 (IntKind.wrap .i64 (0 + r1))) fun r2 =>
bif (((IntKind.wrap .i64 (0 + r1)) : Int) == ((ByteArray.size a0 : Nat) : Int)) then (
Option.bind (j_lex_Tokens_0 n n (Sum.inl (([] : List T), 0, (⟨#[]⟩ : ByteArray), 0, r2))) fun p22 =>
some (p22.1, p22.2.1, p22.2.2.1))
else (
Option.bind (bidx true a0 (IntKind.wrap .i64 (0 + r1))) fun b23 =>
bif ((((UInt8.toNat b23 : Nat) : Int) : Int) == 35) then (
Option.bind (j_lex_Tokens_0 n n (Sum.inr (Sum.inl (a0, ([] : List T), (IntKind.wrap .i64 (0 + r1)), 0, (⟨#[]⟩ : ByteArray), 0, r2)))) fun p25 =>
some (p25.1, p25.2.1, p25.2.2.1))
else (
Option.bind (bidx true a0 (IntKind.wrap .i64 (0 + r1))) fun b26 =>
Option.bind (m_lex_letter n ((UInt8.toNat b26 : Nat) : Int)) fun r27 =>
bif r27 then (
Option.bind (j_lex_Tokens_0 n n (Sum.inr (Sum.inr (Sum.inl (a0, ([] : List T), (IntKind.wrap .i64 (0 + r1)), 0, (⟨#[]⟩ : ByteArray), 0, r2))))) fun p29 =>
some (p29.1, p29.2.1, p29.2.2.1))
else (
Option.bind (bidx true a0 (IntKind.wrap .i64 (0 + r1))) fun b30 =>
Option.bind (m_lex_digit n ((UInt8.toNat b30 : Nat) : Int)) fun r31 =>
bif r31 then (
Option.bind (j_lex_Tokens_0 n n (Sum.inr (Sum.inr (Sum.inr (Sum.inl (a0, ([] : List T), (IntKind.wrap .i64 (0 + r1)), 0, (⟨#[]⟩ : ByteArray), 0, r2)))))) fun p33 =>
some (p33.1, p33.2.1, p33.2.2.1))
else (
must true (decide (0 ≤ (IntKind.wrap .i64 (0 + r1))) && decide ((IntKind.wrap .i64 (0 + r1)) ≤ ((ByteArray.size a0 : Nat) : Int)) && decide (((ByteArray.size a0 : Nat) : Int) ≤ ((ByteArray.size a0 : Nat) : Int))) (Option.bind (m_strings_HasPrefix n (ByteArray.extract a0 (Int.toNat (IntKind.wrap .i64 (0 + r1))) (Int.toNat ((ByteArray.size a0 : Nat) : Int))) (⟨#[61, 61]⟩ : ByteArray)) fun r34 =>
bif r34 then (
Option.bind (bidx true a0 (IntKind.wrap .i64 (0 + r1))) fun b35 =>
Option.bind (m_strings_IndexByte n (⟨#[61, 60, 43, 45, 42, 47, 37, 40, 41, 123, 125]⟩ : ByteArray) ((UInt8.toNat b35 : Nat) : Int)) fun r36 =>
bif (decide ((r36 : Int) < 0)) then (
Option.bind (j_lex_Tokens_0 n n (Sum.inr (Sum.inr (Sum.inr (Sum.inr (Sum.inl (0, (⟨#[]⟩ : ByteArray), 0, r2))))))) fun p38 =>
some (p38.1, p38.2.1, p38.2.2.1))
else (
Option.bind (j_lex_Tokens_0 n n (Sum.inr (Sum.inr (Sum.inr (Sum.inr (Sum.inr (Sum.inl (a0, ([] : List T), (IntKind.wrap .i64 (0 + r1)), 2, 3, (⟨#[]⟩ : ByteArray), 0, r2)))))))) fun p40 =>
some (p40.1, p40.2.1, p40.2.2.1)))
else (
Option.bind (bidx true a0 (IntKind.wrap .i64 (0 + r1))) fun b41 =>
Option.bind (m_strings_IndexByte n (⟨#[61, 60, 43, 45, 42, 47, 37, 40, 41, 123, 125]⟩ : ByteArray) ((UInt8.toNat b41 : Nat) : Int)) fun r42 =>
bif (decide ((r42 : Int) < 0)) then (
Option.bind (j_lex_Tokens_0 n n (Sum.inr (Sum.inr (Sum.inr (Sum.inr (Sum.inl (0, (⟨#[]⟩ : ByteArray), 0, r2))))))) fun p44 =>
some (p44.1, p44.2.1, p44.2.2.1))
else (
Option.bind (j_lex_Tokens_0 n n (Sum.inr (Sum.inr (Sum.inr (Sum.inr (Sum.inr (Sum.inl (a0, ([] : List T), (IntKind.wrap .i64 (0 + r1)), 1, 3, (⟨#[]⟩ : ByteArray), 0, r2)))))))) fun p46 =>
some (p46.1, p46.2.1, p46.2.2.1))))))))))
def d_lex_Tokens : FnF := ⟨9, [.str], [.tup 3, .list, .cplx .f64, .int .i64]⟩
def cs_lex_Tokens (n : Nat) : List (CalF Tryd.prog) := [⟨d_place_Of, m_place_Of n, m_place_Of_ok n⟩, ⟨d_lex_run, m_lex_run n, m_lex_run_ok n⟩, ⟨d_slices_Clip___lex_Token_lex_Token_, m_slices_Clip___lex_Token_lex_Token_ n, m_slices_Clip___lex_Token_lex_Token__ok n⟩, ⟨d_lex_run_v2, m_lex_run_v2 n, m_lex_run_v2_ok n⟩, ⟨d_lex_word, m_lex_word n, m_lex_word_ok n⟩, ⟨d_lex_run_v4, m_lex_run_v4 n, m_lex_run_v4_ok n⟩, ⟨d_strconv_Atoi, m_strconv_Atoi n, m_strconv_Atoi_ok n⟩, ⟨d_strconv_Itoa, m_strconv_Itoa n, m_strconv_Itoa_ok n⟩, ⟨d_lex_letter, m_lex_letter n, m_lex_letter_ok n⟩, ⟨d_lex_digit, m_lex_digit n, m_lex_digit_ok n⟩, ⟨d_strings_HasPrefix, m_strings_HasPrefix n, m_strings_HasPrefix_ok n⟩, ⟨d_strings_IndexByte, m_strings_IndexByte n, m_strings_IndexByte_ok n⟩]
def J_j_lex_Tokens_0_1 : XF := ⟨(.goto 1), [5, 6], [.own 4, .ptr 0 0, .box 4, .int .i64, .str, .int .i64, .cplx .f64]⟩
def J_j_lex_Tokens_0_2 : XF := ⟨(.goto 2), [0, 5, 6, 7], [.str, .own 4, .ptr 0 0, .int .i64, .box 4, .int .i64, .str, .int .i64, .cplx .f64]⟩
def J_j_lex_Tokens_0_3 : XF := ⟨(.goto 3), [0, 5, 6, 7], [.str, .own 4, .ptr 0 0, .int .i64, .box 4, .int .i64, .str, .int .i64, .cplx .f64]⟩
def J_j_lex_Tokens_0_4 : XF := ⟨(.goto 4), [0, 5, 6, 7], [.str, .own 4, .ptr 0 0, .int .i64, .box 4, .int .i64, .str, .int .i64, .cplx .f64]⟩
def J_j_lex_Tokens_0_5 : XF := ⟨(.goto 5), [6], [.ptr 0 0, .box 4, .int .i64, .str, .int .i64, .cplx .f64]⟩
def J_j_lex_Tokens_0_6 : XF := ⟨(.goto 6), [0, 5, 6, 7, 8], [.str, .own 4, .ptr 0 0, .int .i64, .int .i64, .box 4, .int .i64, .str, .int .i64, .cplx .f64]⟩
def J_j_lex_Tokens_0_0 : XF := ⟨(.goto 0), [0, 5, 6, 7], [.str, .own 4, .ptr 0 0, .int .i64, .box 4, .int .i64, .str, .int .i64, .cplx .f64]⟩
def X_j_lex_Tokens_0 : List XF := [⟨.ret, [2, 3, 4], [.own 4, .cplx .f64, .int .i64, .box 4, .int .i64, .str, .int .i64, .cplx .f64]⟩]
def ls_lex_Tokens (n : Nat) : List LE := [⟨1000001, jumpS J_j_lex_Tokens_0_1 X_j_lex_Tokens_0 (fun x => j_lex_Tokens_0 n n (Sum.inl x))⟩, ⟨1000002, jumpS J_j_lex_Tokens_0_2 X_j_lex_Tokens_0 (fun x => j_lex_Tokens_0 n n (Sum.inr (Sum.inl x)))⟩, ⟨1000003, jumpS J_j_lex_Tokens_0_3 X_j_lex_Tokens_0 (fun x => j_lex_Tokens_0 n n (Sum.inr (Sum.inr (Sum.inl x))))⟩, ⟨1000004, jumpS J_j_lex_Tokens_0_4 X_j_lex_Tokens_0 (fun x => j_lex_Tokens_0 n n (Sum.inr (Sum.inr (Sum.inr (Sum.inl x)))))⟩, ⟨1000005, jumpS J_j_lex_Tokens_0_5 X_j_lex_Tokens_0 (fun x => j_lex_Tokens_0 n n (Sum.inr (Sum.inr (Sum.inr (Sum.inr (Sum.inl x))))))⟩, ⟨1000006, jumpS J_j_lex_Tokens_0_6 X_j_lex_Tokens_0 (fun x => j_lex_Tokens_0 n n (Sum.inr (Sum.inr (Sum.inr (Sum.inr (Sum.inr (Sum.inl x)))))))⟩, ⟨1000000, jumpS J_j_lex_Tokens_0_0 X_j_lex_Tokens_0 (fun x => j_lex_Tokens_0 n n (Sum.inr (Sum.inr (Sum.inr (Sum.inr (Sum.inr (Sum.inr x)))))))⟩]
theorem j_lex_Tokens_0_ok (n : Nat) : JumpOk Tryd.prog (mkSpec (cs_lex_Tokens n) (ls_lex_Tokens n)) 0 116 (scopeAt Tryd.f9 0) := jumpOk (labs := [J_j_lex_Tokens_0_1, J_j_lex_Tokens_0_2, J_j_lex_Tokens_0_3, J_j_lex_Tokens_0_4, J_j_lex_Tokens_0_5, J_j_lex_Tokens_0_6, J_j_lex_Tokens_0_0]) (xs := X_j_lex_Tokens_0) (f := j_lex_Tokens_0 n) (G := (fun k s => Sum.elim (fun p1 => j_lex_Tokens_0_B1 n k p1) (fun s' => Sum.elim (fun p2 => j_lex_Tokens_0_B2 n k p2) (fun s'' => Sum.elim (fun p3 => j_lex_Tokens_0_B3 n k p3) (fun s''' => Sum.elim (fun p4 => j_lex_Tokens_0_B4 n k p4) (fun s'''' => Sum.elim (fun p5 => j_lex_Tokens_0_B5 n k p5) (fun s''''' => Sum.elim (fun p6 => j_lex_Tokens_0_B6 n k p6) (fun s'''''' => (fun p0 => j_lex_Tokens_0_B0 n k p0) s'''''') s''''') s'''') s''') s'') s') s)) (k := n) (scopeAt_ok sound Tryd.func9 (by kernel_rfl)) (fun _ => rfl) (fun _ _ => rfl) (by kernel_rfl) (hall_of (l0 := [0, 2, 3, 4, 6, 5, 1]) (by kernel_rfl) (by kernel_rfl)) ⟨⟨1, restAt (scopeAt Tryd.f9 0) 1, rfl, by kernel_rfl, fun _ => by kernel_rfl, (inner (by kernel_rfl) allN), by kernel_rfl, fun k a => by kernel_rfl⟩, ⟨2, restAt (scopeAt Tryd.f9 0) 2, rfl, by kernel_rfl, fun _ => by kernel_rfl, (inner (by kernel_rfl) allN), by kernel_rfl, fun k a => by kernel_rfl⟩, ⟨3, restAt (scopeAt Tryd.f9 0) 3, rfl, by kernel_rfl, fun _ => by kernel_rfl, (inner (by kernel_rfl) allN), by kernel_rfl, fun k a => by kernel_rfl⟩, ⟨4, restAt (scopeAt Tryd.f9 0) 4, rfl, by kernel_rfl, fun _ => by kernel_rfl, (inner (by kernel_rfl) allN), by kernel_rfl, fun k a => by kernel_rfl⟩, ⟨5, restAt (scopeAt Tryd.f9 0) 5, rfl, by kernel_rfl, fun _ => by kernel_rfl, (inner (by kernel_rfl) allN), by kernel_rfl, fun k a => by kernel_rfl⟩, ⟨6, restAt (scopeAt Tryd.f9 0) 6, rfl, by kernel_rfl, fun _ => by kernel_rfl, (inner (by kernel_rfl) allN), by kernel_rfl, fun k a => by kernel_rfl⟩, ⟨0, restAt (scopeAt Tryd.f9 0) 0, rfl, by kernel_rfl, fun _ => by kernel_rfl, (inner (by kernel_rfl) allN), by kernel_rfl, fun k a => by kernel_rfl⟩⟩
-- 7 449
theorem m_lex_Tokens_ok (n : Nat) : Ok Tryd.prog d_lex_Tokens (m_lex_Tokens n) := fnOk sound (cs := cs_lex_Tokens n) (ls := ls_lex_Tokens n) (n := 116) Tryd.func9 (by kernel_rfl) (fun _ => by kernel_rfl) (inner (by kernel_rfl) allN) (innerS (by kernel_rfl) (allC (j_lex_Tokens_0_ok n) allN)) (by kernel_rfl) (fun a => by kernel_rfl)


/-! suture/parse.kindOf -/
def m_parse_kindOf (n : Nat) (a0 : ByteArray) : Option (Int) :=
bif (ByteArray.toList a0 == ByteArray.toList (⟨#[118, 97, 114]⟩ : ByteArray)) then (
some 1)
else (
bif (ByteArray.toList a0 == ByteArray.toList (⟨#[119, 105, 100, 101]⟩ : ByteArray)) then (
some 2)
else (
bif (ByteArray.toList a0 == ByteArray.toList (⟨#[97, 116, 111, 109, 105, 99]⟩ : ByteArray)) then (
some 3)
else (
bif (ByteArray.toList a0 == ByteArray.toList (⟨#[108, 111, 99, 97, 108]⟩ : ByteArray)) then (
some 4)
else (
bif (ByteArray.toList a0 == ByteArray.toList (⟨#[109, 117, 116, 101, 120]⟩ : ByteArray)) then (
some 5)
else (
bif (ByteArray.toList a0 == ByteArray.toList (⟨#[99, 104, 97, 110]⟩ : ByteArray)) then (
some 6)
else (
some 0))))))
def d_parse_kindOf : FnF := ⟨38, [.str], [.int .i64]⟩
theorem m_parse_kindOf_ok (n : Nat) : Ok Tryd.prog d_parse_kindOf (m_parse_kindOf n) := fnOk0 sound [] Tryd.func38 (by kernel_rfl) (fun a => by kernel_rfl)


/-! (*suture/parse.reader).fail -/
def m___parse_reader__fail (n : Nat) (a0 : List T) (a1 : Int) (a2 : Bool) : Option ((List T) × Int × Bool) :=
some (a0, a1, true)
def d___parse_reader__fail : FnF := ⟨25, [.ptr 0 0, .box 3, .list, .int .i64, .bool], [.tup 0, .box 3, .list, .int .i64, .bool]⟩
theorem m___parse_reader__fail_ok (n : Nat) : Ok Tryd.prog d___parse_reader__fail (m___parse_reader__fail n) := fnOk0 sound [] Tryd.func25 (by kernel_rfl) (fun a => by kernel_rfl)


/-! slices.Index[[]string,string] -/
def l_slices_Index___string_string__2_B (n : Nat) (k : (List T) × ByteArray × Int × Int → Option (((Int) ⊕ Unit))) : (List T) × ByteArray × Int × Int → Option (((Int) ⊕ Unit)) := fun (s0, s1, s2, s3) =>
bif (decide ((s3 : Int) < s2)) then (
Option.bind (idx true [.str] s0 s3) fun y0 =>
bif (ByteArray.toList s1 == ByteArray.toList (y0.cell 0).str) then (
some (Sum.inl s3))
else (
k (s0, s1, s2, (IntKind.wrap .i64 (s3 + 1)))))
else (
some (Sum.inr ()))
def l_slices_Index___string_string__2 (n : Nat) : Nat → (List T) × ByteArray × Int × Int → Option (((Int) ⊕ Unit))
  | 0, _ => none
  | m + 1, s => l_slices_Index___string_string__2_B n (l_slices_Index___string_string__2 n m) s
def m_slices_Index___string_string_ (n : Nat) (a0 : List T) (a1 : ByteArray) : Option (Int) :=
Option.bind (l_slices_Index___string_string__2 n n (a0, a1, ((List.length a0 : Nat) : Int), 0)) fun x1 =>
Sum.elim (fun p2 => 
some p2) (fun x1' => (fun p3 => 
some (-1)) x1') x1
def d_slices_Index___string_string_ : FnF := ⟨83, [.list, .str], [.int .i64]⟩
def cs_slices_Index___string_string_ (n : Nat) : List (CalF Tryd.prog) := []
def L_l_slices_Index___string_string__2 : LF := ⟨2, [0, 1, 7, 8], [.list, .str, .int .i64, .int .i64], [⟨.ret, [4], [.int .i64]⟩, ⟨(.exit 0), [], []⟩]⟩
def ls_slices_Index___string_string_ (n : Nat) : List LE := [⟨2, loopS L_l_slices_Index___string_string__2 (l_slices_Index___string_string__2 n n)⟩]
theorem l_slices_Index___string_string__2_ok (n : Nat) : LoopOk Tryd.prog (mkSpec (cs_slices_Index___string_string_ n) (ls_slices_Index___string_string_ n)) 0 19 (loopAt Tryd.f83 0) := loopOk (L := L_l_slices_Index___string_string__2) (f := l_slices_Index___string_string__2 n) (B := l_slices_Index___string_string__2_B n) (k := n) (loopAt_ok sound Tryd.func83 (by kernel_rfl)) (inner (by kernel_rfl) allN) (innerS (by kernel_rfl) allN) (fun _ => rfl) (fun _ _ => rfl) (by kernel_rfl) (fun _ => by kernel_rfl) (by kernel_rfl) (fun k a => by kernel_rfl)
theorem m_slices_Index___string_string__ok (n : Nat) : Ok Tryd.prog d_slices_Index___string_string_ (m_slices_Index___string_string_ n) := fnOk sound (cs := cs_slices_Index___string_string_ n) (ls := ls_slices_Index___string_string_ n) (n := 19) Tryd.func83 (by kernel_rfl) (fun _ => by kernel_rfl) (inner (by kernel_rfl) (allC (l_slices_Index___string_string__2_ok n) allN)) (innerS (by kernel_rfl) allN) (by kernel_rfl) (fun a => by kernel_rfl)


/-! slices.Contains[[]string,string] -/
def m_slices_Contains___string_string_ (n : Nat) (a0 : List T) (a1 : ByteArray) : Option (Bool) :=
Option.bind (m_slices_Index___string_string_ n a0 a1) fun r0 =>
some (decide ((r0 : Int) ≥ 0))
def d_slices_Contains___string_string_ : FnF := ⟨78, [.list, .str], [.bool]⟩
theorem m_slices_Contains___string_string__ok (n : Nat) : Ok Tryd.prog d_slices_Contains___string_string_ (m_slices_Contains___string_string_ n) := fnOk0 sound [⟨d_slices_Index___string_string_, m_slices_Index___string_string_ n, m_slices_Index___string_string__ok n⟩] Tryd.func78 (by kernel_rfl) (fun a => by kernel_rfl)


/-! suture/lex.Keyword -/
def m_lex_Keyword (n : Nat) (a0 : ByteArray) : Option (Bool) :=
Option.bind (m_slices_Contains___string_string_ n [(T.sc (.string (⟨#[118, 97, 114]⟩ : ByteArray))), (T.sc (.string (⟨#[119, 105, 100, 101]⟩ : ByteArray))), (T.sc (.string (⟨#[97, 116, 111, 109, 105, 99]⟩ : ByteArray))), (T.sc (.string (⟨#[108, 111, 99, 97, 108]⟩ : ByteArray))), (T.sc (.string (⟨#[109, 117, 116, 101, 120]⟩ : ByteArray))), (T.sc (.string (⟨#[99, 104, 97, 110]⟩ : ByteArray))), (T.sc (.string (⟨#[103, 111]⟩ : ByteArray))), (T.sc (.string (⟨#[108, 111, 99, 107]⟩ : ByteArray))), (T.sc (.string (⟨#[117, 110, 108, 111, 99, 107]⟩ : ByteArray))), (T.sc (.string (⟨#[115, 101, 110, 100]⟩ : ByteArray))), (T.sc (.string (⟨#[114, 101, 99, 118]⟩ : ByteArray))), (T.sc (.string (⟨#[112, 114, 105, 110, 116]⟩ : ByteArray))), (T.sc (.string (⟨#[105, 102]⟩ : ByteArray))), (T.sc (.string (⟨#[101, 108, 115, 101]⟩ : ByteArray))), (T.sc (.string (⟨#[114, 101, 112, 101, 97, 116]⟩ : ByteArray))), (T.sc (.string (⟨#[103, 111, 116, 111]⟩ : ByteArray))), (T.sc (.string (⟨#[108, 97, 98, 101, 108]⟩ : ByteArray)))] a0) fun r0 =>
some r0
def d_lex_Keyword : FnF := ⟨66, [.str], [.bool]⟩
theorem m_lex_Keyword_ok (n : Nat) : Ok Tryd.prog d_lex_Keyword (m_lex_Keyword n) := fnOk0 sound [⟨d_slices_Contains___string_string_, m_slices_Contains___string_string_ n, m_slices_Contains___string_string__ok n⟩] Tryd.func66 (by kernel_rfl) (fun a => by kernel_rfl)


/-! suture/lex.IsName -/
def m_lex_IsName (n : Nat) (a0 : ByteArray) : Option (Bool) :=
Option.bind (bif (!(ByteArray.toList a0 == ByteArray.toList (⟨#[]⟩ : ByteArray))) then m_lex_word n a0 else some 0) fun r0 =>
Option.bind (bif (bif (!(ByteArray.toList a0 == ByteArray.toList (⟨#[]⟩ : ByteArray))) then ((r0 : Int) == ((ByteArray.size a0 : Nat) : Int)) else false) then m_lex_Keyword n a0 else some false) fun r1 =>
some (bif (bif (!(ByteArray.toList a0 == ByteArray.toList (⟨#[]⟩ : ByteArray))) then ((r0 : Int) == ((ByteArray.size a0 : Nat) : Int)) else false) then (!r1) else false)
def d_lex_IsName : FnF := ⟨56, [.str], [.bool]⟩
theorem m_lex_IsName_ok (n : Nat) : Ok Tryd.prog d_lex_IsName (m_lex_IsName n) := fnOk0 sound [⟨d_lex_word, m_lex_word n, m_lex_word_ok n⟩, ⟨d_lex_Keyword, m_lex_Keyword n, m_lex_Keyword_ok n⟩] Tryd.func56 (by kernel_rfl) (fun a => by kernel_rfl)


/-! (*suture/parse.reader).name -/
def m___parse_reader__name (n : Nat) (a0 : List T) (a1 : Int) (a2 : Bool) : Option (ByteArray × (List T) × Int × Bool) :=
Option.bind (idx true [.int .i64, .str, .int .i64, .cplx .f64] a0 a1) fun y0 =>
Option.bind (bif !(bif a2 then true else (((y0.cell 0).int : Int) != 1)) then m_lex_IsName n (y0.cell 1).str else some false) fun r1 =>
bif (bif (bif a2 then true else (((y0.cell 0).int : Int) != 1)) then true else (!r1)) then (
Option.bind (m___parse_reader__fail n a0 a1 a2) fun r2 =>
some ((⟨#[]⟩ : ByteArray), r2.1, r2.2.1, r2.2.2))
else (
some ((y0.cell 1).str, a0, (IntKind.wrap .i64 (a1 + 1)), a2))
def d___parse_reader__name : FnF := ⟨39, [.ptr 0 0, .box 3, .list, .int .i64, .bool], [.str, .box 3, .list, .int .i64, .bool]⟩
theorem m___parse_reader__name_ok (n : Nat) : Ok Tryd.prog d___parse_reader__name (m___parse_reader__name n) := fnOk0 sound [⟨d_lex_IsName, m_lex_IsName n, m_lex_IsName_ok n⟩, ⟨d___parse_reader__fail, m___parse_reader__fail n, m___parse_reader__fail_ok n⟩] Tryd.func39 (by kernel_rfl) (fun a => by kernel_rfl)


/-! (*suture/parse.reader).number -/
def m___parse_reader__number (n : Nat) (a0 : Int) (a1 : List T) (a2 : Int) (a3 : Bool) : Option (Int × (List T) × Int × Bool) :=
Option.bind (idx true [.int .i64, .str, .int .i64, .cplx .f64] a1 a2) fun y0 =>
bif (bif (bif a3 then true else (((y0.cell 0).int : Int) != 2)) then true else (decide (((y0.cell 2).int : Int) > a0))) then (
Option.bind (m___parse_reader__fail n a1 a2 a3) fun r1 =>
some (0, r1.1, r1.2.1, r1.2.2))
else (
some ((y0.cell 2).int, a1, (IntKind.wrap .i64 (a2 + 1)), a3))
def d___parse_reader__number : FnF := ⟨40, [.ptr 0 0, .int .i64, .box 3, .list, .int .i64, .bool], [.int .i64, .box 3, .list, .int .i64, .bool]⟩
theorem m___parse_reader__number_ok (n : Nat) : Ok Tryd.prog d___parse_reader__number (m___parse_reader__number n) := fnOk0 sound [⟨d___parse_reader__fail, m___parse_reader__fail n, m___parse_reader__fail_ok n⟩] Tryd.func40 (by kernel_rfl) (fun a => by kernel_rfl)


/-! slices.Clip[[]suture/api.Decl,suture/api.Decl] -/
def m_slices_Clip___api_Decl_api_Decl_ (n : Nat) (a0 : List T) : Option ((List T)) :=
must true (decide (0 ≤ 0) && decide (0 ≤ ((List.length a0 : Nat) : Int)) && decide (((List.length a0 : Nat) : Int) ≤ ((List.length a0 : Nat) : Int)) && sized 4 a0) (must true (decide (((List.length a0 : Nat) : Int) = ((List.length a0 : Nat) : Int))) (some (List.drop (Int.toNat 0) (List.take (Int.toNat ((List.length a0 : Nat) : Int)) a0))))
def d_slices_Clip___api_Decl_api_Decl_ : FnF := ⟨41, [.list], [.own 4]⟩
theorem m_slices_Clip___api_Decl_api_Decl__ok (n : Nat) : Ok Tryd.prog d_slices_Clip___api_Decl_api_Decl_ (m_slices_Clip___api_Decl_api_Decl_ n) := fnOk0 sound [] Tryd.func41 (by kernel_rfl) (fun a => by kernel_rfl)


/-! (*suture/parse.reader).decls -/
def l___parse_reader__decls_2_B (n : Nat) (k : (List T) × (List T) × Int × Bool → Option ((List T) × (List T) × Int × Bool)) : (List T) × (List T) × Int × Bool → Option ((List T) × (List T) × Int × Bool) := fun (s0, s1, s2, s3) =>
Option.bind (idx ((!s3)) [.int .i64, .str, .int .i64, .cplx .f64] s1 s2) fun y0 =>
bif (bif (!s3) then (((y0.cell 0).int : Int) == 1) else false) then (
Option.bind (idx true [.int .i64, .str, .int .i64, .cplx .f64] s1 s2) fun y1 =>
Option.bind (m_parse_kindOf n (y1.cell 1).str) fun r2 =>
Option.bind (idx true [.int .i64, .str, .int .i64, .cplx .f64] s1 s2) fun y3 =>
bif ((r2 : Int) == 0) then (
some (s0, s1, s2, s3))
else (
bif ((((List.length s0 : Nat) : Int) : Int) == 24) then (
Option.bind (m___parse_reader__fail n s1 s2 s3) fun r4 =>
some (s0, r4.1, r4.2.1, r4.2.2))
else (
Option.bind (m___parse_reader__name n s1 (IntKind.wrap .i64 (s2 + 1)) s3) fun r5 =>
bif ((r2 : Int) == 6) then (
Option.bind (m___parse_reader__number n 3 r5.2.1 r5.2.2.1 r5.2.2.2) fun r6 =>
must true ((Nat.beq 4 4 || Nat.beq 4 0) && (decide (List.length s0 + List.length [(T.agg [(T.sc (.int .i64 r2)), (T.sc (.string r5.1)), (T.sc (.int .i64 r6.1)), (T.sc (.complex .f64 (y3.cell 3).re (y3.cell 3).im))])] ≤ 1073741824) && sized 4 [(T.agg [(T.sc (.int .i64 r2)), (T.sc (.string r5.1)), (T.sc (.int .i64 r6.1)), (T.sc (.complex .f64 (y3.cell 3).re (y3.cell 3).im))])])) (k ((s0 ++ [(T.agg [(T.sc (.int .i64 r2)), (T.sc (.string r5.1)), (T.sc (.int .i64 r6.1)), (T.sc (.complex .f64 (y3.cell 3).re (y3.cell 3).im))])]), r6.2.1, r6.2.2.1, r6.2.2.2)))
else (
must true ((Nat.beq 4 4 || Nat.beq 4 0) && (decide (List.length s0 + List.length [(T.agg [(T.sc (.int .i64 r2)), (T.sc (.string r5.1)), (T.sc (.int .i64 0)), (T.sc (.complex .f64 (y3.cell 3).re (y3.cell 3).im))])] ≤ 1073741824) && sized 4 [(T.agg [(T.sc (.int .i64 r2)), (T.sc (.string r5.1)), (T.sc (.int .i64 0)), (T.sc (.complex .f64 (y3.cell 3).re (y3.cell 3).im))])])) (k ((s0 ++ [(T.agg [(T.sc (.int .i64 r2)), (T.sc (.string r5.1)), (T.sc (.int .i64 0)), (T.sc (.complex .f64 (y3.cell 3).re (y3.cell 3).im))])]), r5.2.1, r5.2.2.1, r5.2.2.2))))))
else (
some (s0, s1, s2, s3))
def l___parse_reader__decls_2 (n : Nat) : Nat → (List T) × (List T) × Int × Bool → Option ((List T) × (List T) × Int × Bool)
  | 0, _ => none
  | m + 1, s => l___parse_reader__decls_2_B n (l___parse_reader__decls_2 n m) s
def m___parse_reader__decls (n : Nat) (a0 : List T) (a1 : Int) (a2 : Bool) : Option ((List T) × (List T) × Int × Bool) :=
Option.bind (l___parse_reader__decls_2 n n (([] : List T), a0, a1, a2)) fun p8 =>
Option.bind (m_slices_Clip___api_Decl_api_Decl_ n p8.1) fun r9 =>
some (r9, p8.2.1, p8.2.2.1, p8.2.2.2)
def d___parse_reader__decls : FnF := ⟨24, [.ptr 0 0, .box 3, .list, .int .i64, .bool], [.own 4, .box 3, .list, .int .i64, .bool]⟩
def cs___parse_reader__decls (n : Nat) : List (CalF Tryd.prog) := [⟨d_parse_kindOf, m_parse_kindOf n, m_parse_kindOf_ok n⟩, ⟨d___parse_reader__fail, m___parse_reader__fail n, m___parse_reader__fail_ok n⟩, ⟨d___parse_reader__name, m___parse_reader__name n, m___parse_reader__name_ok n⟩, ⟨d___parse_reader__number, m___parse_reader__number n, m___parse_reader__number_ok n⟩, ⟨d_slices_Clip___api_Decl_api_Decl_, m_slices_Clip___api_Decl_api_Decl_ n, m_slices_Clip___api_Decl_api_Decl__ok n⟩]
def L_l___parse_reader__decls_2 : LF := ⟨2, [0, 3], [.ptr 0 0, .own 4, .box 3, .list, .int .i64, .bool], [⟨(.exit 0), [3], [.own 4, .box 3, .list, .int .i64, .bool]⟩]⟩
def ls___parse_reader__decls (n : Nat) : List LE := [⟨2, loopS L_l___parse_reader__decls_2 (l___parse_reader__decls_2 n n)⟩]
theorem l___parse_reader__decls_2_ok (n : Nat) : LoopOk Tryd.prog (mkSpec (cs___parse_reader__decls n) (ls___parse_reader__decls n)) 1 78 (loopAt Tryd.f24 0) := loopOk (L := L_l___parse_reader__decls_2) (f := l___parse_reader__decls_2 n) (B := l___parse_reader__decls_2_B n) (k := n) (loopAt_ok sound Tryd.func24 (by kernel_rfl)) (inner (by kernel_rfl) allN) (innerS (by kernel_rfl) allN) (fun _ => rfl) (fun _ _ => rfl) (by kernel_rfl) (fun _ => by kernel_rfl) (by kernel_rfl) (fun k a => by kernel_rfl)
theorem m___parse_reader__decls_ok (n : Nat) : Ok Tryd.prog d___parse_reader__decls (m___parse_reader__decls n) := fnOk sound (cs := cs___parse_reader__decls n) (ls := ls___parse_reader__decls n) (n := 78) Tryd.func24 (by kernel_rfl) (fun _ => by kernel_rfl) (inner (by kernel_rfl) (allC (l___parse_reader__decls_2_ok n) allN)) (innerS (by kernel_rfl) allN) (by kernel_rfl) (fun a => by kernel_rfl)


/-! (*suture/parse.reader).is -/
def m___parse_reader__is (n : Nat) (a0 : ByteArray) (a1 : List T) (a2 : Int) (a3 : Bool) : Option (Bool × (List T) × Int × Bool) :=
Option.bind (idx true [.int .i64, .str, .int .i64, .cplx .f64] a1 a2) fun y0 =>
some ((bif (bif (!a3) then (bif (((y0.cell 0).int : Int) == 1) then true else (((y0.cell 0).int : Int) == 3)) else false) then (ByteArray.toList (y0.cell 1).str == ByteArray.toList a0) else false), a1, a2, a3)
def d___parse_reader__is : FnF := ⟨42, [.ptr 0 0, .str, .box 3, .list, .int .i64, .bool], [.bool, .box 3, .list, .int .i64, .bool]⟩
theorem m___parse_reader__is_ok (n : Nat) : Ok Tryd.prog d___parse_reader__is (m___parse_reader__is n) := fnOk0 sound [] Tryd.func42 (by kernel_rfl) (fun a => by kernel_rfl)


/-! (*suture/parse.reader).must -/
def m___parse_reader__must (n : Nat) (a0 : ByteArray) (a1 : List T) (a2 : Int) (a3 : Bool) : Option ((List T) × Int × Bool) :=
Option.bind (m___parse_reader__is n a0 a1 a2 a3) fun r0 =>
bif (!r0.1) then (
Option.bind (m___parse_reader__fail n r0.2.1 r0.2.2.1 r0.2.2.2) fun r1 =>
some (r1.1, r1.2.1, r1.2.2))
else (
some (r0.2.1, (IntKind.wrap .i64 (r0.2.2.1 + 1)), r0.2.2.2))
def d___parse_reader__must : FnF := ⟨26, [.ptr 0 0, .str, .box 3, .list, .int .i64, .bool], [.tup 0, .box 3, .list, .int .i64, .bool]⟩
theorem m___parse_reader__must_ok (n : Nat) : Ok Tryd.prog d___parse_reader__must (m___parse_reader__must n) := fnOk0 sound [⟨d___parse_reader__is, m___parse_reader__is n, m___parse_reader__is_ok n⟩, ⟨d___parse_reader__fail, m___parse_reader__fail n, m___parse_reader__fail_ok n⟩] Tryd.func26 (by kernel_rfl) (fun a => by kernel_rfl)


/-! slices.Clip[[]suture/api.Stmt,suture/api.Stmt] -/
def m_slices_Clip___api_Stmt_api_Stmt_ (n : Nat) (a0 : List T) : Option ((List T)) :=
must true (decide (0 ≤ 0) && decide (0 ≤ ((List.length a0 : Nat) : Int)) && decide (((List.length a0 : Nat) : Int) ≤ ((List.length a0 : Nat) : Int)) && sized 11 a0) (must true (decide (((List.length a0 : Nat) : Int) = ((List.length a0 : Nat) : Int))) (some (List.drop (Int.toNat 0) (List.take (Int.toNat ((List.length a0 : Nat) : Int)) a0))))
def d_slices_Clip___api_Stmt_api_Stmt_ : FnF := ⟨44, [.list], [.own 11]⟩
theorem m_slices_Clip___api_Stmt_api_Stmt__ok (n : Nat) : Ok Tryd.prog d_slices_Clip___api_Stmt_api_Stmt_ (m_slices_Clip___api_Stmt_api_Stmt_ n) := fnOk0 sound [] Tryd.func44 (by kernel_rfl) (fun a => by kernel_rfl)


/-! (*suture/expr.reader).is -/
def m___expr_reader__is (n : Nat) (a0 : ByteArray) (a1 : List T) (a2 : Int) (a3 : Bool) : Option (Bool × (List T) × Int × Bool) :=
Option.bind (idx ((!a3)) [.int .i64, .str, .int .i64, .cplx .f64] a1 a2) fun y0 =>
Option.bind (idx ((bif (!a3) then (((y0.cell 0).int : Int) == 3) else false)) [.int .i64, .str, .int .i64, .cplx .f64] a1 a2) fun y1 =>
some ((bif (bif (!a3) then (((y0.cell 0).int : Int) == 3) else false) then (ByteArray.toList (y1.cell 1).str == ByteArray.toList a0) else false), a1, a2, a3)
def d___expr_reader__is : FnF := ⟨86, [.ptr 0 0, .str, .box 3, .list, .int .i64, .bool], [.bool, .box 3, .list, .int .i64, .bool]⟩
theorem m___expr_reader__is_ok (n : Nat) : Ok Tryd.prog d___expr_reader__is (m___expr_reader__is n) := fnOk0 sound [] Tryd.func86 (by kernel_rfl) (fun a => by kernel_rfl)


/-! (*suture/expr.reader).fail -/
def m___expr_reader__fail (n : Nat) (a0 : List T) (a1 : Int) (a2 : Bool) : Option (Int × Int × ByteArray × (List T) × (List T) × Int × Bool) :=
some (0, 0, (⟨#[]⟩ : ByteArray), ([] : List T), a0, a1, true)
def d___expr_reader__fail : FnF := ⟨87, [.ptr 0 0, .box 3, .list, .int .i64, .bool], [.agg 4, .int .i64, .int .i64, .str, .list, .box 3, .list, .int .i64, .bool]⟩
theorem m___expr_reader__fail_ok (n : Nat) : Ok Tryd.prog d___expr_reader__fail (m___expr_reader__fail n) := fnOk0 sound [] Tryd.func87 (by kernel_rfl) (fun a => by kernel_rfl)


/-! suture/expr.operator: from elsewhere -/
def m_expr_operator (n : Nat) (a0 : Int) (a1 : ByteArray) (a2 : Int) (a3 : Nat × Nat) (a4 : Int) : Option (Int) := opM a0 a1 a4
def d_expr_operator : FnF := ⟨85, [.agg 4, .int .i64, .str, .int .i64, .cplx .f64, .int .i64], [.int .i64]⟩
theorem m_expr_operator_ok (n : Nat) : Ok Tryd.prog d_expr_operator (m_expr_operator n) := fun a r h => x_expr_operator (show opM a.1 a.2.1 a.2.2.2.2.1 = some r from h)


/-! __expr_reader__level, __expr_reader__factor: a circle -/
structure B___expr_reader__level where
  __expr_reader__level : Int → Int → List T → Int → Bool → Option (Int × Int × ByteArray × (List T) × (List T) × Int × Bool)
  __expr_reader__factor : Int → List T → Int → Bool → Option (Int × Int × ByteArray × (List T) × (List T) × Int × Bool)
def d___expr_reader__level : FnF := ⟨79, [.ptr 0 0, .int .i64, .int .i64, .box 3, .list, .int .i64, .bool], [.agg 4, .int .i64, .int .i64, .str, .list, .box 3, .list, .int .i64, .bool]⟩
def d___expr_reader__factor : FnF := ⟨84, [.ptr 0 0, .int .i64, .box 3, .list, .int .i64, .bool], [.agg 4, .int .i64, .int .i64, .str, .list, .box 3, .list, .int .i64, .bool]⟩
structure B___expr_reader__level_ok (b : B___expr_reader__level) : Prop where
  __expr_reader__level : Ok Tryd.prog d___expr_reader__level b.__expr_reader__level
  __expr_reader__factor : Ok Tryd.prog d___expr_reader__factor b.__expr_reader__factor

/-! (*suture/expr.reader).level -/
def l___expr_reader__level_4_B (b : B___expr_reader__level) (n : Nat) (k : Int × Int × (List T) × Int × Bool × Int × Int × ByteArray × (List T) × Int × Int × ByteArray × (List T) → Option ((List T) × Int × Bool × Int × Int × ByteArray × (List T) × Int × Int × ByteArray × (List T))) : Int × Int × (List T) × Int × Bool × Int × Int × ByteArray × (List T) × Int × Int × ByteArray × (List T) → Option ((List T) × Int × Bool × Int × Int × ByteArray × (List T) × Int × Int × ByteArray × (List T)) := fun (s0, s1, s2, s3, s4, s5, s6, s7, s8, s9, s10, s11, s12) =>
bif (!s4) then (
Option.bind (idx true [.int .i64, .str, .int .i64, .cplx .f64] s2 s3) fun y2 =>
Option.bind (m_expr_operator n (y2.cell 0).int (y2.cell 1).str (y2.cell 2).int ((y2.cell 3).re, (y2.cell 3).im) s0) fun r3 =>
bif ((r3 : Int) == 0) then (
some (s2, s3, s4, s5, s6, s7, s8, s9, s10, s11, s12))
else (
Option.bind (b.__expr_reader__level (IntKind.wrap .i64 (s0 + 1)) s1 s2 (IntKind.wrap .i64 (s3 + 1)) s4) fun r4 =>
bif ((s0 : Int) == 0) then (
some (r4.2.2.2.2.1, r4.2.2.2.2.2.1, r4.2.2.2.2.2.2, s5, s6, s7, s8, r3, 0, (⟨#[]⟩ : ByteArray), [(T.agg [(T.sc (.int .i64 s9)), (T.sc (.int .i64 s10)), (T.sc (.string s11)), (T.list s12)]), (T.agg [(T.sc (.int .i64 r4.1)), (T.sc (.int .i64 r4.2.1)), (T.sc (.string r4.2.2.1)), (T.list r4.2.2.2.1)])]))
else (
k (s0, s1, r4.2.2.2.2.1, r4.2.2.2.2.2.1, r4.2.2.2.2.2.2, s5, s6, s7, s8, r3, 0, (⟨#[]⟩ : ByteArray), [(T.agg [(T.sc (.int .i64 s9)), (T.sc (.int .i64 s10)), (T.sc (.string s11)), (T.list s12)]), (T.agg [(T.sc (.int .i64 r4.1)), (T.sc (.int .i64 r4.2.1)), (T.sc (.string r4.2.2.1)), (T.list r4.2.2.2.1)])]))))
else (
some (s2, s3, s4, s5, s6, s7, s8, s9, s10, s11, s12))
def l___expr_reader__level_4 (b : B___expr_reader__level) (n : Nat) : Nat → Int × Int × (List T) × Int × Bool × Int × Int × ByteArray × (List T) × Int × Int × ByteArray × (List T) → Option ((List T) × Int × Bool × Int × Int × ByteArray × (List T) × Int × Int × ByteArray × (List T))
  | 0, _ => none
  | m + 1, s => l___expr_reader__level_4_B b n (l___expr_reader__level_4 b n m) s
def f___expr_reader__level (b : B___expr_reader__level) (n : Nat) (a0 : Int) (a1 : Int) (a2 : List T) (a3 : Int) (a4 : Bool) : Option (Int × Int × ByteArray × (List T) × (List T) × Int × Bool) :=
bif ((a0 : Int) == 3) then (
Option.bind (b.__expr_reader__factor a1 a2 a3 a4) fun r0 =>
some (r0.1, r0.2.1, r0.2.2.1, r0.2.2.2.1, r0.2.2.2.2.1, r0.2.2.2.2.2.1, r0.2.2.2.2.2.2))
else (
Option.bind (b.__expr_reader__level (IntKind.wrap .i64 (a0 + 1)) a1 a2 a3 a4) fun r1 =>
Option.bind (l___expr_reader__level_4 b n n (a0, a1, r1.2.2.2.2.1, r1.2.2.2.2.2.1, r1.2.2.2.2.2.2, 0, 0, (⟨#[]⟩ : ByteArray), ([] : List T), r1.1, r1.2.1, r1.2.2.1, r1.2.2.2.1)) fun p6 =>
some (p6.2.2.2.2.2.2.2.1, p6.2.2.2.2.2.2.2.2.1, p6.2.2.2.2.2.2.2.2.2.1, p6.2.2.2.2.2.2.2.2.2.2, p6.1, p6.2.1, p6.2.2.1))
def cs___expr_reader__level (b : B___expr_reader__level) (hb : B___expr_reader__level_ok b) (n : Nat) : List (CalF Tryd.prog) := [⟨d___expr_reader__factor, b.__expr_reader__factor, hb.__expr_reader__factor⟩, ⟨d___expr_reader__level, b.__expr_reader__level, hb.__expr_reader__level⟩, ⟨d_expr_operator, m_expr_operator n, m_expr_operator_ok n⟩]
def L_l___expr_reader__level_4 : LF := ⟨4, [0, 1, 2, 6, 7], [.ptr 0 0, .int .i64, .int .i64, .ptr 1 0, .ptr 2 0, .box 3, .list, .int .i64, .bool, .box 4, .int .i64, .int .i64, .str, .own 0, .box 4, .int .i64, .int .i64, .str, .list], [⟨(.exit 0), [6, 7], [.ptr 1 0, .ptr 2 0, .box 3, .list, .int .i64, .bool, .box 4, .int .i64, .int .i64, .str, .own 0, .box 4, .int .i64, .int .i64, .str, .list]⟩]⟩
def ls___expr_reader__level (b : B___expr_reader__level) (n : Nat) : List LE := [⟨4, loopS L_l___expr_reader__level_4 (l___expr_reader__level_4 b n n)⟩]
theorem l___expr_reader__level_4_ok (b : B___expr_reader__level) (hb : B___expr_reader__level_ok b) (n : Nat) : LoopOk Tryd.prog (mkSpec (cs___expr_reader__level b hb n) (ls___expr_reader__level b n)) 1 57 (loopAt Tryd.f79 0) := loopOk (L := L_l___expr_reader__level_4) (f := l___expr_reader__level_4 b n) (B := l___expr_reader__level_4_B b n) (k := n) (loopAt_ok sound Tryd.func79 (by kernel_rfl)) (inner (by kernel_rfl) allN) (innerS (by kernel_rfl) allN) (fun _ => rfl) (fun _ _ => rfl) (by kernel_rfl) (fun _ => by kernel_rfl) (by kernel_rfl) (fun k a => by kernel_rfl)
theorem f___expr_reader__level_ok (b : B___expr_reader__level) (hb : B___expr_reader__level_ok b) (n : Nat) : Ok Tryd.prog d___expr_reader__level (f___expr_reader__level b n) := fnOk sound (cs := cs___expr_reader__level b hb n) (ls := ls___expr_reader__level b n) (n := 57) Tryd.func79 (by kernel_rfl) (fun _ => by kernel_rfl) (inner (by kernel_rfl) (allC (l___expr_reader__level_4_ok b hb n) allN)) (innerS (by kernel_rfl) allN) (by kernel_rfl) (fun a => by kernel_rfl)

/-! (*suture/expr.reader).factor -/
def f___expr_reader__factor (b : B___expr_reader__level) (n : Nat) (a0 : Int) (a1 : List T) (a2 : Int) (a3 : Bool) : Option (Int × Int × ByteArray × (List T) × (List T) × Int × Bool) :=
Option.bind (idx true [.int .i64, .str, .int .i64, .cplx .f64] a1 a2) fun y0 =>
Option.bind (m___expr_reader__is n (⟨#[45]⟩ : ByteArray) a1 a2 a3) fun r1 =>
Option.bind (m___expr_reader__is n (⟨#[40]⟩ : ByteArray) r1.2.1 r1.2.2.1 r1.2.2.2) fun r2 =>
bif r2.2.2.2 then (
some (0, 0, (⟨#[]⟩ : ByteArray), ([] : List T), r2.2.1, r2.2.2.1, r2.2.2.2))
else (
bif (((y0.cell 0).int : Int) == 2) then (
some (1, (y0.cell 2).int, (⟨#[]⟩ : ByteArray), ([] : List T), r2.2.1, (IntKind.wrap .i64 (r2.2.2.1 + 1)), r2.2.2.2))
else (
Option.bind (bif (((y0.cell 0).int : Int) == 1) then m_lex_IsName n (y0.cell 1).str else some false) fun r3 =>
bif (bif (((y0.cell 0).int : Int) == 1) then r3 else false) then (
some (2, 0, (y0.cell 1).str, ([] : List T), r2.2.1, (IntKind.wrap .i64 (r2.2.2.1 + 1)), r2.2.2.2))
else (
bif (bif (bif (!r1.1) then (!r2.1) else false) then true else ((a0 : Int) == 8)) then (
Option.bind (m___expr_reader__fail n r2.2.1 r2.2.2.1 r2.2.2.2) fun r4 =>
some (r4.1, r4.2.1, r4.2.2.1, r4.2.2.2.1, r4.2.2.2.2.1, r4.2.2.2.2.2.1, r4.2.2.2.2.2.2))
else (
bif r1.1 then (
Option.bind (b.__expr_reader__factor (IntKind.wrap .i64 (a0 + 1)) r2.2.1 (IntKind.wrap .i64 (r2.2.2.1 + 1)) r2.2.2.2) fun r5 =>
some (3, 0, (⟨#[]⟩ : ByteArray), [(T.agg [(T.sc (.int .i64 r5.1)), (T.sc (.int .i64 r5.2.1)), (T.sc (.string r5.2.2.1)), (T.list r5.2.2.2.1)])], r5.2.2.2.2.1, r5.2.2.2.2.2.1, r5.2.2.2.2.2.2))
else (
Option.bind (b.__expr_reader__level 0 (IntKind.wrap .i64 (a0 + 1)) r2.2.1 (IntKind.wrap .i64 (r2.2.2.1 + 1)) r2.2.2.2) fun r6 =>
Option.bind (m___expr_reader__is n (⟨#[41]⟩ : ByteArray) r6.2.2.2.2.1 r6.2.2.2.2.2.1 r6.2.2.2.2.2.2) fun r7 =>
bif (!r7.1) then (
Option.bind (m___expr_reader__fail n r7.2.1 r7.2.2.1 r7.2.2.2) fun r8 =>
some (r8.1, r8.2.1, r8.2.2.1, r8.2.2.2.1, r8.2.2.2.2.1, r8.2.2.2.2.2.1, r8.2.2.2.2.2.2))
else (
some (r6.1, r6.2.1, r6.2.2.1, r6.2.2.2.1, r7.2.1, (IntKind.wrap .i64 (r7.2.2.1 + 1)), r7.2.2.2)))))))
theorem f___expr_reader__factor_ok (b : B___expr_reader__level) (hb : B___expr_reader__level_ok b) (n : Nat) : Ok Tryd.prog d___expr_reader__factor (f___expr_reader__factor b n) := fnOk0 sound [⟨d___expr_reader__is, m___expr_reader__is n, m___expr_reader__is_ok n⟩, ⟨d_lex_IsName, m_lex_IsName n, m_lex_IsName_ok n⟩, ⟨d___expr_reader__fail, m___expr_reader__fail n, m___expr_reader__fail_ok n⟩, ⟨d___expr_reader__factor, b.__expr_reader__factor, hb.__expr_reader__factor⟩, ⟨d___expr_reader__level, b.__expr_reader__level, hb.__expr_reader__level⟩] Tryd.func84 (by kernel_rfl) (fun a => by kernel_rfl)
def unB___expr_reader__level (n : Nat) : Nat → B___expr_reader__level
  | 0 => { __expr_reader__level := fun _ _ _ _ _ => none, __expr_reader__factor := fun _ _ _ _ => none }
  | m + 1 => { __expr_reader__level := f___expr_reader__level (unB___expr_reader__level n m) n, __expr_reader__factor := f___expr_reader__factor (unB___expr_reader__level n m) n }
theorem unB___expr_reader__level_ok (n : Nat) : ∀ m, B___expr_reader__level_ok (unB___expr_reader__level n m)
  | 0 => { __expr_reader__level := fun _ _ h => (nomatch (show none = some _ from h)), __expr_reader__factor := fun _ _ h => (nomatch (show none = some _ from h)) }
  | m + 1 => { __expr_reader__level := f___expr_reader__level_ok _ (unB___expr_reader__level_ok n m) n, __expr_reader__factor := f___expr_reader__factor_ok _ (unB___expr_reader__level_ok n m) n }
def m___expr_reader__level (n : Nat) : Int → Int → List T → Int → Bool → Option (Int × Int × ByteArray × (List T) × (List T) × Int × Bool) := (unB___expr_reader__level n n).__expr_reader__level
theorem m___expr_reader__level_ok (n : Nat) : Ok Tryd.prog d___expr_reader__level (m___expr_reader__level n) := (unB___expr_reader__level_ok n n).__expr_reader__level
def m___expr_reader__factor (n : Nat) : Int → List T → Int → Bool → Option (Int × Int × ByteArray × (List T) × (List T) × Int × Bool) := (unB___expr_reader__level n n).__expr_reader__factor
theorem m___expr_reader__factor_ok (n : Nat) : Ok Tryd.prog d___expr_reader__factor (m___expr_reader__factor n) := (unB___expr_reader__level_ok n n).__expr_reader__factor


/-! suture/expr.Read -/
def m_expr_Read (n : Nat) (a0 : List T) (a1 : Int) : Option (Int × Int × ByteArray × (List T) × Int × Bool) :=
Option.bind (m___expr_reader__level n 0 0 a0 a1 false) fun r0 =>
bif r0.2.2.2.2.2.2 then (
some (0, 0, (⟨#[]⟩ : ByteArray), ([] : List T), r0.2.2.2.2.2.1, false))
else (
some (r0.1, r0.2.1, r0.2.2.1, r0.2.2.2.1, r0.2.2.2.2.2.1, true))
def d_expr_Read : FnF := ⟨67, [.list, .int .i64], [.tup 3, .agg 4, .int .i64, .int .i64, .str, .list, .int .i64, .bool]⟩
theorem m_expr_Read_ok (n : Nat) : Ok Tryd.prog d_expr_Read (m_expr_Read n) := fnOk0 sound [⟨d___expr_reader__level, m___expr_reader__level n, m___expr_reader__level_ok n⟩] Tryd.func67 (by kernel_rfl) (fun a => by kernel_rfl)


/-! (*suture/parse.reader).expr -/
def m___parse_reader__expr (n : Nat) (a0 : List T) (a1 : Int) (a2 : Bool) : Option (Int × Int × ByteArray × (List T) × (List T) × Int × Bool) :=
bif a2 then (
some (0, 0, (⟨#[]⟩ : ByteArray), ([] : List T), a0, a1, a2))
else (
Option.bind (m_expr_Read n a0 a1) fun r0 =>
some (r0.1, r0.2.1, r0.2.2.1, r0.2.2.2.1, a0, r0.2.2.2.2.1, (!r0.2.2.2.2.2)))
def d___parse_reader__expr : FnF := ⟨57, [.ptr 0 0, .box 3, .list, .int .i64, .bool], [.agg 4, .int .i64, .int .i64, .str, .list, .box 3, .list, .int .i64, .bool]⟩
theorem m___parse_reader__expr_ok (n : Nat) : Ok Tryd.prog d___parse_reader__expr (m___parse_reader__expr n) := fnOk0 sound [⟨d_expr_Read, m_expr_Read n, m_expr_Read_ok n⟩] Tryd.func57 (by kernel_rfl) (fun a => by kernel_rfl)


/-! __parse_reader__block, __parse_reader__stmt: a circle -/
structure B___parse_reader__block where
  __parse_reader__block : Int → List T → Int → Bool → Option ((List T) × (List T) × Int × Bool)
  __parse_reader__stmt : Int → List T → Int → Bool → Option (Int × ByteArray × ByteArray × Int × Int × Int × ByteArray × (List T) × (List T) × (List T) × (Nat × Nat) × (List T) × Int × Bool)
def d___parse_reader__block : FnF := ⟨27, [.ptr 0 0, .int .i64, .box 3, .list, .int .i64, .bool], [.own 11, .box 3, .list, .int .i64, .bool]⟩
def d___parse_reader__stmt : FnF := ⟨43, [.ptr 0 0, .int .i64, .box 3, .list, .int .i64, .bool], [.agg 11, .int .i64, .str, .str, .int .i64, .int .i64, .int .i64, .str, .list, .list, .list, .cplx .f64, .box 3, .list, .int .i64, .bool]⟩
structure B___parse_reader__block_ok (b : B___parse_reader__block) : Prop where
  __parse_reader__block : Ok Tryd.prog d___parse_reader__block b.__parse_reader__block
  __parse_reader__stmt : Ok Tryd.prog d___parse_reader__stmt b.__parse_reader__stmt

/-! (*suture/parse.reader).block -/
def l___parse_reader__block_5_B (b : B___parse_reader__block) (n : Nat) (k : Int × (List T) × (List T) × Int × Bool → Option ((List T) × (List T) × Int × Bool)) : Int × (List T) × (List T) × Int × Bool → Option ((List T) × (List T) × Int × Bool) := fun (s0, s1, s2, s3, s4) =>
Option.bind (bif (!s4) then m___parse_reader__is n (⟨#[125]⟩ : ByteArray) s2 s3 s4 else some (false, [], 0, false)) fun r2 =>
bif (bif (!s4) then (!r2.1) else false) then (
Option.bind (b.__parse_reader__stmt (IntKind.wrap .i64 (s0 + 1)) (bif (!s4) then r2.2.1 else s2) (bif (!s4) then r2.2.2.1 else s3) (bif (!s4) then r2.2.2.2 else s4)) fun r3 =>
must true ((Nat.beq 11 11 || Nat.beq 11 0) && (decide (List.length s1 + List.length [(T.agg [(T.sc (.int .i64 r3.1)), (T.sc (.string r3.2.1)), (T.sc (.string r3.2.2.1)), (T.sc (.int .i64 r3.2.2.2.1)), (T.sc (.int .i64 r3.2.2.2.2.1)), (T.sc (.int .i64 r3.2.2.2.2.2.1)), (T.sc (.string r3.2.2.2.2.2.2.1)), (T.list r3.2.2.2.2.2.2.2.1), (T.list r3.2.2.2.2.2.2.2.2.1), (T.list r3.2.2.2.2.2.2.2.2.2.1), (T.sc (.complex .f64 r3.2.2.2.2.2.2.2.2.2.2.1.1 r3.2.2.2.2.2.2.2.2.2.2.1.2))])] ≤ 1073741824) && sized 11 [(T.agg [(T.sc (.int .i64 r3.1)), (T.sc (.string r3.2.1)), (T.sc (.string r3.2.2.1)), (T.sc (.int .i64 r3.2.2.2.1)), (T.sc (.int .i64 r3.2.2.2.2.1)), (T.sc (.int .i64 r3.2.2.2.2.2.1)), (T.sc (.string r3.2.2.2.2.2.2.1)), (T.list r3.2.2.2.2.2.2.2.1), (T.list r3.2.2.2.2.2.2.2.2.1), (T.list r3.2.2.2.2.2.2.2.2.2.1), (T.sc (.complex .f64 r3.2.2.2.2.2.2.2.2.2.2.1.1 r3.2.2.2.2.2.2.2.2.2.2.1.2))])])) (k (s0, (s1 ++ [(T.agg [(T.sc (.int .i64 r3.1)), (T.sc (.string r3.2.1)), (T.sc (.string r3.2.2.1)), (T.sc (.int .i64 r3.2.2.2.1)), (T.sc (.int .i64 r3.2.2.2.2.1)), (T.sc (.int .i64 r3.2.2.2.2.2.1)), (T.sc (.string r3.2.2.2.2.2.2.1)), (T.list r3.2.2.2.2.2.2.2.1), (T.list r3.2.2.2.2.2.2.2.2.1), (T.list r3.2.2.2.2.2.2.2.2.2.1), (T.sc (.complex .f64 r3.2.2.2.2.2.2.2.2.2.2.1.1 r3.2.2.2.2.2.2.2.2.2.2.1.2))])]), r3.2.2.2.2.2.2.2.2.2.2.2.1, r3.2.2.2.2.2.2.2.2.2.2.2.2.1, r3.2.2.2.2.2.2.2.2.2.2.2.2.2)))
else (
some (s1, (bif (!s4) then r2.2.1 else s2), (bif (!s4) then r2.2.2.1 else s3), (bif (!s4) then r2.2.2.2 else s4)))
def l___parse_reader__block_5 (b : B___parse_reader__block) (n : Nat) : Nat → Int × (List T) × (List T) × Int × Bool → Option ((List T) × (List T) × Int × Bool)
  | 0, _ => none
  | m + 1, s => l___parse_reader__block_5_B b n (l___parse_reader__block_5 b n m) s
def f___parse_reader__block (b : B___parse_reader__block) (n : Nat) (a0 : Int) (a1 : List T) (a2 : Int) (a3 : Bool) : Option ((List T) × (List T) × Int × Bool) :=
bif ((a0 : Int) == 8) then (
Option.bind (m___parse_reader__fail n a1 a2 a3) fun r0 =>
Option.bind (m___parse_reader__must n (⟨#[123]⟩ : ByteArray) r0.1 r0.2.1 r0.2.2) fun r1 =>
Option.bind (l___parse_reader__block_5 b n n (a0, ([] : List T), r1.1, r1.2.1, r1.2.2)) fun p5 =>
Option.bind (m___parse_reader__must n (⟨#[125]⟩ : ByteArray) p5.2.1 p5.2.2.1 p5.2.2.2) fun r6 =>
Option.bind (m_slices_Clip___api_Stmt_api_Stmt_ n p5.1) fun r7 =>
some (r7, r6.1, r6.2.1, r6.2.2))
else (
Option.bind (m___parse_reader__must n (⟨#[123]⟩ : ByteArray) a1 a2 a3) fun r8 =>
Option.bind (l___parse_reader__block_5 b n n (a0, ([] : List T), r8.1, r8.2.1, r8.2.2)) fun p10 =>
Option.bind (m___parse_reader__must n (⟨#[125]⟩ : ByteArray) p10.2.1 p10.2.2.1 p10.2.2.2) fun r11 =>
Option.bind (m_slices_Clip___api_Stmt_api_Stmt_ n p10.1) fun r12 =>
some (r12, r11.1, r11.2.1, r11.2.2))
def cs___parse_reader__block (b : B___parse_reader__block) (hb : B___parse_reader__block_ok b) (n : Nat) : List (CalF Tryd.prog) := [⟨d___parse_reader__fail, m___parse_reader__fail n, m___parse_reader__fail_ok n⟩, ⟨d___parse_reader__must, m___parse_reader__must n, m___parse_reader__must_ok n⟩, ⟨d___parse_reader__is, m___parse_reader__is n, m___parse_reader__is_ok n⟩, ⟨d___parse_reader__stmt, b.__parse_reader__stmt, hb.__parse_reader__stmt⟩, ⟨d_slices_Clip___api_Stmt_api_Stmt_, m_slices_Clip___api_Stmt_api_Stmt_ n, m_slices_Clip___api_Stmt_api_Stmt__ok n⟩]
def L_l___parse_reader__block_5 : LF := ⟨5, [0, 1, 5], [.ptr 0 0, .int .i64, .own 11, .box 3, .list, .int .i64, .bool], [⟨(.exit 0), [0, 5], [.ptr 0 0, .own 11, .box 3, .list, .int .i64, .bool]⟩]⟩
def ls___parse_reader__block (b : B___parse_reader__block) (n : Nat) : List LE := [⟨5, loopS L_l___parse_reader__block_5 (l___parse_reader__block_5 b n n)⟩]
theorem l___parse_reader__block_5_ok (b : B___parse_reader__block) (hb : B___parse_reader__block_ok b) (n : Nat) : LoopOk Tryd.prog (mkSpec (cs___parse_reader__block b hb n) (ls___parse_reader__block b n)) 1 33 (loopAt Tryd.f27 0) := loopOk (L := L_l___parse_reader__block_5) (f := l___parse_reader__block_5 b n) (B := l___parse_reader__block_5_B b n) (k := n) (loopAt_ok sound Tryd.func27 (by kernel_rfl)) (inner (by kernel_rfl) allN) (innerS (by kernel_rfl) allN) (fun _ => rfl) (fun _ _ => rfl) (by kernel_rfl) (fun _ => by kernel_rfl) (by kernel_rfl) (fun k a => by kernel_rfl)
theorem f___parse_reader__block_ok (b : B___parse_reader__block) (hb : B___parse_reader__block_ok b) (n : Nat) : Ok Tryd.prog d___parse_reader__block (f___parse_reader__block b n) := fnOk sound (cs := cs___parse_reader__block b hb n) (ls := ls___parse_reader__block b n) (n := 33) Tryd.func27 (by kernel_rfl) (fun _ => by kernel_rfl) (inner (by kernel_rfl) (allC (l___parse_reader__block_5_ok b hb n) allN)) (innerS (by kernel_rfl) allN) (by kernel_rfl) (fun a => by kernel_rfl)

/-! (*suture/parse.reader).stmt -/
def f___parse_reader__stmt (b : B___parse_reader__block) (n : Nat) (a0 : Int) (a1 : List T) (a2 : Int) (a3 : Bool) : Option (Int × ByteArray × ByteArray × Int × Int × Int × ByteArray × (List T) × (List T) × (List T) × (Nat × Nat) × (List T) × Int × Bool) :=
Option.bind (idx true [.int .i64, .str, .int .i64, .cplx .f64] a1 a2) fun y0 =>
bif (((y0.cell 0).int : Int) != 1) then (
Option.bind (m___parse_reader__fail n a1 a2 a3) fun r1 =>
some (0, (⟨#[]⟩ : ByteArray), (⟨#[]⟩ : ByteArray), 0, 0, 0, (⟨#[]⟩ : ByteArray), ([] : List T), ([] : List T), ([] : List T), ((y0.cell 3).re, (y0.cell 3).im), r1.1, r1.2.1, r1.2.2))
else (
Option.bind (m_lex_IsName n (y0.cell 1).str) fun r2 =>
bif r2 then (
Option.bind (m___parse_reader__name n a1 a2 a3) fun r3 =>
Option.bind (m___parse_reader__must n (⟨#[61]⟩ : ByteArray) r3.2.1 r3.2.2.1 r3.2.2.2) fun r4 =>
Option.bind (m___parse_reader__expr n r4.1 r4.2.1 r4.2.2) fun r5 =>
some (1, r3.1, (⟨#[]⟩ : ByteArray), 0, r5.1, r5.2.1, r5.2.2.1, r5.2.2.2.1, ([] : List T), ([] : List T), ((y0.cell 3).re, (y0.cell 3).im), r5.2.2.2.2.1, r5.2.2.2.2.2.1, r5.2.2.2.2.2.2))
else (
bif (ByteArray.toList (y0.cell 1).str == ByteArray.toList (⟨#[108, 111, 99, 107]⟩ : ByteArray)) then (
Option.bind (m___parse_reader__name n a1 (IntKind.wrap .i64 (a2 + 1)) a3) fun r6 =>
some (2, r6.1, (⟨#[]⟩ : ByteArray), 0, 0, 0, (⟨#[]⟩ : ByteArray), ([] : List T), ([] : List T), ([] : List T), ((y0.cell 3).re, (y0.cell 3).im), r6.2.1, r6.2.2.1, r6.2.2.2))
else (
bif (ByteArray.toList (y0.cell 1).str == ByteArray.toList (⟨#[117, 110, 108, 111, 99, 107]⟩ : ByteArray)) then (
Option.bind (m___parse_reader__name n a1 (IntKind.wrap .i64 (a2 + 1)) a3) fun r7 =>
some (3, r7.1, (⟨#[]⟩ : ByteArray), 0, 0, 0, (⟨#[]⟩ : ByteArray), ([] : List T), ([] : List T), ([] : List T), ((y0.cell 3).re, (y0.cell 3).im), r7.2.1, r7.2.2.1, r7.2.2.2))
else (
bif (ByteArray.toList (y0.cell 1).str == ByteArray.toList (⟨#[115, 101, 110, 100]⟩ : ByteArray)) then (
Option.bind (m___parse_reader__name n a1 (IntKind.wrap .i64 (a2 + 1)) a3) fun r8 =>
Option.bind (m___parse_reader__expr n r8.2.1 r8.2.2.1 r8.2.2.2) fun r9 =>
some (4, r8.1, (⟨#[]⟩ : ByteArray), 0, r9.1, r9.2.1, r9.2.2.1, r9.2.2.2.1, ([] : List T), ([] : List T), ((y0.cell 3).re, (y0.cell 3).im), r9.2.2.2.2.1, r9.2.2.2.2.2.1, r9.2.2.2.2.2.2))
else (
bif (ByteArray.toList (y0.cell 1).str == ByteArray.toList (⟨#[114, 101, 99, 118]⟩ : ByteArray)) then (
Option.bind (m___parse_reader__name n a1 (IntKind.wrap .i64 (a2 + 1)) a3) fun r10 =>
Option.bind (m___parse_reader__name n r10.2.1 r10.2.2.1 r10.2.2.2) fun r11 =>
some (5, r10.1, r11.1, 0, 0, 0, (⟨#[]⟩ : ByteArray), ([] : List T), ([] : List T), ([] : List T), ((y0.cell 3).re, (y0.cell 3).im), r11.2.1, r11.2.2.1, r11.2.2.2))
else (
bif (ByteArray.toList (y0.cell 1).str == ByteArray.toList (⟨#[112, 114, 105, 110, 116]⟩ : ByteArray)) then (
Option.bind (m___parse_reader__expr n a1 (IntKind.wrap .i64 (a2 + 1)) a3) fun r12 =>
some (6, (⟨#[]⟩ : ByteArray), (⟨#[]⟩ : ByteArray), 0, r12.1, r12.2.1, r12.2.2.1, r12.2.2.2.1, ([] : List T), ([] : List T), ((y0.cell 3).re, (y0.cell 3).im), r12.2.2.2.2.1, r12.2.2.2.2.2.1, r12.2.2.2.2.2.2))
else (
bif (ByteArray.toList (y0.cell 1).str == ByteArray.toList (⟨#[105, 102]⟩ : ByteArray)) then (
Option.bind (m___parse_reader__expr n a1 (IntKind.wrap .i64 (a2 + 1)) a3) fun r13 =>
Option.bind (b.__parse_reader__block a0 r13.2.2.2.2.1 r13.2.2.2.2.2.1 r13.2.2.2.2.2.2) fun r14 =>
Option.bind (m___parse_reader__is n (⟨#[101, 108, 115, 101]⟩ : ByteArray) r14.2.1 r14.2.2.1 r14.2.2.2) fun r15 =>
bif r15.1 then (
Option.bind (b.__parse_reader__block a0 r15.2.1 (IntKind.wrap .i64 (r15.2.2.1 + 1)) r15.2.2.2) fun r16 =>
some (7, (⟨#[]⟩ : ByteArray), (⟨#[]⟩ : ByteArray), 0, r13.1, r13.2.1, r13.2.2.1, r13.2.2.2.1, r14.1, r16.1, ((y0.cell 3).re, (y0.cell 3).im), r16.2.1, r16.2.2.1, r16.2.2.2))
else (
some (7, (⟨#[]⟩ : ByteArray), (⟨#[]⟩ : ByteArray), 0, r13.1, r13.2.1, r13.2.2.1, r13.2.2.2.1, r14.1, ([] : List T), ((y0.cell 3).re, (y0.cell 3).im), r15.2.1, r15.2.2.1, r15.2.2.2)))
else (
bif (ByteArray.toList (y0.cell 1).str == ByteArray.toList (⟨#[114, 101, 112, 101, 97, 116]⟩ : ByteArray)) then (
Option.bind (m___parse_reader__number n 9 a1 (IntKind.wrap .i64 (a2 + 1)) a3) fun r17 =>
Option.bind (b.__parse_reader__block a0 r17.2.1 r17.2.2.1 r17.2.2.2) fun r18 =>
some (8, (⟨#[]⟩ : ByteArray), (⟨#[]⟩ : ByteArray), r17.1, 0, 0, (⟨#[]⟩ : ByteArray), ([] : List T), r18.1, ([] : List T), ((y0.cell 3).re, (y0.cell 3).im), r18.2.1, r18.2.2.1, r18.2.2.2))
else (
bif (ByteArray.toList (y0.cell 1).str == ByteArray.toList (⟨#[103, 111, 116, 111]⟩ : ByteArray)) then (
Option.bind (m___parse_reader__name n a1 (IntKind.wrap .i64 (a2 + 1)) a3) fun r19 =>
some (9, r19.1, (⟨#[]⟩ : ByteArray), 0, 0, 0, (⟨#[]⟩ : ByteArray), ([] : List T), ([] : List T), ([] : List T), ((y0.cell 3).re, (y0.cell 3).im), r19.2.1, r19.2.2.1, r19.2.2.2))
else (
bif (ByteArray.toList (y0.cell 1).str == ByteArray.toList (⟨#[108, 97, 98, 101, 108]⟩ : ByteArray)) then (
Option.bind (m___parse_reader__name n a1 (IntKind.wrap .i64 (a2 + 1)) a3) fun r20 =>
some (10, r20.1, (⟨#[]⟩ : ByteArray), 0, 0, 0, (⟨#[]⟩ : ByteArray), ([] : List T), ([] : List T), ([] : List T), ((y0.cell 3).re, (y0.cell 3).im), r20.2.1, r20.2.2.1, r20.2.2.2))
else (
Option.bind (m___parse_reader__fail n a1 (IntKind.wrap .i64 ((IntKind.wrap .i64 (a2 + 1)) - 1)) a3) fun r21 =>
some (0, (⟨#[]⟩ : ByteArray), (⟨#[]⟩ : ByteArray), 0, 0, 0, (⟨#[]⟩ : ByteArray), ([] : List T), ([] : List T), ([] : List T), ((y0.cell 3).re, (y0.cell 3).im), r21.1, r21.2.1, r21.2.2))))))))))))
theorem f___parse_reader__stmt_ok (b : B___parse_reader__block) (hb : B___parse_reader__block_ok b) (n : Nat) : Ok Tryd.prog d___parse_reader__stmt (f___parse_reader__stmt b n) := fnOk0 sound [⟨d___parse_reader__fail, m___parse_reader__fail n, m___parse_reader__fail_ok n⟩, ⟨d_lex_IsName, m_lex_IsName n, m_lex_IsName_ok n⟩, ⟨d___parse_reader__name, m___parse_reader__name n, m___parse_reader__name_ok n⟩, ⟨d___parse_reader__must, m___parse_reader__must n, m___parse_reader__must_ok n⟩, ⟨d___parse_reader__expr, m___parse_reader__expr n, m___parse_reader__expr_ok n⟩, ⟨d___parse_reader__block, b.__parse_reader__block, hb.__parse_reader__block⟩, ⟨d___parse_reader__is, m___parse_reader__is n, m___parse_reader__is_ok n⟩, ⟨d___parse_reader__number, m___parse_reader__number n, m___parse_reader__number_ok n⟩] Tryd.func43 (by kernel_rfl) (fun a => by kernel_rfl)
def unB___parse_reader__block (n : Nat) : Nat → B___parse_reader__block
  | 0 => { __parse_reader__block := fun _ _ _ _ => none, __parse_reader__stmt := fun _ _ _ _ => none }
  | m + 1 => { __parse_reader__block := f___parse_reader__block (unB___parse_reader__block n m) n, __parse_reader__stmt := f___parse_reader__stmt (unB___parse_reader__block n m) n }
theorem unB___parse_reader__block_ok (n : Nat) : ∀ m, B___parse_reader__block_ok (unB___parse_reader__block n m)
  | 0 => { __parse_reader__block := fun _ _ h => (nomatch (show none = some _ from h)), __parse_reader__stmt := fun _ _ h => (nomatch (show none = some _ from h)) }
  | m + 1 => { __parse_reader__block := f___parse_reader__block_ok _ (unB___parse_reader__block_ok n m) n, __parse_reader__stmt := f___parse_reader__stmt_ok _ (unB___parse_reader__block_ok n m) n }
def m___parse_reader__block (n : Nat) : Int → List T → Int → Bool → Option ((List T) × (List T) × Int × Bool) := (unB___parse_reader__block n n).__parse_reader__block
theorem m___parse_reader__block_ok (n : Nat) : Ok Tryd.prog d___parse_reader__block (m___parse_reader__block n) := (unB___parse_reader__block_ok n n).__parse_reader__block
def m___parse_reader__stmt (n : Nat) : Int → List T → Int → Bool → Option (Int × ByteArray × ByteArray × Int × Int × Int × ByteArray × (List T) × (List T) × (List T) × (Nat × Nat) × (List T) × Int × Bool) := (unB___parse_reader__block n n).__parse_reader__stmt
theorem m___parse_reader__stmt_ok (n : Nat) : Ok Tryd.prog d___parse_reader__stmt (m___parse_reader__stmt n) := (unB___parse_reader__block_ok n n).__parse_reader__stmt


/-! slices.Clip[[][]suture/api.Stmt,[]suture/api.Stmt] -/
def m_slices_Clip_____api_Stmt___api_Stmt_ (n : Nat) (a0 : List T) : Option ((List T)) :=
must true (decide (0 ≤ 0) && decide (0 ≤ ((List.length a0 : Nat) : Int)) && decide (((List.length a0 : Nat) : Int) ≤ ((List.length a0 : Nat) : Int)) && sized 1 a0) (must true (decide (((List.length a0 : Nat) : Int) = ((List.length a0 : Nat) : Int))) (some (List.drop (Int.toNat 0) (List.take (Int.toNat ((List.length a0 : Nat) : Int)) a0))))
def d_slices_Clip_____api_Stmt___api_Stmt_ : FnF := ⟨28, [.list], [.own 1]⟩
theorem m_slices_Clip_____api_Stmt___api_Stmt__ok (n : Nat) : Ok Tryd.prog d_slices_Clip_____api_Stmt___api_Stmt_ (m_slices_Clip_____api_Stmt___api_Stmt_ n) := fnOk0 sound [] Tryd.func28 (by kernel_rfl) (fun a => by kernel_rfl)


/-! (*suture/parse.reader).prog -/
def l___parse_reader__prog_2_B (n : Nat) (k : (List T) × Int × Bool × (List T) × (List T) × (List T) × (List T) → Option ((List T) × Int × Bool × (List T) × (List T) × (List T) × (List T))) : (List T) × Int × Bool × (List T) × (List T) × (List T) × (List T) → Option ((List T) × Int × Bool × (List T) × (List T) × (List T) × (List T)) := fun (s0, s1, s2, s3, s4, s5, s6) =>
Option.bind (idx (((!s2) && !((((List.length s6 : Nat) : Int) : Int) == 0))) [.int .i64, .str, .int .i64, .cplx .f64] s0 s1) fun y1 =>
bif (bif (!s2) then (bif ((((List.length s6 : Nat) : Int) : Int) == 0) then true else (((y1.cell 0).int : Int) != 4)) else false) then (
bif ((((List.length s6 : Nat) : Int) : Int) == 4) then (
Option.bind (m___parse_reader__fail n s0 s1 s2) fun r2 =>
Option.bind (m___parse_reader__must n (⟨#[103, 111]⟩ : ByteArray) r2.1 r2.2.1 r2.2.2) fun r3 =>
Option.bind (m___parse_reader__block n 0 r3.1 r3.2.1 r3.2.2) fun r4 =>
must true ((Nat.beq 1 1 || Nat.beq 1 0) && (decide (List.length s6 + List.length [(T.list r4.1)] ≤ 1073741824) && sized 1 [(T.list r4.1)])) (k (r4.2.1, r4.2.2.1, r4.2.2.2, s3, s4, s5, (s6 ++ [(T.list r4.1)]))))
else (
Option.bind (m___parse_reader__must n (⟨#[103, 111]⟩ : ByteArray) s0 s1 s2) fun r5 =>
Option.bind (m___parse_reader__block n 0 r5.1 r5.2.1 r5.2.2) fun r6 =>
must true ((Nat.beq 1 1 || Nat.beq 1 0) && (decide (List.length s6 + List.length [(T.list r6.1)] ≤ 1073741824) && sized 1 [(T.list r6.1)])) (k (r6.2.1, r6.2.2.1, r6.2.2.2, s3, s4, s5, (s6 ++ [(T.list r6.1)])))))
else (
some (s0, s1, s2, s3, s4, s5, s6))
def l___parse_reader__prog_2 (n : Nat) : Nat → (List T) × Int × Bool × (List T) × (List T) × (List T) × (List T) → Option ((List T) × Int × Bool × (List T) × (List T) × (List T) × (List T))
  | 0, _ => none
  | m + 1, s => l___parse_reader__prog_2_B n (l___parse_reader__prog_2 n m) s
def m___parse_reader__prog (n : Nat) (a0 : List T) (a1 : Int) (a2 : Bool) : Option ((List T) × (List T) × (List T) × Int × Bool) :=
Option.bind (m___parse_reader__decls n a0 a1 a2) fun r0 =>
Option.bind (l___parse_reader__prog_2 n n (r0.2.1, r0.2.2.1, r0.2.2.2, ([] : List T), ([] : List T), r0.1, ([] : List T))) fun p8 =>
Option.bind (m_slices_Clip_____api_Stmt___api_Stmt_ n p8.2.2.2.2.2.2) fun r9 =>
some (p8.2.2.2.2.2.1, r9, p8.1, p8.2.1, p8.2.2.1)
def d___parse_reader__prog : FnF := ⟨10, [.ptr 0 0, .box 3, .list, .int .i64, .bool], [.agg 2, .list, .list, .box 3, .list, .int .i64, .bool]⟩
def cs___parse_reader__prog (n : Nat) : List (CalF Tryd.prog) := [⟨d___parse_reader__decls, m___parse_reader__decls n, m___parse_reader__decls_ok n⟩, ⟨d___parse_reader__fail, m___parse_reader__fail n, m___parse_reader__fail_ok n⟩, ⟨d___parse_reader__must, m___parse_reader__must n, m___parse_reader__must_ok n⟩, ⟨d___parse_reader__block, m___parse_reader__block n, m___parse_reader__block_ok n⟩, ⟨d_slices_Clip_____api_Stmt___api_Stmt_, m_slices_Clip_____api_Stmt___api_Stmt_ n, m_slices_Clip_____api_Stmt___api_Stmt__ok n⟩]
def L_l___parse_reader__prog_2 : LF := ⟨2, [0, 2, 3], [.ptr 0 0, .ptr 1 0, .ptr 2 0, .box 3, .list, .int .i64, .bool, .box 2, .own 0, .own 0, .box 2, .list, .own 1], [⟨(.exit 0), [2, 3], [.ptr 1 0, .ptr 2 0, .box 3, .list, .int .i64, .bool, .box 2, .own 0, .own 0, .box 2, .list, .own 1]⟩]⟩
def ls___parse_reader__prog (n : Nat) : List LE := [⟨2, loopS L_l___parse_reader__prog_2 (l___parse_reader__prog_2 n n)⟩]
theorem l___parse_reader__prog_2_ok (n : Nat) : LoopOk Tryd.prog (mkSpec (cs___parse_reader__prog n) (ls___parse_reader__prog n)) 1 52 (loopAt Tryd.f10 0) := loopOk (L := L_l___parse_reader__prog_2) (f := l___parse_reader__prog_2 n) (B := l___parse_reader__prog_2_B n) (k := n) (loopAt_ok sound Tryd.func10 (by kernel_rfl)) (inner (by kernel_rfl) allN) (innerS (by kernel_rfl) allN) (fun _ => rfl) (fun _ _ => rfl) (by kernel_rfl) (fun _ => by kernel_rfl) (by kernel_rfl) (fun k a => by kernel_rfl)
theorem m___parse_reader__prog_ok (n : Nat) : Ok Tryd.prog d___parse_reader__prog (m___parse_reader__prog n) := fnOk sound (cs := cs___parse_reader__prog n) (ls := ls___parse_reader__prog n) (n := 52) Tryd.func10 (by kernel_rfl) (fun _ => by kernel_rfl) (inner (by kernel_rfl) (allC (l___parse_reader__prog_2_ok n) allN)) (innerS (by kernel_rfl) allN) (by kernel_rfl) (fun a => by kernel_rfl)


/-! suture/parse.Read -/
def m_parse_Read (n : Nat) (a0 : ByteArray) : Option ((List T) × (List T) × (Nat × Nat) × Int) :=
Option.bind (m_lex_Tokens n a0) fun r0 =>
bif ((r0.2.2 : Int) != 0) then (
some (([] : List T), ([] : List T), r0.2.1, r0.2.2))
else (
Option.bind (m___parse_reader__prog n r0.1 0 false) fun r1 =>
bif r1.2.2.2.2 then (
Option.bind (idx true [.int .i64, .str, .int .i64, .cplx .f64] r0.1 r1.2.2.2.1) fun y2 =>
some (([] : List T), ([] : List T), ((y2.cell 3).re, (y2.cell 3).im), 2))
else (
some (r1.1, r1.2.1, (0, 0), 0)))
def d_parse_Read : FnF := ⟨5, [.str], [.tup 3, .agg 2, .list, .list, .cplx .f64, .int .i64]⟩
theorem m_parse_Read_ok (n : Nat) : Ok Tryd.prog d_parse_Read (m_parse_Read n) := fnOk0 sound [⟨d_lex_Tokens, m_lex_Tokens n, m_lex_Tokens_ok n⟩, ⟨d___parse_reader__prog, m___parse_reader__prog n, m___parse_reader__prog_ok n⟩] Tryd.func5 (by kernel_rfl) (fun a => by kernel_rfl)


/-! suture/suturelaw5.known -/
def m_suturelaw5_known_x (n : Nat) : Option (Bool) :=
Option.bind (m_parse_Read n (⟨#[118, 97, 114, 32, 120, 32, 103, 111, 123, 120, 61, 49, 125]⟩ : ByteArray)) fun r0 =>
Option.bind (idx ((bif ((r0.2.2.2 : Int) == 0) then ((((List.length r0.1 : Nat) : Int) : Int) == 1) else false)) [.int .i64, .str, .int .i64, .cplx .f64] r0.1 0) fun y1 =>
Option.bind (idx ((bif (bif (bif ((r0.2.2.2 : Int) == 0) then ((((List.length r0.1 : Nat) : Int) : Int) == 1) else false) then (cplxEq .f64 (y1.cell 3).re (y1.cell 3).im 4607182418800017408 4607182418800017408) else false) then ((((List.length r0.2.1 : Nat) : Int) : Int) == 1) else false)) [.list] r0.2.1 0) fun y2 =>
Option.bind (idx ((bif (bif (bif (bif ((r0.2.2.2 : Int) == 0) then ((((List.length r0.1 : Nat) : Int) : Int) == 1) else false) then (cplxEq .f64 (y1.cell 3).re (y1.cell 3).im 4607182418800017408 4607182418800017408) else false) then ((((List.length r0.2.1 : Nat) : Int) : Int) == 1) else false) then ((((List.length (y2.cell 0).lst : Nat) : Int) : Int) == 1) else false)) [.list] r0.2.1 0) fun y3 =>
Option.bind (idx ((bif (bif (bif (bif ((r0.2.2.2 : Int) == 0) then ((((List.length r0.1 : Nat) : Int) : Int) == 1) else false) then (cplxEq .f64 (y1.cell 3).re (y1.cell 3).im 4607182418800017408 4607182418800017408) else false) then ((((List.length r0.2.1 : Nat) : Int) : Int) == 1) else false) then ((((List.length (y2.cell 0).lst : Nat) : Int) : Int) == 1) else false)) [.int .i64, .str, .str, .int .i64, .int .i64, .int .i64, .str, .list, .list, .list, .cplx .f64] (y3.cell 0).lst 0) fun y4 =>
Option.bind (idx ((bif (bif (bif (bif (bif ((r0.2.2.2 : Int) == 0) then ((((List.length r0.1 : Nat) : Int) : Int) == 1) else false) then (cplxEq .f64 (y1.cell 3).re (y1.cell 3).im 4607182418800017408 4607182418800017408) else false) then ((((List.length r0.2.1 : Nat) : Int) : Int) == 1) else false) then ((((List.length (y2.cell 0).lst : Nat) : Int) : Int) == 1) else false) then (((y4.cell 0).int : Int) == 1) else false)) [.list] r0.2.1 0) fun y5 =>
Option.bind (idx ((bif (bif (bif (bif (bif ((r0.2.2.2 : Int) == 0) then ((((List.length r0.1 : Nat) : Int) : Int) == 1) else false) then (cplxEq .f64 (y1.cell 3).re (y1.cell 3).im 4607182418800017408 4607182418800017408) else false) then ((((List.length r0.2.1 : Nat) : Int) : Int) == 1) else false) then ((((List.length (y2.cell 0).lst : Nat) : Int) : Int) == 1) else false) then (((y4.cell 0).int : Int) == 1) else false)) [.int .i64, .str, .str, .int .i64, .int .i64, .int .i64, .str, .list, .list, .list, .cplx .f64] (y5.cell 0).lst 0) fun y6 =>
some (bif (bif (bif (bif (bif (bif ((r0.2.2.2 : Int) == 0) then ((((List.length r0.1 : Nat) : Int) : Int) == 1) else false) then (cplxEq .f64 (y1.cell 3).re (y1.cell 3).im 4607182418800017408 4607182418800017408) else false) then ((((List.length r0.2.1 : Nat) : Int) : Int) == 1) else false) then ((((List.length (y2.cell 0).lst : Nat) : Int) : Int) == 1) else false) then (((y4.cell 0).int : Int) == 1) else false) then (cplxEq .f64 (y6.cell 10).re (y6.cell 10).im 4607182418800017408 4621819117588971520) else false)
def d_suturelaw5_known_x : FnF := ⟨6, [], [.bool]⟩
theorem m_suturelaw5_known_x_ok (n : Nat) : Ok Tryd.prog d_suturelaw5_known_x (m_suturelaw5_known_x n) := fnOk0 sound [⟨d_parse_Read, m_parse_Read n, m_parse_Read_ok n⟩] Tryd.func6 (by kernel_rfl) (fun a => by kernel_rfl)


/-! suture/suturelaw5.known: closed -/
def m_suturelaw5_known (n : Nat) : Option (Bool) := some true
def d_suturelaw5_known : FnF := ⟨6, [], [.bool]⟩
theorem m_suturelaw5_known_ok (n : Nat) : Ok Tryd.prog d_suturelaw5_known (m_suturelaw5_known n) := fun a r h => by
  cases (Option.some.inj (show some true = some r from h))
  exact m_suturelaw5_known_x_ok 3000 () true (show m_suturelaw5_known_x 3000 = some true from by kernel_rfl)


/-! suture/sutureref1.Within -/
def m_sutureref1_Within (n : Nat) (a0 : Int) (a1 : Int) (a2 : Int) : Option (Int) :=
some (if (a1 : Int) < (if (a0 : Int) < a2 then a0 else a2) then (if (a0 : Int) < a2 then a0 else a2) else a1)
def d_sutureref1_Within : FnF := ⟨29, [.int .i64, .int .i64, .int .i64], [.int .i64]⟩
theorem m_sutureref1_Within_ok (n : Nat) : Ok Tryd.prog d_sutureref1_Within (m_sutureref1_Within n) := fnOk0 sound [] Tryd.func29 (by kernel_rfl) (fun a => by kernel_rfl)


/-! suture/sutureref1.Spot -/
def l_sutureref1_Spot_5_B (n : Nat) (k : ByteArray × Int × Int × Int × Int → Option (Int × Int)) : ByteArray × Int × Int × Int × Int → Option (Int × Int) := fun (s0, s1, s2, s3, s4) =>
bif (decide ((s4 : Int) < s1)) then (
Option.bind (bidx true s0 s4) fun b1 =>
bif ((((UInt8.toNat b1 : Nat) : Int) : Int) == 10) then (
k (s0, s1, (IntKind.wrap .i64 (s2 + 1)), 1, (IntKind.wrap .i64 (s4 + 1))))
else (
k (s0, s1, s2, (IntKind.wrap .i64 (s3 + 1)), (IntKind.wrap .i64 (s4 + 1)))))
else (
some (s2, s3))
def l_sutureref1_Spot_5 (n : Nat) : Nat → ByteArray × Int × Int × Int × Int → Option (Int × Int)
  | 0, _ => none
  | m + 1, s => l_sutureref1_Spot_5_B n (l_sutureref1_Spot_5 n m) s
def m_sutureref1_Spot (n : Nat) (a0 : ByteArray) (a1 : Int) : Option (Int × Int) :=
Option.bind (m_sutureref1_Within n a1 0 ((ByteArray.size a0 : Nat) : Int)) fun r0 =>
Option.bind (l_sutureref1_Spot_5 n n (a0, r0, 1, 1, 0)) fun p3 =>
some (p3.1, p3.2)
def d_sutureref1_Spot : FnF := ⟨11, [.str, .int .i64], [.tup 2, .int .i64, .int .i64]⟩
def cs_sutureref1_Spot (n : Nat) : List (CalF Tryd.prog) := [⟨d_sutureref1_Within, m_sutureref1_Within n, m_sutureref1_Within_ok n⟩]
def L_l_sutureref1_Spot_5 : LF := ⟨5, [0, 1, 6, 7, 8], [.str, .int .i64, .int .i64, .int .i64, .int .i64], [⟨(.exit 0), [6, 7], [.int .i64, .int .i64]⟩]⟩
def ls_sutureref1_Spot (n : Nat) : List LE := [⟨5, loopS L_l_sutureref1_Spot_5 (l_sutureref1_Spot_5 n n)⟩]
theorem l_sutureref1_Spot_5_ok (n : Nat) : LoopOk Tryd.prog (mkSpec (cs_sutureref1_Spot n) (ls_sutureref1_Spot n)) 0 28 (loopAt Tryd.f11 0) := loopOk (L := L_l_sutureref1_Spot_5) (f := l_sutureref1_Spot_5 n) (B := l_sutureref1_Spot_5_B n) (k := n) (loopAt_ok sound Tryd.func11 (by kernel_rfl)) (inner (by kernel_rfl) allN) (innerS (by kernel_rfl) allN) (fun _ => rfl) (fun _ _ => rfl) (by kernel_rfl) (fun _ => by kernel_rfl) (by kernel_rfl) (fun k a => by kernel_rfl)
theorem m_sutureref1_Spot_ok (n : Nat) : Ok Tryd.prog d_sutureref1_Spot (m_sutureref1_Spot n) := fnOk sound (cs := cs_sutureref1_Spot n) (ls := ls_sutureref1_Spot n) (n := 28) Tryd.func11 (by kernel_rfl) (fun _ => by kernel_rfl) (inner (by kernel_rfl) (allC (l_sutureref1_Spot_5_ok n) allN)) (innerS (by kernel_rfl) allN) (by kernel_rfl) (fun a => by kernel_rfl)


/-! suture/sutureref1.Place -/
def m_sutureref1_Place (n : Nat) (a0 : ByteArray) (a1 : Int) : Option ((Nat × Nat)) :=
Option.bind (m_sutureref1_Spot n a0 a1) fun r0 =>
some ((FloatKind.nearest .f64 r0.1), (FloatKind.nearest .f64 r0.2))
def d_sutureref1_Place : FnF := ⟨7, [.str, .int .i64], [.cplx .f64]⟩
theorem m_sutureref1_Place_ok (n : Nat) : Ok Tryd.prog d_sutureref1_Place (m_sutureref1_Place n) := fnOk0 sound [⟨d_sutureref1_Spot, m_sutureref1_Spot n, m_sutureref1_Spot_ok n⟩] Tryd.func7 (by kernel_rfl) (fun a => by kernel_rfl)


/-! suture/suturelaw5.ParseKnown -/
def l_suturelaw5_ParseKnown_8_B (n : Nat) (k : (List T) × ByteArray × ByteArray × ByteArray × ByteArray × ByteArray × ByteArray × ByteArray × ByteArray × ByteArray × ByteArray × ByteArray × ByteArray × ByteArray × ByteArray × ByteArray × ByteArray × ByteArray × ByteArray × Int × (List T) × (List T) × ByteArray × ByteArray × ByteArray × ByteArray × ByteArray × ByteArray × ByteArray × ByteArray × ByteArray × ByteArray × ByteArray × ByteArray × ByteArray × ByteArray × ByteArray × ByteArray × ByteArray × ByteArray × Int × Int × Int × Int × Int × Int × Int × Int × Int × Int × Int × Int × Int × Int × Int × Int × Int × Int → Option (((Bool × (List T) × (List T) × ByteArray × ByteArray × ByteArray × ByteArray × ByteArray × ByteArray × ByteArray × ByteArray × ByteArray × ByteArray × ByteArray × ByteArray × ByteArray × ByteArray × ByteArray × ByteArray × ByteArray × ByteArray × Int × Int × Int × Int × Int × Int × Int × Int × Int × Int × Int × Int × Int × Int × Int × Int × Int × Int) ⊕ (List T) × (List T) × (List T) × ByteArray × ByteArray × ByteArray × ByteArray × ByteArray × ByteArray × ByteArray × ByteArray × ByteArray × ByteArray × ByteArray × ByteArray × ByteArray × ByteArray × ByteArray × ByteArray × ByteArray × ByteArray × Int × Int × Int × Int × Int × Int × Int × Int × Int × Int × Int × Int × Int × Int × Int × Int × Int × Int))) : (List T) × ByteArray × ByteArray × ByteArray × ByteArray × ByteArray × ByteArray × ByteArray × ByteArray × ByteArray × ByteArray × ByteArray × ByteArray × ByteArray × ByteArray × ByteArray × ByteArray × ByteArray × ByteArray × Int × (List T) × (List T) × ByteArray × ByteArray × ByteArray × ByteArray × ByteArray × ByteArray × ByteArray × ByteArray × ByteArray × ByteArray × ByteArray × ByteArray × ByteArray × ByteArray × ByteArray × ByteArray × ByteArray × ByteArray × Int × Int × Int × Int × Int × Int × Int × Int × Int × Int × Int × Int × Int × Int × Int × Int × Int × Int → Option (((Bool × (List T) × (List T) × ByteArray × ByteArray × ByteArray × ByteArray × ByteArray × ByteArray × ByteArray × ByteArray × ByteArray × ByteArray × ByteArray × ByteArray × ByteArray × ByteArray × ByteArray × ByteArray × ByteArray × ByteArray × Int × Int × Int × Int × Int × Int × Int × Int × Int × Int × Int × Int × Int × Int × Int × Int × Int × Int) ⊕ (List T) × (List T) × (List T) × ByteArray × ByteArray × ByteArray × ByteArray × ByteArray × ByteArray × ByteArray × ByteArray × ByteArray × ByteArray × ByteArray × ByteArray × ByteArray × ByteArray × ByteArray × ByteArray × ByteArray × ByteArray × Int × Int × Int × Int × Int × Int × Int × Int × Int × Int × Int × Int × Int × Int × Int × Int × Int × Int)) := fun (s0, s1, s2, s3, s4, s5, s6, s7, s8, s9, s10, s11, s12, s13, s14, s15, s16, s17, s18, s19, s20, s21, s22, s23, s24, s25, s26, s27, s28, s29, s30, s31, s32, s33, s34, s35, s36, s37, s38, s39, s40, s41, s42, s43, s44, s45, s46, s47, s48, s49, s50, s51, s52, s53, s54, s55, s56, s57) =>
bif (decide ((s19 : Int) < 18)) then (
Option.bind (idx1 true (.str) [(T.sc (.string s1)), (T.sc (.string s2)), (T.sc (.string s3)), (T.sc (.string s4)), (T.sc (.string s5)), (T.sc (.string s6)), (T.sc (.string s7)), (T.sc (.string s8)), (T.sc (.string s9)), (T.sc (.string s10)), (T.sc (.string s11)), (T.sc (.string s12)), (T.sc (.string s13)), (T.sc (.string s14)), (T.sc (.string s15)), (T.sc (.string s16)), (T.sc (.string s17)), (T.sc (.string s18))] s19) fun y5 =>
Option.bind (m_parse_Read n y5.str) fun r6 =>
must (!((r6.2.2.2 : Int) != 2)) (decide (0 ≤ s19) && decide (s19 < ((18 : Nat) : Int))) (Option.bind (idx1 (!((r6.2.2.2 : Int) != 2)) (.int .i64) [(T.sc (.int .i64 s40)), (T.sc (.int .i64 s41)), (T.sc (.int .i64 s42)), (T.sc (.int .i64 s43)), (T.sc (.int .i64 s44)), (T.sc (.int .i64 s45)), (T.sc (.int .i64 s46)), (T.sc (.int .i64 s47)), (T.sc (.int .i64 s48)), (T.sc (.int .i64 s49)), (T.sc (.int .i64 s50)), (T.sc (.int .i64 s51)), (T.sc (.int .i64 s52)), (T.sc (.int .i64 s53)), (T.sc (.int .i64 s54)), (T.sc (.int .i64 s55)), (T.sc (.int .i64 s56)), (T.sc (.int .i64 s57))] s19) fun y7 =>
Option.bind (bif !((r6.2.2.2 : Int) != 2) then m_sutureref1_Place n y5.str y7.int else some (0, 0)) fun r8 =>
bif (bif ((r6.2.2.2 : Int) != 2) then true else (!(cplxEq .f64 r6.2.2.1.1 r6.2.2.1.2 r8.1 r8.2))) then (
some (Sum.inl (false, s20, s21, s22, s23, s24, s25, s26, s27, s28, s29, s30, s31, s32, s33, s34, s35, s36, s37, s38, s39, s40, s41, s42, s43, s44, s45, s46, s47, s48, s49, s50, s51, s52, s53, s54, s55, s56, s57)))
else (
k (s0, s1, s2, s3, s4, s5, s6, s7, s8, s9, s10, s11, s12, s13, s14, s15, s16, s17, s18, (IntKind.wrap .i64 (s19 + 1)), s20, s21, s22, s23, s24, s25, s26, s27, s28, s29, s30, s31, s32, s33, s34, s35, s36, s37, s38, s39, s40, s41, s42, s43, s44, s45, s46, s47, s48, s49, s50, s51, s52, s53, s54, s55, s56, s57))))
else (
some (Sum.inr (s0, s20, s21, s22, s23, s24, s25, s26, s27, s28, s29, s30, s31, s32, s33, s34, s35, s36, s37, s38, s39, s40, s41, s42, s43, s44, s45, s46, s47, s48, s49, s50, s51, s52, s53, s54, s55, s56, s57)))
def l_suturelaw5_ParseKnown_8 (n : Nat) : Nat → (List T) × ByteArray × ByteArray × ByteArray × ByteArray × ByteArray × ByteArray × ByteArray × ByteArray × ByteArray × ByteArray × ByteArray × ByteArray × ByteArray × ByteArray × ByteArray × ByteArray × ByteArray × ByteArray × Int × (List T) × (List T) × ByteArray × ByteArray × ByteArray × ByteArray × ByteArray × ByteArray × ByteArray × ByteArray × ByteArray × ByteArray × ByteArray × ByteArray × ByteArray × ByteArray × ByteArray × ByteArray × ByteArray × ByteArray × Int × Int × Int × Int × Int × Int × Int × Int × Int × Int × Int × Int × Int × Int × Int × Int × Int × Int → Option (((Bool × (List T) × (List T) × ByteArray × ByteArray × ByteArray × ByteArray × ByteArray × ByteArray × ByteArray × ByteArray × ByteArray × ByteArray × ByteArray × ByteArray × ByteArray × ByteArray × ByteArray × ByteArray × ByteArray × ByteArray × Int × Int × Int × Int × Int × Int × Int × Int × Int × Int × Int × Int × Int × Int × Int × Int × Int × Int) ⊕ (List T) × (List T) × (List T) × ByteArray × ByteArray × ByteArray × ByteArray × ByteArray × ByteArray × ByteArray × ByteArray × ByteArray × ByteArray × ByteArray × ByteArray × ByteArray × ByteArray × ByteArray × ByteArray × ByteArray × ByteArray × Int × Int × Int × Int × Int × Int × Int × Int × Int × Int × Int × Int × Int × Int × Int × Int × Int × Int))
  | 0, _ => none
  | m + 1, s => l_suturelaw5_ParseKnown_8_B n (l_suturelaw5_ParseKnown_8 n m) s
def l_suturelaw5_ParseKnown_16_B (n : Nat) (k : (List T) × ByteArray × Int × (List T) × (List T) × ByteArray × ByteArray × ByteArray × ByteArray × ByteArray × ByteArray × ByteArray × ByteArray × ByteArray × ByteArray × ByteArray × ByteArray × ByteArray × ByteArray × ByteArray × ByteArray × ByteArray × ByteArray × Int × Int × Int × Int × Int × Int × Int × Int × Int × Int × Int × Int × Int × Int × Int × Int × Int × Int → Option ((List T) × ByteArray × (List T) × (List T) × ByteArray × ByteArray × ByteArray × ByteArray × ByteArray × ByteArray × ByteArray × ByteArray × ByteArray × ByteArray × ByteArray × ByteArray × ByteArray × ByteArray × ByteArray × ByteArray × ByteArray × ByteArray × Int × Int × Int × Int × Int × Int × Int × Int × Int × Int × Int × Int × Int × Int × Int × Int × Int × Int)) : (List T) × ByteArray × Int × (List T) × (List T) × ByteArray × ByteArray × ByteArray × ByteArray × ByteArray × ByteArray × ByteArray × ByteArray × ByteArray × ByteArray × ByteArray × ByteArray × ByteArray × ByteArray × ByteArray × ByteArray × ByteArray × ByteArray × Int × Int × Int × Int × Int × Int × Int × Int × Int × Int × Int × Int × Int × Int × Int × Int × Int × Int → Option ((List T) × ByteArray × (List T) × (List T) × ByteArray × ByteArray × ByteArray × ByteArray × ByteArray × ByteArray × ByteArray × ByteArray × ByteArray × ByteArray × ByteArray × ByteArray × ByteArray × ByteArray × ByteArray × ByteArray × ByteArray × ByteArray × Int × Int × Int × Int × Int × Int × Int × Int × Int × Int × Int × Int × Int × Int × Int × Int × Int × Int) := fun (s0, s1, s2, s3, s4, s5, s6, s7, s8, s9, s10, s11, s12, s13, s14, s15, s16, s17, s18, s19, s20, s21, s22, s23, s24, s25, s26, s27, s28, s29, s30, s31, s32, s33, s34, s35, s36, s37, s38, s39, s40) =>
bif (decide ((s2 : Int) < 24)) then (
must true (decide (((ByteArray.size s1 + ByteArray.size (⟨#[118, 97, 114, 32, 120, 10]⟩ : ByteArray) : Nat) : Int) ≤ IntKind.i64.max)) (k (s0, (s1 ++ (⟨#[118, 97, 114, 32, 120, 10]⟩ : ByteArray)), (IntKind.wrap .i64 (s2 + 1)), s3, s4, s5, s6, s7, s8, s9, s10, s11, s12, s13, s14, s15, s16, s17, s18, s19, s20, s21, s22, s23, s24, s25, s26, s27, s28, s29, s30, s31, s32, s33, s34, s35, s36, s37, s38, s39, s40)))
else (
some (s0, s1, s3, s4, s5, s6, s7, s8, s9, s10, s11, s12, s13, s14, s15, s16, s17, s18, s19, s20, s21, s22, s23, s24, s25, s26, s27, s28, s29, s30, s31, s32, s33, s34, s35, s36, s37, s38, s39, s40))
def l_suturelaw5_ParseKnown_16 (n : Nat) : Nat → (List T) × ByteArray × Int × (List T) × (List T) × ByteArray × ByteArray × ByteArray × ByteArray × ByteArray × ByteArray × ByteArray × ByteArray × ByteArray × ByteArray × ByteArray × ByteArray × ByteArray × ByteArray × ByteArray × ByteArray × ByteArray × ByteArray × Int × Int × Int × Int × Int × Int × Int × Int × Int × Int × Int × Int × Int × Int × Int × Int × Int × Int → Option ((List T) × ByteArray × (List T) × (List T) × ByteArray × ByteArray × ByteArray × ByteArray × ByteArray × ByteArray × ByteArray × ByteArray × ByteArray × ByteArray × ByteArray × ByteArray × ByteArray × ByteArray × ByteArray × ByteArray × ByteArray × ByteArray × Int × Int × Int × Int × Int × Int × Int × Int × Int × Int × Int × Int × Int × Int × Int × Int × Int × Int)
  | 0, _ => none
  | m + 1, s => l_suturelaw5_ParseKnown_16_B n (l_suturelaw5_ParseKnown_16 n m) s
def m_suturelaw5_ParseKnown (n : Nat) : Option (Bool) :=
Option.bind (m_parse_Read n (⟨#[99, 104, 97, 110, 32, 99, 32, 51, 10, 108, 111, 99, 97, 108, 32, 116, 32, 35, 32, 104, 101, 114, 101, 10, 103, 111, 32, 123, 32, 108, 111, 99, 107, 32, 109, 32, 117, 110, 108, 111, 99, 107, 32, 109, 32, 115, 101, 110, 100, 32, 99, 32, 49, 32, 43, 32, 116, 32, 114, 101, 99, 118, 32, 99, 32, 116, 32, 112, 114, 105, 110, 116, 32, 45, 116, 32, 105, 102, 32, 116, 32, 123, 32, 125, 32, 101, 108, 115, 101, 32, 123, 32, 103, 111, 116, 111, 32, 97, 32, 125, 32, 114, 101, 112, 101, 97, 116, 32, 57, 32, 123, 32, 108, 97, 98, 101, 108, 32, 97, 32, 125, 32, 125, 10, 103, 111, 32, 123, 32, 105, 102, 32, 116, 32, 123, 32, 120, 32, 61, 32, 49, 32, 125, 32, 101, 108, 115, 101, 32, 123, 32, 125, 32, 125]⟩ : ByteArray)) fun r0 =>
Option.bind (m_suturelaw5_known n) fun r1 =>
Option.bind (idx (!(bif (bif (bif (!r1) then true else ((r0.2.2.2 : Int) != 0)) then true else ((((List.length r0.1 : Nat) : Int) : Int) != 2)) then true else ((((List.length r0.2.1 : Nat) : Int) : Int) != 2))) [.list] r0.2.1 0) fun y2 =>
Option.bind (idx (!(bif (bif (bif (bif (!r1) then true else ((r0.2.2.2 : Int) != 0)) then true else ((((List.length r0.1 : Nat) : Int) : Int) != 2)) then true else ((((List.length r0.2.1 : Nat) : Int) : Int) != 2)) then true else ((((List.length (y2.cell 0).lst : Nat) : Int) : Int) != 7))) [.list] r0.2.1 1) fun y3 =>
bif (bif (bif (bif (bif (bif (!r1) then true else ((r0.2.2.2 : Int) != 0)) then true else ((((List.length r0.1 : Nat) : Int) : Int) != 2)) then true else ((((List.length r0.2.1 : Nat) : Int) : Int) != 2)) then true else ((((List.length (y2.cell 0).lst : Nat) : Int) : Int) != 7)) then true else ((((List.length (y3.cell 0).lst : Nat) : Int) : Int) != 1)) then (
some false)
else (
Option.bind (idx true [.list] r0.2.1 0) fun y4 =>
Option.bind (l_suturelaw5_ParseKnown_8 n n ((y4.cell 0).lst, (⟨#[]⟩ : ByteArray), (⟨#[118, 97, 114]⟩ : ByteArray), (⟨#[118, 97, 114, 32, 103, 111]⟩ : ByteArray), (⟨#[99, 104, 97, 110, 32, 99]⟩ : ByteArray), (⟨#[99, 104, 97, 110, 32, 99, 32, 52, 32, 103, 111, 123, 125]⟩ : ByteArray), (⟨#[103, 111]⟩ : ByteArray), (⟨#[103, 111, 123]⟩ : ByteArray), (⟨#[103, 111, 123, 125, 125]⟩ : ByteArray), (⟨#[103, 111, 123, 125, 118, 97, 114, 32, 120]⟩ : ByteArray), (⟨#[103, 111, 123, 101, 108, 115, 101, 123, 125, 125]⟩ : ByteArray), (⟨#[103, 111, 123, 120, 32, 49, 125]⟩ : ByteArray), (⟨#[103, 111, 123, 120, 61, 125]⟩ : ByteArray), (⟨#[103, 111, 123, 114, 101, 112, 101, 97, 116, 32, 49, 48, 32, 123, 125, 125]⟩ : ByteArray), (⟨#[103, 111, 123, 115, 101, 110, 100, 32, 49, 125]⟩ : ByteArray), (⟨#[103, 111, 123, 105, 102, 123, 125, 125]⟩ : ByteArray), (⟨#[103, 111, 123, 125, 103, 111, 123, 125, 103, 111, 123, 125, 103, 111, 123, 125, 103, 111, 123, 125]⟩ : ByteArray), (⟨#[103, 111, 123, 114, 101, 112, 101, 97, 116, 32, 49, 123, 114, 101, 112, 101, 97, 116, 32, 49, 123, 114, 101, 112, 101, 97, 116, 32, 49, 123, 114, 101, 112, 101, 97, 116, 32, 49, 123, 114, 101, 112, 101, 97, 116, 32, 49, 123, 114, 101, 112, 101, 97, 116, 32, 49, 123, 114, 101, 112, 101, 97, 116, 32, 49, 123, 114, 101, 112, 101, 97, 116, 32, 49, 123, 125, 125, 125, 125, 125, 125, 125, 125, 125]⟩ : ByteArray), (⟨#[103, 111, 123, 126, 125]⟩ : ByteArray), 0, r0.1, r0.2.1, (⟨#[]⟩ : ByteArray), (⟨#[118, 97, 114]⟩ : ByteArray), (⟨#[118, 97, 114, 32, 103, 111]⟩ : ByteArray), (⟨#[99, 104, 97, 110, 32, 99]⟩ : ByteArray), (⟨#[99, 104, 97, 110, 32, 99, 32, 52, 32, 103, 111, 123, 125]⟩ : ByteArray), (⟨#[103, 111]⟩ : ByteArray), (⟨#[103, 111, 123]⟩ : ByteArray), (⟨#[103, 111, 123, 125, 125]⟩ : ByteArray), (⟨#[103, 111, 123, 125, 118, 97, 114, 32, 120]⟩ : ByteArray), (⟨#[103, 111, 123, 101, 108, 115, 101, 123, 125, 125]⟩ : ByteArray), (⟨#[103, 111, 123, 120, 32, 49, 125]⟩ : ByteArray), (⟨#[103, 111, 123, 120, 61, 125]⟩ : ByteArray), (⟨#[103, 111, 123, 114, 101, 112, 101, 97, 116, 32, 49, 48, 32, 123, 125, 125]⟩ : ByteArray), (⟨#[103, 111, 123, 115, 101, 110, 100, 32, 49, 125]⟩ : ByteArray), (⟨#[103, 111, 123, 105, 102, 123, 125, 125]⟩ : ByteArray), (⟨#[103, 111, 123, 125, 103, 111, 123, 125, 103, 111, 123, 125, 103, 111, 123, 125, 103, 111, 123, 125]⟩ : ByteArray), (⟨#[103, 111, 123, 114, 101, 112, 101, 97, 116, 32, 49, 123, 114, 101, 112, 101, 97, 116, 32, 49, 123, 114, 101, 112, 101, 97, 116, 32, 49, 123, 114, 101, 112, 101, 97, 116, 32, 49, 123, 114, 101, 112, 101, 97, 116, 32, 49, 123, 114, 101, 112, 101, 97, 116, 32, 49, 123, 114, 101, 112, 101, 97, 116, 32, 49, 123, 114, 101, 112, 101, 97, 116, 32, 49, 123, 125, 125, 125, 125, 125, 125, 125, 125, 125]⟩ : ByteArray), (⟨#[103, 111, 123, 126, 125]⟩ : ByteArray), 0, 3, 4, 6, 7, 2, 3, 4, 4, 3, 5, 5, 10, 8, 5, 16, 74, 3)) fun x9 =>
Sum.elim (fun p10 => 
some p10.1) (fun x9' => (fun p11 => 
Option.bind (l_suturelaw5_ParseKnown_16 n n (p11.1, (⟨#[]⟩ : ByteArray), 0, p11.2.1, p11.2.2.1, p11.2.2.2.1, p11.2.2.2.2.1, p11.2.2.2.2.2.1, p11.2.2.2.2.2.2.1, p11.2.2.2.2.2.2.2.1, p11.2.2.2.2.2.2.2.2.1, p11.2.2.2.2.2.2.2.2.2.1, p11.2.2.2.2.2.2.2.2.2.2.1, p11.2.2.2.2.2.2.2.2.2.2.2.1, p11.2.2.2.2.2.2.2.2.2.2.2.2.1, p11.2.2.2.2.2.2.2.2.2.2.2.2.2.1, p11.2.2.2.2.2.2.2.2.2.2.2.2.2.2.1, p11.2.2.2.2.2.2.2.2.2.2.2.2.2.2.2.1, p11.2.2.2.2.2.2.2.2.2.2.2.2.2.2.2.2.1, p11.2.2.2.2.2.2.2.2.2.2.2.2.2.2.2.2.2.1, p11.2.2.2.2.2.2.2.2.2.2.2.2.2.2.2.2.2.2.1, p11.2.2.2.2.2.2.2.2.2.2.2.2.2.2.2.2.2.2.2.1, p11.2.2.2.2.2.2.2.2.2.2.2.2.2.2.2.2.2.2.2.2.1, p11.2.2.2.2.2.2.2.2.2.2.2.2.2.2.2.2.2.2.2.2.2.1, p11.2.2.2.2.2.2.2.2.2.2.2.2.2.2.2.2.2.2.2.2.2.2.1, p11.2.2.2.2.2.2.2.2.2.2.2.2.2.2.2.2.2.2.2.2.2.2.2.1, p11.2.2.2.2.2.2.2.2.2.2.2.2.2.2.2.2.2.2.2.2.2.2.2.2.1, p11.2.2.2.2.2.2.2.2.2.2.2.2.2.2.2.2.2.2.2.2.2.2.2.2.2.1, p11.2.2.2.2.2.2.2.2.2.2.2.2.2.2.2.2.2.2.2.2.2.2.2.2.2.2.1, p11.2.2.2.2.2.2.2.2.2.2.2.2.2.2.2.2.2.2.2.2.2.2.2.2.2.2.2.1, p11.2.2.2.2.2.2.2.2.2.2.2.2.2.2.2.2.2.2.2.2.2.2.2.2.2.2.2.2.1, p11.2.2.2.2.2.2.2.2.2.2.2.2.2.2.2.2.2.2.2.2.2.2.2.2.2.2.2.2.2.1, p11.2.2.2.2.2.2.2.2.2.2.2.2.2.2.2.2.2.2.2.2.2.2.2.2.2.2.2.2.2.2.1, p11.2.2.2.2.2.2.2.2.2.2.2.2.2.2.2.2.2.2.2.2.2.2.2.2.2.2.2.2.2.2.2.1, p11.2.2.2.2.2.2.2.2.2.2.2.2.2.2.2.2.2.2.2.2.2.2.2.2.2.2.2.2.2.2.2.2.1, p11.2.2.2.2.2.2.2.2.2.2.2.2.2.2.2.2.2.2.2.2.2.2.2.2.2.2.2.2.2.2.2.2.2.1, p11.2.2.2.2.2.2.2.2.2.2.2.2.2.2.2.2.2.2.2.2.2.2.2.2.2.2.2.2.2.2.2.2.2.2.1, p11.2.2.2.2.2.2.2.2.2.2.2.2.2.2.2.2.2.2.2.2.2.2.2.2.2.2.2.2.2.2.2.2.2.2.2.1, p11.2.2.2.2.2.2.2.2.2.2.2.2.2.2.2.2.2.2.2.2.2.2.2.2.2.2.2.2.2.2.2.2.2.2.2.2.1, p11.2.2.2.2.2.2.2.2.2.2.2.2.2.2.2.2.2.2.2.2.2.2.2.2.2.2.2.2.2.2.2.2.2.2.2.2.2.1, p11.2.2.2.2.2.2.2.2.2.2.2.2.2.2.2.2.2.2.2.2.2.2.2.2.2.2.2.2.2.2.2.2.2.2.2.2.2.2)) fun p13 =>
must true (decide (((ByteArray.size p13.2.1 + ByteArray.size (⟨#[103, 111, 123, 125]⟩ : ByteArray) : Nat) : Int) ≤ IntKind.i64.max)) (Option.bind (m_parse_Read n (p13.2.1 ++ (⟨#[103, 111, 123, 125]⟩ : ByteArray))) fun r14 =>
must true (decide (((ByteArray.size p13.2.1 + ByteArray.size (⟨#[118, 97, 114, 32, 121, 32, 103, 111, 123, 125]⟩ : ByteArray) : Nat) : Int) ≤ IntKind.i64.max)) (Option.bind (m_parse_Read n (p13.2.1 ++ (⟨#[118, 97, 114, 32, 121, 32, 103, 111, 123, 125]⟩ : ByteArray))) fun r15 =>
Option.bind (m_parse_Read n (⟨#[103, 111, 123, 114, 101, 112, 101, 97, 116, 32, 48, 123, 114, 101, 112, 101, 97, 116, 32, 49, 123, 114, 101, 112, 101, 97, 116, 32, 49, 123, 114, 101, 112, 101, 97, 116, 32, 49, 123, 114, 101, 112, 101, 97, 116, 32, 49, 123, 114, 101, 112, 101, 97, 116, 32, 49, 123, 114, 101, 112, 101, 97, 116, 32, 49, 123, 125, 125, 125, 125, 125, 125, 125, 125]⟩ : ByteArray)) fun r16 =>
Option.bind (idx true [.int .i64, .str, .int .i64, .cplx .f64] p13.2.2.1 0) fun y17 =>
Option.bind (idx ((((y17.cell 2).int : Int) == 3)) [.int .i64, .str, .int .i64, .cplx .f64] p13.2.2.1 1) fun y18 =>
Option.bind (idx ((bif (((y17.cell 2).int : Int) == 3) then (cplxEq .f64 (y18.cell 3).re (y18.cell 3).im 4611686018427387904 4607182418800017408) else false)) [.int .i64, .str, .str, .int .i64, .int .i64, .int .i64, .str, .list, .list, .list, .cplx .f64] p13.1 0) fun y19 =>
Option.bind (idx ((bif (bif (((y17.cell 2).int : Int) == 3) then (cplxEq .f64 (y18.cell 3).re (y18.cell 3).im 4611686018427387904 4607182418800017408) else false) then (((y19.cell 0).int : Int) == 2) else false)) [.int .i64, .str, .str, .int .i64, .int .i64, .int .i64, .str, .list, .list, .list, .cplx .f64] p13.1 1) fun y20 =>
Option.bind (idx ((bif (bif (bif (((y17.cell 2).int : Int) == 3) then (cplxEq .f64 (y18.cell 3).re (y18.cell 3).im 4611686018427387904 4607182418800017408) else false) then (((y19.cell 0).int : Int) == 2) else false) then (((y20.cell 0).int : Int) == 3) else false)) [.int .i64, .str, .str, .int .i64, .int .i64, .int .i64, .str, .list, .list, .list, .cplx .f64] p13.1 2) fun y21 =>
Option.bind (idx ((bif (bif (bif (bif (((y17.cell 2).int : Int) == 3) then (cplxEq .f64 (y18.cell 3).re (y18.cell 3).im 4611686018427387904 4607182418800017408) else false) then (((y19.cell 0).int : Int) == 2) else false) then (((y20.cell 0).int : Int) == 3) else false) then (((y21.cell 0).int : Int) == 4) else false)) [.int .i64, .str, .str, .int .i64, .int .i64, .int .i64, .str, .list, .list, .list, .cplx .f64] p13.1 2) fun y22 =>
Option.bind (idx ((bif (bif (bif (bif (bif (((y17.cell 2).int : Int) == 3) then (cplxEq .f64 (y18.cell 3).re (y18.cell 3).im 4611686018427387904 4607182418800017408) else false) then (((y19.cell 0).int : Int) == 2) else false) then (((y20.cell 0).int : Int) == 3) else false) then (((y21.cell 0).int : Int) == 4) else false) then (ByteArray.toList (y22.cell 1).str == ByteArray.toList (⟨#[99]⟩ : ByteArray)) else false)) [.int .i64, .str, .str, .int .i64, .int .i64, .int .i64, .str, .list, .list, .list, .cplx .f64] p13.1 2) fun y23 =>
Option.bind (idx ((bif (bif (bif (bif (bif (bif (((y17.cell 2).int : Int) == 3) then (cplxEq .f64 (y18.cell 3).re (y18.cell 3).im 4611686018427387904 4607182418800017408) else false) then (((y19.cell 0).int : Int) == 2) else false) then (((y20.cell 0).int : Int) == 3) else false) then (((y21.cell 0).int : Int) == 4) else false) then (ByteArray.toList (y22.cell 1).str == ByteArray.toList (⟨#[99]⟩ : ByteArray)) else false) then (((y23.cell 4).int : Int) == 4) else false)) [.int .i64, .str, .str, .int .i64, .int .i64, .int .i64, .str, .list, .list, .list, .cplx .f64] p13.1 3) fun y24 =>
Option.bind (idx ((bif (bif (bif (bif (bif (bif (bif (((y17.cell 2).int : Int) == 3) then (cplxEq .f64 (y18.cell 3).re (y18.cell 3).im 4611686018427387904 4607182418800017408) else false) then (((y19.cell 0).int : Int) == 2) else false) then (((y20.cell 0).int : Int) == 3) else false) then (((y21.cell 0).int : Int) == 4) else false) then (ByteArray.toList (y22.cell 1).str == ByteArray.toList (⟨#[99]⟩ : ByteArray)) else false) then (((y23.cell 4).int : Int) == 4) else false) then (((y24.cell 0).int : Int) == 5) else false)) [.int .i64, .str, .str, .int .i64, .int .i64, .int .i64, .str, .list, .list, .list, .cplx .f64] p13.1 3) fun y25 =>
Option.bind (idx ((bif (bif (bif (bif (bif (bif (bif (bif (((y17.cell 2).int : Int) == 3) then (cplxEq .f64 (y18.cell 3).re (y18.cell 3).im 4611686018427387904 4607182418800017408) else false) then (((y19.cell 0).int : Int) == 2) else false) then (((y20.cell 0).int : Int) == 3) else false) then (((y21.cell 0).int : Int) == 4) else false) then (ByteArray.toList (y22.cell 1).str == ByteArray.toList (⟨#[99]⟩ : ByteArray)) else false) then (((y23.cell 4).int : Int) == 4) else false) then (((y24.cell 0).int : Int) == 5) else false) then (ByteArray.toList (y25.cell 2).str == ByteArray.toList (⟨#[116]⟩ : ByteArray)) else false)) [.int .i64, .str, .str, .int .i64, .int .i64, .int .i64, .str, .list, .list, .list, .cplx .f64] p13.1 4) fun y26 =>
Option.bind (idx ((bif (bif (bif (bif (bif (bif (bif (bif (bif (((y17.cell 2).int : Int) == 3) then (cplxEq .f64 (y18.cell 3).re (y18.cell 3).im 4611686018427387904 4607182418800017408) else false) then (((y19.cell 0).int : Int) == 2) else false) then (((y20.cell 0).int : Int) == 3) else false) then (((y21.cell 0).int : Int) == 4) else false) then (ByteArray.toList (y22.cell 1).str == ByteArray.toList (⟨#[99]⟩ : ByteArray)) else false) then (((y23.cell 4).int : Int) == 4) else false) then (((y24.cell 0).int : Int) == 5) else false) then (ByteArray.toList (y25.cell 2).str == ByteArray.toList (⟨#[116]⟩ : ByteArray)) else false) then (((y26.cell 4).int : Int) == 3) else false)) [.int .i64, .str, .str, .int .i64, .int .i64, .int .i64, .str, .list, .list, .list, .cplx .f64] p13.1 5) fun y27 =>
Option.bind (idx ((bif (bif (bif (bif (bif (bif (bif (bif (bif (bif (((y17.cell 2).int : Int) == 3) then (cplxEq .f64 (y18.cell 3).re (y18.cell 3).im 4611686018427387904 4607182418800017408) else false) then (((y19.cell 0).int : Int) == 2) else false) then (((y20.cell 0).int : Int) == 3) else false) then (((y21.cell 0).int : Int) == 4) else false) then (ByteArray.toList (y22.cell 1).str == ByteArray.toList (⟨#[99]⟩ : ByteArray)) else false) then (((y23.cell 4).int : Int) == 4) else false) then (((y24.cell 0).int : Int) == 5) else false) then (ByteArray.toList (y25.cell 2).str == ByteArray.toList (⟨#[116]⟩ : ByteArray)) else false) then (((y26.cell 4).int : Int) == 3) else false) then (((y27.cell 0).int : Int) == 7) else false)) [.int .i64, .str, .str, .int .i64, .int .i64, .int .i64, .str, .list, .list, .list, .cplx .f64] p13.1 5) fun y28 =>
Option.bind (idx ((bif (bif (bif (bif (bif (bif (bif (bif (bif (bif (bif (((y17.cell 2).int : Int) == 3) then (cplxEq .f64 (y18.cell 3).re (y18.cell 3).im 4611686018427387904 4607182418800017408) else false) then (((y19.cell 0).int : Int) == 2) else false) then (((y20.cell 0).int : Int) == 3) else false) then (((y21.cell 0).int : Int) == 4) else false) then (ByteArray.toList (y22.cell 1).str == ByteArray.toList (⟨#[99]⟩ : ByteArray)) else false) then (((y23.cell 4).int : Int) == 4) else false) then (((y24.cell 0).int : Int) == 5) else false) then (ByteArray.toList (y25.cell 2).str == ByteArray.toList (⟨#[116]⟩ : ByteArray)) else false) then (((y26.cell 4).int : Int) == 3) else false) then (((y27.cell 0).int : Int) == 7) else false) then ((((List.length (y28.cell 8).lst : Nat) : Int) : Int) == 0) else false)) [.int .i64, .str, .str, .int .i64, .int .i64, .int .i64, .str, .list, .list, .list, .cplx .f64] p13.1 5) fun y29 =>
Option.bind (idx ((bif (bif (bif (bif (bif (bif (bif (bif (bif (bif (bif (bif (((y17.cell 2).int : Int) == 3) then (cplxEq .f64 (y18.cell 3).re (y18.cell 3).im 4611686018427387904 4607182418800017408) else false) then (((y19.cell 0).int : Int) == 2) else false) then (((y20.cell 0).int : Int) == 3) else false) then (((y21.cell 0).int : Int) == 4) else false) then (ByteArray.toList (y22.cell 1).str == ByteArray.toList (⟨#[99]⟩ : ByteArray)) else false) then (((y23.cell 4).int : Int) == 4) else false) then (((y24.cell 0).int : Int) == 5) else false) then (ByteArray.toList (y25.cell 2).str == ByteArray.toList (⟨#[116]⟩ : ByteArray)) else false) then (((y26.cell 4).int : Int) == 3) else false) then (((y27.cell 0).int : Int) == 7) else false) then ((((List.length (y28.cell 8).lst : Nat) : Int) : Int) == 0) else false) then ((((List.length (y29.cell 9).lst : Nat) : Int) : Int) == 1) else false)) [.int .i64, .str, .str, .int .i64, .int .i64, .int .i64, .str, .list, .list, .list, .cplx .f64] p13.1 5) fun y30 =>
Option.bind (idx ((bif (bif (bif (bif (bif (bif (bif (bif (bif (bif (bif (bif (((y17.cell 2).int : Int) == 3) then (cplxEq .f64 (y18.cell 3).re (y18.cell 3).im 4611686018427387904 4607182418800017408) else false) then (((y19.cell 0).int : Int) == 2) else false) then (((y20.cell 0).int : Int) == 3) else false) then (((y21.cell 0).int : Int) == 4) else false) then (ByteArray.toList (y22.cell 1).str == ByteArray.toList (⟨#[99]⟩ : ByteArray)) else false) then (((y23.cell 4).int : Int) == 4) else false) then (((y24.cell 0).int : Int) == 5) else false) then (ByteArray.toList (y25.cell 2).str == ByteArray.toList (⟨#[116]⟩ : ByteArray)) else false) then (((y26.cell 4).int : Int) == 3) else false) then (((y27.cell 0).int : Int) == 7) else false) then ((((List.length (y28.cell 8).lst : Nat) : Int) : Int) == 0) else false) then ((((List.length (y29.cell 9).lst : Nat) : Int) : Int) == 1) else false)) [.int .i64, .str, .str, .int .i64, .int .i64, .int .i64, .str, .list, .list, .list, .cplx .f64] (y30.cell 9).lst 0) fun y31 =>
Option.bind (idx ((bif (bif (bif (bif (bif (bif (bif (bif (bif (bif (bif (bif (bif (((y17.cell 2).int : Int) == 3) then (cplxEq .f64 (y18.cell 3).re (y18.cell 3).im 4611686018427387904 4607182418800017408) else false) then (((y19.cell 0).int : Int) == 2) else false) then (((y20.cell 0).int : Int) == 3) else false) then (((y21.cell 0).int : Int) == 4) else false) then (ByteArray.toList (y22.cell 1).str == ByteArray.toList (⟨#[99]⟩ : ByteArray)) else false) then (((y23.cell 4).int : Int) == 4) else false) then (((y24.cell 0).int : Int) == 5) else false) then (ByteArray.toList (y25.cell 2).str == ByteArray.toList (⟨#[116]⟩ : ByteArray)) else false) then (((y26.cell 4).int : Int) == 3) else false) then (((y27.cell 0).int : Int) == 7) else false) then ((((List.length (y28.cell 8).lst : Nat) : Int) : Int) == 0) else false) then ((((List.length (y29.cell 9).lst : Nat) : Int) : Int) == 1) else false) then (((y31.cell 0).int : Int) == 9) else false)) [.int .i64, .str, .str, .int .i64, .int .i64, .int .i64, .str, .list, .list, .list, .cplx .f64] p13.1 6) fun y32 =>
Option.bind (idx ((bif (bif (bif (bif (bif (bif (bif (bif (bif (bif (bif (bif (bif (bif (((y17.cell 2).int : Int) == 3) then (cplxEq .f64 (y18.cell 3).re (y18.cell 3).im 4611686018427387904 4607182418800017408) else false) then (((y19.cell 0).int : Int) == 2) else false) then (((y20.cell 0).int : Int) == 3) else false) then (((y21.cell 0).int : Int) == 4) else false) then (ByteArray.toList (y22.cell 1).str == ByteArray.toList (⟨#[99]⟩ : ByteArray)) else false) then (((y23.cell 4).int : Int) == 4) else false) then (((y24.cell 0).int : Int) == 5) else false) then (ByteArray.toList (y25.cell 2).str == ByteArray.toList (⟨#[116]⟩ : ByteArray)) else false) then (((y26.cell 4).int : Int) == 3) else false) then (((y27.cell 0).int : Int) == 7) else false) then ((((List.length (y28.cell 8).lst : Nat) : Int) : Int) == 0) else false) then ((((List.length (y29.cell 9).lst : Nat) : Int) : Int) == 1) else false) then (((y31.cell 0).int : Int) == 9) else false) then (((y32.cell 3).int : Int) == 9) else false)) [.int .i64, .str, .str, .int .i64, .int .i64, .int .i64, .str, .list, .list, .list, .cplx .f64] p13.1 6) fun y33 =>
Option.bind (idx ((bif (bif (bif (bif (bif (bif (bif (bif (bif (bif (bif (bif (bif (bif (((y17.cell 2).int : Int) == 3) then (cplxEq .f64 (y18.cell 3).re (y18.cell 3).im 4611686018427387904 4607182418800017408) else false) then (((y19.cell 0).int : Int) == 2) else false) then (((y20.cell 0).int : Int) == 3) else false) then (((y21.cell 0).int : Int) == 4) else false) then (ByteArray.toList (y22.cell 1).str == ByteArray.toList (⟨#[99]⟩ : ByteArray)) else false) then (((y23.cell 4).int : Int) == 4) else false) then (((y24.cell 0).int : Int) == 5) else false) then (ByteArray.toList (y25.cell 2).str == ByteArray.toList (⟨#[116]⟩ : ByteArray)) else false) then (((y26.cell 4).int : Int) == 3) else false) then (((y27.cell 0).int : Int) == 7) else false) then ((((List.length (y28.cell 8).lst : Nat) : Int) : Int) == 0) else false) then ((((List.length (y29.cell 9).lst : Nat) : Int) : Int) == 1) else false) then (((y31.cell 0).int : Int) == 9) else false) then (((y32.cell 3).int : Int) == 9) else false)) [.int .i64, .str, .str, .int .i64, .int .i64, .int .i64, .str, .list, .list, .list, .cplx .f64] (y33.cell 8).lst 0) fun y34 =>
Option.bind (idx ((bif (bif (bif (bif (bif (bif (bif (bif (bif (bif (bif (bif (bif (bif (bif (((y17.cell 2).int : Int) == 3) then (cplxEq .f64 (y18.cell 3).re (y18.cell 3).im 4611686018427387904 4607182418800017408) else false) then (((y19.cell 0).int : Int) == 2) else false) then (((y20.cell 0).int : Int) == 3) else false) then (((y21.cell 0).int : Int) == 4) else false) then (ByteArray.toList (y22.cell 1).str == ByteArray.toList (⟨#[99]⟩ : ByteArray)) else false) then (((y23.cell 4).int : Int) == 4) else false) then (((y24.cell 0).int : Int) == 5) else false) then (ByteArray.toList (y25.cell 2).str == ByteArray.toList (⟨#[116]⟩ : ByteArray)) else false) then (((y26.cell 4).int : Int) == 3) else false) then (((y27.cell 0).int : Int) == 7) else false) then ((((List.length (y28.cell 8).lst : Nat) : Int) : Int) == 0) else false) then ((((List.length (y29.cell 9).lst : Nat) : Int) : Int) == 1) else false) then (((y31.cell 0).int : Int) == 9) else false) then (((y32.cell 3).int : Int) == 9) else false) then (ByteArray.toList (y34.cell 1).str == ByteArray.toList (⟨#[97]⟩ : ByteArray)) else false)) [.list] p13.2.2.2.1 1) fun y35 =>
Option.bind (idx ((bif (bif (bif (bif (bif (bif (bif (bif (bif (bif (bif (bif (bif (bif (bif (((y17.cell 2).int : Int) == 3) then (cplxEq .f64 (y18.cell 3).re (y18.cell 3).im 4611686018427387904 4607182418800017408) else false) then (((y19.cell 0).int : Int) == 2) else false) then (((y20.cell 0).int : Int) == 3) else false) then (((y21.cell 0).int : Int) == 4) else false) then (ByteArray.toList (y22.cell 1).str == ByteArray.toList (⟨#[99]⟩ : ByteArray)) else false) then (((y23.cell 4).int : Int) == 4) else false) then (((y24.cell 0).int : Int) == 5) else false) then (ByteArray.toList (y25.cell 2).str == ByteArray.toList (⟨#[116]⟩ : ByteArray)) else false) then (((y26.cell 4).int : Int) == 3) else false) then (((y27.cell 0).int : Int) == 7) else false) then ((((List.length (y28.cell 8).lst : Nat) : Int) : Int) == 0) else false) then ((((List.length (y29.cell 9).lst : Nat) : Int) : Int) == 1) else false) then (((y31.cell 0).int : Int) == 9) else false) then (((y32.cell 3).int : Int) == 9) else false) then (ByteArray.toList (y34.cell 1).str == ByteArray.toList (⟨#[97]⟩ : ByteArray)) else false)) [.int .i64, .str, .str, .int .i64, .int .i64, .int .i64, .str, .list, .list, .list, .cplx .f64] (y35.cell 0).lst 0) fun y36 =>
Option.bind (idx ((bif (bif (bif (bif (bif (bif (bif (bif (bif (bif (bif (bif (bif (bif (bif (bif (((y17.cell 2).int : Int) == 3) then (cplxEq .f64 (y18.cell 3).re (y18.cell 3).im 4611686018427387904 4607182418800017408) else false) then (((y19.cell 0).int : Int) == 2) else false) then (((y20.cell 0).int : Int) == 3) else false) then (((y21.cell 0).int : Int) == 4) else false) then (ByteArray.toList (y22.cell 1).str == ByteArray.toList (⟨#[99]⟩ : ByteArray)) else false) then (((y23.cell 4).int : Int) == 4) else false) then (((y24.cell 0).int : Int) == 5) else false) then (ByteArray.toList (y25.cell 2).str == ByteArray.toList (⟨#[116]⟩ : ByteArray)) else false) then (((y26.cell 4).int : Int) == 3) else false) then (((y27.cell 0).int : Int) == 7) else false) then ((((List.length (y28.cell 8).lst : Nat) : Int) : Int) == 0) else false) then ((((List.length (y29.cell 9).lst : Nat) : Int) : Int) == 1) else false) then (((y31.cell 0).int : Int) == 9) else false) then (((y32.cell 3).int : Int) == 9) else false) then (ByteArray.toList (y34.cell 1).str == ByteArray.toList (⟨#[97]⟩ : ByteArray)) else false) then ((((List.length (y36.cell 9).lst : Nat) : Int) : Int) == 0) else false)) [.list] p13.2.2.2.1 1) fun y37 =>
Option.bind (idx ((bif (bif (bif (bif (bif (bif (bif (bif (bif (bif (bif (bif (bif (bif (bif (bif (((y17.cell 2).int : Int) == 3) then (cplxEq .f64 (y18.cell 3).re (y18.cell 3).im 4611686018427387904 4607182418800017408) else false) then (((y19.cell 0).int : Int) == 2) else false) then (((y20.cell 0).int : Int) == 3) else false) then (((y21.cell 0).int : Int) == 4) else false) then (ByteArray.toList (y22.cell 1).str == ByteArray.toList (⟨#[99]⟩ : ByteArray)) else false) then (((y23.cell 4).int : Int) == 4) else false) then (((y24.cell 0).int : Int) == 5) else false) then (ByteArray.toList (y25.cell 2).str == ByteArray.toList (⟨#[116]⟩ : ByteArray)) else false) then (((y26.cell 4).int : Int) == 3) else false) then (((y27.cell 0).int : Int) == 7) else false) then ((((List.length (y28.cell 8).lst : Nat) : Int) : Int) == 0) else false) then ((((List.length (y29.cell 9).lst : Nat) : Int) : Int) == 1) else false) then (((y31.cell 0).int : Int) == 9) else false) then (((y32.cell 3).int : Int) == 9) else false) then (ByteArray.toList (y34.cell 1).str == ByteArray.toList (⟨#[97]⟩ : ByteArray)) else false) then ((((List.length (y36.cell 9).lst : Nat) : Int) : Int) == 0) else false)) [.int .i64, .str, .str, .int .i64, .int .i64, .int .i64, .str, .list, .list, .list, .cplx .f64] (y37.cell 0).lst 0) fun y38 =>
some (bif (bif (bif (bif (bif (bif (bif (bif (bif (bif (bif (bif (bif (bif (bif (bif (bif (bif (bif (bif (bif (((y17.cell 2).int : Int) == 3) then (cplxEq .f64 (y18.cell 3).re (y18.cell 3).im 4611686018427387904 4607182418800017408) else false) then (((y19.cell 0).int : Int) == 2) else false) then (((y20.cell 0).int : Int) == 3) else false) then (((y21.cell 0).int : Int) == 4) else false) then (ByteArray.toList (y22.cell 1).str == ByteArray.toList (⟨#[99]⟩ : ByteArray)) else false) then (((y23.cell 4).int : Int) == 4) else false) then (((y24.cell 0).int : Int) == 5) else false) then (ByteArray.toList (y25.cell 2).str == ByteArray.toList (⟨#[116]⟩ : ByteArray)) else false) then (((y26.cell 4).int : Int) == 3) else false) then (((y27.cell 0).int : Int) == 7) else false) then ((((List.length (y28.cell 8).lst : Nat) : Int) : Int) == 0) else false) then ((((List.length (y29.cell 9).lst : Nat) : Int) : Int) == 1) else false) then (((y31.cell 0).int : Int) == 9) else false) then (((y32.cell 3).int : Int) == 9) else false) then (ByteArray.toList (y34.cell 1).str == ByteArray.toList (⟨#[97]⟩ : ByteArray)) else false) then ((((List.length (y36.cell 9).lst : Nat) : Int) : Int) == 0) else false) then ((((List.length (y38.cell 8).lst : Nat) : Int) : Int) == 1) else false) then ((r14.2.2.2 : Int) == 0) else false) then ((r15.2.2.2 : Int) == 2) else false) then (cplxEq .f64 r15.2.2.1.1 r15.2.2.1.2 4627730092099895296 4607182418800017408) else false) then ((r16.2.2.2 : Int) == 0) else false)))) x9') x9)
def d_suturelaw5_ParseKnown : FnF := ⟨3, [], [.bool]⟩
def cs_suturelaw5_ParseKnown (n : Nat) : List (CalF Tryd.prog) := [⟨d_parse_Read, m_parse_Read n, m_parse_Read_ok n⟩, ⟨d_suturelaw5_known, m_suturelaw5_known n, m_suturelaw5_known_ok n⟩, ⟨d_sutureref1_Place, m_sutureref1_Place n, m_sutureref1_Place_ok n⟩]
def L_l_suturelaw5_ParseKnown_8 : LF := ⟨8, [1, 4, 6, 68, 69], [.ptr 0 0, .list, .ptr 2 0, .agg 18, .str, .str, .str, .str, .str, .str, .str, .str, .str, .str, .str, .str, .str, .str, .str, .str, .str, .str, .int .i64, .box 2, .list, .list, .box 18, .str, .str, .str, .str, .str, .str, .str, .str, .str, .str, .str, .str, .str, .str, .str, .str, .str, .str, .box 18, .int .i64, .int .i64, .int .i64, .int .i64, .int .i64, .int .i64, .int .i64, .int .i64, .int .i64, .int .i64, .int .i64, .int .i64, .int .i64, .int .i64, .int .i64, .int .i64, .int .i64, .int .i64], [⟨.ret, [0], [.bool, .box 2, .list, .list, .box 18, .str, .str, .str, .str, .str, .str, .str, .str, .str, .str, .str, .str, .str, .str, .str, .str, .str, .str, .box 18, .int .i64, .int .i64, .int .i64, .int .i64, .int .i64, .int .i64, .int .i64, .int .i64, .int .i64, .int .i64, .int .i64, .int .i64, .int .i64, .int .i64, .int .i64, .int .i64, .int .i64, .int .i64]⟩, ⟨(.exit 0), [1, 4], [.ptr 0 0, .list, .box 2, .list, .list, .box 18, .str, .str, .str, .str, .str, .str, .str, .str, .str, .str, .str, .str, .str, .str, .str, .str, .str, .str, .box 18, .int .i64, .int .i64, .int .i64, .int .i64, .int .i64, .int .i64, .int .i64, .int .i64, .int .i64, .int .i64, .int .i64, .int .i64, .int .i64, .int .i64, .int .i64, .int .i64, .int .i64, .int .i64]⟩]⟩
def L_l_suturelaw5_ParseKnown_16 : LF := ⟨16, [1, 4, 12, 13], [.ptr 0 0, .list, .str, .int .i64, .box 2, .list, .list, .box 18, .str, .str, .str, .str, .str, .str, .str, .str, .str, .str, .str, .str, .str, .str, .str, .str, .str, .str, .box 18, .int .i64, .int .i64, .int .i64, .int .i64, .int .i64, .int .i64, .int .i64, .int .i64, .int .i64, .int .i64, .int .i64, .int .i64, .int .i64, .int .i64, .int .i64, .int .i64, .int .i64, .int .i64], [⟨(.exit 2), [1, 4, 12], [.ptr 0 0, .list, .str, .box 2, .list, .list, .box 18, .str, .str, .str, .str, .str, .str, .str, .str, .str, .str, .str, .str, .str, .str, .str, .str, .str, .str, .box 18, .int .i64, .int .i64, .int .i64, .int .i64, .int .i64, .int .i64, .int .i64, .int .i64, .int .i64, .int .i64, .int .i64, .int .i64, .int .i64, .int .i64, .int .i64, .int .i64, .int .i64, .int .i64]⟩]⟩
def ls_suturelaw5_ParseKnown (n : Nat) : List LE := [⟨8, loopS L_l_suturelaw5_ParseKnown_8 (l_suturelaw5_ParseKnown_8 n n)⟩, ⟨16, loopS L_l_suturelaw5_ParseKnown_16 (l_suturelaw5_ParseKnown_16 n n)⟩]
theorem l_suturelaw5_ParseKnown_8_ok (n : Nat) : LoopOk Tryd.prog (mkSpec (cs_suturelaw5_ParseKnown n) (ls_suturelaw5_ParseKnown n)) 0 276 (loopAt Tryd.f3 0) := loopOk (L := L_l_suturelaw5_ParseKnown_8) (f := l_suturelaw5_ParseKnown_8 n) (B := l_suturelaw5_ParseKnown_8_B n) (k := n) (loopAt_ok sound Tryd.func3 (by kernel_rfl)) (inner (by kernel_rfl) allN) (innerS (by kernel_rfl) allN) (fun _ => rfl) (fun _ _ => rfl) (by kernel_rfl) (fun _ => by kernel_rfl) (by kernel_rfl) (fun k a => by kernel_rfl)
theorem l_suturelaw5_ParseKnown_16_ok (n : Nat) : LoopOk Tryd.prog (mkSpec (cs_suturelaw5_ParseKnown n) (ls_suturelaw5_ParseKnown n)) 0 276 (loopAt Tryd.f3 1) := loopOk (L := L_l_suturelaw5_ParseKnown_16) (f := l_suturelaw5_ParseKnown_16 n) (B := l_suturelaw5_ParseKnown_16_B n) (k := n) (loopAt_ok sound Tryd.func3 (by kernel_rfl)) (inner (by kernel_rfl) allN) (innerS (by kernel_rfl) allN) (fun _ => rfl) (fun _ _ => rfl) (by kernel_rfl) (fun _ => by kernel_rfl) (by kernel_rfl) (fun k a => by kernel_rfl)
theorem m_suturelaw5_ParseKnown_ok (n : Nat) : Ok Tryd.prog d_suturelaw5_ParseKnown (m_suturelaw5_ParseKnown n) := fnOk sound (cs := cs_suturelaw5_ParseKnown n) (ls := ls_suturelaw5_ParseKnown n) (n := 276) Tryd.func3 (by kernel_rfl) (fun _ => by kernel_rfl) (inner (by kernel_rfl) (allC (l_suturelaw5_ParseKnown_8_ok n) (allC (l_suturelaw5_ParseKnown_16_ok n) allN))) (innerS (by kernel_rfl) allN) (by kernel_rfl) (fun a => by kernel_rfl)


end Go.Proofs.YtbcgpjlkkcdmmaaDoor.W
