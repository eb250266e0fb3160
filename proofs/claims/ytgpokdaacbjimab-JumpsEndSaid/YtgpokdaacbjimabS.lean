/- What the engine's walk comes to, printed by a program of this work: for each function its model, and that it is one. No conditions. -/
import Derived.Test.YtgpokdaacbjimabS1
namespace Go.Proofs.Ytgpokdaacbjimab.W
open Go Go.Eng
set_option linter.unusedVariables false
set_option linter.unusedSimpArgs false
set_option maxRecDepth 100000

/-! suture/jumps.place -/
def l_jumps_place_v3_4_B (b : B_jumps_place_v2) (n : Nat) (k : (List T) × Int × (List T) × (List T) × Int × Int × Int → Option ((List T) × Int)) : (List T) × Int × (List T) × (List T) × Int × Int × Int → Option ((List T) × Int) := fun (s0, s1, s2, s3, s4, s5, s6) =>
bif (decide ((s5 : Int) < s4)) then (
Option.bind (idx true [.int .i64, .str, .str, .int .i64, .int .i64, .int .i64, .str, .list, .list, .list, .cplx .f64] s3 s5) fun y1 =>
must true ((Nat.beq 13 13 || Nat.beq 13 0) && (decide (List.length s0 + List.length [(T.agg [(T.sc (.int .i64 (y1.cell 0).int)), (T.sc (.string (y1.cell 1).str)), (T.sc (.string (y1.cell 2).str)), (T.sc (.int .i64 (y1.cell 3).int)), (T.sc (.int .i64 (y1.cell 4).int)), (T.sc (.int .i64 (y1.cell 5).int)), (T.sc (.string (y1.cell 6).str)), (T.list (y1.cell 7).lst), (T.list (y1.cell 8).lst), (T.list (y1.cell 9).lst), (T.sc (.complex .f64 (y1.cell 10).re (y1.cell 10).im)), (T.sc (.int .i64 s1)), (T.list s2)])] ≤ 1073741824) && sized 13 [(T.agg [(T.sc (.int .i64 (y1.cell 0).int)), (T.sc (.string (y1.cell 1).str)), (T.sc (.string (y1.cell 2).str)), (T.sc (.int .i64 (y1.cell 3).int)), (T.sc (.int .i64 (y1.cell 4).int)), (T.sc (.int .i64 (y1.cell 5).int)), (T.sc (.string (y1.cell 6).str)), (T.list (y1.cell 7).lst), (T.list (y1.cell 8).lst), (T.list (y1.cell 9).lst), (T.sc (.complex .f64 (y1.cell 10).re (y1.cell 10).im)), (T.sc (.int .i64 s1)), (T.list s2)])])) (Option.bind (b.jumps_place_v3 (s0 ++ [(T.agg [(T.sc (.int .i64 (y1.cell 0).int)), (T.sc (.string (y1.cell 1).str)), (T.sc (.string (y1.cell 2).str)), (T.sc (.int .i64 (y1.cell 3).int)), (T.sc (.int .i64 (y1.cell 4).int)), (T.sc (.int .i64 (y1.cell 5).int)), (T.sc (.string (y1.cell 6).str)), (T.list (y1.cell 7).lst), (T.list (y1.cell 8).lst), (T.list (y1.cell 9).lst), (T.sc (.complex .f64 (y1.cell 10).re (y1.cell 10).im)), (T.sc (.int .i64 s1)), (T.list s2)])]) s1 s2 (y1.cell 8).lst s6) fun r2 =>
Option.bind (b.jumps_place_v3 r2.1 s1 s2 (y1.cell 9).lst r2.2) fun r3 =>
k (r3.1, s1, s2, s3, s4, (IntKind.wrap .i64 (s5 + 1)), r3.2)))
else (
some (s0, s6))
def l_jumps_place_v3_4 (b : B_jumps_place_v2) (n : Nat) : Nat → (List T) × Int × (List T) × (List T) × Int × Int × Int → Option ((List T) × Int)
  | 0, _ => none
  | m + 1, s => l_jumps_place_v3_4_B b n (l_jumps_place_v3_4 b n m) s
def f_jumps_place_v3 (b : B_jumps_place_v2) (n : Nat) (a0 : List T) (a1 : Int) (a2 : List T) (a3 : List T) (a4 : Int) : Option ((List T) × Int) :=
Option.bind (m_slices_Clone___int_int_ n a2) fun r0 =>
must true ((Nat.beq 1 1 || Nat.beq 1 0) && (decide (List.length r0 + List.length [(T.sc (.int .i64 a4))] ≤ 1073741824) && sized 1 [(T.sc (.int .i64 a4))])) (Option.bind (l_jumps_place_v3_4 b n n (a0, a1, (r0 ++ [(T.sc (.int .i64 a4))]), a3, ((List.length a3 : Nat) : Int), 0, (IntKind.wrap .i64 (a4 + 1)))) fun p5 =>
some (p5.1, p5.2))
def cs_jumps_place_v3 (b : B_jumps_place_v2) (hb : B_jumps_place_v2_ok b) (n : Nat) : List (CalF Try.prog) := [⟨d_slices_Clone___int_int_, m_slices_Clone___int_int_ n, m_slices_Clone___int_int__ok n⟩, ⟨d_jumps_place_v3, b.jumps_place_v3, hb.jumps_place_v3⟩]
def L_l_jumps_place_v3_4 : LF := ⟨4, [0, 1, 2, 3, 25, 26, 27], [.own 13, .ptr 0 0, .int .i64, .own 1, .list, .int .i64, .int .i64, .box 1, .int .i64], [⟨(.exit 0), [0], [.own 13, .box 1, .int .i64]⟩]⟩
def ls_jumps_place_v3 (b : B_jumps_place_v2) (n : Nat) : List LE := [⟨4, loopS L_l_jumps_place_v3_4 (l_jumps_place_v3_4 b n n)⟩]
theorem l_jumps_place_v3_4_ok (b : B_jumps_place_v2) (hb : B_jumps_place_v2_ok b) (n : Nat) : LoopOk Try.prog (mkSpec (cs_jumps_place_v3 b hb n) (ls_jumps_place_v3 b n)) 1 54 (loopAt Try.f31 0) := loopOk (L := L_l_jumps_place_v3_4) (f := l_jumps_place_v3_4 b n) (B := l_jumps_place_v3_4_B b n) (k := n) (loopAt_ok sound Try.func31 (by kernel_rfl)) (inner (by kernel_rfl) allN) (innerS (by kernel_rfl) allN) (fun _ => rfl) (fun _ _ => rfl) (by kernel_rfl) (fun _ => by kernel_rfl) (by kernel_rfl) (fun k a => by kernel_rfl)
theorem f_jumps_place_v3_ok (b : B_jumps_place_v2) (hb : B_jumps_place_v2_ok b) (n : Nat) : Ok Try.prog d_jumps_place_v3 (f_jumps_place_v3 b n) := fnOk sound (cs := cs_jumps_place_v3 b hb n) (ls := ls_jumps_place_v3 b n) (n := 54) Try.func31 (by kernel_rfl) (fun _ => by kernel_rfl) (inner (by kernel_rfl) (allC (l_jumps_place_v3_4_ok b hb n) allN)) (innerS (by kernel_rfl) allN) (by kernel_rfl) (fun a => by kernel_rfl)
def unB_jumps_place_v2 (n : Nat) : Nat → B_jumps_place_v2
  | 0 => { jumps_place_v2 := fun _ _ _ _ _ => none, jumps_place_v3 := fun _ _ _ _ _ => none }
  | m + 1 => { jumps_place_v2 := f_jumps_place_v2 (unB_jumps_place_v2 n m) n, jumps_place_v3 := f_jumps_place_v3 (unB_jumps_place_v2 n m) n }
theorem unB_jumps_place_v2_ok (n : Nat) : ∀ m, B_jumps_place_v2_ok (unB_jumps_place_v2 n m)
  | 0 => { jumps_place_v2 := fun _ _ h => (nomatch (show none = some _ from h)), jumps_place_v3 := fun _ _ h => (nomatch (show none = some _ from h)) }
  | m + 1 => { jumps_place_v2 := f_jumps_place_v2_ok _ (unB_jumps_place_v2_ok n m) n, jumps_place_v3 := f_jumps_place_v3_ok _ (unB_jumps_place_v2_ok n m) n }
def m_jumps_place_v2 (n : Nat) : List T → Int → List T → List T → Int → Option ((List T) × Int) := (unB_jumps_place_v2 n n).jumps_place_v2
theorem m_jumps_place_v2_ok (n : Nat) : Ok Try.prog d_jumps_place_v2 (m_jumps_place_v2 n) := (unB_jumps_place_v2_ok n n).jumps_place_v2
def m_jumps_place_v3 (n : Nat) : List T → Int → List T → List T → Int → Option ((List T) × Int) := (unB_jumps_place_v2 n n).jumps_place_v3
theorem m_jumps_place_v3_ok (n : Nat) : Ok Try.prog d_jumps_place_v3 (m_jumps_place_v3 n) := (unB_jumps_place_v2_ok n n).jumps_place_v3


/-! suture/jumps.all -/
def l_jumps_all_4_B (n : Nat) (k : (List T) × (List T) × Int × Int × (List T) × (List T) × Int → Option ((List T) × (List T) × (List T) × Int)) : (List T) × (List T) × Int × Int × (List T) × (List T) × Int → Option ((List T) × (List T) × (List T) × Int) := fun (s0, s1, s2, s3, s4, s5, s6) =>
bif (decide ((s3 : Int) < s2)) then (
Option.bind (idx true [.list] s1 s3) fun y0 =>
Option.bind (m_jumps_place_v2 n s0 s3 ([] : List T) (y0.cell 0).lst s6) fun r1 =>
k (r1.1, s1, s2, (IntKind.wrap .i64 (s3 + 1)), s4, s5, r1.2))
else (
some (s0, s4, s5, s6))
def l_jumps_all_4 (n : Nat) : Nat → (List T) × (List T) × Int × Int × (List T) × (List T) × Int → Option ((List T) × (List T) × (List T) × Int)
  | 0, _ => none
  | m + 1, s => l_jumps_all_4_B n (l_jumps_all_4 n m) s
def m_jumps_all (n : Nat) (a0 : List T) (a1 : List T) : Option ((List T)) :=
Option.bind (l_jumps_all_4 n n (([] : List T), a1, ((List.length a1 : Nat) : Int), 0, a0, a1, 0)) fun p3 =>
some p3.1
def d_jumps_all : FnF := ⟨20, [.agg 2, .list, .list], [.own 13]⟩
def cs_jumps_all (n : Nat) : List (CalF Try.prog) := [⟨d_jumps_place_v2, m_jumps_place_v2 n, m_jumps_place_v2_ok n⟩]
def L_l_jumps_all_4 : LF := ⟨4, [3, 4, 8, 9, 10], [.own 13, .ptr 1 0, .list, .int .i64, .int .i64, .box 2, .list, .list, .box 1, .int .i64], [⟨(.exit 0), [3], [.own 13, .box 2, .list, .list, .box 1, .int .i64]⟩]⟩
def ls_jumps_all (n : Nat) : List LE := [⟨4, loopS L_l_jumps_all_4 (l_jumps_all_4 n n)⟩]
theorem l_jumps_all_4_ok (n : Nat) : LoopOk Try.prog (mkSpec (cs_jumps_all n) (ls_jumps_all n)) 0 21 (loopAt Try.f20 0) := loopOk (L := L_l_jumps_all_4) (f := l_jumps_all_4 n) (B := l_jumps_all_4_B n) (k := n) (loopAt_ok sound Try.func20 (by kernel_rfl)) (inner (by kernel_rfl) allN) (innerS (by kernel_rfl) allN) (fun _ => rfl) (fun _ _ => rfl) (by kernel_rfl) (fun _ => by kernel_rfl) (by kernel_rfl) (fun k a => by kernel_rfl)
theorem m_jumps_all_ok (n : Nat) : Ok Try.prog d_jumps_all (m_jumps_all n) := fnOk sound (cs := cs_jumps_all n) (ls := ls_jumps_all n) (n := 21) Try.func20 (by kernel_rfl) (fun _ => by kernel_rfl) (inner (by kernel_rfl) (allC (l_jumps_all_4_ok n) allN)) (innerS (by kernel_rfl) allN) (by kernel_rfl) (fun a => by kernel_rfl)


/-! suture/jumps.twice$1 -/
def m_jumps_twice_1 (n : Nat) (a0 : Int) (a1 : ByteArray) (a2 : ByteArray) (a3 : Int) (a4 : Int) (a5 : Int) (a6 : ByteArray) (a7 : List T) (a8 : List T) (a9 : List T) (a10 : Nat × Nat) (a11 : Int) (a12 : List T) (a13 : Int) (a14 : ByteArray) (a15 : ByteArray) (a16 : Int) (a17 : Int) (a18 : Int) (a19 : ByteArray) (a20 : List T) (a21 : List T) (a22 : List T) (a23 : Nat × Nat) (a24 : Int) (a25 : List T) : Option (Bool × Int × ByteArray × ByteArray × Int × Int × Int × ByteArray × (List T) × (List T) × (List T) × (Nat × Nat) × Int × (List T)) :=
some ((bif (bif ((a11 : Int) == a24) then ((a0 : Int) == 10) else false) then (ByteArray.toList a1 == ByteArray.toList a14) else false), a13, a14, a15, a16, a17, a18, a19, a20, a21, a22, a23, a24, a25)
def d_jumps_twice_1 : FnF := ⟨33, [.agg 13, .int .i64, .str, .str, .int .i64, .int .i64, .int .i64, .str, .list, .list, .list, .cplx .f64, .int .i64, .list, .ptr 0 0, .box 13, .int .i64, .str, .str, .int .i64, .int .i64, .int .i64, .str, .list, .list, .list, .cplx .f64, .int .i64, .list], [.bool, .box 13, .int .i64, .str, .str, .int .i64, .int .i64, .int .i64, .str, .list, .list, .list, .cplx .f64, .int .i64, .list]⟩
theorem m_jumps_twice_1_ok (n : Nat) : Ok Try.prog d_jumps_twice_1 (m_jumps_twice_1 n) := fnOk0 sound [] Try.func33 (by kernel_rfl) (fun a => by kernel_rfl)


/-! slices.IndexFunc[[]suture/jumps.placed,suture/jumps.placed] -/
def l_slices_IndexFunc___jumps_placed_jumps_placed__2_B (n : Nat) (k : (List T) × Int × Int × Int × ByteArray × ByteArray × Int × Int × Int × ByteArray × (List T) × (List T) × (List T) × (Nat × Nat) × Int × (List T) → Option (((Int × Int × ByteArray × ByteArray × Int × Int × Int × ByteArray × (List T) × (List T) × (List T) × (Nat × Nat) × Int × (List T)) ⊕ Int × ByteArray × ByteArray × Int × Int × Int × ByteArray × (List T) × (List T) × (List T) × (Nat × Nat) × Int × (List T)))) : (List T) × Int × Int × Int × ByteArray × ByteArray × Int × Int × Int × ByteArray × (List T) × (List T) × (List T) × (Nat × Nat) × Int × (List T) → Option (((Int × Int × ByteArray × ByteArray × Int × Int × Int × ByteArray × (List T) × (List T) × (List T) × (Nat × Nat) × Int × (List T)) ⊕ Int × ByteArray × ByteArray × Int × Int × Int × ByteArray × (List T) × (List T) × (List T) × (Nat × Nat) × Int × (List T))) := fun (s0, s1, s2, s3, s4, s5, s6, s7, s8, s9, s10, s11, s12, s13, s14, s15) =>
bif (decide ((s2 : Int) < s1)) then (
Option.bind (idx true [.int .i64, .str, .str, .int .i64, .int .i64, .int .i64, .str, .list, .list, .list, .cplx .f64, .int .i64, .list] s0 s2) fun y0 =>
Option.bind (m_jumps_twice_1 n (y0.cell 0).int (y0.cell 1).str (y0.cell 2).str (y0.cell 3).int (y0.cell 4).int (y0.cell 5).int (y0.cell 6).str (y0.cell 7).lst (y0.cell 8).lst (y0.cell 9).lst ((y0.cell 10).re, (y0.cell 10).im) (y0.cell 11).int (y0.cell 12).lst s3 s4 s5 s6 s7 s8 s9 s10 s11 s12 s13 s14 s15) fun r1 =>
bif r1.1 then (
some (Sum.inl (s2, r1.2.1, r1.2.2.1, r1.2.2.2.1, r1.2.2.2.2.1, r1.2.2.2.2.2.1, r1.2.2.2.2.2.2.1, r1.2.2.2.2.2.2.2.1, r1.2.2.2.2.2.2.2.2.1, r1.2.2.2.2.2.2.2.2.2.1, r1.2.2.2.2.2.2.2.2.2.2.1, r1.2.2.2.2.2.2.2.2.2.2.2.1, r1.2.2.2.2.2.2.2.2.2.2.2.2.1, r1.2.2.2.2.2.2.2.2.2.2.2.2.2)))
else (
k (s0, s1, (IntKind.wrap .i64 (s2 + 1)), r1.2.1, r1.2.2.1, r1.2.2.2.1, r1.2.2.2.2.1, r1.2.2.2.2.2.1, r1.2.2.2.2.2.2.1, r1.2.2.2.2.2.2.2.1, r1.2.2.2.2.2.2.2.2.1, r1.2.2.2.2.2.2.2.2.2.1, r1.2.2.2.2.2.2.2.2.2.2.1, r1.2.2.2.2.2.2.2.2.2.2.2.1, r1.2.2.2.2.2.2.2.2.2.2.2.2.1, r1.2.2.2.2.2.2.2.2.2.2.2.2.2)))
else (
some (Sum.inr (s3, s4, s5, s6, s7, s8, s9, s10, s11, s12, s13, s14, s15)))
def l_slices_IndexFunc___jumps_placed_jumps_placed__2 (n : Nat) : Nat → (List T) × Int × Int × Int × ByteArray × ByteArray × Int × Int × Int × ByteArray × (List T) × (List T) × (List T) × (Nat × Nat) × Int × (List T) → Option (((Int × Int × ByteArray × ByteArray × Int × Int × Int × ByteArray × (List T) × (List T) × (List T) × (Nat × Nat) × Int × (List T)) ⊕ Int × ByteArray × ByteArray × Int × Int × Int × ByteArray × (List T) × (List T) × (List T) × (Nat × Nat) × Int × (List T)))
  | 0, _ => none
  | m + 1, s => l_slices_IndexFunc___jumps_placed_jumps_placed__2_B n (l_slices_IndexFunc___jumps_placed_jumps_placed__2 n m) s
def m_slices_IndexFunc___jumps_placed_jumps_placed_ (n : Nat) (a0 : List T) (a1 : Int) (a2 : ByteArray) (a3 : ByteArray) (a4 : Int) (a5 : Int) (a6 : Int) (a7 : ByteArray) (a8 : List T) (a9 : List T) (a10 : List T) (a11 : Nat × Nat) (a12 : Int) (a13 : List T) : Option (Int × Int × ByteArray × ByteArray × Int × Int × Int × ByteArray × (List T) × (List T) × (List T) × (Nat × Nat) × Int × (List T)) :=
Option.bind (l_slices_IndexFunc___jumps_placed_jumps_placed__2 n n (a0, ((List.length a0 : Nat) : Int), 0, a1, a2, a3, a4, a5, a6, a7, a8, a9, a10, a11, a12, a13)) fun x2 =>
Sum.elim (fun p3 => 
some (p3.1, p3.2.1, p3.2.2.1, p3.2.2.2.1, p3.2.2.2.2.1, p3.2.2.2.2.2.1, p3.2.2.2.2.2.2.1, p3.2.2.2.2.2.2.2.1, p3.2.2.2.2.2.2.2.2.1, p3.2.2.2.2.2.2.2.2.2.1, p3.2.2.2.2.2.2.2.2.2.2.1, p3.2.2.2.2.2.2.2.2.2.2.2.1, p3.2.2.2.2.2.2.2.2.2.2.2.2.1, p3.2.2.2.2.2.2.2.2.2.2.2.2.2)) (fun x2' => (fun p4 => 
some ((-1), p4.1, p4.2.1, p4.2.2.1, p4.2.2.2.1, p4.2.2.2.2.1, p4.2.2.2.2.2.1, p4.2.2.2.2.2.2.1, p4.2.2.2.2.2.2.2.1, p4.2.2.2.2.2.2.2.2.1, p4.2.2.2.2.2.2.2.2.2.1, p4.2.2.2.2.2.2.2.2.2.2.1, p4.2.2.2.2.2.2.2.2.2.2.2.1, p4.2.2.2.2.2.2.2.2.2.2.2.2)) x2') x2
def d_slices_IndexFunc___jumps_placed_jumps_placed_ : FnF := ⟨48, [.list, .fn 33 1, .ptr 0 0, .box 13, .int .i64, .str, .str, .int .i64, .int .i64, .int .i64, .str, .list, .list, .list, .cplx .f64, .int .i64, .list], [.int .i64, .box 13, .int .i64, .str, .str, .int .i64, .int .i64, .int .i64, .str, .list, .list, .list, .cplx .f64, .int .i64, .list]⟩
def cs_slices_IndexFunc___jumps_placed_jumps_placed_ (n : Nat) : List (CalF Try.prog) := [⟨d_jumps_twice_1, m_jumps_twice_1 n, m_jumps_twice_1_ok n⟩]
def L_l_slices_IndexFunc___jumps_placed_jumps_placed__2 : LF := ⟨2, [0, 1, 7, 8], [.list, .fn 33 1, .ptr 0 0, .int .i64, .int .i64, .box 13, .int .i64, .str, .str, .int .i64, .int .i64, .int .i64, .str, .list, .list, .list, .cplx .f64, .int .i64, .list], [⟨.ret, [4], [.int .i64, .box 13, .int .i64, .str, .str, .int .i64, .int .i64, .int .i64, .str, .list, .list, .list, .cplx .f64, .int .i64, .list]⟩, ⟨(.exit 0), [], [.box 13, .int .i64, .str, .str, .int .i64, .int .i64, .int .i64, .str, .list, .list, .list, .cplx .f64, .int .i64, .list]⟩]⟩
def ls_slices_IndexFunc___jumps_placed_jumps_placed_ (n : Nat) : List LE := [⟨2, loopS L_l_slices_IndexFunc___jumps_placed_jumps_placed__2 (l_slices_IndexFunc___jumps_placed_jumps_placed__2 n n)⟩]
theorem l_slices_IndexFunc___jumps_placed_jumps_placed__2_ok (n : Nat) : LoopOk Try.prog (mkSpec (cs_slices_IndexFunc___jumps_placed_jumps_placed_ n) (ls_slices_IndexFunc___jumps_placed_jumps_placed_ n)) 1 19 (loopAt Try.f48 0) := loopOk (L := L_l_slices_IndexFunc___jumps_placed_jumps_placed__2) (f := l_slices_IndexFunc___jumps_placed_jumps_placed__2 n) (B := l_slices_IndexFunc___jumps_placed_jumps_placed__2_B n) (k := n) (loopAt_ok sound Try.func48 (by kernel_rfl)) (inner (by kernel_rfl) allN) (innerS (by kernel_rfl) allN) (fun _ => rfl) (fun _ _ => rfl) (by kernel_rfl) (fun _ => by kernel_rfl) (by kernel_rfl) (fun k a => by kernel_rfl)
theorem m_slices_IndexFunc___jumps_placed_jumps_placed__ok (n : Nat) : Ok Try.prog d_slices_IndexFunc___jumps_placed_jumps_placed_ (m_slices_IndexFunc___jumps_placed_jumps_placed_ n) := fnOk sound (cs := cs_slices_IndexFunc___jumps_placed_jumps_placed_ n) (ls := ls_slices_IndexFunc___jumps_placed_jumps_placed_ n) (n := 19) Try.func48 (by kernel_rfl) (fun _ => by kernel_rfl) (inner (by kernel_rfl) (allC (l_slices_IndexFunc___jumps_placed_jumps_placed__2_ok n) allN)) (innerS (by kernel_rfl) allN) (by kernel_rfl) (fun a => by kernel_rfl)


/-! slices.ContainsFunc[[]suture/jumps.placed,suture/jumps.placed] -/
def m_slices_ContainsFunc___jumps_placed_jumps_placed_ (n : Nat) (a0 : List T) (a1 : Int) (a2 : ByteArray) (a3 : ByteArray) (a4 : Int) (a5 : Int) (a6 : Int) (a7 : ByteArray) (a8 : List T) (a9 : List T) (a10 : List T) (a11 : Nat × Nat) (a12 : Int) (a13 : List T) : Option (Bool × Int × ByteArray × ByteArray × Int × Int × Int × ByteArray × (List T) × (List T) × (List T) × (Nat × Nat) × Int × (List T)) :=
Option.bind (m_slices_IndexFunc___jumps_placed_jumps_placed_ n a0 a1 a2 a3 a4 a5 a6 a7 a8 a9 a10 a11 a12 a13) fun r0 =>
some ((decide ((r0.1 : Int) ≥ 0)), r0.2.1, r0.2.2.1, r0.2.2.2.1, r0.2.2.2.2.1, r0.2.2.2.2.2.1, r0.2.2.2.2.2.2.1, r0.2.2.2.2.2.2.2.1, r0.2.2.2.2.2.2.2.2.1, r0.2.2.2.2.2.2.2.2.2.1, r0.2.2.2.2.2.2.2.2.2.2.1, r0.2.2.2.2.2.2.2.2.2.2.2.1, r0.2.2.2.2.2.2.2.2.2.2.2.2.1, r0.2.2.2.2.2.2.2.2.2.2.2.2.2)
def d_slices_ContainsFunc___jumps_placed_jumps_placed_ : FnF := ⟨32, [.list, .fn 33 1, .ptr 0 0, .box 13, .int .i64, .str, .str, .int .i64, .int .i64, .int .i64, .str, .list, .list, .list, .cplx .f64, .int .i64, .list], [.bool, .box 13, .int .i64, .str, .str, .int .i64, .int .i64, .int .i64, .str, .list, .list, .list, .cplx .f64, .int .i64, .list]⟩
theorem m_slices_ContainsFunc___jumps_placed_jumps_placed__ok (n : Nat) : Ok Try.prog d_slices_ContainsFunc___jumps_placed_jumps_placed_ (m_slices_ContainsFunc___jumps_placed_jumps_placed_ n) := fnOk0 sound [⟨d_slices_IndexFunc___jumps_placed_jumps_placed_, m_slices_IndexFunc___jumps_placed_jumps_placed_ n, m_slices_IndexFunc___jumps_placed_jumps_placed__ok n⟩] Try.func32 (by kernel_rfl) (fun a => by kernel_rfl)


/-! suture/jumps.twice -/
def m_jumps_twice (n : Nat) (a0 : List T) (a1 : Int) : Option (Bool) :=
Option.bind (idx true [.int .i64, .str, .str, .int .i64, .int .i64, .int .i64, .str, .list, .list, .list, .cplx .f64, .int .i64, .list] a0 a1) fun y0 =>
must ((((y0.cell 0).int : Int) == 10)) (decide (0 ≤ 0) && decide (0 ≤ a1) && decide (a1 ≤ ((List.length a0 : Nat) : Int)) && sized 13 a0) (Option.bind (bif (((y0.cell 0).int : Int) == 10) then m_slices_ContainsFunc___jumps_placed_jumps_placed_ n (List.drop (Int.toNat 0) (List.take (Int.toNat a1) a0)) (y0.cell 0).int (y0.cell 1).str (y0.cell 2).str (y0.cell 3).int (y0.cell 4).int (y0.cell 5).int (y0.cell 6).str (y0.cell 7).lst (y0.cell 8).lst (y0.cell 9).lst ((y0.cell 10).re, (y0.cell 10).im) (y0.cell 11).int (y0.cell 12).lst else some (false, 0, default, default, 0, 0, 0, default, [], [], [], (0, 0), 0, [])) fun r1 =>
some (bif (((y0.cell 0).int : Int) == 10) then r1.1 else false))
def d_jumps_twice : FnF := ⟨21, [.list, .int .i64], [.bool]⟩
theorem m_jumps_twice_ok (n : Nat) : Ok Try.prog d_jumps_twice (m_jumps_twice n) := fnOk0 sound [⟨d_slices_ContainsFunc___jumps_placed_jumps_placed_, m_slices_ContainsFunc___jumps_placed_jumps_placed_ n, m_slices_ContainsFunc___jumps_placed_jumps_placed__ok n⟩] Try.func21 (by kernel_rfl) (fun a => by kernel_rfl)


/-! slices.Index[[]int,int] -/
def l_slices_Index___int_int__2_B (n : Nat) (k : (List T) × Int × Int × Int → Option (((Int) ⊕ Unit))) : (List T) × Int × Int × Int → Option (((Int) ⊕ Unit)) := fun (s0, s1, s2, s3) =>
bif (decide ((s3 : Int) < s2)) then (
Option.bind (idx true [.int .i64] s0 s3) fun y0 =>
bif ((s1 : Int) == (y0.cell 0).int) then (
some (Sum.inl s3))
else (
k (s0, s1, s2, (IntKind.wrap .i64 (s3 + 1)))))
else (
some (Sum.inr ()))
def l_slices_Index___int_int__2 (n : Nat) : Nat → (List T) × Int × Int × Int → Option (((Int) ⊕ Unit))
  | 0, _ => none
  | m + 1, s => l_slices_Index___int_int__2_B n (l_slices_Index___int_int__2 n m) s
def m_slices_Index___int_int_ (n : Nat) (a0 : List T) (a1 : Int) : Option (Int) :=
Option.bind (l_slices_Index___int_int__2 n n (a0, a1, ((List.length a0 : Nat) : Int), 0)) fun x1 =>
Sum.elim (fun p2 => 
some p2) (fun x1' => (fun p3 => 
some (-1)) x1') x1
def d_slices_Index___int_int_ : FnF := ⟨49, [.list, .int .i64], [.int .i64]⟩
def cs_slices_Index___int_int_ (n : Nat) : List (CalF Try.prog) := []
def L_l_slices_Index___int_int__2 : LF := ⟨2, [0, 1, 7, 8], [.list, .int .i64, .int .i64, .int .i64], [⟨.ret, [4], [.int .i64]⟩, ⟨(.exit 0), [], []⟩]⟩
def ls_slices_Index___int_int_ (n : Nat) : List LE := [⟨2, loopS L_l_slices_Index___int_int__2 (l_slices_Index___int_int__2 n n)⟩]
theorem l_slices_Index___int_int__2_ok (n : Nat) : LoopOk Try.prog (mkSpec (cs_slices_Index___int_int_ n) (ls_slices_Index___int_int_ n)) 0 19 (loopAt Try.f49 0) := loopOk (L := L_l_slices_Index___int_int__2) (f := l_slices_Index___int_int__2 n) (B := l_slices_Index___int_int__2_B n) (k := n) (loopAt_ok sound Try.func49 (by kernel_rfl)) (inner (by kernel_rfl) allN) (innerS (by kernel_rfl) allN) (fun _ => rfl) (fun _ _ => rfl) (by kernel_rfl) (fun _ => by kernel_rfl) (by kernel_rfl) (fun k a => by kernel_rfl)
theorem m_slices_Index___int_int__ok (n : Nat) : Ok Try.prog d_slices_Index___int_int_ (m_slices_Index___int_int_ n) := fnOk sound (cs := cs_slices_Index___int_int_ n) (ls := ls_slices_Index___int_int_ n) (n := 19) Try.func49 (by kernel_rfl) (fun _ => by kernel_rfl) (inner (by kernel_rfl) (allC (l_slices_Index___int_int__2_ok n) allN)) (innerS (by kernel_rfl) allN) (by kernel_rfl) (fun a => by kernel_rfl)


/-! slices.Contains[[]int,int] -/
def m_slices_Contains___int_int_ (n : Nat) (a0 : List T) (a1 : Int) : Option (Bool) :=
Option.bind (m_slices_Index___int_int_ n a0 a1) fun r0 =>
some (decide ((r0 : Int) ≥ 0))
def d_slices_Contains___int_int_ : FnF := ⟨34, [.list, .int .i64], [.bool]⟩
theorem m_slices_Contains___int_int__ok (n : Nat) : Ok Try.prog d_slices_Contains___int_int_ (m_slices_Contains___int_int_ n) := fnOk0 sound [⟨d_slices_Index___int_int_, m_slices_Index___int_int_ n, m_slices_Index___int_int__ok n⟩] Try.func34 (by kernel_rfl) (fun a => by kernel_rfl)


/-! suture/jumps.target -/
def l_jumps_target_5_B (n : Nat) (k : (List T) × Int × Int × ByteArray × ByteArray × Int × Int × Int × ByteArray × (List T) × (List T) × (List T) × (Nat × Nat) × Int × (List T) → Option (((Int × Int × ByteArray × ByteArray × Int × Int × Int × ByteArray × (List T) × (List T) × (List T) × (Nat × Nat) × Int × (List T)) ⊕ Int × ByteArray × ByteArray × Int × Int × Int × ByteArray × (List T) × (List T) × (List T) × (Nat × Nat) × Int × (List T)))) : (List T) × Int × Int × ByteArray × ByteArray × Int × Int × Int × ByteArray × (List T) × (List T) × (List T) × (Nat × Nat) × Int × (List T) → Option (((Int × Int × ByteArray × ByteArray × Int × Int × Int × ByteArray × (List T) × (List T) × (List T) × (Nat × Nat) × Int × (List T)) ⊕ Int × ByteArray × ByteArray × Int × Int × Int × ByteArray × (List T) × (List T) × (List T) × (Nat × Nat) × Int × (List T))) := fun (s0, s1, s2, s3, s4, s5, s6, s7, s8, s9, s10, s11, s12, s13, s14) =>
Option.bind (idx ((decide ((s1 : Int) < ((List.length s0 : Nat) : Int)))) [.int .i64, .str, .str, .int .i64, .int .i64, .int .i64, .str, .list, .list, .list, .cplx .f64, .int .i64, .list] s0 s1) fun y2 =>
bif (bif (decide ((s1 : Int) < ((List.length s0 : Nat) : Int))) then (((y2.cell 11).int : Int) == s13) else false) then (
Option.bind (idx true [.int .i64, .str, .str, .int .i64, .int .i64, .int .i64, .str, .list, .list, .list, .cplx .f64, .int .i64, .list] s0 s1) fun y3 =>
Option.bind (idx ((bif (((y3.cell 0).int : Int) == 10) then (ByteArray.toList (y3.cell 1).str == ByteArray.toList s3) else false)) [.int .i64] (y3.cell 12).lst (IntKind.wrap .i64 (((List.length (y3.cell 12).lst : Nat) : Int) - 1))) fun y4 =>
Option.bind (bif (bif (((y3.cell 0).int : Int) == 10) then (ByteArray.toList (y3.cell 1).str == ByteArray.toList s3) else false) then m_slices_Contains___int_int_ n s14 (y4.cell 0).int else some false) fun r5 =>
bif (bif (bif (((y3.cell 0).int : Int) == 10) then (ByteArray.toList (y3.cell 1).str == ByteArray.toList s3) else false) then r5 else false) then (
some (Sum.inl (s1, s2, s3, s4, s5, s6, s7, s8, s9, s10, s11, s12, s13, s14)))
else (
k (s0, (IntKind.wrap .i64 (s1 + 1)), s2, s3, s4, s5, s6, s7, s8, s9, s10, s11, s12, s13, s14)))
else (
some (Sum.inr (s2, s3, s4, s5, s6, s7, s8, s9, s10, s11, s12, s13, s14)))
def l_jumps_target_5 (n : Nat) : Nat → (List T) × Int × Int × ByteArray × ByteArray × Int × Int × Int × ByteArray × (List T) × (List T) × (List T) × (Nat × Nat) × Int × (List T) → Option (((Int × Int × ByteArray × ByteArray × Int × Int × Int × ByteArray × (List T) × (List T) × (List T) × (Nat × Nat) × Int × (List T)) ⊕ Int × ByteArray × ByteArray × Int × Int × Int × ByteArray × (List T) × (List T) × (List T) × (Nat × Nat) × Int × (List T)))
  | 0, _ => none
  | m + 1, s => l_jumps_target_5_B n (l_jumps_target_5 n m) s
def m_jumps_target (n : Nat) (a0 : List T) (a1 : Int) : Option (Int) :=
Option.bind (idx (!(bif (decide ((a1 : Int) < 0)) then true else (decide ((a1 : Int) ≥ ((List.length a0 : Nat) : Int))))) [.int .i64, .str, .str, .int .i64, .int .i64, .int .i64, .str, .list, .list, .list, .cplx .f64, .int .i64, .list] a0 a1) fun y0 =>
bif (bif (bif (decide ((a1 : Int) < 0)) then true else (decide ((a1 : Int) ≥ ((List.length a0 : Nat) : Int)))) then true else (((y0.cell 0).int : Int) != 9)) then (
some (-1))
else (
Option.bind (idx true [.int .i64, .str, .str, .int .i64, .int .i64, .int .i64, .str, .list, .list, .list, .cplx .f64, .int .i64, .list] a0 a1) fun y1 =>
Option.bind (l_jumps_target_5 n n (a0, (IntKind.wrap .i64 (a1 + 1)), (y1.cell 0).int, (y1.cell 1).str, (y1.cell 2).str, (y1.cell 3).int, (y1.cell 4).int, (y1.cell 5).int, (y1.cell 6).str, (y1.cell 7).lst, (y1.cell 8).lst, (y1.cell 9).lst, ((y1.cell 10).re, (y1.cell 10).im), (y1.cell 11).int, (y1.cell 12).lst)) fun x6 =>
Sum.elim (fun p7 => 
some p7.1) (fun x6' => (fun p8 => 
some (-1)) x6') x6)
def d_jumps_target : FnF := ⟨22, [.list, .int .i64], [.int .i64]⟩
def cs_jumps_target (n : Nat) : List (CalF Try.prog) := [⟨d_slices_Contains___int_int_, m_slices_Contains___int_int_ n, m_slices_Contains___int_int__ok n⟩]
def L_l_jumps_target_5 : LF := ⟨5, [0, 5, 6], [.list, .ptr 0 0, .int .i64, .box 13, .int .i64, .str, .str, .int .i64, .int .i64, .int .i64, .str, .list, .list, .list, .cplx .f64, .int .i64, .list], [⟨.ret, [4], [.int .i64, .box 13, .int .i64, .str, .str, .int .i64, .int .i64, .int .i64, .str, .list, .list, .list, .cplx .f64, .int .i64, .list]⟩, ⟨(.exit 0), [], [.box 13, .int .i64, .str, .str, .int .i64, .int .i64, .int .i64, .str, .list, .list, .list, .cplx .f64, .int .i64, .list]⟩]⟩
def ls_jumps_target (n : Nat) : List LE := [⟨5, loopS L_l_jumps_target_5 (l_jumps_target_5 n n)⟩]
theorem l_jumps_target_5_ok (n : Nat) : LoopOk Try.prog (mkSpec (cs_jumps_target n) (ls_jumps_target n)) 0 78 (loopAt Try.f22 0) := loopOk (L := L_l_jumps_target_5) (f := l_jumps_target_5 n) (B := l_jumps_target_5_B n) (k := n) (loopAt_ok sound Try.func22 (by kernel_rfl)) (inner (by kernel_rfl) allN) (innerS (by kernel_rfl) allN) (fun _ => rfl) (fun _ _ => rfl) (by kernel_rfl) (fun _ => by kernel_rfl) (by kernel_rfl) (fun k a => by kernel_rfl)
theorem m_jumps_target_ok (n : Nat) : Ok Try.prog d_jumps_target (m_jumps_target n) := fnOk sound (cs := cs_jumps_target n) (ls := ls_jumps_target n) (n := 78) Try.func22 (by kernel_rfl) (fun _ => by kernel_rfl) (inner (by kernel_rfl) (allC (l_jumps_target_5_ok n) allN)) (innerS (by kernel_rfl) allN) (by kernel_rfl) (fun a => by kernel_rfl)


/-! suture/jumps.Check -/
def l_jumps_Check_3_B (n : Nat) (k : (List T) × (List T) × Int × Int × (List T) × (List T) → Option ((((Nat × Nat) × Int × (List T) × (List T)) ⊕ (List T) × (List T)))) : (List T) × (List T) × Int × Int × (List T) × (List T) → Option ((((Nat × Nat) × Int × (List T) × (List T)) ⊕ (List T) × (List T))) := fun (s0, s1, s2, s3, s4, s5) =>
bif (decide ((s3 : Int) < s2)) then (
Option.bind (idx true [.int .i64, .str, .str, .int .i64, .int .i64, .int .i64, .str, .list, .list, .list, .cplx .f64, .int .i64, .list] s1 s3) fun y1 =>
Option.bind (m_jumps_twice n s0 s3) fun r2 =>
Option.bind (bif (!r2 && (((y1.cell 0).int : Int) == 9)) then m_jumps_target n s0 s3 else some 0) fun r3 =>
bif (bif r2 then true else (bif (((y1.cell 0).int : Int) == 9) then (decide ((r3 : Int) < 0)) else false)) then (
some (Sum.inl (((y1.cell 10).re, (y1.cell 10).im), 4, s4, s5)))
else (
k (s0, s1, s2, (IntKind.wrap .i64 (s3 + 1)), s4, s5)))
else (
some (Sum.inr (s4, s5)))
def l_jumps_Check_3 (n : Nat) : Nat → (List T) × (List T) × Int × Int × (List T) × (List T) → Option ((((Nat × Nat) × Int × (List T) × (List T)) ⊕ (List T) × (List T)))
  | 0, _ => none
  | m + 1, s => l_jumps_Check_3_B n (l_jumps_Check_3 n m) s
def m_jumps_Check (n : Nat) (a0 : List T) (a1 : List T) : Option ((Nat × Nat) × Int) :=
Option.bind (m_jumps_all n a0 a1) fun r0 =>
Option.bind (l_jumps_Check_3 n n (r0, r0, ((List.length r0 : Nat) : Int), 0, a0, a1)) fun x4 =>
Sum.elim (fun p5 => 
some (p5.1, p5.2.1)) (fun x4' => (fun p6 => 
some ((0, 0), 0)) x4') x4
def d_jumps_Check : FnF := ⟨7, [.agg 2, .list, .list], [.tup 2, .cplx .f64, .int .i64]⟩
def cs_jumps_Check (n : Nat) : List (CalF Try.prog) := [⟨d_jumps_all, m_jumps_all n, m_jumps_all_ok n⟩, ⟨d_jumps_twice, m_jumps_twice n, m_jumps_twice_ok n⟩, ⟨d_jumps_target, m_jumps_target n, m_jumps_target_ok n⟩]
def L_l_jumps_Check_3 : LF := ⟨3, [4, 9, 10, 11], [.own 13, .list, .int .i64, .int .i64, .box 2, .list, .list], [⟨.ret, [2, 3], [.cplx .f64, .int .i64, .box 2, .list, .list]⟩, ⟨(.exit 0), [], [.box 2, .list, .list]⟩]⟩
def ls_jumps_Check (n : Nat) : List LE := [⟨3, loopS L_l_jumps_Check_3 (l_jumps_Check_3 n n)⟩]
theorem l_jumps_Check_3_ok (n : Nat) : LoopOk Try.prog (mkSpec (cs_jumps_Check n) (ls_jumps_Check n)) 0 35 (loopAt Try.f7 0) := loopOk (L := L_l_jumps_Check_3) (f := l_jumps_Check_3 n) (B := l_jumps_Check_3_B n) (k := n) (loopAt_ok sound Try.func7 (by kernel_rfl)) (inner (by kernel_rfl) allN) (innerS (by kernel_rfl) allN) (fun _ => rfl) (fun _ _ => rfl) (by kernel_rfl) (fun _ => by kernel_rfl) (by kernel_rfl) (fun k a => by kernel_rfl)
theorem m_jumps_Check_ok (n : Nat) : Ok Try.prog d_jumps_Check (m_jumps_Check n) := fnOk sound (cs := cs_jumps_Check n) (ls := ls_jumps_Check n) (n := 35) Try.func7 (by kernel_rfl) (fun _ => by kernel_rfl) (inner (by kernel_rfl) (allC (l_jumps_Check_3_ok n) allN)) (innerS (by kernel_rfl) allN) (by kernel_rfl) (fun a => by kernel_rfl)


/-! sutureref8_marks: a circle -/
structure B_sutureref8_marks where
  sutureref8_marks : List T → List T → Int → Int → Option ((List T) × Int)
def d_sutureref8_marks : FnF := ⟨45, [.list, .list, .int .i64, .ptr 0 0, .box 1, .int .i64], [.own 13, .box 1, .int .i64]⟩
structure B_sutureref8_marks_ok (b : B_sutureref8_marks) : Prop where
  sutureref8_marks : Ok Try.prog d_sutureref8_marks b.sutureref8_marks

/-! suture/sutureref8.marks -/
def l_sutureref8_marks_5_B (b : B_sutureref8_marks) (n : Nat) (k : (List T) × Int × (List T) × (List T) × Int × Int → Option ((List T) × Int)) : (List T) × Int × (List T) × (List T) × Int × Int → Option ((List T) × Int) := fun (s0, s1, s2, s3, s4, s5) =>
bif (decide ((s4 : Int) < ((List.length s0 : Nat) : Int))) then (
Option.bind (idx true [.int .i64, .str, .str, .int .i64, .int .i64, .int .i64, .str, .list, .list, .list, .cplx .f64] s0 s4) fun y0 =>
must true ((Nat.beq 13 13 || Nat.beq 13 0) && (decide (List.length s3 + List.length [(T.agg [(T.sc (.int .i64 (y0.cell 0).int)), (T.sc (.string (y0.cell 1).str)), (T.sc (.string (y0.cell 2).str)), (T.sc (.int .i64 (y0.cell 3).int)), (T.sc (.int .i64 (y0.cell 4).int)), (T.sc (.int .i64 (y0.cell 5).int)), (T.sc (.string (y0.cell 6).str)), (T.list (y0.cell 7).lst), (T.list (y0.cell 8).lst), (T.list (y0.cell 9).lst), (T.sc (.complex .f64 (y0.cell 10).re (y0.cell 10).im)), (T.list s2), (T.sc (.int .i64 s1))])] ≤ 1073741824) && sized 13 [(T.agg [(T.sc (.int .i64 (y0.cell 0).int)), (T.sc (.string (y0.cell 1).str)), (T.sc (.string (y0.cell 2).str)), (T.sc (.int .i64 (y0.cell 3).int)), (T.sc (.int .i64 (y0.cell 4).int)), (T.sc (.int .i64 (y0.cell 5).int)), (T.sc (.string (y0.cell 6).str)), (T.list (y0.cell 7).lst), (T.list (y0.cell 8).lst), (T.list (y0.cell 9).lst), (T.sc (.complex .f64 (y0.cell 10).re (y0.cell 10).im)), (T.list s2), (T.sc (.int .i64 s1))])])) (Option.bind (idx true [.int .i64, .str, .str, .int .i64, .int .i64, .int .i64, .str, .list, .list, .list, .cplx .f64] s0 s4) fun y1 =>
Option.bind (b.sutureref8_marks (y1.cell 8).lst s2 s1 s5) fun r2 =>
must true ((Nat.beq 13 13 || Nat.beq 13 0) && (decide (List.length (s3 ++ [(T.agg [(T.sc (.int .i64 (y0.cell 0).int)), (T.sc (.string (y0.cell 1).str)), (T.sc (.string (y0.cell 2).str)), (T.sc (.int .i64 (y0.cell 3).int)), (T.sc (.int .i64 (y0.cell 4).int)), (T.sc (.int .i64 (y0.cell 5).int)), (T.sc (.string (y0.cell 6).str)), (T.list (y0.cell 7).lst), (T.list (y0.cell 8).lst), (T.list (y0.cell 9).lst), (T.sc (.complex .f64 (y0.cell 10).re (y0.cell 10).im)), (T.list s2), (T.sc (.int .i64 s1))])]) + List.length r2.1 ≤ 1073741824) && sized 13 r2.1)) (Option.bind (idx true [.int .i64, .str, .str, .int .i64, .int .i64, .int .i64, .str, .list, .list, .list, .cplx .f64] s0 s4) fun y3 =>
Option.bind (b.sutureref8_marks (y3.cell 9).lst s2 s1 r2.2) fun r4 =>
must true ((Nat.beq 13 13 || Nat.beq 13 0) && (decide (List.length ((s3 ++ [(T.agg [(T.sc (.int .i64 (y0.cell 0).int)), (T.sc (.string (y0.cell 1).str)), (T.sc (.string (y0.cell 2).str)), (T.sc (.int .i64 (y0.cell 3).int)), (T.sc (.int .i64 (y0.cell 4).int)), (T.sc (.int .i64 (y0.cell 5).int)), (T.sc (.string (y0.cell 6).str)), (T.list (y0.cell 7).lst), (T.list (y0.cell 8).lst), (T.list (y0.cell 9).lst), (T.sc (.complex .f64 (y0.cell 10).re (y0.cell 10).im)), (T.list s2), (T.sc (.int .i64 s1))])]) ++ r2.1) + List.length r4.1 ≤ 1073741824) && sized 13 r4.1)) (k (s0, s1, s2, (((s3 ++ [(T.agg [(T.sc (.int .i64 (y0.cell 0).int)), (T.sc (.string (y0.cell 1).str)), (T.sc (.string (y0.cell 2).str)), (T.sc (.int .i64 (y0.cell 3).int)), (T.sc (.int .i64 (y0.cell 4).int)), (T.sc (.int .i64 (y0.cell 5).int)), (T.sc (.string (y0.cell 6).str)), (T.list (y0.cell 7).lst), (T.list (y0.cell 8).lst), (T.list (y0.cell 9).lst), (T.sc (.complex .f64 (y0.cell 10).re (y0.cell 10).im)), (T.list s2), (T.sc (.int .i64 s1))])]) ++ r2.1) ++ r4.1), (IntKind.wrap .i64 (s4 + 1)), r4.2)))))
else (
some (s3, s5))
def l_sutureref8_marks_5 (b : B_sutureref8_marks) (n : Nat) : Nat → (List T) × Int × (List T) × (List T) × Int × Int → Option ((List T) × Int)
  | 0, _ => none
  | m + 1, s => l_sutureref8_marks_5_B b n (l_sutureref8_marks_5 b n m) s
def f_sutureref8_marks (b : B_sutureref8_marks) (n : Nat) (a0 : List T) (a1 : List T) (a2 : Int) (a3 : Int) : Option ((List T) × Int) :=
must true ((Nat.beq 1 1 || Nat.beq 1 0) && (decide (List.length ([] : List T) + List.length a1 ≤ 1073741824) && sized 1 a1)) (must true ((Nat.beq 1 1 || Nat.beq 1 0) && (decide (List.length (([] : List T) ++ a1) + List.length [(T.sc (.int .i64 (IntKind.wrap .i64 (a3 + 1))))] ≤ 1073741824) && sized 1 [(T.sc (.int .i64 (IntKind.wrap .i64 (a3 + 1))))])) (Option.bind (l_sutureref8_marks_5 b n n (a0, a2, ((([] : List T) ++ a1) ++ [(T.sc (.int .i64 (IntKind.wrap .i64 (a3 + 1))))]), ([] : List T), 0, (IntKind.wrap .i64 (a3 + 1)))) fun p6 =>
some (p6.1, p6.2)))
def cs_sutureref8_marks (b : B_sutureref8_marks) (hb : B_sutureref8_marks_ok b) (n : Nat) : List (CalF Try.prog) := [⟨d_sutureref8_marks, b.sutureref8_marks, hb.sutureref8_marks⟩]
def L_l_sutureref8_marks_5 : LF := ⟨5, [0, 2, 3, 9, 10, 11], [.list, .int .i64, .ptr 0 0, .own 1, .own 13, .int .i64, .box 1, .int .i64], [⟨(.exit 0), [10], [.own 13, .box 1, .int .i64]⟩]⟩
def ls_sutureref8_marks (b : B_sutureref8_marks) (n : Nat) : List LE := [⟨5, loopS L_l_sutureref8_marks_5 (l_sutureref8_marks_5 b n n)⟩]
theorem l_sutureref8_marks_5_ok (b : B_sutureref8_marks) (hb : B_sutureref8_marks_ok b) (n : Nat) : LoopOk Try.prog (mkSpec (cs_sutureref8_marks b hb n) (ls_sutureref8_marks b n)) 1 65 (loopAt Try.f45 0) := loopOk (L := L_l_sutureref8_marks_5) (f := l_sutureref8_marks_5 b n) (B := l_sutureref8_marks_5_B b n) (k := n) (loopAt_ok sound Try.func45 (by kernel_rfl)) (inner (by kernel_rfl) allN) (innerS (by kernel_rfl) allN) (fun _ => rfl) (fun _ _ => rfl) (by kernel_rfl) (fun _ => by kernel_rfl) (by kernel_rfl) (fun k a => by kernel_rfl)
theorem f_sutureref8_marks_ok (b : B_sutureref8_marks) (hb : B_sutureref8_marks_ok b) (n : Nat) : Ok Try.prog d_sutureref8_marks (f_sutureref8_marks b n) := fnOk sound (cs := cs_sutureref8_marks b hb n) (ls := ls_sutureref8_marks b n) (n := 65) Try.func45 (by kernel_rfl) (fun _ => by kernel_rfl) (inner (by kernel_rfl) (allC (l_sutureref8_marks_5_ok b hb n) allN)) (innerS (by kernel_rfl) allN) (by kernel_rfl) (fun a => by kernel_rfl)
def unB_sutureref8_marks (n : Nat) : Nat → B_sutureref8_marks
  | 0 => { sutureref8_marks := fun _ _ _ _ => none }
  | m + 1 => { sutureref8_marks := f_sutureref8_marks (unB_sutureref8_marks n m) n }
theorem unB_sutureref8_marks_ok (n : Nat) : ∀ m, B_sutureref8_marks_ok (unB_sutureref8_marks n m)
  | 0 => { sutureref8_marks := fun _ _ h => (nomatch (show none = some _ from h)) }
  | m + 1 => { sutureref8_marks := f_sutureref8_marks_ok _ (unB_sutureref8_marks_ok n m) n }
def m_sutureref8_marks (n : Nat) : List T → List T → Int → Int → Option ((List T) × Int) := (unB_sutureref8_marks n n).sutureref8_marks
theorem m_sutureref8_marks_ok (n : Nat) : Ok Try.prog d_sutureref8_marks (m_sutureref8_marks n) := (unB_sutureref8_marks_ok n n).sutureref8_marks


/-! suture/sutureref8.all -/
def l_sutureref8_all_4_B (n : Nat) (k : (List T) × Int × (List T) × (List T) × Int → Option ((List T) × (List T) × (List T) × Int)) : (List T) × Int × (List T) × (List T) × Int → Option ((List T) × (List T) × (List T) × Int) := fun (s0, s1, s2, s3, s4) =>
bif (decide ((s1 : Int) < ((List.length s3 : Nat) : Int))) then (
Option.bind (idx true [.list] s3 s1) fun y0 =>
Option.bind (m_sutureref8_marks n (y0.cell 0).lst ([] : List T) s1 s4) fun r1 =>
must true ((Nat.beq 13 13 || Nat.beq 13 0) && (decide (List.length s0 + List.length r1.1 ≤ 1073741824) && sized 13 r1.1)) (k ((s0 ++ r1.1), (IntKind.wrap .i64 (s1 + 1)), s2, s3, r1.2)))
else (
some (s0, s2, s3, s4))
def l_sutureref8_all_4 (n : Nat) : Nat → (List T) × Int × (List T) × (List T) × Int → Option ((List T) × (List T) × (List T) × Int)
  | 0, _ => none
  | m + 1, s => l_sutureref8_all_4_B n (l_sutureref8_all_4 n m) s
def m_sutureref8_all (n : Nat) (a0 : List T) (a1 : List T) : Option ((List T)) :=
Option.bind (l_sutureref8_all_4 n n (([] : List T), 0, a0, a1, 0)) fun p3 =>
some p3.1
def d_sutureref8_all : FnF := ⟨28, [.agg 2, .list, .list], [.own 13]⟩
def cs_sutureref8_all (n : Nat) : List (CalF Try.prog) := [⟨d_sutureref8_marks, m_sutureref8_marks n, m_sutureref8_marks_ok n⟩]
def L_l_sutureref8_all_4 : LF := ⟨4, [1, 3, 4, 5], [.ptr 0 0, .own 13, .ptr 1 0, .int .i64, .box 2, .list, .list, .box 1, .int .i64], [⟨(.exit 0), [3], [.own 13, .box 2, .list, .list, .box 1, .int .i64]⟩]⟩
def ls_sutureref8_all (n : Nat) : List LE := [⟨4, loopS L_l_sutureref8_all_4 (l_sutureref8_all_4 n n)⟩]
theorem l_sutureref8_all_4_ok (n : Nat) : LoopOk Try.prog (mkSpec (cs_sutureref8_all n) (ls_sutureref8_all n)) 0 23 (loopAt Try.f28 0) := loopOk (L := L_l_sutureref8_all_4) (f := l_sutureref8_all_4 n) (B := l_sutureref8_all_4_B n) (k := n) (loopAt_ok sound Try.func28 (by kernel_rfl)) (inner (by kernel_rfl) allN) (innerS (by kernel_rfl) allN) (fun _ => rfl) (fun _ _ => rfl) (by kernel_rfl) (fun _ => by kernel_rfl) (by kernel_rfl) (fun k a => by kernel_rfl)
theorem m_sutureref8_all_ok (n : Nat) : Ok Try.prog d_sutureref8_all (m_sutureref8_all n) := fnOk sound (cs := cs_sutureref8_all n) (ls := ls_sutureref8_all n) (n := 23) Try.func28 (by kernel_rfl) (fun _ => by kernel_rfl) (inner (by kernel_rfl) (allC (l_sutureref8_all_4_ok n) allN)) (innerS (by kernel_rfl) allN) (by kernel_rfl) (fun a => by kernel_rfl)


/-! suture/sutureref8.within -/
def l_sutureref8_within_2_B (n : Nat) (k : Int × Int × Int × ByteArray × ByteArray × Int × Int × Int × ByteArray × (List T) × (List T) × (List T) × (Nat × Nat) × (List T) × Int → Option (((Bool × Int × ByteArray × ByteArray × Int × Int × Int × ByteArray × (List T) × (List T) × (List T) × (Nat × Nat) × (List T) × Int) ⊕ Int × ByteArray × ByteArray × Int × Int × Int × ByteArray × (List T) × (List T) × (List T) × (Nat × Nat) × (List T) × Int))) : Int × Int × Int × ByteArray × ByteArray × Int × Int × Int × ByteArray × (List T) × (List T) × (List T) × (Nat × Nat) × (List T) × Int → Option (((Bool × Int × ByteArray × ByteArray × Int × Int × Int × ByteArray × (List T) × (List T) × (List T) × (Nat × Nat) × (List T) × Int) ⊕ Int × ByteArray × ByteArray × Int × Int × Int × ByteArray × (List T) × (List T) × (List T) × (Nat × Nat) × (List T) × Int)) := fun (s0, s1, s2, s3, s4, s5, s6, s7, s8, s9, s10, s11, s12, s13, s14) =>
bif (decide ((s1 : Int) < ((List.length s13 : Nat) : Int))) then (
Option.bind (idx true [.int .i64] s13 s1) fun y0 =>
bif (((y0.cell 0).int : Int) == s0) then (
some (Sum.inl (true, s2, s3, s4, s5, s6, s7, s8, s9, s10, s11, s12, s13, s14)))
else (
k (s0, (IntKind.wrap .i64 (s1 + 1)), s2, s3, s4, s5, s6, s7, s8, s9, s10, s11, s12, s13, s14)))
else (
some (Sum.inr (s2, s3, s4, s5, s6, s7, s8, s9, s10, s11, s12, s13, s14)))
def l_sutureref8_within_2 (n : Nat) : Nat → Int × Int × Int × ByteArray × ByteArray × Int × Int × Int × ByteArray × (List T) × (List T) × (List T) × (Nat × Nat) × (List T) × Int → Option (((Bool × Int × ByteArray × ByteArray × Int × Int × Int × ByteArray × (List T) × (List T) × (List T) × (Nat × Nat) × (List T) × Int) ⊕ Int × ByteArray × ByteArray × Int × Int × Int × ByteArray × (List T) × (List T) × (List T) × (Nat × Nat) × (List T) × Int))
  | 0, _ => none
  | m + 1, s => l_sutureref8_within_2_B n (l_sutureref8_within_2 n m) s
def m_sutureref8_within (n : Nat) (a0 : Int) (a1 : Int) (a2 : ByteArray) (a3 : ByteArray) (a4 : Int) (a5 : Int) (a6 : Int) (a7 : ByteArray) (a8 : List T) (a9 : List T) (a10 : List T) (a11 : Nat × Nat) (a12 : List T) (a13 : Int) : Option (Bool) :=
Option.bind (l_sutureref8_within_2 n n (a0, 0, a1, a2, a3, a4, a5, a6, a7, a8, a9, a10, a11, a12, a13)) fun x1 =>
Sum.elim (fun p2 => 
some p2.1) (fun x1' => (fun p3 => 
some false) x1') x1
def d_sutureref8_within : FnF := ⟨46, [.int .i64, .agg 13, .int .i64, .str, .str, .int .i64, .int .i64, .int .i64, .str, .list, .list, .list, .cplx .f64, .list, .int .i64], [.bool]⟩
def cs_sutureref8_within (n : Nat) : List (CalF Try.prog) := []
def L_l_sutureref8_within_2 : LF := ⟨2, [0, 3, 5], [.int .i64, .ptr 0 0, .int .i64, .box 13, .int .i64, .str, .str, .int .i64, .int .i64, .int .i64, .str, .list, .list, .list, .cplx .f64, .list, .int .i64], [⟨.ret, [4], [.bool, .box 13, .int .i64, .str, .str, .int .i64, .int .i64, .int .i64, .str, .list, .list, .list, .cplx .f64, .list, .int .i64]⟩, ⟨(.exit 0), [], [.box 13, .int .i64, .str, .str, .int .i64, .int .i64, .int .i64, .str, .list, .list, .list, .cplx .f64, .list, .int .i64]⟩]⟩
def ls_sutureref8_within (n : Nat) : List LE := [⟨2, loopS L_l_sutureref8_within_2 (l_sutureref8_within_2 n n)⟩]
theorem l_sutureref8_within_2_ok (n : Nat) : LoopOk Try.prog (mkSpec (cs_sutureref8_within n) (ls_sutureref8_within n)) 0 20 (loopAt Try.f46 0) := loopOk (L := L_l_sutureref8_within_2) (f := l_sutureref8_within_2 n) (B := l_sutureref8_within_2_B n) (k := n) (loopAt_ok sound Try.func46 (by kernel_rfl)) (inner (by kernel_rfl) allN) (innerS (by kernel_rfl) allN) (fun _ => rfl) (fun _ _ => rfl) (by kernel_rfl) (fun _ => by kernel_rfl) (by kernel_rfl) (fun k a => by kernel_rfl)
theorem m_sutureref8_within_ok (n : Nat) : Ok Try.prog d_sutureref8_within (m_sutureref8_within n) := fnOk sound (cs := cs_sutureref8_within n) (ls := ls_sutureref8_within n) (n := 20) Try.func46 (by kernel_rfl) (fun _ => by kernel_rfl) (inner (by kernel_rfl) (allC (l_sutureref8_within_2_ok n) allN)) (innerS (by kernel_rfl) allN) (by kernel_rfl) (fun a => by kernel_rfl)


/-! suture/sutureref8.target -/
def l_sutureref8_target_4_B (n : Nat) (k : (List T) × Int × Int → Option (((Int) ⊕ Unit))) : (List T) × Int × Int → Option (((Int) ⊕ Unit)) := fun (s0, s1, s2) =>
bif (decide ((s2 : Int) < ((List.length s0 : Nat) : Int))) then (
Option.bind (idx true [.int .i64, .str, .str, .int .i64, .int .i64, .int .i64, .str, .list, .list, .list, .cplx .f64, .list, .int .i64] s0 s2) fun y1 =>
Option.bind (idx ((((y1.cell 0).int : Int) == 10)) [.int .i64, .str, .str, .int .i64, .int .i64, .int .i64, .str, .list, .list, .list, .cplx .f64, .list, .int .i64] s0 s1) fun y2 =>
Option.bind (idx ((bif (((y1.cell 0).int : Int) == 10) then (ByteArray.toList (y1.cell 1).str == ByteArray.toList (y2.cell 1).str) else false)) [.int .i64, .str, .str, .int .i64, .int .i64, .int .i64, .str, .list, .list, .list, .cplx .f64, .list, .int .i64] s0 s1) fun y3 =>
Option.bind (idx ((bif (bif (((y1.cell 0).int : Int) == 10) then (ByteArray.toList (y1.cell 1).str == ByteArray.toList (y2.cell 1).str) else false) then (((y1.cell 12).int : Int) == (y3.cell 12).int) else false)) [.int .i64] (y1.cell 11).lst (IntKind.wrap .i64 (((List.length (y1.cell 11).lst : Nat) : Int) - 1))) fun y4 =>
Option.bind (idx ((bif (bif (((y1.cell 0).int : Int) == 10) then (ByteArray.toList (y1.cell 1).str == ByteArray.toList (y2.cell 1).str) else false) then (((y1.cell 12).int : Int) == (y3.cell 12).int) else false)) [.int .i64, .str, .str, .int .i64, .int .i64, .int .i64, .str, .list, .list, .list, .cplx .f64, .list, .int .i64] s0 s1) fun y5 =>
Option.bind (bif (bif (bif (((y1.cell 0).int : Int) == 10) then (ByteArray.toList (y1.cell 1).str == ByteArray.toList (y2.cell 1).str) else false) then (((y1.cell 12).int : Int) == (y3.cell 12).int) else false) then m_sutureref8_within n (y4.cell 0).int (y5.cell 0).int (y5.cell 1).str (y5.cell 2).str (y5.cell 3).int (y5.cell 4).int (y5.cell 5).int (y5.cell 6).str (y5.cell 7).lst (y5.cell 8).lst (y5.cell 9).lst ((y5.cell 10).re, (y5.cell 10).im) (y5.cell 11).lst (y5.cell 12).int else some false) fun r6 =>
bif (bif (bif (bif (((y1.cell 0).int : Int) == 10) then (ByteArray.toList (y1.cell 1).str == ByteArray.toList (y2.cell 1).str) else false) then (((y1.cell 12).int : Int) == (y3.cell 12).int) else false) then r6 else false) then (
some (Sum.inl s2))
else (
k (s0, s1, (IntKind.wrap .i64 (s2 + 1)))))
else (
some (Sum.inr ()))
def l_sutureref8_target_4 (n : Nat) : Nat → (List T) × Int × Int → Option (((Int) ⊕ Unit))
  | 0, _ => none
  | m + 1, s => l_sutureref8_target_4_B n (l_sutureref8_target_4 n m) s
def m_sutureref8_target (n : Nat) (a0 : List T) (a1 : Int) : Option (Int) :=
Option.bind (idx (!(bif (decide ((a1 : Int) < 0)) then true else (decide ((a1 : Int) ≥ ((List.length a0 : Nat) : Int))))) [.int .i64, .str, .str, .int .i64, .int .i64, .int .i64, .str, .list, .list, .list, .cplx .f64, .list, .int .i64] a0 a1) fun y0 =>
bif (bif (bif (decide ((a1 : Int) < 0)) then true else (decide ((a1 : Int) ≥ ((List.length a0 : Nat) : Int)))) then true else (((y0.cell 0).int : Int) != 9)) then (
some (-1))
else (
Option.bind (l_sutureref8_target_4 n n (a0, a1, (IntKind.wrap .i64 (a1 + 1)))) fun x7 =>
Sum.elim (fun p8 => 
some p8) (fun x7' => (fun p9 => 
some (-1)) x7') x7)
def d_sutureref8_target : FnF := ⟨29, [.list, .int .i64], [.int .i64]⟩
def cs_sutureref8_target (n : Nat) : List (CalF Try.prog) := [⟨d_sutureref8_within, m_sutureref8_within n, m_sutureref8_within_ok n⟩]
def L_l_sutureref8_target_4 : LF := ⟨4, [0, 1, 5], [.list, .int .i64, .int .i64], [⟨.ret, [4], [.int .i64]⟩, ⟨(.exit 0), [], []⟩]⟩
def ls_sutureref8_target (n : Nat) : List LE := [⟨4, loopS L_l_sutureref8_target_4 (l_sutureref8_target_4 n n)⟩]
theorem l_sutureref8_target_4_ok (n : Nat) : LoopOk Try.prog (mkSpec (cs_sutureref8_target n) (ls_sutureref8_target n)) 0 78 (loopAt Try.f29 0) := loopOk (L := L_l_sutureref8_target_4) (f := l_sutureref8_target_4 n) (B := l_sutureref8_target_4_B n) (k := n) (loopAt_ok sound Try.func29 (by kernel_rfl)) (inner (by kernel_rfl) allN) (innerS (by kernel_rfl) allN) (fun _ => rfl) (fun _ _ => rfl) (by kernel_rfl) (fun _ => by kernel_rfl) (by kernel_rfl) (fun k a => by kernel_rfl)
theorem m_sutureref8_target_ok (n : Nat) : Ok Try.prog d_sutureref8_target (m_sutureref8_target n) := fnOk sound (cs := cs_sutureref8_target n) (ls := ls_sutureref8_target n) (n := 78) Try.func29 (by kernel_rfl) (fun _ => by kernel_rfl) (inner (by kernel_rfl) (allC (l_sutureref8_target_4_ok n) allN)) (innerS (by kernel_rfl) allN) (by kernel_rfl) (fun a => by kernel_rfl)


/-! suture/sutureref8.Jumps -/
def l_sutureref8_Jumps_9_B (n : Nat) (k : (List T) × Int × Int × (List T) × (List T) × Int × ByteArray × ByteArray × Int × Int × Int × ByteArray × (List T) × (List T) × (List T) × (Nat × Nat) × (List T) × Int → Option ((((Nat × Nat) × Int × (List T) × (List T) × Int × ByteArray × ByteArray × Int × Int × Int × ByteArray × (List T) × (List T) × (List T) × (Nat × Nat) × (List T) × Int) ⊕ (List T) × Int × (List T) × (List T) × Int × ByteArray × ByteArray × Int × Int × Int × ByteArray × (List T) × (List T) × (List T) × (Nat × Nat) × (List T) × Int))) : (List T) × Int × Int × (List T) × (List T) × Int × ByteArray × ByteArray × Int × Int × Int × ByteArray × (List T) × (List T) × (List T) × (Nat × Nat) × (List T) × Int → Option ((((Nat × Nat) × Int × (List T) × (List T) × Int × ByteArray × ByteArray × Int × Int × Int × ByteArray × (List T) × (List T) × (List T) × (Nat × Nat) × (List T) × Int) ⊕ (List T) × Int × (List T) × (List T) × Int × ByteArray × ByteArray × Int × Int × Int × ByteArray × (List T) × (List T) × (List T) × (Nat × Nat) × (List T) × Int)) := fun (s0, s1, s2, s3, s4, s5, s6, s7, s8, s9, s10, s11, s12, s13, s14, s15, s16, s17) =>
bif (bif (decide ((s2 : Int) < s1)) then ((s5 : Int) == 10) else false) then (
Option.bind (idx true [.int .i64, .str, .str, .int .i64, .int .i64, .int .i64, .str, .list, .list, .list, .cplx .f64, .list, .int .i64] s0 s2) fun y3 =>
Option.bind (idx ((((y3.cell 0).int : Int) == 10)) [.int .i64, .str, .str, .int .i64, .int .i64, .int .i64, .str, .list, .list, .list, .cplx .f64, .list, .int .i64] s0 s2) fun y4 =>
Option.bind (idx ((bif (((y3.cell 0).int : Int) == 10) then (ByteArray.toList (y4.cell 1).str == ByteArray.toList s6) else false)) [.int .i64, .str, .str, .int .i64, .int .i64, .int .i64, .str, .list, .list, .list, .cplx .f64, .list, .int .i64] s0 s2) fun y5 =>
bif (bif (bif (((y3.cell 0).int : Int) == 10) then (ByteArray.toList (y4.cell 1).str == ByteArray.toList s6) else false) then (((y5.cell 12).int : Int) == s17) else false) then (
some (Sum.inl (s15, 4, s3, s4, s5, s6, s7, s8, s9, s10, s11, s12, s13, s14, s15, s16, s17)))
else (
k (s0, s1, (IntKind.wrap .i64 (s2 + 1)), s3, s4, s5, s6, s7, s8, s9, s10, s11, s12, s13, s14, s15, s16, s17)))
else (
some (Sum.inr (s0, s1, s3, s4, s5, s6, s7, s8, s9, s10, s11, s12, s13, s14, s15, s16, s17)))
def l_sutureref8_Jumps_9 (n : Nat) : Nat → (List T) × Int × Int × (List T) × (List T) × Int × ByteArray × ByteArray × Int × Int × Int × ByteArray × (List T) × (List T) × (List T) × (Nat × Nat) × (List T) × Int → Option ((((Nat × Nat) × Int × (List T) × (List T) × Int × ByteArray × ByteArray × Int × Int × Int × ByteArray × (List T) × (List T) × (List T) × (Nat × Nat) × (List T) × Int) ⊕ (List T) × Int × (List T) × (List T) × Int × ByteArray × ByteArray × Int × Int × Int × ByteArray × (List T) × (List T) × (List T) × (Nat × Nat) × (List T) × Int))
  | 0, _ => none
  | m + 1, s => l_sutureref8_Jumps_9_B n (l_sutureref8_Jumps_9 n m) s
def l_sutureref8_Jumps_3_B (n : Nat) (k : (List T) × Int × (List T) × (List T) → Option ((((Nat × Nat) × Int × (List T) × (List T)) ⊕ (List T) × (List T)))) : (List T) × Int × (List T) × (List T) → Option ((((Nat × Nat) × Int × (List T) × (List T)) ⊕ (List T) × (List T))) := fun (s0, s1, s2, s3) =>
bif (decide ((s1 : Int) < ((List.length s0 : Nat) : Int))) then (
Option.bind (idx true [.int .i64, .str, .str, .int .i64, .int .i64, .int .i64, .str, .list, .list, .list, .cplx .f64, .list, .int .i64] s0 s1) fun y1 =>
Option.bind (bif (((y1.cell 0).int : Int) == 9) then m_sutureref8_target n s0 s1 else some 0) fun r2 =>
bif (bif (((y1.cell 0).int : Int) == 9) then (decide ((r2 : Int) < 0)) else false) then (
some (Sum.inl (((y1.cell 10).re, (y1.cell 10).im), 4, s2, s3)))
else (
Option.bind (l_sutureref8_Jumps_9 n n (s0, s1, 0, s2, s3, (y1.cell 0).int, (y1.cell 1).str, (y1.cell 2).str, (y1.cell 3).int, (y1.cell 4).int, (y1.cell 5).int, (y1.cell 6).str, (y1.cell 7).lst, (y1.cell 8).lst, (y1.cell 9).lst, ((y1.cell 10).re, (y1.cell 10).im), (y1.cell 11).lst, (y1.cell 12).int)) fun x6 =>
Sum.elim (fun p7 => 
some (Sum.inl (p7.1, p7.2.1, p7.2.2.1, p7.2.2.2.1))) (fun x6' => (fun p8 => 
k (p8.1, (IntKind.wrap .i64 (p8.2.1 + 1)), p8.2.2.1, p8.2.2.2.1)) x6') x6))
else (
some (Sum.inr (s2, s3)))
def l_sutureref8_Jumps_3 (n : Nat) : Nat → (List T) × Int × (List T) × (List T) → Option ((((Nat × Nat) × Int × (List T) × (List T)) ⊕ (List T) × (List T)))
  | 0, _ => none
  | m + 1, s => l_sutureref8_Jumps_3_B n (l_sutureref8_Jumps_3 n m) s
def m_sutureref8_Jumps (n : Nat) (a0 : List T) (a1 : List T) : Option ((Nat × Nat) × Int) :=
Option.bind (m_sutureref8_all n a0 a1) fun r0 =>
Option.bind (l_sutureref8_Jumps_3 n n (r0, 0, a0, a1)) fun x9 =>
Sum.elim (fun p10 => 
some (p10.1, p10.2.1)) (fun x9' => (fun p11 => 
some ((0, 0), 0)) x9') x9
def d_sutureref8_Jumps : FnF := ⟨14, [.agg 2, .list, .list], [.tup 2, .cplx .f64, .int .i64]⟩
def cs_sutureref8_Jumps (n : Nat) : List (CalF Try.prog) := [⟨d_sutureref8_all, m_sutureref8_all n, m_sutureref8_all_ok n⟩, ⟨d_sutureref8_target, m_sutureref8_target n, m_sutureref8_target_ok n⟩]
def L_l_sutureref8_Jumps_9 : LF := ⟨9, [4, 5, 6, 7], [.own 13, .int .i64, .ptr 1 0, .int .i64, .box 2, .list, .list, .box 13, .int .i64, .str, .str, .int .i64, .int .i64, .int .i64, .str, .list, .list, .list, .cplx .f64, .list, .int .i64], [⟨.ret, [2, 3], [.cplx .f64, .int .i64, .box 2, .list, .list, .box 13, .int .i64, .str, .str, .int .i64, .int .i64, .int .i64, .str, .list, .list, .list, .cplx .f64, .list, .int .i64]⟩, ⟨(.exit 2), [4, 5], [.own 13, .int .i64, .box 2, .list, .list, .box 13, .int .i64, .str, .str, .int .i64, .int .i64, .int .i64, .str, .list, .list, .list, .cplx .f64, .list, .int .i64]⟩]⟩
def L_l_sutureref8_Jumps_3 : LF := ⟨3, [4, 5], [.own 13, .int .i64, .box 2, .list, .list], [⟨.ret, [2, 3], [.cplx .f64, .int .i64, .box 2, .list, .list]⟩, ⟨(.exit 0), [], [.box 2, .list, .list]⟩]⟩
def ls_sutureref8_Jumps (n : Nat) : List LE := [⟨9, loopS L_l_sutureref8_Jumps_9 (l_sutureref8_Jumps_9 n n)⟩, ⟨3, loopS L_l_sutureref8_Jumps_3 (l_sutureref8_Jumps_3 n n)⟩]
theorem l_sutureref8_Jumps_9_ok (n : Nat) : LoopOk Try.prog (mkSpec (cs_sutureref8_Jumps n) (ls_sutureref8_Jumps n)) 0 76 (loopAt Try.f14 1) := loopOk (L := L_l_sutureref8_Jumps_9) (f := l_sutureref8_Jumps_9 n) (B := l_sutureref8_Jumps_9_B n) (k := n) (loopAt_ok sound Try.func14 (by kernel_rfl)) (inner (by kernel_rfl) allN) (innerS (by kernel_rfl) allN) (fun _ => rfl) (fun _ _ => rfl) (by kernel_rfl) (fun _ => by kernel_rfl) (by kernel_rfl) (fun k a => by kernel_rfl)
theorem l_sutureref8_Jumps_3_ok (n : Nat) : LoopOk Try.prog (mkSpec (cs_sutureref8_Jumps n) (ls_sutureref8_Jumps n)) 0 76 (loopAt Try.f14 0) := loopOk (L := L_l_sutureref8_Jumps_3) (f := l_sutureref8_Jumps_3 n) (B := l_sutureref8_Jumps_3_B n) (k := n) (loopAt_ok sound Try.func14 (by kernel_rfl)) (inner (by kernel_rfl) (allC (l_sutureref8_Jumps_9_ok n) allN)) (innerS (by kernel_rfl) allN) (fun _ => rfl) (fun _ _ => rfl) (by kernel_rfl) (fun _ => by kernel_rfl) (by kernel_rfl) (fun k a => by kernel_rfl)
theorem m_sutureref8_Jumps_ok (n : Nat) : Ok Try.prog d_sutureref8_Jumps (m_sutureref8_Jumps n) := fnOk sound (cs := cs_sutureref8_Jumps n) (ls := ls_sutureref8_Jumps n) (n := 76) Try.func14 (by kernel_rfl) (fun _ => by kernel_rfl) (inner (by kernel_rfl) (allC (l_sutureref8_Jumps_3_ok n) (allC (l_sutureref8_Jumps_9_ok n) allN))) (innerS (by kernel_rfl) allN) (by kernel_rfl) (fun a => by kernel_rfl)


/-! sutureref1_block: a circle -/
structure B_sutureref1_block where
  sutureref1_block : List T → Option ((List T))
def d_sutureref1_block : FnF := ⟨30, [.list], [.own 11]⟩
structure B_sutureref1_block_ok (b : B_sutureref1_block) : Prop where
  sutureref1_block : Ok Try.prog d_sutureref1_block b.sutureref1_block

/-! suture/sutureref1.block -/
def l_sutureref1_block_3_B (b : B_sutureref1_block) (n : Nat) (k : (List T) × (List T) × Int → Option ((List T))) : (List T) × (List T) × Int → Option ((List T)) := fun (s0, s1, s2) =>
bif (decide ((s2 : Int) < ((List.length s0 : Nat) : Int))) then (
Option.bind (idx true [.int .i64, .str, .str, .int .i64, .int .i64, .int .i64, .str, .list, .list, .list, .cplx .f64] s0 s2) fun y0 =>
must true ((Nat.beq 11 11 || Nat.beq 11 0) && (decide (List.length s1 + List.length [(T.agg [(T.sc (.int .i64 (y0.cell 0).int)), (T.sc (.string (y0.cell 1).str)), (T.sc (.string (y0.cell 2).str)), (T.sc (.int .i64 (y0.cell 3).int)), (T.sc (.int .i64 (y0.cell 4).int)), (T.sc (.int .i64 (y0.cell 5).int)), (T.sc (.string (y0.cell 6).str)), (T.list (y0.cell 7).lst), (T.list (y0.cell 8).lst), (T.list (y0.cell 9).lst), (T.sc (.complex .f64 (y0.cell 10).re (y0.cell 10).im))])] ≤ 1073741824) && sized 11 [(T.agg [(T.sc (.int .i64 (y0.cell 0).int)), (T.sc (.string (y0.cell 1).str)), (T.sc (.string (y0.cell 2).str)), (T.sc (.int .i64 (y0.cell 3).int)), (T.sc (.int .i64 (y0.cell 4).int)), (T.sc (.int .i64 (y0.cell 5).int)), (T.sc (.string (y0.cell 6).str)), (T.list (y0.cell 7).lst), (T.list (y0.cell 8).lst), (T.list (y0.cell 9).lst), (T.sc (.complex .f64 (y0.cell 10).re (y0.cell 10).im))])])) (Option.bind (idx true [.int .i64, .str, .str, .int .i64, .int .i64, .int .i64, .str, .list, .list, .list, .cplx .f64] s0 s2) fun y1 =>
Option.bind (b.sutureref1_block (y1.cell 8).lst) fun r2 =>
must true ((Nat.beq 11 11 || Nat.beq 11 0) && (decide (List.length (s1 ++ [(T.agg [(T.sc (.int .i64 (y0.cell 0).int)), (T.sc (.string (y0.cell 1).str)), (T.sc (.string (y0.cell 2).str)), (T.sc (.int .i64 (y0.cell 3).int)), (T.sc (.int .i64 (y0.cell 4).int)), (T.sc (.int .i64 (y0.cell 5).int)), (T.sc (.string (y0.cell 6).str)), (T.list (y0.cell 7).lst), (T.list (y0.cell 8).lst), (T.list (y0.cell 9).lst), (T.sc (.complex .f64 (y0.cell 10).re (y0.cell 10).im))])]) + List.length r2 ≤ 1073741824) && sized 11 r2)) (Option.bind (idx true [.int .i64, .str, .str, .int .i64, .int .i64, .int .i64, .str, .list, .list, .list, .cplx .f64] s0 s2) fun y3 =>
Option.bind (b.sutureref1_block (y3.cell 9).lst) fun r4 =>
must true ((Nat.beq 11 11 || Nat.beq 11 0) && (decide (List.length ((s1 ++ [(T.agg [(T.sc (.int .i64 (y0.cell 0).int)), (T.sc (.string (y0.cell 1).str)), (T.sc (.string (y0.cell 2).str)), (T.sc (.int .i64 (y0.cell 3).int)), (T.sc (.int .i64 (y0.cell 4).int)), (T.sc (.int .i64 (y0.cell 5).int)), (T.sc (.string (y0.cell 6).str)), (T.list (y0.cell 7).lst), (T.list (y0.cell 8).lst), (T.list (y0.cell 9).lst), (T.sc (.complex .f64 (y0.cell 10).re (y0.cell 10).im))])]) ++ r2) + List.length r4 ≤ 1073741824) && sized 11 r4)) (k (s0, (((s1 ++ [(T.agg [(T.sc (.int .i64 (y0.cell 0).int)), (T.sc (.string (y0.cell 1).str)), (T.sc (.string (y0.cell 2).str)), (T.sc (.int .i64 (y0.cell 3).int)), (T.sc (.int .i64 (y0.cell 4).int)), (T.sc (.int .i64 (y0.cell 5).int)), (T.sc (.string (y0.cell 6).str)), (T.list (y0.cell 7).lst), (T.list (y0.cell 8).lst), (T.list (y0.cell 9).lst), (T.sc (.complex .f64 (y0.cell 10).re (y0.cell 10).im))])]) ++ r2) ++ r4), (IntKind.wrap .i64 (s2 + 1)))))))
else (
some s1)
def l_sutureref1_block_3 (b : B_sutureref1_block) (n : Nat) : Nat → (List T) × (List T) × Int → Option ((List T))
  | 0, _ => none
  | m + 1, s => l_sutureref1_block_3_B b n (l_sutureref1_block_3 b n m) s
def f_sutureref1_block (b : B_sutureref1_block) (n : Nat) (a0 : List T) : Option ((List T)) :=
Option.bind (l_sutureref1_block_3 b n n (a0, ([] : List T), 0)) fun p6 =>
some p6
def cs_sutureref1_block (b : B_sutureref1_block) (hb : B_sutureref1_block_ok b) (n : Nat) : List (CalF Try.prog) := [⟨d_sutureref1_block, b.sutureref1_block, hb.sutureref1_block⟩]
def L_l_sutureref1_block_3 : LF := ⟨3, [0, 3, 4], [.list, .own 11, .int .i64], [⟨(.exit 0), [3], [.own 11]⟩]⟩
def ls_sutureref1_block (b : B_sutureref1_block) (n : Nat) : List LE := [⟨3, loopS L_l_sutureref1_block_3 (l_sutureref1_block_3 b n n)⟩]
theorem l_sutureref1_block_3_ok (b : B_sutureref1_block) (hb : B_sutureref1_block_ok b) (n : Nat) : LoopOk Try.prog (mkSpec (cs_sutureref1_block b hb n) (ls_sutureref1_block b n)) 0 35 (loopAt Try.f30 0) := loopOk (L := L_l_sutureref1_block_3) (f := l_sutureref1_block_3 b n) (B := l_sutureref1_block_3_B b n) (k := n) (loopAt_ok sound Try.func30 (by kernel_rfl)) (inner (by kernel_rfl) allN) (innerS (by kernel_rfl) allN) (fun _ => rfl) (fun _ _ => rfl) (by kernel_rfl) (fun _ => by kernel_rfl) (by kernel_rfl) (fun k a => by kernel_rfl)
theorem f_sutureref1_block_ok (b : B_sutureref1_block) (hb : B_sutureref1_block_ok b) (n : Nat) : Ok Try.prog d_sutureref1_block (f_sutureref1_block b n) := fnOk sound (cs := cs_sutureref1_block b hb n) (ls := ls_sutureref1_block b n) (n := 35) Try.func30 (by kernel_rfl) (fun _ => by kernel_rfl) (inner (by kernel_rfl) (allC (l_sutureref1_block_3_ok b hb n) allN)) (innerS (by kernel_rfl) allN) (by kernel_rfl) (fun a => by kernel_rfl)
def unB_sutureref1_block (n : Nat) : Nat → B_sutureref1_block
  | 0 => { sutureref1_block := fun _ => none }
  | m + 1 => { sutureref1_block := f_sutureref1_block (unB_sutureref1_block n m) n }
theorem unB_sutureref1_block_ok (n : Nat) : ∀ m, B_sutureref1_block_ok (unB_sutureref1_block n m)
  | 0 => { sutureref1_block := fun _ _ h => (nomatch (show none = some _ from h)) }
  | m + 1 => { sutureref1_block := f_sutureref1_block_ok _ (unB_sutureref1_block_ok n m) n }
def m_sutureref1_block (n : Nat) : List T → Option ((List T)) := (unB_sutureref1_block n n).sutureref1_block
theorem m_sutureref1_block_ok (n : Nat) : Ok Try.prog d_sutureref1_block (m_sutureref1_block n) := (unB_sutureref1_block_ok n n).sutureref1_block


/-! suture/sutureref1.List -/
def l_sutureref1_List_3_B (n : Nat) (k : (List T) × Int × (List T) × (List T) → Option ((List T) × (List T) × (List T))) : (List T) × Int × (List T) × (List T) → Option ((List T) × (List T) × (List T)) := fun (s0, s1, s2, s3) =>
bif (decide ((s1 : Int) < ((List.length s3 : Nat) : Int))) then (
Option.bind (idx true [.list] s3 s1) fun y0 =>
Option.bind (m_sutureref1_block n (y0.cell 0).lst) fun r1 =>
must true ((Nat.beq 11 11 || Nat.beq 11 0) && (decide (List.length s0 + List.length r1 ≤ 1073741824) && sized 11 r1)) (k ((s0 ++ r1), (IntKind.wrap .i64 (s1 + 1)), s2, s3)))
else (
some (s0, s2, s3))
def l_sutureref1_List_3 (n : Nat) : Nat → (List T) × Int × (List T) × (List T) → Option ((List T) × (List T) × (List T))
  | 0, _ => none
  | m + 1, s => l_sutureref1_List_3_B n (l_sutureref1_List_3 n m) s
def m_sutureref1_List (n : Nat) (a0 : List T) (a1 : List T) : Option ((List T)) :=
Option.bind (l_sutureref1_List_3 n n (([] : List T), 0, a0, a1)) fun p3 =>
some p3.1
def d_sutureref1_List : FnF := ⟨15, [.agg 2, .list, .list], [.own 11]⟩
def cs_sutureref1_List (n : Nat) : List (CalF Try.prog) := [⟨d_sutureref1_block, m_sutureref1_block n, m_sutureref1_block_ok n⟩]
def L_l_sutureref1_List_3 : LF := ⟨3, [1, 3, 4], [.ptr 0 0, .own 11, .int .i64, .box 2, .list, .list], [⟨(.exit 0), [3], [.own 11, .box 2, .list, .list]⟩]⟩
def ls_sutureref1_List (n : Nat) : List LE := [⟨3, loopS L_l_sutureref1_List_3 (l_sutureref1_List_3 n n)⟩]
theorem l_sutureref1_List_3_ok (n : Nat) : LoopOk Try.prog (mkSpec (cs_sutureref1_List n) (ls_sutureref1_List n)) 0 21 (loopAt Try.f15 0) := loopOk (L := L_l_sutureref1_List_3) (f := l_sutureref1_List_3 n) (B := l_sutureref1_List_3_B n) (k := n) (loopAt_ok sound Try.func15 (by kernel_rfl)) (inner (by kernel_rfl) allN) (innerS (by kernel_rfl) allN) (fun _ => rfl) (fun _ _ => rfl) (by kernel_rfl) (fun _ => by kernel_rfl) (by kernel_rfl) (fun k a => by kernel_rfl)
theorem m_sutureref1_List_ok (n : Nat) : Ok Try.prog d_sutureref1_List (m_sutureref1_List n) := fnOk sound (cs := cs_sutureref1_List n) (ls := ls_sutureref1_List n) (n := 21) Try.func15 (by kernel_rfl) (fun _ => by kernel_rfl) (inner (by kernel_rfl) (allC (l_sutureref1_List_3_ok n) allN)) (innerS (by kernel_rfl) allN) (by kernel_rfl) (fun a => by kernel_rfl)


/-! suture/jumps.Target -/
def m_jumps_Target (n : Nat) (a0 : List T) (a1 : List T) (a2 : Int) : Option (Int) :=
Option.bind (m_jumps_all n a0 a1) fun r0 =>
Option.bind (m_jumps_target n r0 a2) fun r1 =>
some r1
def d_jumps_Target : FnF := ⟨11, [.agg 2, .list, .list, .int .i64], [.int .i64]⟩
theorem m_jumps_Target_ok (n : Nat) : Ok Try.prog d_jumps_Target (m_jumps_Target n) := fnOk0 sound [⟨d_jumps_all, m_jumps_all n, m_jumps_all_ok n⟩, ⟨d_jumps_target, m_jumps_target n, m_jumps_target_ok n⟩] Try.func11 (by kernel_rfl) (fun a => by kernel_rfl)


/-! suture/sutureref8.Target -/
def m_sutureref8_Target (n : Nat) (a0 : List T) (a1 : List T) (a2 : Int) : Option (Int) :=
Option.bind (m_sutureref8_all n a0 a1) fun r0 =>
Option.bind (m_sutureref8_target n r0 a2) fun r1 =>
some r1
def d_sutureref8_Target : FnF := ⟨16, [.agg 2, .list, .list, .int .i64], [.int .i64]⟩
theorem m_sutureref8_Target_ok (n : Nat) : Ok Try.prog d_sutureref8_Target (m_sutureref8_Target n) := fnOk0 sound [⟨d_sutureref8_all, m_sutureref8_all n, m_sutureref8_all_ok n⟩, ⟨d_sutureref8_target, m_sutureref8_target n, m_sutureref8_target_ok n⟩] Try.func16 (by kernel_rfl) (fun a => by kernel_rfl)


/-! suture/suturelaw9.known -/
def m_suturelaw9_known (n : Nat) : Option (Bool) :=
Option.bind (m_suturelaw9_read n (⟨#[103, 111, 123, 103, 111, 116, 111, 32, 97, 32, 108, 97, 98, 101, 108, 32, 97, 125]⟩ : ByteArray)) fun r0 =>
Option.bind (m_jumps_Check n r0.1 r0.2) fun r1 =>
Option.bind (m_suturelaw9_read n (⟨#[103, 111, 123, 108, 97, 98, 101, 108, 32, 97, 32, 103, 111, 116, 111, 32, 97, 125]⟩ : ByteArray)) fun r2 =>
Option.bind (m_jumps_Check n r2.1 r2.2) fun r3 =>
some (bif (bif ((r1.2 : Int) == 0) then ((r3.2 : Int) == 4) else false) then (cplxEq .f64 r3.1.1 r3.1.2 4607182418800017408 4622945017495814144) else false)
def d_suturelaw9_known : FnF := ⟨10, [], [.bool]⟩
theorem m_suturelaw9_known_ok (n : Nat) : Ok Try.prog d_suturelaw9_known (m_suturelaw9_known n) := fnOk0 sound [⟨d_suturelaw9_read, m_suturelaw9_read n, m_suturelaw9_read_ok n⟩, ⟨d_jumps_Check, m_jumps_Check n, m_jumps_Check_ok n⟩] Try.func10 (by kernel_rfl) (fun a => by kernel_rfl)


/-! suture/suturelaw9.JumpsTells -/
def l_suturelaw9_JumpsTells_7_B (n : Nat) (k : (Nat × Nat) × Int × (Nat × Nat) × Int × Int × (List T) × (List T) → Option (((Bool × (List T) × (List T)) ⊕ (Nat × Nat) × Int × (Nat × Nat) × Int × (List T) × (List T)))) : (Nat × Nat) × Int × (Nat × Nat) × Int × Int × (List T) × (List T) → Option (((Bool × (List T) × (List T)) ⊕ (Nat × Nat) × Int × (Nat × Nat) × Int × (List T) × (List T))) := fun (s0, s1, s2, s3, s4, s5, s6) =>
Option.bind (m_sutureref1_List n s5 s6) fun r4 =>
bif (decide ((s4 : Int) < (IntKind.wrap .i64 (((List.length r4 : Nat) : Int) + 1)))) then (
Option.bind (m_jumps_Target n s5 s6 s4) fun r5 =>
Option.bind (m_sutureref8_Target n s5 s6 s4) fun r6 =>
bif ((r5 : Int) != r6) then (
some (Sum.inl (false, s5, s6)))
else (
k (s0, s1, s2, s3, (IntKind.wrap .i64 (s4 + 1)), s5, s6)))
else (
some (Sum.inr (s0, s1, s2, s3, s5, s6)))
def l_suturelaw9_JumpsTells_7 (n : Nat) : Nat → (Nat × Nat) × Int × (Nat × Nat) × Int × Int × (List T) × (List T) → Option (((Bool × (List T) × (List T)) ⊕ (Nat × Nat) × Int × (Nat × Nat) × Int × (List T) × (List T)))
  | 0, _ => none
  | m + 1, s => l_suturelaw9_JumpsTells_7_B n (l_suturelaw9_JumpsTells_7 n m) s
def m_suturelaw9_JumpsTells (n : Nat) (a0 : List T) (a1 : Int) (a2 : List T) (a3 : List T) (a4 : Bool) : Option (Bool) :=
Option.bind (m_suturelaw9_deep n a0) fun r0 =>
bif a4 then (
Option.bind (m_suturehand_Prog n a1 a2 a3 ([] : List T) 6) fun r1 =>
Option.bind (m_jumps_Check n r1.1 r1.2) fun r2 =>
Option.bind (m_sutureref8_Jumps n r1.1 r1.2) fun r3 =>
Option.bind (l_suturelaw9_JumpsTells_7 n n (r2.1, r2.2, r3.1, r3.2, (-1), r1.1, r1.2)) fun x7 =>
Sum.elim (fun p8 => 
some p8.1) (fun x7' => (fun p9 => 
Option.bind (m_suturelaw9_known n) fun r10 =>
some (bif (bif r10 then (cplxEq .f64 p9.1.1 p9.1.2 p9.2.2.1.1 p9.2.2.1.2) else false) then ((p9.2.1 : Int) == p9.2.2.2.1) else false)) x7') x7)
else (
Option.bind (m_jumps_Check n r0.1 r0.2) fun r11 =>
Option.bind (m_sutureref8_Jumps n r0.1 r0.2) fun r12 =>
Option.bind (l_suturelaw9_JumpsTells_7 n n (r11.1, r11.2, r12.1, r12.2, (-1), r0.1, r0.2)) fun x13 =>
Sum.elim (fun p14 => 
some p14.1) (fun x13' => (fun p15 => 
Option.bind (m_suturelaw9_known n) fun r16 =>
some (bif (bif r16 then (cplxEq .f64 p15.1.1 p15.1.2 p15.2.2.1.1 p15.2.2.1.2) else false) then ((p15.2.1 : Int) == p15.2.2.2.1) else false)) x13') x13)
def d_suturelaw9_JumpsTells : FnF := ⟨4, [.list, .int .i64, .list, .list, .bool], [.bool]⟩
def cs_suturelaw9_JumpsTells (n : Nat) : List (CalF Try.prog) := [⟨d_suturelaw9_deep, m_suturelaw9_deep n, m_suturelaw9_deep_ok n⟩, ⟨d_suturehand_Prog, m_suturehand_Prog n, m_suturehand_Prog_ok n⟩, ⟨d_jumps_Check, m_jumps_Check n, m_jumps_Check_ok n⟩, ⟨d_sutureref8_Jumps, m_sutureref8_Jumps n, m_sutureref8_Jumps_ok n⟩, ⟨d_sutureref1_List, m_sutureref1_List n, m_sutureref1_List_ok n⟩, ⟨d_jumps_Target, m_jumps_Target n, m_jumps_Target_ok n⟩, ⟨d_sutureref8_Target, m_sutureref8_Target n, m_sutureref8_Target_ok n⟩, ⟨d_suturelaw9_known, m_suturelaw9_known n, m_suturelaw9_known_ok n⟩]
def L_l_suturelaw9_JumpsTells_7 : LF := ⟨7, [11, 12, 13, 14, 15, 16], [.ptr 0 0, .cplx .f64, .int .i64, .cplx .f64, .int .i64, .int .i64, .box 2, .list, .list], [⟨.ret, [10], [.bool, .box 2, .list, .list]⟩, ⟨(.exit 0), [12, 13, 14, 15], [.cplx .f64, .int .i64, .cplx .f64, .int .i64, .box 2, .list, .list]⟩]⟩
def ls_suturelaw9_JumpsTells (n : Nat) : List LE := [⟨7, loopS L_l_suturelaw9_JumpsTells_7 (l_suturelaw9_JumpsTells_7 n n)⟩]
theorem l_suturelaw9_JumpsTells_7_ok (n : Nat) : LoopOk Try.prog (mkSpec (cs_suturelaw9_JumpsTells n) (ls_suturelaw9_JumpsTells n)) 0 60 (loopAt Try.f4 0) := loopOk (L := L_l_suturelaw9_JumpsTells_7) (f := l_suturelaw9_JumpsTells_7 n) (B := l_suturelaw9_JumpsTells_7_B n) (k := n) (loopAt_ok sound Try.func4 (by kernel_rfl)) (inner (by kernel_rfl) allN) (innerS (by kernel_rfl) allN) (fun _ => rfl) (fun _ _ => rfl) (by kernel_rfl) (fun _ => by kernel_rfl) (by kernel_rfl) (fun k a => by kernel_rfl)
theorem m_suturelaw9_JumpsTells_ok (n : Nat) : Ok Try.prog d_suturelaw9_JumpsTells (m_suturelaw9_JumpsTells n) := fnOk sound (cs := cs_suturelaw9_JumpsTells n) (ls := ls_suturelaw9_JumpsTells n) (n := 60) Try.func4 (by kernel_rfl) (fun _ => by kernel_rfl) (inner (by kernel_rfl) (allC (l_suturelaw9_JumpsTells_7_ok n) allN)) (innerS (by kernel_rfl) allN) (by kernel_rfl) (fun a => by kernel_rfl)


/-! suture/suturelaw9.JumpsEnd -/
def l_suturelaw9_JumpsEnd_4_B (n : Nat) (k : (List T) × ByteArray × Int × Int → Option (ByteArray × Int)) : (List T) × ByteArray × Int × Int → Option (ByteArray × Int) := fun (s0, s1, s2, s3) =>
bif (bif (decide ((s3 : Int) < ((List.length s0 : Nat) : Int))) then (decide ((s3 : Int) < 30)) else false) then (
Option.bind (idx true [.int .i64] s0 s3) fun y0 =>
Option.bind (m_suturehand_Pick n (y0.cell 0).int 8) fun r1 =>
bif (decide ((r1 : Int) < 4)) then (
must true (decide (((ByteArray.size s1 + ByteArray.size (⟨#[32, 103, 111, 116, 111, 32]⟩ : ByteArray) : Nat) : Int) ≤ IntKind.i64.max)) (Option.bind (idx true [.int .i64] s0 s3) fun y2 =>
must true (!decide (8 = 0)) (Option.bind (m_suturehand_Pick n (IntKind.wrap .i64 (Int.tdiv (y2.cell 0).int 8)) 3) fun r3 =>
Option.bind (idx1 true (.str) [(T.sc (.string (⟨#[97]⟩ : ByteArray))), (T.sc (.string (⟨#[98]⟩ : ByteArray))), (T.sc (.string (⟨#[101]⟩ : ByteArray)))] r3) fun y4 =>
must true (decide (((ByteArray.size (s1 ++ (⟨#[32, 103, 111, 116, 111, 32]⟩ : ByteArray)) + ByteArray.size y4.str : Nat) : Int) ≤ IntKind.i64.max)) (k (s0, ((s1 ++ (⟨#[32, 103, 111, 116, 111, 32]⟩ : ByteArray)) ++ y4.str), s2, (IntKind.wrap .i64 (s3 + 1)))))))
else (
bif (bif (decide ((r1 : Int) < 6)) then (decide ((s2 : Int) < 6)) else false) then (
must true (decide (((ByteArray.size s1 + ByteArray.size (⟨#[32, 105, 102, 32, 49, 32, 123]⟩ : ByteArray) : Nat) : Int) ≤ IntKind.i64.max)) (k (s0, (s1 ++ (⟨#[32, 105, 102, 32, 49, 32, 123]⟩ : ByteArray)), (IntKind.wrap .i64 (s2 + 1)), (IntKind.wrap .i64 (s3 + 1)))))
else (
bif (decide ((s2 : Int) > 0)) then (
must true (decide (((ByteArray.size s1 + ByteArray.size (⟨#[125]⟩ : ByteArray) : Nat) : Int) ≤ IntKind.i64.max)) (k (s0, (s1 ++ (⟨#[125]⟩ : ByteArray)), (IntKind.wrap .i64 (s2 - 1)), (IntKind.wrap .i64 (s3 + 1)))))
else (
k (s0, s1, s2, (IntKind.wrap .i64 (s3 + 1)))))))
else (
some (s1, s2))
def l_suturelaw9_JumpsEnd_4 (n : Nat) : Nat → (List T) × ByteArray × Int × Int → Option (ByteArray × Int)
  | 0, _ => none
  | m + 1, s => l_suturelaw9_JumpsEnd_4_B n (l_suturelaw9_JumpsEnd_4 n m) s
def l_suturelaw9_JumpsEnd_15_B (n : Nat) (k : ByteArray × Int → Option (ByteArray)) : ByteArray × Int → Option (ByteArray) := fun (s0, s1) =>
bif (decide ((s1 : Int) > 0)) then (
must true (decide (((ByteArray.size s0 + ByteArray.size (⟨#[125]⟩ : ByteArray) : Nat) : Int) ≤ IntKind.i64.max)) (k ((s0 ++ (⟨#[125]⟩ : ByteArray)), (IntKind.wrap .i64 (s1 - 1)))))
else (
some s0)
def l_suturelaw9_JumpsEnd_15 (n : Nat) : Nat → ByteArray × Int → Option (ByteArray)
  | 0, _ => none
  | m + 1, s => l_suturelaw9_JumpsEnd_15_B n (l_suturelaw9_JumpsEnd_15 n m) s
def l_suturelaw9_JumpsEnd_23_B (n : Nat) (k : Int × Int × (List T) × Int × Int × (List T) × (List T) → Option (((Bool × (List T) × (List T)) ⊕ Int × Int × (List T) × (List T)))) : Int × Int × (List T) × Int × Int × (List T) × (List T) → Option (((Bool × (List T) × (List T)) ⊕ Int × Int × (List T) × (List T))) := fun (s0, s1, s2, s3, s4, s5, s6) =>
bif (decide ((s4 : Int) < s3)) then (
Option.bind (idx true [.int .i64, .str, .str, .int .i64, .int .i64, .int .i64, .str, .list, .list, .list, .cplx .f64] s2 s4) fun y12 =>
bif (((y12.cell 0).int : Int) == 9) then (
bif (ByteArray.toList (y12.cell 1).str == ByteArray.toList (⟨#[98]⟩ : ByteArray)) then (
bif (ByteArray.toList (y12.cell 1).str == ByteArray.toList (⟨#[101]⟩ : ByteArray)) then (
Option.bind (m_jumps_Target n s5 s6 s4) fun r13 =>
bif ((r13 : Int) != (IntKind.wrap .i64 (s0 - 1))) then (
some (Sum.inl (false, s5, s6)))
else (
k (s0, s1, s2, s3, (IntKind.wrap .i64 (s4 + 1)), s5, s6)))
else (
Option.bind (m_jumps_Target n s5 s6 s4) fun r14 =>
bif ((r14 : Int) != (IntKind.wrap .i64 (s0 - 2))) then (
some (Sum.inl (false, s5, s6)))
else (
k (s0, s1, s2, s3, (IntKind.wrap .i64 (s4 + 1)), s5, s6))))
else (
bif (ByteArray.toList (y12.cell 1).str == ByteArray.toList (⟨#[101]⟩ : ByteArray)) then (
Option.bind (m_jumps_Target n s5 s6 s4) fun r15 =>
bif ((r15 : Int) != (IntKind.wrap .i64 (s0 - 1))) then (
some (Sum.inl (false, s5, s6)))
else (
k (s0, s1, s2, s3, (IntKind.wrap .i64 (s4 + 1)), s5, s6)))
else (
Option.bind (m_jumps_Target n s5 s6 s4) fun r16 =>
bif ((r16 : Int) != (IntKind.wrap .i64 (s0 - 3))) then (
some (Sum.inl (false, s5, s6)))
else (
k (s0, s1, s2, s3, (IntKind.wrap .i64 (s4 + 1)), s5, s6)))))
else (
Option.bind (m_jumps_Target n s5 s6 s4) fun r17 =>
bif ((r17 : Int) != (-1)) then (
some (Sum.inl (false, s5, s6)))
else (
k (s0, s1, s2, s3, (IntKind.wrap .i64 (s4 + 1)), s5, s6))))
else (
some (Sum.inr (s0, s1, s5, s6)))
def l_suturelaw9_JumpsEnd_23 (n : Nat) : Nat → Int × Int × (List T) × Int × Int × (List T) × (List T) → Option (((Bool × (List T) × (List T)) ⊕ Int × Int × (List T) × (List T)))
  | 0, _ => none
  | m + 1, s => l_suturelaw9_JumpsEnd_23_B n (l_suturelaw9_JumpsEnd_23 n m) s
def m_suturelaw9_JumpsEnd (n : Nat) (a0 : List T) : Option (Bool) :=
Option.bind (l_suturelaw9_JumpsEnd_4 n n (a0, (⟨#[103, 111, 123]⟩ : ByteArray), 0, 0)) fun p6 =>
Option.bind (l_suturelaw9_JumpsEnd_15 n n (p6.1, p6.2)) fun p8 =>
must true (decide (((ByteArray.size p8 + ByteArray.size (⟨#[32, 108, 97, 98, 101, 108, 32, 97, 32, 108, 97, 98, 101, 108, 32, 98, 32, 108, 97, 98, 101, 108, 32, 101, 125]⟩ : ByteArray) : Nat) : Int) ≤ IntKind.i64.max)) (Option.bind (m_suturelaw9_read n (p8 ++ (⟨#[32, 108, 97, 98, 101, 108, 32, 97, 32, 108, 97, 98, 101, 108, 32, 98, 32, 108, 97, 98, 101, 108, 32, 101, 125]⟩ : ByteArray))) fun r9 =>
Option.bind (m_sutureref1_List n r9.1 r9.2) fun r10 =>
Option.bind (m_jumps_Check n r9.1 r9.2) fun r11 =>
Option.bind (l_suturelaw9_JumpsEnd_23 n n (((List.length r10 : Nat) : Int), r11.2, r10, ((List.length r10 : Nat) : Int), 0, r9.1, r9.2)) fun x18 =>
Sum.elim (fun p19 => 
some p19.1) (fun x18' => (fun p20 => 
Option.bind (m_suturelaw9_known n) fun r21 =>
some (bif (bif r21 then ((p20.2.1 : Int) == 0) else false) then (decide ((p20.1 : Int) ≥ 3)) else false)) x18') x18)
def d_suturelaw9_JumpsEnd : FnF := ⟨6, [.list], [.bool]⟩
def cs_suturelaw9_JumpsEnd (n : Nat) : List (CalF Try.prog) := [⟨d_suturehand_Pick, m_suturehand_Pick n, m_suturehand_Pick_ok n⟩, ⟨d_suturelaw9_read, m_suturelaw9_read n, m_suturelaw9_read_ok n⟩, ⟨d_sutureref1_List, m_sutureref1_List n, m_sutureref1_List_ok n⟩, ⟨d_jumps_Check, m_jumps_Check n, m_jumps_Check_ok n⟩, ⟨d_jumps_Target, m_jumps_Target n, m_jumps_Target_ok n⟩, ⟨d_suturelaw9_known, m_suturelaw9_known n, m_suturelaw9_known_ok n⟩]
def L_l_suturelaw9_JumpsEnd_4 : LF := ⟨4, [0, 3, 4, 5], [.list, .str, .int .i64, .int .i64], [⟨(.exit 0), [3, 4], [.str, .int .i64]⟩]⟩
def L_l_suturelaw9_JumpsEnd_15 : LF := ⟨15, [3, 4], [.str, .int .i64], [⟨(.exit 3), [3], [.str]⟩]⟩
def L_l_suturelaw9_JumpsEnd_23 : LF := ⟨23, [7, 9, 11, 80, 81, 82], [.ptr 0 0, .int .i64, .int .i64, .list, .int .i64, .int .i64, .box 2, .list, .list], [⟨.ret, [2], [.bool, .box 2, .list, .list]⟩, ⟨(.exit 5), [9, 11], [.int .i64, .int .i64, .box 2, .list, .list]⟩]⟩
def ls_suturelaw9_JumpsEnd (n : Nat) : List LE := [⟨4, loopS L_l_suturelaw9_JumpsEnd_4 (l_suturelaw9_JumpsEnd_4 n n)⟩, ⟨15, loopS L_l_suturelaw9_JumpsEnd_15 (l_suturelaw9_JumpsEnd_15 n n)⟩, ⟨23, loopS L_l_suturelaw9_JumpsEnd_23 (l_suturelaw9_JumpsEnd_23 n n)⟩]
theorem l_suturelaw9_JumpsEnd_4_ok (n : Nat) : LoopOk Try.prog (mkSpec (cs_suturelaw9_JumpsEnd n) (ls_suturelaw9_JumpsEnd n)) 0 117 (loopAt Try.f6 0) := loopOk (L := L_l_suturelaw9_JumpsEnd_4) (f := l_suturelaw9_JumpsEnd_4 n) (B := l_suturelaw9_JumpsEnd_4_B n) (k := n) (loopAt_ok sound Try.func6 (by kernel_rfl)) (inner (by kernel_rfl) allN) (innerS (by kernel_rfl) allN) (fun _ => rfl) (fun _ _ => rfl) (by kernel_rfl) (fun _ => by kernel_rfl) (by kernel_rfl) (fun k a => by kernel_rfl)
theorem l_suturelaw9_JumpsEnd_15_ok (n : Nat) : LoopOk Try.prog (mkSpec (cs_suturelaw9_JumpsEnd n) (ls_suturelaw9_JumpsEnd n)) 0 117 (loopAt Try.f6 1) := loopOk (L := L_l_suturelaw9_JumpsEnd_15) (f := l_suturelaw9_JumpsEnd_15 n) (B := l_suturelaw9_JumpsEnd_15_B n) (k := n) (loopAt_ok sound Try.func6 (by kernel_rfl)) (inner (by kernel_rfl) allN) (innerS (by kernel_rfl) allN) (fun _ => rfl) (fun _ _ => rfl) (by kernel_rfl) (fun _ => by kernel_rfl) (by kernel_rfl) (fun k a => by kernel_rfl)
theorem l_suturelaw9_JumpsEnd_23_ok (n : Nat) : LoopOk Try.prog (mkSpec (cs_suturelaw9_JumpsEnd n) (ls_suturelaw9_JumpsEnd n)) 0 117 (loopAt Try.f6 2) := loopOk (L := L_l_suturelaw9_JumpsEnd_23) (f := l_suturelaw9_JumpsEnd_23 n) (B := l_suturelaw9_JumpsEnd_23_B n) (k := n) (loopAt_ok sound Try.func6 (by kernel_rfl)) (inner (by kernel_rfl) allN) (innerS (by kernel_rfl) allN) (fun _ => rfl) (fun _ _ => rfl) (by kernel_rfl) (fun _ => by kernel_rfl) (by kernel_rfl) (fun k a => by kernel_rfl)
theorem m_suturelaw9_JumpsEnd_ok (n : Nat) : Ok Try.prog d_suturelaw9_JumpsEnd (m_suturelaw9_JumpsEnd n) := fnOk sound (cs := cs_suturelaw9_JumpsEnd n) (ls := ls_suturelaw9_JumpsEnd n) (n := 117) Try.func6 (by kernel_rfl) (fun _ => by kernel_rfl) (inner (by kernel_rfl) (allC (l_suturelaw9_JumpsEnd_4_ok n) (allC (l_suturelaw9_JumpsEnd_15_ok n) (allC (l_suturelaw9_JumpsEnd_23_ok n) allN)))) (innerS (by kernel_rfl) allN) (by kernel_rfl) (fun a => by kernel_rfl)

end Go.Proofs.Ytgpokdaacbjimab.W
