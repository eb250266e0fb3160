/- What the engine's walk comes to, printed by a program of this work: for each function its model, and that it is one. No conditions. -/
import Derived.Test.YtbcgpjlkkcdmmaaGreatDoorS3
namespace Go.Proofs.YtbcgpjlkkcdmmaaGreatDoor.W
open Go Go.Eng
set_option linter.unusedVariables false
set_option linter.unusedSimpArgs false
set_option maxRecDepth 100000
noncomputable section
def m_z50 (n : Nat) (a0 : ByteArray) : Option (Bool) :=
Option.bind (m_z4 n [(T.sc (.string (⟨#[118, 97, 114]⟩ : ByteArray))), (T.sc (.string (⟨#[119, 105, 100, 101]⟩ : ByteArray))), (T.sc (.string (⟨#[97, 116, 111, 109, 105, 99]⟩ : ByteArray))), (T.sc (.string (⟨#[108, 111, 99, 97, 108]⟩ : ByteArray))), (T.sc (.string (⟨#[109, 117, 116, 101, 120]⟩ : ByteArray))), (T.sc (.string (⟨#[99, 104, 97, 110]⟩ : ByteArray))), (T.sc (.string (⟨#[103, 111]⟩ : ByteArray))), (T.sc (.string (⟨#[108, 111, 99, 107]⟩ : ByteArray))), (T.sc (.string (⟨#[117, 110, 108, 111, 99, 107]⟩ : ByteArray))), (T.sc (.string (⟨#[115, 101, 110, 100]⟩ : ByteArray))), (T.sc (.string (⟨#[114, 101, 99, 118]⟩ : ByteArray))), (T.sc (.string (⟨#[112, 114, 105, 110, 116]⟩ : ByteArray))), (T.sc (.string (⟨#[105, 102]⟩ : ByteArray))), (T.sc (.string (⟨#[101, 108, 115, 101]⟩ : ByteArray))), (T.sc (.string (⟨#[114, 101, 112, 101, 97, 116]⟩ : ByteArray))), (T.sc (.string (⟨#[103, 111, 116, 111]⟩ : ByteArray))), (T.sc (.string (⟨#[108, 97, 98, 101, 108]⟩ : ByteArray)))] a0) fun r0 =>
some r0
def enc_z50 (r : Bool) : V := (V.t (T.sc (.bool r)))
def encS_z50 (r : Bool) : Sig := []
def ok_z50 (m : ByteArray -> Option (Bool)) : Prop := ∀ (a0 : ByteArray) (r : Bool), m a0 = some r -> FuncOk Tryz.prog 167 [(V.t (T.sc (.string a0)))] [] (enc_z50 r) (encS_z50 r)
def c_z50 (m : ByteArray -> Option (Bool)) (vs : List V) (sg : Sig) : Option CallM := bif Nat.beq vs.length 1 && Nat.beq sg.length 0 then Option.bind (V.strOf (vs.getD 0 .any)) fun u0 => some { α := Bool, m := m u0, dflt := false, enc := fun y => ((V.t (T.sc (.bool y))), []) } else none
theorem c_z50_ok (m : ByteArray -> Option (Bool)) (hm : ok_z50 m) (vs : List V) (sg : Sig) (cm : CallM) (x : cm.α) (h : c_z50 m vs sg = some cm) (hx : cm.m = some x) : FuncOk Tryz.prog 167 vs sg (cm.enc x).1 (cm.enc x).2 := by
 unfold c_z50 at h
 obtain ⟨hl, hs, h⟩ := callee_sig h
 obtain ⟨u0, hu0, h⟩ := ob h
 cases h
 exact (hm u0 x hx).wk (args_wk hl (.cons (sW hu0) .nil)) (wkSg_of hs .nil)
def code_z50 : Code := Tryz.f167.body.getD .skip
def sp_z50 (n : Nat) : Go.Eng.Spec := ⟨fun f vs sg => (match f with
  | 179 => c_z4 (m_z4 n) vs sg
  | _ => none), fun R key E sg K => (match key with
  | _ => none)⟩
theorem sp_z50_ok (n : Nat) : CallsOk Tryz.prog (sp_z50 n) := by
 intro f vs sg cm x h hx
 simp only [sp_z50] at h
 split at h
 ·exact c_z4_ok _ (m_z4_ok n) vs sg cm x h hx
 ·cases h
theorem code_z50_fn : Tryz.prog.funcs[167]? = some Tryz.f167 := Tryz.func167
theorem code_z50_body : Tryz.f167.body = some code_z50 := by kernel_rfl
def K_z50 (v : V) (s : Sig) : Option (Bool) := Option.bind (V.boolOf v) fun u0 => some u0
theorem K_z50_wk {v : V} {s : Sig} {r : Bool} (h : K_z50 v s = some r) : Wk v (enc_z50 r) /\ WkS 0 s (encS_z50 r) := by
 unfold K_z50 at h
 obtain ⟨u0, hu0, h⟩ := ob h
 cases h
 exact ⟨(bW hu0), (WkS.none _)⟩
theorem m_z50_eq (n : Nat) (a0 : ByteArray) : mF Tryz.prog (sp_z50 n) 167 [(V.t (T.sc (.string a0)))] [] K_z50 = m_z50 n a0 := by kernel_rfl
theorem m_z50_ok (n : Nat) : ok_z50 (m_z50 n) := fun a0 r h => mF_ok sound (sp_z50_ok n) code_z50_fn code_z50_body (nl (by kernel_rfl)) (no_scope (by kernel_rfl)) ((m_z50_eq n a0).trans h) (fun v s hk => ⟨(K_z50_wk hk).1, rfl, (K_z50_wk hk).2⟩)
def m_z51 (n : Nat) (a0 : ByteArray) : Option (Bool) :=
Option.bind (bif (!(ByteArray.toList a0 == ByteArray.toList (⟨#[]⟩ : ByteArray))) then m_z61 n a0 else some 0) fun r0 =>
Option.bind (bif (bif (!(ByteArray.toList a0 == ByteArray.toList (⟨#[]⟩ : ByteArray))) then ((r0 : Int) == ((ByteArray.size a0 : Nat) : Int)) else false) then m_z50 n a0 else some false) fun r1 =>
some (bif (bif (!(ByteArray.toList a0 == ByteArray.toList (⟨#[]⟩ : ByteArray))) then ((r0 : Int) == ((ByteArray.size a0 : Nat) : Int)) else false) then (!r1) else false)
def enc_z51 (r : Bool) : V := (V.t (T.sc (.bool r)))
def encS_z51 (r : Bool) : Sig := []
def ok_z51 (m : ByteArray -> Option (Bool)) : Prop := ∀ (a0 : ByteArray) (r : Bool), m a0 = some r -> FuncOk Tryz.prog 150 [(V.t (T.sc (.string a0)))] [] (enc_z51 r) (encS_z51 r)
def c_z51 (m : ByteArray -> Option (Bool)) (vs : List V) (sg : Sig) : Option CallM := bif Nat.beq vs.length 1 && Nat.beq sg.length 0 then Option.bind (V.strOf (vs.getD 0 .any)) fun u0 => some { α := Bool, m := m u0, dflt := false, enc := fun y => ((V.t (T.sc (.bool y))), []) } else none
theorem c_z51_ok (m : ByteArray -> Option (Bool)) (hm : ok_z51 m) (vs : List V) (sg : Sig) (cm : CallM) (x : cm.α) (h : c_z51 m vs sg = some cm) (hx : cm.m = some x) : FuncOk Tryz.prog 150 vs sg (cm.enc x).1 (cm.enc x).2 := by
 unfold c_z51 at h
 obtain ⟨hl, hs, h⟩ := callee_sig h
 obtain ⟨u0, hu0, h⟩ := ob h
 cases h
 exact (hm u0 x hx).wk (args_wk hl (.cons (sW hu0) .nil)) (wkSg_of hs .nil)
def code_z51 : Code := Tryz.f150.body.getD .skip
def sp_z51 (n : Nat) : Go.Eng.Spec := ⟨fun f vs sg => (match f with
  | 75 => c_z61 (m_z61 n) vs sg
  | 167 => c_z50 (m_z50 n) vs sg
  | _ => none), fun R key E sg K => (match key with
  | _ => none)⟩
theorem sp_z51_ok (n : Nat) : CallsOk Tryz.prog (sp_z51 n) := by
 intro f vs sg cm x h hx
 simp only [sp_z51] at h
 split at h
 ·exact c_z61_ok _ (m_z61_ok n) vs sg cm x h hx
 ·exact c_z50_ok _ (m_z50_ok n) vs sg cm x h hx
 ·cases h
theorem code_z51_fn : Tryz.prog.funcs[150]? = some Tryz.f150 := Tryz.func150
theorem code_z51_body : Tryz.f150.body = some code_z51 := by kernel_rfl
def K_z51 (v : V) (s : Sig) : Option (Bool) := Option.bind (V.boolOf v) fun u0 => some u0
theorem K_z51_wk {v : V} {s : Sig} {r : Bool} (h : K_z51 v s = some r) : Wk v (enc_z51 r) /\ WkS 0 s (encS_z51 r) := by
 unfold K_z51 at h
 obtain ⟨u0, hu0, h⟩ := ob h
 cases h
 exact ⟨(bW hu0), (WkS.none _)⟩
theorem m_z51_eq (n : Nat) (a0 : ByteArray) : mF Tryz.prog (sp_z51 n) 150 [(V.t (T.sc (.string a0)))] [] K_z51 = m_z51 n a0 := by kernel_rfl
theorem m_z51_ok (n : Nat) : ok_z51 (m_z51 n) := fun a0 r h => mF_ok sound (sp_z51_ok n) code_z51_fn code_z51_body (nl (by kernel_rfl)) (no_scope (by kernel_rfl)) ((m_z51_eq n a0).trans h) (fun v s hk => ⟨(K_z51_wk hk).1, rfl, (K_z51_wk hk).2⟩)
def m_z15 (n : Nat) (a0 : List T) (a1 : Int) (a2 : Bool) : Option (ByteArray × (List T) × Int × Bool) :=
Option.bind (idx true [.int .i64, .str, .int .i64, .cplx .f64] a0 a1) fun y0 =>
Option.bind (bif !(bif a2 then true else (((y0.cell 0).int : Int) != 1)) then m_z51 n (y0.cell 1).str else some false) fun r1 =>
bif (bif (bif a2 then true else (((y0.cell 0).int : Int) != 1)) then true else (!r1)) then (
Option.bind (m_z13 n a0 a1 a2) fun r2 =>
some ((⟨#[]⟩ : ByteArray), r2.1, r2.2.1, r2.2.2))
else (
some ((y0.cell 1).str, a0, (IntKind.wrap .i64 (a1 + 1)), a2))
def enc_z15 (r : ByteArray × (List T) × Int × Bool) : V := (V.t (T.sc (.string r.1)))
def encS_z15 (r : ByteArray × (List T) × Int × Bool) : Sig := [some [(V.t (T.list r.2.1)), (V.t (T.sc (.int .i64 r.2.2.1))), (V.t (T.sc (.bool r.2.2.2)))]]
def ok_z15 (m : List T -> Int -> Bool -> Option (ByteArray × (List T) × Int × Bool)) : Prop := ∀ (a0 : List T) (a1 : Int) (a2 : Bool) (r : ByteArray × (List T) × Int × Bool), m a0 a1 a2 = some r -> FuncOk Tryz.prog 114 [(V.ptr 0 0)] [some [(V.t (T.list a0)), (V.t (T.sc (.int .i64 a1))), (V.t (T.sc (.bool a2)))]] (enc_z15 r) (encS_z15 r)
def c_z15 (m : List T -> Int -> Bool -> Option (ByteArray × (List T) × Int × Bool)) (vs : List V) (sg : Sig) : Option CallM := bif Nat.beq vs.length 1 && Nat.beq sg.length 1 then Option.bind (V.ptrOf 0 0 (vs.getD 0 .any)) fun u0 => Option.bind (cellsN 3 sg 0) fun g0 => Option.bind (V.lstOf (g0.getD 0 .any)) fun g1 => Option.bind (V.intOf .i64 (g0.getD 1 .any)) fun g2 => Option.bind (V.boolOf (g0.getD 2 .any)) fun g3 => some { α := ByteArray × (List T) × Int × Bool, m := m g1 g2 g3, dflt := (default, [], 0, false), enc := fun y => ((V.t (T.sc (.string y.1))), [some [(V.t (T.list y.2.1)), (V.t (T.sc (.int .i64 y.2.2.1))), (V.t (T.sc (.bool y.2.2.2)))]]) } else none
theorem c_z15_ok (m : List T -> Int -> Bool -> Option (ByteArray × (List T) × Int × Bool)) (hm : ok_z15 m) (vs : List V) (sg : Sig) (cm : CallM) (x : cm.α) (h : c_z15 m vs sg = some cm) (hx : cm.m = some x) : FuncOk Tryz.prog 114 vs sg (cm.enc x).1 (cm.enc x).2 := by
 unfold c_z15 at h
 obtain ⟨hl, hs, h⟩ := callee_sig h
 obtain ⟨u0, hu0, g0, hg0, g1, hg1, g2, hg2, h⟩ := ob4 h
 obtain ⟨g3, hg3, h⟩ := ob h
 cases h
 exact (hm g1 g2 g3 x hx).wk (args_wk hl (.cons (pW hu0) .nil)) (wkSg_of hs (.cons (nW hg0 (.cons (lW hg1) (.cons (iW hg2) (.cons (bW hg3) .nil)))) .nil))
def code_z15 : Code := Tryz.f114.body.getD .skip
def sp_z15 (n : Nat) : Go.Eng.Spec := ⟨fun f vs sg => (match f with
  | 150 => c_z51 (m_z51 n) vs sg
  | 79 => c_z13 (m_z13 n) vs sg
  | _ => none), fun R key E sg K => (match key with
  | _ => none)⟩
theorem sp_z15_ok (n : Nat) : CallsOk Tryz.prog (sp_z15 n) := by
 intro f vs sg cm x h hx
 simp only [sp_z15] at h
 split at h
 ·exact c_z51_ok _ (m_z51_ok n) vs sg cm x h hx
 ·exact c_z13_ok _ (m_z13_ok n) vs sg cm x h hx
 ·cases h
theorem code_z15_fn : Tryz.prog.funcs[114]? = some Tryz.f114 := Tryz.func114
theorem code_z15_body : Tryz.f114.body = some code_z15 := by kernel_rfl
def K_z15 (v : V) (s : Sig) : Option (ByteArray × (List T) × Int × Bool) := Option.bind (V.strOf v) fun u0 => Option.bind (cellsN 3 s 0) fun g0 => Option.bind (V.lstOf (g0.getD 0 .any)) fun g1 => Option.bind (V.intOf .i64 (g0.getD 1 .any)) fun g2 => Option.bind (V.boolOf (g0.getD 2 .any)) fun g3 => some (u0, g1, g2, g3)
theorem K_z15_wk {v : V} {s : Sig} {r : ByteArray × (List T) × Int × Bool} (h : K_z15 v s = some r) : Wk v (enc_z15 r) /\ WkS 1 s (encS_z15 r) := by
 unfold K_z15 at h
 obtain ⟨u0, hu0, g0, hg0, g1, hg1, g2, hg2, h⟩ := ob4 h
 obtain ⟨g3, hg3, h⟩ := ob h
 cases h
 exact ⟨(sW hu0), (wkR_sig (WkR.cons (nW hg0 (.cons (lW hg1) (.cons (iW hg2) (.cons (bW hg3) .nil)))).1 (nW hg0 (.cons (lW hg1) (.cons (iW hg2) (.cons (bW hg3) .nil)))).2 (renL_mem (.cons rfl (.cons rfl (.cons rfl .nil)))) (WkR.nil _)) rfl)⟩
theorem m_z15_eq (n : Nat) (a0 : List T) (a1 : Int) (a2 : Bool) : mF Tryz.prog (sp_z15 n) 114 [(V.ptr 0 0)] [some [(V.t (T.list a0)), (V.t (T.sc (.int .i64 a1))), (V.t (T.sc (.bool a2)))]] K_z15 = m_z15 n a0 a1 a2 := by kernel_rfl
theorem m_z15_ok (n : Nat) : ok_z15 (m_z15 n) := fun a0 a1 a2 r h => mF_ok sound (sp_z15_ok n) code_z15_fn code_z15_body (nl (by kernel_rfl)) (no_scope (by kernel_rfl)) ((m_z15_eq n a0 a1 a2).trans h) (fun v s hk => ⟨(K_z15_wk hk).1, rfl, (K_z15_wk hk).2⟩)
def m_z7 (n : Nat) (a0 : Int) (a1 : List T) (a2 : Int) (a3 : Bool) : Option (Int × (List T) × Int × Bool) :=
Option.bind (idx true [.int .i64, .str, .int .i64, .cplx .f64] a1 a2) fun y0 =>
bif (bif (bif a3 then true else (((y0.cell 0).int : Int) != 2)) then true else (decide (((y0.cell 2).int : Int) > a0))) then (
Option.bind (m_z13 n a1 a2 a3) fun r1 =>
some (0, r1.1, r1.2.1, r1.2.2))
else (
some ((y0.cell 2).int, a1, (IntKind.wrap .i64 (a2 + 1)), a3))
def enc_z7 (r : Int × (List T) × Int × Bool) : V := (V.t (T.sc (.int .i64 r.1)))
def encS_z7 (r : Int × (List T) × Int × Bool) : Sig := [some [(V.t (T.list r.2.1)), (V.t (T.sc (.int .i64 r.2.2.1))), (V.t (T.sc (.bool r.2.2.2)))]]
def ok_z7 (m : Int -> List T -> Int -> Bool -> Option (Int × (List T) × Int × Bool)) : Prop := ∀ (a0 : Int) (a1 : List T) (a2 : Int) (a3 : Bool) (r : Int × (List T) × Int × Bool), m a0 a1 a2 a3 = some r -> FuncOk Tryz.prog 115 [(V.ptr 0 0), (V.t (T.sc (.int .i64 a0)))] [some [(V.t (T.list a1)), (V.t (T.sc (.int .i64 a2))), (V.t (T.sc (.bool a3)))]] (enc_z7 r) (encS_z7 r)
def c_z7 (m : Int -> List T -> Int -> Bool -> Option (Int × (List T) × Int × Bool)) (vs : List V) (sg : Sig) : Option CallM := bif Nat.beq vs.length 2 && Nat.beq sg.length 1 then Option.bind (V.ptrOf 0 0 (vs.getD 0 .any)) fun u0 => Option.bind (V.intOf .i64 (vs.getD 1 .any)) fun u1 => Option.bind (cellsN 3 sg 0) fun g0 => Option.bind (V.lstOf (g0.getD 0 .any)) fun g1 => Option.bind (V.intOf .i64 (g0.getD 1 .any)) fun g2 => Option.bind (V.boolOf (g0.getD 2 .any)) fun g3 => some { α := Int × (List T) × Int × Bool, m := m u1 g1 g2 g3, dflt := (0, [], 0, false), enc := fun y => ((V.t (T.sc (.int .i64 y.1))), [some [(V.t (T.list y.2.1)), (V.t (T.sc (.int .i64 y.2.2.1))), (V.t (T.sc (.bool y.2.2.2)))]]) } else none
theorem c_z7_ok (m : Int -> List T -> Int -> Bool -> Option (Int × (List T) × Int × Bool)) (hm : ok_z7 m) (vs : List V) (sg : Sig) (cm : CallM) (x : cm.α) (h : c_z7 m vs sg = some cm) (hx : cm.m = some x) : FuncOk Tryz.prog 115 vs sg (cm.enc x).1 (cm.enc x).2 := by
 unfold c_z7 at h
 obtain ⟨hl, hs, h⟩ := callee_sig h
 obtain ⟨u0, hu0, u1, hu1, g0, hg0, g1, hg1, h⟩ := ob4 h
 obtain ⟨g2, hg2, g3, hg3, h⟩ := ob2 h
 cases h
 exact (hm u1 g1 g2 g3 x hx).wk (args_wk hl (.cons (pW hu0) (.cons (iW hu1) .nil))) (wkSg_of hs (.cons (nW hg0 (.cons (lW hg1) (.cons (iW hg2) (.cons (bW hg3) .nil)))) .nil))
def code_z7 : Code := Tryz.f115.body.getD .skip
def sp_z7 (n : Nat) : Go.Eng.Spec := ⟨fun f vs sg => (match f with
  | 79 => c_z13 (m_z13 n) vs sg
  | _ => none), fun R key E sg K => (match key with
  | _ => none)⟩
theorem sp_z7_ok (n : Nat) : CallsOk Tryz.prog (sp_z7 n) := by
 intro f vs sg cm x h hx
 simp only [sp_z7] at h
 split at h
 ·exact c_z13_ok _ (m_z13_ok n) vs sg cm x h hx
 ·cases h
theorem code_z7_fn : Tryz.prog.funcs[115]? = some Tryz.f115 := Tryz.func115
theorem code_z7_body : Tryz.f115.body = some code_z7 := by kernel_rfl
def K_z7 (v : V) (s : Sig) : Option (Int × (List T) × Int × Bool) := Option.bind (V.intOf .i64 v) fun u0 => Option.bind (cellsN 3 s 0) fun g0 => Option.bind (V.lstOf (g0.getD 0 .any)) fun g1 => Option.bind (V.intOf .i64 (g0.getD 1 .any)) fun g2 => Option.bind (V.boolOf (g0.getD 2 .any)) fun g3 => some (u0, g1, g2, g3)
theorem K_z7_wk {v : V} {s : Sig} {r : Int × (List T) × Int × Bool} (h : K_z7 v s = some r) : Wk v (enc_z7 r) /\ WkS 1 s (encS_z7 r) := by
 unfold K_z7 at h
 obtain ⟨u0, hu0, g0, hg0, g1, hg1, g2, hg2, h⟩ := ob4 h
 obtain ⟨g3, hg3, h⟩ := ob h
 cases h
 exact ⟨(iW hu0), (wkR_sig (WkR.cons (nW hg0 (.cons (lW hg1) (.cons (iW hg2) (.cons (bW hg3) .nil)))).1 (nW hg0 (.cons (lW hg1) (.cons (iW hg2) (.cons (bW hg3) .nil)))).2 (renL_mem (.cons rfl (.cons rfl (.cons rfl .nil)))) (WkR.nil _)) rfl)⟩
theorem m_z7_eq (n : Nat) (a0 : Int) (a1 : List T) (a2 : Int) (a3 : Bool) : mF Tryz.prog (sp_z7 n) 115 [(V.ptr 0 0), (V.t (T.sc (.int .i64 a0)))] [some [(V.t (T.list a1)), (V.t (T.sc (.int .i64 a2))), (V.t (T.sc (.bool a3)))]] K_z7 = m_z7 n a0 a1 a2 a3 := by kernel_rfl
theorem m_z7_ok (n : Nat) : ok_z7 (m_z7 n) := fun a0 a1 a2 a3 r h => mF_ok sound (sp_z7_ok n) code_z7_fn code_z7_body (nl (by kernel_rfl)) (no_scope (by kernel_rfl)) ((m_z7_eq n a0 a1 a2 a3).trans h) (fun v s hk => ⟨(K_z7_wk hk).1, rfl, (K_z7_wk hk).2⟩)
def m_z2 (n : Nat) (a0 : List T) : Option ((List T)) :=
must true (decide (0 <= 0) && decide (0 <= ((List.length a0 : Nat) : Int)) && decide (((List.length a0 : Nat) : Int) <= ((List.length a0 : Nat) : Int)) && sized 4 a0) (must true (decide (((List.length a0 : Nat) : Int) = ((List.length a0 : Nat) : Int))) (some (List.drop (Int.toNat 0) (List.take (Int.toNat ((List.length a0 : Nat) : Int)) a0))))
def enc_z2 (r : (List T)) : V := (V.own 4 r)
def encS_z2 (r : (List T)) : Sig := []
def ok_z2 (m : List T -> Option ((List T))) : Prop := ∀ (a0 : List T) (r : (List T)), m a0 = some r -> FuncOk Tryz.prog 116 [(V.t (T.list a0))] [] (enc_z2 r) (encS_z2 r)
def c_z2 (m : List T -> Option ((List T))) (vs : List V) (sg : Sig) : Option CallM := bif Nat.beq vs.length 1 && Nat.beq sg.length 0 then Option.bind (V.lstOf (vs.getD 0 .any)) fun u0 => some { α := (List T), m := m u0, dflt := [], enc := fun y => ((V.own 4 y), []) } else none
theorem c_z2_ok (m : List T -> Option ((List T))) (hm : ok_z2 m) (vs : List V) (sg : Sig) (cm : CallM) (x : cm.α) (h : c_z2 m vs sg = some cm) (hx : cm.m = some x) : FuncOk Tryz.prog 116 vs sg (cm.enc x).1 (cm.enc x).2 := by
 unfold c_z2 at h
 obtain ⟨hl, hs, h⟩ := callee_sig h
 obtain ⟨u0, hu0, h⟩ := ob h
 cases h
 exact (hm u0 x hx).wk (args_wk hl (.cons (lW hu0) .nil)) (wkSg_of hs .nil)
def code_z2 : Code := Tryz.f116.body.getD .skip
def sp_z2 (n : Nat) : Go.Eng.Spec := ⟨fun f vs sg => (match f with
  | _ => none), fun R key E sg K => (match key with
  | _ => none)⟩
theorem sp_z2_ok (n : Nat) : CallsOk Tryz.prog (sp_z2 n) := by
 intro f vs sg cm x h hx
 have h : (none : Option CallM) = some cm := h
 cases h
theorem code_z2_fn : Tryz.prog.funcs[116]? = some Tryz.f116 := Tryz.func116
theorem code_z2_body : Tryz.f116.body = some code_z2 := by kernel_rfl
def K_z2 (v : V) (s : Sig) : Option ((List T)) := Option.bind (V.ownOf 4 v) fun u0 => some u0
theorem K_z2_wk {v : V} {s : Sig} {r : (List T)} (h : K_z2 v s = some r) : Wk v (enc_z2 r) /\ WkS 0 s (encS_z2 r) := by
 unfold K_z2 at h
 obtain ⟨u0, hu0, h⟩ := ob h
 cases h
 exact ⟨(oW hu0), (WkS.none _)⟩
theorem m_z2_eq (n : Nat) (a0 : List T) : mF Tryz.prog (sp_z2 n) 116 [(V.t (T.list a0))] [] K_z2 = m_z2 n a0 := by kernel_rfl
theorem m_z2_ok (n : Nat) : ok_z2 (m_z2 n) := fun a0 r h => mF_ok sound (sp_z2_ok n) code_z2_fn code_z2_body (nl (by kernel_rfl)) (no_scope (by kernel_rfl)) ((m_z2_eq n a0).trans h) (fun v s hk => ⟨(K_z2_wk hk).1, rfl, (K_z2_wk hk).2⟩)
def l_z9_2_B (n : Nat) (k : (List T) × (List T) × Int × Bool -> Option ((List T) × (List T) × Int × Bool)) : (List T) × (List T) × Int × Bool -> Option ((List T) × (List T) × Int × Bool) := fun (s0, s1, s2, s3) =>
Option.bind (idx ((!s3)) [.int .i64, .str, .int .i64, .cplx .f64] s1 s2) fun y0 =>
bif (bif (!s3) then (((y0.cell 0).int : Int) == 1) else false) then (
Option.bind (idx true [.int .i64, .str, .int .i64, .cplx .f64] s1 s2) fun y1 =>
Option.bind (m_z47 n (y1.cell 1).str) fun r2 =>
Option.bind (idx true [.int .i64, .str, .int .i64, .cplx .f64] s1 s2) fun y3 =>
bif ((r2 : Int) == 0) then (
some (s0, s1, s2, s3))
else (
bif ((((List.length s0 : Nat) : Int) : Int) == 24) then (
Option.bind (m_z13 n s1 s2 s3) fun r4 =>
some (s0, r4.1, r4.2.1, r4.2.2))
else (
Option.bind (m_z15 n s1 (IntKind.wrap .i64 (s2 + 1)) s3) fun r5 =>
bif ((r2 : Int) == 6) then (
Option.bind (m_z7 n 3 r5.2.1 r5.2.2.1 r5.2.2.2) fun r6 =>
must true ((Nat.beq 4 4 || Nat.beq 4 0) && (decide (List.length s0 + List.length [(T.agg [(T.sc (.int .i64 r2)), (T.sc (.string r5.1)), (T.sc (.int .i64 r6.1)), (T.sc (.complex .f64 (y3.cell 3).re (y3.cell 3).im))])] <= 1073741824) && sized 4 [(T.agg [(T.sc (.int .i64 r2)), (T.sc (.string r5.1)), (T.sc (.int .i64 r6.1)), (T.sc (.complex .f64 (y3.cell 3).re (y3.cell 3).im))])])) (k ((s0 ++ [(T.agg [(T.sc (.int .i64 r2)), (T.sc (.string r5.1)), (T.sc (.int .i64 r6.1)), (T.sc (.complex .f64 (y3.cell 3).re (y3.cell 3).im))])]), r6.2.1, r6.2.2.1, r6.2.2.2)))
else (
must true ((Nat.beq 4 4 || Nat.beq 4 0) && (decide (List.length s0 + List.length [(T.agg [(T.sc (.int .i64 r2)), (T.sc (.string r5.1)), (T.sc (.int .i64 0)), (T.sc (.complex .f64 (y3.cell 3).re (y3.cell 3).im))])] <= 1073741824) && sized 4 [(T.agg [(T.sc (.int .i64 r2)), (T.sc (.string r5.1)), (T.sc (.int .i64 0)), (T.sc (.complex .f64 (y3.cell 3).re (y3.cell 3).im))])])) (k ((s0 ++ [(T.agg [(T.sc (.int .i64 r2)), (T.sc (.string r5.1)), (T.sc (.int .i64 0)), (T.sc (.complex .f64 (y3.cell 3).re (y3.cell 3).im))])]), r5.2.1, r5.2.2.1, r5.2.2.2))))))
else (
some (s0, s1, s2, s3))
def l_z9_2 (n : Nat) : Nat -> (List T) × (List T) × Int × Bool -> Option ((List T) × (List T) × Int × Bool)
 | 0, _ => none
 | m + 1, s => l_z9_2_B n (l_z9_2 n m) s
def m_z9 (n : Nat) (a0 : List T) (a1 : Int) (a2 : Bool) : Option ((List T) × (List T) × Int × Bool) :=
Option.bind (l_z9_2 n n (([] : List T), a0, a1, a2)) fun p8 =>
Option.bind (m_z2 n p8.1) fun r9 =>
some (r9, p8.2.1, p8.2.2.1, p8.2.2.2)
def enc_z9 (r : (List T) × (List T) × Int × Bool) : V := (V.own 4 r.1)
def encS_z9 (r : (List T) × (List T) × Int × Bool) : Sig := [some [(V.t (T.list r.2.1)), (V.t (T.sc (.int .i64 r.2.2.1))), (V.t (T.sc (.bool r.2.2.2)))]]
def ok_z9 (m : List T -> Int -> Bool -> Option ((List T) × (List T) × Int × Bool)) : Prop := ∀ (a0 : List T) (a1 : Int) (a2 : Bool) (r : (List T) × (List T) × Int × Bool), m a0 a1 a2 = some r -> FuncOk Tryz.prog 78 [(V.ptr 0 0)] [some [(V.t (T.list a0)), (V.t (T.sc (.int .i64 a1))), (V.t (T.sc (.bool a2)))]] (enc_z9 r) (encS_z9 r)
def c_z9 (m : List T -> Int -> Bool -> Option ((List T) × (List T) × Int × Bool)) (vs : List V) (sg : Sig) : Option CallM := bif Nat.beq vs.length 1 && Nat.beq sg.length 1 then Option.bind (V.ptrOf 0 0 (vs.getD 0 .any)) fun u0 => Option.bind (cellsN 3 sg 0) fun g0 => Option.bind (V.lstOf (g0.getD 0 .any)) fun g1 => Option.bind (V.intOf .i64 (g0.getD 1 .any)) fun g2 => Option.bind (V.boolOf (g0.getD 2 .any)) fun g3 => some { α := (List T) × (List T) × Int × Bool, m := m g1 g2 g3, dflt := ([], [], 0, false), enc := fun y => ((V.own 4 y.1), [some [(V.t (T.list y.2.1)), (V.t (T.sc (.int .i64 y.2.2.1))), (V.t (T.sc (.bool y.2.2.2)))]]) } else none
theorem c_z9_ok (m : List T -> Int -> Bool -> Option ((List T) × (List T) × Int × Bool)) (hm : ok_z9 m) (vs : List V) (sg : Sig) (cm : CallM) (x : cm.α) (h : c_z9 m vs sg = some cm) (hx : cm.m = some x) : FuncOk Tryz.prog 78 vs sg (cm.enc x).1 (cm.enc x).2 := by
 unfold c_z9 at h
 obtain ⟨hl, hs, h⟩ := callee_sig h
 obtain ⟨u0, hu0, g0, hg0, g1, hg1, g2, hg2, h⟩ := ob4 h
 obtain ⟨g3, hg3, h⟩ := ob h
 cases h
 exact (hm g1 g2 g3 x hx).wk (args_wk hl (.cons (pW hu0) .nil)) (wkSg_of hs (.cons (nW hg0 (.cons (lW hg1) (.cons (iW hg2) (.cons (bW hg3) .nil)))) .nil))
def code_z9 : Code := Tryz.f78.body.getD .skip
def l_z9_2_S (n : Nat) (R : Type) (E : SEnv) (sg : Sig) (K : Ex -> SEnv -> Sig -> Option R) : Option R := Option.bind (V.ptrOf 0 0 (SEnv.at E 0)) fun u0 => Option.bind (V.ownOf 4 (SEnv.at E 3)) fun u1 => Option.bind (cellsN 3 sg 0) fun u2 => Option.bind (V.lstOf (u2.getD 0 .any)) fun u3 => Option.bind (V.intOf .i64 (u2.getD 1 .any)) fun u4 => Option.bind (V.boolOf (u2.getD 2 .any)) fun u5 => Option.bind (l_z9_2 n n (u1, u3, u4, u5)) fun p0 => K (.exit 0) [(3, (V.own 4 p0.1))] [some [(V.t (T.list p0.2.1)), (V.t (T.sc (.int .i64 p0.2.2.1))), (V.t (T.sc (.bool p0.2.2.2)))]]
def sp_z9 (n : Nat) : Go.Eng.Spec := ⟨fun f vs sg => (match f with
  | 113 => c_z47 (m_z47 n) vs sg
  | 79 => c_z13 (m_z13 n) vs sg
  | 114 => c_z15 (m_z15 n) vs sg
  | 115 => c_z7 (m_z7 n) vs sg
  | 116 => c_z2 (m_z2 n) vs sg
  | _ => none), fun R key E sg K => (match key with
  | 2 => l_z9_2_S n R E sg K
  | _ => none)⟩
theorem sp_z9_ok (n : Nat) : CallsOk Tryz.prog (sp_z9 n) := by
 intro f vs sg cm x h hx
 simp only [sp_z9] at h
 split at h
 ·exact c_z47_ok _ (m_z47_ok n) vs sg cm x h hx
 ·exact c_z13_ok _ (m_z13_ok n) vs sg cm x h hx
 ·exact c_z15_ok _ (m_z15_ok n) vs sg cm x h hx
 ·exact c_z7_ok _ (m_z7_ok n) vs sg cm x h hx
 ·exact c_z2_ok _ (m_z2_ok n) vs sg cm x h hx
 ·cases h
theorem code_z9_fn : Tryz.prog.funcs[78]? = some Tryz.f78 := Tryz.func78
theorem code_z9_body : Tryz.f78.body = some code_z9 := by kernel_rfl
theorem code_z9_ok : CodeOk Tryz.prog code_z9 := (sound 78 _ _ code_z9_fn code_z9_body).1
def code_l_z9_2 : Code := (loopsOf code_z9).getD 0 .skip
theorem code_l_z9_2_ok : CodeOk Tryz.prog code_l_z9_2 := codeOk_loops code_z9_ok _ (getD_mem (by kernel_rfl))
def l_z9_2_K (k : (List T) × (List T) × Int × Bool -> Option ((List T) × (List T) × Int × Bool)) : Ex -> SEnv -> Sig -> Option ((List T) × (List T) × Int × Bool) := fun x E sg => match x with
 | .normal => Option.bind (V.ptrOf 0 0 (SEnv.at E 0)) fun u0 => Option.bind (V.ownOf 4 (SEnv.at E 3)) fun u1 => Option.bind (cellsN 3 sg 0) fun u2 => Option.bind (V.lstOf (u2.getD 0 .any)) fun u3 => Option.bind (V.intOf .i64 (u2.getD 1 .any)) fun u4 => Option.bind (V.boolOf (u2.getD 2 .any)) fun u5 => k (u1, u3, u4, u5)
 | (.exit 0) => Option.bind (V.ownOf 4 (SEnv.at E 3)) fun u0 => Option.bind (cellsN 3 sg 0) fun u1 => Option.bind (V.lstOf (u1.getD 0 .any)) fun u2 => Option.bind (V.intOf .i64 (u1.getD 1 .any)) fun u3 => Option.bind (V.boolOf (u1.getD 2 .any)) fun u4 => some (u0, u2, u3, u4)
 | _ => none
theorem l_z9_2_eq (n : Nat) (k : (List T) × (List T) × Int × Bool -> Option ((List T) × (List T) × Int × Bool)) (s0 : List T) (s1 : List T) (s2 : Int) (s3 : Bool) : mX Tryz.prog (sp_z9 n) 78 code_l_z9_2 [(0, (V.ptr 0 0)), (3, (V.own 4 s0))] [some [(V.t (T.list s1)), (V.t (T.sc (.int .i64 s2))), (V.t (T.sc (.bool s3)))]] (l_z9_2_K k) = l_z9_2_B n k (s0, s1, s2, s3) := by kernel_rfl
def l_z9_2_Q (x : (List T) × (List T) × Int × Bool) (ex : Ex) (e : Env) (s : Sig) : Prop := (fun p0 => (ex = (.exit 0) /\ e = SEnv.env 78 [(3, (V.own 4 p0.1))] /\ s = [some [(V.t (T.list p0.2.1)), (V.t (T.sc (.int .i64 p0.2.2.1))), (V.t (T.sc (.bool p0.2.2.2)))]])) x
theorem l_z9_2_run (n : Nat) : ∀ (m : Nat) (s0 : List T) (s1 : List T) (s2 : Int) (s3 : Bool) (x : (List T) × (List T) × Int × Bool), l_z9_2 n m (s0, s1, s2, s3) = some x -> SemL Tryz.prog 1 code_l_z9_2 (SEnv.env 78 [(0, (V.ptr 0 0)), (3, (V.own 4 s0))]) [some [(V.t (T.list s1)), (V.t (T.sc (.int .i64 s2))), (V.t (T.sc (.bool s3)))]] (l_z9_2_Q x)
 | 0, s0, s1, s2, s3, x, h => by cases h
 | m + 1, s0, s1, s2, s3, x, h => by
  refine loop_step (sp_z9_ok n) code_l_z9_2_ok (nl (by kernel_rfl)) (no_scope (by kernel_rfl)) ((l_z9_2_eq n _ s0 s1 s2 s3).trans h) (fun E sg h => ?_) (fun ex E sg hne h => ?_)
  ·simp only [l_z9_2_K] at h
   obtain ⟨u0, hu0, u1, hu1, u2, hu2, u3, hu3, h⟩ := ob4 h
   obtain ⟨u4, hu4, u5, hu5, h⟩ := ob2 h
   exact SemL.pre (k := 1) (by decide) (WkA.env (WkA.cons (pW hu0) rfl (WkA.cons (oW hu1) rfl WkA.nil)) 78) (wkR_sig (WkR.cons (nW hu2 (.cons (lW hu3) (.cons (iW hu4) (.cons (bW hu5) .nil)))).1 (nW hu2 (.cons (lW hu3) (.cons (iW hu4) (.cons (bW hu5) .nil)))).2 (renL_mem (.cons rfl (.cons rfl (.cons rfl .nil)))) (WkR.nil _)) rfl) (l_z9_2_run n m _ _ _ _ x h)
  ·unfold l_z9_2_K at h
   split at h
   ·exact absurd rfl hne
   ·obtain ⟨u0, hu0, u1, hu1, u2, hu2, u3, hu3, h⟩ := ob4 h
    obtain ⟨u4, hu4, h⟩ := ob h
    cases h
    exact ⟨1, _, _, by decide, WkA.env (WkA.cons (oW hu0) rfl WkA.nil) 78, (wkR_sig (WkR.cons (nW hu1 (.cons (lW hu2) (.cons (iW hu3) (.cons (bW hu4) .nil)))).1 (nW hu1 (.cons (lW hu2) (.cons (iW hu3) (.cons (bW hu4) .nil)))).2 (renL_mem (.cons rfl (.cons rfl (.cons rfl .nil)))) (WkR.nil _)) rfl), rfl, rfl, rfl⟩
   ·cases h
theorem l_z9_2_ok (n : Nat) : LoopOk Tryz.prog (sp_z9 n) 1 78 code_l_z9_2 := by
  intro R key E sg K r hk h
  rw [show Go.Eng.keyOf code_l_z9_2 = some 2 from by kernel_rfl] at hk
  cases hk
  have h : l_z9_2_S n R E sg K = some r := h
  unfold l_z9_2_S at h
  obtain ⟨u0, hu0, u1, hu1, u2, hu2, u3, hu3, h⟩ := ob4 h
  obtain ⟨u4, hu4, u5, hu5, h⟩ := ob2 h
  obtain ⟨x, hx, h⟩ := ob h
  refine (SemL.pre (k := 1) (by decide) (WkA.env (WkA.cons (pW hu0) rfl (WkA.cons (oW hu1) rfl WkA.nil)) 78) (wkR_sig (WkR.cons (nW hu2 (.cons (lW hu3) (.cons (iW hu4) (.cons (bW hu5) .nil)))).1 (nW hu2 (.cons (lW hu3) (.cons (iW hu4) (.cons (bW hu5) .nil)))).2 (renL_mem (.cons rfl (.cons rfl (.cons rfl .nil)))) (WkR.nil _)) rfl) (l_z9_2_run n n _ _ _ _ x hx)).mono ?_
  intro ex e s hq
  obtain ⟨rfl, rfl, rfl⟩ := hq
  exact ⟨_, rfl, h⟩
def K_z9 (v : V) (s : Sig) : Option ((List T) × (List T) × Int × Bool) := Option.bind (V.ownOf 4 v) fun u0 => Option.bind (cellsN 3 s 0) fun g0 => Option.bind (V.lstOf (g0.getD 0 .any)) fun g1 => Option.bind (V.intOf .i64 (g0.getD 1 .any)) fun g2 => Option.bind (V.boolOf (g0.getD 2 .any)) fun g3 => some (u0, g1, g2, g3)
theorem K_z9_wk {v : V} {s : Sig} {r : (List T) × (List T) × Int × Bool} (h : K_z9 v s = some r) : Wk v (enc_z9 r) /\ WkS 1 s (encS_z9 r) := by
 unfold K_z9 at h
 obtain ⟨u0, hu0, g0, hg0, g1, hg1, g2, hg2, h⟩ := ob4 h
 obtain ⟨g3, hg3, h⟩ := ob h
 cases h
 exact ⟨(oW hu0), (wkR_sig (WkR.cons (nW hg0 (.cons (lW hg1) (.cons (iW hg2) (.cons (bW hg3) .nil)))).1 (nW hg0 (.cons (lW hg1) (.cons (iW hg2) (.cons (bW hg3) .nil)))).2 (renL_mem (.cons rfl (.cons rfl (.cons rfl .nil)))) (WkR.nil _)) rfl)⟩
theorem m_z9_eq (n : Nat) (a0 : List T) (a1 : Int) (a2 : Bool) : mF Tryz.prog (sp_z9 n) 78 [(V.ptr 0 0)] [some [(V.t (T.list a0)), (V.t (T.sc (.int .i64 a1))), (V.t (T.sc (.bool a2)))]] K_z9 = m_z9 n a0 a1 a2 := by kernel_rfl
theorem m_z9_ok (n : Nat) : ok_z9 (m_z9 n) := fun a0 a1 a2 r h => mF_ok sound (sp_z9_ok n) code_z9_fn code_z9_body (forall_getD (d := .skip) 1 (by kernel_rfl) (fun i hi => match i, hi with | 0, _ => l_z9_2_ok n | i + 1, hi => absurd hi (by omega))) (no_scope (by kernel_rfl)) ((m_z9_eq n a0 a1 a2).trans h) (fun v s hk => ⟨(K_z9_wk hk).1, rfl, (K_z9_wk hk).2⟩)
def m_z21 (n : Nat) (a0 : ByteArray) (a1 : List T) (a2 : Int) (a3 : Bool) : Option (Bool × (List T) × Int × Bool) :=
Option.bind (idx true [.int .i64, .str, .int .i64, .cplx .f64] a1 a2) fun y0 =>
some ((bif (bif (!a3) then (bif (((y0.cell 0).int : Int) == 1) then true else (((y0.cell 0).int : Int) == 3)) else false) then (ByteArray.toList (y0.cell 1).str == ByteArray.toList a0) else false), a1, a2, a3)
def enc_z21 (r : Bool × (List T) × Int × Bool) : V := (V.t (T.sc (.bool r.1)))
def encS_z21 (r : Bool × (List T) × Int × Bool) : Sig := [some [(V.t (T.list r.2.1)), (V.t (T.sc (.int .i64 r.2.2.1))), (V.t (T.sc (.bool r.2.2.2)))]]
def ok_z21 (m : ByteArray -> List T -> Int -> Bool -> Option (Bool × (List T) × Int × Bool)) : Prop := ∀ (a0 : ByteArray) (a1 : List T) (a2 : Int) (a3 : Bool) (r : Bool × (List T) × Int × Bool), m a0 a1 a2 a3 = some r -> FuncOk Tryz.prog 117 [(V.ptr 0 0), (V.t (T.sc (.string a0)))] [some [(V.t (T.list a1)), (V.t (T.sc (.int .i64 a2))), (V.t (T.sc (.bool a3)))]] (enc_z21 r) (encS_z21 r)
def c_z21 (m : ByteArray -> List T -> Int -> Bool -> Option (Bool × (List T) × Int × Bool)) (vs : List V) (sg : Sig) : Option CallM := bif Nat.beq vs.length 2 && Nat.beq sg.length 1 then Option.bind (V.ptrOf 0 0 (vs.getD 0 .any)) fun u0 => Option.bind (V.strOf (vs.getD 1 .any)) fun u1 => Option.bind (cellsN 3 sg 0) fun g0 => Option.bind (V.lstOf (g0.getD 0 .any)) fun g1 => Option.bind (V.intOf .i64 (g0.getD 1 .any)) fun g2 => Option.bind (V.boolOf (g0.getD 2 .any)) fun g3 => some { α := Bool × (List T) × Int × Bool, m := m u1 g1 g2 g3, dflt := (false, [], 0, false), enc := fun y => ((V.t (T.sc (.bool y.1))), [some [(V.t (T.list y.2.1)), (V.t (T.sc (.int .i64 y.2.2.1))), (V.t (T.sc (.bool y.2.2.2)))]]) } else none
theorem c_z21_ok (m : ByteArray -> List T -> Int -> Bool -> Option (Bool × (List T) × Int × Bool)) (hm : ok_z21 m) (vs : List V) (sg : Sig) (cm : CallM) (x : cm.α) (h : c_z21 m vs sg = some cm) (hx : cm.m = some x) : FuncOk Tryz.prog 117 vs sg (cm.enc x).1 (cm.enc x).2 := by
 unfold c_z21 at h
 obtain ⟨hl, hs, h⟩ := callee_sig h
 obtain ⟨u0, hu0, u1, hu1, g0, hg0, g1, hg1, h⟩ := ob4 h
 obtain ⟨g2, hg2, g3, hg3, h⟩ := ob2 h
 cases h
 exact (hm u1 g1 g2 g3 x hx).wk (args_wk hl (.cons (pW hu0) (.cons (sW hu1) .nil))) (wkSg_of hs (.cons (nW hg0 (.cons (lW hg1) (.cons (iW hg2) (.cons (bW hg3) .nil)))) .nil))
def code_z21 : Code := Tryz.f117.body.getD .skip
def sp_z21 (n : Nat) : Go.Eng.Spec := ⟨fun f vs sg => (match f with
  | _ => none), fun R key E sg K => (match key with
  | _ => none)⟩
theorem sp_z21_ok (n : Nat) : CallsOk Tryz.prog (sp_z21 n) := by
 intro f vs sg cm x h hx
 have h : (none : Option CallM) = some cm := h
 cases h
theorem code_z21_fn : Tryz.prog.funcs[117]? = some Tryz.f117 := Tryz.func117
theorem code_z21_body : Tryz.f117.body = some code_z21 := by kernel_rfl
def K_z21 (v : V) (s : Sig) : Option (Bool × (List T) × Int × Bool) := Option.bind (V.boolOf v) fun u0 => Option.bind (cellsN 3 s 0) fun g0 => Option.bind (V.lstOf (g0.getD 0 .any)) fun g1 => Option.bind (V.intOf .i64 (g0.getD 1 .any)) fun g2 => Option.bind (V.boolOf (g0.getD 2 .any)) fun g3 => some (u0, g1, g2, g3)
theorem K_z21_wk {v : V} {s : Sig} {r : Bool × (List T) × Int × Bool} (h : K_z21 v s = some r) : Wk v (enc_z21 r) /\ WkS 1 s (encS_z21 r) := by
 unfold K_z21 at h
 obtain ⟨u0, hu0, g0, hg0, g1, hg1, g2, hg2, h⟩ := ob4 h
 obtain ⟨g3, hg3, h⟩ := ob h
 cases h
 exact ⟨(bW hu0), (wkR_sig (WkR.cons (nW hg0 (.cons (lW hg1) (.cons (iW hg2) (.cons (bW hg3) .nil)))).1 (nW hg0 (.cons (lW hg1) (.cons (iW hg2) (.cons (bW hg3) .nil)))).2 (renL_mem (.cons rfl (.cons rfl (.cons rfl .nil)))) (WkR.nil _)) rfl)⟩
theorem m_z21_eq (n : Nat) (a0 : ByteArray) (a1 : List T) (a2 : Int) (a3 : Bool) : mF Tryz.prog (sp_z21 n) 117 [(V.ptr 0 0), (V.t (T.sc (.string a0)))] [some [(V.t (T.list a1)), (V.t (T.sc (.int .i64 a2))), (V.t (T.sc (.bool a3)))]] K_z21 = m_z21 n a0 a1 a2 a3 := by kernel_rfl
theorem m_z21_ok (n : Nat) : ok_z21 (m_z21 n) := fun a0 a1 a2 a3 r h => mF_ok sound (sp_z21_ok n) code_z21_fn code_z21_body (nl (by kernel_rfl)) (no_scope (by kernel_rfl)) ((m_z21_eq n a0 a1 a2 a3).trans h) (fun v s hk => ⟨(K_z21_wk hk).1, rfl, (K_z21_wk hk).2⟩)
def m_z14 (n : Nat) (a0 : ByteArray) (a1 : List T) (a2 : Int) (a3 : Bool) : Option ((List T) × Int × Bool) :=
Option.bind (m_z21 n a0 a1 a2 a3) fun r0 =>
bif (!r0.1) then (
Option.bind (m_z13 n r0.2.1 r0.2.2.1 r0.2.2.2) fun r1 =>
some (r1.1, r1.2.1, r1.2.2))
else (
some (r0.2.1, (IntKind.wrap .i64 (r0.2.2.1 + 1)), r0.2.2.2))
def enc_z14 (r : (List T) × Int × Bool) : V := (V.tup [])
def encS_z14 (r : (List T) × Int × Bool) : Sig := [some [(V.t (T.list r.1)), (V.t (T.sc (.int .i64 r.2.1))), (V.t (T.sc (.bool r.2.2)))]]
def ok_z14 (m : ByteArray -> List T -> Int -> Bool -> Option ((List T) × Int × Bool)) : Prop := ∀ (a0 : ByteArray) (a1 : List T) (a2 : Int) (a3 : Bool) (r : (List T) × Int × Bool), m a0 a1 a2 a3 = some r -> FuncOk Tryz.prog 80 [(V.ptr 0 0), (V.t (T.sc (.string a0)))] [some [(V.t (T.list a1)), (V.t (T.sc (.int .i64 a2))), (V.t (T.sc (.bool a3)))]] (enc_z14 r) (encS_z14 r)
def c_z14 (m : ByteArray -> List T -> Int -> Bool -> Option ((List T) × Int × Bool)) (vs : List V) (sg : Sig) : Option CallM := bif Nat.beq vs.length 2 && Nat.beq sg.length 1 then Option.bind (V.ptrOf 0 0 (vs.getD 0 .any)) fun u0 => Option.bind (V.strOf (vs.getD 1 .any)) fun u1 => Option.bind (cellsN 3 sg 0) fun g0 => Option.bind (V.lstOf (g0.getD 0 .any)) fun g1 => Option.bind (V.intOf .i64 (g0.getD 1 .any)) fun g2 => Option.bind (V.boolOf (g0.getD 2 .any)) fun g3 => some { α := (List T) × Int × Bool, m := m u1 g1 g2 g3, dflt := ([], 0, false), enc := fun y => ((V.tup []), [some [(V.t (T.list y.1)), (V.t (T.sc (.int .i64 y.2.1))), (V.t (T.sc (.bool y.2.2)))]]) } else none
theorem c_z14_ok (m : ByteArray -> List T -> Int -> Bool -> Option ((List T) × Int × Bool)) (hm : ok_z14 m) (vs : List V) (sg : Sig) (cm : CallM) (x : cm.α) (h : c_z14 m vs sg = some cm) (hx : cm.m = some x) : FuncOk Tryz.prog 80 vs sg (cm.enc x).1 (cm.enc x).2 := by
 unfold c_z14 at h
 obtain ⟨hl, hs, h⟩ := callee_sig h
 obtain ⟨u0, hu0, u1, hu1, g0, hg0, g1, hg1, h⟩ := ob4 h
 obtain ⟨g2, hg2, g3, hg3, h⟩ := ob2 h
 cases h
 exact (hm u1 g1 g2 g3 x hx).wk (args_wk hl (.cons (pW hu0) (.cons (sW hu1) .nil))) (wkSg_of hs (.cons (nW hg0 (.cons (lW hg1) (.cons (iW hg2) (.cons (bW hg3) .nil)))) .nil))
def code_z14 : Code := Tryz.f80.body.getD .skip
def sp_z14 (n : Nat) : Go.Eng.Spec := ⟨fun f vs sg => (match f with
  | 117 => c_z21 (m_z21 n) vs sg
  | 79 => c_z13 (m_z13 n) vs sg
  | _ => none), fun R key E sg K => (match key with
  | _ => none)⟩
theorem sp_z14_ok (n : Nat) : CallsOk Tryz.prog (sp_z14 n) := by
 intro f vs sg cm x h hx
 simp only [sp_z14] at h
 split at h
 ·exact c_z21_ok _ (m_z21_ok n) vs sg cm x h hx
 ·exact c_z13_ok _ (m_z13_ok n) vs sg cm x h hx
 ·cases h
theorem code_z14_fn : Tryz.prog.funcs[80]? = some Tryz.f80 := Tryz.func80
theorem code_z14_body : Tryz.f80.body = some code_z14 := by kernel_rfl
def K_z14 (v : V) (s : Sig) : Option ((List T) × Int × Bool) := Option.bind (V.tupN 0 v) fun u0 => Option.bind (cellsN 3 s 0) fun g0 => Option.bind (V.lstOf (g0.getD 0 .any)) fun g1 => Option.bind (V.intOf .i64 (g0.getD 1 .any)) fun g2 => Option.bind (V.boolOf (g0.getD 2 .any)) fun g3 => some (g1, g2, g3)
theorem K_z14_wk {v : V} {s : Sig} {r : (List T) × Int × Bool} (h : K_z14 v s = some r) : Wk v (enc_z14 r) /\ WkS 1 s (encS_z14 r) := by
 unfold K_z14 at h
 obtain ⟨u0, hu0, g0, hg0, g1, hg1, g2, hg2, h⟩ := ob4 h
 obtain ⟨g3, hg3, h⟩ := ob h
 cases h
 exact ⟨(tupN_wk hu0 .nil), (wkR_sig (WkR.cons (nW hg0 (.cons (lW hg1) (.cons (iW hg2) (.cons (bW hg3) .nil)))).1 (nW hg0 (.cons (lW hg1) (.cons (iW hg2) (.cons (bW hg3) .nil)))).2 (renL_mem (.cons rfl (.cons rfl (.cons rfl .nil)))) (WkR.nil _)) rfl)⟩
theorem m_z14_eq (n : Nat) (a0 : ByteArray) (a1 : List T) (a2 : Int) (a3 : Bool) : mF Tryz.prog (sp_z14 n) 80 [(V.ptr 0 0), (V.t (T.sc (.string a0)))] [some [(V.t (T.list a1)), (V.t (T.sc (.int .i64 a2))), (V.t (T.sc (.bool a3)))]] K_z14 = m_z14 n a0 a1 a2 a3 := by kernel_rfl
theorem m_z14_ok (n : Nat) : ok_z14 (m_z14 n) := fun a0 a1 a2 a3 r h => mF_ok sound (sp_z14_ok n) code_z14_fn code_z14_body (nl (by kernel_rfl)) (no_scope (by kernel_rfl)) ((m_z14_eq n a0 a1 a2 a3).trans h) (fun v s hk => ⟨(K_z14_wk hk).1, rfl, (K_z14_wk hk).2⟩)
def m_z3 (n : Nat) (a0 : List T) : Option ((List T)) :=
must true (decide (0 <= 0) && decide (0 <= ((List.length a0 : Nat) : Int)) && decide (((List.length a0 : Nat) : Int) <= ((List.length a0 : Nat) : Int)) && sized 11 a0) (must true (decide (((List.length a0 : Nat) : Int) = ((List.length a0 : Nat) : Int))) (some (List.drop (Int.toNat 0) (List.take (Int.toNat ((List.length a0 : Nat) : Int)) a0))))
def enc_z3 (r : (List T)) : V := (V.own 11 r)
def encS_z3 (r : (List T)) : Sig := []
def ok_z3 (m : List T -> Option ((List T))) : Prop := ∀ (a0 : List T) (r : (List T)), m a0 = some r -> FuncOk Tryz.prog 119 [(V.t (T.list a0))] [] (enc_z3 r) (encS_z3 r)
def c_z3 (m : List T -> Option ((List T))) (vs : List V) (sg : Sig) : Option CallM := bif Nat.beq vs.length 1 && Nat.beq sg.length 0 then Option.bind (V.lstOf (vs.getD 0 .any)) fun u0 => some { α := (List T), m := m u0, dflt := [], enc := fun y => ((V.own 11 y), []) } else none
theorem c_z3_ok (m : List T -> Option ((List T))) (hm : ok_z3 m) (vs : List V) (sg : Sig) (cm : CallM) (x : cm.α) (h : c_z3 m vs sg = some cm) (hx : cm.m = some x) : FuncOk Tryz.prog 119 vs sg (cm.enc x).1 (cm.enc x).2 := by
 unfold c_z3 at h
 obtain ⟨hl, hs, h⟩ := callee_sig h
 obtain ⟨u0, hu0, h⟩ := ob h
 cases h
 exact (hm u0 x hx).wk (args_wk hl (.cons (lW hu0) .nil)) (wkSg_of hs .nil)
def code_z3 : Code := Tryz.f119.body.getD .skip
def sp_z3 (n : Nat) : Go.Eng.Spec := ⟨fun f vs sg => (match f with
  | _ => none), fun R key E sg K => (match key with
  | _ => none)⟩
theorem sp_z3_ok (n : Nat) : CallsOk Tryz.prog (sp_z3 n) := by
 intro f vs sg cm x h hx
 have h : (none : Option CallM) = some cm := h
 cases h
theorem code_z3_fn : Tryz.prog.funcs[119]? = some Tryz.f119 := Tryz.func119
theorem code_z3_body : Tryz.f119.body = some code_z3 := by kernel_rfl
def K_z3 (v : V) (s : Sig) : Option ((List T)) := Option.bind (V.ownOf 11 v) fun u0 => some u0
theorem K_z3_wk {v : V} {s : Sig} {r : (List T)} (h : K_z3 v s = some r) : Wk v (enc_z3 r) /\ WkS 0 s (encS_z3 r) := by
 unfold K_z3 at h
 obtain ⟨u0, hu0, h⟩ := ob h
 cases h
 exact ⟨(oW hu0), (WkS.none _)⟩
theorem m_z3_eq (n : Nat) (a0 : List T) : mF Tryz.prog (sp_z3 n) 119 [(V.t (T.list a0))] [] K_z3 = m_z3 n a0 := by kernel_rfl
theorem m_z3_ok (n : Nat) : ok_z3 (m_z3 n) := fun a0 r h => mF_ok sound (sp_z3_ok n) code_z3_fn code_z3_body (nl (by kernel_rfl)) (no_scope (by kernel_rfl)) ((m_z3_eq n a0).trans h) (fun v s hk => ⟨(K_z3_wk hk).1, rfl, (K_z3_wk hk).2⟩)
def m_z23 (n : Nat) (a0 : ByteArray) (a1 : List T) (a2 : Int) (a3 : Bool) : Option (Bool × (List T) × Int × Bool) :=
Option.bind (idx ((!a3)) [.int .i64, .str, .int .i64, .cplx .f64] a1 a2) fun y0 =>
Option.bind (idx ((bif (!a3) then (((y0.cell 0).int : Int) == 3) else false)) [.int .i64, .str, .int .i64, .cplx .f64] a1 a2) fun y1 =>
some ((bif (bif (!a3) then (((y0.cell 0).int : Int) == 3) else false) then (ByteArray.toList (y1.cell 1).str == ByteArray.toList a0) else false), a1, a2, a3)
def enc_z23 (r : Bool × (List T) × Int × Bool) : V := (V.t (T.sc (.bool r.1)))
def encS_z23 (r : Bool × (List T) × Int × Bool) : Sig := [some [(V.t (T.list r.2.1)), (V.t (T.sc (.int .i64 r.2.2.1))), (V.t (T.sc (.bool r.2.2.2)))]]
def ok_z23 (m : ByteArray -> List T -> Int -> Bool -> Option (Bool × (List T) × Int × Bool)) : Prop := ∀ (a0 : ByteArray) (a1 : List T) (a2 : Int) (a3 : Bool) (r : Bool × (List T) × Int × Bool), m a0 a1 a2 a3 = some r -> FuncOk Tryz.prog 181 [(V.ptr 0 0), (V.t (T.sc (.string a0)))] [some [(V.t (T.list a1)), (V.t (T.sc (.int .i64 a2))), (V.t (T.sc (.bool a3)))]] (enc_z23 r) (encS_z23 r)
def c_z23 (m : ByteArray -> List T -> Int -> Bool -> Option (Bool × (List T) × Int × Bool)) (vs : List V) (sg : Sig) : Option CallM := bif Nat.beq vs.length 2 && Nat.beq sg.length 1 then Option.bind (V.ptrOf 0 0 (vs.getD 0 .any)) fun u0 => Option.bind (V.strOf (vs.getD 1 .any)) fun u1 => Option.bind (cellsN 3 sg 0) fun g0 => Option.bind (V.lstOf (g0.getD 0 .any)) fun g1 => Option.bind (V.intOf .i64 (g0.getD 1 .any)) fun g2 => Option.bind (V.boolOf (g0.getD 2 .any)) fun g3 => some { α := Bool × (List T) × Int × Bool, m := m u1 g1 g2 g3, dflt := (false, [], 0, false), enc := fun y => ((V.t (T.sc (.bool y.1))), [some [(V.t (T.list y.2.1)), (V.t (T.sc (.int .i64 y.2.2.1))), (V.t (T.sc (.bool y.2.2.2)))]]) } else none
theorem c_z23_ok (m : ByteArray -> List T -> Int -> Bool -> Option (Bool × (List T) × Int × Bool)) (hm : ok_z23 m) (vs : List V) (sg : Sig) (cm : CallM) (x : cm.α) (h : c_z23 m vs sg = some cm) (hx : cm.m = some x) : FuncOk Tryz.prog 181 vs sg (cm.enc x).1 (cm.enc x).2 := by
 unfold c_z23 at h
 obtain ⟨hl, hs, h⟩ := callee_sig h
 obtain ⟨u0, hu0, u1, hu1, g0, hg0, g1, hg1, h⟩ := ob4 h
 obtain ⟨g2, hg2, g3, hg3, h⟩ := ob2 h
 cases h
 exact (hm u1 g1 g2 g3 x hx).wk (args_wk hl (.cons (pW hu0) (.cons (sW hu1) .nil))) (wkSg_of hs (.cons (nW hg0 (.cons (lW hg1) (.cons (iW hg2) (.cons (bW hg3) .nil)))) .nil))
def code_z23 : Code := Tryz.f181.body.getD .skip
def sp_z23 (n : Nat) : Go.Eng.Spec := ⟨fun f vs sg => (match f with
  | _ => none), fun R key E sg K => (match key with
  | _ => none)⟩
theorem sp_z23_ok (n : Nat) : CallsOk Tryz.prog (sp_z23 n) := by
 intro f vs sg cm x h hx
 have h : (none : Option CallM) = some cm := h
 cases h
theorem code_z23_fn : Tryz.prog.funcs[181]? = some Tryz.f181 := Tryz.func181
theorem code_z23_body : Tryz.f181.body = some code_z23 := by kernel_rfl
def K_z23 (v : V) (s : Sig) : Option (Bool × (List T) × Int × Bool) := Option.bind (V.boolOf v) fun u0 => Option.bind (cellsN 3 s 0) fun g0 => Option.bind (V.lstOf (g0.getD 0 .any)) fun g1 => Option.bind (V.intOf .i64 (g0.getD 1 .any)) fun g2 => Option.bind (V.boolOf (g0.getD 2 .any)) fun g3 => some (u0, g1, g2, g3)
theorem K_z23_wk {v : V} {s : Sig} {r : Bool × (List T) × Int × Bool} (h : K_z23 v s = some r) : Wk v (enc_z23 r) /\ WkS 1 s (encS_z23 r) := by
 unfold K_z23 at h
 obtain ⟨u0, hu0, g0, hg0, g1, hg1, g2, hg2, h⟩ := ob4 h
 obtain ⟨g3, hg3, h⟩ := ob h
 cases h
 exact ⟨(bW hu0), (wkR_sig (WkR.cons (nW hg0 (.cons (lW hg1) (.cons (iW hg2) (.cons (bW hg3) .nil)))).1 (nW hg0 (.cons (lW hg1) (.cons (iW hg2) (.cons (bW hg3) .nil)))).2 (renL_mem (.cons rfl (.cons rfl (.cons rfl .nil)))) (WkR.nil _)) rfl)⟩
theorem m_z23_eq (n : Nat) (a0 : ByteArray) (a1 : List T) (a2 : Int) (a3 : Bool) : mF Tryz.prog (sp_z23 n) 181 [(V.ptr 0 0), (V.t (T.sc (.string a0)))] [some [(V.t (T.list a1)), (V.t (T.sc (.int .i64 a2))), (V.t (T.sc (.bool a3)))]] K_z23 = m_z23 n a0 a1 a2 a3 := by kernel_rfl
theorem m_z23_ok (n : Nat) : ok_z23 (m_z23 n) := fun a0 a1 a2 a3 r h => mF_ok sound (sp_z23_ok n) code_z23_fn code_z23_body (nl (by kernel_rfl)) (no_scope (by kernel_rfl)) ((m_z23_eq n a0 a1 a2 a3).trans h) (fun v s hk => ⟨(K_z23_wk hk).1, rfl, (K_z23_wk hk).2⟩)
def m_z19 (n : Nat) (a0 : List T) (a1 : Int) (a2 : Bool) : Option (Int × Int × ByteArray × (List T) × (List T) × Int × Bool) :=
some (0, 0, (⟨#[]⟩ : ByteArray), ([] : List T), a0, a1, true)
def enc_z19 (r : Int × Int × ByteArray × (List T) × (List T) × Int × Bool) : V := (V.agg [(V.t (T.sc (.int .i64 r.1))), (V.t (T.sc (.int .i64 r.2.1))), (V.t (T.sc (.string r.2.2.1))), (V.t (T.list r.2.2.2.1))])
def encS_z19 (r : Int × Int × ByteArray × (List T) × (List T) × Int × Bool) : Sig := [some [(V.t (T.list r.2.2.2.2.1)), (V.t (T.sc (.int .i64 r.2.2.2.2.2.1))), (V.t (T.sc (.bool r.2.2.2.2.2.2)))]]
def ok_z19 (m : List T -> Int -> Bool -> Option (Int × Int × ByteArray × (List T) × (List T) × Int × Bool)) : Prop := ∀ (a0 : List T) (a1 : Int) (a2 : Bool) (r : Int × Int × ByteArray × (List T) × (List T) × Int × Bool), m a0 a1 a2 = some r -> FuncOk Tryz.prog 182 [(V.ptr 0 0)] [some [(V.t (T.list a0)), (V.t (T.sc (.int .i64 a1))), (V.t (T.sc (.bool a2)))]] (enc_z19 r) (encS_z19 r)
def c_z19 (m : List T -> Int -> Bool -> Option (Int × Int × ByteArray × (List T) × (List T) × Int × Bool)) (vs : List V) (sg : Sig) : Option CallM := bif Nat.beq vs.length 1 && Nat.beq sg.length 1 then Option.bind (V.ptrOf 0 0 (vs.getD 0 .any)) fun u0 => Option.bind (cellsN 3 sg 0) fun g0 => Option.bind (V.lstOf (g0.getD 0 .any)) fun g1 => Option.bind (V.intOf .i64 (g0.getD 1 .any)) fun g2 => Option.bind (V.boolOf (g0.getD 2 .any)) fun g3 => some { α := Int × Int × ByteArray × (List T) × (List T) × Int × Bool, m := m g1 g2 g3, dflt := (0, 0, default, [], [], 0, false), enc := fun y => ((V.agg [(V.t (T.sc (.int .i64 y.1))), (V.t (T.sc (.int .i64 y.2.1))), (V.t (T.sc (.string y.2.2.1))), (V.t (T.list y.2.2.2.1))]), [some [(V.t (T.list y.2.2.2.2.1)), (V.t (T.sc (.int .i64 y.2.2.2.2.2.1))), (V.t (T.sc (.bool y.2.2.2.2.2.2)))]]) } else none
theorem c_z19_ok (m : List T -> Int -> Bool -> Option (Int × Int × ByteArray × (List T) × (List T) × Int × Bool)) (hm : ok_z19 m) (vs : List V) (sg : Sig) (cm : CallM) (x : cm.α) (h : c_z19 m vs sg = some cm) (hx : cm.m = some x) : FuncOk Tryz.prog 182 vs sg (cm.enc x).1 (cm.enc x).2 := by
 unfold c_z19 at h
 obtain ⟨hl, hs, h⟩ := callee_sig h
 obtain ⟨u0, hu0, g0, hg0, g1, hg1, g2, hg2, h⟩ := ob4 h
 obtain ⟨g3, hg3, h⟩ := ob h
 cases h
 exact (hm g1 g2 g3 x hx).wk (args_wk hl (.cons (pW hu0) .nil)) (wkSg_of hs (.cons (nW hg0 (.cons (lW hg1) (.cons (iW hg2) (.cons (bW hg3) .nil)))) .nil))
def code_z19 : Code := Tryz.f182.body.getD .skip
def sp_z19 (n : Nat) : Go.Eng.Spec := ⟨fun f vs sg => (match f with
  | _ => none), fun R key E sg K => (match key with
  | _ => none)⟩
theorem sp_z19_ok (n : Nat) : CallsOk Tryz.prog (sp_z19 n) := by
 intro f vs sg cm x h hx
 have h : (none : Option CallM) = some cm := h
 cases h
theorem code_z19_fn : Tryz.prog.funcs[182]? = some Tryz.f182 := Tryz.func182
theorem code_z19_body : Tryz.f182.body = some code_z19 := by kernel_rfl
def K_z19 (v : V) (s : Sig) : Option (Int × Int × ByteArray × (List T) × (List T) × Int × Bool) := Option.bind (V.aggN 4 v) fun u0 => Option.bind (V.intOf .i64 (u0.getD 0 .any)) fun u1 => Option.bind (V.intOf .i64 (u0.getD 1 .any)) fun u2 => Option.bind (V.strOf (u0.getD 2 .any)) fun u3 => Option.bind (V.lstOf (u0.getD 3 .any)) fun u4 => Option.bind (cellsN 3 s 0) fun g0 => Option.bind (V.lstOf (g0.getD 0 .any)) fun g1 => Option.bind (V.intOf .i64 (g0.getD 1 .any)) fun g2 => Option.bind (V.boolOf (g0.getD 2 .any)) fun g3 => some (u1, u2, u3, u4, g1, g2, g3)
theorem K_z19_wk {v : V} {s : Sig} {r : Int × Int × ByteArray × (List T) × (List T) × Int × Bool} (h : K_z19 v s = some r) : Wk v (enc_z19 r) /\ WkS 1 s (encS_z19 r) := by
 unfold K_z19 at h
 obtain ⟨u0, hu0, u1, hu1, u2, hu2, u3, hu3, h⟩ := ob4 h
 obtain ⟨u4, hu4, g0, hg0, g1, hg1, g2, hg2, h⟩ := ob4 h
 obtain ⟨g3, hg3, h⟩ := ob h
 cases h
 exact ⟨(aggN_wk hu0 (.cons (iW hu1) (.cons (iW hu2) (.cons (sW hu3) (.cons (lW hu4) .nil))))), (wkR_sig (WkR.cons (nW hg0 (.cons (lW hg1) (.cons (iW hg2) (.cons (bW hg3) .nil)))).1 (nW hg0 (.cons (lW hg1) (.cons (iW hg2) (.cons (bW hg3) .nil)))).2 (renL_mem (.cons rfl (.cons rfl (.cons rfl .nil)))) (WkR.nil _)) rfl)⟩
theorem m_z19_eq (n : Nat) (a0 : List T) (a1 : Int) (a2 : Bool) : mF Tryz.prog (sp_z19 n) 182 [(V.ptr 0 0)] [some [(V.t (T.list a0)), (V.t (T.sc (.int .i64 a1))), (V.t (T.sc (.bool a2)))]] K_z19 = m_z19 n a0 a1 a2 := by kernel_rfl
theorem m_z19_ok (n : Nat) : ok_z19 (m_z19 n) := fun a0 a1 a2 r h => mF_ok sound (sp_z19_ok n) code_z19_fn code_z19_body (nl (by kernel_rfl)) (no_scope (by kernel_rfl)) ((m_z19_eq n a0 a1 a2).trans h) (fun v s hk => ⟨(K_z19_wk hk).1, rfl, (K_z19_wk hk).2⟩)
def m_z43 (n : Nat) (a0 : Int) (a1 : ByteArray) (a2 : Int) (a3 : Nat × Nat) (a4 : Int) : Option (Int) := opM a0 a1 a4
def enc_z43 (r : Int) : V := (V.t (T.sc (.int .i64 r)))
def encS_z43 (r : Int) : Sig := []
def ok_z43 (m : Int -> ByteArray -> Int -> Nat × Nat -> Int -> Option (Int)) : Prop := ∀ (a0 : Int) (a1 : ByteArray) (a2 : Int) (a3 : Nat × Nat) (a4 : Int) (r : Int), m a0 a1 a2 a3 a4 = some r -> FuncOk Tryz.prog 173 [(V.agg [(V.t (T.sc (.int .i64 a0))), (V.t (T.sc (.string a1))), (V.t (T.sc (.int .i64 a2))), (V.t (T.sc (.complex .f64 a3.1 a3.2)))]), (V.t (T.sc (.int .i64 a4)))] [] (enc_z43 r) (encS_z43 r)
def c_z43 (m : Int -> ByteArray -> Int -> Nat × Nat -> Int -> Option (Int)) (vs : List V) (sg : Sig) : Option CallM := bif Nat.beq vs.length 2 && Nat.beq sg.length 0 then Option.bind (V.aggN 4 (vs.getD 0 .any)) fun u0 => Option.bind (V.intOf .i64 (u0.getD 0 .any)) fun u1 => Option.bind (V.strOf (u0.getD 1 .any)) fun u2 => Option.bind (V.intOf .i64 (u0.getD 2 .any)) fun u3 => Option.bind (V.cplxOf .f64 (u0.getD 3 .any)) fun u4 => Option.bind (V.intOf .i64 (vs.getD 1 .any)) fun u5 => some { α := Int, m := m u1 u2 u3 u4 u5, dflt := 0, enc := fun y => ((V.t (T.sc (.int .i64 y))), []) } else none
theorem c_z43_ok (m : Int -> ByteArray -> Int -> Nat × Nat -> Int -> Option (Int)) (hm : ok_z43 m) (vs : List V) (sg : Sig) (cm : CallM) (x : cm.α) (h : c_z43 m vs sg = some cm) (hx : cm.m = some x) : FuncOk Tryz.prog 173 vs sg (cm.enc x).1 (cm.enc x).2 := by
 unfold c_z43 at h
 obtain ⟨hl, hs, h⟩ := callee_sig h
 obtain ⟨u0, hu0, u1, hu1, u2, hu2, u3, hu3, h⟩ := ob4 h
 obtain ⟨u4, hu4, u5, hu5, h⟩ := ob2 h
 cases h
 exact (hm u1 u2 u3 u4 u5 x hx).wk (args_wk hl (.cons (aggN_wk hu0 (.cons (iW hu1) (.cons (sW hu2) (.cons (iW hu3) (.cons (xW hu4) .nil))))) (.cons (iW hu5) .nil))) (wkSg_of hs .nil)
theorem m_z43_ok (n : Nat) : ok_z43 (m_z43 n) := fun a0 a1 a2 a3 a4 r h => x_z43 h
structure B_z11 where
 y1 : Int -> Int -> List T -> Int -> Bool -> Option (Int × Int × ByteArray × (List T) × (List T) × Int × Bool)
 y0 : Int -> List T -> Int -> Bool -> Option (Int × Int × ByteArray × (List T) × (List T) × Int × Bool)
def enc_z11 (r : Int × Int × ByteArray × (List T) × (List T) × Int × Bool) : V := (V.agg [(V.t (T.sc (.int .i64 r.1))), (V.t (T.sc (.int .i64 r.2.1))), (V.t (T.sc (.string r.2.2.1))), (V.t (T.list r.2.2.2.1))])
def encS_z11 (r : Int × Int × ByteArray × (List T) × (List T) × Int × Bool) : Sig := [some [(V.t (T.list r.2.2.2.2.1)), (V.t (T.sc (.int .i64 r.2.2.2.2.2.1))), (V.t (T.sc (.bool r.2.2.2.2.2.2)))]]
def ok_z11 (m : Int -> Int -> List T -> Int -> Bool -> Option (Int × Int × ByteArray × (List T) × (List T) × Int × Bool)) : Prop := ∀ (a0 : Int) (a1 : Int) (a2 : List T) (a3 : Int) (a4 : Bool) (r : Int × Int × ByteArray × (List T) × (List T) × Int × Bool), m a0 a1 a2 a3 a4 = some r -> FuncOk Tryz.prog 161 [(V.ptr 0 0), (V.t (T.sc (.int .i64 a0))), (V.t (T.sc (.int .i64 a1)))] [some [(V.t (T.list a2)), (V.t (T.sc (.int .i64 a3))), (V.t (T.sc (.bool a4)))]] (enc_z11 r) (encS_z11 r)
def c_z11 (m : Int -> Int -> List T -> Int -> Bool -> Option (Int × Int × ByteArray × (List T) × (List T) × Int × Bool)) (vs : List V) (sg : Sig) : Option CallM := bif Nat.beq vs.length 3 && Nat.beq sg.length 1 then Option.bind (V.ptrOf 0 0 (vs.getD 0 .any)) fun u0 => Option.bind (V.intOf .i64 (vs.getD 1 .any)) fun u1 => Option.bind (V.intOf .i64 (vs.getD 2 .any)) fun u2 => Option.bind (cellsN 3 sg 0) fun g0 => Option.bind (V.lstOf (g0.getD 0 .any)) fun g1 => Option.bind (V.intOf .i64 (g0.getD 1 .any)) fun g2 => Option.bind (V.boolOf (g0.getD 2 .any)) fun g3 => some { α := Int × Int × ByteArray × (List T) × (List T) × Int × Bool, m := m u1 u2 g1 g2 g3, dflt := (0, 0, default, [], [], 0, false), enc := fun y => ((V.agg [(V.t (T.sc (.int .i64 y.1))), (V.t (T.sc (.int .i64 y.2.1))), (V.t (T.sc (.string y.2.2.1))), (V.t (T.list y.2.2.2.1))]), [some [(V.t (T.list y.2.2.2.2.1)), (V.t (T.sc (.int .i64 y.2.2.2.2.2.1))), (V.t (T.sc (.bool y.2.2.2.2.2.2)))]]) } else none
theorem c_z11_ok (m : Int -> Int -> List T -> Int -> Bool -> Option (Int × Int × ByteArray × (List T) × (List T) × Int × Bool)) (hm : ok_z11 m) (vs : List V) (sg : Sig) (cm : CallM) (x : cm.α) (h : c_z11 m vs sg = some cm) (hx : cm.m = some x) : FuncOk Tryz.prog 161 vs sg (cm.enc x).1 (cm.enc x).2 := by
 unfold c_z11 at h
 obtain ⟨hl, hs, h⟩ := callee_sig h
 obtain ⟨u0, hu0, u1, hu1, u2, hu2, g0, hg0, h⟩ := ob4 h
 obtain ⟨g1, hg1, g2, hg2, h⟩ := ob2 h
 obtain ⟨g3, hg3, h⟩ := ob h
 cases h
 exact (hm u1 u2 g1 g2 g3 x hx).wk (args_wk hl (.cons (pW hu0) (.cons (iW hu1) (.cons (iW hu2) .nil)))) (wkSg_of hs (.cons (nW hg0 (.cons (lW hg1) (.cons (iW hg2) (.cons (bW hg3) .nil)))) .nil))
def enc___expr_reader__factor (r : Int × Int × ByteArray × (List T) × (List T) × Int × Bool) : V := (V.agg [(V.t (T.sc (.int .i64 r.1))), (V.t (T.sc (.int .i64 r.2.1))), (V.t (T.sc (.string r.2.2.1))), (V.t (T.list r.2.2.2.1))])
def encS___expr_reader__factor (r : Int × Int × ByteArray × (List T) × (List T) × Int × Bool) : Sig := [some [(V.t (T.list r.2.2.2.2.1)), (V.t (T.sc (.int .i64 r.2.2.2.2.2.1))), (V.t (T.sc (.bool r.2.2.2.2.2.2)))]]
def ok___expr_reader__factor (m : Int -> List T -> Int -> Bool -> Option (Int × Int × ByteArray × (List T) × (List T) × Int × Bool)) : Prop := ∀ (a0 : Int) (a1 : List T) (a2 : Int) (a3 : Bool) (r : Int × Int × ByteArray × (List T) × (List T) × Int × Bool), m a0 a1 a2 a3 = some r -> FuncOk Tryz.prog 172 [(V.ptr 0 0), (V.t (T.sc (.int .i64 a0)))] [some [(V.t (T.list a1)), (V.t (T.sc (.int .i64 a2))), (V.t (T.sc (.bool a3)))]] (enc___expr_reader__factor r) (encS___expr_reader__factor r)
def c___expr_reader__factor (m : Int -> List T -> Int -> Bool -> Option (Int × Int × ByteArray × (List T) × (List T) × Int × Bool)) (vs : List V) (sg : Sig) : Option CallM := bif Nat.beq vs.length 2 && Nat.beq sg.length 1 then Option.bind (V.ptrOf 0 0 (vs.getD 0 .any)) fun u0 => Option.bind (V.intOf .i64 (vs.getD 1 .any)) fun u1 => Option.bind (cellsN 3 sg 0) fun g0 => Option.bind (V.lstOf (g0.getD 0 .any)) fun g1 => Option.bind (V.intOf .i64 (g0.getD 1 .any)) fun g2 => Option.bind (V.boolOf (g0.getD 2 .any)) fun g3 => some { α := Int × Int × ByteArray × (List T) × (List T) × Int × Bool, m := m u1 g1 g2 g3, dflt := (0, 0, default, [], [], 0, false), enc := fun y => ((V.agg [(V.t (T.sc (.int .i64 y.1))), (V.t (T.sc (.int .i64 y.2.1))), (V.t (T.sc (.string y.2.2.1))), (V.t (T.list y.2.2.2.1))]), [some [(V.t (T.list y.2.2.2.2.1)), (V.t (T.sc (.int .i64 y.2.2.2.2.2.1))), (V.t (T.sc (.bool y.2.2.2.2.2.2)))]]) } else none
theorem c___expr_reader__factor_ok (m : Int -> List T -> Int -> Bool -> Option (Int × Int × ByteArray × (List T) × (List T) × Int × Bool)) (hm : ok___expr_reader__factor m) (vs : List V) (sg : Sig) (cm : CallM) (x : cm.α) (h : c___expr_reader__factor m vs sg = some cm) (hx : cm.m = some x) : FuncOk Tryz.prog 172 vs sg (cm.enc x).1 (cm.enc x).2 := by
 unfold c___expr_reader__factor at h
 obtain ⟨hl, hs, h⟩ := callee_sig h
 obtain ⟨u0, hu0, u1, hu1, g0, hg0, g1, hg1, h⟩ := ob4 h
 obtain ⟨g2, hg2, g3, hg3, h⟩ := ob2 h
 cases h
 exact (hm u1 g1 g2 g3 x hx).wk (args_wk hl (.cons (pW hu0) (.cons (iW hu1) .nil))) (wkSg_of hs (.cons (nW hg0 (.cons (lW hg1) (.cons (iW hg2) (.cons (bW hg3) .nil)))) .nil))
structure B_z11_ok (b : B_z11) : Prop where
 y1 : ok_z11 b.y1
 y0 : ok___expr_reader__factor b.y0
def l_z11_4_B (b : B_z11) (n : Nat) (k : Int × Int × (List T) × Int × Bool × Int × Int × ByteArray × (List T) × Int × Int × ByteArray × (List T) -> Option ((List T) × Int × Bool × Int × Int × ByteArray × (List T) × Int × Int × ByteArray × (List T))) : Int × Int × (List T) × Int × Bool × Int × Int × ByteArray × (List T) × Int × Int × ByteArray × (List T) -> Option ((List T) × Int × Bool × Int × Int × ByteArray × (List T) × Int × Int × ByteArray × (List T)) := fun (s0, s1, s2, s3, s4, s5, s6, s7, s8, s9, s10, s11, s12) =>
bif (!s4) then (
Option.bind (idx true [.int .i64, .str, .int .i64, .cplx .f64] s2 s3) fun y2 =>
Option.bind (m_z43 n (y2.cell 0).int (y2.cell 1).str (y2.cell 2).int ((y2.cell 3).re, (y2.cell 3).im) s0) fun r3 =>
bif ((r3 : Int) == 0) then (
some (s2, s3, s4, s5, s6, s7, s8, s9, s10, s11, s12))
else (
Option.bind (b.y1 (IntKind.wrap .i64 (s0 + 1)) s1 s2 (IntKind.wrap .i64 (s3 + 1)) s4) fun r4 =>
bif ((s0 : Int) == 0) then (
some (r4.2.2.2.2.1, r4.2.2.2.2.2.1, r4.2.2.2.2.2.2, s5, s6, s7, s8, r3, 0, (⟨#[]⟩ : ByteArray), [(T.agg [(T.sc (.int .i64 s9)), (T.sc (.int .i64 s10)), (T.sc (.string s11)), (T.list s12)]), (T.agg [(T.sc (.int .i64 r4.1)), (T.sc (.int .i64 r4.2.1)), (T.sc (.string r4.2.2.1)), (T.list r4.2.2.2.1)])]))
else (
k (s0, s1, r4.2.2.2.2.1, r4.2.2.2.2.2.1, r4.2.2.2.2.2.2, s5, s6, s7, s8, r3, 0, (⟨#[]⟩ : ByteArray), [(T.agg [(T.sc (.int .i64 s9)), (T.sc (.int .i64 s10)), (T.sc (.string s11)), (T.list s12)]), (T.agg [(T.sc (.int .i64 r4.1)), (T.sc (.int .i64 r4.2.1)), (T.sc (.string r4.2.2.1)), (T.list r4.2.2.2.1)])]))))
else (
some (s2, s3, s4, s5, s6, s7, s8, s9, s10, s11, s12))
def l_z11_4 (b : B_z11) (n : Nat) : Nat -> Int × Int × (List T) × Int × Bool × Int × Int × ByteArray × (List T) × Int × Int × ByteArray × (List T) -> Option ((List T) × Int × Bool × Int × Int × ByteArray × (List T) × Int × Int × ByteArray × (List T))
 | 0, _ => none
 | m + 1, s => l_z11_4_B b n (l_z11_4 b n m) s
def f_z11 (b : B_z11) (n : Nat) (a0 : Int) (a1 : Int) (a2 : List T) (a3 : Int) (a4 : Bool) : Option (Int × Int × ByteArray × (List T) × (List T) × Int × Bool) :=
bif ((a0 : Int) == 3) then (
Option.bind (b.y0 a1 a2 a3 a4) fun r0 =>
some (r0.1, r0.2.1, r0.2.2.1, r0.2.2.2.1, r0.2.2.2.2.1, r0.2.2.2.2.2.1, r0.2.2.2.2.2.2))
else (
Option.bind (b.y1 (IntKind.wrap .i64 (a0 + 1)) a1 a2 a3 a4) fun r1 =>
Option.bind (l_z11_4 b n n (a0, a1, r1.2.2.2.2.1, r1.2.2.2.2.2.1, r1.2.2.2.2.2.2, 0, 0, (⟨#[]⟩ : ByteArray), ([] : List T), r1.1, r1.2.1, r1.2.2.1, r1.2.2.2.1)) fun p6 =>
some (p6.2.2.2.2.2.2.2.1, p6.2.2.2.2.2.2.2.2.1, p6.2.2.2.2.2.2.2.2.2.1, p6.2.2.2.2.2.2.2.2.2.2, p6.1, p6.2.1, p6.2.2.1))
def code_z11 : Code := Tryz.f161.body.getD .skip
def l_z11_4_S (b : B_z11) (n : Nat) (R : Type) (E : SEnv) (sg : Sig) (K : Ex -> SEnv -> Sig -> Option R) : Option R := Option.bind (V.ptrOf 0 0 (SEnv.at E 0)) fun u0 => Option.bind (V.intOf .i64 (SEnv.at E 1)) fun u1 => Option.bind (V.intOf .i64 (SEnv.at E 2)) fun u2 => Option.bind (V.ptrOf 1 0 (SEnv.at E 6)) fun u3 => Option.bind (V.ptrOf 2 0 (SEnv.at E 7)) fun u4 => Option.bind (cellsN 3 sg 0) fun u5 => Option.bind (V.lstOf (u5.getD 0 .any)) fun u6 => Option.bind (V.intOf .i64 (u5.getD 1 .any)) fun u7 => Option.bind (V.boolOf (u5.getD 2 .any)) fun u8 => Option.bind (cellsN 4 sg 1) fun u9 => Option.bind (V.intOf .i64 (u9.getD 0 .any)) fun u10 => Option.bind (V.intOf .i64 (u9.getD 1 .any)) fun u11 => Option.bind (V.strOf (u9.getD 2 .any)) fun u12 => Option.bind (V.ownOf 0 (u9.getD 3 .any)) fun u13 => Option.bind (cellsN 4 sg 2) fun u14 => Option.bind (V.intOf .i64 (u14.getD 0 .any)) fun u15 => Option.bind (V.intOf .i64 (u14.getD 1 .any)) fun u16 => Option.bind (V.strOf (u14.getD 2 .any)) fun u17 => Option.bind (V.lstOf (u14.getD 3 .any)) fun u18 => Option.bind (l_z11_4 b n n (u1, u2, u6, u7, u8, u10, u11, u12, u13, u15, u16, u17, u18)) fun p0 => K (.exit 0) [(6, (V.ptr 1 0)), (7, (V.ptr 2 0))] [some [(V.t (T.list p0.1)), (V.t (T.sc (.int .i64 p0.2.1))), (V.t (T.sc (.bool p0.2.2.1)))], some [(V.t (T.sc (.int .i64 p0.2.2.2.1))), (V.t (T.sc (.int .i64 p0.2.2.2.2.1))), (V.t (T.sc (.string p0.2.2.2.2.2.1))), (V.own 0 p0.2.2.2.2.2.2.1)], some [(V.t (T.sc (.int .i64 p0.2.2.2.2.2.2.2.1))), (V.t (T.sc (.int .i64 p0.2.2.2.2.2.2.2.2.1))), (V.t (T.sc (.string p0.2.2.2.2.2.2.2.2.2.1))), (V.t (T.list p0.2.2.2.2.2.2.2.2.2.2))]]
def sp_z11 (b : B_z11) (n : Nat) : Go.Eng.Spec := ⟨fun f vs sg => (match f with
  | 172 => c___expr_reader__factor b.y0 vs sg
  | 161 => c_z11 b.y1 vs sg
  | 173 => c_z43 (m_z43 n) vs sg
  | _ => none), fun R key E sg K => (match key with
  | 4 => l_z11_4_S b n R E sg K
  | _ => none)⟩
theorem sp_z11_ok (b : B_z11) (hb : B_z11_ok b) (n : Nat) : CallsOk Tryz.prog (sp_z11 b n) := by
 intro f vs sg cm x h hx
 simp only [sp_z11] at h
 split at h
 ·exact c___expr_reader__factor_ok _ hb.y0 vs sg cm x h hx
 ·exact c_z11_ok _ hb.y1 vs sg cm x h hx
 ·exact c_z43_ok _ (m_z43_ok n) vs sg cm x h hx
 ·cases h
theorem code_z11_fn : Tryz.prog.funcs[161]? = some Tryz.f161 := Tryz.func161
theorem code_z11_body : Tryz.f161.body = some code_z11 := by kernel_rfl
theorem code_z11_ok : CodeOk Tryz.prog code_z11 := (sound 161 _ _ code_z11_fn code_z11_body).1
def code_l_z11_4 : Code := (loopsOf code_z11).getD 0 .skip
theorem code_l_z11_4_ok : CodeOk Tryz.prog code_l_z11_4 := codeOk_loops code_z11_ok _ (getD_mem (by kernel_rfl))
def l_z11_4_K (k : Int × Int × (List T) × Int × Bool × Int × Int × ByteArray × (List T) × Int × Int × ByteArray × (List T) -> Option ((List T) × Int × Bool × Int × Int × ByteArray × (List T) × Int × Int × ByteArray × (List T))) : Ex -> SEnv -> Sig -> Option ((List T) × Int × Bool × Int × Int × ByteArray × (List T) × Int × Int × ByteArray × (List T)) := fun x E sg => match x with
 | .normal => Option.bind (V.ptrOf 0 0 (SEnv.at E 0)) fun u0 => Option.bind (V.intOf .i64 (SEnv.at E 1)) fun u1 => Option.bind (V.intOf .i64 (SEnv.at E 2)) fun u2 => Option.bind (V.ptrOf 1 0 (SEnv.at E 6)) fun u3 => Option.bind (V.ptrOf 2 0 (SEnv.at E 7)) fun u4 => Option.bind (cellsN 3 sg 0) fun u5 => Option.bind (V.lstOf (u5.getD 0 .any)) fun u6 => Option.bind (V.intOf .i64 (u5.getD 1 .any)) fun u7 => Option.bind (V.boolOf (u5.getD 2 .any)) fun u8 => Option.bind (cellsN 4 sg 1) fun u9 => Option.bind (V.intOf .i64 (u9.getD 0 .any)) fun u10 => Option.bind (V.intOf .i64 (u9.getD 1 .any)) fun u11 => Option.bind (V.strOf (u9.getD 2 .any)) fun u12 => Option.bind (V.ownOf 0 (u9.getD 3 .any)) fun u13 => Option.bind (cellsN 4 sg 2) fun u14 => Option.bind (V.intOf .i64 (u14.getD 0 .any)) fun u15 => Option.bind (V.intOf .i64 (u14.getD 1 .any)) fun u16 => Option.bind (V.strOf (u14.getD 2 .any)) fun u17 => Option.bind (V.lstOf (u14.getD 3 .any)) fun u18 => k (u1, u2, u6, u7, u8, u10, u11, u12, u13, u15, u16, u17, u18)
 | (.exit 0) => Option.bind (V.ptrOf 1 0 (SEnv.at E 6)) fun u0 => Option.bind (V.ptrOf 2 0 (SEnv.at E 7)) fun u1 => Option.bind (cellsN 3 sg 0) fun u2 => Option.bind (V.lstOf (u2.getD 0 .any)) fun u3 => Option.bind (V.intOf .i64 (u2.getD 1 .any)) fun u4 => Option.bind (V.boolOf (u2.getD 2 .any)) fun u5 => Option.bind (cellsN 4 sg 1) fun u6 => Option.bind (V.intOf .i64 (u6.getD 0 .any)) fun u7 => Option.bind (V.intOf .i64 (u6.getD 1 .any)) fun u8 => Option.bind (V.strOf (u6.getD 2 .any)) fun u9 => Option.bind (V.ownOf 0 (u6.getD 3 .any)) fun u10 => Option.bind (cellsN 4 sg 2) fun u11 => Option.bind (V.intOf .i64 (u11.getD 0 .any)) fun u12 => Option.bind (V.intOf .i64 (u11.getD 1 .any)) fun u13 => Option.bind (V.strOf (u11.getD 2 .any)) fun u14 => Option.bind (V.lstOf (u11.getD 3 .any)) fun u15 => some (u3, u4, u5, u7, u8, u9, u10, u12, u13, u14, u15)
 | _ => none
theorem l_z11_4_eq (b : B_z11) (n : Nat) (k : Int × Int × (List T) × Int × Bool × Int × Int × ByteArray × (List T) × Int × Int × ByteArray × (List T) -> Option ((List T) × Int × Bool × Int × Int × ByteArray × (List T) × Int × Int × ByteArray × (List T))) (s0 : Int) (s1 : Int) (s2 : List T) (s3 : Int) (s4 : Bool) (s5 : Int) (s6 : Int) (s7 : ByteArray) (s8 : List T) (s9 : Int) (s10 : Int) (s11 : ByteArray) (s12 : List T) : mX Tryz.prog (sp_z11 b n) 57 code_l_z11_4 [(0, (V.ptr 0 0)), (1, (V.t (T.sc (.int .i64 s0)))), (2, (V.t (T.sc (.int .i64 s1)))), (6, (V.ptr 1 0)), (7, (V.ptr 2 0))] [some [(V.t (T.list s2)), (V.t (T.sc (.int .i64 s3))), (V.t (T.sc (.bool s4)))], some [(V.t (T.sc (.int .i64 s5))), (V.t (T.sc (.int .i64 s6))), (V.t (T.sc (.string s7))), (V.own 0 s8)], some [(V.t (T.sc (.int .i64 s9))), (V.t (T.sc (.int .i64 s10))), (V.t (T.sc (.string s11))), (V.t (T.list s12))]] (l_z11_4_K k) = l_z11_4_B b n k (s0, s1, s2, s3, s4, s5, s6, s7, s8, s9, s10, s11, s12) := by kernel_rfl
def l_z11_4_Q (x : (List T) × Int × Bool × Int × Int × ByteArray × (List T) × Int × Int × ByteArray × (List T)) (ex : Ex) (e : Env) (s : Sig) : Prop := (fun p0 => (ex = (.exit 0) /\ e = SEnv.env 57 [(6, (V.ptr 1 0)), (7, (V.ptr 2 0))] /\ s = [some [(V.t (T.list p0.1)), (V.t (T.sc (.int .i64 p0.2.1))), (V.t (T.sc (.bool p0.2.2.1)))], some [(V.t (T.sc (.int .i64 p0.2.2.2.1))), (V.t (T.sc (.int .i64 p0.2.2.2.2.1))), (V.t (T.sc (.string p0.2.2.2.2.2.1))), (V.own 0 p0.2.2.2.2.2.2.1)], some [(V.t (T.sc (.int .i64 p0.2.2.2.2.2.2.2.1))), (V.t (T.sc (.int .i64 p0.2.2.2.2.2.2.2.2.1))), (V.t (T.sc (.string p0.2.2.2.2.2.2.2.2.2.1))), (V.t (T.list p0.2.2.2.2.2.2.2.2.2.2))]])) x
theorem l_z11_4_run (b : B_z11) (hb : B_z11_ok b) (n : Nat) : ∀ (m : Nat) (s0 : Int) (s1 : Int) (s2 : List T) (s3 : Int) (s4 : Bool) (s5 : Int) (s6 : Int) (s7 : ByteArray) (s8 : List T) (s9 : Int) (s10 : Int) (s11 : ByteArray) (s12 : List T) (x : (List T) × Int × Bool × Int × Int × ByteArray × (List T) × Int × Int × ByteArray × (List T)), l_z11_4 b n m (s0, s1, s2, s3, s4, s5, s6, s7, s8, s9, s10, s11, s12) = some x -> SemL Tryz.prog 1 code_l_z11_4 (SEnv.env 57 [(0, (V.ptr 0 0)), (1, (V.t (T.sc (.int .i64 s0)))), (2, (V.t (T.sc (.int .i64 s1)))), (6, (V.ptr 1 0)), (7, (V.ptr 2 0))]) [some [(V.t (T.list s2)), (V.t (T.sc (.int .i64 s3))), (V.t (T.sc (.bool s4)))], some [(V.t (T.sc (.int .i64 s5))), (V.t (T.sc (.int .i64 s6))), (V.t (T.sc (.string s7))), (V.own 0 s8)], some [(V.t (T.sc (.int .i64 s9))), (V.t (T.sc (.int .i64 s10))), (V.t (T.sc (.string s11))), (V.t (T.list s12))]] (l_z11_4_Q x)
 | 0, s0, s1, s2, s3, s4, s5, s6, s7, s8, s9, s10, s11, s12, x, h => by cases h
 | m + 1, s0, s1, s2, s3, s4, s5, s6, s7, s8, s9, s10, s11, s12, x, h => by
  refine loop_step (sp_z11_ok b hb n) code_l_z11_4_ok (nl (by kernel_rfl)) (no_scope (by kernel_rfl)) ((l_z11_4_eq b n _ s0 s1 s2 s3 s4 s5 s6 s7 s8 s9 s10 s11 s12).trans h) (fun E sg h => ?_) (fun ex E sg hne h => ?_)
  ·simp only [l_z11_4_K] at h
   obtain ⟨u0, hu0, u1, hu1, u2, hu2, u3, hu3, h⟩ := ob4 h
   obtain ⟨u4, hu4, u5, hu5, u6, hu6, u7, hu7, h⟩ := ob4 h
   obtain ⟨u8, hu8, u9, hu9, u10, hu10, u11, hu11, h⟩ := ob4 h
   obtain ⟨u12, hu12, u13, hu13, u14, hu14, u15, hu15, h⟩ := ob4 h
   obtain ⟨u16, hu16, u17, hu17, h⟩ := ob2 h
   obtain ⟨u18, hu18, h⟩ := ob h
   exact SemL.pre (k := 3) (by decide) (WkA.env (WkA.cons (pW hu0) rfl (WkA.cons (iW hu1) rfl (WkA.cons (iW hu2) rfl (WkA.cons (pW hu3) rfl (WkA.cons (pW hu4) rfl WkA.nil))))) 57) (wkR_sig (WkR.cons (nW hu5 (.cons (lW hu6) (.cons (iW hu7) (.cons (bW hu8) .nil)))).1 (nW hu5 (.cons (lW hu6) (.cons (iW hu7) (.cons (bW hu8) .nil)))).2 (renL_mem (.cons rfl (.cons rfl (.cons rfl .nil)))) (WkR.cons (nW hu9 (.cons (iW hu10) (.cons (iW hu11) (.cons (sW hu12) (.cons (oW hu13) .nil))))).1 (nW hu9 (.cons (iW hu10) (.cons (iW hu11) (.cons (sW hu12) (.cons (oW hu13) .nil))))).2 (renL_mem (.cons rfl (.cons rfl (.cons rfl (.cons rfl .nil))))) (WkR.cons (nW hu14 (.cons (iW hu15) (.cons (iW hu16) (.cons (sW hu17) (.cons (lW hu18) .nil))))).1 (nW hu14 (.cons (iW hu15) (.cons (iW hu16) (.cons (sW hu17) (.cons (lW hu18) .nil))))).2 (renL_mem (.cons rfl (.cons rfl (.cons rfl (.cons rfl .nil))))) (WkR.nil _)))) rfl) (l_z11_4_run b hb n m _ _ _ _ _ _ _ _ _ _ _ _ _ x h)
  ·unfold l_z11_4_K at h
   split at h
   ·exact absurd rfl hne
   ·obtain ⟨u0, hu0, u1, hu1, u2, hu2, u3, hu3, h⟩ := ob4 h
    obtain ⟨u4, hu4, u5, hu5, u6, hu6, u7, hu7, h⟩ := ob4 h
    obtain ⟨u8, hu8, u9, hu9, u10, hu10, u11, hu11, h⟩ := ob4 h
    obtain ⟨u12, hu12, u13, hu13, u14, hu14, u15, hu15, h⟩ := ob4 h
    cases h
    exact ⟨3, _, _, by decide, WkA.env (WkA.cons (pW hu0) rfl (WkA.cons (pW hu1) rfl WkA.nil)) 57, (wkR_sig (WkR.cons (nW hu2 (.cons (lW hu3) (.cons (iW hu4) (.cons (bW hu5) .nil)))).1 (nW hu2 (.cons (lW hu3) (.cons (iW hu4) (.cons (bW hu5) .nil)))).2 (renL_mem (.cons rfl (.cons rfl (.cons rfl .nil)))) (WkR.cons (nW hu6 (.cons (iW hu7) (.cons (iW hu8) (.cons (sW hu9) (.cons (oW hu10) .nil))))).1 (nW hu6 (.cons (iW hu7) (.cons (iW hu8) (.cons (sW hu9) (.cons (oW hu10) .nil))))).2 (renL_mem (.cons rfl (.cons rfl (.cons rfl (.cons rfl .nil))))) (WkR.cons (nW hu11 (.cons (iW hu12) (.cons (iW hu13) (.cons (sW hu14) (.cons (lW hu15) .nil))))).1 (nW hu11 (.cons (iW hu12) (.cons (iW hu13) (.cons (sW hu14) (.cons (lW hu15) .nil))))).2 (renL_mem (.cons rfl (.cons rfl (.cons rfl (.cons rfl .nil))))) (WkR.nil _)))) rfl), rfl, rfl, rfl⟩
   ·cases h
theorem l_z11_4_ok (b : B_z11) (hb : B_z11_ok b) (n : Nat) : LoopOk Tryz.prog (sp_z11 b n) 1 57 code_l_z11_4 := by
  intro R key E sg K r hk h
  rw [show Go.Eng.keyOf code_l_z11_4 = some 4 from by kernel_rfl] at hk
  cases hk
  have h : l_z11_4_S b n R E sg K = some r := h
  unfold l_z11_4_S at h
  obtain ⟨u0, hu0, u1, hu1, u2, hu2, u3, hu3, h⟩ := ob4 h
  obtain ⟨u4, hu4, u5, hu5, u6, hu6, u7, hu7, h⟩ := ob4 h
  obtain ⟨u8, hu8, u9, hu9, u10, hu10, u11, hu11, h⟩ := ob4 h
  obtain ⟨u12, hu12, u13, hu13, u14, hu14, u15, hu15, h⟩ := ob4 h
  obtain ⟨u16, hu16, u17, hu17, u18, hu18, x, hx, h⟩ := ob4 h
  refine (SemL.pre (k := 3) (by decide) (WkA.env (WkA.cons (pW hu0) rfl (WkA.cons (iW hu1) rfl (WkA.cons (iW hu2) rfl (WkA.cons (pW hu3) rfl (WkA.cons (pW hu4) rfl WkA.nil))))) 57) (wkR_sig (WkR.cons (nW hu5 (.cons (lW hu6) (.cons (iW hu7) (.cons (bW hu8) .nil)))).1 (nW hu5 (.cons (lW hu6) (.cons (iW hu7) (.cons (bW hu8) .nil)))).2 (renL_mem (.cons rfl (.cons rfl (.cons rfl .nil)))) (WkR.cons (nW hu9 (.cons (iW hu10) (.cons (iW hu11) (.cons (sW hu12) (.cons (oW hu13) .nil))))).1 (nW hu9 (.cons (iW hu10) (.cons (iW hu11) (.cons (sW hu12) (.cons (oW hu13) .nil))))).2 (renL_mem (.cons rfl (.cons rfl (.cons rfl (.cons rfl .nil))))) (WkR.cons (nW hu14 (.cons (iW hu15) (.cons (iW hu16) (.cons (sW hu17) (.cons (lW hu18) .nil))))).1 (nW hu14 (.cons (iW hu15) (.cons (iW hu16) (.cons (sW hu17) (.cons (lW hu18) .nil))))).2 (renL_mem (.cons rfl (.cons rfl (.cons rfl (.cons rfl .nil))))) (WkR.nil _)))) rfl) (l_z11_4_run b hb n n _ _ _ _ _ _ _ _ _ _ _ _ _ x hx)).mono ?_
  intro ex e s hq
  obtain ⟨rfl, rfl, rfl⟩ := hq
  exact ⟨_, rfl, h⟩
def K_z11 (v : V) (s : Sig) : Option (Int × Int × ByteArray × (List T) × (List T) × Int × Bool) := Option.bind (V.aggN 4 v) fun u0 => Option.bind (V.intOf .i64 (u0.getD 0 .any)) fun u1 => Option.bind (V.intOf .i64 (u0.getD 1 .any)) fun u2 => Option.bind (V.strOf (u0.getD 2 .any)) fun u3 => Option.bind (V.lstOf (u0.getD 3 .any)) fun u4 => Option.bind (cellsN 3 s 0) fun g0 => Option.bind (V.lstOf (g0.getD 0 .any)) fun g1 => Option.bind (V.intOf .i64 (g0.getD 1 .any)) fun g2 => Option.bind (V.boolOf (g0.getD 2 .any)) fun g3 => some (u1, u2, u3, u4, g1, g2, g3)
theorem K_z11_wk {v : V} {s : Sig} {r : Int × Int × ByteArray × (List T) × (List T) × Int × Bool} (h : K_z11 v s = some r) : Wk v (enc_z11 r) /\ WkS 1 s (encS_z11 r) := by
 unfold K_z11 at h
 obtain ⟨u0, hu0, u1, hu1, u2, hu2, u3, hu3, h⟩ := ob4 h
 obtain ⟨u4, hu4, g0, hg0, g1, hg1, g2, hg2, h⟩ := ob4 h
 obtain ⟨g3, hg3, h⟩ := ob h
 cases h
 exact ⟨(aggN_wk hu0 (.cons (iW hu1) (.cons (iW hu2) (.cons (sW hu3) (.cons (lW hu4) .nil))))), (wkR_sig (WkR.cons (nW hg0 (.cons (lW hg1) (.cons (iW hg2) (.cons (bW hg3) .nil)))).1 (nW hg0 (.cons (lW hg1) (.cons (iW hg2) (.cons (bW hg3) .nil)))).2 (renL_mem (.cons rfl (.cons rfl (.cons rfl .nil)))) (WkR.nil _)) rfl)⟩
theorem f_z11_eq (b : B_z11) (n : Nat) (a0 : Int) (a1 : Int) (a2 : List T) (a3 : Int) (a4 : Bool) : mF Tryz.prog (sp_z11 b n) 161 [(V.ptr 0 0), (V.t (T.sc (.int .i64 a0))), (V.t (T.sc (.int .i64 a1)))] [some [(V.t (T.list a2)), (V.t (T.sc (.int .i64 a3))), (V.t (T.sc (.bool a4)))]] K_z11 = f_z11 b n a0 a1 a2 a3 a4 := by kernel_rfl
theorem f_z11_ok (b : B_z11) (hb : B_z11_ok b) (n : Nat) : ok_z11 (f_z11 b n) := fun a0 a1 a2 a3 a4 r h => mF_ok sound (sp_z11_ok b hb n) code_z11_fn code_z11_body (forall_getD (d := .skip) 1 (by kernel_rfl) (fun i hi => match i, hi with | 0, _ => l_z11_4_ok b hb n | i + 1, hi => absurd hi (by omega))) (no_scope (by kernel_rfl)) ((f_z11_eq b n a0 a1 a2 a3 a4).trans h) (fun v s hk => ⟨(K_z11_wk hk).1, rfl, (K_z11_wk hk).2⟩)
def f___expr_reader__factor (b : B_z11) (n : Nat) (a0 : Int) (a1 : List T) (a2 : Int) (a3 : Bool) : Option (Int × Int × ByteArray × (List T) × (List T) × Int × Bool) :=
Option.bind (idx true [.int .i64, .str, .int .i64, .cplx .f64] a1 a2) fun y0 =>
Option.bind (m_z23 n (⟨#[45]⟩ : ByteArray) a1 a2 a3) fun r1 =>
Option.bind (m_z23 n (⟨#[40]⟩ : ByteArray) r1.2.1 r1.2.2.1 r1.2.2.2) fun r2 =>
bif r2.2.2.2 then (
some (0, 0, (⟨#[]⟩ : ByteArray), ([] : List T), r2.2.1, r2.2.2.1, r2.2.2.2))
else (
bif (((y0.cell 0).int : Int) == 2) then (
some (1, (y0.cell 2).int, (⟨#[]⟩ : ByteArray), ([] : List T), r2.2.1, (IntKind.wrap .i64 (r2.2.2.1 + 1)), r2.2.2.2))
else (
Option.bind (bif (((y0.cell 0).int : Int) == 1) then m_z51 n (y0.cell 1).str else some false) fun r3 =>
bif (bif (((y0.cell 0).int : Int) == 1) then r3 else false) then (
some (2, 0, (y0.cell 1).str, ([] : List T), r2.2.1, (IntKind.wrap .i64 (r2.2.2.1 + 1)), r2.2.2.2))
else (
bif (bif (bif (!r1.1) then (!r2.1) else false) then true else ((a0 : Int) == 8)) then (
Option.bind (m_z19 n r2.2.1 r2.2.2.1 r2.2.2.2) fun r4 =>
some (r4.1, r4.2.1, r4.2.2.1, r4.2.2.2.1, r4.2.2.2.2.1, r4.2.2.2.2.2.1, r4.2.2.2.2.2.2))
else (
bif r1.1 then (
Option.bind (b.y0 (IntKind.wrap .i64 (a0 + 1)) r2.2.1 (IntKind.wrap .i64 (r2.2.2.1 + 1)) r2.2.2.2) fun r5 =>
some (3, 0, (⟨#[]⟩ : ByteArray), [(T.agg [(T.sc (.int .i64 r5.1)), (T.sc (.int .i64 r5.2.1)), (T.sc (.string r5.2.2.1)), (T.list r5.2.2.2.1)])], r5.2.2.2.2.1, r5.2.2.2.2.2.1, r5.2.2.2.2.2.2))
else (
Option.bind (b.y1 0 (IntKind.wrap .i64 (a0 + 1)) r2.2.1 (IntKind.wrap .i64 (r2.2.2.1 + 1)) r2.2.2.2) fun r6 =>
Option.bind (m_z23 n (⟨#[41]⟩ : ByteArray) r6.2.2.2.2.1 r6.2.2.2.2.2.1 r6.2.2.2.2.2.2) fun r7 =>
bif (!r7.1) then (
Option.bind (m_z19 n r7.2.1 r7.2.2.1 r7.2.2.2) fun r8 =>
some (r8.1, r8.2.1, r8.2.2.1, r8.2.2.2.1, r8.2.2.2.2.1, r8.2.2.2.2.2.1, r8.2.2.2.2.2.2))
else (
some (r6.1, r6.2.1, r6.2.2.1, r6.2.2.2.1, r7.2.1, (IntKind.wrap .i64 (r7.2.2.1 + 1)), r7.2.2.2)))))))
def code___expr_reader__factor : Code := Tryz.f172.body.getD .skip
def sp___expr_reader__factor (b : B_z11) (n : Nat) : Go.Eng.Spec := ⟨fun f vs sg => (match f with
  | 181 => c_z23 (m_z23 n) vs sg
  | 150 => c_z51 (m_z51 n) vs sg
  | 182 => c_z19 (m_z19 n) vs sg
  | 172 => c___expr_reader__factor b.y0 vs sg
  | 161 => c_z11 b.y1 vs sg
  | _ => none), fun R key E sg K => (match key with
  | _ => none)⟩
theorem sp___expr_reader__factor_ok (b : B_z11) (hb : B_z11_ok b) (n : Nat) : CallsOk Tryz.prog (sp___expr_reader__factor b n) := by
 intro f vs sg cm x h hx
 simp only [sp___expr_reader__factor] at h
 split at h
 ·exact c_z23_ok _ (m_z23_ok n) vs sg cm x h hx
 ·exact c_z51_ok _ (m_z51_ok n) vs sg cm x h hx
 ·exact c_z19_ok _ (m_z19_ok n) vs sg cm x h hx
 ·exact c___expr_reader__factor_ok _ hb.y0 vs sg cm x h hx
 ·exact c_z11_ok _ hb.y1 vs sg cm x h hx
 ·cases h
theorem code___expr_reader__factor_fn : Tryz.prog.funcs[172]? = some Tryz.f172 := Tryz.func172
theorem code___expr_reader__factor_body : Tryz.f172.body = some code___expr_reader__factor := by kernel_rfl
def K___expr_reader__factor (v : V) (s : Sig) : Option (Int × Int × ByteArray × (List T) × (List T) × Int × Bool) := Option.bind (V.aggN 4 v) fun u0 => Option.bind (V.intOf .i64 (u0.getD 0 .any)) fun u1 => Option.bind (V.intOf .i64 (u0.getD 1 .any)) fun u2 => Option.bind (V.strOf (u0.getD 2 .any)) fun u3 => Option.bind (V.lstOf (u0.getD 3 .any)) fun u4 => Option.bind (cellsN 3 s 0) fun g0 => Option.bind (V.lstOf (g0.getD 0 .any)) fun g1 => Option.bind (V.intOf .i64 (g0.getD 1 .any)) fun g2 => Option.bind (V.boolOf (g0.getD 2 .any)) fun g3 => some (u1, u2, u3, u4, g1, g2, g3)
theorem K___expr_reader__factor_wk {v : V} {s : Sig} {r : Int × Int × ByteArray × (List T) × (List T) × Int × Bool} (h : K___expr_reader__factor v s = some r) : Wk v (enc___expr_reader__factor r) /\ WkS 1 s (encS___expr_reader__factor r) := by
 unfold K___expr_reader__factor at h
 obtain ⟨u0, hu0, u1, hu1, u2, hu2, u3, hu3, h⟩ := ob4 h
 obtain ⟨u4, hu4, g0, hg0, g1, hg1, g2, hg2, h⟩ := ob4 h
 obtain ⟨g3, hg3, h⟩ := ob h
 cases h
 exact ⟨(aggN_wk hu0 (.cons (iW hu1) (.cons (iW hu2) (.cons (sW hu3) (.cons (lW hu4) .nil))))), (wkR_sig (WkR.cons (nW hg0 (.cons (lW hg1) (.cons (iW hg2) (.cons (bW hg3) .nil)))).1 (nW hg0 (.cons (lW hg1) (.cons (iW hg2) (.cons (bW hg3) .nil)))).2 (renL_mem (.cons rfl (.cons rfl (.cons rfl .nil)))) (WkR.nil _)) rfl)⟩
theorem f___expr_reader__factor_eq (b : B_z11) (n : Nat) (a0 : Int) (a1 : List T) (a2 : Int) (a3 : Bool) : mF Tryz.prog (sp___expr_reader__factor b n) 172 [(V.ptr 0 0), (V.t (T.sc (.int .i64 a0)))] [some [(V.t (T.list a1)), (V.t (T.sc (.int .i64 a2))), (V.t (T.sc (.bool a3)))]] K___expr_reader__factor = f___expr_reader__factor b n a0 a1 a2 a3 := by kernel_rfl
theorem f___expr_reader__factor_ok (b : B_z11) (hb : B_z11_ok b) (n : Nat) : ok___expr_reader__factor (f___expr_reader__factor b n) := fun a0 a1 a2 a3 r h => mF_ok sound (sp___expr_reader__factor_ok b hb n) code___expr_reader__factor_fn code___expr_reader__factor_body (nl (by kernel_rfl)) (no_scope (by kernel_rfl)) ((f___expr_reader__factor_eq b n a0 a1 a2 a3).trans h) (fun v s hk => ⟨(K___expr_reader__factor_wk hk).1, rfl, (K___expr_reader__factor_wk hk).2⟩)
def unB_z11 (n : Nat) : Nat -> B_z11
 | 0 => { y1 := fun _ _ _ _ _ => none, y0 := fun _ _ _ _ => none }
 | m + 1 => { y1 := f_z11 (unB_z11 n m) n, y0 := f___expr_reader__factor (unB_z11 n m) n }
theorem unB_z11_ok (n : Nat) : ∀ m, B_z11_ok (unB_z11 n m)
 | 0 => { y1 := fun _ _ _ _ _ _ h => (nomatch (show none = some _ from h)), y0 := fun _ _ _ _ _ h => (nomatch (show none = some _ from h)) }
 | m + 1 => { y1 := f_z11_ok _ (unB_z11_ok n m) n, y0 := f___expr_reader__factor_ok _ (unB_z11_ok n m) n }
def m_z11 (n : Nat) : Int -> Int -> List T -> Int -> Bool -> Option (Int × Int × ByteArray × (List T) × (List T) × Int × Bool) := (unB_z11 n n).y1
theorem m_z11_ok (n : Nat) : ok_z11 (m_z11 n) := (unB_z11_ok n n).y1
def m_z59 (n : Nat) (a0 : List T) (a1 : Int) : Option (Int × Int × ByteArray × (List T) × Int × Bool) :=
Option.bind (m_z11 n 0 0 a0 a1 false) fun r0 =>
bif r0.2.2.2.2.2.2 then (
some (0, 0, (⟨#[]⟩ : ByteArray), ([] : List T), r0.2.2.2.2.2.1, false))
else (
some (r0.1, r0.2.1, r0.2.2.1, r0.2.2.2.1, r0.2.2.2.2.2.1, true))
def enc_z59 (r : Int × Int × ByteArray × (List T) × Int × Bool) : V := (V.tup [(V.agg [(V.t (T.sc (.int .i64 r.1))), (V.t (T.sc (.int .i64 r.2.1))), (V.t (T.sc (.string r.2.2.1))), (V.t (T.list r.2.2.2.1))]), (V.t (T.sc (.int .i64 r.2.2.2.2.1))), (V.t (T.sc (.bool r.2.2.2.2.2)))])
def encS_z59 (r : Int × Int × ByteArray × (List T) × Int × Bool) : Sig := []
def ok_z59 (m : List T -> Int -> Option (Int × Int × ByteArray × (List T) × Int × Bool)) : Prop := ∀ (a0 : List T) (a1 : Int) (r : Int × Int × ByteArray × (List T) × Int × Bool), m a0 a1 = some r -> FuncOk Tryz.prog 136 [(V.t (T.list a0)), (V.t (T.sc (.int .i64 a1)))] [] (enc_z59 r) (encS_z59 r)
def c_z59 (m : List T -> Int -> Option (Int × Int × ByteArray × (List T) × Int × Bool)) (vs : List V) (sg : Sig) : Option CallM := bif Nat.beq vs.length 2 && Nat.beq sg.length 0 then Option.bind (V.lstOf (vs.getD 0 .any)) fun u0 => Option.bind (V.intOf .i64 (vs.getD 1 .any)) fun u1 => some { α := Int × Int × ByteArray × (List T) × Int × Bool, m := m u0 u1, dflt := (0, 0, default, [], 0, false), enc := fun y => ((V.tup [(V.agg [(V.t (T.sc (.int .i64 y.1))), (V.t (T.sc (.int .i64 y.2.1))), (V.t (T.sc (.string y.2.2.1))), (V.t (T.list y.2.2.2.1))]), (V.t (T.sc (.int .i64 y.2.2.2.2.1))), (V.t (T.sc (.bool y.2.2.2.2.2)))]), []) } else none
theorem c_z59_ok (m : List T -> Int -> Option (Int × Int × ByteArray × (List T) × Int × Bool)) (hm : ok_z59 m) (vs : List V) (sg : Sig) (cm : CallM) (x : cm.α) (h : c_z59 m vs sg = some cm) (hx : cm.m = some x) : FuncOk Tryz.prog 136 vs sg (cm.enc x).1 (cm.enc x).2 := by
 unfold c_z59 at h
 obtain ⟨hl, hs, h⟩ := callee_sig h
 obtain ⟨u0, hu0, u1, hu1, h⟩ := ob2 h
 cases h
 exact (hm u0 u1 x hx).wk (args_wk hl (.cons (lW hu0) (.cons (iW hu1) .nil))) (wkSg_of hs .nil)
def code_z59 : Code := Tryz.f136.body.getD .skip
def sp_z59 (n : Nat) : Go.Eng.Spec := ⟨fun f vs sg => (match f with
  | 161 => c_z11 (m_z11 n) vs sg
  | _ => none), fun R key E sg K => (match key with
  | _ => none)⟩
theorem sp_z59_ok (n : Nat) : CallsOk Tryz.prog (sp_z59 n) := by
 intro f vs sg cm x h hx
 simp only [sp_z59] at h
 split at h
 ·exact c_z11_ok _ (m_z11_ok n) vs sg cm x h hx
 ·cases h
theorem code_z59_fn : Tryz.prog.funcs[136]? = some Tryz.f136 := Tryz.func136
theorem code_z59_body : Tryz.f136.body = some code_z59 := by kernel_rfl
def K_z59 (v : V) (s : Sig) : Option (Int × Int × ByteArray × (List T) × Int × Bool) := Option.bind (V.tupN 3 v) fun u0 => Option.bind (V.aggN 4 (u0.getD 0 .any)) fun u1 => Option.bind (V.intOf .i64 (u1.getD 0 .any)) fun u2 => Option.bind (V.intOf .i64 (u1.getD 1 .any)) fun u3 => Option.bind (V.strOf (u1.getD 2 .any)) fun u4 => Option.bind (V.lstOf (u1.getD 3 .any)) fun u5 => Option.bind (V.intOf .i64 (u0.getD 1 .any)) fun u6 => Option.bind (V.boolOf (u0.getD 2 .any)) fun u7 => some (u2, u3, u4, u5, u6, u7)
theorem K_z59_wk {v : V} {s : Sig} {r : Int × Int × ByteArray × (List T) × Int × Bool} (h : K_z59 v s = some r) : Wk v (enc_z59 r) /\ WkS 0 s (encS_z59 r) := by
 unfold K_z59 at h
 obtain ⟨u0, hu0, u1, hu1, u2, hu2, u3, hu3, h⟩ := ob4 h
 obtain ⟨u4, hu4, u5, hu5, u6, hu6, u7, hu7, h⟩ := ob4 h
 cases h
 exact ⟨(tupN_wk hu0 (.cons (aggN_wk hu1 (.cons (iW hu2) (.cons (iW hu3) (.cons (sW hu4) (.cons (lW hu5) .nil))))) (.cons (iW hu6) (.cons (bW hu7) .nil)))), (WkS.none _)⟩
theorem m_z59_eq (n : Nat) (a0 : List T) (a1 : Int) : mF Tryz.prog (sp_z59 n) 136 [(V.t (T.list a0)), (V.t (T.sc (.int .i64 a1)))] [] K_z59 = m_z59 n a0 a1 := by kernel_rfl
theorem m_z59_ok (n : Nat) : ok_z59 (m_z59 n) := fun a0 a1 r h => mF_ok sound (sp_z59_ok n) code_z59_fn code_z59_body (nl (by kernel_rfl)) (no_scope (by kernel_rfl)) ((m_z59_eq n a0 a1).trans h) (fun v s hk => ⟨(K_z59_wk hk).1, rfl, (K_z59_wk hk).2⟩)
def m_z12 (n : Nat) (a0 : List T) (a1 : Int) (a2 : Bool) : Option (Int × Int × ByteArray × (List T) × (List T) × Int × Bool) :=
bif a2 then (
some (0, 0, (⟨#[]⟩ : ByteArray), ([] : List T), a0, a1, a2))
else (
Option.bind (m_z59 n a0 a1) fun r0 =>
some (r0.1, r0.2.1, r0.2.2.1, r0.2.2.2.1, a0, r0.2.2.2.2.1, (!r0.2.2.2.2.2)))
def enc_z12 (r : Int × Int × ByteArray × (List T) × (List T) × Int × Bool) : V := (V.agg [(V.t (T.sc (.int .i64 r.1))), (V.t (T.sc (.int .i64 r.2.1))), (V.t (T.sc (.string r.2.2.1))), (V.t (T.list r.2.2.2.1))])
def encS_z12 (r : Int × Int × ByteArray × (List T) × (List T) × Int × Bool) : Sig := [some [(V.t (T.list r.2.2.2.2.1)), (V.t (T.sc (.int .i64 r.2.2.2.2.2.1))), (V.t (T.sc (.bool r.2.2.2.2.2.2)))]]
def ok_z12 (m : List T -> Int -> Bool -> Option (Int × Int × ByteArray × (List T) × (List T) × Int × Bool)) : Prop := ∀ (a0 : List T) (a1 : Int) (a2 : Bool) (r : Int × Int × ByteArray × (List T) × (List T) × Int × Bool), m a0 a1 a2 = some r -> FuncOk Tryz.prog 151 [(V.ptr 0 0)] [some [(V.t (T.list a0)), (V.t (T.sc (.int .i64 a1))), (V.t (T.sc (.bool a2)))]] (enc_z12 r) (encS_z12 r)
def c_z12 (m : List T -> Int -> Bool -> Option (Int × Int × ByteArray × (List T) × (List T) × Int × Bool)) (vs : List V) (sg : Sig) : Option CallM := bif Nat.beq vs.length 1 && Nat.beq sg.length 1 then Option.bind (V.ptrOf 0 0 (vs.getD 0 .any)) fun u0 => Option.bind (cellsN 3 sg 0) fun g0 => Option.bind (V.lstOf (g0.getD 0 .any)) fun g1 => Option.bind (V.intOf .i64 (g0.getD 1 .any)) fun g2 => Option.bind (V.boolOf (g0.getD 2 .any)) fun g3 => some { α := Int × Int × ByteArray × (List T) × (List T) × Int × Bool, m := m g1 g2 g3, dflt := (0, 0, default, [], [], 0, false), enc := fun y => ((V.agg [(V.t (T.sc (.int .i64 y.1))), (V.t (T.sc (.int .i64 y.2.1))), (V.t (T.sc (.string y.2.2.1))), (V.t (T.list y.2.2.2.1))]), [some [(V.t (T.list y.2.2.2.2.1)), (V.t (T.sc (.int .i64 y.2.2.2.2.2.1))), (V.t (T.sc (.bool y.2.2.2.2.2.2)))]]) } else none
theorem c_z12_ok (m : List T -> Int -> Bool -> Option (Int × Int × ByteArray × (List T) × (List T) × Int × Bool)) (hm : ok_z12 m) (vs : List V) (sg : Sig) (cm : CallM) (x : cm.α) (h : c_z12 m vs sg = some cm) (hx : cm.m = some x) : FuncOk Tryz.prog 151 vs sg (cm.enc x).1 (cm.enc x).2 := by
 unfold c_z12 at h
 obtain ⟨hl, hs, h⟩ := callee_sig h
 obtain ⟨u0, hu0, g0, hg0, g1, hg1, g2, hg2, h⟩ := ob4 h
 obtain ⟨g3, hg3, h⟩ := ob h
 cases h
 exact (hm g1 g2 g3 x hx).wk (args_wk hl (.cons (pW hu0) .nil)) (wkSg_of hs (.cons (nW hg0 (.cons (lW hg1) (.cons (iW hg2) (.cons (bW hg3) .nil)))) .nil))
def code_z12 : Code := Tryz.f151.body.getD .skip
def sp_z12 (n : Nat) : Go.Eng.Spec := ⟨fun f vs sg => (match f with
  | 136 => c_z59 (m_z59 n) vs sg
  | _ => none), fun R key E sg K => (match key with
  | _ => none)⟩
theorem sp_z12_ok (n : Nat) : CallsOk Tryz.prog (sp_z12 n) := by
 intro f vs sg cm x h hx
 simp only [sp_z12] at h
 split at h
 ·exact c_z59_ok _ (m_z59_ok n) vs sg cm x h hx
 ·cases h
theorem code_z12_fn : Tryz.prog.funcs[151]? = some Tryz.f151 := Tryz.func151
theorem code_z12_body : Tryz.f151.body = some code_z12 := by kernel_rfl
def K_z12 (v : V) (s : Sig) : Option (Int × Int × ByteArray × (List T) × (List T) × Int × Bool) := Option.bind (V.aggN 4 v) fun u0 => Option.bind (V.intOf .i64 (u0.getD 0 .any)) fun u1 => Option.bind (V.intOf .i64 (u0.getD 1 .any)) fun u2 => Option.bind (V.strOf (u0.getD 2 .any)) fun u3 => Option.bind (V.lstOf (u0.getD 3 .any)) fun u4 => Option.bind (cellsN 3 s 0) fun g0 => Option.bind (V.lstOf (g0.getD 0 .any)) fun g1 => Option.bind (V.intOf .i64 (g0.getD 1 .any)) fun g2 => Option.bind (V.boolOf (g0.getD 2 .any)) fun g3 => some (u1, u2, u3, u4, g1, g2, g3)
theorem K_z12_wk {v : V} {s : Sig} {r : Int × Int × ByteArray × (List T) × (List T) × Int × Bool} (h : K_z12 v s = some r) : Wk v (enc_z12 r) /\ WkS 1 s (encS_z12 r) := by
 unfold K_z12 at h
 obtain ⟨u0, hu0, u1, hu1, u2, hu2, u3, hu3, h⟩ := ob4 h
 obtain ⟨u4, hu4, g0, hg0, g1, hg1, g2, hg2, h⟩ := ob4 h
 obtain ⟨g3, hg3, h⟩ := ob h
 cases h
 exact ⟨(aggN_wk hu0 (.cons (iW hu1) (.cons (iW hu2) (.cons (sW hu3) (.cons (lW hu4) .nil))))), (wkR_sig (WkR.cons (nW hg0 (.cons (lW hg1) (.cons (iW hg2) (.cons (bW hg3) .nil)))).1 (nW hg0 (.cons (lW hg1) (.cons (iW hg2) (.cons (bW hg3) .nil)))).2 (renL_mem (.cons rfl (.cons rfl (.cons rfl .nil)))) (WkR.nil _)) rfl)⟩
theorem m_z12_eq (n : Nat) (a0 : List T) (a1 : Int) (a2 : Bool) : mF Tryz.prog (sp_z12 n) 151 [(V.ptr 0 0)] [some [(V.t (T.list a0)), (V.t (T.sc (.int .i64 a1))), (V.t (T.sc (.bool a2)))]] K_z12 = m_z12 n a0 a1 a2 := by kernel_rfl
theorem m_z12_ok (n : Nat) : ok_z12 (m_z12 n) := fun a0 a1 a2 r h => mF_ok sound (sp_z12_ok n) code_z12_fn code_z12_body (nl (by kernel_rfl)) (no_scope (by kernel_rfl)) ((m_z12_eq n a0 a1 a2).trans h) (fun v s hk => ⟨(K_z12_wk hk).1, rfl, (K_z12_wk hk).2⟩)
structure B_z8 where
 y2 : Int -> List T -> Int -> Bool -> Option ((List T) × (List T) × Int × Bool)
 y3 : Int -> List T -> Int -> Bool -> Option (Int × ByteArray × ByteArray × Int × Int × Int × ByteArray × (List T) × (List T) × (List T) × (Nat × Nat) × (List T) × Int × Bool)
def enc_z8 (r : (List T) × (List T) × Int × Bool) : V := (V.own 11 r.1)
def encS_z8 (r : (List T) × (List T) × Int × Bool) : Sig := [some [(V.t (T.list r.2.1)), (V.t (T.sc (.int .i64 r.2.2.1))), (V.t (T.sc (.bool r.2.2.2)))]]
def ok_z8 (m : Int -> List T -> Int -> Bool -> Option ((List T) × (List T) × Int × Bool)) : Prop := ∀ (a0 : Int) (a1 : List T) (a2 : Int) (a3 : Bool) (r : (List T) × (List T) × Int × Bool), m a0 a1 a2 a3 = some r -> FuncOk Tryz.prog 81 [(V.ptr 0 0), (V.t (T.sc (.int .i64 a0)))] [some [(V.t (T.list a1)), (V.t (T.sc (.int .i64 a2))), (V.t (T.sc (.bool a3)))]] (enc_z8 r) (encS_z8 r)
def c_z8 (m : Int -> List T -> Int -> Bool -> Option ((List T) × (List T) × Int × Bool)) (vs : List V) (sg : Sig) : Option CallM := bif Nat.beq vs.length 2 && Nat.beq sg.length 1 then Option.bind (V.ptrOf 0 0 (vs.getD 0 .any)) fun u0 => Option.bind (V.intOf .i64 (vs.getD 1 .any)) fun u1 => Option.bind (cellsN 3 sg 0) fun g0 => Option.bind (V.lstOf (g0.getD 0 .any)) fun g1 => Option.bind (V.intOf .i64 (g0.getD 1 .any)) fun g2 => Option.bind (V.boolOf (g0.getD 2 .any)) fun g3 => some { α := (List T) × (List T) × Int × Bool, m := m u1 g1 g2 g3, dflt := ([], [], 0, false), enc := fun y => ((V.own 11 y.1), [some [(V.t (T.list y.2.1)), (V.t (T.sc (.int .i64 y.2.2.1))), (V.t (T.sc (.bool y.2.2.2)))]]) } else none
theorem c_z8_ok (m : Int -> List T -> Int -> Bool -> Option ((List T) × (List T) × Int × Bool)) (hm : ok_z8 m) (vs : List V) (sg : Sig) (cm : CallM) (x : cm.α) (h : c_z8 m vs sg = some cm) (hx : cm.m = some x) : FuncOk Tryz.prog 81 vs sg (cm.enc x).1 (cm.enc x).2 := by
 unfold c_z8 at h
 obtain ⟨hl, hs, h⟩ := callee_sig h
 obtain ⟨u0, hu0, u1, hu1, g0, hg0, g1, hg1, h⟩ := ob4 h
 obtain ⟨g2, hg2, g3, hg3, h⟩ := ob2 h
 cases h
 exact (hm u1 g1 g2 g3 x hx).wk (args_wk hl (.cons (pW hu0) (.cons (iW hu1) .nil))) (wkSg_of hs (.cons (nW hg0 (.cons (lW hg1) (.cons (iW hg2) (.cons (bW hg3) .nil)))) .nil))
def enc___parse_reader__stmt (r : Int × ByteArray × ByteArray × Int × Int × Int × ByteArray × (List T) × (List T) × (List T) × (Nat × Nat) × (List T) × Int × Bool) : V := (V.agg [(V.t (T.sc (.int .i64 r.1))), (V.t (T.sc (.string r.2.1))), (V.t (T.sc (.string r.2.2.1))), (V.t (T.sc (.int .i64 r.2.2.2.1))), (V.t (T.sc (.int .i64 r.2.2.2.2.1))), (V.t (T.sc (.int .i64 r.2.2.2.2.2.1))), (V.t (T.sc (.string r.2.2.2.2.2.2.1))), (V.t (T.list r.2.2.2.2.2.2.2.1)), (V.t (T.list r.2.2.2.2.2.2.2.2.1)), (V.t (T.list r.2.2.2.2.2.2.2.2.2.1)), (V.t (T.sc (.complex .f64 r.2.2.2.2.2.2.2.2.2.2.1.1 r.2.2.2.2.2.2.2.2.2.2.1.2)))])
def encS___parse_reader__stmt (r : Int × ByteArray × ByteArray × Int × Int × Int × ByteArray × (List T) × (List T) × (List T) × (Nat × Nat) × (List T) × Int × Bool) : Sig := [some [(V.t (T.list r.2.2.2.2.2.2.2.2.2.2.2.1)), (V.t (T.sc (.int .i64 r.2.2.2.2.2.2.2.2.2.2.2.2.1))), (V.t (T.sc (.bool r.2.2.2.2.2.2.2.2.2.2.2.2.2)))]]
def ok___parse_reader__stmt (m : Int -> List T -> Int -> Bool -> Option (Int × ByteArray × ByteArray × Int × Int × Int × ByteArray × (List T) × (List T) × (List T) × (Nat × Nat) × (List T) × Int × Bool)) : Prop := ∀ (a0 : Int) (a1 : List T) (a2 : Int) (a3 : Bool) (r : Int × ByteArray × ByteArray × Int × Int × Int × ByteArray × (List T) × (List T) × (List T) × (Nat × Nat) × (List T) × Int × Bool), m a0 a1 a2 a3 = some r -> FuncOk Tryz.prog 118 [(V.ptr 0 0), (V.t (T.sc (.int .i64 a0)))] [some [(V.t (T.list a1)), (V.t (T.sc (.int .i64 a2))), (V.t (T.sc (.bool a3)))]] (enc___parse_reader__stmt r) (encS___parse_reader__stmt r)
def c___parse_reader__stmt (m : Int -> List T -> Int -> Bool -> Option (Int × ByteArray × ByteArray × Int × Int × Int × ByteArray × (List T) × (List T) × (List T) × (Nat × Nat) × (List T) × Int × Bool)) (vs : List V) (sg : Sig) : Option CallM := bif Nat.beq vs.length 2 && Nat.beq sg.length 1 then Option.bind (V.ptrOf 0 0 (vs.getD 0 .any)) fun u0 => Option.bind (V.intOf .i64 (vs.getD 1 .any)) fun u1 => Option.bind (cellsN 3 sg 0) fun g0 => Option.bind (V.lstOf (g0.getD 0 .any)) fun g1 => Option.bind (V.intOf .i64 (g0.getD 1 .any)) fun g2 => Option.bind (V.boolOf (g0.getD 2 .any)) fun g3 => some { α := Int × ByteArray × ByteArray × Int × Int × Int × ByteArray × (List T) × (List T) × (List T) × (Nat × Nat) × (List T) × Int × Bool, m := m u1 g1 g2 g3, dflt := (0, default, default, 0, 0, 0, default, [], [], [], (0, 0), [], 0, false), enc := fun y => ((V.agg [(V.t (T.sc (.int .i64 y.1))), (V.t (T.sc (.string y.2.1))), (V.t (T.sc (.string y.2.2.1))), (V.t (T.sc (.int .i64 y.2.2.2.1))), (V.t (T.sc (.int .i64 y.2.2.2.2.1))), (V.t (T.sc (.int .i64 y.2.2.2.2.2.1))), (V.t (T.sc (.string y.2.2.2.2.2.2.1))), (V.t (T.list y.2.2.2.2.2.2.2.1)), (V.t (T.list y.2.2.2.2.2.2.2.2.1)), (V.t (T.list y.2.2.2.2.2.2.2.2.2.1)), (V.t (T.sc (.complex .f64 y.2.2.2.2.2.2.2.2.2.2.1.1 y.2.2.2.2.2.2.2.2.2.2.1.2)))]), [some [(V.t (T.list y.2.2.2.2.2.2.2.2.2.2.2.1)), (V.t (T.sc (.int .i64 y.2.2.2.2.2.2.2.2.2.2.2.2.1))), (V.t (T.sc (.bool y.2.2.2.2.2.2.2.2.2.2.2.2.2)))]]) } else none
theorem c___parse_reader__stmt_ok (m : Int -> List T -> Int -> Bool -> Option (Int × ByteArray × ByteArray × Int × Int × Int × ByteArray × (List T) × (List T) × (List T) × (Nat × Nat) × (List T) × Int × Bool)) (hm : ok___parse_reader__stmt m) (vs : List V) (sg : Sig) (cm : CallM) (x : cm.α) (h : c___parse_reader__stmt m vs sg = some cm) (hx : cm.m = some x) : FuncOk Tryz.prog 118 vs sg (cm.enc x).1 (cm.enc x).2 := by
 unfold c___parse_reader__stmt at h
 obtain ⟨hl, hs, h⟩ := callee_sig h
 obtain ⟨u0, hu0, u1, hu1, g0, hg0, g1, hg1, h⟩ := ob4 h
 obtain ⟨g2, hg2, g3, hg3, h⟩ := ob2 h
 cases h
 exact (hm u1 g1 g2 g3 x hx).wk (args_wk hl (.cons (pW hu0) (.cons (iW hu1) .nil))) (wkSg_of hs (.cons (nW hg0 (.cons (lW hg1) (.cons (iW hg2) (.cons (bW hg3) .nil)))) .nil))
structure B_z8_ok (b : B_z8) : Prop where
 y2 : ok_z8 b.y2
 y3 : ok___parse_reader__stmt b.y3
def l_z8_5_B (b : B_z8) (n : Nat) (k : Int × (List T) × (List T) × Int × Bool -> Option ((List T) × (List T) × Int × Bool)) : Int × (List T) × (List T) × Int × Bool -> Option ((List T) × (List T) × Int × Bool) := fun (s0, s1, s2, s3, s4) =>
Option.bind (bif (!s4) then m_z21 n (⟨#[125]⟩ : ByteArray) s2 s3 s4 else some (false, [], 0, false)) fun r2 =>
bif (bif (!s4) then (!r2.1) else false) then (
Option.bind (b.y3 (IntKind.wrap .i64 (s0 + 1)) (bif (!s4) then r2.2.1 else s2) (bif (!s4) then r2.2.2.1 else s3) (bif (!s4) then r2.2.2.2 else s4)) fun r3 =>
must true ((Nat.beq 11 11 || Nat.beq 11 0) && (decide (List.length s1 + List.length [(T.agg [(T.sc (.int .i64 r3.1)), (T.sc (.string r3.2.1)), (T.sc (.string r3.2.2.1)), (T.sc (.int .i64 r3.2.2.2.1)), (T.sc (.int .i64 r3.2.2.2.2.1)), (T.sc (.int .i64 r3.2.2.2.2.2.1)), (T.sc (.string r3.2.2.2.2.2.2.1)), (T.list r3.2.2.2.2.2.2.2.1), (T.list r3.2.2.2.2.2.2.2.2.1), (T.list r3.2.2.2.2.2.2.2.2.2.1), (T.sc (.complex .f64 r3.2.2.2.2.2.2.2.2.2.2.1.1 r3.2.2.2.2.2.2.2.2.2.2.1.2))])] <= 1073741824) && sized 11 [(T.agg [(T.sc (.int .i64 r3.1)), (T.sc (.string r3.2.1)), (T.sc (.string r3.2.2.1)), (T.sc (.int .i64 r3.2.2.2.1)), (T.sc (.int .i64 r3.2.2.2.2.1)), (T.sc (.int .i64 r3.2.2.2.2.2.1)), (T.sc (.string r3.2.2.2.2.2.2.1)), (T.list r3.2.2.2.2.2.2.2.1), (T.list r3.2.2.2.2.2.2.2.2.1), (T.list r3.2.2.2.2.2.2.2.2.2.1), (T.sc (.complex .f64 r3.2.2.2.2.2.2.2.2.2.2.1.1 r3.2.2.2.2.2.2.2.2.2.2.1.2))])])) (k (s0, (s1 ++ [(T.agg [(T.sc (.int .i64 r3.1)), (T.sc (.string r3.2.1)), (T.sc (.string r3.2.2.1)), (T.sc (.int .i64 r3.2.2.2.1)), (T.sc (.int .i64 r3.2.2.2.2.1)), (T.sc (.int .i64 r3.2.2.2.2.2.1)), (T.sc (.string r3.2.2.2.2.2.2.1)), (T.list r3.2.2.2.2.2.2.2.1), (T.list r3.2.2.2.2.2.2.2.2.1), (T.list r3.2.2.2.2.2.2.2.2.2.1), (T.sc (.complex .f64 r3.2.2.2.2.2.2.2.2.2.2.1.1 r3.2.2.2.2.2.2.2.2.2.2.1.2))])]), r3.2.2.2.2.2.2.2.2.2.2.2.1, r3.2.2.2.2.2.2.2.2.2.2.2.2.1, r3.2.2.2.2.2.2.2.2.2.2.2.2.2)))
else (
some (s1, (bif (!s4) then r2.2.1 else s2), (bif (!s4) then r2.2.2.1 else s3), (bif (!s4) then r2.2.2.2 else s4)))
def l_z8_5 (b : B_z8) (n : Nat) : Nat -> Int × (List T) × (List T) × Int × Bool -> Option ((List T) × (List T) × Int × Bool)
 | 0, _ => none
 | m + 1, s => l_z8_5_B b n (l_z8_5 b n m) s
def f_z8 (b : B_z8) (n : Nat) (a0 : Int) (a1 : List T) (a2 : Int) (a3 : Bool) : Option ((List T) × (List T) × Int × Bool) :=
bif ((a0 : Int) == 8) then (
Option.bind (m_z13 n a1 a2 a3) fun r0 =>
Option.bind (m_z14 n (⟨#[123]⟩ : ByteArray) r0.1 r0.2.1 r0.2.2) fun r1 =>
Option.bind (l_z8_5 b n n (a0, ([] : List T), r1.1, r1.2.1, r1.2.2)) fun p5 =>
Option.bind (m_z14 n (⟨#[125]⟩ : ByteArray) p5.2.1 p5.2.2.1 p5.2.2.2) fun r6 =>
Option.bind (m_z3 n p5.1) fun r7 =>
some (r7, r6.1, r6.2.1, r6.2.2))
else (
Option.bind (m_z14 n (⟨#[123]⟩ : ByteArray) a1 a2 a3) fun r8 =>
Option.bind (l_z8_5 b n n (a0, ([] : List T), r8.1, r8.2.1, r8.2.2)) fun p10 =>
Option.bind (m_z14 n (⟨#[125]⟩ : ByteArray) p10.2.1 p10.2.2.1 p10.2.2.2) fun r11 =>
Option.bind (m_z3 n p10.1) fun r12 =>
some (r12, r11.1, r11.2.1, r11.2.2))
def code_z8 : Code := Tryz.f81.body.getD .skip
def l_z8_5_S (b : B_z8) (n : Nat) (R : Type) (E : SEnv) (sg : Sig) (K : Ex -> SEnv -> Sig -> Option R) : Option R := Option.bind (V.ptrOf 0 0 (SEnv.at E 0)) fun u0 => Option.bind (V.intOf .i64 (SEnv.at E 1)) fun u1 => Option.bind (V.ownOf 11 (SEnv.at E 5)) fun u2 => Option.bind (cellsN 3 sg 0) fun u3 => Option.bind (V.lstOf (u3.getD 0 .any)) fun u4 => Option.bind (V.intOf .i64 (u3.getD 1 .any)) fun u5 => Option.bind (V.boolOf (u3.getD 2 .any)) fun u6 => Option.bind (l_z8_5 b n n (u1, u2, u4, u5, u6)) fun p0 => K (.exit 0) [(0, (V.ptr 0 0)), (5, (V.own 11 p0.1))] [some [(V.t (T.list p0.2.1)), (V.t (T.sc (.int .i64 p0.2.2.1))), (V.t (T.sc (.bool p0.2.2.2)))]]
def sp_z8 (b : B_z8) (n : Nat) : Go.Eng.Spec := ⟨fun f vs sg => (match f with
  | 79 => c_z13 (m_z13 n) vs sg
  | 80 => c_z14 (m_z14 n) vs sg
  | 117 => c_z21 (m_z21 n) vs sg
  | 118 => c___parse_reader__stmt b.y3 vs sg
  | 119 => c_z3 (m_z3 n) vs sg
  | _ => none), fun R key E sg K => (match key with
  | 5 => l_z8_5_S b n R E sg K
  | _ => none)⟩
theorem sp_z8_ok (b : B_z8) (hb : B_z8_ok b) (n : Nat) : CallsOk Tryz.prog (sp_z8 b n) := by
 intro f vs sg cm x h hx
 simp only [sp_z8] at h
 split at h
 ·exact c_z13_ok _ (m_z13_ok n) vs sg cm x h hx
 ·exact c_z14_ok _ (m_z14_ok n) vs sg cm x h hx
 ·exact c_z21_ok _ (m_z21_ok n) vs sg cm x h hx
 ·exact c___parse_reader__stmt_ok _ hb.y3 vs sg cm x h hx
 ·exact c_z3_ok _ (m_z3_ok n) vs sg cm x h hx
 ·cases h
theorem code_z8_fn : Tryz.prog.funcs[81]? = some Tryz.f81 := Tryz.func81
theorem code_z8_body : Tryz.f81.body = some code_z8 := by kernel_rfl
theorem code_z8_ok : CodeOk Tryz.prog code_z8 := (sound 81 _ _ code_z8_fn code_z8_body).1
def code_l_z8_5 : Code := (loopsOf code_z8).getD 0 .skip
theorem code_l_z8_5_ok : CodeOk Tryz.prog code_l_z8_5 := codeOk_loops code_z8_ok _ (getD_mem (by kernel_rfl))
def l_z8_5_K (k : Int × (List T) × (List T) × Int × Bool -> Option ((List T) × (List T) × Int × Bool)) : Ex -> SEnv -> Sig -> Option ((List T) × (List T) × Int × Bool) := fun x E sg => match x with
 | .normal => Option.bind (V.ptrOf 0 0 (SEnv.at E 0)) fun u0 => Option.bind (V.intOf .i64 (SEnv.at E 1)) fun u1 => Option.bind (V.ownOf 11 (SEnv.at E 5)) fun u2 => Option.bind (cellsN 3 sg 0) fun u3 => Option.bind (V.lstOf (u3.getD 0 .any)) fun u4 => Option.bind (V.intOf .i64 (u3.getD 1 .any)) fun u5 => Option.bind (V.boolOf (u3.getD 2 .any)) fun u6 => k (u1, u2, u4, u5, u6)
 | (.exit 0) => Option.bind (V.ptrOf 0 0 (SEnv.at E 0)) fun u0 => Option.bind (V.ownOf 11 (SEnv.at E 5)) fun u1 => Option.bind (cellsN 3 sg 0) fun u2 => Option.bind (V.lstOf (u2.getD 0 .any)) fun u3 => Option.bind (V.intOf .i64 (u2.getD 1 .any)) fun u4 => Option.bind (V.boolOf (u2.getD 2 .any)) fun u5 => some (u1, u3, u4, u5)
 | _ => none
theorem l_z8_5_eq (b : B_z8) (n : Nat) (k : Int × (List T) × (List T) × Int × Bool -> Option ((List T) × (List T) × Int × Bool)) (s0 : Int) (s1 : List T) (s2 : List T) (s3 : Int) (s4 : Bool) : mX Tryz.prog (sp_z8 b n) 33 code_l_z8_5 [(0, (V.ptr 0 0)), (1, (V.t (T.sc (.int .i64 s0)))), (5, (V.own 11 s1))] [some [(V.t (T.list s2)), (V.t (T.sc (.int .i64 s3))), (V.t (T.sc (.bool s4)))]] (l_z8_5_K k) = l_z8_5_B b n k (s0, s1, s2, s3, s4) := by kernel_rfl
def l_z8_5_Q (x : (List T) × (List T) × Int × Bool) (ex : Ex) (e : Env) (s : Sig) : Prop := (fun p0 => (ex = (.exit 0) /\ e = SEnv.env 33 [(0, (V.ptr 0 0)), (5, (V.own 11 p0.1))] /\ s = [some [(V.t (T.list p0.2.1)), (V.t (T.sc (.int .i64 p0.2.2.1))), (V.t (T.sc (.bool p0.2.2.2)))]])) x
theorem l_z8_5_run (b : B_z8) (hb : B_z8_ok b) (n : Nat) : ∀ (m : Nat) (s0 : Int) (s1 : List T) (s2 : List T) (s3 : Int) (s4 : Bool) (x : (List T) × (List T) × Int × Bool), l_z8_5 b n m (s0, s1, s2, s3, s4) = some x -> SemL Tryz.prog 1 code_l_z8_5 (SEnv.env 33 [(0, (V.ptr 0 0)), (1, (V.t (T.sc (.int .i64 s0)))), (5, (V.own 11 s1))]) [some [(V.t (T.list s2)), (V.t (T.sc (.int .i64 s3))), (V.t (T.sc (.bool s4)))]] (l_z8_5_Q x)
 | 0, s0, s1, s2, s3, s4, x, h => by cases h
 | m + 1, s0, s1, s2, s3, s4, x, h => by
  refine loop_step (sp_z8_ok b hb n) code_l_z8_5_ok (nl (by kernel_rfl)) (no_scope (by kernel_rfl)) ((l_z8_5_eq b n _ s0 s1 s2 s3 s4).trans h) (fun E sg h => ?_) (fun ex E sg hne h => ?_)
  ·simp only [l_z8_5_K] at h
   obtain ⟨u0, hu0, u1, hu1, u2, hu2, u3, hu3, h⟩ := ob4 h
   obtain ⟨u4, hu4, u5, hu5, h⟩ := ob2 h
   obtain ⟨u6, hu6, h⟩ := ob h
   exact SemL.pre (k := 1) (by decide) (WkA.env (WkA.cons (pW hu0) rfl (WkA.cons (iW hu1) rfl (WkA.cons (oW hu2) rfl WkA.nil))) 33) (wkR_sig (WkR.cons (nW hu3 (.cons (lW hu4) (.cons (iW hu5) (.cons (bW hu6) .nil)))).1 (nW hu3 (.cons (lW hu4) (.cons (iW hu5) (.cons (bW hu6) .nil)))).2 (renL_mem (.cons rfl (.cons rfl (.cons rfl .nil)))) (WkR.nil _)) rfl) (l_z8_5_run b hb n m _ _ _ _ _ x h)
  ·unfold l_z8_5_K at h
   split at h
   ·exact absurd rfl hne
   ·obtain ⟨u0, hu0, u1, hu1, u2, hu2, u3, hu3, h⟩ := ob4 h
    obtain ⟨u4, hu4, u5, hu5, h⟩ := ob2 h
    cases h
    exact ⟨1, _, _, by decide, WkA.env (WkA.cons (pW hu0) rfl (WkA.cons (oW hu1) rfl WkA.nil)) 33, (wkR_sig (WkR.cons (nW hu2 (.cons (lW hu3) (.cons (iW hu4) (.cons (bW hu5) .nil)))).1 (nW hu2 (.cons (lW hu3) (.cons (iW hu4) (.cons (bW hu5) .nil)))).2 (renL_mem (.cons rfl (.cons rfl (.cons rfl .nil)))) (WkR.nil _)) rfl), rfl, rfl, rfl⟩
   ·cases h
theorem l_z8_5_ok (b : B_z8) (hb : B_z8_ok b) (n : Nat) : LoopOk Tryz.prog (sp_z8 b n) 1 33 code_l_z8_5 := by
  intro R key E sg K r hk h
  rw [show Go.Eng.keyOf code_l_z8_5 = some 5 from by kernel_rfl] at hk
  cases hk
  have h : l_z8_5_S b n R E sg K = some r := h
  unfold l_z8_5_S at h
  obtain ⟨u0, hu0, u1, hu1, u2, hu2, u3, hu3, h⟩ := ob4 h
  obtain ⟨u4, hu4, u5, hu5, u6, hu6, x, hx, h⟩ := ob4 h
  refine (SemL.pre (k := 1) (by decide) (WkA.env (WkA.cons (pW hu0) rfl (WkA.cons (iW hu1) rfl (WkA.cons (oW hu2) rfl WkA.nil))) 33) (wkR_sig (WkR.cons (nW hu3 (.cons (lW hu4) (.cons (iW hu5) (.cons (bW hu6) .nil)))).1 (nW hu3 (.cons (lW hu4) (.cons (iW hu5) (.cons (bW hu6) .nil)))).2 (renL_mem (.cons rfl (.cons rfl (.cons rfl .nil)))) (WkR.nil _)) rfl) (l_z8_5_run b hb n n _ _ _ _ _ x hx)).mono ?_
  intro ex e s hq
  obtain ⟨rfl, rfl, rfl⟩ := hq
  exact ⟨_, rfl, h⟩
def K_z8 (v : V) (s : Sig) : Option ((List T) × (List T) × Int × Bool) := Option.bind (V.ownOf 11 v) fun u0 => Option.bind (cellsN 3 s 0) fun g0 => Option.bind (V.lstOf (g0.getD 0 .any)) fun g1 => Option.bind (V.intOf .i64 (g0.getD 1 .any)) fun g2 => Option.bind (V.boolOf (g0.getD 2 .any)) fun g3 => some (u0, g1, g2, g3)
theorem K_z8_wk {v : V} {s : Sig} {r : (List T) × (List T) × Int × Bool} (h : K_z8 v s = some r) : Wk v (enc_z8 r) /\ WkS 1 s (encS_z8 r) := by
 unfold K_z8 at h
 obtain ⟨u0, hu0, g0, hg0, g1, hg1, g2, hg2, h⟩ := ob4 h
 obtain ⟨g3, hg3, h⟩ := ob h
 cases h
 exact ⟨(oW hu0), (wkR_sig (WkR.cons (nW hg0 (.cons (lW hg1) (.cons (iW hg2) (.cons (bW hg3) .nil)))).1 (nW hg0 (.cons (lW hg1) (.cons (iW hg2) (.cons (bW hg3) .nil)))).2 (renL_mem (.cons rfl (.cons rfl (.cons rfl .nil)))) (WkR.nil _)) rfl)⟩
theorem f_z8_eq (b : B_z8) (n : Nat) (a0 : Int) (a1 : List T) (a2 : Int) (a3 : Bool) : mF Tryz.prog (sp_z8 b n) 81 [(V.ptr 0 0), (V.t (T.sc (.int .i64 a0)))] [some [(V.t (T.list a1)), (V.t (T.sc (.int .i64 a2))), (V.t (T.sc (.bool a3)))]] K_z8 = f_z8 b n a0 a1 a2 a3 := by kernel_rfl
theorem f_z8_ok (b : B_z8) (hb : B_z8_ok b) (n : Nat) : ok_z8 (f_z8 b n) := fun a0 a1 a2 a3 r h => mF_ok sound (sp_z8_ok b hb n) code_z8_fn code_z8_body (forall_getD (d := .skip) 1 (by kernel_rfl) (fun i hi => match i, hi with | 0, _ => l_z8_5_ok b hb n | i + 1, hi => absurd hi (by omega))) (no_scope (by kernel_rfl)) ((f_z8_eq b n a0 a1 a2 a3).trans h) (fun v s hk => ⟨(K_z8_wk hk).1, rfl, (K_z8_wk hk).2⟩)
end
end Go.Proofs.YtbcgpjlkkcdmmaaGreatDoor.W
