/- What the engine's walk comes to, printed by a program of this work: for each function its model, and that it is one. No conditions. -/
import Derived.Test.YtbcgpjlkkcdmmaaGreatDoorDecls
namespace Go.Proofs.YtbcgpjlkkcdmmaaGreatDoor.W
open Go Go.Eng
set_option linter.unusedVariables false
set_option linter.unusedSimpArgs false
set_option maxRecDepth 100000
noncomputable section
def m_z27 (n : Nat) (a0 : Int) : Option ((List T)) := declsM a0
def enc_z27 (r : (List T)) : V := (V.own 4 r)
def encS_z27 (r : (List T)) : Sig := []
def ok_z27 (m : Int -> Option ((List T))) : Prop := ∀ (a0 : Int) (r : (List T)), m a0 = some r -> FuncOk Tryz.prog 31 [(V.t (T.sc (.int .i64 a0)))] [] (enc_z27 r) (encS_z27 r)
def c_z27 (m : Int -> Option ((List T))) (vs : List V) (sg : Sig) : Option CallM := bif Nat.beq vs.length 1 && Nat.beq sg.length 0 then Option.bind (V.intOf .i64 (vs.getD 0 .any)) fun u0 => some { α := (List T), m := m u0, dflt := [], enc := fun y => ((V.own 4 y), []) } else none
theorem c_z27_ok (m : Int -> Option ((List T))) (hm : ok_z27 m) (vs : List V) (sg : Sig) (cm : CallM) (x : cm.α) (h : c_z27 m vs sg = some cm) (hx : cm.m = some x) : FuncOk Tryz.prog 31 vs sg (cm.enc x).1 (cm.enc x).2 := by
 unfold c_z27 at h
 obtain ⟨hl, hs, h⟩ := callee_sig h
 obtain ⟨u0, hu0, h⟩ := ob h
 cases h
 exact (hm u0 x hx).wk (args_wk hl (.cons (iW hu0) .nil)) (wkSg_of hs .nil)
theorem m_z27_ok (n : Nat) : ok_z27 (m_z27 n) := fun a0 r h => x_z27 h
def m_z37 (n : Nat) (a0 : List T) : Option ((List T)) :=
bif (decide ((((List.length a0 : Nat) : Int) : Int) > 16)) then (
must true (decide (0 <= 0) && decide (0 <= 16) && decide (16 <= ((List.length a0 : Nat) : Int)) && sized 5 a0) (some (List.drop (Int.toNat 0) (List.take (Int.toNat 16) a0))))
else (
some a0)
def enc_z37 (r : (List T)) : V := (V.t (T.list r))
def encS_z37 (r : (List T)) : Sig := []
def ok_z37 (m : List T -> Option ((List T))) : Prop := ∀ (a0 : List T) (r : (List T)), m a0 = some r -> FuncOk Tryz.prog 33 [(V.t (T.list a0))] [] (enc_z37 r) (encS_z37 r)
def c_z37 (m : List T -> Option ((List T))) (vs : List V) (sg : Sig) : Option CallM := bif Nat.beq vs.length 1 && Nat.beq sg.length 0 then Option.bind (V.lstOf (vs.getD 0 .any)) fun u0 => some { α := (List T), m := m u0, dflt := [], enc := fun y => ((V.t (T.list y)), []) } else none
theorem c_z37_ok (m : List T -> Option ((List T))) (hm : ok_z37 m) (vs : List V) (sg : Sig) (cm : CallM) (x : cm.α) (h : c_z37 m vs sg = some cm) (hx : cm.m = some x) : FuncOk Tryz.prog 33 vs sg (cm.enc x).1 (cm.enc x).2 := by
 unfold c_z37 at h
 obtain ⟨hl, hs, h⟩ := callee_sig h
 obtain ⟨u0, hu0, h⟩ := ob h
 cases h
 exact (hm u0 x hx).wk (args_wk hl (.cons (lW hu0) .nil)) (wkSg_of hs .nil)
def code_z37 : Code := Tryz.f33.body.getD .skip
def sp_z37 (n : Nat) : Go.Eng.Spec := ⟨fun f vs sg => (match f with
  | _ => none), fun R key E sg K => (match key with
  | _ => none)⟩
theorem sp_z37_ok (n : Nat) : CallsOk Tryz.prog (sp_z37 n) := by
 intro f vs sg cm x h hx
 have h : (none : Option CallM) = some cm := h
 cases h
theorem code_z37_fn : Tryz.prog.funcs[33]? = some Tryz.f33 := Tryz.func33
theorem code_z37_body : Tryz.f33.body = some code_z37 := by kernel_rfl
def K_z37 (v : V) (s : Sig) : Option ((List T)) := Option.bind (V.lstOf v) fun u0 => some u0
theorem K_z37_wk {v : V} {s : Sig} {r : (List T)} (h : K_z37 v s = some r) : Wk v (enc_z37 r) /\ WkS 0 s (encS_z37 r) := by
 unfold K_z37 at h
 obtain ⟨u0, hu0, h⟩ := ob h
 cases h
 exact ⟨(lW hu0), (WkS.none _)⟩
theorem m_z37_eq (n : Nat) (a0 : List T) : mF Tryz.prog (sp_z37 n) 33 [(V.t (T.list a0))] [] K_z37 = m_z37 n a0 := by kernel_rfl
theorem m_z37_ok (n : Nat) : ok_z37 (m_z37 n) := fun a0 r h => mF_ok sound (sp_z37_ok n) code_z37_fn code_z37_body (nl (by kernel_rfl)) (no_scope (by kernel_rfl)) ((m_z37_eq n a0).trans h) (fun v s hk => ⟨(K_z37_wk hk).1, rfl, (K_z37_wk hk).2⟩)
def m_z35 (n : Nat) (a0 : Int) (a1 : Int) : Option (Int) :=
must true (!decide (a1 = 0)) (bif (decide (((Int.tmod a0 a1) : Int) < 0)) then (
some (IntKind.wrap .i64 ((Int.tmod a0 a1) + a1)))
else (
some (Int.tmod a0 a1)))
def enc_z35 (r : Int) : V := (V.t (T.sc (.int .i64 r)))
def encS_z35 (r : Int) : Sig := []
def ok_z35 (m : Int -> Int -> Option (Int)) : Prop := ∀ (a0 : Int) (a1 : Int) (r : Int), m a0 a1 = some r -> FuncOk Tryz.prog 26 [(V.t (T.sc (.int .i64 a0))), (V.t (T.sc (.int .i64 a1)))] [] (enc_z35 r) (encS_z35 r)
def c_z35 (m : Int -> Int -> Option (Int)) (vs : List V) (sg : Sig) : Option CallM := bif Nat.beq vs.length 2 && Nat.beq sg.length 0 then Option.bind (V.intOf .i64 (vs.getD 0 .any)) fun u0 => Option.bind (V.intOf .i64 (vs.getD 1 .any)) fun u1 => some { α := Int, m := m u0 u1, dflt := 0, enc := fun y => ((V.t (T.sc (.int .i64 y))), []) } else none
theorem c_z35_ok (m : Int -> Int -> Option (Int)) (hm : ok_z35 m) (vs : List V) (sg : Sig) (cm : CallM) (x : cm.α) (h : c_z35 m vs sg = some cm) (hx : cm.m = some x) : FuncOk Tryz.prog 26 vs sg (cm.enc x).1 (cm.enc x).2 := by
 unfold c_z35 at h
 obtain ⟨hl, hs, h⟩ := callee_sig h
 obtain ⟨u0, hu0, u1, hu1, h⟩ := ob2 h
 cases h
 exact (hm u0 u1 x hx).wk (args_wk hl (.cons (iW hu0) (.cons (iW hu1) .nil))) (wkSg_of hs .nil)
def code_z35 : Code := Tryz.f26.body.getD .skip
def sp_z35 (n : Nat) : Go.Eng.Spec := ⟨fun f vs sg => (match f with
  | _ => none), fun R key E sg K => (match key with
  | _ => none)⟩
theorem sp_z35_ok (n : Nat) : CallsOk Tryz.prog (sp_z35 n) := by
 intro f vs sg cm x h hx
 have h : (none : Option CallM) = some cm := h
 cases h
theorem code_z35_fn : Tryz.prog.funcs[26]? = some Tryz.f26 := Tryz.func26
theorem code_z35_body : Tryz.f26.body = some code_z35 := by kernel_rfl
def K_z35 (v : V) (s : Sig) : Option (Int) := Option.bind (V.intOf .i64 v) fun u0 => some u0
theorem K_z35_wk {v : V} {s : Sig} {r : Int} (h : K_z35 v s = some r) : Wk v (enc_z35 r) /\ WkS 0 s (encS_z35 r) := by
 unfold K_z35 at h
 obtain ⟨u0, hu0, h⟩ := ob h
 cases h
 exact ⟨(iW hu0), (WkS.none _)⟩
theorem m_z35_eq (n : Nat) (a0 : Int) (a1 : Int) : mF Tryz.prog (sp_z35 n) 26 [(V.t (T.sc (.int .i64 a0))), (V.t (T.sc (.int .i64 a1)))] [] K_z35 = m_z35 n a0 a1 := by kernel_rfl
theorem m_z35_ok (n : Nat) : ok_z35 (m_z35 n) := fun a0 a1 r h => mF_ok sound (sp_z35_ok n) code_z35_fn code_z35_body (nl (by kernel_rfl)) (no_scope (by kernel_rfl)) ((m_z35_eq n a0 a1).trans h) (fun v s hk => ⟨(K_z35_wk hk).1, rfl, (K_z35_wk hk).2⟩)
def m_z28 (n : Nat) (a0 : Int) : Option (ByteArray) :=
Option.bind (m_z35 n a0 8) fun r0 =>
Option.bind (idx1 true (.str) [(T.sc (.string (⟨#[120]⟩ : ByteArray))), (T.sc (.string (⟨#[120]⟩ : ByteArray))), (T.sc (.string (⟨#[121]⟩ : ByteArray))), (T.sc (.string (⟨#[122]⟩ : ByteArray))), (T.sc (.string (⟨#[97]⟩ : ByteArray))), (T.sc (.string (⟨#[116]⟩ : ByteArray))), (T.sc (.string (⟨#[120]⟩ : ByteArray))), (T.sc (.string (⟨#[121]⟩ : ByteArray)))] r0) fun y1 =>
some y1.str
def enc_z28 (r : ByteArray) : V := (V.t (T.sc (.string r)))
def encS_z28 (r : ByteArray) : Sig := []
def ok_z28 (m : Int -> Option (ByteArray)) : Prop := ∀ (a0 : Int) (r : ByteArray), m a0 = some r -> FuncOk Tryz.prog 54 [(V.t (T.sc (.int .i64 a0)))] [] (enc_z28 r) (encS_z28 r)
def c_z28 (m : Int -> Option (ByteArray)) (vs : List V) (sg : Sig) : Option CallM := bif Nat.beq vs.length 1 && Nat.beq sg.length 0 then Option.bind (V.intOf .i64 (vs.getD 0 .any)) fun u0 => some { α := ByteArray, m := m u0, dflt := default, enc := fun y => ((V.t (T.sc (.string y))), []) } else none
theorem c_z28_ok (m : Int -> Option (ByteArray)) (hm : ok_z28 m) (vs : List V) (sg : Sig) (cm : CallM) (x : cm.α) (h : c_z28 m vs sg = some cm) (hx : cm.m = some x) : FuncOk Tryz.prog 54 vs sg (cm.enc x).1 (cm.enc x).2 := by
 unfold c_z28 at h
 obtain ⟨hl, hs, h⟩ := callee_sig h
 obtain ⟨u0, hu0, h⟩ := ob h
 cases h
 exact (hm u0 x hx).wk (args_wk hl (.cons (iW hu0) .nil)) (wkSg_of hs .nil)
def code_z28 : Code := Tryz.f54.body.getD .skip
def sp_z28 (n : Nat) : Go.Eng.Spec := ⟨fun f vs sg => (match f with
  | 26 => c_z35 (m_z35 n) vs sg
  | _ => none), fun R key E sg K => (match key with
  | _ => none)⟩
theorem sp_z28_ok (n : Nat) : CallsOk Tryz.prog (sp_z28 n) := by
 intro f vs sg cm x h hx
 simp only [sp_z28] at h
 split at h
 ·exact c_z35_ok _ (m_z35_ok n) vs sg cm x h hx
 ·cases h
theorem code_z28_fn : Tryz.prog.funcs[54]? = some Tryz.f54 := Tryz.func54
theorem code_z28_body : Tryz.f54.body = some code_z28 := by kernel_rfl
def K_z28 (v : V) (s : Sig) : Option (ByteArray) := Option.bind (V.strOf v) fun u0 => some u0
theorem K_z28_wk {v : V} {s : Sig} {r : ByteArray} (h : K_z28 v s = some r) : Wk v (enc_z28 r) /\ WkS 0 s (encS_z28 r) := by
 unfold K_z28 at h
 obtain ⟨u0, hu0, h⟩ := ob h
 cases h
 exact ⟨(sW hu0), (WkS.none _)⟩
theorem m_z28_eq (n : Nat) (a0 : Int) : mF Tryz.prog (sp_z28 n) 54 [(V.t (T.sc (.int .i64 a0)))] [] K_z28 = m_z28 n a0 := by kernel_rfl
theorem m_z28_ok (n : Nat) : ok_z28 (m_z28 n) := fun a0 r h => mF_ok sound (sp_z28_ok n) code_z28_fn code_z28_body (nl (by kernel_rfl)) (no_scope (by kernel_rfl)) ((m_z28_eq n a0).trans h) (fun v s hk => ⟨(K_z28_wk hk).1, rfl, (K_z28_wk hk).2⟩)
structure B_z34 where
 y4 : List T -> Int -> Option (Int × Int × ByteArray × (List T))
def enc_z34 (r : Int × Int × ByteArray × (List T)) : V := (V.agg [(V.t (T.sc (.int .i64 r.1))), (V.t (T.sc (.int .i64 r.2.1))), (V.t (T.sc (.string r.2.2.1))), (V.t (T.list r.2.2.2))])
def encS_z34 (r : Int × Int × ByteArray × (List T)) : Sig := []
def ok_z34 (m : List T -> Int -> Option (Int × Int × ByteArray × (List T))) : Prop := ∀ (a0 : List T) (a1 : Int) (r : Int × Int × ByteArray × (List T)), m a0 a1 = some r -> FuncOk Tryz.prog 92 [(V.t (T.list a0)), (V.t (T.sc (.int .i64 a1)))] [] (enc_z34 r) (encS_z34 r)
def c_z34 (m : List T -> Int -> Option (Int × Int × ByteArray × (List T))) (vs : List V) (sg : Sig) : Option CallM := bif Nat.beq vs.length 2 && Nat.beq sg.length 0 then Option.bind (V.lstOf (vs.getD 0 .any)) fun u0 => Option.bind (V.intOf .i64 (vs.getD 1 .any)) fun u1 => some { α := Int × Int × ByteArray × (List T), m := m u0 u1, dflt := (0, 0, default, []), enc := fun y => ((V.agg [(V.t (T.sc (.int .i64 y.1))), (V.t (T.sc (.int .i64 y.2.1))), (V.t (T.sc (.string y.2.2.1))), (V.t (T.list y.2.2.2))]), []) } else none
theorem c_z34_ok (m : List T -> Int -> Option (Int × Int × ByteArray × (List T))) (hm : ok_z34 m) (vs : List V) (sg : Sig) (cm : CallM) (x : cm.α) (h : c_z34 m vs sg = some cm) (hx : cm.m = some x) : FuncOk Tryz.prog 92 vs sg (cm.enc x).1 (cm.enc x).2 := by
 unfold c_z34 at h
 obtain ⟨hl, hs, h⟩ := callee_sig h
 obtain ⟨u0, hu0, u1, hu1, h⟩ := ob2 h
 cases h
 exact (hm u0 u1 x hx).wk (args_wk hl (.cons (lW hu0) (.cons (iW hu1) .nil))) (wkSg_of hs .nil)
structure B_z34_ok (b : B_z34) : Prop where
 y4 : ok_z34 b.y4
def f_z34 (b : B_z34) (n : Nat) (a0 : List T) (a1 : Int) : Option (Int × Int × ByteArray × (List T)) :=
bif ((((List.length a0 : Nat) : Int) : Int) == 0) then (
some (1, 1, (⟨#[]⟩ : ByteArray), ([] : List T)))
else (
Option.bind (idx true [.int .i64] a0 0) fun y0 =>
Option.bind (m_z35 n (y0.cell 0).int 16) fun r1 =>
bif (bif (decide ((r1 : Int) < 5)) then true else (decide ((a1 : Int) > 5))) then (
must true (!decide (16 = 0)) (Option.bind (m_z28 n (IntKind.wrap .i64 (Int.tdiv (y0.cell 0).int 16))) fun r2 =>
some (2, 0, r2, ([] : List T))))
else (
bif (decide ((r1 : Int) < 8)) then (
must true (!decide (16 = 0)) (Option.bind (m_z35 n (IntKind.wrap .i64 (Int.tdiv (y0.cell 0).int 16)) 5) fun r3 =>
some (1, r3, (⟨#[]⟩ : ByteArray), ([] : List T))))
else (
bif ((r1 : Int) == 8) then (
must true (decide (0 <= 1) && decide (1 <= ((List.length a0 : Nat) : Int)) && decide (((List.length a0 : Nat) : Int) <= ((List.length a0 : Nat) : Int)) && sized 1 a0) (Option.bind (b.y4 (List.drop (Int.toNat 1) (List.take (Int.toNat ((List.length a0 : Nat) : Int)) a0)) (IntKind.wrap .i64 (a1 + 1))) fun r4 =>
some (3, 0, (⟨#[]⟩ : ByteArray), [(T.agg [(T.sc (.int .i64 r4.1)), (T.sc (.int .i64 r4.2.1)), (T.sc (.string r4.2.2.1)), (T.list r4.2.2.2)])])))
else (
must true (!decide (16 = 0)) (Option.bind (m_z35 n (IntKind.wrap .i64 (Int.tdiv (y0.cell 0).int 16)) 7) fun r5 =>
must true (!decide (2 = 0)) (must true (decide (0 <= 1) && decide (1 <= (IntKind.wrap .i64 (1 + (IntKind.wrap .i64 (Int.tdiv ((List.length a0 : Nat) : Int) 2))))) && decide ((IntKind.wrap .i64 (1 + (IntKind.wrap .i64 (Int.tdiv ((List.length a0 : Nat) : Int) 2)))) <= ((List.length a0 : Nat) : Int)) && sized 1 a0) (Option.bind (b.y4 (List.drop (Int.toNat 1) (List.take (Int.toNat (IntKind.wrap .i64 (1 + (IntKind.wrap .i64 (Int.tdiv ((List.length a0 : Nat) : Int) 2))))) a0)) (IntKind.wrap .i64 (a1 + 1))) fun r6 =>
must true (decide (0 <= (IntKind.wrap .i64 (1 + (IntKind.wrap .i64 (Int.tdiv ((List.length a0 : Nat) : Int) 2))))) && decide ((IntKind.wrap .i64 (1 + (IntKind.wrap .i64 (Int.tdiv ((List.length a0 : Nat) : Int) 2)))) <= ((List.length a0 : Nat) : Int)) && decide (((List.length a0 : Nat) : Int) <= ((List.length a0 : Nat) : Int)) && sized 1 a0) (Option.bind (b.y4 (List.drop (Int.toNat (IntKind.wrap .i64 (1 + (IntKind.wrap .i64 (Int.tdiv ((List.length a0 : Nat) : Int) 2))))) (List.take (Int.toNat ((List.length a0 : Nat) : Int)) a0)) (IntKind.wrap .i64 (a1 + 1))) fun r7 =>
some ((IntKind.wrap .i64 (4 + r5)), 0, (⟨#[]⟩ : ByteArray), [(T.agg [(T.sc (.int .i64 r6.1)), (T.sc (.int .i64 r6.2.1)), (T.sc (.string r6.2.2.1)), (T.list r6.2.2.2)]), (T.agg [(T.sc (.int .i64 r7.1)), (T.sc (.int .i64 r7.2.1)), (T.sc (.string r7.2.2.1)), (T.list r7.2.2.2)])])))))))))
def code_z34 : Code := Tryz.f92.body.getD .skip
def sp_z34 (b : B_z34) (n : Nat) : Go.Eng.Spec := ⟨fun f vs sg => (match f with
  | 26 => c_z35 (m_z35 n) vs sg
  | 54 => c_z28 (m_z28 n) vs sg
  | 92 => c_z34 b.y4 vs sg
  | _ => none), fun R key E sg K => (match key with
  | _ => none)⟩
theorem sp_z34_ok (b : B_z34) (hb : B_z34_ok b) (n : Nat) : CallsOk Tryz.prog (sp_z34 b n) := by
 intro f vs sg cm x h hx
 simp only [sp_z34] at h
 split at h
 ·exact c_z35_ok _ (m_z35_ok n) vs sg cm x h hx
 ·exact c_z28_ok _ (m_z28_ok n) vs sg cm x h hx
 ·exact c_z34_ok _ hb.y4 vs sg cm x h hx
 ·cases h
theorem code_z34_fn : Tryz.prog.funcs[92]? = some Tryz.f92 := Tryz.func92
theorem code_z34_body : Tryz.f92.body = some code_z34 := by kernel_rfl
def K_z34 (v : V) (s : Sig) : Option (Int × Int × ByteArray × (List T)) := Option.bind (V.aggN 4 v) fun u0 => Option.bind (V.intOf .i64 (u0.getD 0 .any)) fun u1 => Option.bind (V.intOf .i64 (u0.getD 1 .any)) fun u2 => Option.bind (V.strOf (u0.getD 2 .any)) fun u3 => Option.bind (V.lstOf (u0.getD 3 .any)) fun u4 => some (u1, u2, u3, u4)
theorem K_z34_wk {v : V} {s : Sig} {r : Int × Int × ByteArray × (List T)} (h : K_z34 v s = some r) : Wk v (enc_z34 r) /\ WkS 0 s (encS_z34 r) := by
 unfold K_z34 at h
 obtain ⟨u0, hu0, u1, hu1, u2, hu2, u3, hu3, h⟩ := ob4 h
 obtain ⟨u4, hu4, h⟩ := ob h
 cases h
 exact ⟨(aggN_wk hu0 (.cons (iW hu1) (.cons (iW hu2) (.cons (sW hu3) (.cons (lW hu4) .nil))))), (WkS.none _)⟩
theorem f_z34_eq (b : B_z34) (n : Nat) (a0 : List T) (a1 : Int) : mF Tryz.prog (sp_z34 b n) 92 [(V.t (T.list a0)), (V.t (T.sc (.int .i64 a1)))] [] K_z34 = f_z34 b n a0 a1 := by kernel_rfl
theorem f_z34_ok (b : B_z34) (hb : B_z34_ok b) (n : Nat) : ok_z34 (f_z34 b n) := fun a0 a1 r h => mF_ok sound (sp_z34_ok b hb n) code_z34_fn code_z34_body (nl (by kernel_rfl)) (no_scope (by kernel_rfl)) ((f_z34_eq b n a0 a1).trans h) (fun v s hk => ⟨(K_z34_wk hk).1, rfl, (K_z34_wk hk).2⟩)
def unB_z34 (n : Nat) : Nat -> B_z34
 | 0 => { y4 := fun _ _ => none }
 | m + 1 => { y4 := f_z34 (unB_z34 n m) n }
theorem unB_z34_ok (n : Nat) : ∀ m, B_z34_ok (unB_z34 n m)
 | 0 => { y4 := fun _ _ _ h => (nomatch (show none = some _ from h)) }
 | m + 1 => { y4 := f_z34_ok _ (unB_z34_ok n m) n }
def m_z34 (n : Nat) : List T -> Int -> Option (Int × Int × ByteArray × (List T)) := (unB_z34 n n).y4
theorem m_z34_ok (n : Nat) : ok_z34 (m_z34 n) := (unB_z34_ok n n).y4
def m_z29 (n : Nat) (a0 : Int) (a1 : Int) (a2 : Int) (a3 : Int) (a4 : List T) : Option (Int × Int × ByteArray × (List T)) :=
bif (decide ((((List.length a4 : Nat) : Int) : Int) > 3)) then (
must true (decide (0 <= 0) && decide (0 <= 3) && decide (3 <= ((List.length a4 : Nat) : Int)) && sized 1 a4) (Option.bind (m_z34 n (List.drop (Int.toNat 0) (List.take (Int.toNat 3) a4)) 0) fun r0 =>
some (r0.1, r0.2.1, r0.2.2.1, r0.2.2.2)))
else (
Option.bind (m_z34 n a4 0) fun r1 =>
some (r1.1, r1.2.1, r1.2.2.1, r1.2.2.2))
def enc_z29 (r : Int × Int × ByteArray × (List T)) : V := (V.agg [(V.t (T.sc (.int .i64 r.1))), (V.t (T.sc (.int .i64 r.2.1))), (V.t (T.sc (.string r.2.2.1))), (V.t (T.list r.2.2.2))])
def encS_z29 (r : Int × Int × ByteArray × (List T)) : Sig := []
def ok_z29 (m : Int -> Int -> Int -> Int -> List T -> Option (Int × Int × ByteArray × (List T))) : Prop := ∀ (a0 : Int) (a1 : Int) (a2 : Int) (a3 : Int) (a4 : List T) (r : Int × Int × ByteArray × (List T)), m a0 a1 a2 a3 a4 = some r -> FuncOk Tryz.prog 55 [(V.agg [(V.t (T.sc (.int .i64 a0))), (V.t (T.sc (.int .i64 a1))), (V.t (T.sc (.int .i64 a2))), (V.t (T.sc (.int .i64 a3))), (V.t (T.list a4))])] [] (enc_z29 r) (encS_z29 r)
def c_z29 (m : Int -> Int -> Int -> Int -> List T -> Option (Int × Int × ByteArray × (List T))) (vs : List V) (sg : Sig) : Option CallM := bif Nat.beq vs.length 1 && Nat.beq sg.length 0 then Option.bind (V.aggN 5 (vs.getD 0 .any)) fun u0 => Option.bind (V.intOf .i64 (u0.getD 0 .any)) fun u1 => Option.bind (V.intOf .i64 (u0.getD 1 .any)) fun u2 => Option.bind (V.intOf .i64 (u0.getD 2 .any)) fun u3 => Option.bind (V.intOf .i64 (u0.getD 3 .any)) fun u4 => Option.bind (V.lstOf (u0.getD 4 .any)) fun u5 => some { α := Int × Int × ByteArray × (List T), m := m u1 u2 u3 u4 u5, dflt := (0, 0, default, []), enc := fun y => ((V.agg [(V.t (T.sc (.int .i64 y.1))), (V.t (T.sc (.int .i64 y.2.1))), (V.t (T.sc (.string y.2.2.1))), (V.t (T.list y.2.2.2))]), []) } else none
theorem c_z29_ok (m : Int -> Int -> Int -> Int -> List T -> Option (Int × Int × ByteArray × (List T))) (hm : ok_z29 m) (vs : List V) (sg : Sig) (cm : CallM) (x : cm.α) (h : c_z29 m vs sg = some cm) (hx : cm.m = some x) : FuncOk Tryz.prog 55 vs sg (cm.enc x).1 (cm.enc x).2 := by
 unfold c_z29 at h
 obtain ⟨hl, hs, h⟩ := callee_sig h
 obtain ⟨u0, hu0, u1, hu1, u2, hu2, u3, hu3, h⟩ := ob4 h
 obtain ⟨u4, hu4, u5, hu5, h⟩ := ob2 h
 cases h
 exact (hm u1 u2 u3 u4 u5 x hx).wk (args_wk hl (.cons (aggN_wk hu0 (.cons (iW hu1) (.cons (iW hu2) (.cons (iW hu3) (.cons (iW hu4) (.cons (lW hu5) .nil)))))) .nil)) (wkSg_of hs .nil)
def code_z29 : Code := Tryz.f55.body.getD .skip
def sp_z29 (n : Nat) : Go.Eng.Spec := ⟨fun f vs sg => (match f with
  | 92 => c_z34 (m_z34 n) vs sg
  | _ => none), fun R key E sg K => (match key with
  | _ => none)⟩
theorem sp_z29_ok (n : Nat) : CallsOk Tryz.prog (sp_z29 n) := by
 intro f vs sg cm x h hx
 simp only [sp_z29] at h
 split at h
 ·exact c_z34_ok _ (m_z34_ok n) vs sg cm x h hx
 ·cases h
theorem code_z29_fn : Tryz.prog.funcs[55]? = some Tryz.f55 := Tryz.func55
theorem code_z29_body : Tryz.f55.body = some code_z29 := by kernel_rfl
def K_z29 (v : V) (s : Sig) : Option (Int × Int × ByteArray × (List T)) := Option.bind (V.aggN 4 v) fun u0 => Option.bind (V.intOf .i64 (u0.getD 0 .any)) fun u1 => Option.bind (V.intOf .i64 (u0.getD 1 .any)) fun u2 => Option.bind (V.strOf (u0.getD 2 .any)) fun u3 => Option.bind (V.lstOf (u0.getD 3 .any)) fun u4 => some (u1, u2, u3, u4)
theorem K_z29_wk {v : V} {s : Sig} {r : Int × Int × ByteArray × (List T)} (h : K_z29 v s = some r) : Wk v (enc_z29 r) /\ WkS 0 s (encS_z29 r) := by
 unfold K_z29 at h
 obtain ⟨u0, hu0, u1, hu1, u2, hu2, u3, hu3, h⟩ := ob4 h
 obtain ⟨u4, hu4, h⟩ := ob h
 cases h
 exact ⟨(aggN_wk hu0 (.cons (iW hu1) (.cons (iW hu2) (.cons (sW hu3) (.cons (lW hu4) .nil))))), (WkS.none _)⟩
theorem m_z29_eq (n : Nat) (a0 : Int) (a1 : Int) (a2 : Int) (a3 : Int) (a4 : List T) : mF Tryz.prog (sp_z29 n) 55 [(V.agg [(V.t (T.sc (.int .i64 a0))), (V.t (T.sc (.int .i64 a1))), (V.t (T.sc (.int .i64 a2))), (V.t (T.sc (.int .i64 a3))), (V.t (T.list a4))])] [] K_z29 = m_z29 n a0 a1 a2 a3 a4 := by kernel_rfl
theorem m_z29_ok (n : Nat) : ok_z29 (m_z29 n) := fun a0 a1 a2 a3 a4 r h => mF_ok sound (sp_z29_ok n) code_z29_fn code_z29_body (nl (by kernel_rfl)) (no_scope (by kernel_rfl)) ((m_z29_eq n a0 a1 a2 a3 a4).trans h) (fun v s hk => ⟨(K_z29_wk hk).1, rfl, (K_z29_wk hk).2⟩)
structure B_z30 where
 y5 : List T -> Int -> Int -> Option ((List T) × (List T))
def enc_z30 (r : (List T) × (List T)) : V := (V.tup [(V.t (T.list r.1)), (V.t (T.list r.2))])
def encS_z30 (r : (List T) × (List T)) : Sig := []
def ok_z30 (m : List T -> Int -> Int -> Option ((List T) × (List T))) : Prop := ∀ (a0 : List T) (a1 : Int) (a2 : Int) (r : (List T) × (List T)), m a0 a1 a2 = some r -> FuncOk Tryz.prog 32 [(V.t (T.list a0)), (V.t (T.sc (.int .i64 a1))), (V.t (T.sc (.int .i64 a2)))] [] (enc_z30 r) (encS_z30 r)
def c_z30 (m : List T -> Int -> Int -> Option ((List T) × (List T))) (vs : List V) (sg : Sig) : Option CallM := bif Nat.beq vs.length 3 && Nat.beq sg.length 0 then Option.bind (V.lstOf (vs.getD 0 .any)) fun u0 => Option.bind (V.intOf .i64 (vs.getD 1 .any)) fun u1 => Option.bind (V.intOf .i64 (vs.getD 2 .any)) fun u2 => some { α := (List T) × (List T), m := m u0 u1 u2, dflt := ([], []), enc := fun y => ((V.tup [(V.t (T.list y.1)), (V.t (T.list y.2))]), []) } else none
theorem c_z30_ok (m : List T -> Int -> Int -> Option ((List T) × (List T))) (hm : ok_z30 m) (vs : List V) (sg : Sig) (cm : CallM) (x : cm.α) (h : c_z30 m vs sg = some cm) (hx : cm.m = some x) : FuncOk Tryz.prog 32 vs sg (cm.enc x).1 (cm.enc x).2 := by
 unfold c_z30 at h
 obtain ⟨hl, hs, h⟩ := callee_sig h
 obtain ⟨u0, hu0, u1, hu1, h⟩ := ob2 h
 obtain ⟨u2, hu2, h⟩ := ob h
 cases h
 exact (hm u0 u1 u2 x hx).wk (args_wk hl (.cons (lW hu0) (.cons (iW hu1) (.cons (iW hu2) .nil)))) (wkSg_of hs .nil)
structure B_z30_ok (b : B_z30) : Prop where
 y5 : ok_z30 b.y5
def l_z30_2_B (b : B_z30) (n : Nat) (k : (List T) × Int × Int × (List T) -> Option ((List T) × (List T))) : (List T) × Int × Int × (List T) -> Option ((List T) × (List T)) := fun (s0, s1, s2, s3) =>
bif (bif (decide ((((List.length s3 : Nat) : Int) : Int) < s1)) then (decide ((((List.length s0 : Nat) : Int) : Int) > 0)) else false) then (
Option.bind (idx true [.int .i64, .int .i64, .int .i64, .int .i64, .list] s0 0) fun y0 =>
must true (decide (0 <= 1) && decide (1 <= ((List.length s0 : Nat) : Int)) && decide (((List.length s0 : Nat) : Int) <= ((List.length s0 : Nat) : Int)) && sized 5 s0) (Option.bind (m_z35 n (y0.cell 0).int 24) fun r1 =>
bif (decide ((r1 : Int) < 9)) then (
Option.bind (m_z28 n (y0.cell 1).int) fun r2 =>
Option.bind (m_z29 n (y0.cell 0).int (y0.cell 1).int (y0.cell 2).int (y0.cell 3).int (y0.cell 4).lst) fun r3 =>
must true ((Nat.beq 11 11 || Nat.beq 11 0) && (decide (List.length s3 + List.length [(T.agg [(T.sc (.int .i64 1)), (T.sc (.string r2)), (T.sc (.string (⟨#[]⟩ : ByteArray))), (T.sc (.int .i64 0)), (T.sc (.int .i64 r3.1)), (T.sc (.int .i64 r3.2.1)), (T.sc (.string r3.2.2.1)), (T.list r3.2.2.2), (T.list ([] : List T)), (T.list ([] : List T)), (T.sc (.complex .f64 0 0))])] <= 1073741824) && sized 11 [(T.agg [(T.sc (.int .i64 1)), (T.sc (.string r2)), (T.sc (.string (⟨#[]⟩ : ByteArray))), (T.sc (.int .i64 0)), (T.sc (.int .i64 r3.1)), (T.sc (.int .i64 r3.2.1)), (T.sc (.string r3.2.2.1)), (T.list r3.2.2.2), (T.list ([] : List T)), (T.list ([] : List T)), (T.sc (.complex .f64 0 0))])])) (k ((List.drop (Int.toNat 1) (List.take (Int.toNat ((List.length s0 : Nat) : Int)) s0)), s1, s2, (s3 ++ [(T.agg [(T.sc (.int .i64 1)), (T.sc (.string r2)), (T.sc (.string (⟨#[]⟩ : ByteArray))), (T.sc (.int .i64 0)), (T.sc (.int .i64 r3.1)), (T.sc (.int .i64 r3.2.1)), (T.sc (.string r3.2.2.1)), (T.list r3.2.2.2), (T.list ([] : List T)), (T.list ([] : List T)), (T.sc (.complex .f64 0 0))])]))))
else (
bif (decide ((r1 : Int) < 11)) then (
must true ((Nat.beq 11 11 || Nat.beq 11 0) && (decide (List.length s3 + List.length [(T.agg [(T.sc (.int .i64 2)), (T.sc (.string (⟨#[109]⟩ : ByteArray))), (T.sc (.string (⟨#[]⟩ : ByteArray))), (T.sc (.int .i64 0)), (T.sc (.int .i64 0)), (T.sc (.int .i64 0)), (T.sc (.string (⟨#[]⟩ : ByteArray))), (T.list ([] : List T)), (T.list ([] : List T)), (T.list ([] : List T)), (T.sc (.complex .f64 0 0))])] <= 1073741824) && sized 11 [(T.agg [(T.sc (.int .i64 2)), (T.sc (.string (⟨#[109]⟩ : ByteArray))), (T.sc (.string (⟨#[]⟩ : ByteArray))), (T.sc (.int .i64 0)), (T.sc (.int .i64 0)), (T.sc (.int .i64 0)), (T.sc (.string (⟨#[]⟩ : ByteArray))), (T.list ([] : List T)), (T.list ([] : List T)), (T.list ([] : List T)), (T.sc (.complex .f64 0 0))])])) (k ((List.drop (Int.toNat 1) (List.take (Int.toNat ((List.length s0 : Nat) : Int)) s0)), s1, s2, (s3 ++ [(T.agg [(T.sc (.int .i64 2)), (T.sc (.string (⟨#[109]⟩ : ByteArray))), (T.sc (.string (⟨#[]⟩ : ByteArray))), (T.sc (.int .i64 0)), (T.sc (.int .i64 0)), (T.sc (.int .i64 0)), (T.sc (.string (⟨#[]⟩ : ByteArray))), (T.list ([] : List T)), (T.list ([] : List T)), (T.list ([] : List T)), (T.sc (.complex .f64 0 0))])]))))
else (
bif (decide ((r1 : Int) < 13)) then (
must true ((Nat.beq 11 11 || Nat.beq 11 0) && (decide (List.length s3 + List.length [(T.agg [(T.sc (.int .i64 3)), (T.sc (.string (⟨#[109]⟩ : ByteArray))), (T.sc (.string (⟨#[]⟩ : ByteArray))), (T.sc (.int .i64 0)), (T.sc (.int .i64 0)), (T.sc (.int .i64 0)), (T.sc (.string (⟨#[]⟩ : ByteArray))), (T.list ([] : List T)), (T.list ([] : List T)), (T.list ([] : List T)), (T.sc (.complex .f64 0 0))])] <= 1073741824) && sized 11 [(T.agg [(T.sc (.int .i64 3)), (T.sc (.string (⟨#[109]⟩ : ByteArray))), (T.sc (.string (⟨#[]⟩ : ByteArray))), (T.sc (.int .i64 0)), (T.sc (.int .i64 0)), (T.sc (.int .i64 0)), (T.sc (.string (⟨#[]⟩ : ByteArray))), (T.list ([] : List T)), (T.list ([] : List T)), (T.list ([] : List T)), (T.sc (.complex .f64 0 0))])])) (k ((List.drop (Int.toNat 1) (List.take (Int.toNat ((List.length s0 : Nat) : Int)) s0)), s1, s2, (s3 ++ [(T.agg [(T.sc (.int .i64 3)), (T.sc (.string (⟨#[109]⟩ : ByteArray))), (T.sc (.string (⟨#[]⟩ : ByteArray))), (T.sc (.int .i64 0)), (T.sc (.int .i64 0)), (T.sc (.int .i64 0)), (T.sc (.string (⟨#[]⟩ : ByteArray))), (T.list ([] : List T)), (T.list ([] : List T)), (T.list ([] : List T)), (T.sc (.complex .f64 0 0))])]))))
else (
bif (decide ((r1 : Int) < 15)) then (
Option.bind (m_z35 n (y0.cell 1).int 2) fun r4 =>
Option.bind (idx1 true (.str) [(T.sc (.string (⟨#[99]⟩ : ByteArray))), (T.sc (.string (⟨#[100]⟩ : ByteArray)))] r4) fun y5 =>
Option.bind (m_z29 n (y0.cell 0).int (y0.cell 1).int (y0.cell 2).int (y0.cell 3).int (y0.cell 4).lst) fun r6 =>
must true ((Nat.beq 11 11 || Nat.beq 11 0) && (decide (List.length s3 + List.length [(T.agg [(T.sc (.int .i64 4)), (T.sc (.string y5.str)), (T.sc (.string (⟨#[]⟩ : ByteArray))), (T.sc (.int .i64 0)), (T.sc (.int .i64 r6.1)), (T.sc (.int .i64 r6.2.1)), (T.sc (.string r6.2.2.1)), (T.list r6.2.2.2), (T.list ([] : List T)), (T.list ([] : List T)), (T.sc (.complex .f64 0 0))])] <= 1073741824) && sized 11 [(T.agg [(T.sc (.int .i64 4)), (T.sc (.string y5.str)), (T.sc (.string (⟨#[]⟩ : ByteArray))), (T.sc (.int .i64 0)), (T.sc (.int .i64 r6.1)), (T.sc (.int .i64 r6.2.1)), (T.sc (.string r6.2.2.1)), (T.list r6.2.2.2), (T.list ([] : List T)), (T.list ([] : List T)), (T.sc (.complex .f64 0 0))])])) (k ((List.drop (Int.toNat 1) (List.take (Int.toNat ((List.length s0 : Nat) : Int)) s0)), s1, s2, (s3 ++ [(T.agg [(T.sc (.int .i64 4)), (T.sc (.string y5.str)), (T.sc (.string (⟨#[]⟩ : ByteArray))), (T.sc (.int .i64 0)), (T.sc (.int .i64 r6.1)), (T.sc (.int .i64 r6.2.1)), (T.sc (.string r6.2.2.1)), (T.list r6.2.2.2), (T.list ([] : List T)), (T.list ([] : List T)), (T.sc (.complex .f64 0 0))])]))))
else (
bif (decide ((r1 : Int) < 17)) then (
Option.bind (m_z35 n (y0.cell 1).int 2) fun r7 =>
Option.bind (idx1 true (.str) [(T.sc (.string (⟨#[99]⟩ : ByteArray))), (T.sc (.string (⟨#[100]⟩ : ByteArray)))] r7) fun y8 =>
Option.bind (m_z28 n (y0.cell 2).int) fun r9 =>
must true ((Nat.beq 11 11 || Nat.beq 11 0) && (decide (List.length s3 + List.length [(T.agg [(T.sc (.int .i64 5)), (T.sc (.string y8.str)), (T.sc (.string r9)), (T.sc (.int .i64 0)), (T.sc (.int .i64 0)), (T.sc (.int .i64 0)), (T.sc (.string (⟨#[]⟩ : ByteArray))), (T.list ([] : List T)), (T.list ([] : List T)), (T.list ([] : List T)), (T.sc (.complex .f64 0 0))])] <= 1073741824) && sized 11 [(T.agg [(T.sc (.int .i64 5)), (T.sc (.string y8.str)), (T.sc (.string r9)), (T.sc (.int .i64 0)), (T.sc (.int .i64 0)), (T.sc (.int .i64 0)), (T.sc (.string (⟨#[]⟩ : ByteArray))), (T.list ([] : List T)), (T.list ([] : List T)), (T.list ([] : List T)), (T.sc (.complex .f64 0 0))])])) (k ((List.drop (Int.toNat 1) (List.take (Int.toNat ((List.length s0 : Nat) : Int)) s0)), s1, s2, (s3 ++ [(T.agg [(T.sc (.int .i64 5)), (T.sc (.string y8.str)), (T.sc (.string r9)), (T.sc (.int .i64 0)), (T.sc (.int .i64 0)), (T.sc (.int .i64 0)), (T.sc (.string (⟨#[]⟩ : ByteArray))), (T.list ([] : List T)), (T.list ([] : List T)), (T.list ([] : List T)), (T.sc (.complex .f64 0 0))])]))))
else (
bif (decide ((r1 : Int) < 18)) then (
Option.bind (m_z29 n (y0.cell 0).int (y0.cell 1).int (y0.cell 2).int (y0.cell 3).int (y0.cell 4).lst) fun r10 =>
must true ((Nat.beq 11 11 || Nat.beq 11 0) && (decide (List.length s3 + List.length [(T.agg [(T.sc (.int .i64 6)), (T.sc (.string (⟨#[]⟩ : ByteArray))), (T.sc (.string (⟨#[]⟩ : ByteArray))), (T.sc (.int .i64 0)), (T.sc (.int .i64 r10.1)), (T.sc (.int .i64 r10.2.1)), (T.sc (.string r10.2.2.1)), (T.list r10.2.2.2), (T.list ([] : List T)), (T.list ([] : List T)), (T.sc (.complex .f64 0 0))])] <= 1073741824) && sized 11 [(T.agg [(T.sc (.int .i64 6)), (T.sc (.string (⟨#[]⟩ : ByteArray))), (T.sc (.string (⟨#[]⟩ : ByteArray))), (T.sc (.int .i64 0)), (T.sc (.int .i64 r10.1)), (T.sc (.int .i64 r10.2.1)), (T.sc (.string r10.2.2.1)), (T.list r10.2.2.2), (T.list ([] : List T)), (T.list ([] : List T)), (T.sc (.complex .f64 0 0))])])) (k ((List.drop (Int.toNat 1) (List.take (Int.toNat ((List.length s0 : Nat) : Int)) s0)), s1, s2, (s3 ++ [(T.agg [(T.sc (.int .i64 6)), (T.sc (.string (⟨#[]⟩ : ByteArray))), (T.sc (.string (⟨#[]⟩ : ByteArray))), (T.sc (.int .i64 0)), (T.sc (.int .i64 r10.1)), (T.sc (.int .i64 r10.2.1)), (T.sc (.string r10.2.2.1)), (T.list r10.2.2.2), (T.list ([] : List T)), (T.list ([] : List T)), (T.sc (.complex .f64 0 0))])]))))
else (
bif (bif (decide ((r1 : Int) < 20)) then (decide ((s2 : Int) < 3)) else false) then (
Option.bind (m_z29 n (y0.cell 0).int (y0.cell 1).int (y0.cell 2).int (y0.cell 3).int (y0.cell 4).lst) fun r11 =>
Option.bind (m_z35 n (y0.cell 1).int 2) fun r12 =>
Option.bind (b.y5 (List.drop (Int.toNat 1) (List.take (Int.toNat ((List.length s0 : Nat) : Int)) s0)) (IntKind.wrap .i64 (1 + r12)) (IntKind.wrap .i64 (s2 + 1))) fun r13 =>
must true (!decide (3 = 0)) (bif (((Int.tmod (y0.cell 2).int 3) : Int) == 0) then (
Option.bind (m_z35 n (y0.cell 3).int 2) fun r14 =>
Option.bind (b.y5 r13.2 (IntKind.wrap .i64 (1 + r14)) (IntKind.wrap .i64 (s2 + 1))) fun r15 =>
must true ((Nat.beq 11 11 || Nat.beq 11 0) && (decide (List.length s3 + List.length [(T.agg [(T.sc (.int .i64 7)), (T.sc (.string (⟨#[]⟩ : ByteArray))), (T.sc (.string (⟨#[]⟩ : ByteArray))), (T.sc (.int .i64 0)), (T.sc (.int .i64 r11.1)), (T.sc (.int .i64 r11.2.1)), (T.sc (.string r11.2.2.1)), (T.list r11.2.2.2), (T.list r13.1), (T.list r15.1), (T.sc (.complex .f64 0 0))])] <= 1073741824) && sized 11 [(T.agg [(T.sc (.int .i64 7)), (T.sc (.string (⟨#[]⟩ : ByteArray))), (T.sc (.string (⟨#[]⟩ : ByteArray))), (T.sc (.int .i64 0)), (T.sc (.int .i64 r11.1)), (T.sc (.int .i64 r11.2.1)), (T.sc (.string r11.2.2.1)), (T.list r11.2.2.2), (T.list r13.1), (T.list r15.1), (T.sc (.complex .f64 0 0))])])) (k (r15.2, s1, s2, (s3 ++ [(T.agg [(T.sc (.int .i64 7)), (T.sc (.string (⟨#[]⟩ : ByteArray))), (T.sc (.string (⟨#[]⟩ : ByteArray))), (T.sc (.int .i64 0)), (T.sc (.int .i64 r11.1)), (T.sc (.int .i64 r11.2.1)), (T.sc (.string r11.2.2.1)), (T.list r11.2.2.2), (T.list r13.1), (T.list r15.1), (T.sc (.complex .f64 0 0))])]))))
else (
must true ((Nat.beq 11 11 || Nat.beq 11 0) && (decide (List.length s3 + List.length [(T.agg [(T.sc (.int .i64 7)), (T.sc (.string (⟨#[]⟩ : ByteArray))), (T.sc (.string (⟨#[]⟩ : ByteArray))), (T.sc (.int .i64 0)), (T.sc (.int .i64 r11.1)), (T.sc (.int .i64 r11.2.1)), (T.sc (.string r11.2.2.1)), (T.list r11.2.2.2), (T.list r13.1), (T.list ([] : List T)), (T.sc (.complex .f64 0 0))])] <= 1073741824) && sized 11 [(T.agg [(T.sc (.int .i64 7)), (T.sc (.string (⟨#[]⟩ : ByteArray))), (T.sc (.string (⟨#[]⟩ : ByteArray))), (T.sc (.int .i64 0)), (T.sc (.int .i64 r11.1)), (T.sc (.int .i64 r11.2.1)), (T.sc (.string r11.2.2.1)), (T.list r11.2.2.2), (T.list r13.1), (T.list ([] : List T)), (T.sc (.complex .f64 0 0))])])) (k (r13.2, s1, s2, (s3 ++ [(T.agg [(T.sc (.int .i64 7)), (T.sc (.string (⟨#[]⟩ : ByteArray))), (T.sc (.string (⟨#[]⟩ : ByteArray))), (T.sc (.int .i64 0)), (T.sc (.int .i64 r11.1)), (T.sc (.int .i64 r11.2.1)), (T.sc (.string r11.2.2.1)), (T.list r11.2.2.2), (T.list r13.1), (T.list ([] : List T)), (T.sc (.complex .f64 0 0))])]))))))
else (
bif (bif (decide ((r1 : Int) < 21)) then (decide ((s2 : Int) < 3)) else false) then (
Option.bind (m_z35 n (y0.cell 3).int 3) fun r16 =>
Option.bind (m_z35 n (y0.cell 1).int 2) fun r17 =>
Option.bind (b.y5 (List.drop (Int.toNat 1) (List.take (Int.toNat ((List.length s0 : Nat) : Int)) s0)) (IntKind.wrap .i64 (1 + r17)) (IntKind.wrap .i64 (s2 + 1))) fun r18 =>
must true ((Nat.beq 11 11 || Nat.beq 11 0) && (decide (List.length s3 + List.length [(T.agg [(T.sc (.int .i64 8)), (T.sc (.string (⟨#[]⟩ : ByteArray))), (T.sc (.string (⟨#[]⟩ : ByteArray))), (T.sc (.int .i64 r16)), (T.sc (.int .i64 0)), (T.sc (.int .i64 0)), (T.sc (.string (⟨#[]⟩ : ByteArray))), (T.list ([] : List T)), (T.list r18.1), (T.list ([] : List T)), (T.sc (.complex .f64 0 0))])] <= 1073741824) && sized 11 [(T.agg [(T.sc (.int .i64 8)), (T.sc (.string (⟨#[]⟩ : ByteArray))), (T.sc (.string (⟨#[]⟩ : ByteArray))), (T.sc (.int .i64 r16)), (T.sc (.int .i64 0)), (T.sc (.int .i64 0)), (T.sc (.string (⟨#[]⟩ : ByteArray))), (T.list ([] : List T)), (T.list r18.1), (T.list ([] : List T)), (T.sc (.complex .f64 0 0))])])) (k (r18.2, s1, s2, (s3 ++ [(T.agg [(T.sc (.int .i64 8)), (T.sc (.string (⟨#[]⟩ : ByteArray))), (T.sc (.string (⟨#[]⟩ : ByteArray))), (T.sc (.int .i64 r16)), (T.sc (.int .i64 0)), (T.sc (.int .i64 0)), (T.sc (.string (⟨#[]⟩ : ByteArray))), (T.list ([] : List T)), (T.list r18.1), (T.list ([] : List T)), (T.sc (.complex .f64 0 0))])]))))
else (
bif (decide ((r1 : Int) < 22)) then (
Option.bind (m_z35 n (y0.cell 1).int 2) fun r19 =>
Option.bind (idx1 true (.str) [(T.sc (.string (⟨#[108]⟩ : ByteArray))), (T.sc (.string (⟨#[107]⟩ : ByteArray)))] r19) fun y20 =>
must true ((Nat.beq 11 11 || Nat.beq 11 0) && (decide (List.length s3 + List.length [(T.agg [(T.sc (.int .i64 9)), (T.sc (.string y20.str)), (T.sc (.string (⟨#[]⟩ : ByteArray))), (T.sc (.int .i64 0)), (T.sc (.int .i64 0)), (T.sc (.int .i64 0)), (T.sc (.string (⟨#[]⟩ : ByteArray))), (T.list ([] : List T)), (T.list ([] : List T)), (T.list ([] : List T)), (T.sc (.complex .f64 0 0))])] <= 1073741824) && sized 11 [(T.agg [(T.sc (.int .i64 9)), (T.sc (.string y20.str)), (T.sc (.string (⟨#[]⟩ : ByteArray))), (T.sc (.int .i64 0)), (T.sc (.int .i64 0)), (T.sc (.int .i64 0)), (T.sc (.string (⟨#[]⟩ : ByteArray))), (T.list ([] : List T)), (T.list ([] : List T)), (T.list ([] : List T)), (T.sc (.complex .f64 0 0))])])) (k ((List.drop (Int.toNat 1) (List.take (Int.toNat ((List.length s0 : Nat) : Int)) s0)), s1, s2, (s3 ++ [(T.agg [(T.sc (.int .i64 9)), (T.sc (.string y20.str)), (T.sc (.string (⟨#[]⟩ : ByteArray))), (T.sc (.int .i64 0)), (T.sc (.int .i64 0)), (T.sc (.int .i64 0)), (T.sc (.string (⟨#[]⟩ : ByteArray))), (T.list ([] : List T)), (T.list ([] : List T)), (T.list ([] : List T)), (T.sc (.complex .f64 0 0))])]))))
else (
bif (decide ((r1 : Int) < 23)) then (
Option.bind (m_z35 n (y0.cell 1).int 2) fun r21 =>
Option.bind (idx1 true (.str) [(T.sc (.string (⟨#[108]⟩ : ByteArray))), (T.sc (.string (⟨#[107]⟩ : ByteArray)))] r21) fun y22 =>
must true ((Nat.beq 11 11 || Nat.beq 11 0) && (decide (List.length s3 + List.length [(T.agg [(T.sc (.int .i64 10)), (T.sc (.string y22.str)), (T.sc (.string (⟨#[]⟩ : ByteArray))), (T.sc (.int .i64 0)), (T.sc (.int .i64 0)), (T.sc (.int .i64 0)), (T.sc (.string (⟨#[]⟩ : ByteArray))), (T.list ([] : List T)), (T.list ([] : List T)), (T.list ([] : List T)), (T.sc (.complex .f64 0 0))])] <= 1073741824) && sized 11 [(T.agg [(T.sc (.int .i64 10)), (T.sc (.string y22.str)), (T.sc (.string (⟨#[]⟩ : ByteArray))), (T.sc (.int .i64 0)), (T.sc (.int .i64 0)), (T.sc (.int .i64 0)), (T.sc (.string (⟨#[]⟩ : ByteArray))), (T.list ([] : List T)), (T.list ([] : List T)), (T.list ([] : List T)), (T.sc (.complex .f64 0 0))])])) (k ((List.drop (Int.toNat 1) (List.take (Int.toNat ((List.length s0 : Nat) : Int)) s0)), s1, s2, (s3 ++ [(T.agg [(T.sc (.int .i64 10)), (T.sc (.string y22.str)), (T.sc (.string (⟨#[]⟩ : ByteArray))), (T.sc (.int .i64 0)), (T.sc (.int .i64 0)), (T.sc (.int .i64 0)), (T.sc (.string (⟨#[]⟩ : ByteArray))), (T.list ([] : List T)), (T.list ([] : List T)), (T.list ([] : List T)), (T.sc (.complex .f64 0 0))])]))))
else (
Option.bind (m_z29 n (y0.cell 0).int (y0.cell 1).int (y0.cell 2).int (y0.cell 3).int (y0.cell 4).lst) fun r23 =>
must true ((Nat.beq 11 11 || Nat.beq 11 0) && (decide (List.length s3 + List.length [(T.agg [(T.sc (.int .i64 1)), (T.sc (.string (⟨#[116]⟩ : ByteArray))), (T.sc (.string (⟨#[]⟩ : ByteArray))), (T.sc (.int .i64 0)), (T.sc (.int .i64 r23.1)), (T.sc (.int .i64 r23.2.1)), (T.sc (.string r23.2.2.1)), (T.list r23.2.2.2), (T.list ([] : List T)), (T.list ([] : List T)), (T.sc (.complex .f64 0 0))])] <= 1073741824) && sized 11 [(T.agg [(T.sc (.int .i64 1)), (T.sc (.string (⟨#[116]⟩ : ByteArray))), (T.sc (.string (⟨#[]⟩ : ByteArray))), (T.sc (.int .i64 0)), (T.sc (.int .i64 r23.1)), (T.sc (.int .i64 r23.2.1)), (T.sc (.string r23.2.2.1)), (T.list r23.2.2.2), (T.list ([] : List T)), (T.list ([] : List T)), (T.sc (.complex .f64 0 0))])])) (k ((List.drop (Int.toNat 1) (List.take (Int.toNat ((List.length s0 : Nat) : Int)) s0)), s1, s2, (s3 ++ [(T.agg [(T.sc (.int .i64 1)), (T.sc (.string (⟨#[116]⟩ : ByteArray))), (T.sc (.string (⟨#[]⟩ : ByteArray))), (T.sc (.int .i64 0)), (T.sc (.int .i64 r23.1)), (T.sc (.int .i64 r23.2.1)), (T.sc (.string r23.2.2.1)), (T.list r23.2.2.2), (T.list ([] : List T)), (T.list ([] : List T)), (T.sc (.complex .f64 0 0))])])))))))))))))))
else (
some (s0, s3))
def l_z30_2 (b : B_z30) (n : Nat) : Nat -> (List T) × Int × Int × (List T) -> Option ((List T) × (List T))
 | 0, _ => none
 | m + 1, s => l_z30_2_B b n (l_z30_2 b n m) s
def f_z30 (b : B_z30) (n : Nat) (a0 : List T) (a1 : Int) (a2 : Int) : Option ((List T) × (List T)) :=
Option.bind (l_z30_2 b n n (a0, a1, a2, ([] : List T))) fun p25 =>
some (p25.2, p25.1)
def code_z30 : Code := Tryz.f32.body.getD .skip
def l_z30_2_S (b : B_z30) (n : Nat) (R : Type) (E : SEnv) (sg : Sig) (K : Ex -> SEnv -> Sig -> Option R) : Option R := Option.bind (V.lstOf (SEnv.at E 0)) fun u0 => Option.bind (V.intOf .i64 (SEnv.at E 1)) fun u1 => Option.bind (V.intOf .i64 (SEnv.at E 2)) fun u2 => Option.bind (V.ownOf 11 (SEnv.at E 8)) fun u3 => Option.bind (l_z30_2 b n n (u0, u1, u2, u3)) fun p0 => K (.exit 0) [(0, (V.t (T.list p0.1))), (8, (V.own 11 p0.2))] []
def sp_z30 (b : B_z30) (n : Nat) : Go.Eng.Spec := ⟨fun f vs sg => (match f with
  | 26 => c_z35 (m_z35 n) vs sg
  | 54 => c_z28 (m_z28 n) vs sg
  | 55 => c_z29 (m_z29 n) vs sg
  | 32 => c_z30 b.y5 vs sg
  | _ => none), fun R key E sg K => (match key with
  | 2 => l_z30_2_S b n R E sg K
  | _ => none)⟩
theorem sp_z30_ok (b : B_z30) (hb : B_z30_ok b) (n : Nat) : CallsOk Tryz.prog (sp_z30 b n) := by
 intro f vs sg cm x h hx
 simp only [sp_z30] at h
 split at h
 ·exact c_z35_ok _ (m_z35_ok n) vs sg cm x h hx
 ·exact c_z28_ok _ (m_z28_ok n) vs sg cm x h hx
 ·exact c_z29_ok _ (m_z29_ok n) vs sg cm x h hx
 ·exact c_z30_ok _ hb.y5 vs sg cm x h hx
 ·cases h
theorem code_z30_fn : Tryz.prog.funcs[32]? = some Tryz.f32 := Tryz.func32
theorem code_z30_body : Tryz.f32.body = some code_z30 := by kernel_rfl
theorem code_z30_ok : CodeOk Tryz.prog code_z30 := (sound 32 _ _ code_z30_fn code_z30_body).1
def code_l_z30_2 : Code := (loopsOf code_z30).getD 0 .skip
theorem code_l_z30_2_ok : CodeOk Tryz.prog code_l_z30_2 := codeOk_loops code_z30_ok _ (getD_mem (by kernel_rfl))
def l_z30_2_K (k : (List T) × Int × Int × (List T) -> Option ((List T) × (List T))) : Ex -> SEnv -> Sig -> Option ((List T) × (List T)) := fun x E sg => match x with
 | .normal => Option.bind (V.lstOf (SEnv.at E 0)) fun u0 => Option.bind (V.intOf .i64 (SEnv.at E 1)) fun u1 => Option.bind (V.intOf .i64 (SEnv.at E 2)) fun u2 => Option.bind (V.ownOf 11 (SEnv.at E 8)) fun u3 => k (u0, u1, u2, u3)
 | (.exit 0) => Option.bind (V.lstOf (SEnv.at E 0)) fun u0 => Option.bind (V.ownOf 11 (SEnv.at E 8)) fun u1 => some (u0, u1)
 | _ => none
theorem l_z30_2_eq (b : B_z30) (n : Nat) (k : (List T) × Int × Int × (List T) -> Option ((List T) × (List T))) (s0 : List T) (s1 : Int) (s2 : Int) (s3 : List T) : mX Tryz.prog (sp_z30 b n) 179 code_l_z30_2 [(0, (V.t (T.list s0))), (1, (V.t (T.sc (.int .i64 s1)))), (2, (V.t (T.sc (.int .i64 s2)))), (8, (V.own 11 s3))] [] (l_z30_2_K k) = l_z30_2_B b n k (s0, s1, s2, s3) := by kernel_rfl
def l_z30_2_Q (x : (List T) × (List T)) (ex : Ex) (e : Env) (s : Sig) : Prop := (fun p0 => (ex = (.exit 0) /\ e = SEnv.env 179 [(0, (V.t (T.list p0.1))), (8, (V.own 11 p0.2))] /\ s = [])) x
theorem l_z30_2_run (b : B_z30) (hb : B_z30_ok b) (n : Nat) : ∀ (m : Nat) (s0 : List T) (s1 : Int) (s2 : Int) (s3 : List T) (x : (List T) × (List T)), l_z30_2 b n m (s0, s1, s2, s3) = some x -> SemL Tryz.prog 0 code_l_z30_2 (SEnv.env 179 [(0, (V.t (T.list s0))), (1, (V.t (T.sc (.int .i64 s1)))), (2, (V.t (T.sc (.int .i64 s2)))), (8, (V.own 11 s3))]) [] (l_z30_2_Q x)
 | 0, s0, s1, s2, s3, x, h => by cases h
 | m + 1, s0, s1, s2, s3, x, h => by
  refine loop_step (sp_z30_ok b hb n) code_l_z30_2_ok (nl (by kernel_rfl)) (no_scope (by kernel_rfl)) ((l_z30_2_eq b n _ s0 s1 s2 s3).trans h) (fun E sg h => ?_) (fun ex E sg hne h => ?_)
  ·simp only [l_z30_2_K] at h
   obtain ⟨u0, hu0, u1, hu1, u2, hu2, u3, hu3, h⟩ := ob4 h
   exact SemL.pre (k := 0) (by decide) (WkA.env (WkA.cons (lW hu0) rfl (WkA.cons (iW hu1) rfl (WkA.cons (iW hu2) rfl (WkA.cons (oW hu3) rfl WkA.nil)))) 179) (WkS.none _) (l_z30_2_run b hb n m _ _ _ _ x h)
  ·unfold l_z30_2_K at h
   split at h
   ·exact absurd rfl hne
   ·obtain ⟨u0, hu0, u1, hu1, h⟩ := ob2 h
    cases h
    exact ⟨0, _, _, by decide, WkA.env (WkA.cons (lW hu0) rfl (WkA.cons (oW hu1) rfl WkA.nil)) 179, (WkS.none _), rfl, rfl, rfl⟩
   ·cases h
theorem l_z30_2_ok (b : B_z30) (hb : B_z30_ok b) (n : Nat) : LoopOk Tryz.prog (sp_z30 b n) 0 179 code_l_z30_2 := by
  intro R key E sg K r hk h
  rw [show Go.Eng.keyOf code_l_z30_2 = some 2 from by kernel_rfl] at hk
  cases hk
  have h : l_z30_2_S b n R E sg K = some r := h
  unfold l_z30_2_S at h
  obtain ⟨u0, hu0, u1, hu1, u2, hu2, u3, hu3, h⟩ := ob4 h
  obtain ⟨x, hx, h⟩ := ob h
  refine (SemL.pre (k := 0) (by decide) (WkA.env (WkA.cons (lW hu0) rfl (WkA.cons (iW hu1) rfl (WkA.cons (iW hu2) rfl (WkA.cons (oW hu3) rfl WkA.nil)))) 179) (WkS.none _) (l_z30_2_run b hb n n _ _ _ _ x hx)).mono ?_
  intro ex e s hq
  obtain ⟨rfl, rfl, rfl⟩ := hq
  exact ⟨_, rfl, h⟩
def K_z30 (v : V) (s : Sig) : Option ((List T) × (List T)) := Option.bind (V.tupN 2 v) fun u0 => Option.bind (V.lstOf (u0.getD 0 .any)) fun u1 => Option.bind (V.lstOf (u0.getD 1 .any)) fun u2 => some (u1, u2)
theorem K_z30_wk {v : V} {s : Sig} {r : (List T) × (List T)} (h : K_z30 v s = some r) : Wk v (enc_z30 r) /\ WkS 0 s (encS_z30 r) := by
 unfold K_z30 at h
 obtain ⟨u0, hu0, u1, hu1, h⟩ := ob2 h
 obtain ⟨u2, hu2, h⟩ := ob h
 cases h
 exact ⟨(tupN_wk hu0 (.cons (lW hu1) (.cons (lW hu2) .nil))), (WkS.none _)⟩
theorem f_z30_eq (b : B_z30) (n : Nat) (a0 : List T) (a1 : Int) (a2 : Int) : mF Tryz.prog (sp_z30 b n) 32 [(V.t (T.list a0)), (V.t (T.sc (.int .i64 a1))), (V.t (T.sc (.int .i64 a2)))] [] K_z30 = f_z30 b n a0 a1 a2 := by kernel_rfl
theorem f_z30_ok (b : B_z30) (hb : B_z30_ok b) (n : Nat) : ok_z30 (f_z30 b n) := fun a0 a1 a2 r h => mF_ok sound (sp_z30_ok b hb n) code_z30_fn code_z30_body (forall_getD (d := .skip) 1 (by kernel_rfl) (fun i hi => match i, hi with | 0, _ => l_z30_2_ok b hb n | i + 1, hi => absurd hi (by omega))) (no_scope (by kernel_rfl)) ((f_z30_eq b n a0 a1 a2).trans h) (fun v s hk => ⟨(K_z30_wk hk).1, rfl, (K_z30_wk hk).2⟩)
def unB_z30 (n : Nat) : Nat -> B_z30
 | 0 => { y5 := fun _ _ _ => none }
 | m + 1 => { y5 := f_z30 (unB_z30 n m) n }
theorem unB_z30_ok (n : Nat) : ∀ m, B_z30_ok (unB_z30 n m)
 | 0 => { y5 := fun _ _ _ _ h => (nomatch (show none = some _ from h)) }
 | m + 1 => { y5 := f_z30_ok _ (unB_z30_ok n m) n }
def m_z30 (n : Nat) : List T -> Int -> Int -> Option ((List T) × (List T)) := (unB_z30 n n).y5
theorem m_z30_ok (n : Nat) : ok_z30 (m_z30 n) := (unB_z30_ok n n).y5
def l_z36_3_B (n : Nat) (k : (List T) × Int × (List T) × (List T) × (List T) × Int × (List T) × (List T) × (List T) × (List T) -> Option ((List T) × (List T) × (List T) × (List T))) : (List T) × Int × (List T) × (List T) × (List T) × Int × (List T) × (List T) × (List T) × (List T) -> Option ((List T) × (List T) × (List T) × (List T)) := fun (s0, s1, s2, s3, s4, s5, s6, s7, s8, s9) =>
bif (decide ((s5 : Int) < 3)) then (
Option.bind (idx1 true (.list) [(T.list s2), (T.list s3), (T.list s4)] s5) fun y1 =>
bif (bif ((s5 : Int) == 2) then (bif ((((List.length s0 : Nat) : Int) : Int) == 0) then true else (decide ((s1 : Int) > 4))) else false) then (
some (s6, s7, s8, s9))
else (
Option.bind (m_z37 n y1.lst) fun r2 =>
Option.bind (m_z30 n r2 s1 1) fun r3 =>
must true ((Nat.beq 1 1 || Nat.beq 1 0) && (decide (List.length s9 + List.length [(T.list r3.1)] <= 1073741824) && sized 1 [(T.list r3.1)])) (k (s0, s1, s2, s3, s4, (IntKind.wrap .i64 (s5 + 1)), s6, s7, s8, (s9 ++ [(T.list r3.1)])))))
else (
some (s6, s7, s8, s9))
def l_z36_3 (n : Nat) : Nat -> (List T) × Int × (List T) × (List T) × (List T) × Int × (List T) × (List T) × (List T) × (List T) -> Option ((List T) × (List T) × (List T) × (List T))
 | 0, _ => none
 | m + 1, s => l_z36_3_B n (l_z36_3 n m) s
def m_z36 (n : Nat) (a0 : Int) (a1 : List T) (a2 : List T) (a3 : List T) (a4 : Int) : Option ((List T) × (List T)) :=
Option.bind (m_z27 n a0) fun r0 =>
Option.bind (l_z36_3 n n (a3, a4, a1, a2, a3, 0, ([] : List T), ([] : List T), r0, ([] : List T))) fun p5 =>
some (p5.2.2.1, p5.2.2.2)
def enc_z36 (r : (List T) × (List T)) : V := (V.agg [(V.t (T.list r.1)), (V.t (T.list r.2))])
def encS_z36 (r : (List T) × (List T)) : Sig := []
def ok_z36 (m : Int -> List T -> List T -> List T -> Int -> Option ((List T) × (List T))) : Prop := ∀ (a0 : Int) (a1 : List T) (a2 : List T) (a3 : List T) (a4 : Int) (r : (List T) × (List T)), m a0 a1 a2 a3 a4 = some r -> FuncOk Tryz.prog 12 [(V.t (T.sc (.int .i64 a0))), (V.t (T.list a1)), (V.t (T.list a2)), (V.t (T.list a3)), (V.t (T.sc (.int .i64 a4)))] [] (enc_z36 r) (encS_z36 r)
def c_z36 (m : Int -> List T -> List T -> List T -> Int -> Option ((List T) × (List T))) (vs : List V) (sg : Sig) : Option CallM := bif Nat.beq vs.length 5 && Nat.beq sg.length 0 then Option.bind (V.intOf .i64 (vs.getD 0 .any)) fun u0 => Option.bind (V.lstOf (vs.getD 1 .any)) fun u1 => Option.bind (V.lstOf (vs.getD 2 .any)) fun u2 => Option.bind (V.lstOf (vs.getD 3 .any)) fun u3 => Option.bind (V.intOf .i64 (vs.getD 4 .any)) fun u4 => some { α := (List T) × (List T), m := m u0 u1 u2 u3 u4, dflt := ([], []), enc := fun y => ((V.agg [(V.t (T.list y.1)), (V.t (T.list y.2))]), []) } else none
theorem c_z36_ok (m : Int -> List T -> List T -> List T -> Int -> Option ((List T) × (List T))) (hm : ok_z36 m) (vs : List V) (sg : Sig) (cm : CallM) (x : cm.α) (h : c_z36 m vs sg = some cm) (hx : cm.m = some x) : FuncOk Tryz.prog 12 vs sg (cm.enc x).1 (cm.enc x).2 := by
 unfold c_z36 at h
 obtain ⟨hl, hs, h⟩ := callee_sig h
 obtain ⟨u0, hu0, u1, hu1, u2, hu2, u3, hu3, h⟩ := ob4 h
 obtain ⟨u4, hu4, h⟩ := ob h
 cases h
 exact (hm u0 u1 u2 u3 u4 x hx).wk (args_wk hl (.cons (iW hu0) (.cons (lW hu1) (.cons (lW hu2) (.cons (lW hu3) (.cons (iW hu4) .nil)))))) (wkSg_of hs .nil)
def code_z36 : Code := Tryz.f12.body.getD .skip
def l_z36_3_S (n : Nat) (R : Type) (E : SEnv) (sg : Sig) (K : Ex -> SEnv -> Sig -> Option R) : Option R := Option.bind (V.lstOf (SEnv.at E 3)) fun u0 => Option.bind (V.intOf .i64 (SEnv.at E 4)) fun u1 => Option.bind (V.ptrOf 0 0 (SEnv.at E 10)) fun u2 => Option.bind (V.ptrOf 1 0 (SEnv.at E 11)) fun u3 => Option.bind (V.aggN 3 (SEnv.at E 22)) fun u4 => Option.bind (V.lstOf (u4.getD 0 .any)) fun u5 => Option.bind (V.lstOf (u4.getD 1 .any)) fun u6 => Option.bind (V.lstOf (u4.getD 2 .any)) fun u7 => Option.bind (V.intOf .i64 (SEnv.at E 23)) fun u8 => Option.bind (cellsN 2 sg 0) fun u9 => Option.bind (V.ownOf 0 (u9.getD 0 .any)) fun u10 => Option.bind (V.ownOf 0 (u9.getD 1 .any)) fun u11 => Option.bind (cellsN 2 sg 1) fun u12 => Option.bind (V.lstOf (u12.getD 0 .any)) fun u13 => Option.bind (V.ownOf 1 (u12.getD 1 .any)) fun u14 => Option.bind (l_z36_3 n n (u0, u1, u5, u6, u7, u8, u10, u11, u13, u14)) fun p0 => K (.exit 0) [(10, (V.ptr 0 0)), (11, (V.ptr 1 0))] [some [(V.own 0 p0.1), (V.own 0 p0.2.1)], some [(V.t (T.list p0.2.2.1)), (V.own 1 p0.2.2.2)]]
def sp_z36 (n : Nat) : Go.Eng.Spec := ⟨fun f vs sg => (match f with
  | 31 => c_z27 (m_z27 n) vs sg
  | 33 => c_z37 (m_z37 n) vs sg
  | 32 => c_z30 (m_z30 n) vs sg
  | _ => none), fun R key E sg K => (match key with
  | 3 => l_z36_3_S n R E sg K
  | _ => none)⟩
theorem sp_z36_ok (n : Nat) : CallsOk Tryz.prog (sp_z36 n) := by
 intro f vs sg cm x h hx
 simp only [sp_z36] at h
 split at h
 ·exact c_z27_ok _ (m_z27_ok n) vs sg cm x h hx
 ·exact c_z37_ok _ (m_z37_ok n) vs sg cm x h hx
 ·exact c_z30_ok _ (m_z30_ok n) vs sg cm x h hx
 ·cases h
theorem code_z36_fn : Tryz.prog.funcs[12]? = some Tryz.f12 := Tryz.func12
theorem code_z36_body : Tryz.f12.body = some code_z36 := by kernel_rfl
theorem code_z36_ok : CodeOk Tryz.prog code_z36 := (sound 12 _ _ code_z36_fn code_z36_body).1
def code_l_z36_3 : Code := (loopsOf code_z36).getD 0 .skip
theorem code_l_z36_3_ok : CodeOk Tryz.prog code_l_z36_3 := codeOk_loops code_z36_ok _ (getD_mem (by kernel_rfl))
def l_z36_3_K (k : (List T) × Int × (List T) × (List T) × (List T) × Int × (List T) × (List T) × (List T) × (List T) -> Option ((List T) × (List T) × (List T) × (List T))) : Ex -> SEnv -> Sig -> Option ((List T) × (List T) × (List T) × (List T)) := fun x E sg => match x with
 | .normal => Option.bind (V.lstOf (SEnv.at E 3)) fun u0 => Option.bind (V.intOf .i64 (SEnv.at E 4)) fun u1 => Option.bind (V.ptrOf 0 0 (SEnv.at E 10)) fun u2 => Option.bind (V.ptrOf 1 0 (SEnv.at E 11)) fun u3 => Option.bind (V.aggN 3 (SEnv.at E 22)) fun u4 => Option.bind (V.lstOf (u4.getD 0 .any)) fun u5 => Option.bind (V.lstOf (u4.getD 1 .any)) fun u6 => Option.bind (V.lstOf (u4.getD 2 .any)) fun u7 => Option.bind (V.intOf .i64 (SEnv.at E 23)) fun u8 => Option.bind (cellsN 2 sg 0) fun u9 => Option.bind (V.ownOf 0 (u9.getD 0 .any)) fun u10 => Option.bind (V.ownOf 0 (u9.getD 1 .any)) fun u11 => Option.bind (cellsN 2 sg 1) fun u12 => Option.bind (V.lstOf (u12.getD 0 .any)) fun u13 => Option.bind (V.ownOf 1 (u12.getD 1 .any)) fun u14 => k (u0, u1, u5, u6, u7, u8, u10, u11, u13, u14)
 | (.exit 0) => Option.bind (V.ptrOf 0 0 (SEnv.at E 10)) fun u0 => Option.bind (V.ptrOf 1 0 (SEnv.at E 11)) fun u1 => Option.bind (cellsN 2 sg 0) fun u2 => Option.bind (V.ownOf 0 (u2.getD 0 .any)) fun u3 => Option.bind (V.ownOf 0 (u2.getD 1 .any)) fun u4 => Option.bind (cellsN 2 sg 1) fun u5 => Option.bind (V.lstOf (u5.getD 0 .any)) fun u6 => Option.bind (V.ownOf 1 (u5.getD 1 .any)) fun u7 => some (u3, u4, u6, u7)
 | _ => none
theorem l_z36_3_eq (n : Nat) (k : (List T) × Int × (List T) × (List T) × (List T) × Int × (List T) × (List T) × (List T) × (List T) -> Option ((List T) × (List T) × (List T) × (List T))) (s0 : List T) (s1 : Int) (s2 : List T) (s3 : List T) (s4 : List T) (s5 : Int) (s6 : List T) (s7 : List T) (s8 : List T) (s9 : List T) : mX Tryz.prog (sp_z36 n) 53 code_l_z36_3 [(3, (V.t (T.list s0))), (4, (V.t (T.sc (.int .i64 s1)))), (10, (V.ptr 0 0)), (11, (V.ptr 1 0)), (22, (V.agg [(V.t (T.list s2)), (V.t (T.list s3)), (V.t (T.list s4))])), (23, (V.t (T.sc (.int .i64 s5))))] [some [(V.own 0 s6), (V.own 0 s7)], some [(V.t (T.list s8)), (V.own 1 s9)]] (l_z36_3_K k) = l_z36_3_B n k (s0, s1, s2, s3, s4, s5, s6, s7, s8, s9) := by kernel_rfl
def l_z36_3_Q (x : (List T) × (List T) × (List T) × (List T)) (ex : Ex) (e : Env) (s : Sig) : Prop := (fun p0 => (ex = (.exit 0) /\ e = SEnv.env 53 [(10, (V.ptr 0 0)), (11, (V.ptr 1 0))] /\ s = [some [(V.own 0 p0.1), (V.own 0 p0.2.1)], some [(V.t (T.list p0.2.2.1)), (V.own 1 p0.2.2.2)]])) x
theorem l_z36_3_run (n : Nat) : ∀ (m : Nat) (s0 : List T) (s1 : Int) (s2 : List T) (s3 : List T) (s4 : List T) (s5 : Int) (s6 : List T) (s7 : List T) (s8 : List T) (s9 : List T) (x : (List T) × (List T) × (List T) × (List T)), l_z36_3 n m (s0, s1, s2, s3, s4, s5, s6, s7, s8, s9) = some x -> SemL Tryz.prog 0 code_l_z36_3 (SEnv.env 53 [(3, (V.t (T.list s0))), (4, (V.t (T.sc (.int .i64 s1)))), (10, (V.ptr 0 0)), (11, (V.ptr 1 0)), (22, (V.agg [(V.t (T.list s2)), (V.t (T.list s3)), (V.t (T.list s4))])), (23, (V.t (T.sc (.int .i64 s5))))]) [some [(V.own 0 s6), (V.own 0 s7)], some [(V.t (T.list s8)), (V.own 1 s9)]] (l_z36_3_Q x)
 | 0, s0, s1, s2, s3, s4, s5, s6, s7, s8, s9, x, h => by cases h
 | m + 1, s0, s1, s2, s3, s4, s5, s6, s7, s8, s9, x, h => by
  refine loop_step (sp_z36_ok n) code_l_z36_3_ok (nl (by kernel_rfl)) (no_scope (by kernel_rfl)) ((l_z36_3_eq n _ s0 s1 s2 s3 s4 s5 s6 s7 s8 s9).trans h) (fun E sg h => ?_) (fun ex E sg hne h => ?_)
  ·simp only [l_z36_3_K] at h
   obtain ⟨u0, hu0, u1, hu1, u2, hu2, u3, hu3, h⟩ := ob4 h
   obtain ⟨u4, hu4, u5, hu5, u6, hu6, u7, hu7, h⟩ := ob4 h
   obtain ⟨u8, hu8, u9, hu9, u10, hu10, u11, hu11, h⟩ := ob4 h
   obtain ⟨u12, hu12, u13, hu13, h⟩ := ob2 h
   obtain ⟨u14, hu14, h⟩ := ob h
   exact SemL.pre (k := 2) (by decide) (WkA.env (WkA.cons (lW hu0) rfl (WkA.cons (iW hu1) rfl (WkA.cons (pW hu2) rfl (WkA.cons (pW hu3) rfl (WkA.cons (aggN_wk hu4 (.cons (lW hu5) (.cons (lW hu6) (.cons (lW hu7) .nil)))) rfl (WkA.cons (iW hu8) rfl WkA.nil)))))) 53) (wkR_sig (WkR.cons (nW hu9 (.cons (oW hu10) (.cons (oW hu11) .nil))).1 (nW hu9 (.cons (oW hu10) (.cons (oW hu11) .nil))).2 (renL_mem (.cons rfl (.cons rfl .nil))) (WkR.cons (nW hu12 (.cons (lW hu13) (.cons (oW hu14) .nil))).1 (nW hu12 (.cons (lW hu13) (.cons (oW hu14) .nil))).2 (renL_mem (.cons rfl (.cons rfl .nil))) (WkR.nil _))) rfl) (l_z36_3_run n m _ _ _ _ _ _ _ _ _ _ x h)
  ·unfold l_z36_3_K at h
   split at h
   ·exact absurd rfl hne
   ·obtain ⟨u0, hu0, u1, hu1, u2, hu2, u3, hu3, h⟩ := ob4 h
    obtain ⟨u4, hu4, u5, hu5, u6, hu6, u7, hu7, h⟩ := ob4 h
    cases h
    exact ⟨2, _, _, by decide, WkA.env (WkA.cons (pW hu0) rfl (WkA.cons (pW hu1) rfl WkA.nil)) 53, (wkR_sig (WkR.cons (nW hu2 (.cons (oW hu3) (.cons (oW hu4) .nil))).1 (nW hu2 (.cons (oW hu3) (.cons (oW hu4) .nil))).2 (renL_mem (.cons rfl (.cons rfl .nil))) (WkR.cons (nW hu5 (.cons (lW hu6) (.cons (oW hu7) .nil))).1 (nW hu5 (.cons (lW hu6) (.cons (oW hu7) .nil))).2 (renL_mem (.cons rfl (.cons rfl .nil))) (WkR.nil _))) rfl), rfl, rfl, rfl⟩
   ·cases h
theorem l_z36_3_ok (n : Nat) : LoopOk Tryz.prog (sp_z36 n) 0 53 code_l_z36_3 := by
  intro R key E sg K r hk h
  rw [show Go.Eng.keyOf code_l_z36_3 = some 3 from by kernel_rfl] at hk
  cases hk
  have h : l_z36_3_S n R E sg K = some r := h
  unfold l_z36_3_S at h
  obtain ⟨u0, hu0, u1, hu1, u2, hu2, u3, hu3, h⟩ := ob4 h
  obtain ⟨u4, hu4, u5, hu5, u6, hu6, u7, hu7, h⟩ := ob4 h
  obtain ⟨u8, hu8, u9, hu9, u10, hu10, u11, hu11, h⟩ := ob4 h
  obtain ⟨u12, hu12, u13, hu13, u14, hu14, x, hx, h⟩ := ob4 h
  refine (SemL.pre (k := 2) (by decide) (WkA.env (WkA.cons (lW hu0) rfl (WkA.cons (iW hu1) rfl (WkA.cons (pW hu2) rfl (WkA.cons (pW hu3) rfl (WkA.cons (aggN_wk hu4 (.cons (lW hu5) (.cons (lW hu6) (.cons (lW hu7) .nil)))) rfl (WkA.cons (iW hu8) rfl WkA.nil)))))) 53) (wkR_sig (WkR.cons (nW hu9 (.cons (oW hu10) (.cons (oW hu11) .nil))).1 (nW hu9 (.cons (oW hu10) (.cons (oW hu11) .nil))).2 (renL_mem (.cons rfl (.cons rfl .nil))) (WkR.cons (nW hu12 (.cons (lW hu13) (.cons (oW hu14) .nil))).1 (nW hu12 (.cons (lW hu13) (.cons (oW hu14) .nil))).2 (renL_mem (.cons rfl (.cons rfl .nil))) (WkR.nil _))) rfl) (l_z36_3_run n n _ _ _ _ _ _ _ _ _ _ x hx)).mono ?_
  intro ex e s hq
  obtain ⟨rfl, rfl, rfl⟩ := hq
  exact ⟨_, rfl, h⟩
def K_z36 (v : V) (s : Sig) : Option ((List T) × (List T)) := Option.bind (V.aggN 2 v) fun u0 => Option.bind (V.lstOf (u0.getD 0 .any)) fun u1 => Option.bind (V.lstOf (u0.getD 1 .any)) fun u2 => some (u1, u2)
theorem K_z36_wk {v : V} {s : Sig} {r : (List T) × (List T)} (h : K_z36 v s = some r) : Wk v (enc_z36 r) /\ WkS 0 s (encS_z36 r) := by
 unfold K_z36 at h
 obtain ⟨u0, hu0, u1, hu1, h⟩ := ob2 h
 obtain ⟨u2, hu2, h⟩ := ob h
 cases h
 exact ⟨(aggN_wk hu0 (.cons (lW hu1) (.cons (lW hu2) .nil))), (WkS.none _)⟩
theorem m_z36_eq (n : Nat) (a0 : Int) (a1 : List T) (a2 : List T) (a3 : List T) (a4 : Int) : mF Tryz.prog (sp_z36 n) 12 [(V.t (T.sc (.int .i64 a0))), (V.t (T.list a1)), (V.t (T.list a2)), (V.t (T.list a3)), (V.t (T.sc (.int .i64 a4)))] [] K_z36 = m_z36 n a0 a1 a2 a3 a4 := by kernel_rfl
theorem m_z36_ok (n : Nat) : ok_z36 (m_z36 n) := fun a0 a1 a2 a3 a4 r h => mF_ok sound (sp_z36_ok n) code_z36_fn code_z36_body (forall_getD (d := .skip) 1 (by kernel_rfl) (fun i hi => match i, hi with | 0, _ => l_z36_3_ok n | i + 1, hi => absurd hi (by omega))) (no_scope (by kernel_rfl)) ((m_z36_eq n a0 a1 a2 a3 a4).trans h) (fun v s hk => ⟨(K_z36_wk hk).1, rfl, (K_z36_wk hk).2⟩)
structure B_z26 where
 y6 : Int -> Option (ByteArray)
def enc_z26 (r : ByteArray) : V := (V.t (T.sc (.string r)))
def encS_z26 (r : ByteArray) : Sig := []
def ok_z26 (m : Int -> Option (ByteArray)) : Prop := ∀ (a0 : Int) (r : ByteArray), m a0 = some r -> FuncOk Tryz.prog 51 [(V.t (T.sc (.int .i64 a0)))] [] (enc_z26 r) (encS_z26 r)
def c_z26 (m : Int -> Option (ByteArray)) (vs : List V) (sg : Sig) : Option CallM := bif Nat.beq vs.length 1 && Nat.beq sg.length 0 then Option.bind (V.intOf .i64 (vs.getD 0 .any)) fun u0 => some { α := ByteArray, m := m u0, dflt := default, enc := fun y => ((V.t (T.sc (.string y))), []) } else none
theorem c_z26_ok (m : Int -> Option (ByteArray)) (hm : ok_z26 m) (vs : List V) (sg : Sig) (cm : CallM) (x : cm.α) (h : c_z26 m vs sg = some cm) (hx : cm.m = some x) : FuncOk Tryz.prog 51 vs sg (cm.enc x).1 (cm.enc x).2 := by
 unfold c_z26 at h
 obtain ⟨hl, hs, h⟩ := callee_sig h
 obtain ⟨u0, hu0, h⟩ := ob h
 cases h
 exact (hm u0 x hx).wk (args_wk hl (.cons (iW hu0) .nil)) (wkSg_of hs .nil)
structure B_z26_ok (b : B_z26) : Prop where
 y6 : ok_z26 b.y6
def f_z26 (b : B_z26) (n : Nat) (a0 : Int) : Option (ByteArray) :=
bif (decide ((a0 : Int) < 10)) then (
Option.bind (bytesIf true [(T.sc (.int .u8 (IntKind.wrap .u8 (IntKind.wrap .i64 (48 + a0)))))]) fun l0 =>
some (ByteArray.mk (List.toArray l0)))
else (
must true (!decide (10 = 0)) (Option.bind (b.y6 (IntKind.wrap .i64 (Int.tdiv a0 10))) fun r1 =>
must true (!decide (10 = 0)) (Option.bind (bytesIf true [(T.sc (.int .u8 (IntKind.wrap .u8 (IntKind.wrap .i64 (48 + (Int.tmod a0 10))))))]) fun l2 =>
must true (decide (((ByteArray.size r1 + ByteArray.size (ByteArray.mk (List.toArray l2)) : Nat) : Int) <= IntKind.i64.max)) (some (r1 ++ (ByteArray.mk (List.toArray l2)))))))
def code_z26 : Code := Tryz.f51.body.getD .skip
def sp_z26 (b : B_z26) (n : Nat) : Go.Eng.Spec := ⟨fun f vs sg => (match f with
  | 51 => c_z26 b.y6 vs sg
  | _ => none), fun R key E sg K => (match key with
  | _ => none)⟩
theorem sp_z26_ok (b : B_z26) (hb : B_z26_ok b) (n : Nat) : CallsOk Tryz.prog (sp_z26 b n) := by
 intro f vs sg cm x h hx
 simp only [sp_z26] at h
 split at h
 ·exact c_z26_ok _ hb.y6 vs sg cm x h hx
 ·cases h
theorem code_z26_fn : Tryz.prog.funcs[51]? = some Tryz.f51 := Tryz.func51
theorem code_z26_body : Tryz.f51.body = some code_z26 := by kernel_rfl
def K_z26 (v : V) (s : Sig) : Option (ByteArray) := Option.bind (V.strOf v) fun u0 => some u0
theorem K_z26_wk {v : V} {s : Sig} {r : ByteArray} (h : K_z26 v s = some r) : Wk v (enc_z26 r) /\ WkS 0 s (encS_z26 r) := by
 unfold K_z26 at h
 obtain ⟨u0, hu0, h⟩ := ob h
 cases h
 exact ⟨(sW hu0), (WkS.none _)⟩
theorem f_z26_eq (b : B_z26) (n : Nat) (a0 : Int) : mF Tryz.prog (sp_z26 b n) 51 [(V.t (T.sc (.int .i64 a0)))] [] K_z26 = f_z26 b n a0 := by kernel_rfl
theorem f_z26_ok (b : B_z26) (hb : B_z26_ok b) (n : Nat) : ok_z26 (f_z26 b n) := fun a0 r h => mF_ok sound (sp_z26_ok b hb n) code_z26_fn code_z26_body (nl (by kernel_rfl)) (no_scope (by kernel_rfl)) ((f_z26_eq b n a0).trans h) (fun v s hk => ⟨(K_z26_wk hk).1, rfl, (K_z26_wk hk).2⟩)
def unB_z26 (n : Nat) : Nat -> B_z26
 | 0 => { y6 := fun _ => none }
 | m + 1 => { y6 := f_z26 (unB_z26 n m) n }
theorem unB_z26_ok (n : Nat) : ∀ m, B_z26_ok (unB_z26 n m)
 | 0 => { y6 := fun _ _ h => (nomatch (show none = some _ from h)) }
 | m + 1 => { y6 := f_z26_ok _ (unB_z26_ok n m) n }
def m_z26 (n : Nat) : Int -> Option (ByteArray) := (unB_z26 n n).y6
theorem m_z26_ok (n : Nat) : ok_z26 (m_z26 n) := (unB_z26_ok n n).y6
structure B_z42 where
 y12 : Int -> Option (ByteArray)
def enc_z42 (r : ByteArray) : V := (V.t (T.sc (.string r)))
def encS_z42 (r : ByteArray) : Sig := []
def ok_z42 (m : Int -> Option (ByteArray)) : Prop := ∀ (a0 : Int) (r : ByteArray), m a0 = some r -> FuncOk Tryz.prog 90 [(V.t (T.sc (.int .i64 a0)))] [] (enc_z42 r) (encS_z42 r)
def c_z42 (m : Int -> Option (ByteArray)) (vs : List V) (sg : Sig) : Option CallM := bif Nat.beq vs.length 1 && Nat.beq sg.length 0 then Option.bind (V.intOf .i64 (vs.getD 0 .any)) fun u0 => some { α := ByteArray, m := m u0, dflt := default, enc := fun y => ((V.t (T.sc (.string y))), []) } else none
theorem c_z42_ok (m : Int -> Option (ByteArray)) (hm : ok_z42 m) (vs : List V) (sg : Sig) (cm : CallM) (x : cm.α) (h : c_z42 m vs sg = some cm) (hx : cm.m = some x) : FuncOk Tryz.prog 90 vs sg (cm.enc x).1 (cm.enc x).2 := by
 unfold c_z42 at h
 obtain ⟨hl, hs, h⟩ := callee_sig h
 obtain ⟨u0, hu0, h⟩ := ob h
 cases h
 exact (hm u0 x hx).wk (args_wk hl (.cons (iW hu0) .nil)) (wkSg_of hs .nil)
structure B_z42_ok (b : B_z42) : Prop where
 y12 : ok_z42 b.y12
def f_z42 (b : B_z42) (n : Nat) (a0 : Int) : Option (ByteArray) :=
bif (decide ((a0 : Int) <= 0)) then (
some (⟨#[]⟩ : ByteArray))
else (
Option.bind (b.y12 (IntKind.wrap .i64 (a0 - 1))) fun r0 =>
must true (decide (((ByteArray.size (⟨#[9]⟩ : ByteArray) + ByteArray.size r0 : Nat) : Int) <= IntKind.i64.max)) (some ((⟨#[9]⟩ : ByteArray) ++ r0)))
def code_z42 : Code := Tryz.f90.body.getD .skip
def sp_z42 (b : B_z42) (n : Nat) : Go.Eng.Spec := ⟨fun f vs sg => (match f with
  | 90 => c_z42 b.y12 vs sg
  | _ => none), fun R key E sg K => (match key with
  | _ => none)⟩
theorem sp_z42_ok (b : B_z42) (hb : B_z42_ok b) (n : Nat) : CallsOk Tryz.prog (sp_z42 b n) := by
 intro f vs sg cm x h hx
 simp only [sp_z42] at h
 split at h
 ·exact c_z42_ok _ hb.y12 vs sg cm x h hx
 ·cases h
theorem code_z42_fn : Tryz.prog.funcs[90]? = some Tryz.f90 := Tryz.func90
theorem code_z42_body : Tryz.f90.body = some code_z42 := by kernel_rfl
def K_z42 (v : V) (s : Sig) : Option (ByteArray) := Option.bind (V.strOf v) fun u0 => some u0
theorem K_z42_wk {v : V} {s : Sig} {r : ByteArray} (h : K_z42 v s = some r) : Wk v (enc_z42 r) /\ WkS 0 s (encS_z42 r) := by
 unfold K_z42 at h
 obtain ⟨u0, hu0, h⟩ := ob h
 cases h
 exact ⟨(sW hu0), (WkS.none _)⟩
theorem f_z42_eq (b : B_z42) (n : Nat) (a0 : Int) : mF Tryz.prog (sp_z42 b n) 90 [(V.t (T.sc (.int .i64 a0)))] [] K_z42 = f_z42 b n a0 := by kernel_rfl
theorem f_z42_ok (b : B_z42) (hb : B_z42_ok b) (n : Nat) : ok_z42 (f_z42 b n) := fun a0 r h => mF_ok sound (sp_z42_ok b hb n) code_z42_fn code_z42_body (nl (by kernel_rfl)) (no_scope (by kernel_rfl)) ((f_z42_eq b n a0).trans h) (fun v s hk => ⟨(K_z42_wk hk).1, rfl, (K_z42_wk hk).2⟩)
def unB_z42 (n : Nat) : Nat -> B_z42
 | 0 => { y12 := fun _ => none }
 | m + 1 => { y12 := f_z42 (unB_z42 n m) n }
theorem unB_z42_ok (n : Nat) : ∀ m, B_z42_ok (unB_z42 n m)
 | 0 => { y12 := fun _ _ h => (nomatch (show none = some _ from h)) }
 | m + 1 => { y12 := f_z42_ok _ (unB_z42_ok n m) n }
def m_z42 (n : Nat) : Int -> Option (ByteArray) := (unB_z42 n n).y12
theorem m_z42_ok (n : Nat) : ok_z42 (m_z42 n) := (unB_z42_ok n n).y12
def m_z32 (n : Nat) (a0 : Int) : Option (Int) :=
bif ((a0 : Int) == 9) then (
bif ((a0 : Int) == 9) then (
some 1)
else (
bif ((a0 : Int) == 4) then (
bif ((a0 : Int) == 4) then (
some 2)
else (
bif ((a0 : Int) == 6) then (
bif ((a0 : Int) == 6) then (
some 3)
else (
bif ((a0 : Int) == 3) then (
some 4)
else (
bif ((a0 : Int) == 1) then (
bif ((a0 : Int) == 1) then (
some 5)
else (
some 0))
else (
bif ((a0 : Int) == 2) then (
some 5)
else (
some 0)))))
else (
bif ((a0 : Int) == 7) then (
bif ((a0 : Int) == 7) then (
some 3)
else (
bif ((a0 : Int) == 3) then (
some 4)
else (
bif ((a0 : Int) == 1) then (
bif ((a0 : Int) == 1) then (
some 5)
else (
some 0))
else (
bif ((a0 : Int) == 2) then (
some 5)
else (
some 0)))))
else (
bif ((a0 : Int) == 8) then (
some 3)
else (
bif ((a0 : Int) == 3) then (
some 4)
else (
bif ((a0 : Int) == 1) then (
bif ((a0 : Int) == 1) then (
some 5)
else (
some 0))
else (
bif ((a0 : Int) == 2) then (
some 5)
else (
some 0))))))))
else (
bif ((a0 : Int) == 5) then (
some 2)
else (
bif ((a0 : Int) == 6) then (
bif ((a0 : Int) == 6) then (
some 3)
else (
bif ((a0 : Int) == 3) then (
some 4)
else (
bif ((a0 : Int) == 1) then (
bif ((a0 : Int) == 1) then (
some 5)
else (
some 0))
else (
bif ((a0 : Int) == 2) then (
some 5)
else (
some 0)))))
else (
bif ((a0 : Int) == 7) then (
bif ((a0 : Int) == 7) then (
some 3)
else (
bif ((a0 : Int) == 3) then (
some 4)
else (
bif ((a0 : Int) == 1) then (
bif ((a0 : Int) == 1) then (
some 5)
else (
some 0))
else (
bif ((a0 : Int) == 2) then (
some 5)
else (
some 0)))))
else (
bif ((a0 : Int) == 8) then (
some 3)
else (
bif ((a0 : Int) == 3) then (
some 4)
else (
bif ((a0 : Int) == 1) then (
bif ((a0 : Int) == 1) then (
some 5)
else (
some 0))
else (
bif ((a0 : Int) == 2) then (
some 5)
else (
some 0))))))))))
else (
bif ((a0 : Int) == 10) then (
some 1)
else (
bif ((a0 : Int) == 4) then (
bif ((a0 : Int) == 4) then (
some 2)
else (
bif ((a0 : Int) == 6) then (
bif ((a0 : Int) == 6) then (
some 3)
else (
bif ((a0 : Int) == 3) then (
some 4)
else (
bif ((a0 : Int) == 1) then (
bif ((a0 : Int) == 1) then (
some 5)
else (
some 0))
else (
bif ((a0 : Int) == 2) then (
some 5)
else (
some 0)))))
else (
bif ((a0 : Int) == 7) then (
bif ((a0 : Int) == 7) then (
some 3)
else (
bif ((a0 : Int) == 3) then (
some 4)
else (
bif ((a0 : Int) == 1) then (
bif ((a0 : Int) == 1) then (
some 5)
else (
some 0))
else (
bif ((a0 : Int) == 2) then (
some 5)
else (
some 0)))))
else (
bif ((a0 : Int) == 8) then (
some 3)
else (
bif ((a0 : Int) == 3) then (
some 4)
else (
bif ((a0 : Int) == 1) then (
bif ((a0 : Int) == 1) then (
some 5)
else (
some 0))
else (
bif ((a0 : Int) == 2) then (
some 5)
else (
some 0))))))))
else (
bif ((a0 : Int) == 5) then (
some 2)
else (
bif ((a0 : Int) == 6) then (
bif ((a0 : Int) == 6) then (
some 3)
else (
bif ((a0 : Int) == 3) then (
some 4)
else (
bif ((a0 : Int) == 1) then (
bif ((a0 : Int) == 1) then (
some 5)
else (
some 0))
else (
bif ((a0 : Int) == 2) then (
some 5)
else (
some 0)))))
else (
bif ((a0 : Int) == 7) then (
bif ((a0 : Int) == 7) then (
some 3)
else (
bif ((a0 : Int) == 3) then (
some 4)
else (
bif ((a0 : Int) == 1) then (
bif ((a0 : Int) == 1) then (
some 5)
else (
some 0))
else (
bif ((a0 : Int) == 2) then (
some 5)
else (
some 0)))))
else (
bif ((a0 : Int) == 8) then (
some 3)
else (
bif ((a0 : Int) == 3) then (
some 4)
else (
bif ((a0 : Int) == 1) then (
bif ((a0 : Int) == 1) then (
some 5)
else (
some 0))
else (
bif ((a0 : Int) == 2) then (
some 5)
else (
some 0))))))))))
def enc_z32 (r : Int) : V := (V.t (T.sc (.int .i64 r)))
def encS_z32 (r : Int) : Sig := []
def ok_z32 (m : Int -> Option (Int)) : Prop := ∀ (a0 : Int) (r : Int), m a0 = some r -> FuncOk Tryz.prog 124 [(V.t (T.sc (.int .i64 a0)))] [] (enc_z32 r) (encS_z32 r)
def c_z32 (m : Int -> Option (Int)) (vs : List V) (sg : Sig) : Option CallM := bif Nat.beq vs.length 1 && Nat.beq sg.length 0 then Option.bind (V.intOf .i64 (vs.getD 0 .any)) fun u0 => some { α := Int, m := m u0, dflt := 0, enc := fun y => ((V.t (T.sc (.int .i64 y))), []) } else none
theorem c_z32_ok (m : Int -> Option (Int)) (hm : ok_z32 m) (vs : List V) (sg : Sig) (cm : CallM) (x : cm.α) (h : c_z32 m vs sg = some cm) (hx : cm.m = some x) : FuncOk Tryz.prog 124 vs sg (cm.enc x).1 (cm.enc x).2 := by
 unfold c_z32 at h
 obtain ⟨hl, hs, h⟩ := callee_sig h
 obtain ⟨u0, hu0, h⟩ := ob h
 cases h
 exact (hm u0 x hx).wk (args_wk hl (.cons (iW hu0) .nil)) (wkSg_of hs .nil)
def code_z32 : Code := Tryz.f124.body.getD .skip
def sp_z32 (n : Nat) : Go.Eng.Spec := ⟨fun f vs sg => (match f with
  | _ => none), fun R key E sg K => (match key with
  | _ => none)⟩
theorem sp_z32_ok (n : Nat) : CallsOk Tryz.prog (sp_z32 n) := by
 intro f vs sg cm x h hx
 have h : (none : Option CallM) = some cm := h
 cases h
theorem code_z32_fn : Tryz.prog.funcs[124]? = some Tryz.f124 := Tryz.func124
theorem code_z32_body : Tryz.f124.body = some code_z32 := by kernel_rfl
def K_z32 (v : V) (s : Sig) : Option (Int) := Option.bind (V.intOf .i64 v) fun u0 => some u0
theorem K_z32_wk {v : V} {s : Sig} {r : Int} (h : K_z32 v s = some r) : Wk v (enc_z32 r) /\ WkS 0 s (encS_z32 r) := by
 unfold K_z32 at h
 obtain ⟨u0, hu0, h⟩ := ob h
 cases h
 exact ⟨(iW hu0), (WkS.none _)⟩
theorem m_z32_eq (n : Nat) (a0 : Int) : mF Tryz.prog (sp_z32 n) 124 [(V.t (T.sc (.int .i64 a0)))] [] K_z32 = m_z32 n a0 := by kernel_rfl
theorem m_z32_ok (n : Nat) : ok_z32 (m_z32 n) := fun a0 r h => mF_ok sound (sp_z32_ok n) code_z32_fn code_z32_body (nl (by kernel_rfl)) (no_scope (by kernel_rfl)) ((m_z32_eq n a0).trans h) (fun v s hk => ⟨(K_z32_wk hk).1, rfl, (K_z32_wk hk).2⟩)
def m_z41 (n : Nat) (a0 : Int) : Option (ByteArray) :=
bif ((a0 : Int) == 4) then (
some (⟨#[43]⟩ : ByteArray))
else (
bif ((a0 : Int) == 5) then (
some (⟨#[45]⟩ : ByteArray))
else (
bif ((a0 : Int) == 6) then (
some (⟨#[42]⟩ : ByteArray))
else (
bif ((a0 : Int) == 7) then (
some (⟨#[47]⟩ : ByteArray))
else (
bif ((a0 : Int) == 8) then (
some (⟨#[37]⟩ : ByteArray))
else (
bif ((a0 : Int) == 9) then (
some (⟨#[60]⟩ : ByteArray))
else (
some (⟨#[61, 61]⟩ : ByteArray)))))))
def enc_z41 (r : ByteArray) : V := (V.t (T.sc (.string r)))
def encS_z41 (r : ByteArray) : Sig := []
def ok_z41 (m : Int -> Option (ByteArray)) : Prop := ∀ (a0 : Int) (r : ByteArray), m a0 = some r -> FuncOk Tryz.prog 126 [(V.t (T.sc (.int .i64 a0)))] [] (enc_z41 r) (encS_z41 r)
def c_z41 (m : Int -> Option (ByteArray)) (vs : List V) (sg : Sig) : Option CallM := bif Nat.beq vs.length 1 && Nat.beq sg.length 0 then Option.bind (V.intOf .i64 (vs.getD 0 .any)) fun u0 => some { α := ByteArray, m := m u0, dflt := default, enc := fun y => ((V.t (T.sc (.string y))), []) } else none
theorem c_z41_ok (m : Int -> Option (ByteArray)) (hm : ok_z41 m) (vs : List V) (sg : Sig) (cm : CallM) (x : cm.α) (h : c_z41 m vs sg = some cm) (hx : cm.m = some x) : FuncOk Tryz.prog 126 vs sg (cm.enc x).1 (cm.enc x).2 := by
 unfold c_z41 at h
 obtain ⟨hl, hs, h⟩ := callee_sig h
 obtain ⟨u0, hu0, h⟩ := ob h
 cases h
 exact (hm u0 x hx).wk (args_wk hl (.cons (iW hu0) .nil)) (wkSg_of hs .nil)
def code_z41 : Code := Tryz.f126.body.getD .skip
def sp_z41 (n : Nat) : Go.Eng.Spec := ⟨fun f vs sg => (match f with
  | _ => none), fun R key E sg K => (match key with
  | _ => none)⟩
theorem sp_z41_ok (n : Nat) : CallsOk Tryz.prog (sp_z41 n) := by
 intro f vs sg cm x h hx
 have h : (none : Option CallM) = some cm := h
 cases h
theorem code_z41_fn : Tryz.prog.funcs[126]? = some Tryz.f126 := Tryz.func126
theorem code_z41_body : Tryz.f126.body = some code_z41 := by kernel_rfl
def K_z41 (v : V) (s : Sig) : Option (ByteArray) := Option.bind (V.strOf v) fun u0 => some u0
theorem K_z41_wk {v : V} {s : Sig} {r : ByteArray} (h : K_z41 v s = some r) : Wk v (enc_z41 r) /\ WkS 0 s (encS_z41 r) := by
 unfold K_z41 at h
 obtain ⟨u0, hu0, h⟩ := ob h
 cases h
 exact ⟨(sW hu0), (WkS.none _)⟩
theorem m_z41_eq (n : Nat) (a0 : Int) : mF Tryz.prog (sp_z41 n) 126 [(V.t (T.sc (.int .i64 a0)))] [] K_z41 = m_z41 n a0 := by kernel_rfl
theorem m_z41_ok (n : Nat) : ok_z41 (m_z41 n) := fun a0 r h => mF_ok sound (sp_z41_ok n) code_z41_fn code_z41_body (nl (by kernel_rfl)) (no_scope (by kernel_rfl)) ((m_z41_eq n a0).trans h) (fun v s hk => ⟨(K_z41_wk hk).1, rfl, (K_z41_wk hk).2⟩)
structure B_z40 where
 y10 : Int -> Int -> ByteArray -> List T -> Option (ByteArray)
 y11 : Int -> Int -> ByteArray -> List T -> Int -> Option (ByteArray)
def enc_z40 (r : ByteArray) : V := (V.t (T.sc (.string r)))
def encS_z40 (r : ByteArray) : Sig := []
def ok_z40 (m : Int -> Int -> ByteArray -> List T -> Option (ByteArray)) : Prop := ∀ (a0 : Int) (a1 : Int) (a2 : ByteArray) (a3 : List T) (r : ByteArray), m a0 a1 a2 a3 = some r -> FuncOk Tryz.prog 91 [(V.agg [(V.t (T.sc (.int .i64 a0))), (V.t (T.sc (.int .i64 a1))), (V.t (T.sc (.string a2))), (V.t (T.list a3))])] [] (enc_z40 r) (encS_z40 r)
def c_z40 (m : Int -> Int -> ByteArray -> List T -> Option (ByteArray)) (vs : List V) (sg : Sig) : Option CallM := bif Nat.beq vs.length 1 && Nat.beq sg.length 0 then Option.bind (V.aggN 4 (vs.getD 0 .any)) fun u0 => Option.bind (V.intOf .i64 (u0.getD 0 .any)) fun u1 => Option.bind (V.intOf .i64 (u0.getD 1 .any)) fun u2 => Option.bind (V.strOf (u0.getD 2 .any)) fun u3 => Option.bind (V.lstOf (u0.getD 3 .any)) fun u4 => some { α := ByteArray, m := m u1 u2 u3 u4, dflt := default, enc := fun y => ((V.t (T.sc (.string y))), []) } else none
theorem c_z40_ok (m : Int -> Int -> ByteArray -> List T -> Option (ByteArray)) (hm : ok_z40 m) (vs : List V) (sg : Sig) (cm : CallM) (x : cm.α) (h : c_z40 m vs sg = some cm) (hx : cm.m = some x) : FuncOk Tryz.prog 91 vs sg (cm.enc x).1 (cm.enc x).2 := by
 unfold c_z40 at h
 obtain ⟨hl, hs, h⟩ := callee_sig h
 obtain ⟨u0, hu0, u1, hu1, u2, hu2, u3, hu3, h⟩ := ob4 h
 obtain ⟨u4, hu4, h⟩ := ob h
 cases h
 exact (hm u1 u2 u3 u4 x hx).wk (args_wk hl (.cons (aggN_wk hu0 (.cons (iW hu1) (.cons (iW hu2) (.cons (sW hu3) (.cons (lW hu4) .nil))))) .nil)) (wkSg_of hs .nil)
def enc_sutureref1_side (r : ByteArray) : V := (V.t (T.sc (.string r)))
def encS_sutureref1_side (r : ByteArray) : Sig := []
def ok_sutureref1_side (m : Int -> Int -> ByteArray -> List T -> Int -> Option (ByteArray)) : Prop := ∀ (a0 : Int) (a1 : Int) (a2 : ByteArray) (a3 : List T) (a4 : Int) (r : ByteArray), m a0 a1 a2 a3 a4 = some r -> FuncOk Tryz.prog 125 [(V.agg [(V.t (T.sc (.int .i64 a0))), (V.t (T.sc (.int .i64 a1))), (V.t (T.sc (.string a2))), (V.t (T.list a3))]), (V.t (T.sc (.int .i64 a4)))] [] (enc_sutureref1_side r) (encS_sutureref1_side r)
def c_sutureref1_side (m : Int -> Int -> ByteArray -> List T -> Int -> Option (ByteArray)) (vs : List V) (sg : Sig) : Option CallM := bif Nat.beq vs.length 2 && Nat.beq sg.length 0 then Option.bind (V.aggN 4 (vs.getD 0 .any)) fun u0 => Option.bind (V.intOf .i64 (u0.getD 0 .any)) fun u1 => Option.bind (V.intOf .i64 (u0.getD 1 .any)) fun u2 => Option.bind (V.strOf (u0.getD 2 .any)) fun u3 => Option.bind (V.lstOf (u0.getD 3 .any)) fun u4 => Option.bind (V.intOf .i64 (vs.getD 1 .any)) fun u5 => some { α := ByteArray, m := m u1 u2 u3 u4 u5, dflt := default, enc := fun y => ((V.t (T.sc (.string y))), []) } else none
theorem c_sutureref1_side_ok (m : Int -> Int -> ByteArray -> List T -> Int -> Option (ByteArray)) (hm : ok_sutureref1_side m) (vs : List V) (sg : Sig) (cm : CallM) (x : cm.α) (h : c_sutureref1_side m vs sg = some cm) (hx : cm.m = some x) : FuncOk Tryz.prog 125 vs sg (cm.enc x).1 (cm.enc x).2 := by
 unfold c_sutureref1_side at h
 obtain ⟨hl, hs, h⟩ := callee_sig h
 obtain ⟨u0, hu0, u1, hu1, u2, hu2, u3, hu3, h⟩ := ob4 h
 obtain ⟨u4, hu4, u5, hu5, h⟩ := ob2 h
 cases h
 exact (hm u1 u2 u3 u4 u5 x hx).wk (args_wk hl (.cons (aggN_wk hu0 (.cons (iW hu1) (.cons (iW hu2) (.cons (sW hu3) (.cons (lW hu4) .nil))))) (.cons (iW hu5) .nil))) (wkSg_of hs .nil)
structure B_z40_ok (b : B_z40) : Prop where
 y10 : ok_z40 b.y10
 y11 : ok_sutureref1_side b.y11
def f_z40 (b : B_z40) (n : Nat) (a0 : Int) (a1 : Int) (a2 : ByteArray) (a3 : List T) : Option (ByteArray) :=
Option.bind (m_z32 n a0) fun r0 =>
bif (bif ((a0 : Int) == 1) then (decide ((a1 : Int) ≥ 0)) else false) then (
Option.bind (m_z26 n a1) fun r1 =>
some r1)
else (
bif ((a0 : Int) == 2) then (
some a2)
else (
bif (bif ((a0 : Int) == 3) then ((((List.length a3 : Nat) : Int) : Int) == 1) else false) then (
Option.bind (idx true [.int .i64, .int .i64, .str, .list] a3 0) fun y2 =>
Option.bind (b.y11 (y2.cell 0).int (y2.cell 1).int (y2.cell 2).str (y2.cell 3).lst 4) fun r3 =>
must true (decide (((ByteArray.size (⟨#[45]⟩ : ByteArray) + ByteArray.size r3 : Nat) : Int) <= IntKind.i64.max)) (some ((⟨#[45]⟩ : ByteArray) ++ r3)))
else (
bif (bif (bif (decide ((r0 : Int) ≥ 1)) then (decide ((r0 : Int) <= 3)) else false) then ((((List.length a3 : Nat) : Int) : Int) == 2) else false) then (
bif ((r0 : Int) == 1) then (
Option.bind (idx true [.int .i64, .int .i64, .str, .list] a3 0) fun y4 =>
Option.bind (b.y11 (y4.cell 0).int (y4.cell 1).int (y4.cell 2).str (y4.cell 3).lst 2) fun r5 =>
must true (decide (((ByteArray.size r5 + ByteArray.size (⟨#[32]⟩ : ByteArray) : Nat) : Int) <= IntKind.i64.max)) (Option.bind (m_z41 n a0) fun r6 =>
must true (decide (((ByteArray.size (r5 ++ (⟨#[32]⟩ : ByteArray)) + ByteArray.size r6 : Nat) : Int) <= IntKind.i64.max)) (must true (decide (((ByteArray.size ((r5 ++ (⟨#[32]⟩ : ByteArray)) ++ r6) + ByteArray.size (⟨#[32]⟩ : ByteArray) : Nat) : Int) <= IntKind.i64.max)) (Option.bind (idx true [.int .i64, .int .i64, .str, .list] a3 1) fun y7 =>
Option.bind (b.y11 (y7.cell 0).int (y7.cell 1).int (y7.cell 2).str (y7.cell 3).lst (IntKind.wrap .i64 (r0 + 1))) fun r8 =>
must true (decide (((ByteArray.size (((r5 ++ (⟨#[32]⟩ : ByteArray)) ++ r6) ++ (⟨#[32]⟩ : ByteArray)) + ByteArray.size r8 : Nat) : Int) <= IntKind.i64.max)) (some ((((r5 ++ (⟨#[32]⟩ : ByteArray)) ++ r6) ++ (⟨#[32]⟩ : ByteArray)) ++ r8))))))
else (
Option.bind (idx true [.int .i64, .int .i64, .str, .list] a3 0) fun y9 =>
Option.bind (b.y11 (y9.cell 0).int (y9.cell 1).int (y9.cell 2).str (y9.cell 3).lst r0) fun r10 =>
must true (decide (((ByteArray.size r10 + ByteArray.size (⟨#[32]⟩ : ByteArray) : Nat) : Int) <= IntKind.i64.max)) (Option.bind (m_z41 n a0) fun r11 =>
must true (decide (((ByteArray.size (r10 ++ (⟨#[32]⟩ : ByteArray)) + ByteArray.size r11 : Nat) : Int) <= IntKind.i64.max)) (must true (decide (((ByteArray.size ((r10 ++ (⟨#[32]⟩ : ByteArray)) ++ r11) + ByteArray.size (⟨#[32]⟩ : ByteArray) : Nat) : Int) <= IntKind.i64.max)) (Option.bind (idx true [.int .i64, .int .i64, .str, .list] a3 1) fun y12 =>
Option.bind (b.y11 (y12.cell 0).int (y12.cell 1).int (y12.cell 2).str (y12.cell 3).lst (IntKind.wrap .i64 (r0 + 1))) fun r13 =>
must true (decide (((ByteArray.size (((r10 ++ (⟨#[32]⟩ : ByteArray)) ++ r11) ++ (⟨#[32]⟩ : ByteArray)) + ByteArray.size r13 : Nat) : Int) <= IntKind.i64.max)) (some ((((r10 ++ (⟨#[32]⟩ : ByteArray)) ++ r11) ++ (⟨#[32]⟩ : ByteArray)) ++ r13)))))))
else (
some (⟨#[63]⟩ : ByteArray)))))
def code_z40 : Code := Tryz.f91.body.getD .skip
def sp_z40 (b : B_z40) (n : Nat) : Go.Eng.Spec := ⟨fun f vs sg => (match f with
  | 124 => c_z32 (m_z32 n) vs sg
  | 51 => c_z26 (m_z26 n) vs sg
  | 125 => c_sutureref1_side b.y11 vs sg
  | 126 => c_z41 (m_z41 n) vs sg
  | _ => none), fun R key E sg K => (match key with
  | _ => none)⟩
theorem sp_z40_ok (b : B_z40) (hb : B_z40_ok b) (n : Nat) : CallsOk Tryz.prog (sp_z40 b n) := by
 intro f vs sg cm x h hx
 simp only [sp_z40] at h
 split at h
 ·exact c_z32_ok _ (m_z32_ok n) vs sg cm x h hx
 ·exact c_z26_ok _ (m_z26_ok n) vs sg cm x h hx
 ·exact c_sutureref1_side_ok _ hb.y11 vs sg cm x h hx
 ·exact c_z41_ok _ (m_z41_ok n) vs sg cm x h hx
 ·cases h
theorem code_z40_fn : Tryz.prog.funcs[91]? = some Tryz.f91 := Tryz.func91
theorem code_z40_body : Tryz.f91.body = some code_z40 := by kernel_rfl
def K_z40 (v : V) (s : Sig) : Option (ByteArray) := Option.bind (V.strOf v) fun u0 => some u0
theorem K_z40_wk {v : V} {s : Sig} {r : ByteArray} (h : K_z40 v s = some r) : Wk v (enc_z40 r) /\ WkS 0 s (encS_z40 r) := by
 unfold K_z40 at h
 obtain ⟨u0, hu0, h⟩ := ob h
 cases h
 exact ⟨(sW hu0), (WkS.none _)⟩
theorem f_z40_eq (b : B_z40) (n : Nat) (a0 : Int) (a1 : Int) (a2 : ByteArray) (a3 : List T) : mF Tryz.prog (sp_z40 b n) 91 [(V.agg [(V.t (T.sc (.int .i64 a0))), (V.t (T.sc (.int .i64 a1))), (V.t (T.sc (.string a2))), (V.t (T.list a3))])] [] K_z40 = f_z40 b n a0 a1 a2 a3 := by kernel_rfl
theorem f_z40_ok (b : B_z40) (hb : B_z40_ok b) (n : Nat) : ok_z40 (f_z40 b n) := fun a0 a1 a2 a3 r h => mF_ok sound (sp_z40_ok b hb n) code_z40_fn code_z40_body (nl (by kernel_rfl)) (no_scope (by kernel_rfl)) ((f_z40_eq b n a0 a1 a2 a3).trans h) (fun v s hk => ⟨(K_z40_wk hk).1, rfl, (K_z40_wk hk).2⟩)
def f_sutureref1_side (b : B_z40) (n : Nat) (a0 : Int) (a1 : Int) (a2 : ByteArray) (a3 : List T) (a4 : Int) : Option (ByteArray) :=
Option.bind (m_z32 n a0) fun r0 =>
bif (decide ((r0 : Int) < a4)) then (
Option.bind (b.y10 a0 a1 a2 a3) fun r1 =>
must true (decide (((ByteArray.size (⟨#[40]⟩ : ByteArray) + ByteArray.size r1 : Nat) : Int) <= IntKind.i64.max)) (must true (decide (((ByteArray.size ((⟨#[40]⟩ : ByteArray) ++ r1) + ByteArray.size (⟨#[41]⟩ : ByteArray) : Nat) : Int) <= IntKind.i64.max)) (some (((⟨#[40]⟩ : ByteArray) ++ r1) ++ (⟨#[41]⟩ : ByteArray)))))
else (
Option.bind (b.y10 a0 a1 a2 a3) fun r2 =>
some r2)
def code_sutureref1_side : Code := Tryz.f125.body.getD .skip
def sp_sutureref1_side (b : B_z40) (n : Nat) : Go.Eng.Spec := ⟨fun f vs sg => (match f with
  | 124 => c_z32 (m_z32 n) vs sg
  | 91 => c_z40 b.y10 vs sg
  | _ => none), fun R key E sg K => (match key with
  | _ => none)⟩
theorem sp_sutureref1_side_ok (b : B_z40) (hb : B_z40_ok b) (n : Nat) : CallsOk Tryz.prog (sp_sutureref1_side b n) := by
 intro f vs sg cm x h hx
 simp only [sp_sutureref1_side] at h
 split at h
 ·exact c_z32_ok _ (m_z32_ok n) vs sg cm x h hx
 ·exact c_z40_ok _ hb.y10 vs sg cm x h hx
 ·cases h
theorem code_sutureref1_side_fn : Tryz.prog.funcs[125]? = some Tryz.f125 := Tryz.func125
theorem code_sutureref1_side_body : Tryz.f125.body = some code_sutureref1_side := by kernel_rfl
def K_sutureref1_side (v : V) (s : Sig) : Option (ByteArray) := Option.bind (V.strOf v) fun u0 => some u0
theorem K_sutureref1_side_wk {v : V} {s : Sig} {r : ByteArray} (h : K_sutureref1_side v s = some r) : Wk v (enc_sutureref1_side r) /\ WkS 0 s (encS_sutureref1_side r) := by
 unfold K_sutureref1_side at h
 obtain ⟨u0, hu0, h⟩ := ob h
 cases h
 exact ⟨(sW hu0), (WkS.none _)⟩
theorem f_sutureref1_side_eq (b : B_z40) (n : Nat) (a0 : Int) (a1 : Int) (a2 : ByteArray) (a3 : List T) (a4 : Int) : mF Tryz.prog (sp_sutureref1_side b n) 125 [(V.agg [(V.t (T.sc (.int .i64 a0))), (V.t (T.sc (.int .i64 a1))), (V.t (T.sc (.string a2))), (V.t (T.list a3))]), (V.t (T.sc (.int .i64 a4)))] [] K_sutureref1_side = f_sutureref1_side b n a0 a1 a2 a3 a4 := by kernel_rfl
theorem f_sutureref1_side_ok (b : B_z40) (hb : B_z40_ok b) (n : Nat) : ok_sutureref1_side (f_sutureref1_side b n) := fun a0 a1 a2 a3 a4 r h => mF_ok sound (sp_sutureref1_side_ok b hb n) code_sutureref1_side_fn code_sutureref1_side_body (nl (by kernel_rfl)) (no_scope (by kernel_rfl)) ((f_sutureref1_side_eq b n a0 a1 a2 a3 a4).trans h) (fun v s hk => ⟨(K_sutureref1_side_wk hk).1, rfl, (K_sutureref1_side_wk hk).2⟩)
def unB_z40 (n : Nat) : Nat -> B_z40
 | 0 => { y10 := fun _ _ _ _ => none, y11 := fun _ _ _ _ _ => none }
 | m + 1 => { y10 := f_z40 (unB_z40 n m) n, y11 := f_sutureref1_side (unB_z40 n m) n }
theorem unB_z40_ok (n : Nat) : ∀ m, B_z40_ok (unB_z40 n m)
 | 0 => { y10 := fun _ _ _ _ _ h => (nomatch (show none = some _ from h)), y11 := fun _ _ _ _ _ _ h => (nomatch (show none = some _ from h)) }
 | m + 1 => { y10 := f_z40_ok _ (unB_z40_ok n m) n, y11 := f_sutureref1_side_ok _ (unB_z40_ok n m) n }
def m_z40 (n : Nat) : Int -> Int -> ByteArray -> List T -> Option (ByteArray) := (unB_z40 n n).y10
theorem m_z40_ok (n : Nat) : ok_z40 (m_z40 n) := (unB_z40_ok n n).y10
structure B_z33 where
 y9 : List T -> Int -> Option (ByteArray)
def enc_z33 (r : ByteArray) : V := (V.t (T.sc (.string r)))
def encS_z33 (r : ByteArray) : Sig := []
def ok_z33 (m : List T -> Int -> Option (ByteArray)) : Prop := ∀ (a0 : List T) (a1 : Int) (r : ByteArray), m a0 a1 = some r -> FuncOk Tryz.prog 52 [(V.t (T.list a0)), (V.t (T.sc (.int .i64 a1)))] [] (enc_z33 r) (encS_z33 r)
def c_z33 (m : List T -> Int -> Option (ByteArray)) (vs : List V) (sg : Sig) : Option CallM := bif Nat.beq vs.length 2 && Nat.beq sg.length 0 then Option.bind (V.lstOf (vs.getD 0 .any)) fun u0 => Option.bind (V.intOf .i64 (vs.getD 1 .any)) fun u1 => some { α := ByteArray, m := m u0 u1, dflt := default, enc := fun y => ((V.t (T.sc (.string y))), []) } else none
theorem c_z33_ok (m : List T -> Int -> Option (ByteArray)) (hm : ok_z33 m) (vs : List V) (sg : Sig) (cm : CallM) (x : cm.α) (h : c_z33 m vs sg = some cm) (hx : cm.m = some x) : FuncOk Tryz.prog 52 vs sg (cm.enc x).1 (cm.enc x).2 := by
 unfold c_z33 at h
 obtain ⟨hl, hs, h⟩ := callee_sig h
 obtain ⟨u0, hu0, u1, hu1, h⟩ := ob2 h
 cases h
 exact (hm u0 u1 x hx).wk (args_wk hl (.cons (lW hu0) (.cons (iW hu1) .nil))) (wkSg_of hs .nil)
structure B_z33_ok (b : B_z33) : Prop where
 y9 : ok_z33 b.y9
def l_z33_4_B (b : B_z33) (n : Nat) (k : (List T) × Int × ByteArray × ByteArray × Int -> Option (ByteArray)) : (List T) × Int × ByteArray × ByteArray × Int -> Option (ByteArray) := fun (s0, s1, s2, s3, s4) =>
bif (decide ((s4 : Int) < ((List.length s0 : Nat) : Int))) then (
Option.bind (idx true [.int .i64, .str, .str, .int .i64, .int .i64, .int .i64, .str, .list, .list, .list, .cplx .f64] s0 s4) fun y1 =>
bif (((y1.cell 0).int : Int) == 1) then (
must true (decide (((ByteArray.size (y1.cell 1).str + ByteArray.size (⟨#[32, 61, 32]⟩ : ByteArray) : Nat) : Int) <= IntKind.i64.max)) (Option.bind (m_z40 n (y1.cell 4).int (y1.cell 5).int (y1.cell 6).str (y1.cell 7).lst) fun r2 =>
must true (decide (((ByteArray.size ((y1.cell 1).str ++ (⟨#[32, 61, 32]⟩ : ByteArray)) + ByteArray.size r2 : Nat) : Int) <= IntKind.i64.max)) (must true (decide (((ByteArray.size s2 + ByteArray.size s3 : Nat) : Int) <= IntKind.i64.max)) (must true (decide (((ByteArray.size (s2 ++ s3) + ByteArray.size (((y1.cell 1).str ++ (⟨#[32, 61, 32]⟩ : ByteArray)) ++ r2) : Nat) : Int) <= IntKind.i64.max)) (must true (decide (((ByteArray.size ((s2 ++ s3) ++ (((y1.cell 1).str ++ (⟨#[32, 61, 32]⟩ : ByteArray)) ++ r2)) + ByteArray.size (⟨#[10]⟩ : ByteArray) : Nat) : Int) <= IntKind.i64.max)) (k (s0, s1, (((s2 ++ s3) ++ (((y1.cell 1).str ++ (⟨#[32, 61, 32]⟩ : ByteArray)) ++ r2)) ++ (⟨#[10]⟩ : ByteArray)), s3, (IntKind.wrap .i64 (s4 + 1)))))))))
else (
bif (((y1.cell 0).int : Int) == 2) then (
must true (decide (((ByteArray.size (⟨#[108, 111, 99, 107, 32]⟩ : ByteArray) + ByteArray.size (y1.cell 1).str : Nat) : Int) <= IntKind.i64.max)) (must true (decide (((ByteArray.size s2 + ByteArray.size s3 : Nat) : Int) <= IntKind.i64.max)) (must true (decide (((ByteArray.size (s2 ++ s3) + ByteArray.size ((⟨#[108, 111, 99, 107, 32]⟩ : ByteArray) ++ (y1.cell 1).str) : Nat) : Int) <= IntKind.i64.max)) (must true (decide (((ByteArray.size ((s2 ++ s3) ++ ((⟨#[108, 111, 99, 107, 32]⟩ : ByteArray) ++ (y1.cell 1).str)) + ByteArray.size (⟨#[10]⟩ : ByteArray) : Nat) : Int) <= IntKind.i64.max)) (k (s0, s1, (((s2 ++ s3) ++ ((⟨#[108, 111, 99, 107, 32]⟩ : ByteArray) ++ (y1.cell 1).str)) ++ (⟨#[10]⟩ : ByteArray)), s3, (IntKind.wrap .i64 (s4 + 1))))))))
else (
bif (((y1.cell 0).int : Int) == 3) then (
must true (decide (((ByteArray.size (⟨#[117, 110, 108, 111, 99, 107, 32]⟩ : ByteArray) + ByteArray.size (y1.cell 1).str : Nat) : Int) <= IntKind.i64.max)) (must true (decide (((ByteArray.size s2 + ByteArray.size s3 : Nat) : Int) <= IntKind.i64.max)) (must true (decide (((ByteArray.size (s2 ++ s3) + ByteArray.size ((⟨#[117, 110, 108, 111, 99, 107, 32]⟩ : ByteArray) ++ (y1.cell 1).str) : Nat) : Int) <= IntKind.i64.max)) (must true (decide (((ByteArray.size ((s2 ++ s3) ++ ((⟨#[117, 110, 108, 111, 99, 107, 32]⟩ : ByteArray) ++ (y1.cell 1).str)) + ByteArray.size (⟨#[10]⟩ : ByteArray) : Nat) : Int) <= IntKind.i64.max)) (k (s0, s1, (((s2 ++ s3) ++ ((⟨#[117, 110, 108, 111, 99, 107, 32]⟩ : ByteArray) ++ (y1.cell 1).str)) ++ (⟨#[10]⟩ : ByteArray)), s3, (IntKind.wrap .i64 (s4 + 1))))))))
else (
bif (((y1.cell 0).int : Int) == 4) then (
must true (decide (((ByteArray.size (⟨#[115, 101, 110, 100, 32]⟩ : ByteArray) + ByteArray.size (y1.cell 1).str : Nat) : Int) <= IntKind.i64.max)) (must true (decide (((ByteArray.size ((⟨#[115, 101, 110, 100, 32]⟩ : ByteArray) ++ (y1.cell 1).str) + ByteArray.size (⟨#[32]⟩ : ByteArray) : Nat) : Int) <= IntKind.i64.max)) (Option.bind (m_z40 n (y1.cell 4).int (y1.cell 5).int (y1.cell 6).str (y1.cell 7).lst) fun r3 =>
must true (decide (((ByteArray.size (((⟨#[115, 101, 110, 100, 32]⟩ : ByteArray) ++ (y1.cell 1).str) ++ (⟨#[32]⟩ : ByteArray)) + ByteArray.size r3 : Nat) : Int) <= IntKind.i64.max)) (must true (decide (((ByteArray.size s2 + ByteArray.size s3 : Nat) : Int) <= IntKind.i64.max)) (must true (decide (((ByteArray.size (s2 ++ s3) + ByteArray.size ((((⟨#[115, 101, 110, 100, 32]⟩ : ByteArray) ++ (y1.cell 1).str) ++ (⟨#[32]⟩ : ByteArray)) ++ r3) : Nat) : Int) <= IntKind.i64.max)) (must true (decide (((ByteArray.size ((s2 ++ s3) ++ ((((⟨#[115, 101, 110, 100, 32]⟩ : ByteArray) ++ (y1.cell 1).str) ++ (⟨#[32]⟩ : ByteArray)) ++ r3)) + ByteArray.size (⟨#[10]⟩ : ByteArray) : Nat) : Int) <= IntKind.i64.max)) (k (s0, s1, (((s2 ++ s3) ++ ((((⟨#[115, 101, 110, 100, 32]⟩ : ByteArray) ++ (y1.cell 1).str) ++ (⟨#[32]⟩ : ByteArray)) ++ r3)) ++ (⟨#[10]⟩ : ByteArray)), s3, (IntKind.wrap .i64 (s4 + 1))))))))))
else (
bif (((y1.cell 0).int : Int) == 5) then (
must true (decide (((ByteArray.size (⟨#[114, 101, 99, 118, 32]⟩ : ByteArray) + ByteArray.size (y1.cell 1).str : Nat) : Int) <= IntKind.i64.max)) (must true (decide (((ByteArray.size ((⟨#[114, 101, 99, 118, 32]⟩ : ByteArray) ++ (y1.cell 1).str) + ByteArray.size (⟨#[32]⟩ : ByteArray) : Nat) : Int) <= IntKind.i64.max)) (must true (decide (((ByteArray.size (((⟨#[114, 101, 99, 118, 32]⟩ : ByteArray) ++ (y1.cell 1).str) ++ (⟨#[32]⟩ : ByteArray)) + ByteArray.size (y1.cell 2).str : Nat) : Int) <= IntKind.i64.max)) (must true (decide (((ByteArray.size s2 + ByteArray.size s3 : Nat) : Int) <= IntKind.i64.max)) (must true (decide (((ByteArray.size (s2 ++ s3) + ByteArray.size ((((⟨#[114, 101, 99, 118, 32]⟩ : ByteArray) ++ (y1.cell 1).str) ++ (⟨#[32]⟩ : ByteArray)) ++ (y1.cell 2).str) : Nat) : Int) <= IntKind.i64.max)) (must true (decide (((ByteArray.size ((s2 ++ s3) ++ ((((⟨#[114, 101, 99, 118, 32]⟩ : ByteArray) ++ (y1.cell 1).str) ++ (⟨#[32]⟩ : ByteArray)) ++ (y1.cell 2).str)) + ByteArray.size (⟨#[10]⟩ : ByteArray) : Nat) : Int) <= IntKind.i64.max)) (k (s0, s1, (((s2 ++ s3) ++ ((((⟨#[114, 101, 99, 118, 32]⟩ : ByteArray) ++ (y1.cell 1).str) ++ (⟨#[32]⟩ : ByteArray)) ++ (y1.cell 2).str)) ++ (⟨#[10]⟩ : ByteArray)), s3, (IntKind.wrap .i64 (s4 + 1))))))))))
else (
bif (((y1.cell 0).int : Int) == 6) then (
Option.bind (m_z40 n (y1.cell 4).int (y1.cell 5).int (y1.cell 6).str (y1.cell 7).lst) fun r4 =>
must true (decide (((ByteArray.size (⟨#[112, 114, 105, 110, 116, 32]⟩ : ByteArray) + ByteArray.size r4 : Nat) : Int) <= IntKind.i64.max)) (must true (decide (((ByteArray.size s2 + ByteArray.size s3 : Nat) : Int) <= IntKind.i64.max)) (must true (decide (((ByteArray.size (s2 ++ s3) + ByteArray.size ((⟨#[112, 114, 105, 110, 116, 32]⟩ : ByteArray) ++ r4) : Nat) : Int) <= IntKind.i64.max)) (must true (decide (((ByteArray.size ((s2 ++ s3) ++ ((⟨#[112, 114, 105, 110, 116, 32]⟩ : ByteArray) ++ r4)) + ByteArray.size (⟨#[10]⟩ : ByteArray) : Nat) : Int) <= IntKind.i64.max)) (k (s0, s1, (((s2 ++ s3) ++ ((⟨#[112, 114, 105, 110, 116, 32]⟩ : ByteArray) ++ r4)) ++ (⟨#[10]⟩ : ByteArray)), s3, (IntKind.wrap .i64 (s4 + 1))))))))
else (
bif (((y1.cell 0).int : Int) == 9) then (
must true (decide (((ByteArray.size (⟨#[103, 111, 116, 111, 32]⟩ : ByteArray) + ByteArray.size (y1.cell 1).str : Nat) : Int) <= IntKind.i64.max)) (must true (decide (((ByteArray.size s2 + ByteArray.size s3 : Nat) : Int) <= IntKind.i64.max)) (must true (decide (((ByteArray.size (s2 ++ s3) + ByteArray.size ((⟨#[103, 111, 116, 111, 32]⟩ : ByteArray) ++ (y1.cell 1).str) : Nat) : Int) <= IntKind.i64.max)) (must true (decide (((ByteArray.size ((s2 ++ s3) ++ ((⟨#[103, 111, 116, 111, 32]⟩ : ByteArray) ++ (y1.cell 1).str)) + ByteArray.size (⟨#[10]⟩ : ByteArray) : Nat) : Int) <= IntKind.i64.max)) (k (s0, s1, (((s2 ++ s3) ++ ((⟨#[103, 111, 116, 111, 32]⟩ : ByteArray) ++ (y1.cell 1).str)) ++ (⟨#[10]⟩ : ByteArray)), s3, (IntKind.wrap .i64 (s4 + 1))))))))
else (
bif (((y1.cell 0).int : Int) == 10) then (
must true (decide (((ByteArray.size (⟨#[108, 97, 98, 101, 108, 32]⟩ : ByteArray) + ByteArray.size (y1.cell 1).str : Nat) : Int) <= IntKind.i64.max)) (must true (decide (((ByteArray.size s2 + ByteArray.size s3 : Nat) : Int) <= IntKind.i64.max)) (must true (decide (((ByteArray.size (s2 ++ s3) + ByteArray.size ((⟨#[108, 97, 98, 101, 108, 32]⟩ : ByteArray) ++ (y1.cell 1).str) : Nat) : Int) <= IntKind.i64.max)) (must true (decide (((ByteArray.size ((s2 ++ s3) ++ ((⟨#[108, 97, 98, 101, 108, 32]⟩ : ByteArray) ++ (y1.cell 1).str)) + ByteArray.size (⟨#[10]⟩ : ByteArray) : Nat) : Int) <= IntKind.i64.max)) (k (s0, s1, (((s2 ++ s3) ++ ((⟨#[108, 97, 98, 101, 108, 32]⟩ : ByteArray) ++ (y1.cell 1).str)) ++ (⟨#[10]⟩ : ByteArray)), s3, (IntKind.wrap .i64 (s4 + 1))))))))
else (
bif (((y1.cell 0).int : Int) == 7) then (
Option.bind (m_z40 n (y1.cell 4).int (y1.cell 5).int (y1.cell 6).str (y1.cell 7).lst) fun r5 =>
must true (decide (((ByteArray.size (⟨#[105, 102, 32]⟩ : ByteArray) + ByteArray.size r5 : Nat) : Int) <= IntKind.i64.max)) (must true (decide (((ByteArray.size ((⟨#[105, 102, 32]⟩ : ByteArray) ++ r5) + ByteArray.size (⟨#[32, 123, 10]⟩ : ByteArray) : Nat) : Int) <= IntKind.i64.max)) (Option.bind (b.y9 (y1.cell 8).lst (IntKind.wrap .i64 (s1 + 1))) fun r6 =>
must true (decide (((ByteArray.size (((⟨#[105, 102, 32]⟩ : ByteArray) ++ r5) ++ (⟨#[32, 123, 10]⟩ : ByteArray)) + ByteArray.size r6 : Nat) : Int) <= IntKind.i64.max)) (must true (decide (((ByteArray.size ((((⟨#[105, 102, 32]⟩ : ByteArray) ++ r5) ++ (⟨#[32, 123, 10]⟩ : ByteArray)) ++ r6) + ByteArray.size s3 : Nat) : Int) <= IntKind.i64.max)) (must true (decide (((ByteArray.size (((((⟨#[105, 102, 32]⟩ : ByteArray) ++ r5) ++ (⟨#[32, 123, 10]⟩ : ByteArray)) ++ r6) ++ s3) + ByteArray.size (⟨#[125]⟩ : ByteArray) : Nat) : Int) <= IntKind.i64.max)) (bif (decide ((((List.length (y1.cell 9).lst : Nat) : Int) : Int) > 0)) then (
must true (decide (((ByteArray.size ((((((⟨#[105, 102, 32]⟩ : ByteArray) ++ r5) ++ (⟨#[32, 123, 10]⟩ : ByteArray)) ++ r6) ++ s3) ++ (⟨#[125]⟩ : ByteArray)) + ByteArray.size (⟨#[32, 101, 108, 115, 101, 32, 123, 10]⟩ : ByteArray) : Nat) : Int) <= IntKind.i64.max)) (Option.bind (b.y9 (y1.cell 9).lst (IntKind.wrap .i64 (s1 + 1))) fun r7 =>
must true (decide (((ByteArray.size (((((((⟨#[105, 102, 32]⟩ : ByteArray) ++ r5) ++ (⟨#[32, 123, 10]⟩ : ByteArray)) ++ r6) ++ s3) ++ (⟨#[125]⟩ : ByteArray)) ++ (⟨#[32, 101, 108, 115, 101, 32, 123, 10]⟩ : ByteArray)) + ByteArray.size r7 : Nat) : Int) <= IntKind.i64.max)) (must true (decide (((ByteArray.size ((((((((⟨#[105, 102, 32]⟩ : ByteArray) ++ r5) ++ (⟨#[32, 123, 10]⟩ : ByteArray)) ++ r6) ++ s3) ++ (⟨#[125]⟩ : ByteArray)) ++ (⟨#[32, 101, 108, 115, 101, 32, 123, 10]⟩ : ByteArray)) ++ r7) + ByteArray.size s3 : Nat) : Int) <= IntKind.i64.max)) (must true (decide (((ByteArray.size (((((((((⟨#[105, 102, 32]⟩ : ByteArray) ++ r5) ++ (⟨#[32, 123, 10]⟩ : ByteArray)) ++ r6) ++ s3) ++ (⟨#[125]⟩ : ByteArray)) ++ (⟨#[32, 101, 108, 115, 101, 32, 123, 10]⟩ : ByteArray)) ++ r7) ++ s3) + ByteArray.size (⟨#[125]⟩ : ByteArray) : Nat) : Int) <= IntKind.i64.max)) (must true (decide (((ByteArray.size s2 + ByteArray.size s3 : Nat) : Int) <= IntKind.i64.max)) (must true (decide (((ByteArray.size (s2 ++ s3) + ByteArray.size ((((((((((⟨#[105, 102, 32]⟩ : ByteArray) ++ r5) ++ (⟨#[32, 123, 10]⟩ : ByteArray)) ++ r6) ++ s3) ++ (⟨#[125]⟩ : ByteArray)) ++ (⟨#[32, 101, 108, 115, 101, 32, 123, 10]⟩ : ByteArray)) ++ r7) ++ s3) ++ (⟨#[125]⟩ : ByteArray)) : Nat) : Int) <= IntKind.i64.max)) (must true (decide (((ByteArray.size ((s2 ++ s3) ++ ((((((((((⟨#[105, 102, 32]⟩ : ByteArray) ++ r5) ++ (⟨#[32, 123, 10]⟩ : ByteArray)) ++ r6) ++ s3) ++ (⟨#[125]⟩ : ByteArray)) ++ (⟨#[32, 101, 108, 115, 101, 32, 123, 10]⟩ : ByteArray)) ++ r7) ++ s3) ++ (⟨#[125]⟩ : ByteArray))) + ByteArray.size (⟨#[10]⟩ : ByteArray) : Nat) : Int) <= IntKind.i64.max)) (k (s0, s1, (((s2 ++ s3) ++ ((((((((((⟨#[105, 102, 32]⟩ : ByteArray) ++ r5) ++ (⟨#[32, 123, 10]⟩ : ByteArray)) ++ r6) ++ s3) ++ (⟨#[125]⟩ : ByteArray)) ++ (⟨#[32, 101, 108, 115, 101, 32, 123, 10]⟩ : ByteArray)) ++ r7) ++ s3) ++ (⟨#[125]⟩ : ByteArray))) ++ (⟨#[10]⟩ : ByteArray)), s3, (IntKind.wrap .i64 (s4 + 1)))))))))))
else (
must true (decide (((ByteArray.size s2 + ByteArray.size s3 : Nat) : Int) <= IntKind.i64.max)) (must true (decide (((ByteArray.size (s2 ++ s3) + ByteArray.size ((((((⟨#[105, 102, 32]⟩ : ByteArray) ++ r5) ++ (⟨#[32, 123, 10]⟩ : ByteArray)) ++ r6) ++ s3) ++ (⟨#[125]⟩ : ByteArray)) : Nat) : Int) <= IntKind.i64.max)) (must true (decide (((ByteArray.size ((s2 ++ s3) ++ ((((((⟨#[105, 102, 32]⟩ : ByteArray) ++ r5) ++ (⟨#[32, 123, 10]⟩ : ByteArray)) ++ r6) ++ s3) ++ (⟨#[125]⟩ : ByteArray))) + ByteArray.size (⟨#[10]⟩ : ByteArray) : Nat) : Int) <= IntKind.i64.max)) (k (s0, s1, (((s2 ++ s3) ++ ((((((⟨#[105, 102, 32]⟩ : ByteArray) ++ r5) ++ (⟨#[32, 123, 10]⟩ : ByteArray)) ++ r6) ++ s3) ++ (⟨#[125]⟩ : ByteArray))) ++ (⟨#[10]⟩ : ByteArray)), s3, (IntKind.wrap .i64 (s4 + 1)))))))))))))
else (
bif (((y1.cell 0).int : Int) == 8) then (
bif (decide (((y1.cell 3).int : Int) ≥ 0)) then (
Option.bind (m_z26 n (y1.cell 3).int) fun r8 =>
must true (decide (((ByteArray.size (⟨#[114, 101, 112, 101, 97, 116, 32]⟩ : ByteArray) + ByteArray.size r8 : Nat) : Int) <= IntKind.i64.max)) (must true (decide (((ByteArray.size ((⟨#[114, 101, 112, 101, 97, 116, 32]⟩ : ByteArray) ++ r8) + ByteArray.size (⟨#[32, 123, 10]⟩ : ByteArray) : Nat) : Int) <= IntKind.i64.max)) (Option.bind (b.y9 (y1.cell 8).lst (IntKind.wrap .i64 (s1 + 1))) fun r9 =>
must true (decide (((ByteArray.size (((⟨#[114, 101, 112, 101, 97, 116, 32]⟩ : ByteArray) ++ r8) ++ (⟨#[32, 123, 10]⟩ : ByteArray)) + ByteArray.size r9 : Nat) : Int) <= IntKind.i64.max)) (must true (decide (((ByteArray.size ((((⟨#[114, 101, 112, 101, 97, 116, 32]⟩ : ByteArray) ++ r8) ++ (⟨#[32, 123, 10]⟩ : ByteArray)) ++ r9) + ByteArray.size s3 : Nat) : Int) <= IntKind.i64.max)) (must true (decide (((ByteArray.size (((((⟨#[114, 101, 112, 101, 97, 116, 32]⟩ : ByteArray) ++ r8) ++ (⟨#[32, 123, 10]⟩ : ByteArray)) ++ r9) ++ s3) + ByteArray.size (⟨#[125]⟩ : ByteArray) : Nat) : Int) <= IntKind.i64.max)) (must true (decide (((ByteArray.size s2 + ByteArray.size s3 : Nat) : Int) <= IntKind.i64.max)) (must true (decide (((ByteArray.size (s2 ++ s3) + ByteArray.size ((((((⟨#[114, 101, 112, 101, 97, 116, 32]⟩ : ByteArray) ++ r8) ++ (⟨#[32, 123, 10]⟩ : ByteArray)) ++ r9) ++ s3) ++ (⟨#[125]⟩ : ByteArray)) : Nat) : Int) <= IntKind.i64.max)) (must true (decide (((ByteArray.size ((s2 ++ s3) ++ ((((((⟨#[114, 101, 112, 101, 97, 116, 32]⟩ : ByteArray) ++ r8) ++ (⟨#[32, 123, 10]⟩ : ByteArray)) ++ r9) ++ s3) ++ (⟨#[125]⟩ : ByteArray))) + ByteArray.size (⟨#[10]⟩ : ByteArray) : Nat) : Int) <= IntKind.i64.max)) (k (s0, s1, (((s2 ++ s3) ++ ((((((⟨#[114, 101, 112, 101, 97, 116, 32]⟩ : ByteArray) ++ r8) ++ (⟨#[32, 123, 10]⟩ : ByteArray)) ++ r9) ++ s3) ++ (⟨#[125]⟩ : ByteArray))) ++ (⟨#[10]⟩ : ByteArray)), s3, (IntKind.wrap .i64 (s4 + 1))))))))))))
else (
must true (decide (((ByteArray.size s2 + ByteArray.size s3 : Nat) : Int) <= IntKind.i64.max)) (must true (decide (((ByteArray.size (s2 ++ s3) + ByteArray.size (⟨#[63]⟩ : ByteArray) : Nat) : Int) <= IntKind.i64.max)) (must true (decide (((ByteArray.size ((s2 ++ s3) ++ (⟨#[63]⟩ : ByteArray)) + ByteArray.size (⟨#[10]⟩ : ByteArray) : Nat) : Int) <= IntKind.i64.max)) (k (s0, s1, (((s2 ++ s3) ++ (⟨#[63]⟩ : ByteArray)) ++ (⟨#[10]⟩ : ByteArray)), s3, (IntKind.wrap .i64 (s4 + 1))))))))
else (
must true (decide (((ByteArray.size s2 + ByteArray.size s3 : Nat) : Int) <= IntKind.i64.max)) (must true (decide (((ByteArray.size (s2 ++ s3) + ByteArray.size (⟨#[63]⟩ : ByteArray) : Nat) : Int) <= IntKind.i64.max)) (must true (decide (((ByteArray.size ((s2 ++ s3) ++ (⟨#[63]⟩ : ByteArray)) + ByteArray.size (⟨#[10]⟩ : ByteArray) : Nat) : Int) <= IntKind.i64.max)) (k (s0, s1, (((s2 ++ s3) ++ (⟨#[63]⟩ : ByteArray)) ++ (⟨#[10]⟩ : ByteArray)), s3, (IntKind.wrap .i64 (s4 + 1)))))))))))))))))
else (
some s2)
def l_z33_4 (b : B_z33) (n : Nat) : Nat -> (List T) × Int × ByteArray × ByteArray × Int -> Option (ByteArray)
 | 0, _ => none
 | m + 1, s => l_z33_4_B b n (l_z33_4 b n m) s
def f_z33 (b : B_z33) (n : Nat) (a0 : List T) (a1 : Int) : Option (ByteArray) :=
Option.bind (m_z42 n a1) fun r0 =>
Option.bind (l_z33_4 b n n (a0, a1, (⟨#[]⟩ : ByteArray), r0, 0)) fun p11 =>
some p11
def code_z33 : Code := Tryz.f52.body.getD .skip
def l_z33_4_S (b : B_z33) (n : Nat) (R : Type) (E : SEnv) (sg : Sig) (K : Ex -> SEnv -> Sig -> Option R) : Option R := Option.bind (V.lstOf (SEnv.at E 0)) fun u0 => Option.bind (V.intOf .i64 (SEnv.at E 1)) fun u1 => Option.bind (V.strOf (SEnv.at E 5)) fun u2 => Option.bind (V.strOf (SEnv.at E 6)) fun u3 => Option.bind (V.intOf .i64 (SEnv.at E 7)) fun u4 => Option.bind (l_z33_4 b n n (u0, u1, u2, u3, u4)) fun p0 => K (.exit 0) [(5, (V.t (T.sc (.string p0))))] []
def sp_z33 (b : B_z33) (n : Nat) : Go.Eng.Spec := ⟨fun f vs sg => (match f with
  | 90 => c_z42 (m_z42 n) vs sg
  | 91 => c_z40 (m_z40 n) vs sg
  | 52 => c_z33 b.y9 vs sg
  | 51 => c_z26 (m_z26 n) vs sg
  | _ => none), fun R key E sg K => (match key with
  | 4 => l_z33_4_S b n R E sg K
  | _ => none)⟩
theorem sp_z33_ok (b : B_z33) (hb : B_z33_ok b) (n : Nat) : CallsOk Tryz.prog (sp_z33 b n) := by
 intro f vs sg cm x h hx
 simp only [sp_z33] at h
 split at h
 ·exact c_z42_ok _ (m_z42_ok n) vs sg cm x h hx
 ·exact c_z40_ok _ (m_z40_ok n) vs sg cm x h hx
 ·exact c_z33_ok _ hb.y9 vs sg cm x h hx
 ·exact c_z26_ok _ (m_z26_ok n) vs sg cm x h hx
 ·cases h
theorem code_z33_fn : Tryz.prog.funcs[52]? = some Tryz.f52 := Tryz.func52
theorem code_z33_body : Tryz.f52.body = some code_z33 := by kernel_rfl
theorem code_z33_ok : CodeOk Tryz.prog code_z33 := (sound 52 _ _ code_z33_fn code_z33_body).1
def code_l_z33_4 : Code := (loopsOf code_z33).getD 0 .skip
theorem code_l_z33_4_ok : CodeOk Tryz.prog code_l_z33_4 := codeOk_loops code_z33_ok _ (getD_mem (by kernel_rfl))
def l_z33_4_K (k : (List T) × Int × ByteArray × ByteArray × Int -> Option (ByteArray)) : Ex -> SEnv -> Sig -> Option (ByteArray) := fun x E sg => match x with
 | .normal => Option.bind (V.lstOf (SEnv.at E 0)) fun u0 => Option.bind (V.intOf .i64 (SEnv.at E 1)) fun u1 => Option.bind (V.strOf (SEnv.at E 5)) fun u2 => Option.bind (V.strOf (SEnv.at E 6)) fun u3 => Option.bind (V.intOf .i64 (SEnv.at E 7)) fun u4 => k (u0, u1, u2, u3, u4)
 | (.exit 0) => Option.bind (V.strOf (SEnv.at E 5)) fun u0 => some u0
 | _ => none
theorem l_z33_4_eq (b : B_z33) (n : Nat) (k : (List T) × Int × ByteArray × ByteArray × Int -> Option (ByteArray)) (s0 : List T) (s1 : Int) (s2 : ByteArray) (s3 : ByteArray) (s4 : Int) : mX Tryz.prog (sp_z33 b n) 135 code_l_z33_4 [(0, (V.t (T.list s0))), (1, (V.t (T.sc (.int .i64 s1)))), (5, (V.t (T.sc (.string s2)))), (6, (V.t (T.sc (.string s3)))), (7, (V.t (T.sc (.int .i64 s4))))] [] (l_z33_4_K k) = l_z33_4_B b n k (s0, s1, s2, s3, s4) := by kernel_rfl
def l_z33_4_Q (x : ByteArray) (ex : Ex) (e : Env) (s : Sig) : Prop := (fun p0 => (ex = (.exit 0) /\ e = SEnv.env 135 [(5, (V.t (T.sc (.string p0))))] /\ s = [])) x
theorem l_z33_4_run (b : B_z33) (hb : B_z33_ok b) (n : Nat) : ∀ (m : Nat) (s0 : List T) (s1 : Int) (s2 : ByteArray) (s3 : ByteArray) (s4 : Int) (x : ByteArray), l_z33_4 b n m (s0, s1, s2, s3, s4) = some x -> SemL Tryz.prog 0 code_l_z33_4 (SEnv.env 135 [(0, (V.t (T.list s0))), (1, (V.t (T.sc (.int .i64 s1)))), (5, (V.t (T.sc (.string s2)))), (6, (V.t (T.sc (.string s3)))), (7, (V.t (T.sc (.int .i64 s4))))]) [] (l_z33_4_Q x)
 | 0, s0, s1, s2, s3, s4, x, h => by cases h
 | m + 1, s0, s1, s2, s3, s4, x, h => by
  refine loop_step (sp_z33_ok b hb n) code_l_z33_4_ok (nl (by kernel_rfl)) (no_scope (by kernel_rfl)) ((l_z33_4_eq b n _ s0 s1 s2 s3 s4).trans h) (fun E sg h => ?_) (fun ex E sg hne h => ?_)
  ·simp only [l_z33_4_K] at h
   obtain ⟨u0, hu0, u1, hu1, u2, hu2, u3, hu3, h⟩ := ob4 h
   obtain ⟨u4, hu4, h⟩ := ob h
   exact SemL.pre (k := 0) (by decide) (WkA.env (WkA.cons (lW hu0) rfl (WkA.cons (iW hu1) rfl (WkA.cons (sW hu2) rfl (WkA.cons (sW hu3) rfl (WkA.cons (iW hu4) rfl WkA.nil))))) 135) (WkS.none _) (l_z33_4_run b hb n m _ _ _ _ _ x h)
  ·unfold l_z33_4_K at h
   split at h
   ·exact absurd rfl hne
   ·obtain ⟨u0, hu0, h⟩ := ob h
    cases h
    exact ⟨0, _, _, by decide, WkA.env (WkA.cons (sW hu0) rfl WkA.nil) 135, (WkS.none _), rfl, rfl, rfl⟩
   ·cases h
theorem l_z33_4_ok (b : B_z33) (hb : B_z33_ok b) (n : Nat) : LoopOk Tryz.prog (sp_z33 b n) 0 135 code_l_z33_4 := by
  intro R key E sg K r hk h
  rw [show Go.Eng.keyOf code_l_z33_4 = some 4 from by kernel_rfl] at hk
  cases hk
  have h : l_z33_4_S b n R E sg K = some r := h
  unfold l_z33_4_S at h
  obtain ⟨u0, hu0, u1, hu1, u2, hu2, u3, hu3, h⟩ := ob4 h
  obtain ⟨u4, hu4, x, hx, h⟩ := ob2 h
  refine (SemL.pre (k := 0) (by decide) (WkA.env (WkA.cons (lW hu0) rfl (WkA.cons (iW hu1) rfl (WkA.cons (sW hu2) rfl (WkA.cons (sW hu3) rfl (WkA.cons (iW hu4) rfl WkA.nil))))) 135) (WkS.none _) (l_z33_4_run b hb n n _ _ _ _ _ x hx)).mono ?_
  intro ex e s hq
  obtain ⟨rfl, rfl, rfl⟩ := hq
  exact ⟨_, rfl, h⟩
def K_z33 (v : V) (s : Sig) : Option (ByteArray) := Option.bind (V.strOf v) fun u0 => some u0
theorem K_z33_wk {v : V} {s : Sig} {r : ByteArray} (h : K_z33 v s = some r) : Wk v (enc_z33 r) /\ WkS 0 s (encS_z33 r) := by
 unfold K_z33 at h
 obtain ⟨u0, hu0, h⟩ := ob h
 cases h
 exact ⟨(sW hu0), (WkS.none _)⟩
theorem f_z33_eq (b : B_z33) (n : Nat) (a0 : List T) (a1 : Int) : mF Tryz.prog (sp_z33 b n) 52 [(V.t (T.list a0)), (V.t (T.sc (.int .i64 a1)))] [] K_z33 = f_z33 b n a0 a1 := by kernel_rfl
theorem f_z33_ok (b : B_z33) (hb : B_z33_ok b) (n : Nat) : ok_z33 (f_z33 b n) := fun a0 a1 r h => mF_ok sound (sp_z33_ok b hb n) code_z33_fn code_z33_body (forall_getD (d := .skip) 1 (by kernel_rfl) (fun i hi => match i, hi with | 0, _ => l_z33_4_ok b hb n | i + 1, hi => absurd hi (by omega))) (no_scope (by kernel_rfl)) ((f_z33_eq b n a0 a1).trans h) (fun v s hk => ⟨(K_z33_wk hk).1, rfl, (K_z33_wk hk).2⟩)
def unB_z33 (n : Nat) : Nat -> B_z33
 | 0 => { y9 := fun _ _ => none }
 | m + 1 => { y9 := f_z33 (unB_z33 n m) n }
theorem unB_z33_ok (n : Nat) : ∀ m, B_z33_ok (unB_z33 n m)
 | 0 => { y9 := fun _ _ _ h => (nomatch (show none = some _ from h)) }
 | m + 1 => { y9 := f_z33_ok _ (unB_z33_ok n m) n }
def m_z33 (n : Nat) : List T -> Int -> Option (ByteArray) := (unB_z33 n n).y9
theorem m_z33_ok (n : Nat) : ok_z33 (m_z33 n) := (unB_z33_ok n n).y9
end
end Go.Proofs.YtbcgpjlkkcdmmaaGreatDoor.W
