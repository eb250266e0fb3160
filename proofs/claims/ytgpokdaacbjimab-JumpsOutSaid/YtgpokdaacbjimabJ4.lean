/- What the engine's walk comes to, printed by a program of this work: for each function its model, and that it is one. No conditions. -/
import Derived.Test.YtgpokdaacbjimabJ3
namespace Go.Proofs.Ytgpokdaacbjimab.W
open Go Go.Eng
set_option linter.unusedVariables false
set_option linter.unusedSimpArgs false
set_option maxRecDepth 100000

/-! suture/jumps.twice$1 -/
def m_jumps_twice_1 (n : Nat) (a0 : Int) (a1 : ByteArray) (a2 : ByteArray) (a3 : Int) (a4 : Int) (a5 : Int) (a6 : ByteArray) (a7 : List T) (a8 : List T) (a9 : List T) (a10 : Nat × Nat) (a11 : Int) (a12 : List T) (a13 : Int) (a14 : ByteArray) (a15 : ByteArray) (a16 : Int) (a17 : Int) (a18 : Int) (a19 : ByteArray) (a20 : List T) (a21 : List T) (a22 : List T) (a23 : Nat × Nat) (a24 : Int) (a25 : List T) : Option (Bool × Int × ByteArray × ByteArray × Int × Int × Int × ByteArray × (List T) × (List T) × (List T) × (Nat × Nat) × Int × (List T)) :=
some ((bif (bif ((a11 : Int) == a24) then ((a0 : Int) == 10) else false) then (ByteArray.toList a1 == ByteArray.toList a14) else false), a13, a14, a15, a16, a17, a18, a19, a20, a21, a22, a23, a24, a25)
def enc_jumps_twice_1 (r : Bool × Int × ByteArray × ByteArray × Int × Int × Int × ByteArray × (List T) × (List T) × (List T) × (Nat × Nat) × Int × (List T)) : V := (V.t (T.sc (.bool r.1)))
def encS_jumps_twice_1 (r : Bool × Int × ByteArray × ByteArray × Int × Int × Int × ByteArray × (List T) × (List T) × (List T) × (Nat × Nat) × Int × (List T)) : Sig := [some [(V.t (T.sc (.int .i64 r.2.1))), (V.t (T.sc (.string r.2.2.1))), (V.t (T.sc (.string r.2.2.2.1))), (V.t (T.sc (.int .i64 r.2.2.2.2.1))), (V.t (T.sc (.int .i64 r.2.2.2.2.2.1))), (V.t (T.sc (.int .i64 r.2.2.2.2.2.2.1))), (V.t (T.sc (.string r.2.2.2.2.2.2.2.1))), (V.t (T.list r.2.2.2.2.2.2.2.2.1)), (V.t (T.list r.2.2.2.2.2.2.2.2.2.1)), (V.t (T.list r.2.2.2.2.2.2.2.2.2.2.1)), (V.t (T.sc (.complex .f64 r.2.2.2.2.2.2.2.2.2.2.2.1.1 r.2.2.2.2.2.2.2.2.2.2.2.1.2))), (V.t (T.sc (.int .i64 r.2.2.2.2.2.2.2.2.2.2.2.2.1))), (V.t (T.list r.2.2.2.2.2.2.2.2.2.2.2.2.2))]]
def ok_jumps_twice_1 (m : Int → ByteArray → ByteArray → Int → Int → Int → ByteArray → List T → List T → List T → Nat × Nat → Int → List T → Int → ByteArray → ByteArray → Int → Int → Int → ByteArray → List T → List T → List T → Nat × Nat → Int → List T → Option (Bool × Int × ByteArray × ByteArray × Int × Int × Int × ByteArray × (List T) × (List T) × (List T) × (Nat × Nat) × Int × (List T))) : Prop := ∀ (a0 : Int) (a1 : ByteArray) (a2 : ByteArray) (a3 : Int) (a4 : Int) (a5 : Int) (a6 : ByteArray) (a7 : List T) (a8 : List T) (a9 : List T) (a10 : Nat × Nat) (a11 : Int) (a12 : List T) (a13 : Int) (a14 : ByteArray) (a15 : ByteArray) (a16 : Int) (a17 : Int) (a18 : Int) (a19 : ByteArray) (a20 : List T) (a21 : List T) (a22 : List T) (a23 : Nat × Nat) (a24 : Int) (a25 : List T) (r : Bool × Int × ByteArray × ByteArray × Int × Int × Int × ByteArray × (List T) × (List T) × (List T) × (Nat × Nat) × Int × (List T)), m a0 a1 a2 a3 a4 a5 a6 a7 a8 a9 a10 a11 a12 a13 a14 a15 a16 a17 a18 a19 a20 a21 a22 a23 a24 a25 = some r → FuncOk Try.prog 33 [(V.agg [(V.t (T.sc (.int .i64 a0))), (V.t (T.sc (.string a1))), (V.t (T.sc (.string a2))), (V.t (T.sc (.int .i64 a3))), (V.t (T.sc (.int .i64 a4))), (V.t (T.sc (.int .i64 a5))), (V.t (T.sc (.string a6))), (V.t (T.list a7)), (V.t (T.list a8)), (V.t (T.list a9)), (V.t (T.sc (.complex .f64 a10.1 a10.2))), (V.t (T.sc (.int .i64 a11))), (V.t (T.list a12))]), (V.ptr 0 0)] [some [(V.t (T.sc (.int .i64 a13))), (V.t (T.sc (.string a14))), (V.t (T.sc (.string a15))), (V.t (T.sc (.int .i64 a16))), (V.t (T.sc (.int .i64 a17))), (V.t (T.sc (.int .i64 a18))), (V.t (T.sc (.string a19))), (V.t (T.list a20)), (V.t (T.list a21)), (V.t (T.list a22)), (V.t (T.sc (.complex .f64 a23.1 a23.2))), (V.t (T.sc (.int .i64 a24))), (V.t (T.list a25))]] (enc_jumps_twice_1 r) (encS_jumps_twice_1 r)
def c_jumps_twice_1 (m : Int → ByteArray → ByteArray → Int → Int → Int → ByteArray → List T → List T → List T → Nat × Nat → Int → List T → Int → ByteArray → ByteArray → Int → Int → Int → ByteArray → List T → List T → List T → Nat × Nat → Int → List T → Option (Bool × Int × ByteArray × ByteArray × Int × Int × Int × ByteArray × (List T) × (List T) × (List T) × (Nat × Nat) × Int × (List T))) (vs : List V) (sg : Sig) : Option CallM := bif Nat.beq vs.length 2 && Nat.beq sg.length 1 then Option.bind (V.aggN 13 (vs.getD 0 .any)) fun u0 => Option.bind (V.intOf .i64 (u0.getD 0 .any)) fun u1 => Option.bind (V.strOf (u0.getD 1 .any)) fun u2 => Option.bind (V.strOf (u0.getD 2 .any)) fun u3 => Option.bind (V.intOf .i64 (u0.getD 3 .any)) fun u4 => Option.bind (V.intOf .i64 (u0.getD 4 .any)) fun u5 => Option.bind (V.intOf .i64 (u0.getD 5 .any)) fun u6 => Option.bind (V.strOf (u0.getD 6 .any)) fun u7 => Option.bind (V.lstOf (u0.getD 7 .any)) fun u8 => Option.bind (V.lstOf (u0.getD 8 .any)) fun u9 => Option.bind (V.lstOf (u0.getD 9 .any)) fun u10 => Option.bind (V.cplxOf .f64 (u0.getD 10 .any)) fun u11 => Option.bind (V.intOf .i64 (u0.getD 11 .any)) fun u12 => Option.bind (V.lstOf (u0.getD 12 .any)) fun u13 => Option.bind (V.ptrOf 0 0 (vs.getD 1 .any)) fun u14 => Option.bind (cellsN 13 sg 0) fun g0 => Option.bind (V.intOf .i64 (g0.getD 0 .any)) fun g1 => Option.bind (V.strOf (g0.getD 1 .any)) fun g2 => Option.bind (V.strOf (g0.getD 2 .any)) fun g3 => Option.bind (V.intOf .i64 (g0.getD 3 .any)) fun g4 => Option.bind (V.intOf .i64 (g0.getD 4 .any)) fun g5 => Option.bind (V.intOf .i64 (g0.getD 5 .any)) fun g6 => Option.bind (V.strOf (g0.getD 6 .any)) fun g7 => Option.bind (V.lstOf (g0.getD 7 .any)) fun g8 => Option.bind (V.lstOf (g0.getD 8 .any)) fun g9 => Option.bind (V.lstOf (g0.getD 9 .any)) fun g10 => Option.bind (V.cplxOf .f64 (g0.getD 10 .any)) fun g11 => Option.bind (V.intOf .i64 (g0.getD 11 .any)) fun g12 => Option.bind (V.lstOf (g0.getD 12 .any)) fun g13 => some { α := Bool × Int × ByteArray × ByteArray × Int × Int × Int × ByteArray × (List T) × (List T) × (List T) × (Nat × Nat) × Int × (List T), m := m u1 u2 u3 u4 u5 u6 u7 u8 u9 u10 u11 u12 u13 g1 g2 g3 g4 g5 g6 g7 g8 g9 g10 g11 g12 g13, dflt := (false, 0, default, default, 0, 0, 0, default, [], [], [], (0, 0), 0, []), enc := fun y => ((V.t (T.sc (.bool y.1))), [some [(V.t (T.sc (.int .i64 y.2.1))), (V.t (T.sc (.string y.2.2.1))), (V.t (T.sc (.string y.2.2.2.1))), (V.t (T.sc (.int .i64 y.2.2.2.2.1))), (V.t (T.sc (.int .i64 y.2.2.2.2.2.1))), (V.t (T.sc (.int .i64 y.2.2.2.2.2.2.1))), (V.t (T.sc (.string y.2.2.2.2.2.2.2.1))), (V.t (T.list y.2.2.2.2.2.2.2.2.1)), (V.t (T.list y.2.2.2.2.2.2.2.2.2.1)), (V.t (T.list y.2.2.2.2.2.2.2.2.2.2.1)), (V.t (T.sc (.complex .f64 y.2.2.2.2.2.2.2.2.2.2.2.1.1 y.2.2.2.2.2.2.2.2.2.2.2.1.2))), (V.t (T.sc (.int .i64 y.2.2.2.2.2.2.2.2.2.2.2.2.1))), (V.t (T.list y.2.2.2.2.2.2.2.2.2.2.2.2.2))]]) } else none
theorem c_jumps_twice_1_ok (m : Int → ByteArray → ByteArray → Int → Int → Int → ByteArray → List T → List T → List T → Nat × Nat → Int → List T → Int → ByteArray → ByteArray → Int → Int → Int → ByteArray → List T → List T → List T → Nat × Nat → Int → List T → Option (Bool × Int × ByteArray × ByteArray × Int × Int × Int × ByteArray × (List T) × (List T) × (List T) × (Nat × Nat) × Int × (List T))) (hm : ok_jumps_twice_1 m) (vs : List V) (sg : Sig) (cm : CallM) (x : cm.α) (h : c_jumps_twice_1 m vs sg = some cm) (hx : cm.m = some x) : FuncOk Try.prog 33 vs sg (cm.enc x).1 (cm.enc x).2 := by
  unfold c_jumps_twice_1 at h
  have h0 := callee_sig h
  clear h
  obtain ⟨hl, hs, h⟩ := h0
  obtain ⟨u0, hu0, h⟩ := Option.bind_eq_some_iff.1 h
  obtain ⟨u1, hu1, h⟩ := Option.bind_eq_some_iff.1 h
  obtain ⟨u2, hu2, h⟩ := Option.bind_eq_some_iff.1 h
  obtain ⟨u3, hu3, h⟩ := Option.bind_eq_some_iff.1 h
  obtain ⟨u4, hu4, h⟩ := Option.bind_eq_some_iff.1 h
  obtain ⟨u5, hu5, h⟩ := Option.bind_eq_some_iff.1 h
  obtain ⟨u6, hu6, h⟩ := Option.bind_eq_some_iff.1 h
  obtain ⟨u7, hu7, h⟩ := Option.bind_eq_some_iff.1 h
  obtain ⟨u8, hu8, h⟩ := Option.bind_eq_some_iff.1 h
  obtain ⟨u9, hu9, h⟩ := Option.bind_eq_some_iff.1 h
  obtain ⟨u10, hu10, h⟩ := Option.bind_eq_some_iff.1 h
  obtain ⟨u11, hu11, h⟩ := Option.bind_eq_some_iff.1 h
  obtain ⟨u12, hu12, h⟩ := Option.bind_eq_some_iff.1 h
  obtain ⟨u13, hu13, h⟩ := Option.bind_eq_some_iff.1 h
  obtain ⟨u14, hu14, h⟩ := Option.bind_eq_some_iff.1 h
  obtain ⟨g0, hg0, h⟩ := Option.bind_eq_some_iff.1 h
  obtain ⟨g1, hg1, h⟩ := Option.bind_eq_some_iff.1 h
  obtain ⟨g2, hg2, h⟩ := Option.bind_eq_some_iff.1 h
  obtain ⟨g3, hg3, h⟩ := Option.bind_eq_some_iff.1 h
  obtain ⟨g4, hg4, h⟩ := Option.bind_eq_some_iff.1 h
  obtain ⟨g5, hg5, h⟩ := Option.bind_eq_some_iff.1 h
  obtain ⟨g6, hg6, h⟩ := Option.bind_eq_some_iff.1 h
  obtain ⟨g7, hg7, h⟩ := Option.bind_eq_some_iff.1 h
  obtain ⟨g8, hg8, h⟩ := Option.bind_eq_some_iff.1 h
  obtain ⟨g9, hg9, h⟩ := Option.bind_eq_some_iff.1 h
  obtain ⟨g10, hg10, h⟩ := Option.bind_eq_some_iff.1 h
  obtain ⟨g11, hg11, h⟩ := Option.bind_eq_some_iff.1 h
  obtain ⟨g12, hg12, h⟩ := Option.bind_eq_some_iff.1 h
  obtain ⟨g13, hg13, h⟩ := Option.bind_eq_some_iff.1 h
  simp only [Option.some.injEq] at h
  subst h
  exact (hm u1 u2 u3 u4 u5 u6 u7 u8 u9 u10 u11 u12 u13 g1 g2 g3 g4 g5 g6 g7 g8 g9 g10 g11 g12 g13 x hx).wk (args_wk hl (.cons (aggN_wk hu0 (.cons (intOf_wk hu1) (.cons (strOf_wk hu2) (.cons (strOf_wk hu3) (.cons (intOf_wk hu4) (.cons (intOf_wk hu5) (.cons (intOf_wk hu6) (.cons (strOf_wk hu7) (.cons (lstOf_wk hu8) (.cons (lstOf_wk hu9) (.cons (lstOf_wk hu10) (.cons (cplxOf_wk hu11) (.cons (intOf_wk hu12) (.cons (lstOf_wk hu13) .nil)))))))))))))) (.cons (ptrOf_wk hu14) .nil))) (wkSg_of hs (.cons (cellsN_wk hg0 (.cons (intOf_wk hg1) (.cons (strOf_wk hg2) (.cons (strOf_wk hg3) (.cons (intOf_wk hg4) (.cons (intOf_wk hg5) (.cons (intOf_wk hg6) (.cons (strOf_wk hg7) (.cons (lstOf_wk hg8) (.cons (lstOf_wk hg9) (.cons (lstOf_wk hg10) (.cons (cplxOf_wk hg11) (.cons (intOf_wk hg12) (.cons (lstOf_wk hg13) .nil)))))))))))))) .nil))
noncomputable def code_jumps_twice_1 : Code := Try.f33.body.getD .skip
noncomputable def sp_jumps_twice_1 (n : Nat) : Go.Eng.Spec := ⟨fun f vs sg => (match f with
    | _ => none), fun R key E sg K => (match key with
    | _ => none)⟩
theorem sp_jumps_twice_1_ok (n : Nat) : CallsOk Try.prog (sp_jumps_twice_1 n) := by
  intro f vs sg cm x h hx
  have h : (none : Option CallM) = some cm := h
  cases h
theorem code_jumps_twice_1_fn : Try.prog.funcs[33]? = some Try.f33 := Try.func33
theorem code_jumps_twice_1_body : Try.f33.body = some code_jumps_twice_1 := by kernel_rfl
theorem code_jumps_twice_1_ok : CodeOk Try.prog code_jumps_twice_1 := (sound 33 _ _ code_jumps_twice_1_fn code_jumps_twice_1_body).1
def K_jumps_twice_1 (v : V) (s : Sig) : Option (Bool × Int × ByteArray × ByteArray × Int × Int × Int × ByteArray × (List T) × (List T) × (List T) × (Nat × Nat) × Int × (List T)) := Option.bind (V.boolOf v) fun u0 => Option.bind (cellsN 13 s 0) fun g0 => Option.bind (V.intOf .i64 (g0.getD 0 .any)) fun g1 => Option.bind (V.strOf (g0.getD 1 .any)) fun g2 => Option.bind (V.strOf (g0.getD 2 .any)) fun g3 => Option.bind (V.intOf .i64 (g0.getD 3 .any)) fun g4 => Option.bind (V.intOf .i64 (g0.getD 4 .any)) fun g5 => Option.bind (V.intOf .i64 (g0.getD 5 .any)) fun g6 => Option.bind (V.strOf (g0.getD 6 .any)) fun g7 => Option.bind (V.lstOf (g0.getD 7 .any)) fun g8 => Option.bind (V.lstOf (g0.getD 8 .any)) fun g9 => Option.bind (V.lstOf (g0.getD 9 .any)) fun g10 => Option.bind (V.cplxOf .f64 (g0.getD 10 .any)) fun g11 => Option.bind (V.intOf .i64 (g0.getD 11 .any)) fun g12 => Option.bind (V.lstOf (g0.getD 12 .any)) fun g13 => some (u0, g1, g2, g3, g4, g5, g6, g7, g8, g9, g10, g11, g12, g13)
theorem K_jumps_twice_1_wk {v : V} {s : Sig} {r : Bool × Int × ByteArray × ByteArray × Int × Int × Int × ByteArray × (List T) × (List T) × (List T) × (Nat × Nat) × Int × (List T)} (h : K_jumps_twice_1 v s = some r) : Wk v (enc_jumps_twice_1 r) ∧ WkS 1 s (encS_jumps_twice_1 r) := by
  unfold K_jumps_twice_1 at h
  obtain ⟨u0, hu0, h⟩ := Option.bind_eq_some_iff.1 h
  obtain ⟨g0, hg0, h⟩ := Option.bind_eq_some_iff.1 h
  obtain ⟨g1, hg1, h⟩ := Option.bind_eq_some_iff.1 h
  obtain ⟨g2, hg2, h⟩ := Option.bind_eq_some_iff.1 h
  obtain ⟨g3, hg3, h⟩ := Option.bind_eq_some_iff.1 h
  obtain ⟨g4, hg4, h⟩ := Option.bind_eq_some_iff.1 h
  obtain ⟨g5, hg5, h⟩ := Option.bind_eq_some_iff.1 h
  obtain ⟨g6, hg6, h⟩ := Option.bind_eq_some_iff.1 h
  obtain ⟨g7, hg7, h⟩ := Option.bind_eq_some_iff.1 h
  obtain ⟨g8, hg8, h⟩ := Option.bind_eq_some_iff.1 h
  obtain ⟨g9, hg9, h⟩ := Option.bind_eq_some_iff.1 h
  obtain ⟨g10, hg10, h⟩ := Option.bind_eq_some_iff.1 h
  obtain ⟨g11, hg11, h⟩ := Option.bind_eq_some_iff.1 h
  obtain ⟨g12, hg12, h⟩ := Option.bind_eq_some_iff.1 h
  obtain ⟨g13, hg13, h⟩ := Option.bind_eq_some_iff.1 h
  simp only [Option.some.injEq] at h
  subst h
  exact ⟨(boolOf_wk hu0), (wkR_sig (WkR.cons (cellsN_wk hg0 (.cons (intOf_wk hg1) (.cons (strOf_wk hg2) (.cons (strOf_wk hg3) (.cons (intOf_wk hg4) (.cons (intOf_wk hg5) (.cons (intOf_wk hg6) (.cons (strOf_wk hg7) (.cons (lstOf_wk hg8) (.cons (lstOf_wk hg9) (.cons (lstOf_wk hg10) (.cons (cplxOf_wk hg11) (.cons (intOf_wk hg12) (.cons (lstOf_wk hg13) .nil)))))))))))))).1 (cellsN_wk hg0 (.cons (intOf_wk hg1) (.cons (strOf_wk hg2) (.cons (strOf_wk hg3) (.cons (intOf_wk hg4) (.cons (intOf_wk hg5) (.cons (intOf_wk hg6) (.cons (strOf_wk hg7) (.cons (lstOf_wk hg8) (.cons (lstOf_wk hg9) (.cons (lstOf_wk hg10) (.cons (cplxOf_wk hg11) (.cons (intOf_wk hg12) (.cons (lstOf_wk hg13) .nil)))))))))))))).2 (renL_mem (.cons rfl (.cons rfl (.cons rfl (.cons rfl (.cons rfl (.cons rfl (.cons rfl (.cons rfl (.cons rfl (.cons rfl (.cons rfl (.cons rfl (.cons rfl .nil)))))))))))))) (WkR.nil _)) rfl)⟩
theorem m_jumps_twice_1_eq (n : Nat) (a0 : Int) (a1 : ByteArray) (a2 : ByteArray) (a3 : Int) (a4 : Int) (a5 : Int) (a6 : ByteArray) (a7 : List T) (a8 : List T) (a9 : List T) (a10 : Nat × Nat) (a11 : Int) (a12 : List T) (a13 : Int) (a14 : ByteArray) (a15 : ByteArray) (a16 : Int) (a17 : Int) (a18 : Int) (a19 : ByteArray) (a20 : List T) (a21 : List T) (a22 : List T) (a23 : Nat × Nat) (a24 : Int) (a25 : List T) : mF Try.prog (sp_jumps_twice_1 n) 33 [(V.agg [(V.t (T.sc (.int .i64 a0))), (V.t (T.sc (.string a1))), (V.t (T.sc (.string a2))), (V.t (T.sc (.int .i64 a3))), (V.t (T.sc (.int .i64 a4))), (V.t (T.sc (.int .i64 a5))), (V.t (T.sc (.string a6))), (V.t (T.list a7)), (V.t (T.list a8)), (V.t (T.list a9)), (V.t (T.sc (.complex .f64 a10.1 a10.2))), (V.t (T.sc (.int .i64 a11))), (V.t (T.list a12))]), (V.ptr 0 0)] [some [(V.t (T.sc (.int .i64 a13))), (V.t (T.sc (.string a14))), (V.t (T.sc (.string a15))), (V.t (T.sc (.int .i64 a16))), (V.t (T.sc (.int .i64 a17))), (V.t (T.sc (.int .i64 a18))), (V.t (T.sc (.string a19))), (V.t (T.list a20)), (V.t (T.list a21)), (V.t (T.list a22)), (V.t (T.sc (.complex .f64 a23.1 a23.2))), (V.t (T.sc (.int .i64 a24))), (V.t (T.list a25))]] K_jumps_twice_1 = m_jumps_twice_1 n a0 a1 a2 a3 a4 a5 a6 a7 a8 a9 a10 a11 a12 a13 a14 a15 a16 a17 a18 a19 a20 a21 a22 a23 a24 a25 := by kernel_rfl
theorem m_jumps_twice_1_ok (n : Nat) : ok_jumps_twice_1 (m_jumps_twice_1 n) := fun a0 a1 a2 a3 a4 a5 a6 a7 a8 a9 a10 a11 a12 a13 a14 a15 a16 a17 a18 a19 a20 a21 a22 a23 a24 a25 r h => mF_ok sound (sp_jumps_twice_1_ok n) code_jumps_twice_1_fn code_jumps_twice_1_body (fun a ha => absurd ha (by rw [show loopsOf code_jumps_twice_1 = [] from by kernel_rfl]; simp)) (no_scope (by kernel_rfl)) ((m_jumps_twice_1_eq n a0 a1 a2 a3 a4 a5 a6 a7 a8 a9 a10 a11 a12 a13 a14 a15 a16 a17 a18 a19 a20 a21 a22 a23 a24 a25).trans h) (fun v s hk => ⟨(K_jumps_twice_1_wk hk).1, rfl, (K_jumps_twice_1_wk hk).2⟩)


/-! slices.IndexFunc[[]suture/jumps.placed,suture/jumps.placed] -/
def l_slices_IndexFunc___jumps_placed_jumps_placed__2_B (n : Nat) (k : (List T) × Int × Int × Int × ByteArray × ByteArray × Int × Int × Int × ByteArray × (List T) × (List T) × (List T) × (Nat × Nat) × Int × (List T) → Option (((Int × Int × ByteArray × ByteArray × Int × Int × Int × ByteArray × (List T) × (List T) × (List T) × (Nat × Nat) × Int × (List T)) ⊕ Int × ByteArray × ByteArray × Int × Int × Int × ByteArray × (List T) × (List T) × (List T) × (Nat × Nat) × Int × (List T)))) : (List T) × Int × Int × Int × ByteArray × ByteArray × Int × Int × Int × ByteArray × (List T) × (List T) × (List T) × (Nat × Nat) × Int × (List T) → Option (((Int × Int × ByteArray × ByteArray × Int × Int × Int × ByteArray × (List T) × (List T) × (List T) × (Nat × Nat) × Int × (List T)) ⊕ Int × ByteArray × ByteArray × Int × Int × Int × ByteArray × (List T) × (List T) × (List T) × (Nat × Nat) × Int × (List T))) := fun (s0, s1, s2, s3, s4, s5, s6, s7, s8, s9, s10, s11, s12, s13, s14, s15) =>
bif (decide ((s2 : Int) < s1)) then (
Option.bind (idx true [.int .i64, .str, .str, .int .i64, .int .i64, .int .i64, .str, .list, .list, .list, .cplx .f64, .int .i64, .list] s0 s2) fun y0 =>
Option.bind (m_jumps_twice_1 n (y0.cell 0).int (y0.cell 1).str (y0.cell 2).str (y0.cell 3).int (y0.cell 4).int (y0.cell 5).int (y0.cell 6).str (y0.cell 7).lst (y0.cell 8).lst (y0.cell 9).lst ((y0.cell 10).re, (y0.cell 10).im) (y0.cell 11).int (y0.cell 12).lst s3 s4 s5 s6 s7 s8 s9 s10 s11 s12 s13 s14 s15) fun r1 =>
bif r1.1 then (
some (Sum.inl (s2, r1.2.1, r1.2.2.1, r1.2.2.2.1, r1.2.2.2.2.1, r1.2.2.2.2.2.1, r1.2.2.2.2.2.2.1, r1.2.2.2.2.2.2.2.1, r1.2.2.2.2.2.2.2.2.1, r1.2.2.2.2.2.2.2.2.2.1, r1.2.2.2.2.2.2.2.2.2.2.1, r1.2.2.2.2.2.2.2.2.2.2.2.1, r1.2.2.2.2.2.2.2.2.2.2.2.2.1, r1.2.2.2.2.2.2.2.2.2.2.2.2.2)))
else (
k (s0, s1, (IntKind.wrap .i64 (s2 + 1)), r1.2.1, r1.2.2.1, r1.2.2.2.1, r1.2.2.2.2.1, r1.2.2.2.2.2.1, r1.2.2.2.2.2.2.1, r1.2.2.2.2.2.2.2.1, r1.2.2.2.2.2.2.2.2.1, r1.2.2.2.2.2.2.2.2.2.1, r1.2.2.2.2.2.2.2.2.2.2.1, r1.2.2.2.2.2.2.2.2.2.2.2.1, r1.2.2.2.2.2.2.2.2.2.2.2.2.1, r1.2.2.2.2.2.2.2.2.2.2.2.2.2)))
else (
some (Sum.inr (s3, s4, s5, s6, s7, s8, s9, s10, s11, s12, s13, s14, s15)))
def l_slices_IndexFunc___jumps_placed_jumps_placed__2 (n : Nat) : Nat → (List T) × Int × Int × Int × ByteArray × ByteArray × Int × Int × Int × ByteArray × (List T) × (List T) × (List T) × (Nat × Nat) × Int × (List T) → Option (((Int × Int × ByteArray × ByteArray × Int × Int × Int × ByteArray × (List T) × (List T) × (List T) × (Nat × Nat) × Int × (List T)) ⊕ Int × ByteArray × ByteArray × Int × Int × Int × ByteArray × (List T) × (List T) × (List T) × (Nat × Nat) × Int × (List T)))
  | 0, _ => none
  | m + 1, s => l_slices_IndexFunc___jumps_placed_jumps_placed__2_B n (l_slices_IndexFunc___jumps_placed_jumps_placed__2 n m) s
def m_slices_IndexFunc___jumps_placed_jumps_placed_ (n : Nat) (a0 : List T) (a1 : Int) (a2 : ByteArray) (a3 : ByteArray) (a4 : Int) (a5 : Int) (a6 : Int) (a7 : ByteArray) (a8 : List T) (a9 : List T) (a10 : List T) (a11 : Nat × Nat) (a12 : Int) (a13 : List T) : Option (Int × Int × ByteArray × ByteArray × Int × Int × Int × ByteArray × (List T) × (List T) × (List T) × (Nat × Nat) × Int × (List T)) :=
Option.bind (l_slices_IndexFunc___jumps_placed_jumps_placed__2 n n (a0, ((List.length a0 : Nat) : Int), 0, a1, a2, a3, a4, a5, a6, a7, a8, a9, a10, a11, a12, a13)) fun x2 =>
Sum.elim (fun p3 => 
some (p3.1, p3.2.1, p3.2.2.1, p3.2.2.2.1, p3.2.2.2.2.1, p3.2.2.2.2.2.1, p3.2.2.2.2.2.2.1, p3.2.2.2.2.2.2.2.1, p3.2.2.2.2.2.2.2.2.1, p3.2.2.2.2.2.2.2.2.2.1, p3.2.2.2.2.2.2.2.2.2.2.1, p3.2.2.2.2.2.2.2.2.2.2.2.1, p3.2.2.2.2.2.2.2.2.2.2.2.2.1, p3.2.2.2.2.2.2.2.2.2.2.2.2.2)) (fun x2' => (fun p4 => 
some ((-1), p4.1, p4.2.1, p4.2.2.1, p4.2.2.2.1, p4.2.2.2.2.1, p4.2.2.2.2.2.1, p4.2.2.2.2.2.2.1, p4.2.2.2.2.2.2.2.1, p4.2.2.2.2.2.2.2.2.1, p4.2.2.2.2.2.2.2.2.2.1, p4.2.2.2.2.2.2.2.2.2.2.1, p4.2.2.2.2.2.2.2.2.2.2.2.1, p4.2.2.2.2.2.2.2.2.2.2.2.2)) x2') x2
def enc_slices_IndexFunc___jumps_placed_jumps_placed_ (r : Int × Int × ByteArray × ByteArray × Int × Int × Int × ByteArray × (List T) × (List T) × (List T) × (Nat × Nat) × Int × (List T)) : V := (V.t (T.sc (.int .i64 r.1)))
def encS_slices_IndexFunc___jumps_placed_jumps_placed_ (r : Int × Int × ByteArray × ByteArray × Int × Int × Int × ByteArray × (List T) × (List T) × (List T) × (Nat × Nat) × Int × (List T)) : Sig := [some [(V.t (T.sc (.int .i64 r.2.1))), (V.t (T.sc (.string r.2.2.1))), (V.t (T.sc (.string r.2.2.2.1))), (V.t (T.sc (.int .i64 r.2.2.2.2.1))), (V.t (T.sc (.int .i64 r.2.2.2.2.2.1))), (V.t (T.sc (.int .i64 r.2.2.2.2.2.2.1))), (V.t (T.sc (.string r.2.2.2.2.2.2.2.1))), (V.t (T.list r.2.2.2.2.2.2.2.2.1)), (V.t (T.list r.2.2.2.2.2.2.2.2.2.1)), (V.t (T.list r.2.2.2.2.2.2.2.2.2.2.1)), (V.t (T.sc (.complex .f64 r.2.2.2.2.2.2.2.2.2.2.2.1.1 r.2.2.2.2.2.2.2.2.2.2.2.1.2))), (V.t (T.sc (.int .i64 r.2.2.2.2.2.2.2.2.2.2.2.2.1))), (V.t (T.list r.2.2.2.2.2.2.2.2.2.2.2.2.2))]]
def ok_slices_IndexFunc___jumps_placed_jumps_placed_ (m : List T → Int → ByteArray → ByteArray → Int → Int → Int → ByteArray → List T → List T → List T → Nat × Nat → Int → List T → Option (Int × Int × ByteArray × ByteArray × Int × Int × Int × ByteArray × (List T) × (List T) × (List T) × (Nat × Nat) × Int × (List T))) : Prop := ∀ (a0 : List T) (a1 : Int) (a2 : ByteArray) (a3 : ByteArray) (a4 : Int) (a5 : Int) (a6 : Int) (a7 : ByteArray) (a8 : List T) (a9 : List T) (a10 : List T) (a11 : Nat × Nat) (a12 : Int) (a13 : List T) (r : Int × Int × ByteArray × ByteArray × Int × Int × Int × ByteArray × (List T) × (List T) × (List T) × (Nat × Nat) × Int × (List T)), m a0 a1 a2 a3 a4 a5 a6 a7 a8 a9 a10 a11 a12 a13 = some r → FuncOk Try.prog 48 [(V.t (T.list a0)), (V.fn 33 [(V.ptr 0 0)])] [some [(V.t (T.sc (.int .i64 a1))), (V.t (T.sc (.string a2))), (V.t (T.sc (.string a3))), (V.t (T.sc (.int .i64 a4))), (V.t (T.sc (.int .i64 a5))), (V.t (T.sc (.int .i64 a6))), (V.t (T.sc (.string a7))), (V.t (T.list a8)), (V.t (T.list a9)), (V.t (T.list a10)), (V.t (T.sc (.complex .f64 a11.1 a11.2))), (V.t (T.sc (.int .i64 a12))), (V.t (T.list a13))]] (enc_slices_IndexFunc___jumps_placed_jumps_placed_ r) (encS_slices_IndexFunc___jumps_placed_jumps_placed_ r)
def c_slices_IndexFunc___jumps_placed_jumps_placed_ (m : List T → Int → ByteArray → ByteArray → Int → Int → Int → ByteArray → List T → List T → List T → Nat × Nat → Int → List T → Option (Int × Int × ByteArray × ByteArray × Int × Int × Int × ByteArray × (List T) × (List T) × (List T) × (Nat × Nat) × Int × (List T))) (vs : List V) (sg : Sig) : Option CallM := bif Nat.beq vs.length 2 && Nat.beq sg.length 1 then Option.bind (V.lstOf (vs.getD 0 .any)) fun u0 => Option.bind (V.fnN 33 1 (vs.getD 1 .any)) fun u1 => Option.bind (V.ptrOf 0 0 (u1.getD 0 .any)) fun u2 => Option.bind (cellsN 13 sg 0) fun g0 => Option.bind (V.intOf .i64 (g0.getD 0 .any)) fun g1 => Option.bind (V.strOf (g0.getD 1 .any)) fun g2 => Option.bind (V.strOf (g0.getD 2 .any)) fun g3 => Option.bind (V.intOf .i64 (g0.getD 3 .any)) fun g4 => Option.bind (V.intOf .i64 (g0.getD 4 .any)) fun g5 => Option.bind (V.intOf .i64 (g0.getD 5 .any)) fun g6 => Option.bind (V.strOf (g0.getD 6 .any)) fun g7 => Option.bind (V.lstOf (g0.getD 7 .any)) fun g8 => Option.bind (V.lstOf (g0.getD 8 .any)) fun g9 => Option.bind (V.lstOf (g0.getD 9 .any)) fun g10 => Option.bind (V.cplxOf .f64 (g0.getD 10 .any)) fun g11 => Option.bind (V.intOf .i64 (g0.getD 11 .any)) fun g12 => Option.bind (V.lstOf (g0.getD 12 .any)) fun g13 => some { α := Int × Int × ByteArray × ByteArray × Int × Int × Int × ByteArray × (List T) × (List T) × (List T) × (Nat × Nat) × Int × (List T), m := m u0 g1 g2 g3 g4 g5 g6 g7 g8 g9 g10 g11 g12 g13, dflt := (0, 0, default, default, 0, 0, 0, default, [], [], [], (0, 0), 0, []), enc := fun y => ((V.t (T.sc (.int .i64 y.1))), [some [(V.t (T.sc (.int .i64 y.2.1))), (V.t (T.sc (.string y.2.2.1))), (V.t (T.sc (.string y.2.2.2.1))), (V.t (T.sc (.int .i64 y.2.2.2.2.1))), (V.t (T.sc (.int .i64 y.2.2.2.2.2.1))), (V.t (T.sc (.int .i64 y.2.2.2.2.2.2.1))), (V.t (T.sc (.string y.2.2.2.2.2.2.2.1))), (V.t (T.list y.2.2.2.2.2.2.2.2.1)), (V.t (T.list y.2.2.2.2.2.2.2.2.2.1)), (V.t (T.list y.2.2.2.2.2.2.2.2.2.2.1)), (V.t (T.sc (.complex .f64 y.2.2.2.2.2.2.2.2.2.2.2.1.1 y.2.2.2.2.2.2.2.2.2.2.2.1.2))), (V.t (T.sc (.int .i64 y.2.2.2.2.2.2.2.2.2.2.2.2.1))), (V.t (T.list y.2.2.2.2.2.2.2.2.2.2.2.2.2))]]) } else none
theorem c_slices_IndexFunc___jumps_placed_jumps_placed__ok (m : List T → Int → ByteArray → ByteArray → Int → Int → Int → ByteArray → List T → List T → List T → Nat × Nat → Int → List T → Option (Int × Int × ByteArray × ByteArray × Int × Int × Int × ByteArray × (List T) × (List T) × (List T) × (Nat × Nat) × Int × (List T))) (hm : ok_slices_IndexFunc___jumps_placed_jumps_placed_ m) (vs : List V) (sg : Sig) (cm : CallM) (x : cm.α) (h : c_slices_IndexFunc___jumps_placed_jumps_placed_ m vs sg = some cm) (hx : cm.m = some x) : FuncOk Try.prog 48 vs sg (cm.enc x).1 (cm.enc x).2 := by
  unfold c_slices_IndexFunc___jumps_placed_jumps_placed_ at h
  have h0 := callee_sig h
  clear h
  obtain ⟨hl, hs, h⟩ := h0
  obtain ⟨u0, hu0, h⟩ := Option.bind_eq_some_iff.1 h
  obtain ⟨u1, hu1, h⟩ := Option.bind_eq_some_iff.1 h
  obtain ⟨u2, hu2, h⟩ := Option.bind_eq_some_iff.1 h
  obtain ⟨g0, hg0, h⟩ := Option.bind_eq_some_iff.1 h
  obtain ⟨g1, hg1, h⟩ := Option.bind_eq_some_iff.1 h
  obtain ⟨g2, hg2, h⟩ := Option.bind_eq_some_iff.1 h
  obtain ⟨g3, hg3, h⟩ := Option.bind_eq_some_iff.1 h
  obtain ⟨g4, hg4, h⟩ := Option.bind_eq_some_iff.1 h
  obtain ⟨g5, hg5, h⟩ := Option.bind_eq_some_iff.1 h
  obtain ⟨g6, hg6, h⟩ := Option.bind_eq_some_iff.1 h
  obtain ⟨g7, hg7, h⟩ := Option.bind_eq_some_iff.1 h
  obtain ⟨g8, hg8, h⟩ := Option.bind_eq_some_iff.1 h
  obtain ⟨g9, hg9, h⟩ := Option.bind_eq_some_iff.1 h
  obtain ⟨g10, hg10, h⟩ := Option.bind_eq_some_iff.1 h
  obtain ⟨g11, hg11, h⟩ := Option.bind_eq_some_iff.1 h
  obtain ⟨g12, hg12, h⟩ := Option.bind_eq_some_iff.1 h
  obtain ⟨g13, hg13, h⟩ := Option.bind_eq_some_iff.1 h
  simp only [Option.some.injEq] at h
  subst h
  exact (hm u0 g1 g2 g3 g4 g5 g6 g7 g8 g9 g10 g11 g12 g13 x hx).wk (args_wk hl (.cons (lstOf_wk hu0) (.cons (fnN_wk hu1 (.cons (ptrOf_wk hu2) .nil)) .nil))) (wkSg_of hs (.cons (cellsN_wk hg0 (.cons (intOf_wk hg1) (.cons (strOf_wk hg2) (.cons (strOf_wk hg3) (.cons (intOf_wk hg4) (.cons (intOf_wk hg5) (.cons (intOf_wk hg6) (.cons (strOf_wk hg7) (.cons (lstOf_wk hg8) (.cons (lstOf_wk hg9) (.cons (lstOf_wk hg10) (.cons (cplxOf_wk hg11) (.cons (intOf_wk hg12) (.cons (lstOf_wk hg13) .nil)))))))))))))) .nil))
noncomputable def code_slices_IndexFunc___jumps_placed_jumps_placed_ : Code := Try.f48.body.getD .skip
def l_slices_IndexFunc___jumps_placed_jumps_placed__2_S (n : Nat) (R : Type) (E : SEnv) (sg : Sig) (K : Ex → SEnv → Sig → Option R) : Option R := Option.bind (V.lstOf (SEnv.at E 0)) fun u0 => Option.bind (V.fnN 33 1 (SEnv.at E 1)) fun u1 => Option.bind (V.ptrOf 0 0 (u1.getD 0 .any)) fun u2 => Option.bind (V.intOf .i64 (SEnv.at E 7)) fun u3 => Option.bind (V.intOf .i64 (SEnv.at E 8)) fun u4 => Option.bind (cellsN 13 sg 0) fun u5 => Option.bind (V.intOf .i64 (u5.getD 0 .any)) fun u6 => Option.bind (V.strOf (u5.getD 1 .any)) fun u7 => Option.bind (V.strOf (u5.getD 2 .any)) fun u8 => Option.bind (V.intOf .i64 (u5.getD 3 .any)) fun u9 => Option.bind (V.intOf .i64 (u5.getD 4 .any)) fun u10 => Option.bind (V.intOf .i64 (u5.getD 5 .any)) fun u11 => Option.bind (V.strOf (u5.getD 6 .any)) fun u12 => Option.bind (V.lstOf (u5.getD 7 .any)) fun u13 => Option.bind (V.lstOf (u5.getD 8 .any)) fun u14 => Option.bind (V.lstOf (u5.getD 9 .any)) fun u15 => Option.bind (V.cplxOf .f64 (u5.getD 10 .any)) fun u16 => Option.bind (V.intOf .i64 (u5.getD 11 .any)) fun u17 => Option.bind (V.lstOf (u5.getD 12 .any)) fun u18 => Option.bind (l_slices_IndexFunc___jumps_placed_jumps_placed__2 n n (u0, u3, u4, u6, u7, u8, u9, u10, u11, u12, u13, u14, u15, u16, u17, u18)) fun y => Sum.elim (fun p0 => K .ret [(4, (V.t (T.sc (.int .i64 p0.1))))] [some [(V.t (T.sc (.int .i64 p0.2.1))), (V.t (T.sc (.string p0.2.2.1))), (V.t (T.sc (.string p0.2.2.2.1))), (V.t (T.sc (.int .i64 p0.2.2.2.2.1))), (V.t (T.sc (.int .i64 p0.2.2.2.2.2.1))), (V.t (T.sc (.int .i64 p0.2.2.2.2.2.2.1))), (V.t (T.sc (.string p0.2.2.2.2.2.2.2.1))), (V.t (T.list p0.2.2.2.2.2.2.2.2.1)), (V.t (T.list p0.2.2.2.2.2.2.2.2.2.1)), (V.t (T.list p0.2.2.2.2.2.2.2.2.2.2.1)), (V.t (T.sc (.complex .f64 p0.2.2.2.2.2.2.2.2.2.2.2.1.1 p0.2.2.2.2.2.2.2.2.2.2.2.1.2))), (V.t (T.sc (.int .i64 p0.2.2.2.2.2.2.2.2.2.2.2.2.1))), (V.t (T.list p0.2.2.2.2.2.2.2.2.2.2.2.2.2))]]) (fun y' => (fun p1 => K (.exit 0) [] [some [(V.t (T.sc (.int .i64 p1.1))), (V.t (T.sc (.string p1.2.1))), (V.t (T.sc (.string p1.2.2.1))), (V.t (T.sc (.int .i64 p1.2.2.2.1))), (V.t (T.sc (.int .i64 p1.2.2.2.2.1))), (V.t (T.sc (.int .i64 p1.2.2.2.2.2.1))), (V.t (T.sc (.string p1.2.2.2.2.2.2.1))), (V.t (T.list p1.2.2.2.2.2.2.2.1)), (V.t (T.list p1.2.2.2.2.2.2.2.2.1)), (V.t (T.list p1.2.2.2.2.2.2.2.2.2.1)), (V.t (T.sc (.complex .f64 p1.2.2.2.2.2.2.2.2.2.2.1.1 p1.2.2.2.2.2.2.2.2.2.2.1.2))), (V.t (T.sc (.int .i64 p1.2.2.2.2.2.2.2.2.2.2.2.1))), (V.t (T.list p1.2.2.2.2.2.2.2.2.2.2.2.2))]]) y') y
noncomputable def sp_slices_IndexFunc___jumps_placed_jumps_placed_ (n : Nat) : Go.Eng.Spec := ⟨fun f vs sg => (match f with
    | 33 => c_jumps_twice_1 (m_jumps_twice_1 n) vs sg
    | _ => none), fun R key E sg K => (match key with
    | 2 => l_slices_IndexFunc___jumps_placed_jumps_placed__2_S n R E sg K
    | _ => none)⟩
theorem sp_slices_IndexFunc___jumps_placed_jumps_placed__ok (n : Nat) : CallsOk Try.prog (sp_slices_IndexFunc___jumps_placed_jumps_placed_ n) := by
  intro f vs sg cm x h hx
  simp only [sp_slices_IndexFunc___jumps_placed_jumps_placed_] at h
  split at h
  · exact c_jumps_twice_1_ok _ (m_jumps_twice_1_ok n) vs sg cm x h hx
  · cases h
theorem code_slices_IndexFunc___jumps_placed_jumps_placed__fn : Try.prog.funcs[48]? = some Try.f48 := Try.func48
theorem code_slices_IndexFunc___jumps_placed_jumps_placed__body : Try.f48.body = some code_slices_IndexFunc___jumps_placed_jumps_placed_ := by kernel_rfl
theorem code_slices_IndexFunc___jumps_placed_jumps_placed__ok : CodeOk Try.prog code_slices_IndexFunc___jumps_placed_jumps_placed_ := (sound 48 _ _ code_slices_IndexFunc___jumps_placed_jumps_placed__fn code_slices_IndexFunc___jumps_placed_jumps_placed__body).1
noncomputable def code_l_slices_IndexFunc___jumps_placed_jumps_placed__2 : Code := (loopsOf code_slices_IndexFunc___jumps_placed_jumps_placed_).getD 0 .skip
theorem code_l_slices_IndexFunc___jumps_placed_jumps_placed__2_ok : CodeOk Try.prog code_l_slices_IndexFunc___jumps_placed_jumps_placed__2 := codeOk_loops code_slices_IndexFunc___jumps_placed_jumps_placed__ok _ (getD_mem (by kernel_rfl))
def l_slices_IndexFunc___jumps_placed_jumps_placed__2_K (k : (List T) × Int × Int × Int × ByteArray × ByteArray × Int × Int × Int × ByteArray × (List T) × (List T) × (List T) × (Nat × Nat) × Int × (List T) → Option (((Int × Int × ByteArray × ByteArray × Int × Int × Int × ByteArray × (List T) × (List T) × (List T) × (Nat × Nat) × Int × (List T)) ⊕ Int × ByteArray × ByteArray × Int × Int × Int × ByteArray × (List T) × (List T) × (List T) × (Nat × Nat) × Int × (List T)))) : Ex → SEnv → Sig → Option (((Int × Int × ByteArray × ByteArray × Int × Int × Int × ByteArray × (List T) × (List T) × (List T) × (Nat × Nat) × Int × (List T)) ⊕ Int × ByteArray × ByteArray × Int × Int × Int × ByteArray × (List T) × (List T) × (List T) × (Nat × Nat) × Int × (List T))) := fun x E sg => match x with
  | .normal => Option.bind (V.lstOf (SEnv.at E 0)) fun u0 => Option.bind (V.fnN 33 1 (SEnv.at E 1)) fun u1 => Option.bind (V.ptrOf 0 0 (u1.getD 0 .any)) fun u2 => Option.bind (V.intOf .i64 (SEnv.at E 7)) fun u3 => Option.bind (V.intOf .i64 (SEnv.at E 8)) fun u4 => Option.bind (cellsN 13 sg 0) fun u5 => Option.bind (V.intOf .i64 (u5.getD 0 .any)) fun u6 => Option.bind (V.strOf (u5.getD 1 .any)) fun u7 => Option.bind (V.strOf (u5.getD 2 .any)) fun u8 => Option.bind (V.intOf .i64 (u5.getD 3 .any)) fun u9 => Option.bind (V.intOf .i64 (u5.getD 4 .any)) fun u10 => Option.bind (V.intOf .i64 (u5.getD 5 .any)) fun u11 => Option.bind (V.strOf (u5.getD 6 .any)) fun u12 => Option.bind (V.lstOf (u5.getD 7 .any)) fun u13 => Option.bind (V.lstOf (u5.getD 8 .any)) fun u14 => Option.bind (V.lstOf (u5.getD 9 .any)) fun u15 => Option.bind (V.cplxOf .f64 (u5.getD 10 .any)) fun u16 => Option.bind (V.intOf .i64 (u5.getD 11 .any)) fun u17 => Option.bind (V.lstOf (u5.getD 12 .any)) fun u18 => k (u0, u3, u4, u6, u7, u8, u9, u10, u11, u12, u13, u14, u15, u16, u17, u18)
  | .ret => Option.bind (V.intOf .i64 (SEnv.at E 4)) fun u0 => Option.bind (cellsN 13 sg 0) fun u1 => Option.bind (V.intOf .i64 (u1.getD 0 .any)) fun u2 => Option.bind (V.strOf (u1.getD 1 .any)) fun u3 => Option.bind (V.strOf (u1.getD 2 .any)) fun u4 => Option.bind (V.intOf .i64 (u1.getD 3 .any)) fun u5 => Option.bind (V.intOf .i64 (u1.getD 4 .any)) fun u6 => Option.bind (V.intOf .i64 (u1.getD 5 .any)) fun u7 => Option.bind (V.strOf (u1.getD 6 .any)) fun u8 => Option.bind (V.lstOf (u1.getD 7 .any)) fun u9 => Option.bind (V.lstOf (u1.getD 8 .any)) fun u10 => Option.bind (V.lstOf (u1.getD 9 .any)) fun u11 => Option.bind (V.cplxOf .f64 (u1.getD 10 .any)) fun u12 => Option.bind (V.intOf .i64 (u1.getD 11 .any)) fun u13 => Option.bind (V.lstOf (u1.getD 12 .any)) fun u14 => some (Sum.inl (u0, u2, u3, u4, u5, u6, u7, u8, u9, u10, u11, u12, u13, u14))
  | (.exit 0) => Option.bind (cellsN 13 sg 0) fun u0 => Option.bind (V.intOf .i64 (u0.getD 0 .any)) fun u1 => Option.bind (V.strOf (u0.getD 1 .any)) fun u2 => Option.bind (V.strOf (u0.getD 2 .any)) fun u3 => Option.bind (V.intOf .i64 (u0.getD 3 .any)) fun u4 => Option.bind (V.intOf .i64 (u0.getD 4 .any)) fun u5 => Option.bind (V.intOf .i64 (u0.getD 5 .any)) fun u6 => Option.bind (V.strOf (u0.getD 6 .any)) fun u7 => Option.bind (V.lstOf (u0.getD 7 .any)) fun u8 => Option.bind (V.lstOf (u0.getD 8 .any)) fun u9 => Option.bind (V.lstOf (u0.getD 9 .any)) fun u10 => Option.bind (V.cplxOf .f64 (u0.getD 10 .any)) fun u11 => Option.bind (V.intOf .i64 (u0.getD 11 .any)) fun u12 => Option.bind (V.lstOf (u0.getD 12 .any)) fun u13 => some (Sum.inr (u1, u2, u3, u4, u5, u6, u7, u8, u9, u10, u11, u12, u13))
  | _ => none
theorem l_slices_IndexFunc___jumps_placed_jumps_placed__2_eq (n : Nat) (k : (List T) × Int × Int × Int × ByteArray × ByteArray × Int × Int × Int × ByteArray × (List T) × (List T) × (List T) × (Nat × Nat) × Int × (List T) → Option (((Int × Int × ByteArray × ByteArray × Int × Int × Int × ByteArray × (List T) × (List T) × (List T) × (Nat × Nat) × Int × (List T)) ⊕ Int × ByteArray × ByteArray × Int × Int × Int × ByteArray × (List T) × (List T) × (List T) × (Nat × Nat) × Int × (List T)))) (s0 : List T) (s1 : Int) (s2 : Int) (s3 : Int) (s4 : ByteArray) (s5 : ByteArray) (s6 : Int) (s7 : Int) (s8 : Int) (s9 : ByteArray) (s10 : List T) (s11 : List T) (s12 : List T) (s13 : Nat × Nat) (s14 : Int) (s15 : List T) : mX Try.prog (sp_slices_IndexFunc___jumps_placed_jumps_placed_ n) 19 code_l_slices_IndexFunc___jumps_placed_jumps_placed__2 [(0, (V.t (T.list s0))), (1, (V.fn 33 [(V.ptr 0 0)])), (7, (V.t (T.sc (.int .i64 s1)))), (8, (V.t (T.sc (.int .i64 s2))))] [some [(V.t (T.sc (.int .i64 s3))), (V.t (T.sc (.string s4))), (V.t (T.sc (.string s5))), (V.t (T.sc (.int .i64 s6))), (V.t (T.sc (.int .i64 s7))), (V.t (T.sc (.int .i64 s8))), (V.t (T.sc (.string s9))), (V.t (T.list s10)), (V.t (T.list s11)), (V.t (T.list s12)), (V.t (T.sc (.complex .f64 s13.1 s13.2))), (V.t (T.sc (.int .i64 s14))), (V.t (T.list s15))]] (l_slices_IndexFunc___jumps_placed_jumps_placed__2_K k) = l_slices_IndexFunc___jumps_placed_jumps_placed__2_B n k (s0, s1, s2, s3, s4, s5, s6, s7, s8, s9, s10, s11, s12, s13, s14, s15) := by kernel_rfl
def l_slices_IndexFunc___jumps_placed_jumps_placed__2_Q (x : ((Int × Int × ByteArray × ByteArray × Int × Int × Int × ByteArray × (List T) × (List T) × (List T) × (Nat × Nat) × Int × (List T)) ⊕ Int × ByteArray × ByteArray × Int × Int × Int × ByteArray × (List T) × (List T) × (List T) × (Nat × Nat) × Int × (List T))) (ex : Ex) (e : Env) (s : Sig) : Prop := Sum.elim (fun p0 => (ex = .ret ∧ e = SEnv.env 19 [(4, (V.t (T.sc (.int .i64 p0.1))))] ∧ s = [some [(V.t (T.sc (.int .i64 p0.2.1))), (V.t (T.sc (.string p0.2.2.1))), (V.t (T.sc (.string p0.2.2.2.1))), (V.t (T.sc (.int .i64 p0.2.2.2.2.1))), (V.t (T.sc (.int .i64 p0.2.2.2.2.2.1))), (V.t (T.sc (.int .i64 p0.2.2.2.2.2.2.1))), (V.t (T.sc (.string p0.2.2.2.2.2.2.2.1))), (V.t (T.list p0.2.2.2.2.2.2.2.2.1)), (V.t (T.list p0.2.2.2.2.2.2.2.2.2.1)), (V.t (T.list p0.2.2.2.2.2.2.2.2.2.2.1)), (V.t (T.sc (.complex .f64 p0.2.2.2.2.2.2.2.2.2.2.2.1.1 p0.2.2.2.2.2.2.2.2.2.2.2.1.2))), (V.t (T.sc (.int .i64 p0.2.2.2.2.2.2.2.2.2.2.2.2.1))), (V.t (T.list p0.2.2.2.2.2.2.2.2.2.2.2.2.2))]])) (fun x' => (fun p1 => (ex = (.exit 0) ∧ e = SEnv.env 19 [] ∧ s = [some [(V.t (T.sc (.int .i64 p1.1))), (V.t (T.sc (.string p1.2.1))), (V.t (T.sc (.string p1.2.2.1))), (V.t (T.sc (.int .i64 p1.2.2.2.1))), (V.t (T.sc (.int .i64 p1.2.2.2.2.1))), (V.t (T.sc (.int .i64 p1.2.2.2.2.2.1))), (V.t (T.sc (.string p1.2.2.2.2.2.2.1))), (V.t (T.list p1.2.2.2.2.2.2.2.1)), (V.t (T.list p1.2.2.2.2.2.2.2.2.1)), (V.t (T.list p1.2.2.2.2.2.2.2.2.2.1)), (V.t (T.sc (.complex .f64 p1.2.2.2.2.2.2.2.2.2.2.1.1 p1.2.2.2.2.2.2.2.2.2.2.1.2))), (V.t (T.sc (.int .i64 p1.2.2.2.2.2.2.2.2.2.2.2.1))), (V.t (T.list p1.2.2.2.2.2.2.2.2.2.2.2.2))]])) x') x
theorem l_slices_IndexFunc___jumps_placed_jumps_placed__2_run (n : Nat) : ∀ (m : Nat) (s0 : List T) (s1 : Int) (s2 : Int) (s3 : Int) (s4 : ByteArray) (s5 : ByteArray) (s6 : Int) (s7 : Int) (s8 : Int) (s9 : ByteArray) (s10 : List T) (s11 : List T) (s12 : List T) (s13 : Nat × Nat) (s14 : Int) (s15 : List T) (x : ((Int × Int × ByteArray × ByteArray × Int × Int × Int × ByteArray × (List T) × (List T) × (List T) × (Nat × Nat) × Int × (List T)) ⊕ Int × ByteArray × ByteArray × Int × Int × Int × ByteArray × (List T) × (List T) × (List T) × (Nat × Nat) × Int × (List T))), l_slices_IndexFunc___jumps_placed_jumps_placed__2 n m (s0, s1, s2, s3, s4, s5, s6, s7, s8, s9, s10, s11, s12, s13, s14, s15) = some x → SemL Try.prog 1 code_l_slices_IndexFunc___jumps_placed_jumps_placed__2 (SEnv.env 19 [(0, (V.t (T.list s0))), (1, (V.fn 33 [(V.ptr 0 0)])), (7, (V.t (T.sc (.int .i64 s1)))), (8, (V.t (T.sc (.int .i64 s2))))]) [some [(V.t (T.sc (.int .i64 s3))), (V.t (T.sc (.string s4))), (V.t (T.sc (.string s5))), (V.t (T.sc (.int .i64 s6))), (V.t (T.sc (.int .i64 s7))), (V.t (T.sc (.int .i64 s8))), (V.t (T.sc (.string s9))), (V.t (T.list s10)), (V.t (T.list s11)), (V.t (T.list s12)), (V.t (T.sc (.complex .f64 s13.1 s13.2))), (V.t (T.sc (.int .i64 s14))), (V.t (T.list s15))]] (l_slices_IndexFunc___jumps_placed_jumps_placed__2_Q x)
  | 0, s0, s1, s2, s3, s4, s5, s6, s7, s8, s9, s10, s11, s12, s13, s14, s15, x, h => by cases h
  | m + 1, s0, s1, s2, s3, s4, s5, s6, s7, s8, s9, s10, s11, s12, s13, s14, s15, x, h => by
    refine loop_step (sp_slices_IndexFunc___jumps_placed_jumps_placed__ok n) code_l_slices_IndexFunc___jumps_placed_jumps_placed__2_ok (fun a ha => absurd ha (by rw [show loopsOf code_l_slices_IndexFunc___jumps_placed_jumps_placed__2 = [] from by kernel_rfl]; simp)) (no_scope (by kernel_rfl)) ((l_slices_IndexFunc___jumps_placed_jumps_placed__2_eq n _ s0 s1 s2 s3 s4 s5 s6 s7 s8 s9 s10 s11 s12 s13 s14 s15).trans h) (fun E sg h => ?_) (fun ex E sg hne h => ?_)
    · simp only [l_slices_IndexFunc___jumps_placed_jumps_placed__2_K] at h
      obtain ⟨u0, hu0, h⟩ := Option.bind_eq_some_iff.1 h
      obtain ⟨u1, hu1, h⟩ := Option.bind_eq_some_iff.1 h
      obtain ⟨u2, hu2, h⟩ := Option.bind_eq_some_iff.1 h
      obtain ⟨u3, hu3, h⟩ := Option.bind_eq_some_iff.1 h
      obtain ⟨u4, hu4, h⟩ := Option.bind_eq_some_iff.1 h
      obtain ⟨u5, hu5, h⟩ := Option.bind_eq_some_iff.1 h
      obtain ⟨u6, hu6, h⟩ := Option.bind_eq_some_iff.1 h
      obtain ⟨u7, hu7, h⟩ := Option.bind_eq_some_iff.1 h
      obtain ⟨u8, hu8, h⟩ := Option.bind_eq_some_iff.1 h
      obtain ⟨u9, hu9, h⟩ := Option.bind_eq_some_iff.1 h
      obtain ⟨u10, hu10, h⟩ := Option.bind_eq_some_iff.1 h
      obtain ⟨u11, hu11, h⟩ := Option.bind_eq_some_iff.1 h
      obtain ⟨u12, hu12, h⟩ := Option.bind_eq_some_iff.1 h
      obtain ⟨u13, hu13, h⟩ := Option.bind_eq_some_iff.1 h
      obtain ⟨u14, hu14, h⟩ := Option.bind_eq_some_iff.1 h
      obtain ⟨u15, hu15, h⟩ := Option.bind_eq_some_iff.1 h
      obtain ⟨u16, hu16, h⟩ := Option.bind_eq_some_iff.1 h
      obtain ⟨u17, hu17, h⟩ := Option.bind_eq_some_iff.1 h
      obtain ⟨u18, hu18, h⟩ := Option.bind_eq_some_iff.1 h
      exact SemL.pre (k := 1) (by decide) (WkA.env (WkA.cons (lstOf_wk hu0) rfl (WkA.cons (fnN_wk hu1 (.cons (ptrOf_wk hu2) .nil)) rfl (WkA.cons (intOf_wk hu3) rfl (WkA.cons (intOf_wk hu4) rfl WkA.nil)))) 19) (wkR_sig (WkR.cons (cellsN_wk hu5 (.cons (intOf_wk hu6) (.cons (strOf_wk hu7) (.cons (strOf_wk hu8) (.cons (intOf_wk hu9) (.cons (intOf_wk hu10) (.cons (intOf_wk hu11) (.cons (strOf_wk hu12) (.cons (lstOf_wk hu13) (.cons (lstOf_wk hu14) (.cons (lstOf_wk hu15) (.cons (cplxOf_wk hu16) (.cons (intOf_wk hu17) (.cons (lstOf_wk hu18) .nil)))))))))))))).1 (cellsN_wk hu5 (.cons (intOf_wk hu6) (.cons (strOf_wk hu7) (.cons (strOf_wk hu8) (.cons (intOf_wk hu9) (.cons (intOf_wk hu10) (.cons (intOf_wk hu11) (.cons (strOf_wk hu12) (.cons (lstOf_wk hu13) (.cons (lstOf_wk hu14) (.cons (lstOf_wk hu15) (.cons (cplxOf_wk hu16) (.cons (intOf_wk hu17) (.cons (lstOf_wk hu18) .nil)))))))))))))).2 (renL_mem (.cons rfl (.cons rfl (.cons rfl (.cons rfl (.cons rfl (.cons rfl (.cons rfl (.cons rfl (.cons rfl (.cons rfl (.cons rfl (.cons rfl (.cons rfl .nil)))))))))))))) (WkR.nil _)) rfl) (l_slices_IndexFunc___jumps_placed_jumps_placed__2_run n m _ _ _ _ _ _ _ _ _ _ _ _ _ _ _ _ x h)
    · unfold l_slices_IndexFunc___jumps_placed_jumps_placed__2_K at h
      split at h
      · exact absurd rfl hne
      · obtain ⟨u0, hu0, h⟩ := Option.bind_eq_some_iff.1 h
        obtain ⟨u1, hu1, h⟩ := Option.bind_eq_some_iff.1 h
        obtain ⟨u2, hu2, h⟩ := Option.bind_eq_some_iff.1 h
        obtain ⟨u3, hu3, h⟩ := Option.bind_eq_some_iff.1 h
        obtain ⟨u4, hu4, h⟩ := Option.bind_eq_some_iff.1 h
        obtain ⟨u5, hu5, h⟩ := Option.bind_eq_some_iff.1 h
        obtain ⟨u6, hu6, h⟩ := Option.bind_eq_some_iff.1 h
        obtain ⟨u7, hu7, h⟩ := Option.bind_eq_some_iff.1 h
        obtain ⟨u8, hu8, h⟩ := Option.bind_eq_some_iff.1 h
        obtain ⟨u9, hu9, h⟩ := Option.bind_eq_some_iff.1 h
        obtain ⟨u10, hu10, h⟩ := Option.bind_eq_some_iff.1 h
        obtain ⟨u11, hu11, h⟩ := Option.bind_eq_some_iff.1 h
        obtain ⟨u12, hu12, h⟩ := Option.bind_eq_some_iff.1 h
        obtain ⟨u13, hu13, h⟩ := Option.bind_eq_some_iff.1 h
        obtain ⟨u14, hu14, h⟩ := Option.bind_eq_some_iff.1 h
        simp only [Option.some.injEq] at h
        subst h
        exact ⟨1, _, _, by decide, WkA.env (WkA.cons (intOf_wk hu0) rfl WkA.nil) 19, (wkR_sig (WkR.cons (cellsN_wk hu1 (.cons (intOf_wk hu2) (.cons (strOf_wk hu3) (.cons (strOf_wk hu4) (.cons (intOf_wk hu5) (.cons (intOf_wk hu6) (.cons (intOf_wk hu7) (.cons (strOf_wk hu8) (.cons (lstOf_wk hu9) (.cons (lstOf_wk hu10) (.cons (lstOf_wk hu11) (.cons (cplxOf_wk hu12) (.cons (intOf_wk hu13) (.cons (lstOf_wk hu14) .nil)))))))))))))).1 (cellsN_wk hu1 (.cons (intOf_wk hu2) (.cons (strOf_wk hu3) (.cons (strOf_wk hu4) (.cons (intOf_wk hu5) (.cons (intOf_wk hu6) (.cons (intOf_wk hu7) (.cons (strOf_wk hu8) (.cons (lstOf_wk hu9) (.cons (lstOf_wk hu10) (.cons (lstOf_wk hu11) (.cons (cplxOf_wk hu12) (.cons (intOf_wk hu13) (.cons (lstOf_wk hu14) .nil)))))))))))))).2 (renL_mem (.cons rfl (.cons rfl (.cons rfl (.cons rfl (.cons rfl (.cons rfl (.cons rfl (.cons rfl (.cons rfl (.cons rfl (.cons rfl (.cons rfl (.cons rfl .nil)))))))))))))) (WkR.nil _)) rfl), rfl, rfl, rfl⟩
      · obtain ⟨u0, hu0, h⟩ := Option.bind_eq_some_iff.1 h
        obtain ⟨u1, hu1, h⟩ := Option.bind_eq_some_iff.1 h
        obtain ⟨u2, hu2, h⟩ := Option.bind_eq_some_iff.1 h
        obtain ⟨u3, hu3, h⟩ := Option.bind_eq_some_iff.1 h
        obtain ⟨u4, hu4, h⟩ := Option.bind_eq_some_iff.1 h
        obtain ⟨u5, hu5, h⟩ := Option.bind_eq_some_iff.1 h
        obtain ⟨u6, hu6, h⟩ := Option.bind_eq_some_iff.1 h
        obtain ⟨u7, hu7, h⟩ := Option.bind_eq_some_iff.1 h
        obtain ⟨u8, hu8, h⟩ := Option.bind_eq_some_iff.1 h
        obtain ⟨u9, hu9, h⟩ := Option.bind_eq_some_iff.1 h
        obtain ⟨u10, hu10, h⟩ := Option.bind_eq_some_iff.1 h
        obtain ⟨u11, hu11, h⟩ := Option.bind_eq_some_iff.1 h
        obtain ⟨u12, hu12, h⟩ := Option.bind_eq_some_iff.1 h
        obtain ⟨u13, hu13, h⟩ := Option.bind_eq_some_iff.1 h
        simp only [Option.some.injEq] at h
        subst h
        exact ⟨1, _, _, by decide, WkA.env WkA.nil 19, (wkR_sig (WkR.cons (cellsN_wk hu0 (.cons (intOf_wk hu1) (.cons (strOf_wk hu2) (.cons (strOf_wk hu3) (.cons (intOf_wk hu4) (.cons (intOf_wk hu5) (.cons (intOf_wk hu6) (.cons (strOf_wk hu7) (.cons (lstOf_wk hu8) (.cons (lstOf_wk hu9) (.cons (lstOf_wk hu10) (.cons (cplxOf_wk hu11) (.cons (intOf_wk hu12) (.cons (lstOf_wk hu13) .nil)))))))))))))).1 (cellsN_wk hu0 (.cons (intOf_wk hu1) (.cons (strOf_wk hu2) (.cons (strOf_wk hu3) (.cons (intOf_wk hu4) (.cons (intOf_wk hu5) (.cons (intOf_wk hu6) (.cons (strOf_wk hu7) (.cons (lstOf_wk hu8) (.cons (lstOf_wk hu9) (.cons (lstOf_wk hu10) (.cons (cplxOf_wk hu11) (.cons (intOf_wk hu12) (.cons (lstOf_wk hu13) .nil)))))))))))))).2 (renL_mem (.cons rfl (.cons rfl (.cons rfl (.cons rfl (.cons rfl (.cons rfl (.cons rfl (.cons rfl (.cons rfl (.cons rfl (.cons rfl (.cons rfl (.cons rfl .nil)))))))))))))) (WkR.nil _)) rfl), rfl, rfl, rfl⟩
      · cases h
theorem l_slices_IndexFunc___jumps_placed_jumps_placed__2_ok (n : Nat) : LoopOk Try.prog (sp_slices_IndexFunc___jumps_placed_jumps_placed_ n) 1 19 code_l_slices_IndexFunc___jumps_placed_jumps_placed__2 := by
    intro R key E sg K r hk h
    rw [show Go.Eng.keyOf code_l_slices_IndexFunc___jumps_placed_jumps_placed__2 = some 2 from by kernel_rfl] at hk
    cases hk
    have h : l_slices_IndexFunc___jumps_placed_jumps_placed__2_S n R E sg K = some r := h
    unfold l_slices_IndexFunc___jumps_placed_jumps_placed__2_S at h
    obtain ⟨u0, hu0, h⟩ := Option.bind_eq_some_iff.1 h
    obtain ⟨u1, hu1, h⟩ := Option.bind_eq_some_iff.1 h
    obtain ⟨u2, hu2, h⟩ := Option.bind_eq_some_iff.1 h
    obtain ⟨u3, hu3, h⟩ := Option.bind_eq_some_iff.1 h
    obtain ⟨u4, hu4, h⟩ := Option.bind_eq_some_iff.1 h
    obtain ⟨u5, hu5, h⟩ := Option.bind_eq_some_iff.1 h
    obtain ⟨u6, hu6, h⟩ := Option.bind_eq_some_iff.1 h
    obtain ⟨u7, hu7, h⟩ := Option.bind_eq_some_iff.1 h
    obtain ⟨u8, hu8, h⟩ := Option.bind_eq_some_iff.1 h
    obtain ⟨u9, hu9, h⟩ := Option.bind_eq_some_iff.1 h
    obtain ⟨u10, hu10, h⟩ := Option.bind_eq_some_iff.1 h
    obtain ⟨u11, hu11, h⟩ := Option.bind_eq_some_iff.1 h
    obtain ⟨u12, hu12, h⟩ := Option.bind_eq_some_iff.1 h
    obtain ⟨u13, hu13, h⟩ := Option.bind_eq_some_iff.1 h
    obtain ⟨u14, hu14, h⟩ := Option.bind_eq_some_iff.1 h
    obtain ⟨u15, hu15, h⟩ := Option.bind_eq_some_iff.1 h
    obtain ⟨u16, hu16, h⟩ := Option.bind_eq_some_iff.1 h
    obtain ⟨u17, hu17, h⟩ := Option.bind_eq_some_iff.1 h
    obtain ⟨u18, hu18, h⟩ := Option.bind_eq_some_iff.1 h
    obtain ⟨x, hx, h⟩ := Option.bind_eq_some_iff.1 h
    refine (SemL.pre (k := 1) (by decide) (WkA.env (WkA.cons (lstOf_wk hu0) rfl (WkA.cons (fnN_wk hu1 (.cons (ptrOf_wk hu2) .nil)) rfl (WkA.cons (intOf_wk hu3) rfl (WkA.cons (intOf_wk hu4) rfl WkA.nil)))) 19) (wkR_sig (WkR.cons (cellsN_wk hu5 (.cons (intOf_wk hu6) (.cons (strOf_wk hu7) (.cons (strOf_wk hu8) (.cons (intOf_wk hu9) (.cons (intOf_wk hu10) (.cons (intOf_wk hu11) (.cons (strOf_wk hu12) (.cons (lstOf_wk hu13) (.cons (lstOf_wk hu14) (.cons (lstOf_wk hu15) (.cons (cplxOf_wk hu16) (.cons (intOf_wk hu17) (.cons (lstOf_wk hu18) .nil)))))))))))))).1 (cellsN_wk hu5 (.cons (intOf_wk hu6) (.cons (strOf_wk hu7) (.cons (strOf_wk hu8) (.cons (intOf_wk hu9) (.cons (intOf_wk hu10) (.cons (intOf_wk hu11) (.cons (strOf_wk hu12) (.cons (lstOf_wk hu13) (.cons (lstOf_wk hu14) (.cons (lstOf_wk hu15) (.cons (cplxOf_wk hu16) (.cons (intOf_wk hu17) (.cons (lstOf_wk hu18) .nil)))))))))))))).2 (renL_mem (.cons rfl (.cons rfl (.cons rfl (.cons rfl (.cons rfl (.cons rfl (.cons rfl (.cons rfl (.cons rfl (.cons rfl (.cons rfl (.cons rfl (.cons rfl .nil)))))))))))))) (WkR.nil _)) rfl) (l_slices_IndexFunc___jumps_placed_jumps_placed__2_run n n _ _ _ _ _ _ _ _ _ _ _ _ _ _ _ _ x hx)).mono ?_
    intro ex e s hq
    rcases x with x | x <;> (obtain ⟨rfl, rfl, rfl⟩ := hq; exact ⟨_, rfl, h⟩) -- 5
def K_slices_IndexFunc___jumps_placed_jumps_placed_ (v : V) (s : Sig) : Option (Int × Int × ByteArray × ByteArray × Int × Int × Int × ByteArray × (List T) × (List T) × (List T) × (Nat × Nat) × Int × (List T)) := Option.bind (V.intOf .i64 v) fun u0 => Option.bind (cellsN 13 s 0) fun g0 => Option.bind (V.intOf .i64 (g0.getD 0 .any)) fun g1 => Option.bind (V.strOf (g0.getD 1 .any)) fun g2 => Option.bind (V.strOf (g0.getD 2 .any)) fun g3 => Option.bind (V.intOf .i64 (g0.getD 3 .any)) fun g4 => Option.bind (V.intOf .i64 (g0.getD 4 .any)) fun g5 => Option.bind (V.intOf .i64 (g0.getD 5 .any)) fun g6 => Option.bind (V.strOf (g0.getD 6 .any)) fun g7 => Option.bind (V.lstOf (g0.getD 7 .any)) fun g8 => Option.bind (V.lstOf (g0.getD 8 .any)) fun g9 => Option.bind (V.lstOf (g0.getD 9 .any)) fun g10 => Option.bind (V.cplxOf .f64 (g0.getD 10 .any)) fun g11 => Option.bind (V.intOf .i64 (g0.getD 11 .any)) fun g12 => Option.bind (V.lstOf (g0.getD 12 .any)) fun g13 => some (u0, g1, g2, g3, g4, g5, g6, g7, g8, g9, g10, g11, g12, g13)
theorem K_slices_IndexFunc___jumps_placed_jumps_placed__wk {v : V} {s : Sig} {r : Int × Int × ByteArray × ByteArray × Int × Int × Int × ByteArray × (List T) × (List T) × (List T) × (Nat × Nat) × Int × (List T)} (h : K_slices_IndexFunc___jumps_placed_jumps_placed_ v s = some r) : Wk v (enc_slices_IndexFunc___jumps_placed_jumps_placed_ r) ∧ WkS 1 s (encS_slices_IndexFunc___jumps_placed_jumps_placed_ r) := by
  unfold K_slices_IndexFunc___jumps_placed_jumps_placed_ at h
  obtain ⟨u0, hu0, h⟩ := Option.bind_eq_some_iff.1 h
  obtain ⟨g0, hg0, h⟩ := Option.bind_eq_some_iff.1 h
  obtain ⟨g1, hg1, h⟩ := Option.bind_eq_some_iff.1 h
  obtain ⟨g2, hg2, h⟩ := Option.bind_eq_some_iff.1 h
  obtain ⟨g3, hg3, h⟩ := Option.bind_eq_some_iff.1 h
  obtain ⟨g4, hg4, h⟩ := Option.bind_eq_some_iff.1 h
  obtain ⟨g5, hg5, h⟩ := Option.bind_eq_some_iff.1 h
  obtain ⟨g6, hg6, h⟩ := Option.bind_eq_some_iff.1 h
  obtain ⟨g7, hg7, h⟩ := Option.bind_eq_some_iff.1 h
  obtain ⟨g8, hg8, h⟩ := Option.bind_eq_some_iff.1 h
  obtain ⟨g9, hg9, h⟩ := Option.bind_eq_some_iff.1 h
  obtain ⟨g10, hg10, h⟩ := Option.bind_eq_some_iff.1 h
  obtain ⟨g11, hg11, h⟩ := Option.bind_eq_some_iff.1 h
  obtain ⟨g12, hg12, h⟩ := Option.bind_eq_some_iff.1 h
  obtain ⟨g13, hg13, h⟩ := Option.bind_eq_some_iff.1 h
  simp only [Option.some.injEq] at h
  subst h
  exact ⟨(intOf_wk hu0), (wkR_sig (WkR.cons (cellsN_wk hg0 (.cons (intOf_wk hg1) (.cons (strOf_wk hg2) (.cons (strOf_wk hg3) (.cons (intOf_wk hg4) (.cons (intOf_wk hg5) (.cons (intOf_wk hg6) (.cons (strOf_wk hg7) (.cons (lstOf_wk hg8) (.cons (lstOf_wk hg9) (.cons (lstOf_wk hg10) (.cons (cplxOf_wk hg11) (.cons (intOf_wk hg12) (.cons (lstOf_wk hg13) .nil)))))))))))))).1 (cellsN_wk hg0 (.cons (intOf_wk hg1) (.cons (strOf_wk hg2) (.cons (strOf_wk hg3) (.cons (intOf_wk hg4) (.cons (intOf_wk hg5) (.cons (intOf_wk hg6) (.cons (strOf_wk hg7) (.cons (lstOf_wk hg8) (.cons (lstOf_wk hg9) (.cons (lstOf_wk hg10) (.cons (cplxOf_wk hg11) (.cons (intOf_wk hg12) (.cons (lstOf_wk hg13) .nil)))))))))))))).2 (renL_mem (.cons rfl (.cons rfl (.cons rfl (.cons rfl (.cons rfl (.cons rfl (.cons rfl (.cons rfl (.cons rfl (.cons rfl (.cons rfl (.cons rfl (.cons rfl .nil)))))))))))))) (WkR.nil _)) rfl)⟩
theorem m_slices_IndexFunc___jumps_placed_jumps_placed__eq (n : Nat) (a0 : List T) (a1 : Int) (a2 : ByteArray) (a3 : ByteArray) (a4 : Int) (a5 : Int) (a6 : Int) (a7 : ByteArray) (a8 : List T) (a9 : List T) (a10 : List T) (a11 : Nat × Nat) (a12 : Int) (a13 : List T) : mF Try.prog (sp_slices_IndexFunc___jumps_placed_jumps_placed_ n) 48 [(V.t (T.list a0)), (V.fn 33 [(V.ptr 0 0)])] [some [(V.t (T.sc (.int .i64 a1))), (V.t (T.sc (.string a2))), (V.t (T.sc (.string a3))), (V.t (T.sc (.int .i64 a4))), (V.t (T.sc (.int .i64 a5))), (V.t (T.sc (.int .i64 a6))), (V.t (T.sc (.string a7))), (V.t (T.list a8)), (V.t (T.list a9)), (V.t (T.list a10)), (V.t (T.sc (.complex .f64 a11.1 a11.2))), (V.t (T.sc (.int .i64 a12))), (V.t (T.list a13))]] K_slices_IndexFunc___jumps_placed_jumps_placed_ = m_slices_IndexFunc___jumps_placed_jumps_placed_ n a0 a1 a2 a3 a4 a5 a6 a7 a8 a9 a10 a11 a12 a13 := by kernel_rfl
theorem m_slices_IndexFunc___jumps_placed_jumps_placed__ok (n : Nat) : ok_slices_IndexFunc___jumps_placed_jumps_placed_ (m_slices_IndexFunc___jumps_placed_jumps_placed_ n) := fun a0 a1 a2 a3 a4 a5 a6 a7 a8 a9 a10 a11 a12 a13 r h => mF_ok sound (sp_slices_IndexFunc___jumps_placed_jumps_placed__ok n) code_slices_IndexFunc___jumps_placed_jumps_placed__fn code_slices_IndexFunc___jumps_placed_jumps_placed__body (forall_getD (d := .skip) 1 (by kernel_rfl) (fun i hi => match i, hi with | 0, _ => l_slices_IndexFunc___jumps_placed_jumps_placed__2_ok n | i + 1, hi => absurd hi (by omega))) (no_scope (by kernel_rfl)) ((m_slices_IndexFunc___jumps_placed_jumps_placed__eq n a0 a1 a2 a3 a4 a5 a6 a7 a8 a9 a10 a11 a12 a13).trans h) (fun v s hk => ⟨(K_slices_IndexFunc___jumps_placed_jumps_placed__wk hk).1, rfl, (K_slices_IndexFunc___jumps_placed_jumps_placed__wk hk).2⟩)


/-! slices.ContainsFunc[[]suture/jumps.placed,suture/jumps.placed] -/
def m_slices_ContainsFunc___jumps_placed_jumps_placed_ (n : Nat) (a0 : List T) (a1 : Int) (a2 : ByteArray) (a3 : ByteArray) (a4 : Int) (a5 : Int) (a6 : Int) (a7 : ByteArray) (a8 : List T) (a9 : List T) (a10 : List T) (a11 : Nat × Nat) (a12 : Int) (a13 : List T) : Option (Bool × Int × ByteArray × ByteArray × Int × Int × Int × ByteArray × (List T) × (List T) × (List T) × (Nat × Nat) × Int × (List T)) :=
Option.bind (m_slices_IndexFunc___jumps_placed_jumps_placed_ n a0 a1 a2 a3 a4 a5 a6 a7 a8 a9 a10 a11 a12 a13) fun r0 =>
some ((decide ((r0.1 : Int) ≥ 0)), r0.2.1, r0.2.2.1, r0.2.2.2.1, r0.2.2.2.2.1, r0.2.2.2.2.2.1, r0.2.2.2.2.2.2.1, r0.2.2.2.2.2.2.2.1, r0.2.2.2.2.2.2.2.2.1, r0.2.2.2.2.2.2.2.2.2.1, r0.2.2.2.2.2.2.2.2.2.2.1, r0.2.2.2.2.2.2.2.2.2.2.2.1, r0.2.2.2.2.2.2.2.2.2.2.2.2.1, r0.2.2.2.2.2.2.2.2.2.2.2.2.2)
def enc_slices_ContainsFunc___jumps_placed_jumps_placed_ (r : Bool × Int × ByteArray × ByteArray × Int × Int × Int × ByteArray × (List T) × (List T) × (List T) × (Nat × Nat) × Int × (List T)) : V := (V.t (T.sc (.bool r.1)))
def encS_slices_ContainsFunc___jumps_placed_jumps_placed_ (r : Bool × Int × ByteArray × ByteArray × Int × Int × Int × ByteArray × (List T) × (List T) × (List T) × (Nat × Nat) × Int × (List T)) : Sig := [some [(V.t (T.sc (.int .i64 r.2.1))), (V.t (T.sc (.string r.2.2.1))), (V.t (T.sc (.string r.2.2.2.1))), (V.t (T.sc (.int .i64 r.2.2.2.2.1))), (V.t (T.sc (.int .i64 r.2.2.2.2.2.1))), (V.t (T.sc (.int .i64 r.2.2.2.2.2.2.1))), (V.t (T.sc (.string r.2.2.2.2.2.2.2.1))), (V.t (T.list r.2.2.2.2.2.2.2.2.1)), (V.t (T.list r.2.2.2.2.2.2.2.2.2.1)), (V.t (T.list r.2.2.2.2.2.2.2.2.2.2.1)), (V.t (T.sc (.complex .f64 r.2.2.2.2.2.2.2.2.2.2.2.1.1 r.2.2.2.2.2.2.2.2.2.2.2.1.2))), (V.t (T.sc (.int .i64 r.2.2.2.2.2.2.2.2.2.2.2.2.1))), (V.t (T.list r.2.2.2.2.2.2.2.2.2.2.2.2.2))]]
def ok_slices_ContainsFunc___jumps_placed_jumps_placed_ (m : List T → Int → ByteArray → ByteArray → Int → Int → Int → ByteArray → List T → List T → List T → Nat × Nat → Int → List T → Option (Bool × Int × ByteArray × ByteArray × Int × Int × Int × ByteArray × (List T) × (List T) × (List T) × (Nat × Nat) × Int × (List T))) : Prop := ∀ (a0 : List T) (a1 : Int) (a2 : ByteArray) (a3 : ByteArray) (a4 : Int) (a5 : Int) (a6 : Int) (a7 : ByteArray) (a8 : List T) (a9 : List T) (a10 : List T) (a11 : Nat × Nat) (a12 : Int) (a13 : List T) (r : Bool × Int × ByteArray × ByteArray × Int × Int × Int × ByteArray × (List T) × (List T) × (List T) × (Nat × Nat) × Int × (List T)), m a0 a1 a2 a3 a4 a5 a6 a7 a8 a9 a10 a11 a12 a13 = some r → FuncOk Try.prog 32 [(V.t (T.list a0)), (V.fn 33 [(V.ptr 0 0)])] [some [(V.t (T.sc (.int .i64 a1))), (V.t (T.sc (.string a2))), (V.t (T.sc (.string a3))), (V.t (T.sc (.int .i64 a4))), (V.t (T.sc (.int .i64 a5))), (V.t (T.sc (.int .i64 a6))), (V.t (T.sc (.string a7))), (V.t (T.list a8)), (V.t (T.list a9)), (V.t (T.list a10)), (V.t (T.sc (.complex .f64 a11.1 a11.2))), (V.t (T.sc (.int .i64 a12))), (V.t (T.list a13))]] (enc_slices_ContainsFunc___jumps_placed_jumps_placed_ r) (encS_slices_ContainsFunc___jumps_placed_jumps_placed_ r)
def c_slices_ContainsFunc___jumps_placed_jumps_placed_ (m : List T → Int → ByteArray → ByteArray → Int → Int → Int → ByteArray → List T → List T → List T → Nat × Nat → Int → List T → Option (Bool × Int × ByteArray × ByteArray × Int × Int × Int × ByteArray × (List T) × (List T) × (List T) × (Nat × Nat) × Int × (List T))) (vs : List V) (sg : Sig) : Option CallM := bif Nat.beq vs.length 2 && Nat.beq sg.length 1 then Option.bind (V.lstOf (vs.getD 0 .any)) fun u0 => Option.bind (V.fnN 33 1 (vs.getD 1 .any)) fun u1 => Option.bind (V.ptrOf 0 0 (u1.getD 0 .any)) fun u2 => Option.bind (cellsN 13 sg 0) fun g0 => Option.bind (V.intOf .i64 (g0.getD 0 .any)) fun g1 => Option.bind (V.strOf (g0.getD 1 .any)) fun g2 => Option.bind (V.strOf (g0.getD 2 .any)) fun g3 => Option.bind (V.intOf .i64 (g0.getD 3 .any)) fun g4 => Option.bind (V.intOf .i64 (g0.getD 4 .any)) fun g5 => Option.bind (V.intOf .i64 (g0.getD 5 .any)) fun g6 => Option.bind (V.strOf (g0.getD 6 .any)) fun g7 => Option.bind (V.lstOf (g0.getD 7 .any)) fun g8 => Option.bind (V.lstOf (g0.getD 8 .any)) fun g9 => Option.bind (V.lstOf (g0.getD 9 .any)) fun g10 => Option.bind (V.cplxOf .f64 (g0.getD 10 .any)) fun g11 => Option.bind (V.intOf .i64 (g0.getD 11 .any)) fun g12 => Option.bind (V.lstOf (g0.getD 12 .any)) fun g13 => some { α := Bool × Int × ByteArray × ByteArray × Int × Int × Int × ByteArray × (List T) × (List T) × (List T) × (Nat × Nat) × Int × (List T), m := m u0 g1 g2 g3 g4 g5 g6 g7 g8 g9 g10 g11 g12 g13, dflt := (false, 0, default, default, 0, 0, 0, default, [], [], [], (0, 0), 0, []), enc := fun y => ((V.t (T.sc (.bool y.1))), [some [(V.t (T.sc (.int .i64 y.2.1))), (V.t (T.sc (.string y.2.2.1))), (V.t (T.sc (.string y.2.2.2.1))), (V.t (T.sc (.int .i64 y.2.2.2.2.1))), (V.t (T.sc (.int .i64 y.2.2.2.2.2.1))), (V.t (T.sc (.int .i64 y.2.2.2.2.2.2.1))), (V.t (T.sc (.string y.2.2.2.2.2.2.2.1))), (V.t (T.list y.2.2.2.2.2.2.2.2.1)), (V.t (T.list y.2.2.2.2.2.2.2.2.2.1)), (V.t (T.list y.2.2.2.2.2.2.2.2.2.2.1)), (V.t (T.sc (.complex .f64 y.2.2.2.2.2.2.2.2.2.2.2.1.1 y.2.2.2.2.2.2.2.2.2.2.2.1.2))), (V.t (T.sc (.int .i64 y.2.2.2.2.2.2.2.2.2.2.2.2.1))), (V.t (T.list y.2.2.2.2.2.2.2.2.2.2.2.2.2))]]) } else none
theorem c_slices_ContainsFunc___jumps_placed_jumps_placed__ok (m : List T → Int → ByteArray → ByteArray → Int → Int → Int → ByteArray → List T → List T → List T → Nat × Nat → Int → List T → Option (Bool × Int × ByteArray × ByteArray × Int × Int × Int × ByteArray × (List T) × (List T) × (List T) × (Nat × Nat) × Int × (List T))) (hm : ok_slices_ContainsFunc___jumps_placed_jumps_placed_ m) (vs : List V) (sg : Sig) (cm : CallM) (x : cm.α) (h : c_slices_ContainsFunc___jumps_placed_jumps_placed_ m vs sg = some cm) (hx : cm.m = some x) : FuncOk Try.prog 32 vs sg (cm.enc x).1 (cm.enc x).2 := by
  unfold c_slices_ContainsFunc___jumps_placed_jumps_placed_ at h
  have h0 := callee_sig h
  clear h
  obtain ⟨hl, hs, h⟩ := h0
  obtain ⟨u0, hu0, h⟩ := Option.bind_eq_some_iff.1 h
  obtain ⟨u1, hu1, h⟩ := Option.bind_eq_some_iff.1 h
  obtain ⟨u2, hu2, h⟩ := Option.bind_eq_some_iff.1 h
  obtain ⟨g0, hg0, h⟩ := Option.bind_eq_some_iff.1 h
  obtain ⟨g1, hg1, h⟩ := Option.bind_eq_some_iff.1 h
  obtain ⟨g2, hg2, h⟩ := Option.bind_eq_some_iff.1 h
  obtain ⟨g3, hg3, h⟩ := Option.bind_eq_some_iff.1 h
  obtain ⟨g4, hg4, h⟩ := Option.bind_eq_some_iff.1 h
  obtain ⟨g5, hg5, h⟩ := Option.bind_eq_some_iff.1 h
  obtain ⟨g6, hg6, h⟩ := Option.bind_eq_some_iff.1 h
  obtain ⟨g7, hg7, h⟩ := Option.bind_eq_some_iff.1 h
  obtain ⟨g8, hg8, h⟩ := Option.bind_eq_some_iff.1 h
  obtain ⟨g9, hg9, h⟩ := Option.bind_eq_some_iff.1 h
  obtain ⟨g10, hg10, h⟩ := Option.bind_eq_some_iff.1 h
  obtain ⟨g11, hg11, h⟩ := Option.bind_eq_some_iff.1 h
  obtain ⟨g12, hg12, h⟩ := Option.bind_eq_some_iff.1 h
  obtain ⟨g13, hg13, h⟩ := Option.bind_eq_some_iff.1 h
  simp only [Option.some.injEq] at h
  subst h
  exact (hm u0 g1 g2 g3 g4 g5 g6 g7 g8 g9 g10 g11 g12 g13 x hx).wk (args_wk hl (.cons (lstOf_wk hu0) (.cons (fnN_wk hu1 (.cons (ptrOf_wk hu2) .nil)) .nil))) (wkSg_of hs (.cons (cellsN_wk hg0 (.cons (intOf_wk hg1) (.cons (strOf_wk hg2) (.cons (strOf_wk hg3) (.cons (intOf_wk hg4) (.cons (intOf_wk hg5) (.cons (intOf_wk hg6) (.cons (strOf_wk hg7) (.cons (lstOf_wk hg8) (.cons (lstOf_wk hg9) (.cons (lstOf_wk hg10) (.cons (cplxOf_wk hg11) (.cons (intOf_wk hg12) (.cons (lstOf_wk hg13) .nil)))))))))))))) .nil))
noncomputable def code_slices_ContainsFunc___jumps_placed_jumps_placed_ : Code := Try.f32.body.getD .skip
noncomputable def sp_slices_ContainsFunc___jumps_placed_jumps_placed_ (n : Nat) : Go.Eng.Spec := ⟨fun f vs sg => (match f with
    | 48 => c_slices_IndexFunc___jumps_placed_jumps_placed_ (m_slices_IndexFunc___jumps_placed_jumps_placed_ n) vs sg
    | _ => none), fun R key E sg K => (match key with
    | _ => none)⟩
theorem sp_slices_ContainsFunc___jumps_placed_jumps_placed__ok (n : Nat) : CallsOk Try.prog (sp_slices_ContainsFunc___jumps_placed_jumps_placed_ n) := by
  intro f vs sg cm x h hx
  simp only [sp_slices_ContainsFunc___jumps_placed_jumps_placed_] at h
  split at h
  · exact c_slices_IndexFunc___jumps_placed_jumps_placed__ok _ (m_slices_IndexFunc___jumps_placed_jumps_placed__ok n) vs sg cm x h hx
  · cases h
theorem code_slices_ContainsFunc___jumps_placed_jumps_placed__fn : Try.prog.funcs[32]? = some Try.f32 := Try.func32
theorem code_slices_ContainsFunc___jumps_placed_jumps_placed__body : Try.f32.body = some code_slices_ContainsFunc___jumps_placed_jumps_placed_ := by kernel_rfl
theorem code_slices_ContainsFunc___jumps_placed_jumps_placed__ok : CodeOk Try.prog code_slices_ContainsFunc___jumps_placed_jumps_placed_ := (sound 32 _ _ code_slices_ContainsFunc___jumps_placed_jumps_placed__fn code_slices_ContainsFunc___jumps_placed_jumps_placed__body).1
def K_slices_ContainsFunc___jumps_placed_jumps_placed_ (v : V) (s : Sig) : Option (Bool × Int × ByteArray × ByteArray × Int × Int × Int × ByteArray × (List T) × (List T) × (List T) × (Nat × Nat) × Int × (List T)) := Option.bind (V.boolOf v) fun u0 => Option.bind (cellsN 13 s 0) fun g0 => Option.bind (V.intOf .i64 (g0.getD 0 .any)) fun g1 => Option.bind (V.strOf (g0.getD 1 .any)) fun g2 => Option.bind (V.strOf (g0.getD 2 .any)) fun g3 => Option.bind (V.intOf .i64 (g0.getD 3 .any)) fun g4 => Option.bind (V.intOf .i64 (g0.getD 4 .any)) fun g5 => Option.bind (V.intOf .i64 (g0.getD 5 .any)) fun g6 => Option.bind (V.strOf (g0.getD 6 .any)) fun g7 => Option.bind (V.lstOf (g0.getD 7 .any)) fun g8 => Option.bind (V.lstOf (g0.getD 8 .any)) fun g9 => Option.bind (V.lstOf (g0.getD 9 .any)) fun g10 => Option.bind (V.cplxOf .f64 (g0.getD 10 .any)) fun g11 => Option.bind (V.intOf .i64 (g0.getD 11 .any)) fun g12 => Option.bind (V.lstOf (g0.getD 12 .any)) fun g13 => some (u0, g1, g2, g3, g4, g5, g6, g7, g8, g9, g10, g11, g12, g13)
theorem K_slices_ContainsFunc___jumps_placed_jumps_placed__wk {v : V} {s : Sig} {r : Bool × Int × ByteArray × ByteArray × Int × Int × Int × ByteArray × (List T) × (List T) × (List T) × (Nat × Nat) × Int × (List T)} (h : K_slices_ContainsFunc___jumps_placed_jumps_placed_ v s = some r) : Wk v (enc_slices_ContainsFunc___jumps_placed_jumps_placed_ r) ∧ WkS 1 s (encS_slices_ContainsFunc___jumps_placed_jumps_placed_ r) := by
  unfold K_slices_ContainsFunc___jumps_placed_jumps_placed_ at h
  obtain ⟨u0, hu0, h⟩ := Option.bind_eq_some_iff.1 h
  obtain ⟨g0, hg0, h⟩ := Option.bind_eq_some_iff.1 h
  obtain ⟨g1, hg1, h⟩ := Option.bind_eq_some_iff.1 h
  obtain ⟨g2, hg2, h⟩ := Option.bind_eq_some_iff.1 h
  obtain ⟨g3, hg3, h⟩ := Option.bind_eq_some_iff.1 h
  obtain ⟨g4, hg4, h⟩ := Option.bind_eq_some_iff.1 h
  obtain ⟨g5, hg5, h⟩ := Option.bind_eq_some_iff.1 h
  obtain ⟨g6, hg6, h⟩ := Option.bind_eq_some_iff.1 h
  obtain ⟨g7, hg7, h⟩ := Option.bind_eq_some_iff.1 h
  obtain ⟨g8, hg8, h⟩ := Option.bind_eq_some_iff.1 h
  obtain ⟨g9, hg9, h⟩ := Option.bind_eq_some_iff.1 h
  obtain ⟨g10, hg10, h⟩ := Option.bind_eq_some_iff.1 h
  obtain ⟨g11, hg11, h⟩ := Option.bind_eq_some_iff.1 h
  obtain ⟨g12, hg12, h⟩ := Option.bind_eq_some_iff.1 h
  obtain ⟨g13, hg13, h⟩ := Option.bind_eq_some_iff.1 h
  simp only [Option.some.injEq] at h
  subst h
  exact ⟨(boolOf_wk hu0), (wkR_sig (WkR.cons (cellsN_wk hg0 (.cons (intOf_wk hg1) (.cons (strOf_wk hg2) (.cons (strOf_wk hg3) (.cons (intOf_wk hg4) (.cons (intOf_wk hg5) (.cons (intOf_wk hg6) (.cons (strOf_wk hg7) (.cons (lstOf_wk hg8) (.cons (lstOf_wk hg9) (.cons (lstOf_wk hg10) (.cons (cplxOf_wk hg11) (.cons (intOf_wk hg12) (.cons (lstOf_wk hg13) .nil)))))))))))))).1 (cellsN_wk hg0 (.cons (intOf_wk hg1) (.cons (strOf_wk hg2) (.cons (strOf_wk hg3) (.cons (intOf_wk hg4) (.cons (intOf_wk hg5) (.cons (intOf_wk hg6) (.cons (strOf_wk hg7) (.cons (lstOf_wk hg8) (.cons (lstOf_wk hg9) (.cons (lstOf_wk hg10) (.cons (cplxOf_wk hg11) (.cons (intOf_wk hg12) (.cons (lstOf_wk hg13) .nil)))))))))))))).2 (renL_mem (.cons rfl (.cons rfl (.cons rfl (.cons rfl (.cons rfl (.cons rfl (.cons rfl (.cons rfl (.cons rfl (.cons rfl (.cons rfl (.cons rfl (.cons rfl .nil)))))))))))))) (WkR.nil _)) rfl)⟩
theorem m_slices_ContainsFunc___jumps_placed_jumps_placed__eq (n : Nat) (a0 : List T) (a1 : Int) (a2 : ByteArray) (a3 : ByteArray) (a4 : Int) (a5 : Int) (a6 : Int) (a7 : ByteArray) (a8 : List T) (a9 : List T) (a10 : List T) (a11 : Nat × Nat) (a12 : Int) (a13 : List T) : mF Try.prog (sp_slices_ContainsFunc___jumps_placed_jumps_placed_ n) 32 [(V.t (T.list a0)), (V.fn 33 [(V.ptr 0 0)])] [some [(V.t (T.sc (.int .i64 a1))), (V.t (T.sc (.string a2))), (V.t (T.sc (.string a3))), (V.t (T.sc (.int .i64 a4))), (V.t (T.sc (.int .i64 a5))), (V.t (T.sc (.int .i64 a6))), (V.t (T.sc (.string a7))), (V.t (T.list a8)), (V.t (T.list a9)), (V.t (T.list a10)), (V.t (T.sc (.complex .f64 a11.1 a11.2))), (V.t (T.sc (.int .i64 a12))), (V.t (T.list a13))]] K_slices_ContainsFunc___jumps_placed_jumps_placed_ = m_slices_ContainsFunc___jumps_placed_jumps_placed_ n a0 a1 a2 a3 a4 a5 a6 a7 a8 a9 a10 a11 a12 a13 := by kernel_rfl
theorem m_slices_ContainsFunc___jumps_placed_jumps_placed__ok (n : Nat) : ok_slices_ContainsFunc___jumps_placed_jumps_placed_ (m_slices_ContainsFunc___jumps_placed_jumps_placed_ n) := fun a0 a1 a2 a3 a4 a5 a6 a7 a8 a9 a10 a11 a12 a13 r h => mF_ok sound (sp_slices_ContainsFunc___jumps_placed_jumps_placed__ok n) code_slices_ContainsFunc___jumps_placed_jumps_placed__fn code_slices_ContainsFunc___jumps_placed_jumps_placed__body (fun a ha => absurd ha (by rw [show loopsOf code_slices_ContainsFunc___jumps_placed_jumps_placed_ = [] from by kernel_rfl]; simp)) (no_scope (by kernel_rfl)) ((m_slices_ContainsFunc___jumps_placed_jumps_placed__eq n a0 a1 a2 a3 a4 a5 a6 a7 a8 a9 a10 a11 a12 a13).trans h) (fun v s hk => ⟨(K_slices_ContainsFunc___jumps_placed_jumps_placed__wk hk).1, rfl, (K_slices_ContainsFunc___jumps_placed_jumps_placed__wk hk).2⟩)


/-! suture/jumps.twice -/
def m_jumps_twice (n : Nat) (a0 : List T) (a1 : Int) : Option (Bool) :=
Option.bind (idx true [.int .i64, .str, .str, .int .i64, .int .i64, .int .i64, .str, .list, .list, .list, .cplx .f64, .int .i64, .list] a0 a1) fun y0 =>
must ((((y0.cell 0).int : Int) == 10)) (decide (0 ≤ 0) && decide (0 ≤ a1) && decide (a1 ≤ ((List.length a0 : Nat) : Int)) && sized 13 a0) (Option.bind (bif (((y0.cell 0).int : Int) == 10) then m_slices_ContainsFunc___jumps_placed_jumps_placed_ n (List.drop (Int.toNat 0) (List.take (Int.toNat a1) a0)) (y0.cell 0).int (y0.cell 1).str (y0.cell 2).str (y0.cell 3).int (y0.cell 4).int (y0.cell 5).int (y0.cell 6).str (y0.cell 7).lst (y0.cell 8).lst (y0.cell 9).lst ((y0.cell 10).re, (y0.cell 10).im) (y0.cell 11).int (y0.cell 12).lst else some (false, 0, default, default, 0, 0, 0, default, [], [], [], (0, 0), 0, [])) fun r1 =>
some (bif (((y0.cell 0).int : Int) == 10) then r1.1 else false))
def enc_jumps_twice (r : Bool) : V := (V.t (T.sc (.bool r)))
def encS_jumps_twice (r : Bool) : Sig := []
def ok_jumps_twice (m : List T → Int → Option (Bool)) : Prop := ∀ (a0 : List T) (a1 : Int) (r : Bool), m a0 a1 = some r → FuncOk Try.prog 21 [(V.t (T.list a0)), (V.t (T.sc (.int .i64 a1)))] [] (enc_jumps_twice r) (encS_jumps_twice r)
def c_jumps_twice (m : List T → Int → Option (Bool)) (vs : List V) (sg : Sig) : Option CallM := bif Nat.beq vs.length 2 && Nat.beq sg.length 0 then Option.bind (V.lstOf (vs.getD 0 .any)) fun u0 => Option.bind (V.intOf .i64 (vs.getD 1 .any)) fun u1 => some { α := Bool, m := m u0 u1, dflt := false, enc := fun y => ((V.t (T.sc (.bool y))), []) } else none
theorem c_jumps_twice_ok (m : List T → Int → Option (Bool)) (hm : ok_jumps_twice m) (vs : List V) (sg : Sig) (cm : CallM) (x : cm.α) (h : c_jumps_twice m vs sg = some cm) (hx : cm.m = some x) : FuncOk Try.prog 21 vs sg (cm.enc x).1 (cm.enc x).2 := by
  unfold c_jumps_twice at h
  have h0 := callee_sig h
  clear h
  obtain ⟨hl, hs, h⟩ := h0
  obtain ⟨u0, hu0, h⟩ := Option.bind_eq_some_iff.1 h
  obtain ⟨u1, hu1, h⟩ := Option.bind_eq_some_iff.1 h
  simp only [Option.some.injEq] at h
  subst h
  exact (hm u0 u1 x hx).wk (args_wk hl (.cons (lstOf_wk hu0) (.cons (intOf_wk hu1) .nil))) (wkSg_of hs .nil)
noncomputable def code_jumps_twice : Code := Try.f21.body.getD .skip
noncomputable def sp_jumps_twice (n : Nat) : Go.Eng.Spec := ⟨fun f vs sg => (match f with
    | 32 => c_slices_ContainsFunc___jumps_placed_jumps_placed_ (m_slices_ContainsFunc___jumps_placed_jumps_placed_ n) vs sg
    | _ => none), fun R key E sg K => (match key with
    | _ => none)⟩
theorem sp_jumps_twice_ok (n : Nat) : CallsOk Try.prog (sp_jumps_twice n) := by
  intro f vs sg cm x h hx
  simp only [sp_jumps_twice] at h
  split at h
  · exact c_slices_ContainsFunc___jumps_placed_jumps_placed__ok _ (m_slices_ContainsFunc___jumps_placed_jumps_placed__ok n) vs sg cm x h hx
  · cases h
theorem code_jumps_twice_fn : Try.prog.funcs[21]? = some Try.f21 := Try.func21
theorem code_jumps_twice_body : Try.f21.body = some code_jumps_twice := by kernel_rfl
theorem code_jumps_twice_ok : CodeOk Try.prog code_jumps_twice := (sound 21 _ _ code_jumps_twice_fn code_jumps_twice_body).1
def K_jumps_twice (v : V) (s : Sig) : Option (Bool) := Option.bind (V.boolOf v) fun u0 => some u0
theorem K_jumps_twice_wk {v : V} {s : Sig} {r : Bool} (h : K_jumps_twice v s = some r) : Wk v (enc_jumps_twice r) ∧ WkS 0 s (encS_jumps_twice r) := by
  unfold K_jumps_twice at h
  obtain ⟨u0, hu0, h⟩ := Option.bind_eq_some_iff.1 h
  simp only [Option.some.injEq] at h
  subst h
  exact ⟨(boolOf_wk hu0), (WkS.none _)⟩
theorem m_jumps_twice_eq (n : Nat) (a0 : List T) (a1 : Int) : mF Try.prog (sp_jumps_twice n) 21 [(V.t (T.list a0)), (V.t (T.sc (.int .i64 a1)))] [] K_jumps_twice = m_jumps_twice n a0 a1 := by kernel_rfl
theorem m_jumps_twice_ok (n : Nat) : ok_jumps_twice (m_jumps_twice n) := fun a0 a1 r h => mF_ok sound (sp_jumps_twice_ok n) code_jumps_twice_fn code_jumps_twice_body (fun a ha => absurd ha (by rw [show loopsOf code_jumps_twice = [] from by kernel_rfl]; simp)) (no_scope (by kernel_rfl)) ((m_jumps_twice_eq n a0 a1).trans h) (fun v s hk => ⟨(K_jumps_twice_wk hk).1, rfl, (K_jumps_twice_wk hk).2⟩)


/-! slices.Index[[]int,int] -/
def l_slices_Index___int_int__2_B (n : Nat) (k : (List T) × Int × Int × Int → Option (((Int) ⊕ Unit))) : (List T) × Int × Int × Int → Option (((Int) ⊕ Unit)) := fun (s0, s1, s2, s3) =>
bif (decide ((s3 : Int) < s2)) then (
Option.bind (idx true [.int .i64] s0 s3) fun y0 =>
bif ((s1 : Int) == (y0.cell 0).int) then (
some (Sum.inl s3))
else (
k (s0, s1, s2, (IntKind.wrap .i64 (s3 + 1)))))
else (
some (Sum.inr ()))
def l_slices_Index___int_int__2 (n : Nat) : Nat → (List T) × Int × Int × Int → Option (((Int) ⊕ Unit))
  | 0, _ => none
  | m + 1, s => l_slices_Index___int_int__2_B n (l_slices_Index___int_int__2 n m) s
def m_slices_Index___int_int_ (n : Nat) (a0 : List T) (a1 : Int) : Option (Int) :=
Option.bind (l_slices_Index___int_int__2 n n (a0, a1, ((List.length a0 : Nat) : Int), 0)) fun x1 =>
Sum.elim (fun p2 => 
some p2) (fun x1' => (fun p3 => 
some (-1)) x1') x1
def enc_slices_Index___int_int_ (r : Int) : V := (V.t (T.sc (.int .i64 r)))
def encS_slices_Index___int_int_ (r : Int) : Sig := []
def ok_slices_Index___int_int_ (m : List T → Int → Option (Int)) : Prop := ∀ (a0 : List T) (a1 : Int) (r : Int), m a0 a1 = some r → FuncOk Try.prog 49 [(V.t (T.list a0)), (V.t (T.sc (.int .i64 a1)))] [] (enc_slices_Index___int_int_ r) (encS_slices_Index___int_int_ r)
def c_slices_Index___int_int_ (m : List T → Int → Option (Int)) (vs : List V) (sg : Sig) : Option CallM := bif Nat.beq vs.length 2 && Nat.beq sg.length 0 then Option.bind (V.lstOf (vs.getD 0 .any)) fun u0 => Option.bind (V.intOf .i64 (vs.getD 1 .any)) fun u1 => some { α := Int, m := m u0 u1, dflt := 0, enc := fun y => ((V.t (T.sc (.int .i64 y))), []) } else none
theorem c_slices_Index___int_int__ok (m : List T → Int → Option (Int)) (hm : ok_slices_Index___int_int_ m) (vs : List V) (sg : Sig) (cm : CallM) (x : cm.α) (h : c_slices_Index___int_int_ m vs sg = some cm) (hx : cm.m = some x) : FuncOk Try.prog 49 vs sg (cm.enc x).1 (cm.enc x).2 := by
  unfold c_slices_Index___int_int_ at h
  have h0 := callee_sig h
  clear h
  obtain ⟨hl, hs, h⟩ := h0
  obtain ⟨u0, hu0, h⟩ := Option.bind_eq_some_iff.1 h
  obtain ⟨u1, hu1, h⟩ := Option.bind_eq_some_iff.1 h
  simp only [Option.some.injEq] at h
  subst h
  exact (hm u0 u1 x hx).wk (args_wk hl (.cons (lstOf_wk hu0) (.cons (intOf_wk hu1) .nil))) (wkSg_of hs .nil)
noncomputable def code_slices_Index___int_int_ : Code := Try.f49.body.getD .skip
def l_slices_Index___int_int__2_S (n : Nat) (R : Type) (E : SEnv) (sg : Sig) (K : Ex → SEnv → Sig → Option R) : Option R := Option.bind (V.lstOf (SEnv.at E 0)) fun u0 => Option.bind (V.intOf .i64 (SEnv.at E 1)) fun u1 => Option.bind (V.intOf .i64 (SEnv.at E 7)) fun u2 => Option.bind (V.intOf .i64 (SEnv.at E 8)) fun u3 => Option.bind (l_slices_Index___int_int__2 n n (u0, u1, u2, u3)) fun y => Sum.elim (fun p0 => K .ret [(4, (V.t (T.sc (.int .i64 p0))))] []) (fun y' => (fun p1 => K (.exit 0) [] []) y') y
noncomputable def sp_slices_Index___int_int_ (n : Nat) : Go.Eng.Spec := ⟨fun f vs sg => (match f with
    | _ => none), fun R key E sg K => (match key with
    | 2 => l_slices_Index___int_int__2_S n R E sg K
    | _ => none)⟩
theorem sp_slices_Index___int_int__ok (n : Nat) : CallsOk Try.prog (sp_slices_Index___int_int_ n) := by
  intro f vs sg cm x h hx
  have h : (none : Option CallM) = some cm := h
  cases h
theorem code_slices_Index___int_int__fn : Try.prog.funcs[49]? = some Try.f49 := Try.func49
theorem code_slices_Index___int_int__body : Try.f49.body = some code_slices_Index___int_int_ := by kernel_rfl
theorem code_slices_Index___int_int__ok : CodeOk Try.prog code_slices_Index___int_int_ := (sound 49 _ _ code_slices_Index___int_int__fn code_slices_Index___int_int__body).1
noncomputable def code_l_slices_Index___int_int__2 : Code := (loopsOf code_slices_Index___int_int_).getD 0 .skip
theorem code_l_slices_Index___int_int__2_ok : CodeOk Try.prog code_l_slices_Index___int_int__2 := codeOk_loops code_slices_Index___int_int__ok _ (getD_mem (by kernel_rfl))
def l_slices_Index___int_int__2_K (k : (List T) × Int × Int × Int → Option (((Int) ⊕ Unit))) : Ex → SEnv → Sig → Option (((Int) ⊕ Unit)) := fun x E sg => match x with
  | .normal => Option.bind (V.lstOf (SEnv.at E 0)) fun u0 => Option.bind (V.intOf .i64 (SEnv.at E 1)) fun u1 => Option.bind (V.intOf .i64 (SEnv.at E 7)) fun u2 => Option.bind (V.intOf .i64 (SEnv.at E 8)) fun u3 => k (u0, u1, u2, u3)
  | .ret => Option.bind (V.intOf .i64 (SEnv.at E 4)) fun u0 => some (Sum.inl u0)
  | (.exit 0) => some (Sum.inr ())
  | _ => none
theorem l_slices_Index___int_int__2_eq (n : Nat) (k : (List T) × Int × Int × Int → Option (((Int) ⊕ Unit))) (s0 : List T) (s1 : Int) (s2 : Int) (s3 : Int) : mX Try.prog (sp_slices_Index___int_int_ n) 19 code_l_slices_Index___int_int__2 [(0, (V.t (T.list s0))), (1, (V.t (T.sc (.int .i64 s1)))), (7, (V.t (T.sc (.int .i64 s2)))), (8, (V.t (T.sc (.int .i64 s3))))] [] (l_slices_Index___int_int__2_K k) = l_slices_Index___int_int__2_B n k (s0, s1, s2, s3) := by kernel_rfl
def l_slices_Index___int_int__2_Q (x : ((Int) ⊕ Unit)) (ex : Ex) (e : Env) (s : Sig) : Prop := Sum.elim (fun p0 => (ex = .ret ∧ e = SEnv.env 19 [(4, (V.t (T.sc (.int .i64 p0))))] ∧ s = [])) (fun x' => (fun p1 => (ex = (.exit 0) ∧ e = SEnv.env 19 [] ∧ s = [])) x') x
theorem l_slices_Index___int_int__2_run (n : Nat) : ∀ (m : Nat) (s0 : List T) (s1 : Int) (s2 : Int) (s3 : Int) (x : ((Int) ⊕ Unit)), l_slices_Index___int_int__2 n m (s0, s1, s2, s3) = some x → SemL Try.prog 0 code_l_slices_Index___int_int__2 (SEnv.env 19 [(0, (V.t (T.list s0))), (1, (V.t (T.sc (.int .i64 s1)))), (7, (V.t (T.sc (.int .i64 s2)))), (8, (V.t (T.sc (.int .i64 s3))))]) [] (l_slices_Index___int_int__2_Q x)
  | 0, s0, s1, s2, s3, x, h => by cases h
  | m + 1, s0, s1, s2, s3, x, h => by
    refine loop_step (sp_slices_Index___int_int__ok n) code_l_slices_Index___int_int__2_ok (fun a ha => absurd ha (by rw [show loopsOf code_l_slices_Index___int_int__2 = [] from by kernel_rfl]; simp)) (no_scope (by kernel_rfl)) ((l_slices_Index___int_int__2_eq n _ s0 s1 s2 s3).trans h) (fun E sg h => ?_) (fun ex E sg hne h => ?_)
    · simp only [l_slices_Index___int_int__2_K] at h
      obtain ⟨u0, hu0, h⟩ := Option.bind_eq_some_iff.1 h
      obtain ⟨u1, hu1, h⟩ := Option.bind_eq_some_iff.1 h
      obtain ⟨u2, hu2, h⟩ := Option.bind_eq_some_iff.1 h
      obtain ⟨u3, hu3, h⟩ := Option.bind_eq_some_iff.1 h
      exact SemL.pre (k := 0) (by decide) (WkA.env (WkA.cons (lstOf_wk hu0) rfl (WkA.cons (intOf_wk hu1) rfl (WkA.cons (intOf_wk hu2) rfl (WkA.cons (intOf_wk hu3) rfl WkA.nil)))) 19) (WkS.none _) (l_slices_Index___int_int__2_run n m _ _ _ _ x h)
    · unfold l_slices_Index___int_int__2_K at h
      split at h
      · exact absurd rfl hne
      · obtain ⟨u0, hu0, h⟩ := Option.bind_eq_some_iff.1 h
        simp only [Option.some.injEq] at h
        subst h
        exact ⟨0, _, _, by decide, WkA.env (WkA.cons (intOf_wk hu0) rfl WkA.nil) 19, (WkS.none _), rfl, rfl, rfl⟩
      · simp only [Option.some.injEq] at h
        subst h
        exact ⟨0, _, _, by decide, WkA.env WkA.nil 19, (WkS.none _), rfl, rfl, rfl⟩
      · cases h
theorem l_slices_Index___int_int__2_ok (n : Nat) : LoopOk Try.prog (sp_slices_Index___int_int_ n) 0 19 code_l_slices_Index___int_int__2 := by
    intro R key E sg K r hk h
    rw [show Go.Eng.keyOf code_l_slices_Index___int_int__2 = some 2 from by kernel_rfl] at hk
    cases hk
    have h : l_slices_Index___int_int__2_S n R E sg K = some r := h
    unfold l_slices_Index___int_int__2_S at h
    obtain ⟨u0, hu0, h⟩ := Option.bind_eq_some_iff.1 h
    obtain ⟨u1, hu1, h⟩ := Option.bind_eq_some_iff.1 h
    obtain ⟨u2, hu2, h⟩ := Option.bind_eq_some_iff.1 h
    obtain ⟨u3, hu3, h⟩ := Option.bind_eq_some_iff.1 h
    obtain ⟨x, hx, h⟩ := Option.bind_eq_some_iff.1 h
    refine (SemL.pre (k := 0) (by decide) (WkA.env (WkA.cons (lstOf_wk hu0) rfl (WkA.cons (intOf_wk hu1) rfl (WkA.cons (intOf_wk hu2) rfl (WkA.cons (intOf_wk hu3) rfl WkA.nil)))) 19) (WkS.none _) (l_slices_Index___int_int__2_run n n _ _ _ _ x hx)).mono ?_
    intro ex e s hq
    rcases x with x | x <;> (obtain ⟨rfl, rfl, rfl⟩ := hq; exact ⟨_, rfl, h⟩) -- 5
def K_slices_Index___int_int_ (v : V) (s : Sig) : Option (Int) := Option.bind (V.intOf .i64 v) fun u0 => some u0
theorem K_slices_Index___int_int__wk {v : V} {s : Sig} {r : Int} (h : K_slices_Index___int_int_ v s = some r) : Wk v (enc_slices_Index___int_int_ r) ∧ WkS 0 s (encS_slices_Index___int_int_ r) := by
  unfold K_slices_Index___int_int_ at h
  obtain ⟨u0, hu0, h⟩ := Option.bind_eq_some_iff.1 h
  simp only [Option.some.injEq] at h
  subst h
  exact ⟨(intOf_wk hu0), (WkS.none _)⟩
theorem m_slices_Index___int_int__eq (n : Nat) (a0 : List T) (a1 : Int) : mF Try.prog (sp_slices_Index___int_int_ n) 49 [(V.t (T.list a0)), (V.t (T.sc (.int .i64 a1)))] [] K_slices_Index___int_int_ = m_slices_Index___int_int_ n a0 a1 := by kernel_rfl
theorem m_slices_Index___int_int__ok (n : Nat) : ok_slices_Index___int_int_ (m_slices_Index___int_int_ n) := fun a0 a1 r h => mF_ok sound (sp_slices_Index___int_int__ok n) code_slices_Index___int_int__fn code_slices_Index___int_int__body (forall_getD (d := .skip) 1 (by kernel_rfl) (fun i hi => match i, hi with | 0, _ => l_slices_Index___int_int__2_ok n | i + 1, hi => absurd hi (by omega))) (no_scope (by kernel_rfl)) ((m_slices_Index___int_int__eq n a0 a1).trans h) (fun v s hk => ⟨(K_slices_Index___int_int__wk hk).1, rfl, (K_slices_Index___int_int__wk hk).2⟩)


/-! slices.Contains[[]int,int] -/
def m_slices_Contains___int_int_ (n : Nat) (a0 : List T) (a1 : Int) : Option (Bool) :=
Option.bind (m_slices_Index___int_int_ n a0 a1) fun r0 =>
some (decide ((r0 : Int) ≥ 0))
def enc_slices_Contains___int_int_ (r : Bool) : V := (V.t (T.sc (.bool r)))
def encS_slices_Contains___int_int_ (r : Bool) : Sig := []
def ok_slices_Contains___int_int_ (m : List T → Int → Option (Bool)) : Prop := ∀ (a0 : List T) (a1 : Int) (r : Bool), m a0 a1 = some r → FuncOk Try.prog 34 [(V.t (T.list a0)), (V.t (T.sc (.int .i64 a1)))] [] (enc_slices_Contains___int_int_ r) (encS_slices_Contains___int_int_ r)
def c_slices_Contains___int_int_ (m : List T → Int → Option (Bool)) (vs : List V) (sg : Sig) : Option CallM := bif Nat.beq vs.length 2 && Nat.beq sg.length 0 then Option.bind (V.lstOf (vs.getD 0 .any)) fun u0 => Option.bind (V.intOf .i64 (vs.getD 1 .any)) fun u1 => some { α := Bool, m := m u0 u1, dflt := false, enc := fun y => ((V.t (T.sc (.bool y))), []) } else none
theorem c_slices_Contains___int_int__ok (m : List T → Int → Option (Bool)) (hm : ok_slices_Contains___int_int_ m) (vs : List V) (sg : Sig) (cm : CallM) (x : cm.α) (h : c_slices_Contains___int_int_ m vs sg = some cm) (hx : cm.m = some x) : FuncOk Try.prog 34 vs sg (cm.enc x).1 (cm.enc x).2 := by
  unfold c_slices_Contains___int_int_ at h
  have h0 := callee_sig h
  clear h
  obtain ⟨hl, hs, h⟩ := h0
  obtain ⟨u0, hu0, h⟩ := Option.bind_eq_some_iff.1 h
  obtain ⟨u1, hu1, h⟩ := Option.bind_eq_some_iff.1 h
  simp only [Option.some.injEq] at h
  subst h
  exact (hm u0 u1 x hx).wk (args_wk hl (.cons (lstOf_wk hu0) (.cons (intOf_wk hu1) .nil))) (wkSg_of hs .nil)
noncomputable def code_slices_Contains___int_int_ : Code := Try.f34.body.getD .skip
noncomputable def sp_slices_Contains___int_int_ (n : Nat) : Go.Eng.Spec := ⟨fun f vs sg => (match f with
    | 49 => c_slices_Index___int_int_ (m_slices_Index___int_int_ n) vs sg
    | _ => none), fun R key E sg K => (match key with
    | _ => none)⟩
theorem sp_slices_Contains___int_int__ok (n : Nat) : CallsOk Try.prog (sp_slices_Contains___int_int_ n) := by
  intro f vs sg cm x h hx
  simp only [sp_slices_Contains___int_int_] at h
  split at h
  · exact c_slices_Index___int_int__ok _ (m_slices_Index___int_int__ok n) vs sg cm x h hx
  · cases h
theorem code_slices_Contains___int_int__fn : Try.prog.funcs[34]? = some Try.f34 := Try.func34
theorem code_slices_Contains___int_int__body : Try.f34.body = some code_slices_Contains___int_int_ := by kernel_rfl
theorem code_slices_Contains___int_int__ok : CodeOk Try.prog code_slices_Contains___int_int_ := (sound 34 _ _ code_slices_Contains___int_int__fn code_slices_Contains___int_int__body).1
def K_slices_Contains___int_int_ (v : V) (s : Sig) : Option (Bool) := Option.bind (V.boolOf v) fun u0 => some u0
theorem K_slices_Contains___int_int__wk {v : V} {s : Sig} {r : Bool} (h : K_slices_Contains___int_int_ v s = some r) : Wk v (enc_slices_Contains___int_int_ r) ∧ WkS 0 s (encS_slices_Contains___int_int_ r) := by
  unfold K_slices_Contains___int_int_ at h
  obtain ⟨u0, hu0, h⟩ := Option.bind_eq_some_iff.1 h
  simp only [Option.some.injEq] at h
  subst h
  exact ⟨(boolOf_wk hu0), (WkS.none _)⟩
theorem m_slices_Contains___int_int__eq (n : Nat) (a0 : List T) (a1 : Int) : mF Try.prog (sp_slices_Contains___int_int_ n) 34 [(V.t (T.list a0)), (V.t (T.sc (.int .i64 a1)))] [] K_slices_Contains___int_int_ = m_slices_Contains___int_int_ n a0 a1 := by kernel_rfl
theorem m_slices_Contains___int_int__ok (n : Nat) : ok_slices_Contains___int_int_ (m_slices_Contains___int_int_ n) := fun a0 a1 r h => mF_ok sound (sp_slices_Contains___int_int__ok n) code_slices_Contains___int_int__fn code_slices_Contains___int_int__body (fun a ha => absurd ha (by rw [show loopsOf code_slices_Contains___int_int_ = [] from by kernel_rfl]; simp)) (no_scope (by kernel_rfl)) ((m_slices_Contains___int_int__eq n a0 a1).trans h) (fun v s hk => ⟨(K_slices_Contains___int_int__wk hk).1, rfl, (K_slices_Contains___int_int__wk hk).2⟩)


/-! suture/jumps.target -/
def l_jumps_target_5_B (n : Nat) (k : (List T) × Int × Int × ByteArray × ByteArray × Int × Int × Int × ByteArray × (List T) × (List T) × (List T) × (Nat × Nat) × Int × (List T) → Option (((Int × Int × ByteArray × ByteArray × Int × Int × Int × ByteArray × (List T) × (List T) × (List T) × (Nat × Nat) × Int × (List T)) ⊕ Int × ByteArray × ByteArray × Int × Int × Int × ByteArray × (List T) × (List T) × (List T) × (Nat × Nat) × Int × (List T)))) : (List T) × Int × Int × ByteArray × ByteArray × Int × Int × Int × ByteArray × (List T) × (List T) × (List T) × (Nat × Nat) × Int × (List T) → Option (((Int × Int × ByteArray × ByteArray × Int × Int × Int × ByteArray × (List T) × (List T) × (List T) × (Nat × Nat) × Int × (List T)) ⊕ Int × ByteArray × ByteArray × Int × Int × Int × ByteArray × (List T) × (List T) × (List T) × (Nat × Nat) × Int × (List T))) := fun (s0, s1, s2, s3, s4, s5, s6, s7, s8, s9, s10, s11, s12, s13, s14) =>
Option.bind (idx ((decide ((s1 : Int) < ((List.length s0 : Nat) : Int)))) [.int .i64, .str, .str, .int .i64, .int .i64, .int .i64, .str, .list, .list, .list, .cplx .f64, .int .i64, .list] s0 s1) fun y2 =>
bif (bif (decide ((s1 : Int) < ((List.length s0 : Nat) : Int))) then (((y2.cell 11).int : Int) == s13) else false) then (
Option.bind (idx true [.int .i64, .str, .str, .int .i64, .int .i64, .int .i64, .str, .list, .list, .list, .cplx .f64, .int .i64, .list] s0 s1) fun y3 =>
Option.bind (idx ((bif (((y3.cell 0).int : Int) == 10) then (ByteArray.toList (y3.cell 1).str == ByteArray.toList s3) else false)) [.int .i64] (y3.cell 12).lst (IntKind.wrap .i64 (((List.length (y3.cell 12).lst : Nat) : Int) - 1))) fun y4 =>
Option.bind (bif (bif (((y3.cell 0).int : Int) == 10) then (ByteArray.toList (y3.cell 1).str == ByteArray.toList s3) else false) then m_slices_Contains___int_int_ n s14 (y4.cell 0).int else some false) fun r5 =>
bif (bif (bif (((y3.cell 0).int : Int) == 10) then (ByteArray.toList (y3.cell 1).str == ByteArray.toList s3) else false) then r5 else false) then (
some (Sum.inl (s1, s2, s3, s4, s5, s6, s7, s8, s9, s10, s11, s12, s13, s14)))
else (
k (s0, (IntKind.wrap .i64 (s1 + 1)), s2, s3, s4, s5, s6, s7, s8, s9, s10, s11, s12, s13, s14)))
else (
some (Sum.inr (s2, s3, s4, s5, s6, s7, s8, s9, s10, s11, s12, s13, s14)))
def l_jumps_target_5 (n : Nat) : Nat → (List T) × Int × Int × ByteArray × ByteArray × Int × Int × Int × ByteArray × (List T) × (List T) × (List T) × (Nat × Nat) × Int × (List T) → Option (((Int × Int × ByteArray × ByteArray × Int × Int × Int × ByteArray × (List T) × (List T) × (List T) × (Nat × Nat) × Int × (List T)) ⊕ Int × ByteArray × ByteArray × Int × Int × Int × ByteArray × (List T) × (List T) × (List T) × (Nat × Nat) × Int × (List T)))
  | 0, _ => none
  | m + 1, s => l_jumps_target_5_B n (l_jumps_target_5 n m) s
def m_jumps_target (n : Nat) (a0 : List T) (a1 : Int) : Option (Int) :=
Option.bind (idx (!(bif (decide ((a1 : Int) < 0)) then true else (decide ((a1 : Int) ≥ ((List.length a0 : Nat) : Int))))) [.int .i64, .str, .str, .int .i64, .int .i64, .int .i64, .str, .list, .list, .list, .cplx .f64, .int .i64, .list] a0 a1) fun y0 =>
bif (bif (bif (decide ((a1 : Int) < 0)) then true else (decide ((a1 : Int) ≥ ((List.length a0 : Nat) : Int)))) then true else (((y0.cell 0).int : Int) != 9)) then (
some (-1))
else (
Option.bind (idx true [.int .i64, .str, .str, .int .i64, .int .i64, .int .i64, .str, .list, .list, .list, .cplx .f64, .int .i64, .list] a0 a1) fun y1 =>
Option.bind (l_jumps_target_5 n n (a0, (IntKind.wrap .i64 (a1 + 1)), (y1.cell 0).int, (y1.cell 1).str, (y1.cell 2).str, (y1.cell 3).int, (y1.cell 4).int, (y1.cell 5).int, (y1.cell 6).str, (y1.cell 7).lst, (y1.cell 8).lst, (y1.cell 9).lst, ((y1.cell 10).re, (y1.cell 10).im), (y1.cell 11).int, (y1.cell 12).lst)) fun x6 =>
Sum.elim (fun p7 => 
some p7.1) (fun x6' => (fun p8 => 
some (-1)) x6') x6)
def enc_jumps_target (r : Int) : V := (V.t (T.sc (.int .i64 r)))
def encS_jumps_target (r : Int) : Sig := []
def ok_jumps_target (m : List T → Int → Option (Int)) : Prop := ∀ (a0 : List T) (a1 : Int) (r : Int), m a0 a1 = some r → FuncOk Try.prog 22 [(V.t (T.list a0)), (V.t (T.sc (.int .i64 a1)))] [] (enc_jumps_target r) (encS_jumps_target r)
def c_jumps_target (m : List T → Int → Option (Int)) (vs : List V) (sg : Sig) : Option CallM := bif Nat.beq vs.length 2 && Nat.beq sg.length 0 then Option.bind (V.lstOf (vs.getD 0 .any)) fun u0 => Option.bind (V.intOf .i64 (vs.getD 1 .any)) fun u1 => some { α := Int, m := m u0 u1, dflt := 0, enc := fun y => ((V.t (T.sc (.int .i64 y))), []) } else none
theorem c_jumps_target_ok (m : List T → Int → Option (Int)) (hm : ok_jumps_target m) (vs : List V) (sg : Sig) (cm : CallM) (x : cm.α) (h : c_jumps_target m vs sg = some cm) (hx : cm.m = some x) : FuncOk Try.prog 22 vs sg (cm.enc x).1 (cm.enc x).2 := by
  unfold c_jumps_target at h
  have h0 := callee_sig h
  clear h
  obtain ⟨hl, hs, h⟩ := h0
  obtain ⟨u0, hu0, h⟩ := Option.bind_eq_some_iff.1 h
  obtain ⟨u1, hu1, h⟩ := Option.bind_eq_some_iff.1 h
  simp only [Option.some.injEq] at h
  subst h
  exact (hm u0 u1 x hx).wk (args_wk hl (.cons (lstOf_wk hu0) (.cons (intOf_wk hu1) .nil))) (wkSg_of hs .nil)
noncomputable def code_jumps_target : Code := Try.f22.body.getD .skip
def l_jumps_target_5_S (n : Nat) (R : Type) (E : SEnv) (sg : Sig) (K : Ex → SEnv → Sig → Option R) : Option R := Option.bind (V.lstOf (SEnv.at E 0)) fun u0 => Option.bind (V.ptrOf 0 0 (SEnv.at E 5)) fun u1 => Option.bind (V.intOf .i64 (SEnv.at E 6)) fun u2 => Option.bind (cellsN 13 sg 0) fun u3 => Option.bind (V.intOf .i64 (u3.getD 0 .any)) fun u4 => Option.bind (V.strOf (u3.getD 1 .any)) fun u5 => Option.bind (V.strOf (u3.getD 2 .any)) fun u6 => Option.bind (V.intOf .i64 (u3.getD 3 .any)) fun u7 => Option.bind (V.intOf .i64 (u3.getD 4 .any)) fun u8 => Option.bind (V.intOf .i64 (u3.getD 5 .any)) fun u9 => Option.bind (V.strOf (u3.getD 6 .any)) fun u10 => Option.bind (V.lstOf (u3.getD 7 .any)) fun u11 => Option.bind (V.lstOf (u3.getD 8 .any)) fun u12 => Option.bind (V.lstOf (u3.getD 9 .any)) fun u13 => Option.bind (V.cplxOf .f64 (u3.getD 10 .any)) fun u14 => Option.bind (V.intOf .i64 (u3.getD 11 .any)) fun u15 => Option.bind (V.lstOf (u3.getD 12 .any)) fun u16 => Option.bind (l_jumps_target_5 n n (u0, u2, u4, u5, u6, u7, u8, u9, u10, u11, u12, u13, u14, u15, u16)) fun y => Sum.elim (fun p0 => K .ret [(4, (V.t (T.sc (.int .i64 p0.1))))] [some [(V.t (T.sc (.int .i64 p0.2.1))), (V.t (T.sc (.string p0.2.2.1))), (V.t (T.sc (.string p0.2.2.2.1))), (V.t (T.sc (.int .i64 p0.2.2.2.2.1))), (V.t (T.sc (.int .i64 p0.2.2.2.2.2.1))), (V.t (T.sc (.int .i64 p0.2.2.2.2.2.2.1))), (V.t (T.sc (.string p0.2.2.2.2.2.2.2.1))), (V.t (T.list p0.2.2.2.2.2.2.2.2.1)), (V.t (T.list p0.2.2.2.2.2.2.2.2.2.1)), (V.t (T.list p0.2.2.2.2.2.2.2.2.2.2.1)), (V.t (T.sc (.complex .f64 p0.2.2.2.2.2.2.2.2.2.2.2.1.1 p0.2.2.2.2.2.2.2.2.2.2.2.1.2))), (V.t (T.sc (.int .i64 p0.2.2.2.2.2.2.2.2.2.2.2.2.1))), (V.t (T.list p0.2.2.2.2.2.2.2.2.2.2.2.2.2))]]) (fun y' => (fun p1 => K (.exit 0) [] [some [(V.t (T.sc (.int .i64 p1.1))), (V.t (T.sc (.string p1.2.1))), (V.t (T.sc (.string p1.2.2.1))), (V.t (T.sc (.int .i64 p1.2.2.2.1))), (V.t (T.sc (.int .i64 p1.2.2.2.2.1))), (V.t (T.sc (.int .i64 p1.2.2.2.2.2.1))), (V.t (T.sc (.string p1.2.2.2.2.2.2.1))), (V.t (T.list p1.2.2.2.2.2.2.2.1)), (V.t (T.list p1.2.2.2.2.2.2.2.2.1)), (V.t (T.list p1.2.2.2.2.2.2.2.2.2.1)), (V.t (T.sc (.complex .f64 p1.2.2.2.2.2.2.2.2.2.2.1.1 p1.2.2.2.2.2.2.2.2.2.2.1.2))), (V.t (T.sc (.int .i64 p1.2.2.2.2.2.2.2.2.2.2.2.1))), (V.t (T.list p1.2.2.2.2.2.2.2.2.2.2.2.2))]]) y') y
noncomputable def sp_jumps_target (n : Nat) : Go.Eng.Spec := ⟨fun f vs sg => (match f with
    | 34 => c_slices_Contains___int_int_ (m_slices_Contains___int_int_ n) vs sg
    | _ => none), fun R key E sg K => (match key with
    | 5 => l_jumps_target_5_S n R E sg K
    | _ => none)⟩
theorem sp_jumps_target_ok (n : Nat) : CallsOk Try.prog (sp_jumps_target n) := by
  intro f vs sg cm x h hx
  simp only [sp_jumps_target] at h
  split at h
  · exact c_slices_Contains___int_int__ok _ (m_slices_Contains___int_int__ok n) vs sg cm x h hx
  · cases h
theorem code_jumps_target_fn : Try.prog.funcs[22]? = some Try.f22 := Try.func22
theorem code_jumps_target_body : Try.f22.body = some code_jumps_target := by kernel_rfl
theorem code_jumps_target_ok : CodeOk Try.prog code_jumps_target := (sound 22 _ _ code_jumps_target_fn code_jumps_target_body).1
noncomputable def code_l_jumps_target_5 : Code := (loopsOf code_jumps_target).getD 0 .skip
theorem code_l_jumps_target_5_ok : CodeOk Try.prog code_l_jumps_target_5 := codeOk_loops code_jumps_target_ok _ (getD_mem (by kernel_rfl))
def l_jumps_target_5_K (k : (List T) × Int × Int × ByteArray × ByteArray × Int × Int × Int × ByteArray × (List T) × (List T) × (List T) × (Nat × Nat) × Int × (List T) → Option (((Int × Int × ByteArray × ByteArray × Int × Int × Int × ByteArray × (List T) × (List T) × (List T) × (Nat × Nat) × Int × (List T)) ⊕ Int × ByteArray × ByteArray × Int × Int × Int × ByteArray × (List T) × (List T) × (List T) × (Nat × Nat) × Int × (List T)))) : Ex → SEnv → Sig → Option (((Int × Int × ByteArray × ByteArray × Int × Int × Int × ByteArray × (List T) × (List T) × (List T) × (Nat × Nat) × Int × (List T)) ⊕ Int × ByteArray × ByteArray × Int × Int × Int × ByteArray × (List T) × (List T) × (List T) × (Nat × Nat) × Int × (List T))) := fun x E sg => match x with
  | .normal => Option.bind (V.lstOf (SEnv.at E 0)) fun u0 => Option.bind (V.ptrOf 0 0 (SEnv.at E 5)) fun u1 => Option.bind (V.intOf .i64 (SEnv.at E 6)) fun u2 => Option.bind (cellsN 13 sg 0) fun u3 => Option.bind (V.intOf .i64 (u3.getD 0 .any)) fun u4 => Option.bind (V.strOf (u3.getD 1 .any)) fun u5 => Option.bind (V.strOf (u3.getD 2 .any)) fun u6 => Option.bind (V.intOf .i64 (u3.getD 3 .any)) fun u7 => Option.bind (V.intOf .i64 (u3.getD 4 .any)) fun u8 => Option.bind (V.intOf .i64 (u3.getD 5 .any)) fun u9 => Option.bind (V.strOf (u3.getD 6 .any)) fun u10 => Option.bind (V.lstOf (u3.getD 7 .any)) fun u11 => Option.bind (V.lstOf (u3.getD 8 .any)) fun u12 => Option.bind (V.lstOf (u3.getD 9 .any)) fun u13 => Option.bind (V.cplxOf .f64 (u3.getD 10 .any)) fun u14 => Option.bind (V.intOf .i64 (u3.getD 11 .any)) fun u15 => Option.bind (V.lstOf (u3.getD 12 .any)) fun u16 => k (u0, u2, u4, u5, u6, u7, u8, u9, u10, u11, u12, u13, u14, u15, u16)
  | .ret => Option.bind (V.intOf .i64 (SEnv.at E 4)) fun u0 => Option.bind (cellsN 13 sg 0) fun u1 => Option.bind (V.intOf .i64 (u1.getD 0 .any)) fun u2 => Option.bind (V.strOf (u1.getD 1 .any)) fun u3 => Option.bind (V.strOf (u1.getD 2 .any)) fun u4 => Option.bind (V.intOf .i64 (u1.getD 3 .any)) fun u5 => Option.bind (V.intOf .i64 (u1.getD 4 .any)) fun u6 => Option.bind (V.intOf .i64 (u1.getD 5 .any)) fun u7 => Option.bind (V.strOf (u1.getD 6 .any)) fun u8 => Option.bind (V.lstOf (u1.getD 7 .any)) fun u9 => Option.bind (V.lstOf (u1.getD 8 .any)) fun u10 => Option.bind (V.lstOf (u1.getD 9 .any)) fun u11 => Option.bind (V.cplxOf .f64 (u1.getD 10 .any)) fun u12 => Option.bind (V.intOf .i64 (u1.getD 11 .any)) fun u13 => Option.bind (V.lstOf (u1.getD 12 .any)) fun u14 => some (Sum.inl (u0, u2, u3, u4, u5, u6, u7, u8, u9, u10, u11, u12, u13, u14))
  | (.exit 0) => Option.bind (cellsN 13 sg 0) fun u0 => Option.bind (V.intOf .i64 (u0.getD 0 .any)) fun u1 => Option.bind (V.strOf (u0.getD 1 .any)) fun u2 => Option.bind (V.strOf (u0.getD 2 .any)) fun u3 => Option.bind (V.intOf .i64 (u0.getD 3 .any)) fun u4 => Option.bind (V.intOf .i64 (u0.getD 4 .any)) fun u5 => Option.bind (V.intOf .i64 (u0.getD 5 .any)) fun u6 => Option.bind (V.strOf (u0.getD 6 .any)) fun u7 => Option.bind (V.lstOf (u0.getD 7 .any)) fun u8 => Option.bind (V.lstOf (u0.getD 8 .any)) fun u9 => Option.bind (V.lstOf (u0.getD 9 .any)) fun u10 => Option.bind (V.cplxOf .f64 (u0.getD 10 .any)) fun u11 => Option.bind (V.intOf .i64 (u0.getD 11 .any)) fun u12 => Option.bind (V.lstOf (u0.getD 12 .any)) fun u13 => some (Sum.inr (u1, u2, u3, u4, u5, u6, u7, u8, u9, u10, u11, u12, u13))
  | _ => none
theorem l_jumps_target_5_eq (n : Nat) (k : (List T) × Int × Int × ByteArray × ByteArray × Int × Int × Int × ByteArray × (List T) × (List T) × (List T) × (Nat × Nat) × Int × (List T) → Option (((Int × Int × ByteArray × ByteArray × Int × Int × Int × ByteArray × (List T) × (List T) × (List T) × (Nat × Nat) × Int × (List T)) ⊕ Int × ByteArray × ByteArray × Int × Int × Int × ByteArray × (List T) × (List T) × (List T) × (Nat × Nat) × Int × (List T)))) (s0 : List T) (s1 : Int) (s2 : Int) (s3 : ByteArray) (s4 : ByteArray) (s5 : Int) (s6 : Int) (s7 : Int) (s8 : ByteArray) (s9 : List T) (s10 : List T) (s11 : List T) (s12 : Nat × Nat) (s13 : Int) (s14 : List T) : mX Try.prog (sp_jumps_target n) 78 code_l_jumps_target_5 [(0, (V.t (T.list s0))), (5, (V.ptr 0 0)), (6, (V.t (T.sc (.int .i64 s1))))] [some [(V.t (T.sc (.int .i64 s2))), (V.t (T.sc (.string s3))), (V.t (T.sc (.string s4))), (V.t (T.sc (.int .i64 s5))), (V.t (T.sc (.int .i64 s6))), (V.t (T.sc (.int .i64 s7))), (V.t (T.sc (.string s8))), (V.t (T.list s9)), (V.t (T.list s10)), (V.t (T.list s11)), (V.t (T.sc (.complex .f64 s12.1 s12.2))), (V.t (T.sc (.int .i64 s13))), (V.t (T.list s14))]] (l_jumps_target_5_K k) = l_jumps_target_5_B n k (s0, s1, s2, s3, s4, s5, s6, s7, s8, s9, s10, s11, s12, s13, s14) := by kernel_rfl
def l_jumps_target_5_Q (x : ((Int × Int × ByteArray × ByteArray × Int × Int × Int × ByteArray × (List T) × (List T) × (List T) × (Nat × Nat) × Int × (List T)) ⊕ Int × ByteArray × ByteArray × Int × Int × Int × ByteArray × (List T) × (List T) × (List T) × (Nat × Nat) × Int × (List T))) (ex : Ex) (e : Env) (s : Sig) : Prop := Sum.elim (fun p0 => (ex = .ret ∧ e = SEnv.env 78 [(4, (V.t (T.sc (.int .i64 p0.1))))] ∧ s = [some [(V.t (T.sc (.int .i64 p0.2.1))), (V.t (T.sc (.string p0.2.2.1))), (V.t (T.sc (.string p0.2.2.2.1))), (V.t (T.sc (.int .i64 p0.2.2.2.2.1))), (V.t (T.sc (.int .i64 p0.2.2.2.2.2.1))), (V.t (T.sc (.int .i64 p0.2.2.2.2.2.2.1))), (V.t (T.sc (.string p0.2.2.2.2.2.2.2.1))), (V.t (T.list p0.2.2.2.2.2.2.2.2.1)), (V.t (T.list p0.2.2.2.2.2.2.2.2.2.1)), (V.t (T.list p0.2.2.2.2.2.2.2.2.2.2.1)), (V.t (T.sc (.complex .f64 p0.2.2.2.2.2.2.2.2.2.2.2.1.1 p0.2.2.2.2.2.2.2.2.2.2.2.1.2))), (V.t (T.sc (.int .i64 p0.2.2.2.2.2.2.2.2.2.2.2.2.1))), (V.t (T.list p0.2.2.2.2.2.2.2.2.2.2.2.2.2))]])) (fun x' => (fun p1 => (ex = (.exit 0) ∧ e = SEnv.env 78 [] ∧ s = [some [(V.t (T.sc (.int .i64 p1.1))), (V.t (T.sc (.string p1.2.1))), (V.t (T.sc (.string p1.2.2.1))), (V.t (T.sc (.int .i64 p1.2.2.2.1))), (V.t (T.sc (.int .i64 p1.2.2.2.2.1))), (V.t (T.sc (.int .i64 p1.2.2.2.2.2.1))), (V.t (T.sc (.string p1.2.2.2.2.2.2.1))), (V.t (T.list p1.2.2.2.2.2.2.2.1)), (V.t (T.list p1.2.2.2.2.2.2.2.2.1)), (V.t (T.list p1.2.2.2.2.2.2.2.2.2.1)), (V.t (T.sc (.complex .f64 p1.2.2.2.2.2.2.2.2.2.2.1.1 p1.2.2.2.2.2.2.2.2.2.2.1.2))), (V.t (T.sc (.int .i64 p1.2.2.2.2.2.2.2.2.2.2.2.1))), (V.t (T.list p1.2.2.2.2.2.2.2.2.2.2.2.2))]])) x') x
theorem l_jumps_target_5_run (n : Nat) : ∀ (m : Nat) (s0 : List T) (s1 : Int) (s2 : Int) (s3 : ByteArray) (s4 : ByteArray) (s5 : Int) (s6 : Int) (s7 : Int) (s8 : ByteArray) (s9 : List T) (s10 : List T) (s11 : List T) (s12 : Nat × Nat) (s13 : Int) (s14 : List T) (x : ((Int × Int × ByteArray × ByteArray × Int × Int × Int × ByteArray × (List T) × (List T) × (List T) × (Nat × Nat) × Int × (List T)) ⊕ Int × ByteArray × ByteArray × Int × Int × Int × ByteArray × (List T) × (List T) × (List T) × (Nat × Nat) × Int × (List T))), l_jumps_target_5 n m (s0, s1, s2, s3, s4, s5, s6, s7, s8, s9, s10, s11, s12, s13, s14) = some x → SemL Try.prog 0 code_l_jumps_target_5 (SEnv.env 78 [(0, (V.t (T.list s0))), (5, (V.ptr 0 0)), (6, (V.t (T.sc (.int .i64 s1))))]) [some [(V.t (T.sc (.int .i64 s2))), (V.t (T.sc (.string s3))), (V.t (T.sc (.string s4))), (V.t (T.sc (.int .i64 s5))), (V.t (T.sc (.int .i64 s6))), (V.t (T.sc (.int .i64 s7))), (V.t (T.sc (.string s8))), (V.t (T.list s9)), (V.t (T.list s10)), (V.t (T.list s11)), (V.t (T.sc (.complex .f64 s12.1 s12.2))), (V.t (T.sc (.int .i64 s13))), (V.t (T.list s14))]] (l_jumps_target_5_Q x)
  | 0, s0, s1, s2, s3, s4, s5, s6, s7, s8, s9, s10, s11, s12, s13, s14, x, h => by cases h
  | m + 1, s0, s1, s2, s3, s4, s5, s6, s7, s8, s9, s10, s11, s12, s13, s14, x, h => by
    refine loop_step (sp_jumps_target_ok n) code_l_jumps_target_5_ok (fun a ha => absurd ha (by rw [show loopsOf code_l_jumps_target_5 = [] from by kernel_rfl]; simp)) (no_scope (by kernel_rfl)) ((l_jumps_target_5_eq n _ s0 s1 s2 s3 s4 s5 s6 s7 s8 s9 s10 s11 s12 s13 s14).trans h) (fun E sg h => ?_) (fun ex E sg hne h => ?_)
    · simp only [l_jumps_target_5_K] at h
      obtain ⟨u0, hu0, h⟩ := Option.bind_eq_some_iff.1 h
      obtain ⟨u1, hu1, h⟩ := Option.bind_eq_some_iff.1 h
      obtain ⟨u2, hu2, h⟩ := Option.bind_eq_some_iff.1 h
      obtain ⟨u3, hu3, h⟩ := Option.bind_eq_some_iff.1 h
      obtain ⟨u4, hu4, h⟩ := Option.bind_eq_some_iff.1 h
      obtain ⟨u5, hu5, h⟩ := Option.bind_eq_some_iff.1 h
      obtain ⟨u6, hu6, h⟩ := Option.bind_eq_some_iff.1 h
      obtain ⟨u7, hu7, h⟩ := Option.bind_eq_some_iff.1 h
      obtain ⟨u8, hu8, h⟩ := Option.bind_eq_some_iff.1 h
      obtain ⟨u9, hu9, h⟩ := Option.bind_eq_some_iff.1 h
      obtain ⟨u10, hu10, h⟩ := Option.bind_eq_some_iff.1 h
      obtain ⟨u11, hu11, h⟩ := Option.bind_eq_some_iff.1 h
      obtain ⟨u12, hu12, h⟩ := Option.bind_eq_some_iff.1 h
      obtain ⟨u13, hu13, h⟩ := Option.bind_eq_some_iff.1 h
      obtain ⟨u14, hu14, h⟩ := Option.bind_eq_some_iff.1 h
      obtain ⟨u15, hu15, h⟩ := Option.bind_eq_some_iff.1 h
      obtain ⟨u16, hu16, h⟩ := Option.bind_eq_some_iff.1 h
      exact SemL.pre (k := 1) (by decide) (WkA.env (WkA.cons (lstOf_wk hu0) rfl (WkA.cons (ptrOf_wk hu1) rfl (WkA.cons (intOf_wk hu2) rfl WkA.nil))) 78) (wkR_sig (WkR.cons (cellsN_wk hu3 (.cons (intOf_wk hu4) (.cons (strOf_wk hu5) (.cons (strOf_wk hu6) (.cons (intOf_wk hu7) (.cons (intOf_wk hu8) (.cons (intOf_wk hu9) (.cons (strOf_wk hu10) (.cons (lstOf_wk hu11) (.cons (lstOf_wk hu12) (.cons (lstOf_wk hu13) (.cons (cplxOf_wk hu14) (.cons (intOf_wk hu15) (.cons (lstOf_wk hu16) .nil)))))))))))))).1 (cellsN_wk hu3 (.cons (intOf_wk hu4) (.cons (strOf_wk hu5) (.cons (strOf_wk hu6) (.cons (intOf_wk hu7) (.cons (intOf_wk hu8) (.cons (intOf_wk hu9) (.cons (strOf_wk hu10) (.cons (lstOf_wk hu11) (.cons (lstOf_wk hu12) (.cons (lstOf_wk hu13) (.cons (cplxOf_wk hu14) (.cons (intOf_wk hu15) (.cons (lstOf_wk hu16) .nil)))))))))))))).2 (renL_mem (.cons rfl (.cons rfl (.cons rfl (.cons rfl (.cons rfl (.cons rfl (.cons rfl (.cons rfl (.cons rfl (.cons rfl (.cons rfl (.cons rfl (.cons rfl .nil)))))))))))))) (WkR.nil _)) rfl) (l_jumps_target_5_run n m _ _ _ _ _ _ _ _ _ _ _ _ _ _ _ x h)
    · unfold l_jumps_target_5_K at h
      split at h
      · exact absurd rfl hne
      · obtain ⟨u0, hu0, h⟩ := Option.bind_eq_some_iff.1 h
        obtain ⟨u1, hu1, h⟩ := Option.bind_eq_some_iff.1 h
        obtain ⟨u2, hu2, h⟩ := Option.bind_eq_some_iff.1 h
        obtain ⟨u3, hu3, h⟩ := Option.bind_eq_some_iff.1 h
        obtain ⟨u4, hu4, h⟩ := Option.bind_eq_some_iff.1 h
        obtain ⟨u5, hu5, h⟩ := Option.bind_eq_some_iff.1 h
        obtain ⟨u6, hu6, h⟩ := Option.bind_eq_some_iff.1 h
        obtain ⟨u7, hu7, h⟩ := Option.bind_eq_some_iff.1 h
        obtain ⟨u8, hu8, h⟩ := Option.bind_eq_some_iff.1 h
        obtain ⟨u9, hu9, h⟩ := Option.bind_eq_some_iff.1 h
        obtain ⟨u10, hu10, h⟩ := Option.bind_eq_some_iff.1 h
        obtain ⟨u11, hu11, h⟩ := Option.bind_eq_some_iff.1 h
        obtain ⟨u12, hu12, h⟩ := Option.bind_eq_some_iff.1 h
        obtain ⟨u13, hu13, h⟩ := Option.bind_eq_some_iff.1 h
        obtain ⟨u14, hu14, h⟩ := Option.bind_eq_some_iff.1 h
        simp only [Option.some.injEq] at h
        subst h
        exact ⟨1, _, _, by decide, WkA.env (WkA.cons (intOf_wk hu0) rfl WkA.nil) 78, (wkR_sig (WkR.cons (cellsN_wk hu1 (.cons (intOf_wk hu2) (.cons (strOf_wk hu3) (.cons (strOf_wk hu4) (.cons (intOf_wk hu5) (.cons (intOf_wk hu6) (.cons (intOf_wk hu7) (.cons (strOf_wk hu8) (.cons (lstOf_wk hu9) (.cons (lstOf_wk hu10) (.cons (lstOf_wk hu11) (.cons (cplxOf_wk hu12) (.cons (intOf_wk hu13) (.cons (lstOf_wk hu14) .nil)))))))))))))).1 (cellsN_wk hu1 (.cons (intOf_wk hu2) (.cons (strOf_wk hu3) (.cons (strOf_wk hu4) (.cons (intOf_wk hu5) (.cons (intOf_wk hu6) (.cons (intOf_wk hu7) (.cons (strOf_wk hu8) (.cons (lstOf_wk hu9) (.cons (lstOf_wk hu10) (.cons (lstOf_wk hu11) (.cons (cplxOf_wk hu12) (.cons (intOf_wk hu13) (.cons (lstOf_wk hu14) .nil)))))))))))))).2 (renL_mem (.cons rfl (.cons rfl (.cons rfl (.cons rfl (.cons rfl (.cons rfl (.cons rfl (.cons rfl (.cons rfl (.cons rfl (.cons rfl (.cons rfl (.cons rfl .nil)))))))))))))) (WkR.nil _)) rfl), rfl, rfl, rfl⟩
      · obtain ⟨u0, hu0, h⟩ := Option.bind_eq_some_iff.1 h
        obtain ⟨u1, hu1, h⟩ := Option.bind_eq_some_iff.1 h
        obtain ⟨u2, hu2, h⟩ := Option.bind_eq_some_iff.1 h
        obtain ⟨u3, hu3, h⟩ := Option.bind_eq_some_iff.1 h
        obtain ⟨u4, hu4, h⟩ := Option.bind_eq_some_iff.1 h
        obtain ⟨u5, hu5, h⟩ := Option.bind_eq_some_iff.1 h
        obtain ⟨u6, hu6, h⟩ := Option.bind_eq_some_iff.1 h
        obtain ⟨u7, hu7, h⟩ := Option.bind_eq_some_iff.1 h
        obtain ⟨u8, hu8, h⟩ := Option.bind_eq_some_iff.1 h
        obtain ⟨u9, hu9, h⟩ := Option.bind_eq_some_iff.1 h
        obtain ⟨u10, hu10, h⟩ := Option.bind_eq_some_iff.1 h
        obtain ⟨u11, hu11, h⟩ := Option.bind_eq_some_iff.1 h
        obtain ⟨u12, hu12, h⟩ := Option.bind_eq_some_iff.1 h
        obtain ⟨u13, hu13, h⟩ := Option.bind_eq_some_iff.1 h
        simp only [Option.some.injEq] at h
        subst h
        exact ⟨1, _, _, by decide, WkA.env WkA.nil 78, (wkR_sig (WkR.cons (cellsN_wk hu0 (.cons (intOf_wk hu1) (.cons (strOf_wk hu2) (.cons (strOf_wk hu3) (.cons (intOf_wk hu4) (.cons (intOf_wk hu5) (.cons (intOf_wk hu6) (.cons (strOf_wk hu7) (.cons (lstOf_wk hu8) (.cons (lstOf_wk hu9) (.cons (lstOf_wk hu10) (.cons (cplxOf_wk hu11) (.cons (intOf_wk hu12) (.cons (lstOf_wk hu13) .nil)))))))))))))).1 (cellsN_wk hu0 (.cons (intOf_wk hu1) (.cons (strOf_wk hu2) (.cons (strOf_wk hu3) (.cons (intOf_wk hu4) (.cons (intOf_wk hu5) (.cons (intOf_wk hu6) (.cons (strOf_wk hu7) (.cons (lstOf_wk hu8) (.cons (lstOf_wk hu9) (.cons (lstOf_wk hu10) (.cons (cplxOf_wk hu11) (.cons (intOf_wk hu12) (.cons (lstOf_wk hu13) .nil)))))))))))))).2 (renL_mem (.cons rfl (.cons rfl (.cons rfl (.cons rfl (.cons rfl (.cons rfl (.cons rfl (.cons rfl (.cons rfl (.cons rfl (.cons rfl (.cons rfl (.cons rfl .nil)))))))))))))) (WkR.nil _)) rfl), rfl, rfl, rfl⟩
      · cases h
theorem l_jumps_target_5_ok (n : Nat) : LoopOk Try.prog (sp_jumps_target n) 0 78 code_l_jumps_target_5 := by
    intro R key E sg K r hk h
    rw [show Go.Eng.keyOf code_l_jumps_target_5 = some 5 from by kernel_rfl] at hk
    cases hk
    have h : l_jumps_target_5_S n R E sg K = some r := h
    unfold l_jumps_target_5_S at h
    obtain ⟨u0, hu0, h⟩ := Option.bind_eq_some_iff.1 h
    obtain ⟨u1, hu1, h⟩ := Option.bind_eq_some_iff.1 h
    obtain ⟨u2, hu2, h⟩ := Option.bind_eq_some_iff.1 h
    obtain ⟨u3, hu3, h⟩ := Option.bind_eq_some_iff.1 h
    obtain ⟨u4, hu4, h⟩ := Option.bind_eq_some_iff.1 h
    obtain ⟨u5, hu5, h⟩ := Option.bind_eq_some_iff.1 h
    obtain ⟨u6, hu6, h⟩ := Option.bind_eq_some_iff.1 h
    obtain ⟨u7, hu7, h⟩ := Option.bind_eq_some_iff.1 h
    obtain ⟨u8, hu8, h⟩ := Option.bind_eq_some_iff.1 h
    obtain ⟨u9, hu9, h⟩ := Option.bind_eq_some_iff.1 h
    obtain ⟨u10, hu10, h⟩ := Option.bind_eq_some_iff.1 h
    obtain ⟨u11, hu11, h⟩ := Option.bind_eq_some_iff.1 h
    obtain ⟨u12, hu12, h⟩ := Option.bind_eq_some_iff.1 h
    obtain ⟨u13, hu13, h⟩ := Option.bind_eq_some_iff.1 h
    obtain ⟨u14, hu14, h⟩ := Option.bind_eq_some_iff.1 h
    obtain ⟨u15, hu15, h⟩ := Option.bind_eq_some_iff.1 h
    obtain ⟨u16, hu16, h⟩ := Option.bind_eq_some_iff.1 h
    obtain ⟨x, hx, h⟩ := Option.bind_eq_some_iff.1 h
    refine (SemL.pre (k := 1) (by decide) (WkA.env (WkA.cons (lstOf_wk hu0) rfl (WkA.cons (ptrOf_wk hu1) rfl (WkA.cons (intOf_wk hu2) rfl WkA.nil))) 78) (wkR_sig (WkR.cons (cellsN_wk hu3 (.cons (intOf_wk hu4) (.cons (strOf_wk hu5) (.cons (strOf_wk hu6) (.cons (intOf_wk hu7) (.cons (intOf_wk hu8) (.cons (intOf_wk hu9) (.cons (strOf_wk hu10) (.cons (lstOf_wk hu11) (.cons (lstOf_wk hu12) (.cons (lstOf_wk hu13) (.cons (cplxOf_wk hu14) (.cons (intOf_wk hu15) (.cons (lstOf_wk hu16) .nil)))))))))))))).1 (cellsN_wk hu3 (.cons (intOf_wk hu4) (.cons (strOf_wk hu5) (.cons (strOf_wk hu6) (.cons (intOf_wk hu7) (.cons (intOf_wk hu8) (.cons (intOf_wk hu9) (.cons (strOf_wk hu10) (.cons (lstOf_wk hu11) (.cons (lstOf_wk hu12) (.cons (lstOf_wk hu13) (.cons (cplxOf_wk hu14) (.cons (intOf_wk hu15) (.cons (lstOf_wk hu16) .nil)))))))))))))).2 (renL_mem (.cons rfl (.cons rfl (.cons rfl (.cons rfl (.cons rfl (.cons rfl (.cons rfl (.cons rfl (.cons rfl (.cons rfl (.cons rfl (.cons rfl (.cons rfl .nil)))))))))))))) (WkR.nil _)) rfl) (l_jumps_target_5_run n n _ _ _ _ _ _ _ _ _ _ _ _ _ _ _ x hx)).mono ?_
    intro ex e s hq
    rcases x with x | x <;> (obtain ⟨rfl, rfl, rfl⟩ := hq; exact ⟨_, rfl, h⟩) -- 5
def K_jumps_target (v : V) (s : Sig) : Option (Int) := Option.bind (V.intOf .i64 v) fun u0 => some u0
theorem K_jumps_target_wk {v : V} {s : Sig} {r : Int} (h : K_jumps_target v s = some r) : Wk v (enc_jumps_target r) ∧ WkS 0 s (encS_jumps_target r) := by
  unfold K_jumps_target at h
  obtain ⟨u0, hu0, h⟩ := Option.bind_eq_some_iff.1 h
  simp only [Option.some.injEq] at h
  subst h
  exact ⟨(intOf_wk hu0), (WkS.none _)⟩
theorem m_jumps_target_eq (n : Nat) (a0 : List T) (a1 : Int) : mF Try.prog (sp_jumps_target n) 22 [(V.t (T.list a0)), (V.t (T.sc (.int .i64 a1)))] [] K_jumps_target = m_jumps_target n a0 a1 := by kernel_rfl
theorem m_jumps_target_ok (n : Nat) : ok_jumps_target (m_jumps_target n) := fun a0 a1 r h => mF_ok sound (sp_jumps_target_ok n) code_jumps_target_fn code_jumps_target_body (forall_getD (d := .skip) 1 (by kernel_rfl) (fun i hi => match i, hi with | 0, _ => l_jumps_target_5_ok n | i + 1, hi => absurd hi (by omega))) (no_scope (by kernel_rfl)) ((m_jumps_target_eq n a0 a1).trans h) (fun v s hk => ⟨(K_jumps_target_wk hk).1, rfl, (K_jumps_target_wk hk).2⟩)


/-! suture/jumps.Check -/
def l_jumps_Check_3_B (n : Nat) (k : (List T) × (List T) × Int × Int × (List T) × (List T) → Option ((((Nat × Nat) × Int × (List T) × (List T)) ⊕ (List T) × (List T)))) : (List T) × (List T) × Int × Int × (List T) × (List T) → Option ((((Nat × Nat) × Int × (List T) × (List T)) ⊕ (List T) × (List T))) := fun (s0, s1, s2, s3, s4, s5) =>
bif (decide ((s3 : Int) < s2)) then (
Option.bind (idx true [.int .i64, .str, .str, .int .i64, .int .i64, .int .i64, .str, .list, .list, .list, .cplx .f64, .int .i64, .list] s1 s3) fun y1 =>
Option.bind (m_jumps_twice n s0 s3) fun r2 =>
Option.bind (bif (!r2 && (((y1.cell 0).int : Int) == 9)) then m_jumps_target n s0 s3 else some 0) fun r3 =>
bif (bif r2 then true else (bif (((y1.cell 0).int : Int) == 9) then (decide ((r3 : Int) < 0)) else false)) then (
some (Sum.inl (((y1.cell 10).re, (y1.cell 10).im), 4, s4, s5)))
else (
k (s0, s1, s2, (IntKind.wrap .i64 (s3 + 1)), s4, s5)))
else (
some (Sum.inr (s4, s5)))
def l_jumps_Check_3 (n : Nat) : Nat → (List T) × (List T) × Int × Int × (List T) × (List T) → Option ((((Nat × Nat) × Int × (List T) × (List T)) ⊕ (List T) × (List T)))
  | 0, _ => none
  | m + 1, s => l_jumps_Check_3_B n (l_jumps_Check_3 n m) s
def m_jumps_Check (n : Nat) (a0 : List T) (a1 : List T) : Option ((Nat × Nat) × Int) :=
Option.bind (m_jumps_all n a0 a1) fun r0 =>
Option.bind (l_jumps_Check_3 n n (r0, r0, ((List.length r0 : Nat) : Int), 0, a0, a1)) fun x4 =>
Sum.elim (fun p5 => 
some (p5.1, p5.2.1)) (fun x4' => (fun p6 => 
some ((0, 0), 0)) x4') x4
def enc_jumps_Check (r : (Nat × Nat) × Int) : V := (V.tup [(V.t (T.sc (.complex .f64 r.1.1 r.1.2))), (V.t (T.sc (.int .i64 r.2)))])
def encS_jumps_Check (r : (Nat × Nat) × Int) : Sig := []
def ok_jumps_Check (m : List T → List T → Option ((Nat × Nat) × Int)) : Prop := ∀ (a0 : List T) (a1 : List T) (r : (Nat × Nat) × Int), m a0 a1 = some r → FuncOk Try.prog 7 [(V.agg [(V.t (T.list a0)), (V.t (T.list a1))])] [] (enc_jumps_Check r) (encS_jumps_Check r)
def c_jumps_Check (m : List T → List T → Option ((Nat × Nat) × Int)) (vs : List V) (sg : Sig) : Option CallM := bif Nat.beq vs.length 1 && Nat.beq sg.length 0 then Option.bind (V.aggN 2 (vs.getD 0 .any)) fun u0 => Option.bind (V.lstOf (u0.getD 0 .any)) fun u1 => Option.bind (V.lstOf (u0.getD 1 .any)) fun u2 => some { α := (Nat × Nat) × Int, m := m u1 u2, dflt := ((0, 0), 0), enc := fun y => ((V.tup [(V.t (T.sc (.complex .f64 y.1.1 y.1.2))), (V.t (T.sc (.int .i64 y.2)))]), []) } else none
theorem c_jumps_Check_ok (m : List T → List T → Option ((Nat × Nat) × Int)) (hm : ok_jumps_Check m) (vs : List V) (sg : Sig) (cm : CallM) (x : cm.α) (h : c_jumps_Check m vs sg = some cm) (hx : cm.m = some x) : FuncOk Try.prog 7 vs sg (cm.enc x).1 (cm.enc x).2 := by
  unfold c_jumps_Check at h
  have h0 := callee_sig h
  clear h
  obtain ⟨hl, hs, h⟩ := h0
  obtain ⟨u0, hu0, h⟩ := Option.bind_eq_some_iff.1 h
  obtain ⟨u1, hu1, h⟩ := Option.bind_eq_some_iff.1 h
  obtain ⟨u2, hu2, h⟩ := Option.bind_eq_some_iff.1 h
  simp only [Option.some.injEq] at h
  subst h
  exact (hm u1 u2 x hx).wk (args_wk hl (.cons (aggN_wk hu0 (.cons (lstOf_wk hu1) (.cons (lstOf_wk hu2) .nil))) .nil)) (wkSg_of hs .nil)
noncomputable def code_jumps_Check : Code := Try.f7.body.getD .skip
def l_jumps_Check_3_S (n : Nat) (R : Type) (E : SEnv) (sg : Sig) (K : Ex → SEnv → Sig → Option R) : Option R := Option.bind (V.ownOf 13 (SEnv.at E 4)) fun u0 => Option.bind (V.lstOf (SEnv.at E 9)) fun u1 => Option.bind (V.intOf .i64 (SEnv.at E 10)) fun u2 => Option.bind (V.intOf .i64 (SEnv.at E 11)) fun u3 => Option.bind (cellsN 2 sg 0) fun u4 => Option.bind (V.lstOf (u4.getD 0 .any)) fun u5 => Option.bind (V.lstOf (u4.getD 1 .any)) fun u6 => Option.bind (l_jumps_Check_3 n n (u0, u1, u2, u3, u5, u6)) fun y => Sum.elim (fun p0 => K .ret [(2, (V.t (T.sc (.complex .f64 p0.1.1 p0.1.2)))), (3, (V.t (T.sc (.int .i64 p0.2.1))))] [some [(V.t (T.list p0.2.2.1)), (V.t (T.list p0.2.2.2))]]) (fun y' => (fun p1 => K (.exit 0) [] [some [(V.t (T.list p1.1)), (V.t (T.list p1.2))]]) y') y
noncomputable def sp_jumps_Check (n : Nat) : Go.Eng.Spec := ⟨fun f vs sg => (match f with
    | 20 => c_jumps_all (m_jumps_all n) vs sg
    | 21 => c_jumps_twice (m_jumps_twice n) vs sg
    | 22 => c_jumps_target (m_jumps_target n) vs sg
    | _ => none), fun R key E sg K => (match key with
    | 3 => l_jumps_Check_3_S n R E sg K
    | _ => none)⟩
theorem sp_jumps_Check_ok (n : Nat) : CallsOk Try.prog (sp_jumps_Check n) := by
  intro f vs sg cm x h hx
  simp only [sp_jumps_Check] at h
  split at h
  · exact c_jumps_all_ok _ (m_jumps_all_ok n) vs sg cm x h hx
  · exact c_jumps_twice_ok _ (m_jumps_twice_ok n) vs sg cm x h hx
  · exact c_jumps_target_ok _ (m_jumps_target_ok n) vs sg cm x h hx
  · cases h
theorem code_jumps_Check_fn : Try.prog.funcs[7]? = some Try.f7 := Try.func7
theorem code_jumps_Check_body : Try.f7.body = some code_jumps_Check := by kernel_rfl
theorem code_jumps_Check_ok : CodeOk Try.prog code_jumps_Check := (sound 7 _ _ code_jumps_Check_fn code_jumps_Check_body).1
noncomputable def code_l_jumps_Check_3 : Code := (loopsOf code_jumps_Check).getD 0 .skip
theorem code_l_jumps_Check_3_ok : CodeOk Try.prog code_l_jumps_Check_3 := codeOk_loops code_jumps_Check_ok _ (getD_mem (by kernel_rfl))
def l_jumps_Check_3_K (k : (List T) × (List T) × Int × Int × (List T) × (List T) → Option ((((Nat × Nat) × Int × (List T) × (List T)) ⊕ (List T) × (List T)))) : Ex → SEnv → Sig → Option ((((Nat × Nat) × Int × (List T) × (List T)) ⊕ (List T) × (List T))) := fun x E sg => match x with
  | .normal => Option.bind (V.ownOf 13 (SEnv.at E 4)) fun u0 => Option.bind (V.lstOf (SEnv.at E 9)) fun u1 => Option.bind (V.intOf .i64 (SEnv.at E 10)) fun u2 => Option.bind (V.intOf .i64 (SEnv.at E 11)) fun u3 => Option.bind (cellsN 2 sg 0) fun u4 => Option.bind (V.lstOf (u4.getD 0 .any)) fun u5 => Option.bind (V.lstOf (u4.getD 1 .any)) fun u6 => k (u0, u1, u2, u3, u5, u6)
  | .ret => Option.bind (V.cplxOf .f64 (SEnv.at E 2)) fun u0 => Option.bind (V.intOf .i64 (SEnv.at E 3)) fun u1 => Option.bind (cellsN 2 sg 0) fun u2 => Option.bind (V.lstOf (u2.getD 0 .any)) fun u3 => Option.bind (V.lstOf (u2.getD 1 .any)) fun u4 => some (Sum.inl (u0, u1, u3, u4))
  | (.exit 0) => Option.bind (cellsN 2 sg 0) fun u0 => Option.bind (V.lstOf (u0.getD 0 .any)) fun u1 => Option.bind (V.lstOf (u0.getD 1 .any)) fun u2 => some (Sum.inr (u1, u2))
  | _ => none
theorem l_jumps_Check_3_eq (n : Nat) (k : (List T) × (List T) × Int × Int × (List T) × (List T) → Option ((((Nat × Nat) × Int × (List T) × (List T)) ⊕ (List T) × (List T)))) (s0 : List T) (s1 : List T) (s2 : Int) (s3 : Int) (s4 : List T) (s5 : List T) : mX Try.prog (sp_jumps_Check n) 35 code_l_jumps_Check_3 [(4, (V.own 13 s0)), (9, (V.t (T.list s1))), (10, (V.t (T.sc (.int .i64 s2)))), (11, (V.t (T.sc (.int .i64 s3))))] [some [(V.t (T.list s4)), (V.t (T.list s5))]] (l_jumps_Check_3_K k) = l_jumps_Check_3_B n k (s0, s1, s2, s3, s4, s5) := by kernel_rfl
def l_jumps_Check_3_Q (x : (((Nat × Nat) × Int × (List T) × (List T)) ⊕ (List T) × (List T))) (ex : Ex) (e : Env) (s : Sig) : Prop := Sum.elim (fun p0 => (ex = .ret ∧ e = SEnv.env 35 [(2, (V.t (T.sc (.complex .f64 p0.1.1 p0.1.2)))), (3, (V.t (T.sc (.int .i64 p0.2.1))))] ∧ s = [some [(V.t (T.list p0.2.2.1)), (V.t (T.list p0.2.2.2))]])) (fun x' => (fun p1 => (ex = (.exit 0) ∧ e = SEnv.env 35 [] ∧ s = [some [(V.t (T.list p1.1)), (V.t (T.list p1.2))]])) x') x
theorem l_jumps_Check_3_run (n : Nat) : ∀ (m : Nat) (s0 : List T) (s1 : List T) (s2 : Int) (s3 : Int) (s4 : List T) (s5 : List T) (x : (((Nat × Nat) × Int × (List T) × (List T)) ⊕ (List T) × (List T))), l_jumps_Check_3 n m (s0, s1, s2, s3, s4, s5) = some x → SemL Try.prog 0 code_l_jumps_Check_3 (SEnv.env 35 [(4, (V.own 13 s0)), (9, (V.t (T.list s1))), (10, (V.t (T.sc (.int .i64 s2)))), (11, (V.t (T.sc (.int .i64 s3))))]) [some [(V.t (T.list s4)), (V.t (T.list s5))]] (l_jumps_Check_3_Q x)
  | 0, s0, s1, s2, s3, s4, s5, x, h => by cases h
  | m + 1, s0, s1, s2, s3, s4, s5, x, h => by
    refine loop_step (sp_jumps_Check_ok n) code_l_jumps_Check_3_ok (fun a ha => absurd ha (by rw [show loopsOf code_l_jumps_Check_3 = [] from by kernel_rfl]; simp)) (no_scope (by kernel_rfl)) ((l_jumps_Check_3_eq n _ s0 s1 s2 s3 s4 s5).trans h) (fun E sg h => ?_) (fun ex E sg hne h => ?_)
    · simp only [l_jumps_Check_3_K] at h
      obtain ⟨u0, hu0, h⟩ := Option.bind_eq_some_iff.1 h
      obtain ⟨u1, hu1, h⟩ := Option.bind_eq_some_iff.1 h
      obtain ⟨u2, hu2, h⟩ := Option.bind_eq_some_iff.1 h
      obtain ⟨u3, hu3, h⟩ := Option.bind_eq_some_iff.1 h
      obtain ⟨u4, hu4, h⟩ := Option.bind_eq_some_iff.1 h
      obtain ⟨u5, hu5, h⟩ := Option.bind_eq_some_iff.1 h
      obtain ⟨u6, hu6, h⟩ := Option.bind_eq_some_iff.1 h
      exact SemL.pre (k := 1) (by decide) (WkA.env (WkA.cons (ownOf_wk hu0) rfl (WkA.cons (lstOf_wk hu1) rfl (WkA.cons (intOf_wk hu2) rfl (WkA.cons (intOf_wk hu3) rfl WkA.nil)))) 35) (wkR_sig (WkR.cons (cellsN_wk hu4 (.cons (lstOf_wk hu5) (.cons (lstOf_wk hu6) .nil))).1 (cellsN_wk hu4 (.cons (lstOf_wk hu5) (.cons (lstOf_wk hu6) .nil))).2 (renL_mem (.cons rfl (.cons rfl .nil))) (WkR.nil _)) rfl) (l_jumps_Check_3_run n m _ _ _ _ _ _ x h)
    · unfold l_jumps_Check_3_K at h
      split at h
      · exact absurd rfl hne
      · obtain ⟨u0, hu0, h⟩ := Option.bind_eq_some_iff.1 h
        obtain ⟨u1, hu1, h⟩ := Option.bind_eq_some_iff.1 h
        obtain ⟨u2, hu2, h⟩ := Option.bind_eq_some_iff.1 h
        obtain ⟨u3, hu3, h⟩ := Option.bind_eq_some_iff.1 h
        obtain ⟨u4, hu4, h⟩ := Option.bind_eq_some_iff.1 h
        simp only [Option.some.injEq] at h
        subst h
        exact ⟨1, _, _, by decide, WkA.env (WkA.cons (cplxOf_wk hu0) rfl (WkA.cons (intOf_wk hu1) rfl WkA.nil)) 35, (wkR_sig (WkR.cons (cellsN_wk hu2 (.cons (lstOf_wk hu3) (.cons (lstOf_wk hu4) .nil))).1 (cellsN_wk hu2 (.cons (lstOf_wk hu3) (.cons (lstOf_wk hu4) .nil))).2 (renL_mem (.cons rfl (.cons rfl .nil))) (WkR.nil _)) rfl), rfl, rfl, rfl⟩
      · obtain ⟨u0, hu0, h⟩ := Option.bind_eq_some_iff.1 h
        obtain ⟨u1, hu1, h⟩ := Option.bind_eq_some_iff.1 h
        obtain ⟨u2, hu2, h⟩ := Option.bind_eq_some_iff.1 h
        simp only [Option.some.injEq] at h
        subst h
        exact ⟨1, _, _, by decide, WkA.env WkA.nil 35, (wkR_sig (WkR.cons (cellsN_wk hu0 (.cons (lstOf_wk hu1) (.cons (lstOf_wk hu2) .nil))).1 (cellsN_wk hu0 (.cons (lstOf_wk hu1) (.cons (lstOf_wk hu2) .nil))).2 (renL_mem (.cons rfl (.cons rfl .nil))) (WkR.nil _)) rfl), rfl, rfl, rfl⟩
      · cases h
theorem l_jumps_Check_3_ok (n : Nat) : LoopOk Try.prog (sp_jumps_Check n) 0 35 code_l_jumps_Check_3 := by
    intro R key E sg K r hk h
    rw [show Go.Eng.keyOf code_l_jumps_Check_3 = some 3 from by kernel_rfl] at hk
    cases hk
    have h : l_jumps_Check_3_S n R E sg K = some r := h
    unfold l_jumps_Check_3_S at h
    obtain ⟨u0, hu0, h⟩ := Option.bind_eq_some_iff.1 h
    obtain ⟨u1, hu1, h⟩ := Option.bind_eq_some_iff.1 h
    obtain ⟨u2, hu2, h⟩ := Option.bind_eq_some_iff.1 h
    obtain ⟨u3, hu3, h⟩ := Option.bind_eq_some_iff.1 h
    obtain ⟨u4, hu4, h⟩ := Option.bind_eq_some_iff.1 h
    obtain ⟨u5, hu5, h⟩ := Option.bind_eq_some_iff.1 h
    obtain ⟨u6, hu6, h⟩ := Option.bind_eq_some_iff.1 h
    obtain ⟨x, hx, h⟩ := Option.bind_eq_some_iff.1 h
    refine (SemL.pre (k := 1) (by decide) (WkA.env (WkA.cons (ownOf_wk hu0) rfl (WkA.cons (lstOf_wk hu1) rfl (WkA.cons (intOf_wk hu2) rfl (WkA.cons (intOf_wk hu3) rfl WkA.nil)))) 35) (wkR_sig (WkR.cons (cellsN_wk hu4 (.cons (lstOf_wk hu5) (.cons (lstOf_wk hu6) .nil))).1 (cellsN_wk hu4 (.cons (lstOf_wk hu5) (.cons (lstOf_wk hu6) .nil))).2 (renL_mem (.cons rfl (.cons rfl .nil))) (WkR.nil _)) rfl) (l_jumps_Check_3_run n n _ _ _ _ _ _ x hx)).mono ?_
    intro ex e s hq
    rcases x with x | x <;> (obtain ⟨rfl, rfl, rfl⟩ := hq; exact ⟨_, rfl, h⟩) -- 5
def K_jumps_Check (v : V) (s : Sig) : Option ((Nat × Nat) × Int) := Option.bind (V.tupN 2 v) fun u0 => Option.bind (V.cplxOf .f64 (u0.getD 0 .any)) fun u1 => Option.bind (V.intOf .i64 (u0.getD 1 .any)) fun u2 => some (u1, u2)
theorem K_jumps_Check_wk {v : V} {s : Sig} {r : (Nat × Nat) × Int} (h : K_jumps_Check v s = some r) : Wk v (enc_jumps_Check r) ∧ WkS 0 s (encS_jumps_Check r) := by
  unfold K_jumps_Check at h
  obtain ⟨u0, hu0, h⟩ := Option.bind_eq_some_iff.1 h
  obtain ⟨u1, hu1, h⟩ := Option.bind_eq_some_iff.1 h
  obtain ⟨u2, hu2, h⟩ := Option.bind_eq_some_iff.1 h
  simp only [Option.some.injEq] at h
  subst h
  exact ⟨(tupN_wk hu0 (.cons (cplxOf_wk hu1) (.cons (intOf_wk hu2) .nil))), (WkS.none _)⟩
theorem m_jumps_Check_eq (n : Nat) (a0 : List T) (a1 : List T) : mF Try.prog (sp_jumps_Check n) 7 [(V.agg [(V.t (T.list a0)), (V.t (T.list a1))])] [] K_jumps_Check = m_jumps_Check n a0 a1 := by kernel_rfl
theorem m_jumps_Check_ok (n : Nat) : ok_jumps_Check (m_jumps_Check n) := fun a0 a1 r h => mF_ok sound (sp_jumps_Check_ok n) code_jumps_Check_fn code_jumps_Check_body (forall_getD (d := .skip) 1 (by kernel_rfl) (fun i hi => match i, hi with | 0, _ => l_jumps_Check_3_ok n | i + 1, hi => absurd hi (by omega))) (no_scope (by kernel_rfl)) ((m_jumps_Check_eq n a0 a1).trans h) (fun v s hk => ⟨(K_jumps_Check_wk hk).1, rfl, (K_jumps_Check_wk hk).2⟩)


/-! sutureref1_block: a circle -/
structure B_sutureref1_block where
  sutureref1_block : List T → Option ((List T))
def enc_sutureref1_block (r : (List T)) : V := (V.own 11 r)
def encS_sutureref1_block (r : (List T)) : Sig := []
def ok_sutureref1_block (m : List T → Option ((List T))) : Prop := ∀ (a0 : List T) (r : (List T)), m a0 = some r → FuncOk Try.prog 30 [(V.t (T.list a0))] [] (enc_sutureref1_block r) (encS_sutureref1_block r)
def c_sutureref1_block (m : List T → Option ((List T))) (vs : List V) (sg : Sig) : Option CallM := bif Nat.beq vs.length 1 && Nat.beq sg.length 0 then Option.bind (V.lstOf (vs.getD 0 .any)) fun u0 => some { α := (List T), m := m u0, dflt := [], enc := fun y => ((V.own 11 y), []) } else none
theorem c_sutureref1_block_ok (m : List T → Option ((List T))) (hm : ok_sutureref1_block m) (vs : List V) (sg : Sig) (cm : CallM) (x : cm.α) (h : c_sutureref1_block m vs sg = some cm) (hx : cm.m = some x) : FuncOk Try.prog 30 vs sg (cm.enc x).1 (cm.enc x).2 := by
  unfold c_sutureref1_block at h
  have h0 := callee_sig h
  clear h
  obtain ⟨hl, hs, h⟩ := h0
  obtain ⟨u0, hu0, h⟩ := Option.bind_eq_some_iff.1 h
  simp only [Option.some.injEq] at h
  subst h
  exact (hm u0 x hx).wk (args_wk hl (.cons (lstOf_wk hu0) .nil)) (wkSg_of hs .nil)
structure B_sutureref1_block_ok (b : B_sutureref1_block) : Prop where
  sutureref1_block : ok_sutureref1_block b.sutureref1_block

/-! suture/sutureref1.block -/
def l_sutureref1_block_3_B (b : B_sutureref1_block) (n : Nat) (k : (List T) × (List T) × Int → Option ((List T))) : (List T) × (List T) × Int → Option ((List T)) := fun (s0, s1, s2) =>
bif (decide ((s2 : Int) < ((List.length s0 : Nat) : Int))) then (
Option.bind (idx true [.int .i64, .str, .str, .int .i64, .int .i64, .int .i64, .str, .list, .list, .list, .cplx .f64] s0 s2) fun y0 =>
must true ((Nat.beq 11 11 || Nat.beq 11 0) && (decide (List.length s1 + List.length [(T.agg [(T.sc (.int .i64 (y0.cell 0).int)), (T.sc (.string (y0.cell 1).str)), (T.sc (.string (y0.cell 2).str)), (T.sc (.int .i64 (y0.cell 3).int)), (T.sc (.int .i64 (y0.cell 4).int)), (T.sc (.int .i64 (y0.cell 5).int)), (T.sc (.string (y0.cell 6).str)), (T.list (y0.cell 7).lst), (T.list (y0.cell 8).lst), (T.list (y0.cell 9).lst), (T.sc (.complex .f64 (y0.cell 10).re (y0.cell 10).im))])] ≤ 1073741824) && sized 11 [(T.agg [(T.sc (.int .i64 (y0.cell 0).int)), (T.sc (.string (y0.cell 1).str)), (T.sc (.string (y0.cell 2).str)), (T.sc (.int .i64 (y0.cell 3).int)), (T.sc (.int .i64 (y0.cell 4).int)), (T.sc (.int .i64 (y0.cell 5).int)), (T.sc (.string (y0.cell 6).str)), (T.list (y0.cell 7).lst), (T.list (y0.cell 8).lst), (T.list (y0.cell 9).lst), (T.sc (.complex .f64 (y0.cell 10).re (y0.cell 10).im))])])) (Option.bind (idx true [.int .i64, .str, .str, .int .i64, .int .i64, .int .i64, .str, .list, .list, .list, .cplx .f64] s0 s2) fun y1 =>
Option.bind (b.sutureref1_block (y1.cell 8).lst) fun r2 =>
must true ((Nat.beq 11 11 || Nat.beq 11 0) && (decide (List.length (s1 ++ [(T.agg [(T.sc (.int .i64 (y0.cell 0).int)), (T.sc (.string (y0.cell 1).str)), (T.sc (.string (y0.cell 2).str)), (T.sc (.int .i64 (y0.cell 3).int)), (T.sc (.int .i64 (y0.cell 4).int)), (T.sc (.int .i64 (y0.cell 5).int)), (T.sc (.string (y0.cell 6).str)), (T.list (y0.cell 7).lst), (T.list (y0.cell 8).lst), (T.list (y0.cell 9).lst), (T.sc (.complex .f64 (y0.cell 10).re (y0.cell 10).im))])]) + List.length r2 ≤ 1073741824) && sized 11 r2)) (Option.bind (idx true [.int .i64, .str, .str, .int .i64, .int .i64, .int .i64, .str, .list, .list, .list, .cplx .f64] s0 s2) fun y3 =>
Option.bind (b.sutureref1_block (y3.cell 9).lst) fun r4 =>
must true ((Nat.beq 11 11 || Nat.beq 11 0) && (decide (List.length ((s1 ++ [(T.agg [(T.sc (.int .i64 (y0.cell 0).int)), (T.sc (.string (y0.cell 1).str)), (T.sc (.string (y0.cell 2).str)), (T.sc (.int .i64 (y0.cell 3).int)), (T.sc (.int .i64 (y0.cell 4).int)), (T.sc (.int .i64 (y0.cell 5).int)), (T.sc (.string (y0.cell 6).str)), (T.list (y0.cell 7).lst), (T.list (y0.cell 8).lst), (T.list (y0.cell 9).lst), (T.sc (.complex .f64 (y0.cell 10).re (y0.cell 10).im))])]) ++ r2) + List.length r4 ≤ 1073741824) && sized 11 r4)) (k (s0, (((s1 ++ [(T.agg [(T.sc (.int .i64 (y0.cell 0).int)), (T.sc (.string (y0.cell 1).str)), (T.sc (.string (y0.cell 2).str)), (T.sc (.int .i64 (y0.cell 3).int)), (T.sc (.int .i64 (y0.cell 4).int)), (T.sc (.int .i64 (y0.cell 5).int)), (T.sc (.string (y0.cell 6).str)), (T.list (y0.cell 7).lst), (T.list (y0.cell 8).lst), (T.list (y0.cell 9).lst), (T.sc (.complex .f64 (y0.cell 10).re (y0.cell 10).im))])]) ++ r2) ++ r4), (IntKind.wrap .i64 (s2 + 1)))))))
else (
some s1)
def l_sutureref1_block_3 (b : B_sutureref1_block) (n : Nat) : Nat → (List T) × (List T) × Int → Option ((List T))
  | 0, _ => none
  | m + 1, s => l_sutureref1_block_3_B b n (l_sutureref1_block_3 b n m) s
def f_sutureref1_block (b : B_sutureref1_block) (n : Nat) (a0 : List T) : Option ((List T)) :=
Option.bind (l_sutureref1_block_3 b n n (a0, ([] : List T), 0)) fun p6 =>
some p6
noncomputable def code_sutureref1_block : Code := Try.f30.body.getD .skip
def l_sutureref1_block_3_S (b : B_sutureref1_block) (n : Nat) (R : Type) (E : SEnv) (sg : Sig) (K : Ex → SEnv → Sig → Option R) : Option R := Option.bind (V.lstOf (SEnv.at E 0)) fun u0 => Option.bind (V.ownOf 11 (SEnv.at E 3)) fun u1 => Option.bind (V.intOf .i64 (SEnv.at E 4)) fun u2 => Option.bind (l_sutureref1_block_3 b n n (u0, u1, u2)) fun p0 => K (.exit 0) [(3, (V.own 11 p0))] []
noncomputable def sp_sutureref1_block (b : B_sutureref1_block) (n : Nat) : Go.Eng.Spec := ⟨fun f vs sg => (match f with
    | 30 => c_sutureref1_block b.sutureref1_block vs sg
    | _ => none), fun R key E sg K => (match key with
    | 3 => l_sutureref1_block_3_S b n R E sg K
    | _ => none)⟩
theorem sp_sutureref1_block_ok (b : B_sutureref1_block) (hb : B_sutureref1_block_ok b) (n : Nat) : CallsOk Try.prog (sp_sutureref1_block b n) := by
  intro f vs sg cm x h hx
  simp only [sp_sutureref1_block] at h
  split at h
  · exact c_sutureref1_block_ok _ hb.sutureref1_block vs sg cm x h hx
  · cases h
theorem code_sutureref1_block_fn : Try.prog.funcs[30]? = some Try.f30 := Try.func30
theorem code_sutureref1_block_body : Try.f30.body = some code_sutureref1_block := by kernel_rfl
theorem code_sutureref1_block_ok : CodeOk Try.prog code_sutureref1_block := (sound 30 _ _ code_sutureref1_block_fn code_sutureref1_block_body).1
noncomputable def code_l_sutureref1_block_3 : Code := (loopsOf code_sutureref1_block).getD 0 .skip
theorem code_l_sutureref1_block_3_ok : CodeOk Try.prog code_l_sutureref1_block_3 := codeOk_loops code_sutureref1_block_ok _ (getD_mem (by kernel_rfl))
def l_sutureref1_block_3_K (k : (List T) × (List T) × Int → Option ((List T))) : Ex → SEnv → Sig → Option ((List T)) := fun x E sg => match x with
  | .normal => Option.bind (V.lstOf (SEnv.at E 0)) fun u0 => Option.bind (V.ownOf 11 (SEnv.at E 3)) fun u1 => Option.bind (V.intOf .i64 (SEnv.at E 4)) fun u2 => k (u0, u1, u2)
  | (.exit 0) => Option.bind (V.ownOf 11 (SEnv.at E 3)) fun u0 => some u0
  | _ => none
theorem l_sutureref1_block_3_eq (b : B_sutureref1_block) (n : Nat) (k : (List T) × (List T) × Int → Option ((List T))) (s0 : List T) (s1 : List T) (s2 : Int) : mX Try.prog (sp_sutureref1_block b n) 35 code_l_sutureref1_block_3 [(0, (V.t (T.list s0))), (3, (V.own 11 s1)), (4, (V.t (T.sc (.int .i64 s2))))] [] (l_sutureref1_block_3_K k) = l_sutureref1_block_3_B b n k (s0, s1, s2) := by kernel_rfl
def l_sutureref1_block_3_Q (x : (List T)) (ex : Ex) (e : Env) (s : Sig) : Prop := (fun p0 => (ex = (.exit 0) ∧ e = SEnv.env 35 [(3, (V.own 11 p0))] ∧ s = [])) x
theorem l_sutureref1_block_3_run (b : B_sutureref1_block) (hb : B_sutureref1_block_ok b) (n : Nat) : ∀ (m : Nat) (s0 : List T) (s1 : List T) (s2 : Int) (x : (List T)), l_sutureref1_block_3 b n m (s0, s1, s2) = some x → SemL Try.prog 0 code_l_sutureref1_block_3 (SEnv.env 35 [(0, (V.t (T.list s0))), (3, (V.own 11 s1)), (4, (V.t (T.sc (.int .i64 s2))))]) [] (l_sutureref1_block_3_Q x)
  | 0, s0, s1, s2, x, h => by cases h
  | m + 1, s0, s1, s2, x, h => by
    refine loop_step (sp_sutureref1_block_ok b hb n) code_l_sutureref1_block_3_ok (fun a ha => absurd ha (by rw [show loopsOf code_l_sutureref1_block_3 = [] from by kernel_rfl]; simp)) (no_scope (by kernel_rfl)) ((l_sutureref1_block_3_eq b n _ s0 s1 s2).trans h) (fun E sg h => ?_) (fun ex E sg hne h => ?_)
    · simp only [l_sutureref1_block_3_K] at h
      obtain ⟨u0, hu0, h⟩ := Option.bind_eq_some_iff.1 h
      obtain ⟨u1, hu1, h⟩ := Option.bind_eq_some_iff.1 h
      obtain ⟨u2, hu2, h⟩ := Option.bind_eq_some_iff.1 h
      exact SemL.pre (k := 0) (by decide) (WkA.env (WkA.cons (lstOf_wk hu0) rfl (WkA.cons (ownOf_wk hu1) rfl (WkA.cons (intOf_wk hu2) rfl WkA.nil))) 35) (WkS.none _) (l_sutureref1_block_3_run b hb n m _ _ _ x h)
    · unfold l_sutureref1_block_3_K at h
      split at h
      · exact absurd rfl hne
      · obtain ⟨u0, hu0, h⟩ := Option.bind_eq_some_iff.1 h
        simp only [Option.some.injEq] at h
        subst h
        exact ⟨0, _, _, by decide, WkA.env (WkA.cons (ownOf_wk hu0) rfl WkA.nil) 35, (WkS.none _), rfl, rfl, rfl⟩
      · cases h
theorem l_sutureref1_block_3_ok (b : B_sutureref1_block) (hb : B_sutureref1_block_ok b) (n : Nat) : LoopOk Try.prog (sp_sutureref1_block b n) 0 35 code_l_sutureref1_block_3 := by
    intro R key E sg K r hk h
    rw [show Go.Eng.keyOf code_l_sutureref1_block_3 = some 3 from by kernel_rfl] at hk
    cases hk
    have h : l_sutureref1_block_3_S b n R E sg K = some r := h
    unfold l_sutureref1_block_3_S at h
    obtain ⟨u0, hu0, h⟩ := Option.bind_eq_some_iff.1 h
    obtain ⟨u1, hu1, h⟩ := Option.bind_eq_some_iff.1 h
    obtain ⟨u2, hu2, h⟩ := Option.bind_eq_some_iff.1 h
    obtain ⟨x, hx, h⟩ := Option.bind_eq_some_iff.1 h
    refine (SemL.pre (k := 0) (by decide) (WkA.env (WkA.cons (lstOf_wk hu0) rfl (WkA.cons (ownOf_wk hu1) rfl (WkA.cons (intOf_wk hu2) rfl WkA.nil))) 35) (WkS.none _) (l_sutureref1_block_3_run b hb n n _ _ _ x hx)).mono ?_
    intro ex e s hq
    obtain ⟨rfl, rfl, rfl⟩ := hq
    exact ⟨_, rfl, h⟩
def K_sutureref1_block (v : V) (s : Sig) : Option ((List T)) := Option.bind (V.ownOf 11 v) fun u0 => some u0
theorem K_sutureref1_block_wk {v : V} {s : Sig} {r : (List T)} (h : K_sutureref1_block v s = some r) : Wk v (enc_sutureref1_block r) ∧ WkS 0 s (encS_sutureref1_block r) := by
  unfold K_sutureref1_block at h
  obtain ⟨u0, hu0, h⟩ := Option.bind_eq_some_iff.1 h
  simp only [Option.some.injEq] at h
  subst h
  exact ⟨(ownOf_wk hu0), (WkS.none _)⟩
theorem f_sutureref1_block_eq (b : B_sutureref1_block) (n : Nat) (a0 : List T) : mF Try.prog (sp_sutureref1_block b n) 30 [(V.t (T.list a0))] [] K_sutureref1_block = f_sutureref1_block b n a0 := by kernel_rfl
theorem f_sutureref1_block_ok (b : B_sutureref1_block) (hb : B_sutureref1_block_ok b) (n : Nat) : ok_sutureref1_block (f_sutureref1_block b n) := fun a0 r h => mF_ok sound (sp_sutureref1_block_ok b hb n) code_sutureref1_block_fn code_sutureref1_block_body (forall_getD (d := .skip) 1 (by kernel_rfl) (fun i hi => match i, hi with | 0, _ => l_sutureref1_block_3_ok b hb n | i + 1, hi => absurd hi (by omega))) (no_scope (by kernel_rfl)) ((f_sutureref1_block_eq b n a0).trans h) (fun v s hk => ⟨(K_sutureref1_block_wk hk).1, rfl, (K_sutureref1_block_wk hk).2⟩)
def unB_sutureref1_block (n : Nat) : Nat → B_sutureref1_block
  | 0 => { sutureref1_block := fun _ => none }
  | m + 1 => { sutureref1_block := f_sutureref1_block (unB_sutureref1_block n m) n }
theorem unB_sutureref1_block_ok (n : Nat) : ∀ m, B_sutureref1_block_ok (unB_sutureref1_block n m)
  | 0 => { sutureref1_block := fun _ _ h => (nomatch (show none = some _ from h)) }
  | m + 1 => { sutureref1_block := f_sutureref1_block_ok _ (unB_sutureref1_block_ok n m) n }
def m_sutureref1_block (n : Nat) : List T → Option ((List T)) := (unB_sutureref1_block n n).sutureref1_block
theorem m_sutureref1_block_ok (n : Nat) : ok_sutureref1_block (m_sutureref1_block n) := (unB_sutureref1_block_ok n n).sutureref1_block


/-! suture/sutureref1.List -/
def l_sutureref1_List_3_B (n : Nat) (k : (List T) × Int × (List T) × (List T) → Option ((List T) × (List T) × (List T))) : (List T) × Int × (List T) × (List T) → Option ((List T) × (List T) × (List T)) := fun (s0, s1, s2, s3) =>
bif (decide ((s1 : Int) < ((List.length s3 : Nat) : Int))) then (
Option.bind (idx true [.list] s3 s1) fun y0 =>
Option.bind (m_sutureref1_block n (y0.cell 0).lst) fun r1 =>
must true ((Nat.beq 11 11 || Nat.beq 11 0) && (decide (List.length s0 + List.length r1 ≤ 1073741824) && sized 11 r1)) (k ((s0 ++ r1), (IntKind.wrap .i64 (s1 + 1)), s2, s3)))
else (
some (s0, s2, s3))
def l_sutureref1_List_3 (n : Nat) : Nat → (List T) × Int × (List T) × (List T) → Option ((List T) × (List T) × (List T))
  | 0, _ => none
  | m + 1, s => l_sutureref1_List_3_B n (l_sutureref1_List_3 n m) s
def m_sutureref1_List (n : Nat) (a0 : List T) (a1 : List T) : Option ((List T)) :=
Option.bind (l_sutureref1_List_3 n n (([] : List T), 0, a0, a1)) fun p3 =>
some p3.1
def enc_sutureref1_List (r : (List T)) : V := (V.own 11 r)
def encS_sutureref1_List (r : (List T)) : Sig := []
def ok_sutureref1_List (m : List T → List T → Option ((List T))) : Prop := ∀ (a0 : List T) (a1 : List T) (r : (List T)), m a0 a1 = some r → FuncOk Try.prog 15 [(V.agg [(V.t (T.list a0)), (V.t (T.list a1))])] [] (enc_sutureref1_List r) (encS_sutureref1_List r)
def c_sutureref1_List (m : List T → List T → Option ((List T))) (vs : List V) (sg : Sig) : Option CallM := bif Nat.beq vs.length 1 && Nat.beq sg.length 0 then Option.bind (V.aggN 2 (vs.getD 0 .any)) fun u0 => Option.bind (V.lstOf (u0.getD 0 .any)) fun u1 => Option.bind (V.lstOf (u0.getD 1 .any)) fun u2 => some { α := (List T), m := m u1 u2, dflt := [], enc := fun y => ((V.own 11 y), []) } else none
theorem c_sutureref1_List_ok (m : List T → List T → Option ((List T))) (hm : ok_sutureref1_List m) (vs : List V) (sg : Sig) (cm : CallM) (x : cm.α) (h : c_sutureref1_List m vs sg = some cm) (hx : cm.m = some x) : FuncOk Try.prog 15 vs sg (cm.enc x).1 (cm.enc x).2 := by
  unfold c_sutureref1_List at h
  have h0 := callee_sig h
  clear h
  obtain ⟨hl, hs, h⟩ := h0
  obtain ⟨u0, hu0, h⟩ := Option.bind_eq_some_iff.1 h
  obtain ⟨u1, hu1, h⟩ := Option.bind_eq_some_iff.1 h
  obtain ⟨u2, hu2, h⟩ := Option.bind_eq_some_iff.1 h
  simp only [Option.some.injEq] at h
  subst h
  exact (hm u1 u2 x hx).wk (args_wk hl (.cons (aggN_wk hu0 (.cons (lstOf_wk hu1) (.cons (lstOf_wk hu2) .nil))) .nil)) (wkSg_of hs .nil)
noncomputable def code_sutureref1_List : Code := Try.f15.body.getD .skip
def l_sutureref1_List_3_S (n : Nat) (R : Type) (E : SEnv) (sg : Sig) (K : Ex → SEnv → Sig → Option R) : Option R := Option.bind (V.ptrOf 0 0 (SEnv.at E 1)) fun u0 => Option.bind (V.ownOf 11 (SEnv.at E 3)) fun u1 => Option.bind (V.intOf .i64 (SEnv.at E 4)) fun u2 => Option.bind (cellsN 2 sg 0) fun u3 => Option.bind (V.lstOf (u3.getD 0 .any)) fun u4 => Option.bind (V.lstOf (u3.getD 1 .any)) fun u5 => Option.bind (l_sutureref1_List_3 n n (u1, u2, u4, u5)) fun p0 => K (.exit 0) [(3, (V.own 11 p0.1))] [some [(V.t (T.list p0.2.1)), (V.t (T.list p0.2.2))]]
noncomputable def sp_sutureref1_List (n : Nat) : Go.Eng.Spec := ⟨fun f vs sg => (match f with
    | 30 => c_sutureref1_block (m_sutureref1_block n) vs sg
    | _ => none), fun R key E sg K => (match key with
    | 3 => l_sutureref1_List_3_S n R E sg K
    | _ => none)⟩
theorem sp_sutureref1_List_ok (n : Nat) : CallsOk Try.prog (sp_sutureref1_List n) := by
  intro f vs sg cm x h hx
  simp only [sp_sutureref1_List] at h
  split at h
  · exact c_sutureref1_block_ok _ (m_sutureref1_block_ok n) vs sg cm x h hx
  · cases h
theorem code_sutureref1_List_fn : Try.prog.funcs[15]? = some Try.f15 := Try.func15
theorem code_sutureref1_List_body : Try.f15.body = some code_sutureref1_List := by kernel_rfl
theorem code_sutureref1_List_ok : CodeOk Try.prog code_sutureref1_List := (sound 15 _ _ code_sutureref1_List_fn code_sutureref1_List_body).1
noncomputable def code_l_sutureref1_List_3 : Code := (loopsOf code_sutureref1_List).getD 0 .skip
theorem code_l_sutureref1_List_3_ok : CodeOk Try.prog code_l_sutureref1_List_3 := codeOk_loops code_sutureref1_List_ok _ (getD_mem (by kernel_rfl))
def l_sutureref1_List_3_K (k : (List T) × Int × (List T) × (List T) → Option ((List T) × (List T) × (List T))) : Ex → SEnv → Sig → Option ((List T) × (List T) × (List T)) := fun x E sg => match x with
  | .normal => Option.bind (V.ptrOf 0 0 (SEnv.at E 1)) fun u0 => Option.bind (V.ownOf 11 (SEnv.at E 3)) fun u1 => Option.bind (V.intOf .i64 (SEnv.at E 4)) fun u2 => Option.bind (cellsN 2 sg 0) fun u3 => Option.bind (V.lstOf (u3.getD 0 .any)) fun u4 => Option.bind (V.lstOf (u3.getD 1 .any)) fun u5 => k (u1, u2, u4, u5)
  | (.exit 0) => Option.bind (V.ownOf 11 (SEnv.at E 3)) fun u0 => Option.bind (cellsN 2 sg 0) fun u1 => Option.bind (V.lstOf (u1.getD 0 .any)) fun u2 => Option.bind (V.lstOf (u1.getD 1 .any)) fun u3 => some (u0, u2, u3)
  | _ => none
theorem l_sutureref1_List_3_eq (n : Nat) (k : (List T) × Int × (List T) × (List T) → Option ((List T) × (List T) × (List T))) (s0 : List T) (s1 : Int) (s2 : List T) (s3 : List T) : mX Try.prog (sp_sutureref1_List n) 21 code_l_sutureref1_List_3 [(1, (V.ptr 0 0)), (3, (V.own 11 s0)), (4, (V.t (T.sc (.int .i64 s1))))] [some [(V.t (T.list s2)), (V.t (T.list s3))]] (l_sutureref1_List_3_K k) = l_sutureref1_List_3_B n k (s0, s1, s2, s3) := by kernel_rfl
def l_sutureref1_List_3_Q (x : (List T) × (List T) × (List T)) (ex : Ex) (e : Env) (s : Sig) : Prop := (fun p0 => (ex = (.exit 0) ∧ e = SEnv.env 21 [(3, (V.own 11 p0.1))] ∧ s = [some [(V.t (T.list p0.2.1)), (V.t (T.list p0.2.2))]])) x
theorem l_sutureref1_List_3_run (n : Nat) : ∀ (m : Nat) (s0 : List T) (s1 : Int) (s2 : List T) (s3 : List T) (x : (List T) × (List T) × (List T)), l_sutureref1_List_3 n m (s0, s1, s2, s3) = some x → SemL Try.prog 0 code_l_sutureref1_List_3 (SEnv.env 21 [(1, (V.ptr 0 0)), (3, (V.own 11 s0)), (4, (V.t (T.sc (.int .i64 s1))))]) [some [(V.t (T.list s2)), (V.t (T.list s3))]] (l_sutureref1_List_3_Q x)
  | 0, s0, s1, s2, s3, x, h => by cases h
  | m + 1, s0, s1, s2, s3, x, h => by
    refine loop_step (sp_sutureref1_List_ok n) code_l_sutureref1_List_3_ok (fun a ha => absurd ha (by rw [show loopsOf code_l_sutureref1_List_3 = [] from by kernel_rfl]; simp)) (no_scope (by kernel_rfl)) ((l_sutureref1_List_3_eq n _ s0 s1 s2 s3).trans h) (fun E sg h => ?_) (fun ex E sg hne h => ?_)
    · simp only [l_sutureref1_List_3_K] at h
      obtain ⟨u0, hu0, h⟩ := Option.bind_eq_some_iff.1 h
      obtain ⟨u1, hu1, h⟩ := Option.bind_eq_some_iff.1 h
      obtain ⟨u2, hu2, h⟩ := Option.bind_eq_some_iff.1 h
      obtain ⟨u3, hu3, h⟩ := Option.bind_eq_some_iff.1 h
      obtain ⟨u4, hu4, h⟩ := Option.bind_eq_some_iff.1 h
      obtain ⟨u5, hu5, h⟩ := Option.bind_eq_some_iff.1 h
      exact SemL.pre (k := 1) (by decide) (WkA.env (WkA.cons (ptrOf_wk hu0) rfl (WkA.cons (ownOf_wk hu1) rfl (WkA.cons (intOf_wk hu2) rfl WkA.nil))) 21) (wkR_sig (WkR.cons (cellsN_wk hu3 (.cons (lstOf_wk hu4) (.cons (lstOf_wk hu5) .nil))).1 (cellsN_wk hu3 (.cons (lstOf_wk hu4) (.cons (lstOf_wk hu5) .nil))).2 (renL_mem (.cons rfl (.cons rfl .nil))) (WkR.nil _)) rfl) (l_sutureref1_List_3_run n m _ _ _ _ x h)
    · unfold l_sutureref1_List_3_K at h
      split at h
      · exact absurd rfl hne
      · obtain ⟨u0, hu0, h⟩ := Option.bind_eq_some_iff.1 h
        obtain ⟨u1, hu1, h⟩ := Option.bind_eq_some_iff.1 h
        obtain ⟨u2, hu2, h⟩ := Option.bind_eq_some_iff.1 h
        obtain ⟨u3, hu3, h⟩ := Option.bind_eq_some_iff.1 h
        simp only [Option.some.injEq] at h
        subst h
        exact ⟨1, _, _, by decide, WkA.env (WkA.cons (ownOf_wk hu0) rfl WkA.nil) 21, (wkR_sig (WkR.cons (cellsN_wk hu1 (.cons (lstOf_wk hu2) (.cons (lstOf_wk hu3) .nil))).1 (cellsN_wk hu1 (.cons (lstOf_wk hu2) (.cons (lstOf_wk hu3) .nil))).2 (renL_mem (.cons rfl (.cons rfl .nil))) (WkR.nil _)) rfl), rfl, rfl, rfl⟩
      · cases h
theorem l_sutureref1_List_3_ok (n : Nat) : LoopOk Try.prog (sp_sutureref1_List n) 0 21 code_l_sutureref1_List_3 := by
    intro R key E sg K r hk h
    rw [show Go.Eng.keyOf code_l_sutureref1_List_3 = some 3 from by kernel_rfl] at hk
    cases hk
    have h : l_sutureref1_List_3_S n R E sg K = some r := h
    unfold l_sutureref1_List_3_S at h
    obtain ⟨u0, hu0, h⟩ := Option.bind_eq_some_iff.1 h
    obtain ⟨u1, hu1, h⟩ := Option.bind_eq_some_iff.1 h
    obtain ⟨u2, hu2, h⟩ := Option.bind_eq_some_iff.1 h
    obtain ⟨u3, hu3, h⟩ := Option.bind_eq_some_iff.1 h
    obtain ⟨u4, hu4, h⟩ := Option.bind_eq_some_iff.1 h
    obtain ⟨u5, hu5, h⟩ := Option.bind_eq_some_iff.1 h
    obtain ⟨x, hx, h⟩ := Option.bind_eq_some_iff.1 h
    refine (SemL.pre (k := 1) (by decide) (WkA.env (WkA.cons (ptrOf_wk hu0) rfl (WkA.cons (ownOf_wk hu1) rfl (WkA.cons (intOf_wk hu2) rfl WkA.nil))) 21) (wkR_sig (WkR.cons (cellsN_wk hu3 (.cons (lstOf_wk hu4) (.cons (lstOf_wk hu5) .nil))).1 (cellsN_wk hu3 (.cons (lstOf_wk hu4) (.cons (lstOf_wk hu5) .nil))).2 (renL_mem (.cons rfl (.cons rfl .nil))) (WkR.nil _)) rfl) (l_sutureref1_List_3_run n n _ _ _ _ x hx)).mono ?_
    intro ex e s hq
    obtain ⟨rfl, rfl, rfl⟩ := hq
    exact ⟨_, rfl, h⟩
def K_sutureref1_List (v : V) (s : Sig) : Option ((List T)) := Option.bind (V.ownOf 11 v) fun u0 => some u0
theorem K_sutureref1_List_wk {v : V} {s : Sig} {r : (List T)} (h : K_sutureref1_List v s = some r) : Wk v (enc_sutureref1_List r) ∧ WkS 0 s (encS_sutureref1_List r) := by
  unfold K_sutureref1_List at h
  obtain ⟨u0, hu0, h⟩ := Option.bind_eq_some_iff.1 h
  simp only [Option.some.injEq] at h
  subst h
  exact ⟨(ownOf_wk hu0), (WkS.none _)⟩
theorem m_sutureref1_List_eq (n : Nat) (a0 : List T) (a1 : List T) : mF Try.prog (sp_sutureref1_List n) 15 [(V.agg [(V.t (T.list a0)), (V.t (T.list a1))])] [] K_sutureref1_List = m_sutureref1_List n a0 a1 := by kernel_rfl
theorem m_sutureref1_List_ok (n : Nat) : ok_sutureref1_List (m_sutureref1_List n) := fun a0 a1 r h => mF_ok sound (sp_sutureref1_List_ok n) code_sutureref1_List_fn code_sutureref1_List_body (forall_getD (d := .skip) 1 (by kernel_rfl) (fun i hi => match i, hi with | 0, _ => l_sutureref1_List_3_ok n | i + 1, hi => absurd hi (by omega))) (no_scope (by kernel_rfl)) ((m_sutureref1_List_eq n a0 a1).trans h) (fun v s hk => ⟨(K_sutureref1_List_wk hk).1, rfl, (K_sutureref1_List_wk hk).2⟩)


end Go.Proofs.Ytgpokdaacbjimab.W
