/- What the engine's walk comes to, printed by a program of this work: for each function its model, and that it is one. No conditions. -/
import Derived.Test.YtbcgpjlkkcdmmaaGreatDoorS1
namespace Go.Proofs.YtbcgpjlkkcdmmaaGreatDoor.W
open Go Go.Eng
set_option linter.unusedVariables false
set_option linter.unusedSimpArgs false
set_option maxRecDepth 100000
noncomputable section
def l_z39_3_B (n : Nat) (k : ByteArray × Int × (List T) × (List T) -> Option (((ByteArray × (List T) × (List T)) ⊕ ByteArray × (List T) × (List T)))) : ByteArray × Int × (List T) × (List T) -> Option (((ByteArray × (List T) × (List T)) ⊕ ByteArray × (List T) × (List T))) := fun (s0, s1, s2, s3) =>
bif (decide ((s1 : Int) < ((List.length s2 : Nat) : Int))) then (
Option.bind (idx true [.int .i64, .str, .int .i64, .cplx .f64] s2 s1) fun y0 =>
bif (bif (decide (((y0.cell 0).int : Int) < 1)) then true else (decide (((y0.cell 0).int : Int) > 6))) then (
some (Sum.inl ((⟨#[63]⟩ : ByteArray), s2, s3)))
else (
Option.bind (idx1 true (.str) [(T.sc (.string (⟨#[]⟩ : ByteArray))), (T.sc (.string (⟨#[118, 97, 114]⟩ : ByteArray))), (T.sc (.string (⟨#[119, 105, 100, 101]⟩ : ByteArray))), (T.sc (.string (⟨#[97, 116, 111, 109, 105, 99]⟩ : ByteArray))), (T.sc (.string (⟨#[108, 111, 99, 97, 108]⟩ : ByteArray))), (T.sc (.string (⟨#[109, 117, 116, 101, 120]⟩ : ByteArray))), (T.sc (.string (⟨#[99, 104, 97, 110]⟩ : ByteArray)))] (y0.cell 0).int) fun y1 =>
must true (decide (((ByteArray.size s0 + ByteArray.size y1.str : Nat) : Int) <= IntKind.i64.max)) (must true (decide (((ByteArray.size (s0 ++ y1.str) + ByteArray.size (⟨#[32]⟩ : ByteArray) : Nat) : Int) <= IntKind.i64.max)) (must true (decide (((ByteArray.size ((s0 ++ y1.str) ++ (⟨#[32]⟩ : ByteArray)) + ByteArray.size (y0.cell 1).str : Nat) : Int) <= IntKind.i64.max)) (bif (((y0.cell 0).int : Int) == 6) then (
bif (decide (((y0.cell 2).int : Int) < 0)) then (
some (Sum.inl ((⟨#[63]⟩ : ByteArray), s2, s3)))
else (
must true (decide (((ByteArray.size (((s0 ++ y1.str) ++ (⟨#[32]⟩ : ByteArray)) ++ (y0.cell 1).str) + ByteArray.size (⟨#[32]⟩ : ByteArray) : Nat) : Int) <= IntKind.i64.max)) (Option.bind (m_z26 n (y0.cell 2).int) fun r2 =>
must true (decide (((ByteArray.size ((((s0 ++ y1.str) ++ (⟨#[32]⟩ : ByteArray)) ++ (y0.cell 1).str) ++ (⟨#[32]⟩ : ByteArray)) + ByteArray.size r2 : Nat) : Int) <= IntKind.i64.max)) (must true (decide (((ByteArray.size (((((s0 ++ y1.str) ++ (⟨#[32]⟩ : ByteArray)) ++ (y0.cell 1).str) ++ (⟨#[32]⟩ : ByteArray)) ++ r2) + ByteArray.size (⟨#[10]⟩ : ByteArray) : Nat) : Int) <= IntKind.i64.max)) (k (((((((s0 ++ y1.str) ++ (⟨#[32]⟩ : ByteArray)) ++ (y0.cell 1).str) ++ (⟨#[32]⟩ : ByteArray)) ++ r2) ++ (⟨#[10]⟩ : ByteArray)), (IntKind.wrap .i64 (s1 + 1)), s2, s3))))))
else (
must true (decide (((ByteArray.size (((s0 ++ y1.str) ++ (⟨#[32]⟩ : ByteArray)) ++ (y0.cell 1).str) + ByteArray.size (⟨#[10]⟩ : ByteArray) : Nat) : Int) <= IntKind.i64.max)) (k (((((s0 ++ y1.str) ++ (⟨#[32]⟩ : ByteArray)) ++ (y0.cell 1).str) ++ (⟨#[10]⟩ : ByteArray)), (IntKind.wrap .i64 (s1 + 1)), s2, s3))))))))
else (
some (Sum.inr (s0, s2, s3)))
def l_z39_3 (n : Nat) : Nat -> ByteArray × Int × (List T) × (List T) -> Option (((ByteArray × (List T) × (List T)) ⊕ ByteArray × (List T) × (List T)))
 | 0, _ => none
 | m + 1, s => l_z39_3_B n (l_z39_3 n m) s
def l_z39_15_B (n : Nat) (k : ByteArray × Int × (List T) × (List T) -> Option (ByteArray × (List T) × (List T))) : ByteArray × Int × (List T) × (List T) -> Option (ByteArray × (List T) × (List T)) := fun (s0, s1, s2, s3) =>
bif (decide ((s1 : Int) < ((List.length s3 : Nat) : Int))) then (
must true (decide (((ByteArray.size s0 + ByteArray.size (⟨#[103, 111, 32, 123, 10]⟩ : ByteArray) : Nat) : Int) <= IntKind.i64.max)) (Option.bind (idx true [.list] s3 s1) fun y6 =>
Option.bind (m_z33 n (y6.cell 0).lst 1) fun r7 =>
must true (decide (((ByteArray.size (s0 ++ (⟨#[103, 111, 32, 123, 10]⟩ : ByteArray)) + ByteArray.size r7 : Nat) : Int) <= IntKind.i64.max)) (must true (decide (((ByteArray.size ((s0 ++ (⟨#[103, 111, 32, 123, 10]⟩ : ByteArray)) ++ r7) + ByteArray.size (⟨#[125, 10]⟩ : ByteArray) : Nat) : Int) <= IntKind.i64.max)) (k ((((s0 ++ (⟨#[103, 111, 32, 123, 10]⟩ : ByteArray)) ++ r7) ++ (⟨#[125, 10]⟩ : ByteArray)), (IntKind.wrap .i64 (s1 + 1)), s2, s3)))))
else (
some (s0, s2, s3))
def l_z39_15 (n : Nat) : Nat -> ByteArray × Int × (List T) × (List T) -> Option (ByteArray × (List T) × (List T))
 | 0, _ => none
 | m + 1, s => l_z39_15_B n (l_z39_15 n m) s
def m_z39 (n : Nat) (a0 : List T) (a1 : List T) : Option (ByteArray) :=
Option.bind (l_z39_3 n n ((⟨#[]⟩ : ByteArray), 0, a0, a1)) fun x3 =>
Sum.elim (fun p4 =>
some p4.1) (fun x3' => (fun p5 =>
Option.bind (l_z39_15 n n (p5.1, 0, p5.2.1, p5.2.2)) fun p9 =>
some p9.1) x3') x3
def enc_z39 (r : ByteArray) : V := (V.t (T.sc (.string r)))
def encS_z39 (r : ByteArray) : Sig := []
def ok_z39 (m : List T -> List T -> Option (ByteArray)) : Prop := ∀ (a0 : List T) (a1 : List T) (r : ByteArray), m a0 a1 = some r -> FuncOk Tryz.prog 25 [(V.agg [(V.t (T.list a0)), (V.t (T.list a1))])] [] (enc_z39 r) (encS_z39 r)
def c_z39 (m : List T -> List T -> Option (ByteArray)) (vs : List V) (sg : Sig) : Option CallM := bif Nat.beq vs.length 1 && Nat.beq sg.length 0 then Option.bind (V.aggN 2 (vs.getD 0 .any)) fun u0 => Option.bind (V.lstOf (u0.getD 0 .any)) fun u1 => Option.bind (V.lstOf (u0.getD 1 .any)) fun u2 => some { α := ByteArray, m := m u1 u2, dflt := default, enc := fun y => ((V.t (T.sc (.string y))), []) } else none
theorem c_z39_ok (m : List T -> List T -> Option (ByteArray)) (hm : ok_z39 m) (vs : List V) (sg : Sig) (cm : CallM) (x : cm.α) (h : c_z39 m vs sg = some cm) (hx : cm.m = some x) : FuncOk Tryz.prog 25 vs sg (cm.enc x).1 (cm.enc x).2 := by
 unfold c_z39 at h
 obtain ⟨hl, hs, h⟩ := callee_sig h
 obtain ⟨u0, hu0, u1, hu1, h⟩ := ob2 h
 obtain ⟨u2, hu2, h⟩ := ob h
 cases h
 exact (hm u1 u2 x hx).wk (args_wk hl (.cons (aggN_wk hu0 (.cons (lW hu1) (.cons (lW hu2) .nil))) .nil)) (wkSg_of hs .nil)
def code_z39 : Code := Tryz.f25.body.getD .skip
def l_z39_3_S (n : Nat) (R : Type) (E : SEnv) (sg : Sig) (K : Ex -> SEnv -> Sig -> Option R) : Option R := Option.bind (V.ptrOf 0 0 (SEnv.at E 1)) fun u0 => Option.bind (V.strOf (SEnv.at E 3)) fun u1 => Option.bind (V.intOf .i64 (SEnv.at E 4)) fun u2 => Option.bind (cellsN 2 sg 0) fun u3 => Option.bind (V.lstOf (u3.getD 0 .any)) fun u4 => Option.bind (V.lstOf (u3.getD 1 .any)) fun u5 => Option.bind (l_z39_3 n n (u1, u2, u4, u5)) fun y => Sum.elim (fun p0 => K .ret [(2, (V.t (T.sc (.string p0.1))))] [some [(V.t (T.list p0.2.1)), (V.t (T.list p0.2.2))]]) (fun y' => (fun p1 => K (.exit 0) [(1, (V.ptr 0 0)), (3, (V.t (T.sc (.string p1.1))))] [some [(V.t (T.list p1.2.1)), (V.t (T.list p1.2.2))]]) y') y
def l_z39_15_S (n : Nat) (R : Type) (E : SEnv) (sg : Sig) (K : Ex -> SEnv -> Sig -> Option R) : Option R := Option.bind (V.ptrOf 0 0 (SEnv.at E 1)) fun u0 => Option.bind (V.strOf (SEnv.at E 3)) fun u1 => Option.bind (V.intOf .i64 (SEnv.at E 6)) fun u2 => Option.bind (cellsN 2 sg 0) fun u3 => Option.bind (V.lstOf (u3.getD 0 .any)) fun u4 => Option.bind (V.lstOf (u3.getD 1 .any)) fun u5 => Option.bind (l_z39_15 n n (u1, u2, u4, u5)) fun p0 => K (.exit 2) [(3, (V.t (T.sc (.string p0.1))))] [some [(V.t (T.list p0.2.1)), (V.t (T.list p0.2.2))]]
def sp_z39 (n : Nat) : Go.Eng.Spec := ⟨fun f vs sg => (match f with
  | 51 => c_z26 (m_z26 n) vs sg
  | 52 => c_z33 (m_z33 n) vs sg
  | _ => none), fun R key E sg K => (match key with
  | 3 => l_z39_3_S n R E sg K
  | 15 => l_z39_15_S n R E sg K
  | _ => none)⟩
theorem sp_z39_ok (n : Nat) : CallsOk Tryz.prog (sp_z39 n) := by
 intro f vs sg cm x h hx
 simp only [sp_z39] at h
 split at h
 ·exact c_z26_ok _ (m_z26_ok n) vs sg cm x h hx
 ·exact c_z33_ok _ (m_z33_ok n) vs sg cm x h hx
 ·cases h
theorem code_z39_fn : Tryz.prog.funcs[25]? = some Tryz.f25 := Tryz.func25
theorem code_z39_body : Tryz.f25.body = some code_z39 := by kernel_rfl
theorem code_z39_ok : CodeOk Tryz.prog code_z39 := (sound 25 _ _ code_z39_fn code_z39_body).1
def code_l_z39_3 : Code := (loopsOf code_z39).getD 0 .skip
theorem code_l_z39_3_ok : CodeOk Tryz.prog code_l_z39_3 := codeOk_loops code_z39_ok _ (getD_mem (by kernel_rfl))
def l_z39_3_K (k : ByteArray × Int × (List T) × (List T) -> Option (((ByteArray × (List T) × (List T)) ⊕ ByteArray × (List T) × (List T)))) : Ex -> SEnv -> Sig -> Option (((ByteArray × (List T) × (List T)) ⊕ ByteArray × (List T) × (List T))) := fun x E sg => match x with
 | .normal => Option.bind (V.ptrOf 0 0 (SEnv.at E 1)) fun u0 => Option.bind (V.strOf (SEnv.at E 3)) fun u1 => Option.bind (V.intOf .i64 (SEnv.at E 4)) fun u2 => Option.bind (cellsN 2 sg 0) fun u3 => Option.bind (V.lstOf (u3.getD 0 .any)) fun u4 => Option.bind (V.lstOf (u3.getD 1 .any)) fun u5 => k (u1, u2, u4, u5)
 | .ret => Option.bind (V.strOf (SEnv.at E 2)) fun u0 => Option.bind (cellsN 2 sg 0) fun u1 => Option.bind (V.lstOf (u1.getD 0 .any)) fun u2 => Option.bind (V.lstOf (u1.getD 1 .any)) fun u3 => some (Sum.inl (u0, u2, u3))
 | (.exit 0) => Option.bind (V.ptrOf 0 0 (SEnv.at E 1)) fun u0 => Option.bind (V.strOf (SEnv.at E 3)) fun u1 => Option.bind (cellsN 2 sg 0) fun u2 => Option.bind (V.lstOf (u2.getD 0 .any)) fun u3 => Option.bind (V.lstOf (u2.getD 1 .any)) fun u4 => some (Sum.inr (u1, u3, u4))
 | _ => none
theorem l_z39_3_eq (n : Nat) (k : ByteArray × Int × (List T) × (List T) -> Option (((ByteArray × (List T) × (List T)) ⊕ ByteArray × (List T) × (List T)))) (s0 : ByteArray) (s1 : Int) (s2 : List T) (s3 : List T) : mX Tryz.prog (sp_z39 n) 69 code_l_z39_3 [(1, (V.ptr 0 0)), (3, (V.t (T.sc (.string s0)))), (4, (V.t (T.sc (.int .i64 s1))))] [some [(V.t (T.list s2)), (V.t (T.list s3))]] (l_z39_3_K k) = l_z39_3_B n k (s0, s1, s2, s3) := by kernel_rfl
def l_z39_3_Q (x : ((ByteArray × (List T) × (List T)) ⊕ ByteArray × (List T) × (List T))) (ex : Ex) (e : Env) (s : Sig) : Prop := Sum.elim (fun p0 => (ex = .ret /\ e = SEnv.env 69 [(2, (V.t (T.sc (.string p0.1))))] /\ s = [some [(V.t (T.list p0.2.1)), (V.t (T.list p0.2.2))]])) (fun x' => (fun p1 => (ex = (.exit 0) /\ e = SEnv.env 69 [(1, (V.ptr 0 0)), (3, (V.t (T.sc (.string p1.1))))] /\ s = [some [(V.t (T.list p1.2.1)), (V.t (T.list p1.2.2))]])) x') x
theorem l_z39_3_run (n : Nat) : ∀ (m : Nat) (s0 : ByteArray) (s1 : Int) (s2 : List T) (s3 : List T) (x : ((ByteArray × (List T) × (List T)) ⊕ ByteArray × (List T) × (List T))), l_z39_3 n m (s0, s1, s2, s3) = some x -> SemL Tryz.prog 0 code_l_z39_3 (SEnv.env 69 [(1, (V.ptr 0 0)), (3, (V.t (T.sc (.string s0)))), (4, (V.t (T.sc (.int .i64 s1))))]) [some [(V.t (T.list s2)), (V.t (T.list s3))]] (l_z39_3_Q x)
 | 0, s0, s1, s2, s3, x, h => by cases h
 | m + 1, s0, s1, s2, s3, x, h => by
  refine loop_step (sp_z39_ok n) code_l_z39_3_ok (nl (by kernel_rfl)) (no_scope (by kernel_rfl)) ((l_z39_3_eq n _ s0 s1 s2 s3).trans h) (fun E sg h => ?_) (fun ex E sg hne h => ?_)
  ·simp only [l_z39_3_K] at h
   obtain ⟨u0, hu0, u1, hu1, u2, hu2, u3, hu3, h⟩ := ob4 h
   obtain ⟨u4, hu4, u5, hu5, h⟩ := ob2 h
   exact SemL.pre (k := 1) (by decide) (WkA.env (WkA.cons (pW hu0) rfl (WkA.cons (sW hu1) rfl (WkA.cons (iW hu2) rfl WkA.nil))) 69) (wkR_sig (WkR.cons (nW hu3 (.cons (lW hu4) (.cons (lW hu5) .nil))).1 (nW hu3 (.cons (lW hu4) (.cons (lW hu5) .nil))).2 (renL_mem (.cons rfl (.cons rfl .nil))) (WkR.nil _)) rfl) (l_z39_3_run n m _ _ _ _ x h)
  ·unfold l_z39_3_K at h
   split at h
   ·exact absurd rfl hne
   ·obtain ⟨u0, hu0, u1, hu1, u2, hu2, u3, hu3, h⟩ := ob4 h
    cases h
    exact ⟨1, _, _, by decide, WkA.env (WkA.cons (sW hu0) rfl WkA.nil) 69, (wkR_sig (WkR.cons (nW hu1 (.cons (lW hu2) (.cons (lW hu3) .nil))).1 (nW hu1 (.cons (lW hu2) (.cons (lW hu3) .nil))).2 (renL_mem (.cons rfl (.cons rfl .nil))) (WkR.nil _)) rfl), rfl, rfl, rfl⟩
   ·obtain ⟨u0, hu0, u1, hu1, u2, hu2, u3, hu3, h⟩ := ob4 h
    obtain ⟨u4, hu4, h⟩ := ob h
    cases h
    exact ⟨1, _, _, by decide, WkA.env (WkA.cons (pW hu0) rfl (WkA.cons (sW hu1) rfl WkA.nil)) 69, (wkR_sig (WkR.cons (nW hu2 (.cons (lW hu3) (.cons (lW hu4) .nil))).1 (nW hu2 (.cons (lW hu3) (.cons (lW hu4) .nil))).2 (renL_mem (.cons rfl (.cons rfl .nil))) (WkR.nil _)) rfl), rfl, rfl, rfl⟩
   ·cases h
theorem l_z39_3_ok (n : Nat) : LoopOk Tryz.prog (sp_z39 n) 0 69 code_l_z39_3 := by
  intro R key E sg K r hk h
  rw [show Go.Eng.keyOf code_l_z39_3 = some 3 from by kernel_rfl] at hk
  cases hk
  have h : l_z39_3_S n R E sg K = some r := h
  unfold l_z39_3_S at h
  obtain ⟨u0, hu0, u1, hu1, u2, hu2, u3, hu3, h⟩ := ob4 h
  obtain ⟨u4, hu4, u5, hu5, h⟩ := ob2 h
  obtain ⟨x, hx, h⟩ := ob h
  refine (SemL.pre (k := 1) (by decide) (WkA.env (WkA.cons (pW hu0) rfl (WkA.cons (sW hu1) rfl (WkA.cons (iW hu2) rfl WkA.nil))) 69) (wkR_sig (WkR.cons (nW hu3 (.cons (lW hu4) (.cons (lW hu5) .nil))).1 (nW hu3 (.cons (lW hu4) (.cons (lW hu5) .nil))).2 (renL_mem (.cons rfl (.cons rfl .nil))) (WkR.nil _)) rfl) (l_z39_3_run n n _ _ _ _ x hx)).mono ?_
  intro ex e s hq
  rcases x with x | x <;> (obtain ⟨rfl, rfl, rfl⟩ := hq; exact ⟨_, rfl, h⟩)
def code_l_z39_15 : Code := (loopsOf code_z39).getD 1 .skip
theorem code_l_z39_15_ok : CodeOk Tryz.prog code_l_z39_15 := codeOk_loops code_z39_ok _ (getD_mem (by kernel_rfl))
def l_z39_15_K (k : ByteArray × Int × (List T) × (List T) -> Option (ByteArray × (List T) × (List T))) : Ex -> SEnv -> Sig -> Option (ByteArray × (List T) × (List T)) := fun x E sg => match x with
 | .normal => Option.bind (V.ptrOf 0 0 (SEnv.at E 1)) fun u0 => Option.bind (V.strOf (SEnv.at E 3)) fun u1 => Option.bind (V.intOf .i64 (SEnv.at E 6)) fun u2 => Option.bind (cellsN 2 sg 0) fun u3 => Option.bind (V.lstOf (u3.getD 0 .any)) fun u4 => Option.bind (V.lstOf (u3.getD 1 .any)) fun u5 => k (u1, u2, u4, u5)
 | (.exit 2) => Option.bind (V.strOf (SEnv.at E 3)) fun u0 => Option.bind (cellsN 2 sg 0) fun u1 => Option.bind (V.lstOf (u1.getD 0 .any)) fun u2 => Option.bind (V.lstOf (u1.getD 1 .any)) fun u3 => some (u0, u2, u3)
 | _ => none
theorem l_z39_15_eq (n : Nat) (k : ByteArray × Int × (List T) × (List T) -> Option (ByteArray × (List T) × (List T))) (s0 : ByteArray) (s1 : Int) (s2 : List T) (s3 : List T) : mX Tryz.prog (sp_z39 n) 69 code_l_z39_15 [(1, (V.ptr 0 0)), (3, (V.t (T.sc (.string s0)))), (6, (V.t (T.sc (.int .i64 s1))))] [some [(V.t (T.list s2)), (V.t (T.list s3))]] (l_z39_15_K k) = l_z39_15_B n k (s0, s1, s2, s3) := by kernel_rfl
def l_z39_15_Q (x : ByteArray × (List T) × (List T)) (ex : Ex) (e : Env) (s : Sig) : Prop := (fun p0 => (ex = (.exit 2) /\ e = SEnv.env 69 [(3, (V.t (T.sc (.string p0.1))))] /\ s = [some [(V.t (T.list p0.2.1)), (V.t (T.list p0.2.2))]])) x
theorem l_z39_15_run (n : Nat) : ∀ (m : Nat) (s0 : ByteArray) (s1 : Int) (s2 : List T) (s3 : List T) (x : ByteArray × (List T) × (List T)), l_z39_15 n m (s0, s1, s2, s3) = some x -> SemL Tryz.prog 0 code_l_z39_15 (SEnv.env 69 [(1, (V.ptr 0 0)), (3, (V.t (T.sc (.string s0)))), (6, (V.t (T.sc (.int .i64 s1))))]) [some [(V.t (T.list s2)), (V.t (T.list s3))]] (l_z39_15_Q x)
 | 0, s0, s1, s2, s3, x, h => by cases h
 | m + 1, s0, s1, s2, s3, x, h => by
  refine loop_step (sp_z39_ok n) code_l_z39_15_ok (nl (by kernel_rfl)) (no_scope (by kernel_rfl)) ((l_z39_15_eq n _ s0 s1 s2 s3).trans h) (fun E sg h => ?_) (fun ex E sg hne h => ?_)
  ·simp only [l_z39_15_K] at h
   obtain ⟨u0, hu0, u1, hu1, u2, hu2, u3, hu3, h⟩ := ob4 h
   obtain ⟨u4, hu4, u5, hu5, h⟩ := ob2 h
   exact SemL.pre (k := 1) (by decide) (WkA.env (WkA.cons (pW hu0) rfl (WkA.cons (sW hu1) rfl (WkA.cons (iW hu2) rfl WkA.nil))) 69) (wkR_sig (WkR.cons (nW hu3 (.cons (lW hu4) (.cons (lW hu5) .nil))).1 (nW hu3 (.cons (lW hu4) (.cons (lW hu5) .nil))).2 (renL_mem (.cons rfl (.cons rfl .nil))) (WkR.nil _)) rfl) (l_z39_15_run n m _ _ _ _ x h)
  ·unfold l_z39_15_K at h
   split at h
   ·exact absurd rfl hne
   ·obtain ⟨u0, hu0, u1, hu1, u2, hu2, u3, hu3, h⟩ := ob4 h
    cases h
    exact ⟨1, _, _, by decide, WkA.env (WkA.cons (sW hu0) rfl WkA.nil) 69, (wkR_sig (WkR.cons (nW hu1 (.cons (lW hu2) (.cons (lW hu3) .nil))).1 (nW hu1 (.cons (lW hu2) (.cons (lW hu3) .nil))).2 (renL_mem (.cons rfl (.cons rfl .nil))) (WkR.nil _)) rfl), rfl, rfl, rfl⟩
   ·cases h
theorem l_z39_15_ok (n : Nat) : LoopOk Tryz.prog (sp_z39 n) 0 69 code_l_z39_15 := by
  intro R key E sg K r hk h
  rw [show Go.Eng.keyOf code_l_z39_15 = some 15 from by kernel_rfl] at hk
  cases hk
  have h : l_z39_15_S n R E sg K = some r := h
  unfold l_z39_15_S at h
  obtain ⟨u0, hu0, u1, hu1, u2, hu2, u3, hu3, h⟩ := ob4 h
  obtain ⟨u4, hu4, u5, hu5, h⟩ := ob2 h
  obtain ⟨x, hx, h⟩ := ob h
  refine (SemL.pre (k := 1) (by decide) (WkA.env (WkA.cons (pW hu0) rfl (WkA.cons (sW hu1) rfl (WkA.cons (iW hu2) rfl WkA.nil))) 69) (wkR_sig (WkR.cons (nW hu3 (.cons (lW hu4) (.cons (lW hu5) .nil))).1 (nW hu3 (.cons (lW hu4) (.cons (lW hu5) .nil))).2 (renL_mem (.cons rfl (.cons rfl .nil))) (WkR.nil _)) rfl) (l_z39_15_run n n _ _ _ _ x hx)).mono ?_
  intro ex e s hq
  obtain ⟨rfl, rfl, rfl⟩ := hq
  exact ⟨_, rfl, h⟩
def K_z39 (v : V) (s : Sig) : Option (ByteArray) := Option.bind (V.strOf v) fun u0 => some u0
theorem K_z39_wk {v : V} {s : Sig} {r : ByteArray} (h : K_z39 v s = some r) : Wk v (enc_z39 r) /\ WkS 0 s (encS_z39 r) := by
 unfold K_z39 at h
 obtain ⟨u0, hu0, h⟩ := ob h
 cases h
 exact ⟨(sW hu0), (WkS.none _)⟩
theorem m_z39_eq (n : Nat) (a0 : List T) (a1 : List T) : mF Tryz.prog (sp_z39 n) 25 [(V.agg [(V.t (T.list a0)), (V.t (T.list a1))])] [] K_z39 = m_z39 n a0 a1 := by kernel_rfl
theorem m_z39_ok (n : Nat) : ok_z39 (m_z39 n) := fun a0 a1 r h => mF_ok sound (sp_z39_ok n) code_z39_fn code_z39_body (forall_getD (d := .skip) 2 (by kernel_rfl) (fun i hi => match i, hi with | 0, _ => l_z39_3_ok n | 1, _ => l_z39_15_ok n | i + 2, hi => absurd hi (by omega))) (no_scope (by kernel_rfl)) ((m_z39_eq n a0 a1).trans h) (fun v s hk => ⟨(K_z39_wk hk).1, rfl, (K_z39_wk hk).2⟩)
def m_z44 (n : Nat) (a0 : ByteArray) (a1 : ByteArray) : Option (Int) := cntM a0 a1
def enc_z44 (r : Int) : V := (V.t (T.sc (.int .i64 r)))
def encS_z44 (r : Int) : Sig := []
def ok_z44 (m : ByteArray -> ByteArray -> Option (Int)) : Prop := ∀ (a0 : ByteArray) (a1 : ByteArray) (r : Int), m a0 a1 = some r -> FuncOk Tryz.prog 106 [(V.t (T.sc (.string a0))), (V.t (T.sc (.string a1)))] [] (enc_z44 r) (encS_z44 r)
def c_z44 (m : ByteArray -> ByteArray -> Option (Int)) (vs : List V) (sg : Sig) : Option CallM := bif Nat.beq vs.length 2 && Nat.beq sg.length 0 then Option.bind (V.strOf (vs.getD 0 .any)) fun u0 => Option.bind (V.strOf (vs.getD 1 .any)) fun u1 => some { α := Int, m := m u0 u1, dflt := 0, enc := fun y => ((V.t (T.sc (.int .i64 y))), []) } else none
theorem c_z44_ok (m : ByteArray -> ByteArray -> Option (Int)) (hm : ok_z44 m) (vs : List V) (sg : Sig) (cm : CallM) (x : cm.α) (h : c_z44 m vs sg = some cm) (hx : cm.m = some x) : FuncOk Tryz.prog 106 vs sg (cm.enc x).1 (cm.enc x).2 := by
 unfold c_z44 at h
 obtain ⟨hl, hs, h⟩ := callee_sig h
 obtain ⟨u0, hu0, u1, hu1, h⟩ := ob2 h
 cases h
 exact (hm u0 u1 x hx).wk (args_wk hl (.cons (sW hu0) (.cons (sW hu1) .nil))) (wkSg_of hs .nil)
theorem m_z44_ok (n : Nat) : ok_z44 (m_z44 n) := fun a0 a1 r h => x_z44 h
def m_z10 (n : Nat) (a0 : ByteArray) (a1 : Int) : Option (Int) := lastM a0 a1
def enc_z10 (r : Int) : V := (V.t (T.sc (.int .i64 r)))
def encS_z10 (r : Int) : Sig := []
def ok_z10 (m : ByteArray -> Int -> Option (Int)) : Prop := ∀ (a0 : ByteArray) (a1 : Int) (r : Int), m a0 a1 = some r -> FuncOk Tryz.prog 107 [(V.t (T.sc (.string a0))), (V.t (T.sc (.int .u8 a1)))] [] (enc_z10 r) (encS_z10 r)
def c_z10 (m : ByteArray -> Int -> Option (Int)) (vs : List V) (sg : Sig) : Option CallM := bif Nat.beq vs.length 2 && Nat.beq sg.length 0 then Option.bind (V.strOf (vs.getD 0 .any)) fun u0 => Option.bind (V.intOf .u8 (vs.getD 1 .any)) fun u1 => some { α := Int, m := m u0 u1, dflt := 0, enc := fun y => ((V.t (T.sc (.int .i64 y))), []) } else none
theorem c_z10_ok (m : ByteArray -> Int -> Option (Int)) (hm : ok_z10 m) (vs : List V) (sg : Sig) (cm : CallM) (x : cm.α) (h : c_z10 m vs sg = some cm) (hx : cm.m = some x) : FuncOk Tryz.prog 107 vs sg (cm.enc x).1 (cm.enc x).2 := by
 unfold c_z10 at h
 obtain ⟨hl, hs, h⟩ := callee_sig h
 obtain ⟨u0, hu0, u1, hu1, h⟩ := ob2 h
 cases h
 exact (hm u0 u1 x hx).wk (args_wk hl (.cons (sW hu0) (.cons (iW hu1) .nil))) (wkSg_of hs .nil)
theorem m_z10_ok (n : Nat) : ok_z10 (m_z10 n) := fun a0 a1 r h => x_z10 h
def m_z62 (n : Nat) (a0 : ByteArray) (a1 : Int) : Option ((Nat × Nat)) :=
must true (decide (0 <= 0) && decide (0 <= (if (0 : Int) < (if (((ByteArray.size a0 : Nat) : Int) : Int) < a1 then ((ByteArray.size a0 : Nat) : Int) else a1) then (if (((ByteArray.size a0 : Nat) : Int) : Int) < a1 then ((ByteArray.size a0 : Nat) : Int) else a1) else 0)) && decide ((if (0 : Int) < (if (((ByteArray.size a0 : Nat) : Int) : Int) < a1 then ((ByteArray.size a0 : Nat) : Int) else a1) then (if (((ByteArray.size a0 : Nat) : Int) : Int) < a1 then ((ByteArray.size a0 : Nat) : Int) else a1) else 0) <= ((ByteArray.size a0 : Nat) : Int))) (Option.bind (m_z44 n (ByteArray.extract a0 (Int.toNat 0) (Int.toNat (if (0 : Int) < (if (((ByteArray.size a0 : Nat) : Int) : Int) < a1 then ((ByteArray.size a0 : Nat) : Int) else a1) then (if (((ByteArray.size a0 : Nat) : Int) : Int) < a1 then ((ByteArray.size a0 : Nat) : Int) else a1) else 0))) (⟨#[10]⟩ : ByteArray)) fun r0 =>
Option.bind (m_z10 n (ByteArray.extract a0 (Int.toNat 0) (Int.toNat (if (0 : Int) < (if (((ByteArray.size a0 : Nat) : Int) : Int) < a1 then ((ByteArray.size a0 : Nat) : Int) else a1) then (if (((ByteArray.size a0 : Nat) : Int) : Int) < a1 then ((ByteArray.size a0 : Nat) : Int) else a1) else 0))) 10) fun r1 =>
some ((FloatKind.nearest .f64 (IntKind.wrap .i64 (1 + r0))), (FloatKind.nearest .f64 (IntKind.wrap .i64 (((ByteArray.size (ByteArray.extract a0 (Int.toNat 0) (Int.toNat (if (0 : Int) < (if (((ByteArray.size a0 : Nat) : Int) : Int) < a1 then ((ByteArray.size a0 : Nat) : Int) else a1) then (if (((ByteArray.size a0 : Nat) : Int) : Int) < a1 then ((ByteArray.size a0 : Nat) : Int) else a1) else 0))) : Nat) : Int) - r1)))))
def enc_z62 (r : (Nat × Nat)) : V := (V.t (T.sc (.complex .f64 r.1 r.2)))
def encS_z62 (r : (Nat × Nat)) : Sig := []
def ok_z62 (m : ByteArray -> Int -> Option ((Nat × Nat))) : Prop := ∀ (a0 : ByteArray) (a1 : Int) (r : (Nat × Nat)), m a0 a1 = some r -> FuncOk Tryz.prog 67 [(V.t (T.sc (.string a0))), (V.t (T.sc (.int .i64 a1)))] [] (enc_z62 r) (encS_z62 r)
def c_z62 (m : ByteArray -> Int -> Option ((Nat × Nat))) (vs : List V) (sg : Sig) : Option CallM := bif Nat.beq vs.length 2 && Nat.beq sg.length 0 then Option.bind (V.strOf (vs.getD 0 .any)) fun u0 => Option.bind (V.intOf .i64 (vs.getD 1 .any)) fun u1 => some { α := (Nat × Nat), m := m u0 u1, dflt := (0, 0), enc := fun y => ((V.t (T.sc (.complex .f64 y.1 y.2))), []) } else none
theorem c_z62_ok (m : ByteArray -> Int -> Option ((Nat × Nat))) (hm : ok_z62 m) (vs : List V) (sg : Sig) (cm : CallM) (x : cm.α) (h : c_z62 m vs sg = some cm) (hx : cm.m = some x) : FuncOk Tryz.prog 67 vs sg (cm.enc x).1 (cm.enc x).2 := by
 unfold c_z62 at h
 obtain ⟨hl, hs, h⟩ := callee_sig h
 obtain ⟨u0, hu0, u1, hu1, h⟩ := ob2 h
 cases h
 exact (hm u0 u1 x hx).wk (args_wk hl (.cons (sW hu0) (.cons (iW hu1) .nil))) (wkSg_of hs .nil)
def code_z62 : Code := Tryz.f67.body.getD .skip
def sp_z62 (n : Nat) : Go.Eng.Spec := ⟨fun f vs sg => (match f with
  | 106 => c_z44 (m_z44 n) vs sg
  | 107 => c_z10 (m_z10 n) vs sg
  | _ => none), fun R key E sg K => (match key with
  | _ => none)⟩
theorem sp_z62_ok (n : Nat) : CallsOk Tryz.prog (sp_z62 n) := by
 intro f vs sg cm x h hx
 simp only [sp_z62] at h
 split at h
 ·exact c_z44_ok _ (m_z44_ok n) vs sg cm x h hx
 ·exact c_z10_ok _ (m_z10_ok n) vs sg cm x h hx
 ·cases h
theorem code_z62_fn : Tryz.prog.funcs[67]? = some Tryz.f67 := Tryz.func67
theorem code_z62_body : Tryz.f67.body = some code_z62 := by kernel_rfl
def K_z62 (v : V) (s : Sig) : Option ((Nat × Nat)) := Option.bind (V.cplxOf .f64 v) fun u0 => some u0
theorem K_z62_wk {v : V} {s : Sig} {r : (Nat × Nat)} (h : K_z62 v s = some r) : Wk v (enc_z62 r) /\ WkS 0 s (encS_z62 r) := by
 unfold K_z62 at h
 obtain ⟨u0, hu0, h⟩ := ob h
 cases h
 exact ⟨(xW hu0), (WkS.none _)⟩
theorem m_z62_eq (n : Nat) (a0 : ByteArray) (a1 : Int) : mF Tryz.prog (sp_z62 n) 67 [(V.t (T.sc (.string a0))), (V.t (T.sc (.int .i64 a1)))] [] K_z62 = m_z62 n a0 a1 := by kernel_rfl
theorem m_z62_ok (n : Nat) : ok_z62 (m_z62 n) := fun a0 a1 r h => mF_ok sound (sp_z62_ok n) code_z62_fn code_z62_body (nl (by kernel_rfl)) (no_scope (by kernel_rfl)) ((m_z62_eq n a0 a1).trans h) (fun v s hk => ⟨(K_z62_wk hk).1, rfl, (K_z62_wk hk).2⟩)
def m_z45 (n : Nat) (a0 : Int) : Option (Bool) :=
some (bif (bif ((a0 : Int) == 32) then true else ((a0 : Int) == 9)) then true else ((a0 : Int) == 10))
def enc_z45 (r : Bool) : V := (V.t (T.sc (.bool r)))
def encS_z45 (r : Bool) : Sig := []
def ok_z45 (m : Int -> Option (Bool)) : Prop := ∀ (a0 : Int) (r : Bool), m a0 = some r -> FuncOk Tryz.prog 69 [(V.t (T.sc (.int .u8 a0)))] [] (enc_z45 r) (encS_z45 r)
def c_z45 (m : Int -> Option (Bool)) (vs : List V) (sg : Sig) : Option CallM := bif Nat.beq vs.length 1 && Nat.beq sg.length 0 then Option.bind (V.intOf .u8 (vs.getD 0 .any)) fun u0 => some { α := Bool, m := m u0, dflt := false, enc := fun y => ((V.t (T.sc (.bool y))), []) } else none
theorem c_z45_ok (m : Int -> Option (Bool)) (hm : ok_z45 m) (vs : List V) (sg : Sig) (cm : CallM) (x : cm.α) (h : c_z45 m vs sg = some cm) (hx : cm.m = some x) : FuncOk Tryz.prog 69 vs sg (cm.enc x).1 (cm.enc x).2 := by
 unfold c_z45 at h
 obtain ⟨hl, hs, h⟩ := callee_sig h
 obtain ⟨u0, hu0, h⟩ := ob h
 cases h
 exact (hm u0 x hx).wk (args_wk hl (.cons (iW hu0) .nil)) (wkSg_of hs .nil)
def code_z45 : Code := Tryz.f69.body.getD .skip
def sp_z45 (n : Nat) : Go.Eng.Spec := ⟨fun f vs sg => (match f with
  | _ => none), fun R key E sg K => (match key with
  | _ => none)⟩
theorem sp_z45_ok (n : Nat) : CallsOk Tryz.prog (sp_z45 n) := by
 intro f vs sg cm x h hx
 have h : (none : Option CallM) = some cm := h
 cases h
theorem code_z45_fn : Tryz.prog.funcs[69]? = some Tryz.f69 := Tryz.func69
theorem code_z45_body : Tryz.f69.body = some code_z45 := by kernel_rfl
def K_z45 (v : V) (s : Sig) : Option (Bool) := Option.bind (V.boolOf v) fun u0 => some u0
theorem K_z45_wk {v : V} {s : Sig} {r : Bool} (h : K_z45 v s = some r) : Wk v (enc_z45 r) /\ WkS 0 s (encS_z45 r) := by
 unfold K_z45 at h
 obtain ⟨u0, hu0, h⟩ := ob h
 cases h
 exact ⟨(bW hu0), (WkS.none _)⟩
theorem m_z45_eq (n : Nat) (a0 : Int) : mF Tryz.prog (sp_z45 n) 69 [(V.t (T.sc (.int .u8 a0)))] [] K_z45 = m_z45 n a0 := by kernel_rfl
theorem m_z45_ok (n : Nat) : ok_z45 (m_z45 n) := fun a0 r h => mF_ok sound (sp_z45_ok n) code_z45_fn code_z45_body (nl (by kernel_rfl)) (no_scope (by kernel_rfl)) ((m_z45_eq n a0).trans h) (fun v s hk => ⟨(K_z45_wk hk).1, rfl, (K_z45_wk hk).2⟩)
def l_z63_2_B (n : Nat) (k : ByteArray × Int -> Option (Int)) : ByteArray × Int -> Option (Int) := fun (s0, s1) =>
Option.bind (bidx ((decide ((s1 : Int) < ((ByteArray.size s0 : Nat) : Int)))) s0 s1) fun b0 =>
Option.bind (bif (decide ((s1 : Int) < ((ByteArray.size s0 : Nat) : Int))) then m_z45 n ((UInt8.toNat b0 : Nat) : Int) else some false) fun r1 =>
bif (bif (decide ((s1 : Int) < ((ByteArray.size s0 : Nat) : Int))) then r1 else false) then (
k (s0, (IntKind.wrap .i64 (s1 + 1))))
else (
some s1)
def l_z63_2 (n : Nat) : Nat -> ByteArray × Int -> Option (Int)
 | 0, _ => none
 | m + 1, s => l_z63_2_B n (l_z63_2 n m) s
def m_z63 (n : Nat) (a0 : ByteArray) : Option (Int) :=
Option.bind (l_z63_2 n n (a0, 0)) fun p3 =>
some p3
def enc_z63 (r : Int) : V := (V.t (T.sc (.int .i64 r)))
def encS_z63 (r : Int) : Sig := []
def ok_z63 (m : ByteArray -> Option (Int)) : Prop := ∀ (a0 : ByteArray) (r : Int), m a0 = some r -> FuncOk Tryz.prog 68 [(V.t (T.sc (.string a0))), (V.fn 69 [])] [] (enc_z63 r) (encS_z63 r)
def c_z63 (m : ByteArray -> Option (Int)) (vs : List V) (sg : Sig) : Option CallM := bif Nat.beq vs.length 2 && Nat.beq sg.length 0 then Option.bind (V.strOf (vs.getD 0 .any)) fun u0 => Option.bind (V.fnN 69 0 (vs.getD 1 .any)) fun u1 => some { α := Int, m := m u0, dflt := 0, enc := fun y => ((V.t (T.sc (.int .i64 y))), []) } else none
theorem c_z63_ok (m : ByteArray -> Option (Int)) (hm : ok_z63 m) (vs : List V) (sg : Sig) (cm : CallM) (x : cm.α) (h : c_z63 m vs sg = some cm) (hx : cm.m = some x) : FuncOk Tryz.prog 68 vs sg (cm.enc x).1 (cm.enc x).2 := by
 unfold c_z63 at h
 obtain ⟨hl, hs, h⟩ := callee_sig h
 obtain ⟨u0, hu0, u1, hu1, h⟩ := ob2 h
 cases h
 exact (hm u0 x hx).wk (args_wk hl (.cons (sW hu0) (.cons (fnN_wk hu1 .nil) .nil))) (wkSg_of hs .nil)
def code_z63 : Code := Tryz.f68.body.getD .skip
def l_z63_2_S (n : Nat) (R : Type) (E : SEnv) (sg : Sig) (K : Ex -> SEnv -> Sig -> Option R) : Option R := Option.bind (V.strOf (SEnv.at E 0)) fun u0 => Option.bind (V.fnN 69 0 (SEnv.at E 1)) fun u1 => Option.bind (V.intOf .i64 (SEnv.at E 5)) fun u2 => Option.bind (l_z63_2 n n (u0, u2)) fun p0 => K (.exit 0) [(5, (V.t (T.sc (.int .i64 p0))))] []
def sp_z63 (n : Nat) : Go.Eng.Spec := ⟨fun f vs sg => (match f with
  | 69 => c_z45 (m_z45 n) vs sg
  | _ => none), fun R key E sg K => (match key with
  | 2 => l_z63_2_S n R E sg K
  | _ => none)⟩
theorem sp_z63_ok (n : Nat) : CallsOk Tryz.prog (sp_z63 n) := by
 intro f vs sg cm x h hx
 simp only [sp_z63] at h
 split at h
 ·exact c_z45_ok _ (m_z45_ok n) vs sg cm x h hx
 ·cases h
theorem code_z63_fn : Tryz.prog.funcs[68]? = some Tryz.f68 := Tryz.func68
theorem code_z63_body : Tryz.f68.body = some code_z63 := by kernel_rfl
theorem code_z63_ok : CodeOk Tryz.prog code_z63 := (sound 68 _ _ code_z63_fn code_z63_body).1
def code_l_z63_2 : Code := (loopsOf code_z63).getD 0 .skip
theorem code_l_z63_2_ok : CodeOk Tryz.prog code_l_z63_2 := codeOk_loops code_z63_ok _ (getD_mem (by kernel_rfl))
def l_z63_2_K (k : ByteArray × Int -> Option (Int)) : Ex -> SEnv -> Sig -> Option (Int) := fun x E sg => match x with
 | .normal => Option.bind (V.strOf (SEnv.at E 0)) fun u0 => Option.bind (V.fnN 69 0 (SEnv.at E 1)) fun u1 => Option.bind (V.intOf .i64 (SEnv.at E 5)) fun u2 => k (u0, u2)
 | (.exit 0) => Option.bind (V.intOf .i64 (SEnv.at E 5)) fun u0 => some u0
 | _ => none
theorem l_z63_2_eq (n : Nat) (k : ByteArray × Int -> Option (Int)) (s0 : ByteArray) (s1 : Int) : mX Tryz.prog (sp_z63 n) 20 code_l_z63_2 [(0, (V.t (T.sc (.string s0)))), (1, (V.fn 69 [])), (5, (V.t (T.sc (.int .i64 s1))))] [] (l_z63_2_K k) = l_z63_2_B n k (s0, s1) := by kernel_rfl
def l_z63_2_Q (x : Int) (ex : Ex) (e : Env) (s : Sig) : Prop := (fun p0 => (ex = (.exit 0) /\ e = SEnv.env 20 [(5, (V.t (T.sc (.int .i64 p0))))] /\ s = [])) x
theorem l_z63_2_run (n : Nat) : ∀ (m : Nat) (s0 : ByteArray) (s1 : Int) (x : Int), l_z63_2 n m (s0, s1) = some x -> SemL Tryz.prog 0 code_l_z63_2 (SEnv.env 20 [(0, (V.t (T.sc (.string s0)))), (1, (V.fn 69 [])), (5, (V.t (T.sc (.int .i64 s1))))]) [] (l_z63_2_Q x)
 | 0, s0, s1, x, h => by cases h
 | m + 1, s0, s1, x, h => by
  refine loop_step (sp_z63_ok n) code_l_z63_2_ok (nl (by kernel_rfl)) (no_scope (by kernel_rfl)) ((l_z63_2_eq n _ s0 s1).trans h) (fun E sg h => ?_) (fun ex E sg hne h => ?_)
  ·simp only [l_z63_2_K] at h
   obtain ⟨u0, hu0, u1, hu1, h⟩ := ob2 h
   obtain ⟨u2, hu2, h⟩ := ob h
   exact SemL.pre (k := 0) (by decide) (WkA.env (WkA.cons (sW hu0) rfl (WkA.cons (fnN_wk hu1 .nil) rfl (WkA.cons (iW hu2) rfl WkA.nil))) 20) (WkS.none _) (l_z63_2_run n m _ _ x h)
  ·unfold l_z63_2_K at h
   split at h
   ·exact absurd rfl hne
   ·obtain ⟨u0, hu0, h⟩ := ob h
    cases h
    exact ⟨0, _, _, by decide, WkA.env (WkA.cons (iW hu0) rfl WkA.nil) 20, (WkS.none _), rfl, rfl, rfl⟩
   ·cases h
theorem l_z63_2_ok (n : Nat) : LoopOk Tryz.prog (sp_z63 n) 0 20 code_l_z63_2 := by
  intro R key E sg K r hk h
  rw [show Go.Eng.keyOf code_l_z63_2 = some 2 from by kernel_rfl] at hk
  cases hk
  have h : l_z63_2_S n R E sg K = some r := h
  unfold l_z63_2_S at h
  obtain ⟨u0, hu0, u1, hu1, u2, hu2, x, hx, h⟩ := ob4 h
  refine (SemL.pre (k := 0) (by decide) (WkA.env (WkA.cons (sW hu0) rfl (WkA.cons (fnN_wk hu1 .nil) rfl (WkA.cons (iW hu2) rfl WkA.nil))) 20) (WkS.none _) (l_z63_2_run n n _ _ x hx)).mono ?_
  intro ex e s hq
  obtain ⟨rfl, rfl, rfl⟩ := hq
  exact ⟨_, rfl, h⟩
def K_z63 (v : V) (s : Sig) : Option (Int) := Option.bind (V.intOf .i64 v) fun u0 => some u0
theorem K_z63_wk {v : V} {s : Sig} {r : Int} (h : K_z63 v s = some r) : Wk v (enc_z63 r) /\ WkS 0 s (encS_z63 r) := by
 unfold K_z63 at h
 obtain ⟨u0, hu0, h⟩ := ob h
 cases h
 exact ⟨(iW hu0), (WkS.none _)⟩
theorem m_z63_eq (n : Nat) (a0 : ByteArray) : mF Tryz.prog (sp_z63 n) 68 [(V.t (T.sc (.string a0))), (V.fn 69 [])] [] K_z63 = m_z63 n a0 := by kernel_rfl
theorem m_z63_ok (n : Nat) : ok_z63 (m_z63 n) := fun a0 r h => mF_ok sound (sp_z63_ok n) code_z63_fn code_z63_body (forall_getD (d := .skip) 1 (by kernel_rfl) (fun i hi => match i, hi with | 0, _ => l_z63_2_ok n | i + 1, hi => absurd hi (by omega))) (no_scope (by kernel_rfl)) ((m_z63_eq n a0).trans h) (fun v s hk => ⟨(K_z63_wk hk).1, rfl, (K_z63_wk hk).2⟩)
def m_z53 (n : Nat) (a0 : Int) : Option (Bool) :=
some (bif (decide ((a0 : Int) ≥ 97)) then (decide ((a0 : Int) <= 122)) else false)
def enc_z53 (r : Bool) : V := (V.t (T.sc (.bool r)))
def encS_z53 (r : Bool) : Sig := []
def ok_z53 (m : Int -> Option (Bool)) : Prop := ∀ (a0 : Int) (r : Bool), m a0 = some r -> FuncOk Tryz.prog 70 [(V.t (T.sc (.int .u8 a0)))] [] (enc_z53 r) (encS_z53 r)
def c_z53 (m : Int -> Option (Bool)) (vs : List V) (sg : Sig) : Option CallM := bif Nat.beq vs.length 1 && Nat.beq sg.length 0 then Option.bind (V.intOf .u8 (vs.getD 0 .any)) fun u0 => some { α := Bool, m := m u0, dflt := false, enc := fun y => ((V.t (T.sc (.bool y))), []) } else none
theorem c_z53_ok (m : Int -> Option (Bool)) (hm : ok_z53 m) (vs : List V) (sg : Sig) (cm : CallM) (x : cm.α) (h : c_z53 m vs sg = some cm) (hx : cm.m = some x) : FuncOk Tryz.prog 70 vs sg (cm.enc x).1 (cm.enc x).2 := by
 unfold c_z53 at h
 obtain ⟨hl, hs, h⟩ := callee_sig h
 obtain ⟨u0, hu0, h⟩ := ob h
 cases h
 exact (hm u0 x hx).wk (args_wk hl (.cons (iW hu0) .nil)) (wkSg_of hs .nil)
def code_z53 : Code := Tryz.f70.body.getD .skip
def sp_z53 (n : Nat) : Go.Eng.Spec := ⟨fun f vs sg => (match f with
  | _ => none), fun R key E sg K => (match key with
  | _ => none)⟩
theorem sp_z53_ok (n : Nat) : CallsOk Tryz.prog (sp_z53 n) := by
 intro f vs sg cm x h hx
 have h : (none : Option CallM) = some cm := h
 cases h
theorem code_z53_fn : Tryz.prog.funcs[70]? = some Tryz.f70 := Tryz.func70
theorem code_z53_body : Tryz.f70.body = some code_z53 := by kernel_rfl
def K_z53 (v : V) (s : Sig) : Option (Bool) := Option.bind (V.boolOf v) fun u0 => some u0
theorem K_z53_wk {v : V} {s : Sig} {r : Bool} (h : K_z53 v s = some r) : Wk v (enc_z53 r) /\ WkS 0 s (encS_z53 r) := by
 unfold K_z53 at h
 obtain ⟨u0, hu0, h⟩ := ob h
 cases h
 exact ⟨(bW hu0), (WkS.none _)⟩
theorem m_z53_eq (n : Nat) (a0 : Int) : mF Tryz.prog (sp_z53 n) 70 [(V.t (T.sc (.int .u8 a0)))] [] K_z53 = m_z53 n a0 := by kernel_rfl
theorem m_z53_ok (n : Nat) : ok_z53 (m_z53 n) := fun a0 r h => mF_ok sound (sp_z53_ok n) code_z53_fn code_z53_body (nl (by kernel_rfl)) (no_scope (by kernel_rfl)) ((m_z53_eq n a0).trans h) (fun v s hk => ⟨(K_z53_wk hk).1, rfl, (K_z53_wk hk).2⟩)
def m_z60 (n : Nat) (a0 : Int) : Option (Bool) :=
some (bif (decide ((a0 : Int) ≥ 48)) then (decide ((a0 : Int) <= 57)) else false)
def enc_z60 (r : Bool) : V := (V.t (T.sc (.bool r)))
def encS_z60 (r : Bool) : Sig := []
def ok_z60 (m : Int -> Option (Bool)) : Prop := ∀ (a0 : Int) (r : Bool), m a0 = some r -> FuncOk Tryz.prog 71 [(V.t (T.sc (.int .u8 a0)))] [] (enc_z60 r) (encS_z60 r)
def c_z60 (m : Int -> Option (Bool)) (vs : List V) (sg : Sig) : Option CallM := bif Nat.beq vs.length 1 && Nat.beq sg.length 0 then Option.bind (V.intOf .u8 (vs.getD 0 .any)) fun u0 => some { α := Bool, m := m u0, dflt := false, enc := fun y => ((V.t (T.sc (.bool y))), []) } else none
theorem c_z60_ok (m : Int -> Option (Bool)) (hm : ok_z60 m) (vs : List V) (sg : Sig) (cm : CallM) (x : cm.α) (h : c_z60 m vs sg = some cm) (hx : cm.m = some x) : FuncOk Tryz.prog 71 vs sg (cm.enc x).1 (cm.enc x).2 := by
 unfold c_z60 at h
 obtain ⟨hl, hs, h⟩ := callee_sig h
 obtain ⟨u0, hu0, h⟩ := ob h
 cases h
 exact (hm u0 x hx).wk (args_wk hl (.cons (iW hu0) .nil)) (wkSg_of hs .nil)
def code_z60 : Code := Tryz.f71.body.getD .skip
def sp_z60 (n : Nat) : Go.Eng.Spec := ⟨fun f vs sg => (match f with
  | _ => none), fun R key E sg K => (match key with
  | _ => none)⟩
theorem sp_z60_ok (n : Nat) : CallsOk Tryz.prog (sp_z60 n) := by
 intro f vs sg cm x h hx
 have h : (none : Option CallM) = some cm := h
 cases h
theorem code_z60_fn : Tryz.prog.funcs[71]? = some Tryz.f71 := Tryz.func71
theorem code_z60_body : Tryz.f71.body = some code_z60 := by kernel_rfl
def K_z60 (v : V) (s : Sig) : Option (Bool) := Option.bind (V.boolOf v) fun u0 => some u0
theorem K_z60_wk {v : V} {s : Sig} {r : Bool} (h : K_z60 v s = some r) : Wk v (enc_z60 r) /\ WkS 0 s (encS_z60 r) := by
 unfold K_z60 at h
 obtain ⟨u0, hu0, h⟩ := ob h
 cases h
 exact ⟨(bW hu0), (WkS.none _)⟩
theorem m_z60_eq (n : Nat) (a0 : Int) : mF Tryz.prog (sp_z60 n) 71 [(V.t (T.sc (.int .u8 a0)))] [] K_z60 = m_z60 n a0 := by kernel_rfl
theorem m_z60_ok (n : Nat) : ok_z60 (m_z60 n) := fun a0 r h => mF_ok sound (sp_z60_ok n) code_z60_fn code_z60_body (nl (by kernel_rfl)) (no_scope (by kernel_rfl)) ((m_z60_eq n a0).trans h) (fun v s hk => ⟨(K_z60_wk hk).1, rfl, (K_z60_wk hk).2⟩)
def m_z5 (n : Nat) (a0 : ByteArray) (a1 : ByteArray) : Option (Bool) :=
must ((decide ((((ByteArray.size a0 : Nat) : Int) : Int) ≥ ((ByteArray.size a1 : Nat) : Int)))) (decide (0 <= 0) && decide (0 <= ((ByteArray.size a1 : Nat) : Int)) && decide (((ByteArray.size a1 : Nat) : Int) <= ((ByteArray.size a0 : Nat) : Int))) (some (bif (decide ((((ByteArray.size a0 : Nat) : Int) : Int) ≥ ((ByteArray.size a1 : Nat) : Int))) then (ByteArray.toList (ByteArray.extract a0 (Int.toNat 0) (Int.toNat ((ByteArray.size a1 : Nat) : Int))) == ByteArray.toList a1) else false))
def enc_z5 (r : Bool) : V := (V.t (T.sc (.bool r)))
def encS_z5 (r : Bool) : Sig := []
def ok_z5 (m : ByteArray -> ByteArray -> Option (Bool)) : Prop := ∀ (a0 : ByteArray) (a1 : ByteArray) (r : Bool), m a0 a1 = some r -> FuncOk Tryz.prog 108 [(V.t (T.sc (.string a0))), (V.t (T.sc (.string a1)))] [] (enc_z5 r) (encS_z5 r)
def c_z5 (m : ByteArray -> ByteArray -> Option (Bool)) (vs : List V) (sg : Sig) : Option CallM := bif Nat.beq vs.length 2 && Nat.beq sg.length 0 then Option.bind (V.strOf (vs.getD 0 .any)) fun u0 => Option.bind (V.strOf (vs.getD 1 .any)) fun u1 => some { α := Bool, m := m u0 u1, dflt := false, enc := fun y => ((V.t (T.sc (.bool y))), []) } else none
theorem c_z5_ok (m : ByteArray -> ByteArray -> Option (Bool)) (hm : ok_z5 m) (vs : List V) (sg : Sig) (cm : CallM) (x : cm.α) (h : c_z5 m vs sg = some cm) (hx : cm.m = some x) : FuncOk Tryz.prog 108 vs sg (cm.enc x).1 (cm.enc x).2 := by
 unfold c_z5 at h
 obtain ⟨hl, hs, h⟩ := callee_sig h
 obtain ⟨u0, hu0, u1, hu1, h⟩ := ob2 h
 cases h
 exact (hm u0 u1 x hx).wk (args_wk hl (.cons (sW hu0) (.cons (sW hu1) .nil))) (wkSg_of hs .nil)
def code_z5 : Code := Tryz.f108.body.getD .skip
def sp_z5 (n : Nat) : Go.Eng.Spec := ⟨fun f vs sg => (match f with
  | _ => none), fun R key E sg K => (match key with
  | _ => none)⟩
theorem sp_z5_ok (n : Nat) : CallsOk Tryz.prog (sp_z5 n) := by
 intro f vs sg cm x h hx
 have h : (none : Option CallM) = some cm := h
 cases h
theorem code_z5_fn : Tryz.prog.funcs[108]? = some Tryz.f108 := Tryz.func108
theorem code_z5_body : Tryz.f108.body = some code_z5 := by kernel_rfl
def K_z5 (v : V) (s : Sig) : Option (Bool) := Option.bind (V.boolOf v) fun u0 => some u0
theorem K_z5_wk {v : V} {s : Sig} {r : Bool} (h : K_z5 v s = some r) : Wk v (enc_z5 r) /\ WkS 0 s (encS_z5 r) := by
 unfold K_z5 at h
 obtain ⟨u0, hu0, h⟩ := ob h
 cases h
 exact ⟨(bW hu0), (WkS.none _)⟩
theorem m_z5_eq (n : Nat) (a0 : ByteArray) (a1 : ByteArray) : mF Tryz.prog (sp_z5 n) 108 [(V.t (T.sc (.string a0))), (V.t (T.sc (.string a1)))] [] K_z5 = m_z5 n a0 a1 := by kernel_rfl
theorem m_z5_ok (n : Nat) : ok_z5 (m_z5 n) := fun a0 a1 r h => mF_ok sound (sp_z5_ok n) code_z5_fn code_z5_body (nl (by kernel_rfl)) (no_scope (by kernel_rfl)) ((m_z5_eq n a0 a1).trans h) (fun v s hk => ⟨(K_z5_wk hk).1, rfl, (K_z5_wk hk).2⟩)
def m_z24 (n : Nat) (a0 : ByteArray) (a1 : ByteArray) : Option (Bool) :=
Option.bind (m_z5 n a0 a1) fun r0 =>
some r0
def enc_z24 (r : Bool) : V := (V.t (T.sc (.bool r)))
def encS_z24 (r : Bool) : Sig := []
def ok_z24 (m : ByteArray -> ByteArray -> Option (Bool)) : Prop := ∀ (a0 : ByteArray) (a1 : ByteArray) (r : Bool), m a0 a1 = some r -> FuncOk Tryz.prog 72 [(V.t (T.sc (.string a0))), (V.t (T.sc (.string a1)))] [] (enc_z24 r) (encS_z24 r)
def c_z24 (m : ByteArray -> ByteArray -> Option (Bool)) (vs : List V) (sg : Sig) : Option CallM := bif Nat.beq vs.length 2 && Nat.beq sg.length 0 then Option.bind (V.strOf (vs.getD 0 .any)) fun u0 => Option.bind (V.strOf (vs.getD 1 .any)) fun u1 => some { α := Bool, m := m u0 u1, dflt := false, enc := fun y => ((V.t (T.sc (.bool y))), []) } else none
theorem c_z24_ok (m : ByteArray -> ByteArray -> Option (Bool)) (hm : ok_z24 m) (vs : List V) (sg : Sig) (cm : CallM) (x : cm.α) (h : c_z24 m vs sg = some cm) (hx : cm.m = some x) : FuncOk Tryz.prog 72 vs sg (cm.enc x).1 (cm.enc x).2 := by
 unfold c_z24 at h
 obtain ⟨hl, hs, h⟩ := callee_sig h
 obtain ⟨u0, hu0, u1, hu1, h⟩ := ob2 h
 cases h
 exact (hm u0 u1 x hx).wk (args_wk hl (.cons (sW hu0) (.cons (sW hu1) .nil))) (wkSg_of hs .nil)
def code_z24 : Code := Tryz.f72.body.getD .skip
def sp_z24 (n : Nat) : Go.Eng.Spec := ⟨fun f vs sg => (match f with
  | 108 => c_z5 (m_z5 n) vs sg
  | _ => none), fun R key E sg K => (match key with
  | _ => none)⟩
theorem sp_z24_ok (n : Nat) : CallsOk Tryz.prog (sp_z24 n) := by
 intro f vs sg cm x h hx
 simp only [sp_z24] at h
 split at h
 ·exact c_z5_ok _ (m_z5_ok n) vs sg cm x h hx
 ·cases h
theorem code_z24_fn : Tryz.prog.funcs[72]? = some Tryz.f72 := Tryz.func72
theorem code_z24_body : Tryz.f72.body = some code_z24 := by kernel_rfl
def K_z24 (v : V) (s : Sig) : Option (Bool) := Option.bind (V.boolOf v) fun u0 => some u0
theorem K_z24_wk {v : V} {s : Sig} {r : Bool} (h : K_z24 v s = some r) : Wk v (enc_z24 r) /\ WkS 0 s (encS_z24 r) := by
 unfold K_z24 at h
 obtain ⟨u0, hu0, h⟩ := ob h
 cases h
 exact ⟨(bW hu0), (WkS.none _)⟩
theorem m_z24_eq (n : Nat) (a0 : ByteArray) (a1 : ByteArray) : mF Tryz.prog (sp_z24 n) 72 [(V.t (T.sc (.string a0))), (V.t (T.sc (.string a1)))] [] K_z24 = m_z24 n a0 a1 := by kernel_rfl
theorem m_z24_ok (n : Nat) : ok_z24 (m_z24 n) := fun a0 a1 r h => mF_ok sound (sp_z24_ok n) code_z24_fn code_z24_body (nl (by kernel_rfl)) (no_scope (by kernel_rfl)) ((m_z24_eq n a0 a1).trans h) (fun v s hk => ⟨(K_z24_wk hk).1, rfl, (K_z24_wk hk).2⟩)
def m_z25 (n : Nat) (a0 : ByteArray) (a1 : Int) : Option (Int) := indexM a0 a1
def enc_z25 (r : Int) : V := (V.t (T.sc (.int .i64 r)))
def encS_z25 (r : Int) : Sig := []
def ok_z25 (m : ByteArray -> Int -> Option (Int)) : Prop := ∀ (a0 : ByteArray) (a1 : Int) (r : Int), m a0 a1 = some r -> FuncOk Tryz.prog 73 [(V.t (T.sc (.string a0))), (V.t (T.sc (.int .u8 a1)))] [] (enc_z25 r) (encS_z25 r)
def c_z25 (m : ByteArray -> Int -> Option (Int)) (vs : List V) (sg : Sig) : Option CallM := bif Nat.beq vs.length 2 && Nat.beq sg.length 0 then Option.bind (V.strOf (vs.getD 0 .any)) fun u0 => Option.bind (V.intOf .u8 (vs.getD 1 .any)) fun u1 => some { α := Int, m := m u0 u1, dflt := 0, enc := fun y => ((V.t (T.sc (.int .i64 y))), []) } else none
theorem c_z25_ok (m : ByteArray -> Int -> Option (Int)) (hm : ok_z25 m) (vs : List V) (sg : Sig) (cm : CallM) (x : cm.α) (h : c_z25 m vs sg = some cm) (hx : cm.m = some x) : FuncOk Tryz.prog 73 vs sg (cm.enc x).1 (cm.enc x).2 := by
 unfold c_z25 at h
 obtain ⟨hl, hs, h⟩ := callee_sig h
 obtain ⟨u0, hu0, u1, hu1, h⟩ := ob2 h
 cases h
 exact (hm u0 u1 x hx).wk (args_wk hl (.cons (sW hu0) (.cons (iW hu1) .nil))) (wkSg_of hs .nil)
theorem m_z25_ok (n : Nat) : ok_z25 (m_z25 n) := fun a0 a1 r h => x_z25 h
def m_z1 (n : Nat) (a0 : List T) : Option ((List T)) :=
must true (decide (0 <= 0) && decide (0 <= ((List.length a0 : Nat) : Int)) && decide (((List.length a0 : Nat) : Int) <= ((List.length a0 : Nat) : Int)) && sized 4 a0) (must true (decide (((List.length a0 : Nat) : Int) = ((List.length a0 : Nat) : Int))) (some (List.drop (Int.toNat 0) (List.take (Int.toNat ((List.length a0 : Nat) : Int)) a0))))
def enc_z1 (r : (List T)) : V := (V.own 4 r)
def encS_z1 (r : (List T)) : Sig := []
def ok_z1 (m : List T -> Option ((List T))) : Prop := ∀ (a0 : List T) (r : (List T)), m a0 = some r -> FuncOk Tryz.prog 77 [(V.t (T.list a0))] [] (enc_z1 r) (encS_z1 r)
def c_z1 (m : List T -> Option ((List T))) (vs : List V) (sg : Sig) : Option CallM := bif Nat.beq vs.length 1 && Nat.beq sg.length 0 then Option.bind (V.lstOf (vs.getD 0 .any)) fun u0 => some { α := (List T), m := m u0, dflt := [], enc := fun y => ((V.own 4 y), []) } else none
theorem c_z1_ok (m : List T -> Option ((List T))) (hm : ok_z1 m) (vs : List V) (sg : Sig) (cm : CallM) (x : cm.α) (h : c_z1 m vs sg = some cm) (hx : cm.m = some x) : FuncOk Tryz.prog 77 vs sg (cm.enc x).1 (cm.enc x).2 := by
 unfold c_z1 at h
 obtain ⟨hl, hs, h⟩ := callee_sig h
 obtain ⟨u0, hu0, h⟩ := ob h
 cases h
 exact (hm u0 x hx).wk (args_wk hl (.cons (lW hu0) .nil)) (wkSg_of hs .nil)
def code_z1 : Code := Tryz.f77.body.getD .skip
def sp_z1 (n : Nat) : Go.Eng.Spec := ⟨fun f vs sg => (match f with
  | _ => none), fun R key E sg K => (match key with
  | _ => none)⟩
theorem sp_z1_ok (n : Nat) : CallsOk Tryz.prog (sp_z1 n) := by
 intro f vs sg cm x h hx
 have h : (none : Option CallM) = some cm := h
 cases h
theorem code_z1_fn : Tryz.prog.funcs[77]? = some Tryz.f77 := Tryz.func77
theorem code_z1_body : Tryz.f77.body = some code_z1 := by kernel_rfl
def K_z1 (v : V) (s : Sig) : Option ((List T)) := Option.bind (V.ownOf 4 v) fun u0 => some u0
theorem K_z1_wk {v : V} {s : Sig} {r : (List T)} (h : K_z1 v s = some r) : Wk v (enc_z1 r) /\ WkS 0 s (encS_z1 r) := by
 unfold K_z1 at h
 obtain ⟨u0, hu0, h⟩ := ob h
 cases h
 exact ⟨(oW hu0), (WkS.none _)⟩
theorem m_z1_eq (n : Nat) (a0 : List T) : mF Tryz.prog (sp_z1 n) 77 [(V.t (T.list a0))] [] K_z1 = m_z1 n a0 := by kernel_rfl
theorem m_z1_ok (n : Nat) : ok_z1 (m_z1 n) := fun a0 r h => mF_ok sound (sp_z1_ok n) code_z1_fn code_z1_body (nl (by kernel_rfl)) (no_scope (by kernel_rfl)) ((m_z1_eq n a0).trans h) (fun v s hk => ⟨(K_z1_wk hk).1, rfl, (K_z1_wk hk).2⟩)
def m_z46 (n : Nat) (a0 : Int) : Option (Bool) :=
some ((a0 : Int) != 10)
def enc_z46 (r : Bool) : V := (V.t (T.sc (.bool r)))
def encS_z46 (r : Bool) : Sig := []
def ok_z46 (m : Int -> Option (Bool)) : Prop := ∀ (a0 : Int) (r : Bool), m a0 = some r -> FuncOk Tryz.prog 74 [(V.t (T.sc (.int .u8 a0)))] [] (enc_z46 r) (encS_z46 r)
def c_z46 (m : Int -> Option (Bool)) (vs : List V) (sg : Sig) : Option CallM := bif Nat.beq vs.length 1 && Nat.beq sg.length 0 then Option.bind (V.intOf .u8 (vs.getD 0 .any)) fun u0 => some { α := Bool, m := m u0, dflt := false, enc := fun y => ((V.t (T.sc (.bool y))), []) } else none
theorem c_z46_ok (m : Int -> Option (Bool)) (hm : ok_z46 m) (vs : List V) (sg : Sig) (cm : CallM) (x : cm.α) (h : c_z46 m vs sg = some cm) (hx : cm.m = some x) : FuncOk Tryz.prog 74 vs sg (cm.enc x).1 (cm.enc x).2 := by
 unfold c_z46 at h
 obtain ⟨hl, hs, h⟩ := callee_sig h
 obtain ⟨u0, hu0, h⟩ := ob h
 cases h
 exact (hm u0 x hx).wk (args_wk hl (.cons (iW hu0) .nil)) (wkSg_of hs .nil)
def code_z46 : Code := Tryz.f74.body.getD .skip
def sp_z46 (n : Nat) : Go.Eng.Spec := ⟨fun f vs sg => (match f with
  | _ => none), fun R key E sg K => (match key with
  | _ => none)⟩
theorem sp_z46_ok (n : Nat) : CallsOk Tryz.prog (sp_z46 n) := by
 intro f vs sg cm x h hx
 have h : (none : Option CallM) = some cm := h
 cases h
theorem code_z46_fn : Tryz.prog.funcs[74]? = some Tryz.f74 := Tryz.func74
theorem code_z46_body : Tryz.f74.body = some code_z46 := by kernel_rfl
def K_z46 (v : V) (s : Sig) : Option (Bool) := Option.bind (V.boolOf v) fun u0 => some u0
theorem K_z46_wk {v : V} {s : Sig} {r : Bool} (h : K_z46 v s = some r) : Wk v (enc_z46 r) /\ WkS 0 s (encS_z46 r) := by
 unfold K_z46 at h
 obtain ⟨u0, hu0, h⟩ := ob h
 cases h
 exact ⟨(bW hu0), (WkS.none _)⟩
theorem m_z46_eq (n : Nat) (a0 : Int) : mF Tryz.prog (sp_z46 n) 74 [(V.t (T.sc (.int .u8 a0)))] [] K_z46 = m_z46 n a0 := by kernel_rfl
theorem m_z46_ok (n : Nat) : ok_z46 (m_z46 n) := fun a0 r h => mF_ok sound (sp_z46_ok n) code_z46_fn code_z46_body (nl (by kernel_rfl)) (no_scope (by kernel_rfl)) ((m_z46_eq n a0).trans h) (fun v s hk => ⟨(K_z46_wk hk).1, rfl, (K_z46_wk hk).2⟩)
def l_z54_2_B (n : Nat) (k : ByteArray × Int -> Option (Int)) : ByteArray × Int -> Option (Int) := fun (s0, s1) =>
Option.bind (bidx ((decide ((s1 : Int) < ((ByteArray.size s0 : Nat) : Int)))) s0 s1) fun b0 =>
Option.bind (bif (decide ((s1 : Int) < ((ByteArray.size s0 : Nat) : Int))) then m_z46 n ((UInt8.toNat b0 : Nat) : Int) else some false) fun r1 =>
bif (bif (decide ((s1 : Int) < ((ByteArray.size s0 : Nat) : Int))) then r1 else false) then (
k (s0, (IntKind.wrap .i64 (s1 + 1))))
else (
some s1)
def l_z54_2 (n : Nat) : Nat -> ByteArray × Int -> Option (Int)
 | 0, _ => none
 | m + 1, s => l_z54_2_B n (l_z54_2 n m) s
def m_z54 (n : Nat) (a0 : ByteArray) : Option (Int) :=
Option.bind (l_z54_2 n n (a0, 0)) fun p3 =>
some p3
def enc_z54 (r : Int) : V := (V.t (T.sc (.int .i64 r)))
def encS_z54 (r : Int) : Sig := []
def ok_z54 (m : ByteArray -> Option (Int)) : Prop := ∀ (a0 : ByteArray) (r : Int), m a0 = some r -> FuncOk Tryz.prog 68 [(V.t (T.sc (.string a0))), (V.fn 74 [])] [] (enc_z54 r) (encS_z54 r)
def c_z54 (m : ByteArray -> Option (Int)) (vs : List V) (sg : Sig) : Option CallM := bif Nat.beq vs.length 2 && Nat.beq sg.length 0 then Option.bind (V.strOf (vs.getD 0 .any)) fun u0 => Option.bind (V.fnN 74 0 (vs.getD 1 .any)) fun u1 => some { α := Int, m := m u0, dflt := 0, enc := fun y => ((V.t (T.sc (.int .i64 y))), []) } else none
theorem c_z54_ok (m : ByteArray -> Option (Int)) (hm : ok_z54 m) (vs : List V) (sg : Sig) (cm : CallM) (x : cm.α) (h : c_z54 m vs sg = some cm) (hx : cm.m = some x) : FuncOk Tryz.prog 68 vs sg (cm.enc x).1 (cm.enc x).2 := by
 unfold c_z54 at h
 obtain ⟨hl, hs, h⟩ := callee_sig h
 obtain ⟨u0, hu0, u1, hu1, h⟩ := ob2 h
 cases h
 exact (hm u0 x hx).wk (args_wk hl (.cons (sW hu0) (.cons (fnN_wk hu1 .nil) .nil))) (wkSg_of hs .nil)
def code_z54 : Code := Tryz.f68.body.getD .skip
def l_z54_2_S (n : Nat) (R : Type) (E : SEnv) (sg : Sig) (K : Ex -> SEnv -> Sig -> Option R) : Option R := Option.bind (V.strOf (SEnv.at E 0)) fun u0 => Option.bind (V.fnN 74 0 (SEnv.at E 1)) fun u1 => Option.bind (V.intOf .i64 (SEnv.at E 5)) fun u2 => Option.bind (l_z54_2 n n (u0, u2)) fun p0 => K (.exit 0) [(5, (V.t (T.sc (.int .i64 p0))))] []
def sp_z54 (n : Nat) : Go.Eng.Spec := ⟨fun f vs sg => (match f with
  | 74 => c_z46 (m_z46 n) vs sg
  | _ => none), fun R key E sg K => (match key with
  | 2 => l_z54_2_S n R E sg K
  | _ => none)⟩
theorem sp_z54_ok (n : Nat) : CallsOk Tryz.prog (sp_z54 n) := by
 intro f vs sg cm x h hx
 simp only [sp_z54] at h
 split at h
 ·exact c_z46_ok _ (m_z46_ok n) vs sg cm x h hx
 ·cases h
theorem code_z54_fn : Tryz.prog.funcs[68]? = some Tryz.f68 := Tryz.func68
theorem code_z54_body : Tryz.f68.body = some code_z54 := by kernel_rfl
theorem code_z54_ok : CodeOk Tryz.prog code_z54 := (sound 68 _ _ code_z54_fn code_z54_body).1
def code_l_z54_2 : Code := (loopsOf code_z54).getD 0 .skip
theorem code_l_z54_2_ok : CodeOk Tryz.prog code_l_z54_2 := codeOk_loops code_z54_ok _ (getD_mem (by kernel_rfl))
def l_z54_2_K (k : ByteArray × Int -> Option (Int)) : Ex -> SEnv -> Sig -> Option (Int) := fun x E sg => match x with
 | .normal => Option.bind (V.strOf (SEnv.at E 0)) fun u0 => Option.bind (V.fnN 74 0 (SEnv.at E 1)) fun u1 => Option.bind (V.intOf .i64 (SEnv.at E 5)) fun u2 => k (u0, u2)
 | (.exit 0) => Option.bind (V.intOf .i64 (SEnv.at E 5)) fun u0 => some u0
 | _ => none
theorem l_z54_2_eq (n : Nat) (k : ByteArray × Int -> Option (Int)) (s0 : ByteArray) (s1 : Int) : mX Tryz.prog (sp_z54 n) 20 code_l_z54_2 [(0, (V.t (T.sc (.string s0)))), (1, (V.fn 74 [])), (5, (V.t (T.sc (.int .i64 s1))))] [] (l_z54_2_K k) = l_z54_2_B n k (s0, s1) := by kernel_rfl
def l_z54_2_Q (x : Int) (ex : Ex) (e : Env) (s : Sig) : Prop := (fun p0 => (ex = (.exit 0) /\ e = SEnv.env 20 [(5, (V.t (T.sc (.int .i64 p0))))] /\ s = [])) x
theorem l_z54_2_run (n : Nat) : ∀ (m : Nat) (s0 : ByteArray) (s1 : Int) (x : Int), l_z54_2 n m (s0, s1) = some x -> SemL Tryz.prog 0 code_l_z54_2 (SEnv.env 20 [(0, (V.t (T.sc (.string s0)))), (1, (V.fn 74 [])), (5, (V.t (T.sc (.int .i64 s1))))]) [] (l_z54_2_Q x)
 | 0, s0, s1, x, h => by cases h
 | m + 1, s0, s1, x, h => by
  refine loop_step (sp_z54_ok n) code_l_z54_2_ok (nl (by kernel_rfl)) (no_scope (by kernel_rfl)) ((l_z54_2_eq n _ s0 s1).trans h) (fun E sg h => ?_) (fun ex E sg hne h => ?_)
  ·simp only [l_z54_2_K] at h
   obtain ⟨u0, hu0, u1, hu1, h⟩ := ob2 h
   obtain ⟨u2, hu2, h⟩ := ob h
   exact SemL.pre (k := 0) (by decide) (WkA.env (WkA.cons (sW hu0) rfl (WkA.cons (fnN_wk hu1 .nil) rfl (WkA.cons (iW hu2) rfl WkA.nil))) 20) (WkS.none _) (l_z54_2_run n m _ _ x h)
  ·unfold l_z54_2_K at h
   split at h
   ·exact absurd rfl hne
   ·obtain ⟨u0, hu0, h⟩ := ob h
    cases h
    exact ⟨0, _, _, by decide, WkA.env (WkA.cons (iW hu0) rfl WkA.nil) 20, (WkS.none _), rfl, rfl, rfl⟩
   ·cases h
theorem l_z54_2_ok (n : Nat) : LoopOk Tryz.prog (sp_z54 n) 0 20 code_l_z54_2 := by
  intro R key E sg K r hk h
  rw [show Go.Eng.keyOf code_l_z54_2 = some 2 from by kernel_rfl] at hk
  cases hk
  have h : l_z54_2_S n R E sg K = some r := h
  unfold l_z54_2_S at h
  obtain ⟨u0, hu0, u1, hu1, u2, hu2, x, hx, h⟩ := ob4 h
  refine (SemL.pre (k := 0) (by decide) (WkA.env (WkA.cons (sW hu0) rfl (WkA.cons (fnN_wk hu1 .nil) rfl (WkA.cons (iW hu2) rfl WkA.nil))) 20) (WkS.none _) (l_z54_2_run n n _ _ x hx)).mono ?_
  intro ex e s hq
  obtain ⟨rfl, rfl, rfl⟩ := hq
  exact ⟨_, rfl, h⟩
def K_z54 (v : V) (s : Sig) : Option (Int) := Option.bind (V.intOf .i64 v) fun u0 => some u0
theorem K_z54_wk {v : V} {s : Sig} {r : Int} (h : K_z54 v s = some r) : Wk v (enc_z54 r) /\ WkS 0 s (encS_z54 r) := by
 unfold K_z54 at h
 obtain ⟨u0, hu0, h⟩ := ob h
 cases h
 exact ⟨(iW hu0), (WkS.none _)⟩
theorem m_z54_eq (n : Nat) (a0 : ByteArray) : mF Tryz.prog (sp_z54 n) 68 [(V.t (T.sc (.string a0))), (V.fn 74 [])] [] K_z54 = m_z54 n a0 := by kernel_rfl
theorem m_z54_ok (n : Nat) : ok_z54 (m_z54 n) := fun a0 r h => mF_ok sound (sp_z54_ok n) code_z54_fn code_z54_body (forall_getD (d := .skip) 1 (by kernel_rfl) (fun i hi => match i, hi with | 0, _ => l_z54_2_ok n | i + 1, hi => absurd hi (by omega))) (no_scope (by kernel_rfl)) ((m_z54_eq n a0).trans h) (fun v s hk => ⟨(K_z54_wk hk).1, rfl, (K_z54_wk hk).2⟩)
def m_z57 (n : Nat) (a0 : Int) : Option (Bool) :=
Option.bind (m_z53 n a0) fun r0 =>
Option.bind (bif !r0 then m_z60 n a0 else some false) fun r1 =>
some (bif r0 then true else r1)
def enc_z57 (r : Bool) : V := (V.t (T.sc (.bool r)))
def encS_z57 (r : Bool) : Sig := []
def ok_z57 (m : Int -> Option (Bool)) : Prop := ∀ (a0 : Int) (r : Bool), m a0 = some r -> FuncOk Tryz.prog 110 [(V.t (T.sc (.int .u8 a0)))] [] (enc_z57 r) (encS_z57 r)
def c_z57 (m : Int -> Option (Bool)) (vs : List V) (sg : Sig) : Option CallM := bif Nat.beq vs.length 1 && Nat.beq sg.length 0 then Option.bind (V.intOf .u8 (vs.getD 0 .any)) fun u0 => some { α := Bool, m := m u0, dflt := false, enc := fun y => ((V.t (T.sc (.bool y))), []) } else none
theorem c_z57_ok (m : Int -> Option (Bool)) (hm : ok_z57 m) (vs : List V) (sg : Sig) (cm : CallM) (x : cm.α) (h : c_z57 m vs sg = some cm) (hx : cm.m = some x) : FuncOk Tryz.prog 110 vs sg (cm.enc x).1 (cm.enc x).2 := by
 unfold c_z57 at h
 obtain ⟨hl, hs, h⟩ := callee_sig h
 obtain ⟨u0, hu0, h⟩ := ob h
 cases h
 exact (hm u0 x hx).wk (args_wk hl (.cons (iW hu0) .nil)) (wkSg_of hs .nil)
def code_z57 : Code := Tryz.f110.body.getD .skip
def sp_z57 (n : Nat) : Go.Eng.Spec := ⟨fun f vs sg => (match f with
  | 70 => c_z53 (m_z53 n) vs sg
  | 71 => c_z60 (m_z60 n) vs sg
  | _ => none), fun R key E sg K => (match key with
  | _ => none)⟩
theorem sp_z57_ok (n : Nat) : CallsOk Tryz.prog (sp_z57 n) := by
 intro f vs sg cm x h hx
 simp only [sp_z57] at h
 split at h
 ·exact c_z53_ok _ (m_z53_ok n) vs sg cm x h hx
 ·exact c_z60_ok _ (m_z60_ok n) vs sg cm x h hx
 ·cases h
theorem code_z57_fn : Tryz.prog.funcs[110]? = some Tryz.f110 := Tryz.func110
theorem code_z57_body : Tryz.f110.body = some code_z57 := by kernel_rfl
def K_z57 (v : V) (s : Sig) : Option (Bool) := Option.bind (V.boolOf v) fun u0 => some u0
theorem K_z57_wk {v : V} {s : Sig} {r : Bool} (h : K_z57 v s = some r) : Wk v (enc_z57 r) /\ WkS 0 s (encS_z57 r) := by
 unfold K_z57 at h
 obtain ⟨u0, hu0, h⟩ := ob h
 cases h
 exact ⟨(bW hu0), (WkS.none _)⟩
theorem m_z57_eq (n : Nat) (a0 : Int) : mF Tryz.prog (sp_z57 n) 110 [(V.t (T.sc (.int .u8 a0)))] [] K_z57 = m_z57 n a0 := by kernel_rfl
theorem m_z57_ok (n : Nat) : ok_z57 (m_z57 n) := fun a0 r h => mF_ok sound (sp_z57_ok n) code_z57_fn code_z57_body (nl (by kernel_rfl)) (no_scope (by kernel_rfl)) ((m_z57_eq n a0).trans h) (fun v s hk => ⟨(K_z57_wk hk).1, rfl, (K_z57_wk hk).2⟩)
def l_z55_2_B (n : Nat) (k : ByteArray × Int -> Option (Int)) : ByteArray × Int -> Option (Int) := fun (s0, s1) =>
Option.bind (bidx ((decide ((s1 : Int) < ((ByteArray.size s0 : Nat) : Int)))) s0 s1) fun b0 =>
Option.bind (bif (decide ((s1 : Int) < ((ByteArray.size s0 : Nat) : Int))) then m_z57 n ((UInt8.toNat b0 : Nat) : Int) else some false) fun r1 =>
bif (bif (decide ((s1 : Int) < ((ByteArray.size s0 : Nat) : Int))) then r1 else false) then (
k (s0, (IntKind.wrap .i64 (s1 + 1))))
else (
some s1)
def l_z55_2 (n : Nat) : Nat -> ByteArray × Int -> Option (Int)
 | 0, _ => none
 | m + 1, s => l_z55_2_B n (l_z55_2 n m) s
def m_z55 (n : Nat) (a0 : ByteArray) : Option (Int) :=
Option.bind (l_z55_2 n n (a0, 0)) fun p3 =>
some p3
def enc_z55 (r : Int) : V := (V.t (T.sc (.int .i64 r)))
def encS_z55 (r : Int) : Sig := []
def ok_z55 (m : ByteArray -> Option (Int)) : Prop := ∀ (a0 : ByteArray) (r : Int), m a0 = some r -> FuncOk Tryz.prog 68 [(V.t (T.sc (.string a0))), (V.fn 110 [])] [] (enc_z55 r) (encS_z55 r)
def c_z55 (m : ByteArray -> Option (Int)) (vs : List V) (sg : Sig) : Option CallM := bif Nat.beq vs.length 2 && Nat.beq sg.length 0 then Option.bind (V.strOf (vs.getD 0 .any)) fun u0 => Option.bind (V.fnN 110 0 (vs.getD 1 .any)) fun u1 => some { α := Int, m := m u0, dflt := 0, enc := fun y => ((V.t (T.sc (.int .i64 y))), []) } else none
theorem c_z55_ok (m : ByteArray -> Option (Int)) (hm : ok_z55 m) (vs : List V) (sg : Sig) (cm : CallM) (x : cm.α) (h : c_z55 m vs sg = some cm) (hx : cm.m = some x) : FuncOk Tryz.prog 68 vs sg (cm.enc x).1 (cm.enc x).2 := by
 unfold c_z55 at h
 obtain ⟨hl, hs, h⟩ := callee_sig h
 obtain ⟨u0, hu0, u1, hu1, h⟩ := ob2 h
 cases h
 exact (hm u0 x hx).wk (args_wk hl (.cons (sW hu0) (.cons (fnN_wk hu1 .nil) .nil))) (wkSg_of hs .nil)
def code_z55 : Code := Tryz.f68.body.getD .skip
def l_z55_2_S (n : Nat) (R : Type) (E : SEnv) (sg : Sig) (K : Ex -> SEnv -> Sig -> Option R) : Option R := Option.bind (V.strOf (SEnv.at E 0)) fun u0 => Option.bind (V.fnN 110 0 (SEnv.at E 1)) fun u1 => Option.bind (V.intOf .i64 (SEnv.at E 5)) fun u2 => Option.bind (l_z55_2 n n (u0, u2)) fun p0 => K (.exit 0) [(5, (V.t (T.sc (.int .i64 p0))))] []
def sp_z55 (n : Nat) : Go.Eng.Spec := ⟨fun f vs sg => (match f with
  | 110 => c_z57 (m_z57 n) vs sg
  | _ => none), fun R key E sg K => (match key with
  | 2 => l_z55_2_S n R E sg K
  | _ => none)⟩
theorem sp_z55_ok (n : Nat) : CallsOk Tryz.prog (sp_z55 n) := by
 intro f vs sg cm x h hx
 simp only [sp_z55] at h
 split at h
 ·exact c_z57_ok _ (m_z57_ok n) vs sg cm x h hx
 ·cases h
theorem code_z55_fn : Tryz.prog.funcs[68]? = some Tryz.f68 := Tryz.func68
theorem code_z55_body : Tryz.f68.body = some code_z55 := by kernel_rfl
theorem code_z55_ok : CodeOk Tryz.prog code_z55 := (sound 68 _ _ code_z55_fn code_z55_body).1
def code_l_z55_2 : Code := (loopsOf code_z55).getD 0 .skip
theorem code_l_z55_2_ok : CodeOk Tryz.prog code_l_z55_2 := codeOk_loops code_z55_ok _ (getD_mem (by kernel_rfl))
def l_z55_2_K (k : ByteArray × Int -> Option (Int)) : Ex -> SEnv -> Sig -> Option (Int) := fun x E sg => match x with
 | .normal => Option.bind (V.strOf (SEnv.at E 0)) fun u0 => Option.bind (V.fnN 110 0 (SEnv.at E 1)) fun u1 => Option.bind (V.intOf .i64 (SEnv.at E 5)) fun u2 => k (u0, u2)
 | (.exit 0) => Option.bind (V.intOf .i64 (SEnv.at E 5)) fun u0 => some u0
 | _ => none
theorem l_z55_2_eq (n : Nat) (k : ByteArray × Int -> Option (Int)) (s0 : ByteArray) (s1 : Int) : mX Tryz.prog (sp_z55 n) 20 code_l_z55_2 [(0, (V.t (T.sc (.string s0)))), (1, (V.fn 110 [])), (5, (V.t (T.sc (.int .i64 s1))))] [] (l_z55_2_K k) = l_z55_2_B n k (s0, s1) := by kernel_rfl
def l_z55_2_Q (x : Int) (ex : Ex) (e : Env) (s : Sig) : Prop := (fun p0 => (ex = (.exit 0) /\ e = SEnv.env 20 [(5, (V.t (T.sc (.int .i64 p0))))] /\ s = [])) x
theorem l_z55_2_run (n : Nat) : ∀ (m : Nat) (s0 : ByteArray) (s1 : Int) (x : Int), l_z55_2 n m (s0, s1) = some x -> SemL Tryz.prog 0 code_l_z55_2 (SEnv.env 20 [(0, (V.t (T.sc (.string s0)))), (1, (V.fn 110 [])), (5, (V.t (T.sc (.int .i64 s1))))]) [] (l_z55_2_Q x)
 | 0, s0, s1, x, h => by cases h
 | m + 1, s0, s1, x, h => by
  refine loop_step (sp_z55_ok n) code_l_z55_2_ok (nl (by kernel_rfl)) (no_scope (by kernel_rfl)) ((l_z55_2_eq n _ s0 s1).trans h) (fun E sg h => ?_) (fun ex E sg hne h => ?_)
  ·simp only [l_z55_2_K] at h
   obtain ⟨u0, hu0, u1, hu1, h⟩ := ob2 h
   obtain ⟨u2, hu2, h⟩ := ob h
   exact SemL.pre (k := 0) (by decide) (WkA.env (WkA.cons (sW hu0) rfl (WkA.cons (fnN_wk hu1 .nil) rfl (WkA.cons (iW hu2) rfl WkA.nil))) 20) (WkS.none _) (l_z55_2_run n m _ _ x h)
  ·unfold l_z55_2_K at h
   split at h
   ·exact absurd rfl hne
   ·obtain ⟨u0, hu0, h⟩ := ob h
    cases h
    exact ⟨0, _, _, by decide, WkA.env (WkA.cons (iW hu0) rfl WkA.nil) 20, (WkS.none _), rfl, rfl, rfl⟩
   ·cases h
theorem l_z55_2_ok (n : Nat) : LoopOk Tryz.prog (sp_z55 n) 0 20 code_l_z55_2 := by
  intro R key E sg K r hk h
  rw [show Go.Eng.keyOf code_l_z55_2 = some 2 from by kernel_rfl] at hk
  cases hk
  have h : l_z55_2_S n R E sg K = some r := h
  unfold l_z55_2_S at h
  obtain ⟨u0, hu0, u1, hu1, u2, hu2, x, hx, h⟩ := ob4 h
  refine (SemL.pre (k := 0) (by decide) (WkA.env (WkA.cons (sW hu0) rfl (WkA.cons (fnN_wk hu1 .nil) rfl (WkA.cons (iW hu2) rfl WkA.nil))) 20) (WkS.none _) (l_z55_2_run n n _ _ x hx)).mono ?_
  intro ex e s hq
  obtain ⟨rfl, rfl, rfl⟩ := hq
  exact ⟨_, rfl, h⟩
def K_z55 (v : V) (s : Sig) : Option (Int) := Option.bind (V.intOf .i64 v) fun u0 => some u0
theorem K_z55_wk {v : V} {s : Sig} {r : Int} (h : K_z55 v s = some r) : Wk v (enc_z55 r) /\ WkS 0 s (encS_z55 r) := by
 unfold K_z55 at h
 obtain ⟨u0, hu0, h⟩ := ob h
 cases h
 exact ⟨(iW hu0), (WkS.none _)⟩
theorem m_z55_eq (n : Nat) (a0 : ByteArray) : mF Tryz.prog (sp_z55 n) 68 [(V.t (T.sc (.string a0))), (V.fn 110 [])] [] K_z55 = m_z55 n a0 := by kernel_rfl
theorem m_z55_ok (n : Nat) : ok_z55 (m_z55 n) := fun a0 r h => mF_ok sound (sp_z55_ok n) code_z55_fn code_z55_body (forall_getD (d := .skip) 1 (by kernel_rfl) (fun i hi => match i, hi with | 0, _ => l_z55_2_ok n | i + 1, hi => absurd hi (by omega))) (no_scope (by kernel_rfl)) ((m_z55_eq n a0).trans h) (fun v s hk => ⟨(K_z55_wk hk).1, rfl, (K_z55_wk hk).2⟩)
def m_z61 (n : Nat) (a0 : ByteArray) : Option (Int) :=
Option.bind (bidx (!(ByteArray.toList a0 == ByteArray.toList (⟨#[]⟩ : ByteArray))) a0 0) fun b0 =>
Option.bind (bif !(ByteArray.toList a0 == ByteArray.toList (⟨#[]⟩ : ByteArray)) then m_z53 n ((UInt8.toNat b0 : Nat) : Int) else some false) fun r1 =>
bif (bif (ByteArray.toList a0 == ByteArray.toList (⟨#[]⟩ : ByteArray)) then true else (!r1)) then (
some 0)
else (
Option.bind (m_z55 n a0) fun r2 =>
bif (decide ((r2 : Int) > 12)) then (
some 0)
else (
some r2))
def enc_z61 (r : Int) : V := (V.t (T.sc (.int .i64 r)))
def encS_z61 (r : Int) : Sig := []
def ok_z61 (m : ByteArray -> Option (Int)) : Prop := ∀ (a0 : ByteArray) (r : Int), m a0 = some r -> FuncOk Tryz.prog 75 [(V.t (T.sc (.string a0)))] [] (enc_z61 r) (encS_z61 r)
def c_z61 (m : ByteArray -> Option (Int)) (vs : List V) (sg : Sig) : Option CallM := bif Nat.beq vs.length 1 && Nat.beq sg.length 0 then Option.bind (V.strOf (vs.getD 0 .any)) fun u0 => some { α := Int, m := m u0, dflt := 0, enc := fun y => ((V.t (T.sc (.int .i64 y))), []) } else none
theorem c_z61_ok (m : ByteArray -> Option (Int)) (hm : ok_z61 m) (vs : List V) (sg : Sig) (cm : CallM) (x : cm.α) (h : c_z61 m vs sg = some cm) (hx : cm.m = some x) : FuncOk Tryz.prog 75 vs sg (cm.enc x).1 (cm.enc x).2 := by
 unfold c_z61 at h
 obtain ⟨hl, hs, h⟩ := callee_sig h
 obtain ⟨u0, hu0, h⟩ := ob h
 cases h
 exact (hm u0 x hx).wk (args_wk hl (.cons (sW hu0) .nil)) (wkSg_of hs .nil)
def code_z61 : Code := Tryz.f75.body.getD .skip
def sp_z61 (n : Nat) : Go.Eng.Spec := ⟨fun f vs sg => (match f with
  | 70 => c_z53 (m_z53 n) vs sg
  | 68 => c_z55 (m_z55 n) vs sg
  | _ => none), fun R key E sg K => (match key with
  | _ => none)⟩
theorem sp_z61_ok (n : Nat) : CallsOk Tryz.prog (sp_z61 n) := by
 intro f vs sg cm x h hx
 simp only [sp_z61] at h
 split at h
 ·exact c_z53_ok _ (m_z53_ok n) vs sg cm x h hx
 ·exact c_z55_ok _ (m_z55_ok n) vs sg cm x h hx
 ·cases h
theorem code_z61_fn : Tryz.prog.funcs[75]? = some Tryz.f75 := Tryz.func75
theorem code_z61_body : Tryz.f75.body = some code_z61 := by kernel_rfl
def K_z61 (v : V) (s : Sig) : Option (Int) := Option.bind (V.intOf .i64 v) fun u0 => some u0
theorem K_z61_wk {v : V} {s : Sig} {r : Int} (h : K_z61 v s = some r) : Wk v (enc_z61 r) /\ WkS 0 s (encS_z61 r) := by
 unfold K_z61 at h
 obtain ⟨u0, hu0, h⟩ := ob h
 cases h
 exact ⟨(iW hu0), (WkS.none _)⟩
theorem m_z61_eq (n : Nat) (a0 : ByteArray) : mF Tryz.prog (sp_z61 n) 75 [(V.t (T.sc (.string a0)))] [] K_z61 = m_z61 n a0 := by kernel_rfl
theorem m_z61_ok (n : Nat) : ok_z61 (m_z61 n) := fun a0 r h => mF_ok sound (sp_z61_ok n) code_z61_fn code_z61_body (nl (by kernel_rfl)) (no_scope (by kernel_rfl)) ((m_z61_eq n a0).trans h) (fun v s hk => ⟨(K_z61_wk hk).1, rfl, (K_z61_wk hk).2⟩)
def l_z56_2_B (n : Nat) (k : ByteArray × Int -> Option (Int)) : ByteArray × Int -> Option (Int) := fun (s0, s1) =>
Option.bind (bidx ((decide ((s1 : Int) < ((ByteArray.size s0 : Nat) : Int)))) s0 s1) fun b0 =>
Option.bind (bif (decide ((s1 : Int) < ((ByteArray.size s0 : Nat) : Int))) then m_z60 n ((UInt8.toNat b0 : Nat) : Int) else some false) fun r1 =>
bif (bif (decide ((s1 : Int) < ((ByteArray.size s0 : Nat) : Int))) then r1 else false) then (
k (s0, (IntKind.wrap .i64 (s1 + 1))))
else (
some s1)
def l_z56_2 (n : Nat) : Nat -> ByteArray × Int -> Option (Int)
 | 0, _ => none
 | m + 1, s => l_z56_2_B n (l_z56_2 n m) s
def m_z56 (n : Nat) (a0 : ByteArray) : Option (Int) :=
Option.bind (l_z56_2 n n (a0, 0)) fun p3 =>
some p3
def enc_z56 (r : Int) : V := (V.t (T.sc (.int .i64 r)))
def encS_z56 (r : Int) : Sig := []
def ok_z56 (m : ByteArray -> Option (Int)) : Prop := ∀ (a0 : ByteArray) (r : Int), m a0 = some r -> FuncOk Tryz.prog 68 [(V.t (T.sc (.string a0))), (V.fn 71 [])] [] (enc_z56 r) (encS_z56 r)
def c_z56 (m : ByteArray -> Option (Int)) (vs : List V) (sg : Sig) : Option CallM := bif Nat.beq vs.length 2 && Nat.beq sg.length 0 then Option.bind (V.strOf (vs.getD 0 .any)) fun u0 => Option.bind (V.fnN 71 0 (vs.getD 1 .any)) fun u1 => some { α := Int, m := m u0, dflt := 0, enc := fun y => ((V.t (T.sc (.int .i64 y))), []) } else none
theorem c_z56_ok (m : ByteArray -> Option (Int)) (hm : ok_z56 m) (vs : List V) (sg : Sig) (cm : CallM) (x : cm.α) (h : c_z56 m vs sg = some cm) (hx : cm.m = some x) : FuncOk Tryz.prog 68 vs sg (cm.enc x).1 (cm.enc x).2 := by
 unfold c_z56 at h
 obtain ⟨hl, hs, h⟩ := callee_sig h
 obtain ⟨u0, hu0, u1, hu1, h⟩ := ob2 h
 cases h
 exact (hm u0 x hx).wk (args_wk hl (.cons (sW hu0) (.cons (fnN_wk hu1 .nil) .nil))) (wkSg_of hs .nil)
def code_z56 : Code := Tryz.f68.body.getD .skip
def l_z56_2_S (n : Nat) (R : Type) (E : SEnv) (sg : Sig) (K : Ex -> SEnv -> Sig -> Option R) : Option R := Option.bind (V.strOf (SEnv.at E 0)) fun u0 => Option.bind (V.fnN 71 0 (SEnv.at E 1)) fun u1 => Option.bind (V.intOf .i64 (SEnv.at E 5)) fun u2 => Option.bind (l_z56_2 n n (u0, u2)) fun p0 => K (.exit 0) [(5, (V.t (T.sc (.int .i64 p0))))] []
def sp_z56 (n : Nat) : Go.Eng.Spec := ⟨fun f vs sg => (match f with
  | 71 => c_z60 (m_z60 n) vs sg
  | _ => none), fun R key E sg K => (match key with
  | 2 => l_z56_2_S n R E sg K
  | _ => none)⟩
theorem sp_z56_ok (n : Nat) : CallsOk Tryz.prog (sp_z56 n) := by
 intro f vs sg cm x h hx
 simp only [sp_z56] at h
 split at h
 ·exact c_z60_ok _ (m_z60_ok n) vs sg cm x h hx
 ·cases h
theorem code_z56_fn : Tryz.prog.funcs[68]? = some Tryz.f68 := Tryz.func68
theorem code_z56_body : Tryz.f68.body = some code_z56 := by kernel_rfl
theorem code_z56_ok : CodeOk Tryz.prog code_z56 := (sound 68 _ _ code_z56_fn code_z56_body).1
def code_l_z56_2 : Code := (loopsOf code_z56).getD 0 .skip
theorem code_l_z56_2_ok : CodeOk Tryz.prog code_l_z56_2 := codeOk_loops code_z56_ok _ (getD_mem (by kernel_rfl))
def l_z56_2_K (k : ByteArray × Int -> Option (Int)) : Ex -> SEnv -> Sig -> Option (Int) := fun x E sg => match x with
 | .normal => Option.bind (V.strOf (SEnv.at E 0)) fun u0 => Option.bind (V.fnN 71 0 (SEnv.at E 1)) fun u1 => Option.bind (V.intOf .i64 (SEnv.at E 5)) fun u2 => k (u0, u2)
 | (.exit 0) => Option.bind (V.intOf .i64 (SEnv.at E 5)) fun u0 => some u0
 | _ => none
theorem l_z56_2_eq (n : Nat) (k : ByteArray × Int -> Option (Int)) (s0 : ByteArray) (s1 : Int) : mX Tryz.prog (sp_z56 n) 20 code_l_z56_2 [(0, (V.t (T.sc (.string s0)))), (1, (V.fn 71 [])), (5, (V.t (T.sc (.int .i64 s1))))] [] (l_z56_2_K k) = l_z56_2_B n k (s0, s1) := by kernel_rfl
def l_z56_2_Q (x : Int) (ex : Ex) (e : Env) (s : Sig) : Prop := (fun p0 => (ex = (.exit 0) /\ e = SEnv.env 20 [(5, (V.t (T.sc (.int .i64 p0))))] /\ s = [])) x
theorem l_z56_2_run (n : Nat) : ∀ (m : Nat) (s0 : ByteArray) (s1 : Int) (x : Int), l_z56_2 n m (s0, s1) = some x -> SemL Tryz.prog 0 code_l_z56_2 (SEnv.env 20 [(0, (V.t (T.sc (.string s0)))), (1, (V.fn 71 [])), (5, (V.t (T.sc (.int .i64 s1))))]) [] (l_z56_2_Q x)
 | 0, s0, s1, x, h => by cases h
 | m + 1, s0, s1, x, h => by
  refine loop_step (sp_z56_ok n) code_l_z56_2_ok (nl (by kernel_rfl)) (no_scope (by kernel_rfl)) ((l_z56_2_eq n _ s0 s1).trans h) (fun E sg h => ?_) (fun ex E sg hne h => ?_)
  ·simp only [l_z56_2_K] at h
   obtain ⟨u0, hu0, u1, hu1, h⟩ := ob2 h
   obtain ⟨u2, hu2, h⟩ := ob h
   exact SemL.pre (k := 0) (by decide) (WkA.env (WkA.cons (sW hu0) rfl (WkA.cons (fnN_wk hu1 .nil) rfl (WkA.cons (iW hu2) rfl WkA.nil))) 20) (WkS.none _) (l_z56_2_run n m _ _ x h)
  ·unfold l_z56_2_K at h
   split at h
   ·exact absurd rfl hne
   ·obtain ⟨u0, hu0, h⟩ := ob h
    cases h
    exact ⟨0, _, _, by decide, WkA.env (WkA.cons (iW hu0) rfl WkA.nil) 20, (WkS.none _), rfl, rfl, rfl⟩
   ·cases h
theorem l_z56_2_ok (n : Nat) : LoopOk Tryz.prog (sp_z56 n) 0 20 code_l_z56_2 := by
  intro R key E sg K r hk h
  rw [show Go.Eng.keyOf code_l_z56_2 = some 2 from by kernel_rfl] at hk
  cases hk
  have h : l_z56_2_S n R E sg K = some r := h
  unfold l_z56_2_S at h
  obtain ⟨u0, hu0, u1, hu1, u2, hu2, x, hx, h⟩ := ob4 h
  refine (SemL.pre (k := 0) (by decide) (WkA.env (WkA.cons (sW hu0) rfl (WkA.cons (fnN_wk hu1 .nil) rfl (WkA.cons (iW hu2) rfl WkA.nil))) 20) (WkS.none _) (l_z56_2_run n n _ _ x hx)).mono ?_
  intro ex e s hq
  obtain ⟨rfl, rfl, rfl⟩ := hq
  exact ⟨_, rfl, h⟩
def K_z56 (v : V) (s : Sig) : Option (Int) := Option.bind (V.intOf .i64 v) fun u0 => some u0
theorem K_z56_wk {v : V} {s : Sig} {r : Int} (h : K_z56 v s = some r) : Wk v (enc_z56 r) /\ WkS 0 s (encS_z56 r) := by
 unfold K_z56 at h
 obtain ⟨u0, hu0, h⟩ := ob h
 cases h
 exact ⟨(iW hu0), (WkS.none _)⟩
theorem m_z56_eq (n : Nat) (a0 : ByteArray) : mF Tryz.prog (sp_z56 n) 68 [(V.t (T.sc (.string a0))), (V.fn 71 [])] [] K_z56 = m_z56 n a0 := by kernel_rfl
theorem m_z56_ok (n : Nat) : ok_z56 (m_z56 n) := fun a0 r h => mF_ok sound (sp_z56_ok n) code_z56_fn code_z56_body (forall_getD (d := .skip) 1 (by kernel_rfl) (fun i hi => match i, hi with | 0, _ => l_z56_2_ok n | i + 1, hi => absurd hi (by omega))) (no_scope (by kernel_rfl)) ((m_z56_eq n a0).trans h) (fun v s hk => ⟨(K_z56_wk hk).1, rfl, (K_z56_wk hk).2⟩)
def m_z48 (n : Nat) (a0 : ByteArray) : Option (Int) := atoiM a0
def enc_z48 (r : Int) : V := (V.tup [(V.t (T.sc (.int .i64 r))), V.any])
def encS_z48 (r : Int) : Sig := []
def ok_z48 (m : ByteArray -> Option (Int)) : Prop := ∀ (a0 : ByteArray) (r : Int), m a0 = some r -> FuncOk Tryz.prog 76 [(V.t (T.sc (.string a0)))] [] (enc_z48 r) (encS_z48 r)
def c_z48 (m : ByteArray -> Option (Int)) (vs : List V) (sg : Sig) : Option CallM := bif Nat.beq vs.length 1 && Nat.beq sg.length 0 then Option.bind (V.strOf (vs.getD 0 .any)) fun u0 => some { α := Int, m := m u0, dflt := 0, enc := fun y => ((V.tup [(V.t (T.sc (.int .i64 y))), V.any]), []) } else none
theorem c_z48_ok (m : ByteArray -> Option (Int)) (hm : ok_z48 m) (vs : List V) (sg : Sig) (cm : CallM) (x : cm.α) (h : c_z48 m vs sg = some cm) (hx : cm.m = some x) : FuncOk Tryz.prog 76 vs sg (cm.enc x).1 (cm.enc x).2 := by
 unfold c_z48 at h
 obtain ⟨hl, hs, h⟩ := callee_sig h
 obtain ⟨u0, hu0, h⟩ := ob h
 cases h
 exact (hm u0 x hx).wk (args_wk hl (.cons (sW hu0) .nil)) (wkSg_of hs .nil)
theorem m_z48_ok (n : Nat) : ok_z48 (m_z48 n) := fun a0 r h => x_z48 h
def m_z49 (n : Nat) (a0 : Int) : Option (ByteArray) := itoaM a0
def enc_z49 (r : ByteArray) : V := (V.t (T.sc (.string r)))
def encS_z49 (r : ByteArray) : Sig := []
def ok_z49 (m : Int -> Option (ByteArray)) : Prop := ∀ (a0 : Int) (r : ByteArray), m a0 = some r -> FuncOk Tryz.prog 36 [(V.t (T.sc (.int .i64 a0)))] [] (enc_z49 r) (encS_z49 r)
def c_z49 (m : Int -> Option (ByteArray)) (vs : List V) (sg : Sig) : Option CallM := bif Nat.beq vs.length 1 && Nat.beq sg.length 0 then Option.bind (V.intOf .i64 (vs.getD 0 .any)) fun u0 => some { α := ByteArray, m := m u0, dflt := default, enc := fun y => ((V.t (T.sc (.string y))), []) } else none
theorem c_z49_ok (m : Int -> Option (ByteArray)) (hm : ok_z49 m) (vs : List V) (sg : Sig) (cm : CallM) (x : cm.α) (h : c_z49 m vs sg = some cm) (hx : cm.m = some x) : FuncOk Tryz.prog 36 vs sg (cm.enc x).1 (cm.enc x).2 := by
 unfold c_z49 at h
 obtain ⟨hl, hs, h⟩ := callee_sig h
 obtain ⟨u0, hu0, h⟩ := ob h
 cases h
 exact (hm u0 x hx).wk (args_wk hl (.cons (iW hu0) .nil)) (wkSg_of hs .nil)
theorem m_z49_ok (n : Nat) : ok_z49 (m_z49 n) := fun a0 r h => x_z49 h
end
end Go.Proofs.YtbcgpjlkkcdmmaaGreatDoor.W
