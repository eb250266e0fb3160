/- Chapter 2: a token of the program's, beside itself, is no other: the comparison of structs, in the walk. -/
import Derived.Test.YtkolhagejiabhaaDoorL
import Derived.Test.YtkolhagejiabhaaDoorEngFl
namespace Go.Proofs.YtkolhagejiabhaaDoor.W
open Go Go.Eng
theorem rp_program (P : Program) : runPure P (program : Sem Program) = some P := rfl
theorem rp_bind {α β : Type} {P : Program} (s : Sem α) (k : α → Sem β) : runPure P (s >>= k) = (runPure P s).bind fun a => runPure P (k a) := runPure_bind s k
theorem rp_pure {α : Type} {P : Program} (a : α) : runPure P (pure a : Sem α) = some a := rfl
section
variable {P : Program} (u3 : P.underlying 3 = some (.int .i64)) (u9 : P.underlying 9 = some .string) (u23 : P.underlying 23 = some (.complex .f64))
  (eqg : P.eqGuardType P.depth 48 = false) (sth : P.stoodInHeld 48 = false)
  (u48 : P.underlying 48 = some (TypeDesc.struct
      #[{ name := "Kind", type := 3, offset := 0, embedded := false, tag := "", pkgPath := "", byteOffset := 0 },
        { name := "Text", type := 9, offset := 1, embedded := false, tag := "", pkgPath := "", byteOffset := 8 },
        { name := "N", type := 3, offset := 2, embedded := false, tag := "", pkgPath := "", byteOffset := 24 },
        { name := "At", type := 23, offset := 3, embedded := false, tag := "", pkgPath := "", byteOffset := 32 }]))
include u3 u9 u23 eqg sth u48
set_option maxRecDepth 10000 in
set_option maxHeartbeats 4000000 in
theorem tok_same0 (k n : Int) (x : ByteArray) (a b : Nat) (h : cplxEq .f64 a b a b = true) : cmpA P true .neq 48 [.int .i64 k, .string x, .int .i64 n, .complex .f64 a b] [.int .i64 k, .string x, .int .i64 n, .complex .f64 a b] = some false := by
  have a3 : runPure P (isAgg 3) = some false := by simp [isAgg, rp_bind, runPure_under u3, rp_pure]
  have a9 : runPure P (isAgg 9) = some false := by simp [isAgg, rp_bind, runPure_under u9, rp_pure]
  have a23 : runPure P (isAgg 23) = some false := by simp [isAgg, rp_bind, runPure_under u23, rp_pure]
  have ex : (x == x) = true := by
    cases x with | mk d =>
    show (d == d) = true
    simp
  unfold cplxEq at h
  simp only [Bool.and_eq_true] at h
  have e1 : Op.floatEq .f64 a a = true := h.1
  have e2 : Op.floatEq .f64 b b = true := h.2
  unfold cmpA
  simp only [cond_true, eqGuard, binOp, Op.equal]
  obtain ⟨d, hd⟩ : ∃ d, Op.maxDepth = d + 1 + 1 := ⟨9998, rfl⟩
  rw [hd]
  simp [Op.equalIn, rp_bind, rp_program, rp_pure, eqg, runPure_under u48, sth, part, runPure_under u3, runPure_under u9, runPure_under u23, a3, a9, a23, e1, e2, ex]
end
theorem tok_same (k n : Int) (x : ByteArray) (a b : Nat) (h : cplxEq .f64 a b a b = true) : cmpA Tryd.prog true .neq 48 [.int .i64 k, .string x, .int .i64 n, .complex .f64 a b] [.int .i64 k, .string x, .int .i64 n, .complex .f64 a b] = some false :=
  tok_same0 Tryd.underlying3 Tryd.underlying9 Tryd.underlying23 (by kernel_rfl) (by kernel_rfl) Tryd.underlying48 k n x a b h
end Go.Proofs.YtkolhagejiabhaaDoor.W
