/- The library's functions that the program calls, by the kit's contracts: as contracts of the engine. No conditions. -/
import Derived.Test.YtkolhagejiabhaaDoorBase
import Derived.Test.YtkolhagejiabhaaDoorShelf
import Derived.Test.YtkolhagejiabhaaDoorEngWG
namespace Go.Proofs.YtkolhagejiabhaaDoor.W
open Go Go.Eng Go.RowKit
set_option linter.unusedVariables false

def cntM (a b : ByteArray) : Option Int := match b.data.toList with
  | [c] => some (Lib.countByte a.data.toList c : Nat)
  | _ => none
def lastM (a : ByteArray) (c : Int) : Option Int := bif decide (a.size < 4611686018427387904) then some (Lib.lastIndexByte a c) else none
def itoaM (n : Int) : Option ByteArray :=
  bif decide (0 ≤ n) && decide (n < 10) then some ⟨#[UInt8.ofNat (48 + n.toNat)]⟩
  else bif decide (0 ≤ n) && decide (n < 100) then some ⟨#[UInt8.ofNat (48 + n.toNat / 10), UInt8.ofNat (48 + n.toNat % 10)]⟩ else none

theorem x_strings_Count {a0 a1 : ByteArray} {r : Int} (h : cntM a0 a1 = some r) : FuncOk Tryd.prog 32 [V.t (T.sc (.string a0)), V.t (T.sc (.string a1))] [] (V.t (T.sc (.int .i64 r))) [] := by
  unfold cntM at h
  split at h
  · rename_i c hc
    simp only [Option.some.injEq] at h
    subst h
    obtain rfl : a1 = ⟨#[c]⟩ := by
      cases a1 with
      | mk d => cases d with
        | mk l => simp at hc; subst hc; rfl
    exact ext_ok (xs := [.string a0, .string ⟨#[c]⟩]) Tryd.func32 (by kernel_rfl) (by kernel_rfl) (by simp [flat]) rfl (fun w => (Tryd.strings_Count_one a0 c w).mono fun e w' ⟨he, hw⟩ => ⟨he, by rw [hw]; exact Below.refl _ _⟩)
  · cases h

theorem x_strings_LastIndexByte {a0 : ByteArray} {a1 r : Int} (h : lastM a0 a1 = some r) : FuncOk Tryd.prog 33 [V.t (T.sc (.string a0)), V.t (T.sc (.int .u8 a1))] [] (V.t (T.sc (.int .i64 r))) [] := by
  unfold lastM at h
  cases hs : decide (a0.size < 4611686018427387904) with
  | false => simp [hs] at h
  | true =>
    simp [hs] at h
    subst h
    exact ext_ok (xs := [.string a0, .int .u8 a1]) Tryd.func33 (by kernel_rfl) (by kernel_rfl) (by simp [flat]) rfl (fun w => (Tryd.strings_LastIndexByte a0 a1 (by simpa using hs) w).mono fun e w' ⟨he, hw⟩ => ⟨he, by rw [hw]; exact Below.refl _ _⟩)

theorem x_strconv_Itoa {a0 : Int} {r : ByteArray} (h : itoaM a0 = some r) : FuncOk Tryd.prog 35 [V.t (T.sc (.int .i64 a0))] [] (V.t (T.sc (.string r))) [] := by
  have key : ∃ i : Nat, i < 100 ∧ a0 = i ∧ r = ⟨(Lib.decDigits i).toArray⟩ := by
    unfold itoaM at h
    cases h1 : decide (0 ≤ a0) && decide (a0 < 10) with
    | true =>
      simp only [h1, cond_true, Option.some.injEq] at h
      simp only [Bool.and_eq_true, decide_eq_true_eq] at h1
      refine ⟨a0.toNat, by omega, by omega, ?_⟩
      rw [Lib.decDigits_one (by omega), ← h]
    | false =>
      simp only [h1, cond_false] at h
      cases h2 : decide (0 ≤ a0) && decide (a0 < 100) with
      | false => simp [h2] at h
      | true =>
        simp only [h2, cond_true, Option.some.injEq] at h
        simp only [Bool.and_eq_true, decide_eq_true_eq, Bool.and_eq_false_iff, decide_eq_false_iff_not] at h1 h2
        refine ⟨a0.toNat, by omega, by omega, ?_⟩
        rw [Lib.decDigits_two (by omega) (by omega), ← h]
  obtain ⟨i, hi, rfl, rfl⟩ := key
  exact ext_ok (xs := [.int .i64 i]) Tryd.func35 (by kernel_rfl) (by kernel_rfl) (by simp [flat]) rfl (fun w => (Tryd.strconv_Itoa_small i hi w).mono fun e w' ⟨he, hw⟩ => ⟨he, by rw [hw]; exact Below.refl _ _⟩)

end Go.Proofs.YtkolhagejiabhaaDoor.W
