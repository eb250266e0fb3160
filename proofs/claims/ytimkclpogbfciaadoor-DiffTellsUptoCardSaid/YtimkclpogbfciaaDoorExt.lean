/- The library's functions that the program calls, by the kit's contracts: as contracts of the engine. No conditions. -/
import Derived.Test.YtimkclpogbfciaaDoorBase
import Derived.Test.YtimkclpogbfciaaDoorShelf
import Derived.Test.YtimkclpogbfciaaDoorEngWG
import Derived.Lib.AtoiErrMem
namespace Go.Proofs.YtimkclpogbfciaaDoor.W
open Go Go.Eng Go.RowKit
set_option linter.unusedVariables false

def cntM (a b : ByteArray) : Option Int := match b.data.toList with
  | [c] => some (Lib.countByte a.data.toList c : Nat)
  | _ => none
/-- A number's digits, of at most so many. -/
def digs : Nat → Nat → List UInt8
  | 0, _ => []
  | k + 1, u => bif Nat.blt u 10 then [UInt8.ofNat (48 + u)] else digs k (u / 10) ++ [UInt8.ofNat (48 + u % 10)]
def itoaM (n : Int) : Option ByteArray := bif decide (-9223372036854775808 ≤ n) && decide (n ≤ 9223372036854775807) then some ⟨(bif decide (n < 0) then 45 :: digs 20 n.natAbs else digs 20 n.toNat).toArray⟩ else none
theorem digs_eq : ∀ (k u : Nat), u < 10 ^ k → 0 < k → digs k u = Lib.decDigits u
  | 0, _, _, h => absurd h (Nat.lt_irrefl _)
  | k + 1, u, h, _ => by
    unfold digs
    rw [Lib.decDigits]
    by_cases hu : u < 10
    · have : Nat.blt u 10 = true := by simpa using hu
      rw [this, dif_pos hu]; rfl
    · have : Nat.blt u 10 = false := by
        cases hb : Nat.blt u 10 with
        | false => rfl
        | true => exact absurd (by simpa using hb) hu
      rw [this, dif_neg hu, cond_false]
      have hk : 0 < k := by
        rcases Nat.eq_zero_or_pos k with rfl | h0
        · simp at h; omega
        · exact h0
      rw [digs_eq k (u / 10) (by rw [Nat.pow_succ] at h; exact Nat.div_lt_of_lt_mul (by omega)) hk]

theorem x_strings_Count {a0 a1 : ByteArray} {r : Int} (h : cntM a0 a1 = some r) : FuncOk Tryd.prog 51 [V.t (T.sc (.string a0)), V.t (T.sc (.string a1))] [] (V.t (T.sc (.int .i64 r))) [] := by
  unfold cntM at h
  split at h
  · rename_i c hc
    simp only [Option.some.injEq] at h
    subst h
    obtain rfl : a1 = ⟨#[c]⟩ := by
      cases a1 with
      | mk d => cases d with
        | mk l => simp at hc; subst hc; rfl
    exact ext_ok (xs := [.string a0, .string ⟨#[c]⟩]) Tryd.func51 (by kernel_rfl) (by kernel_rfl) (by simp [flat]) rfl (fun w _ => (Tryd.strings_Count_one a0 c w).mono fun e w' ⟨he, hw⟩ => ⟨he, by rw [hw]; exact Below.refl _ _⟩)
  · cases h

theorem tab_pow {w : World} (hT : Tabs Tryd.prog w) : Lib.TabIs Tryd.prog w "internal/strconv.uint64pow10" .u64 Lib.pow10Tab := by
  have hg : Tryd.prog.globalNamed "internal/strconv.uint64pow10" = some 3 := by kernel_rfl
  obtain ⟨cs, h1, h2⟩ := (hT 3 ⟨_, List.mem_cons_self .., hg⟩).2 _ (List.mem_cons_self ..) hg
  simp only at h2
  subst h2
  exact h1
theorem below_grow (w : World) (k : Nat) (os : Array Obj) : Below w.heap.size w (Sort.grow (w.drewN k) os) := by
  refine ⟨rfl, rfl, rfl, ?_, fun b hb => ?_⟩
  · show w.heap.size ≤ (w.heap ++ os).size
    simp
  · show (w.heap ++ os)[b]? = w.heap[b]?
    rw [Array.getElem?_append_left hb]
theorem x_strconv_Itoa {a0 : Int} {r : ByteArray} (h : itoaM a0 = some r) : FuncOk Tryd.prog 30 [V.t (T.sc (.int .i64 a0))] [] (V.t (T.sc (.string r))) [] := by
  unfold itoaM at h
  cases h1 : decide (-9223372036854775808 ≤ a0) && decide (a0 ≤ 9223372036854775807) with
  | false => simp [h1] at h
  | true =>
    simp only [h1, cond_true, Option.some.injEq] at h
    simp only [Bool.and_eq_true, decide_eq_true_eq] at h1
    have e20 : (10 : Nat) ^ 20 = 100000000000000000000 := rfl
    have hr : r = ⟨(Lib.itoa a0).toArray⟩ := by
      rw [← h]
      unfold Lib.itoa
      by_cases hn : a0 < 0
      · rw [decide_eq_true hn, if_pos hn, cond_true, digs_eq _ _ (by omega) (by omega)]
      · rw [decide_eq_false hn, if_neg hn, cond_false, digs_eq _ _ (by omega) (by omega)]
    subst hr
    exact ext_ok (xs := [.int .i64 a0]) Tryd.func30 (by kernel_rfl) (by kernel_rfl) (by simp [flat]) rfl (fun w hT => (Tryd.strconv_Itoa a0 h1.1 h1.2 w (tab_pow hT)).mono fun e w' ⟨he, k, os, hw⟩ => ⟨he, by rw [hw]; exact below_grow w k os⟩)

def indexM (a : ByteArray) (c : Int) : Option Int := some (Lib.indexByte a.data.toList c.toNat.toUInt8)
theorem x_strings_IndexByte {a0 : ByteArray} {a1 r : Int} (h : indexM a0 a1 = some r) : FuncOk Tryd.prog 37 [V.t (T.sc (.string a0)), V.t (T.sc (.int .u8 a1))] [] (V.t (T.sc (.int .i64 r))) [] := by
  simp only [indexM, Option.some.injEq] at h
  subst h
  exact ext_ok (xs := [.string a0, .int .u8 a1]) Tryd.func37 (by kernel_rfl) (by kernel_rfl) (by simp [flat]) rfl (fun w _ => (Tryd.strings_IndexByte a0 a1 w).mono fun e w' ⟨he, hw⟩ => ⟨he, by rw [hw]; exact Below.refl _ _⟩)

def atoiM (a : ByteArray) : Option Int := bif decide (a.size ≤ 281474976710656) then (match Lib.atoiAll a.data.toList with
  | .ok v => some v
  | .range => some (Lib.atoiSat a.data.toList)
  | _ => none) else none
theorem tab_range {w : World} (hT : Tabs Tryd.prog w) : ∃ t p, w.var? Tryd.prog "strconv.ErrRange" = some #[.iface t p] := by
  have hg : Tryd.prog.globalNamed "strconv.ErrRange" = some 2 := by kernel_rfl
  obtain ⟨cs, h1, h2⟩ := (hT 2 ⟨_, List.mem_cons_of_mem _ (List.mem_cons_self ..), hg⟩).2 _ (List.mem_cons_of_mem _ (List.mem_cons_self ..)) hg
  simp only at h2
  obtain ⟨t, p, rfl⟩ := h2
  exact ⟨t, p, h1⟩
theorem x_strconv_Atoi {a0 : ByteArray} {r : Int} (h : atoiM a0 = some r) : FuncOk Tryd.prog 38 [V.t (T.sc (.string a0))] [] (V.tup [V.t (T.sc (.int .i64 r)), V.any]) [] := by
  unfold atoiM at h
  cases h1 : decide (a0.size ≤ 281474976710656) with
  | false => simp [h1] at h
  | true =>
    simp only [h1, cond_true] at h
    simp only [decide_eq_true_eq] at h1
    refine ext_tup (xs := [.string a0]) Tryd.func38 (by kernel_rfl) (by kernel_rfl) (by simp [flat]) rfl (fun w hT => ?_)
    split at h
    · rename_i v hv
      simp only [Option.some.injEq] at h
      subst h
      refine (Tryd.strconv_Atoi_ok a0 (by omega) v hv w).mono ?_
      rintro e w' ⟨he, hw⟩
      refine ⟨⟨_, he⟩, ?_⟩
      rcases hw with rfl | ⟨t, rfl⟩
      · exact Below.refl _ _
      · exact Lib.bytesWorld_below w _ t
    · rename_i hv
      simp only [Option.some.injEq] at h
      subst h
      obtain ⟨tp, p, hvar⟩ := tab_range hT
      refine (Tryd.strconv_Atoi_range_var a0 h1 hv tp p w hvar).mono ?_
      rintro e w' ⟨N, he, _, _, hb⟩
      exact ⟨⟨_, he⟩, hb⟩
    · cases h

end Go.Proofs.YtimkclpogbfciaaDoor.W
