/- strings.Repeat, strings.Join, by the kit's contracts: as contracts of the engine. No conditions. -/
import Derived.Test.YtbcgpjlkkcdmmaaGreatDoorDecls
namespace Go.Proofs.YtbcgpjlkkcdmmaaGreatDoor.W
open Go Go.Eng Go.RowKit
set_option linter.unusedVariables false
set_option linter.unusedSimpArgs false

def repeatM (a : ByteArray) (c : Int) : Option ByteArray := bif decide (0 ≤ c) && decide (c ≤ 9223372036854775807) && decide (a.size * c.toNat ≤ 140737488355328) then some ⟨(Lib.repeatL a.data.toList c.toNat).toArray⟩ else none
theorem x_strings_Repeat {a0 : ByteArray} {a1 : Int} {r : ByteArray} (h : repeatM a0 a1 = some r) : FuncOk Tryz.prog 56 [V.t (T.sc (.string a0)), V.t (T.sc (.int .i64 a1))] [] (V.t (T.sc (.string r))) [] := by
  unfold repeatM at h
  cases hb : decide (0 ≤ a1) && decide (a1 ≤ 9223372036854775807) && decide (a0.size * a1.toNat ≤ 140737488355328) with
  | false => simp [hb] at h
  | true =>
    rw [hb, cond_true] at h
    simp only [Option.some.injEq] at h
    subst h
    simp only [Bool.and_eq_true, decide_eq_true_eq] at hb
    have e : (a1.toNat : Int) = a1 := by omega
    have := ext_ok (P := Tryz.prog) (f := 56) (xs := [.string a0, .int .i64 (a1.toNat : Int)]) (res := .string ⟨(Lib.repeatL a0.data.toList a1.toNat).toArray⟩) Tryz.func56 (by kernel_rfl) (by kernel_rfl) (by simp [flat]) rfl (fun w _ => Tryz.strings_Repeat a0 a1.toNat w (by omega) hb.2)
    rw [e] at this
    exact this

def strsOf : List T → Option (List ByteArray)
  | [] => some []
  | .sc (.string s) :: r => (strsOf r).map (s :: ·)
  | _ => none
def joinL (xs : List ByteArray) (sep : ByteArray) : List UInt8 := Lib.join (xs.map (·.data.toList)) sep.data.toList
def joinM (a : List T) (sep : ByteArray) : Option ByteArray := match strsOf a with
  | some xs => bif decide (xs.length ≤ 140737488355328) && decide ((joinL xs sep).length ≤ 140737488355328) then some ⟨(joinL xs sep).toArray⟩ else none
  | none => none

theorem strsOf_map : ∀ {a : List T} {xs : List ByteArray}, strsOf a = some xs → a = xs.map fun s => T.sc (.string s)
  | [], xs, h => by simp only [strsOf, Option.some.injEq] at h; subst h; rfl
  | .sc (.string s) :: r, xs, h => by
    simp only [strsOf] at h
    obtain ⟨ys, h1, h2⟩ := Option.map_eq_some_iff.1 h
    subst h2
    rw [strsOf_map h1]
    rfl
  | .list _ :: _, xs, h => by simp [strsOf] at h
  | .agg _ :: _, xs, h => by simp [strsOf] at h
  | .vac :: _, xs, h => by simp [strsOf] at h
  | .sc v :: r, xs, h => by
    cases v with
    | string s =>
      simp only [strsOf] at h
      obtain ⟨ys, h1, h2⟩ := Option.map_eq_some_iff.1 h
      subst h2
      rw [strsOf_map h1]
      rfl
    | _ => simp [strsOf] at h

theorem x_strings_Join {a0 : List T} {a1 r : ByteArray} (h : joinM a0 a1 = some r) : FuncOk Tryz.prog 57 [V.t (T.list a0), V.t (T.sc (.string a1))] [] (V.t (T.sc (.string r))) [] := by
  unfold joinM at h
  split at h
  · rename_i xs hxs
    cases hb : decide (xs.length ≤ 140737488355328) && decide ((joinL xs a1).length ≤ 140737488355328) with
    | false => simp [hb] at h
    | true =>
      rw [hb, cond_true] at h
      simp only [Option.some.injEq] at h
      subst h
      simp only [Bool.and_eq_true, decide_eq_true_eq] at hb
      have hmap := strsOf_map hxs
      refine ext_any Tryz.func57 (by kernel_rfl) (by kernel_rfl) ?_
      intro w g args hsz hrel hW hT
      obtain ⟨x0, x1, rfl, r0, r1⟩ := args2 hsz hrel
      obtain rfl := rel_sc r1
      simp only [RelV] at r0
      have fin : ∀ {e : Ending} {w' : World}, e = .returned (.string ⟨(joinL xs a1).toArray⟩) → Below w.heap.size w w' →
          ∃ v F', e = .returned v ∧ (∀ b, b < w.heap.size → F' b = g.F b) ∧ (∀ b lim, F' b = some lim → b < w'.heap.size) ∧ RelV w' ⟨F', g.φ, fun _ => none⟩ .res (V.t (T.sc (.string ⟨(joinL xs a1).toArray⟩))) v ∧ Below w.heap.size w w' := by
        intro e w' he hbel
        refine ⟨_, g.F, he, fun _ _ => rfl, fun b lim hb => Nat.lt_of_lt_of_le (hW.lt b lim hb) hbel.size, ?_, hbel⟩
        simp only [RelV]
        exact .sc _ rfl
      rcases r0.toList with ⟨he, hbare⟩ | ⟨b, o, cap, sz, lim, rfl, hcap, hl⟩
      · subst he
        have hx : xs = [] := by simpa using hmap
        subst hx
        have hj : joinL [] a1 = [] := rfl
        rw [hj] at fin ⊢
        rcases hbare with rfl | ⟨a, rfl⟩
        · exact (Tryz.strings_Join_none none 0 a1 w).mono fun e w' ⟨he, hw⟩ => fin he (by rw [hw]; exact Below.refl _ _)
        · exact (Tryz.strings_Join_none (some a) 0 a1 w).mono fun e w' ⟨he, hw⟩ => fin he (by rw [hw]; exact Below.refl _ _)
      · have hlen : a0.length = xs.length := by rw [hmap, List.length_map]
        rw [hlen] at hcap ⊢
        have hfl : a0.flatMap T.cells = a0 := by
          rw [hmap]
          clear hmap hl hcap hlen hb hxs fin r0 hrel
          induction xs with
          | nil => rfl
          | cons s ys ih =>
            rw [List.map_cons, List.flatMap_cons, ih]
            rfl
        refine (Tryz.strings_Join b o cap xs a1 w (fun j x hx => ?_) (hW.lt b lim hl.isLim) hb.1 hcap hb.2).mono fun e w' ⟨he, hw⟩ => fin he hw
        obtain ⟨v, hv, hr⟩ := hl.at_ j (T.sc (.string x)) (by rw [hfl, hmap, List.getElem?_map, hx]; rfl)
        rw [hv, hr.toSc.1]
  · cases h
end Go.Proofs.YtbcgpjlkkcdmmaaGreatDoor.W
