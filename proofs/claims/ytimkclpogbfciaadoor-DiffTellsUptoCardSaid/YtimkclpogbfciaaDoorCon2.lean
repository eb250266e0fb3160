/- The document's common, as a contract of the engine. No conditions. -/
import Derived.Test.YtimkclpogbfciaaDoorCon
import Derived.Test.YtimkclpogbfciaaDoorCom
namespace Go.Proofs.YtimkclpogbfciaaDoor.W
open Go Go.Eng Go.RowKit
set_option linter.unusedVariables false
set_option linter.unusedSimpArgs false

def nth (xs : List ByteArray) (i : Nat) : ByteArray := xs.getD i ByteArray.empty
def rowT (zs : List Int) : T := T.list (zs.map fun z => T.sc (.int .i64 z))
/-- The document's table of two lists of lines. -/
def comTab (xs ys : List ByteArray) : List (List Int) := (List.range (xs.length + 1)).map fun i => (List.range (ys.length + 1)).map fun j => tabL (nth xs) (nth ys) xs.length ys.length i j
def commonM (a b : List T) : Option (List T) := match strsOf a, strsOf b with
  | some xs, some ys => bif decide (xs.length ≤ 1000000) && decide (ys.length ≤ 1000000) then some ((comTab xs ys).map rowT) else none
  | _, _ => none

theorem strs_slice {w : World} {g : Gh} {l : Eng.Loc} {a : List T} {xs : List ByteArray} {x : Value} (hs : strsOf a = some xs) (h : RelV w g l (V.t (T.list a)) x) :
    ∃ ga cap b o, x = .slice ga xs.length cap ∧ (0 < xs.length → ga = some ⟨b, o, none⟩) ∧ ∀ i, i < xs.length → w.cell? ⟨b, o + i, none⟩ = some (.string (nth xs i)) := by
  have hmap := strsOf_map hs
  simp only [RelV] at h
  rcases h.toList with ⟨he, hbare⟩ | ⟨b, o, cap, sz, lim, rfl, hcap, hl⟩
  · subst he
    obtain rfl : xs = [] := by simpa using hmap
    rcases hbare with rfl | ⟨a, rfl⟩
    · exact ⟨none, 0, 0, 0, rfl, fun h => absurd h (Nat.lt_irrefl _), fun i hi => absurd hi (Nat.not_lt_zero _)⟩
    · exact ⟨some a, 0, 0, 0, rfl, fun h => absurd h (Nat.lt_irrefl _), fun i hi => absurd hi (Nat.not_lt_zero _)⟩
  · have hlen : a.length = xs.length := by rw [hmap, List.length_map]
    have hfl : a.flatMap T.cells = a := by
      rw [hmap]
      clear hmap hl hcap hlen hs h
      induction xs with
      | nil => rfl
      | cons s ys ih => rw [List.map_cons, List.flatMap_cons, ih]; rfl
    refine ⟨_, cap, b, o, by rw [hlen], fun _ => rfl, fun i hi => ?_⟩
    obtain ⟨v, hv, hr⟩ := hl.at_ i (T.sc (.string (nth xs i))) (by rw [hfl, hmap, List.getElem?_map, List.getElem?_eq_getElem hi, nth, List.getD_eq_getElem?_getD, List.getElem?_eq_getElem hi]; rfl)
    rw [hv, hr.toSc.1]

theorem flat_one : ∀ es : List T, (∀ y ∈ es, y.cells = [y]) → es.flatMap T.cells = es
  | [], _ => rfl
  | y :: es, h => by rw [List.flatMap_cons, h y (by simp), flat_one es fun z hz => h z (List.mem_cons_of_mem _ hz)]; rfl

theorem x_sutureref1_common {a0 a1 r : List T} (h : commonM a0 a1 = some r) : FuncOk Tryd.prog 31 [V.t (T.list a0), V.t (T.list a1)] [] (V.t (T.list r)) [] := by
  unfold commonM at h
  split at h
  · rename_i xs ys hx hy
    cases hb : decide (xs.length ≤ 1000000) && decide (ys.length ≤ 1000000) with
    | false => simp [hb] at h
    | true =>
      rw [hb, cond_true] at h
      simp only [Option.some.injEq] at h
      subst h
      simp only [Bool.and_eq_true, decide_eq_true_eq] at hb
      refine ext_any Tryd.func31 (by kernel_rfl) (by kernel_rfl) ?_
      intro w g args hsz hrel hW hT
      obtain ⟨x0, x1, rfl, r0, r1⟩ := args2 hsz hrel
      obtain ⟨ga, ca, ba, oa, rfl, hga, hX⟩ := strs_slice hx r0
      obtain ⟨gb, cb, bb, ob, rfl, hgb, hY⟩ := strs_slice hy r1
      refine (common_walk ga gb ba oa bb ob xs.length ys.length (xs.length + 1) (ys.length + 1) ca cb (nth xs) (nth ys) w hga hgb (by omega) (by omega) (by omega) (by omega) hX hY).mono ?_
      rintro e w' ⟨rfl, hM⟩
      have hbel : Below w.heap.size w w' := ⟨hM.since.os, hM.since.tape, hM.since.output, by rw [hM.size]; omega, fun k hk => hM.since.block k hk⟩
      generalize hn : w.heap.size = n at *
      have hsz' := hM.size
      rw [hn] at hsz'
      refine ⟨_, fun b => if b = n then some (xs.length + 1) else if n < b ∧ b ≤ n + (xs.length + 1) then some (ys.length + 1) else g.F b, rfl, fun b hb => ?_, fun b lim hb => ?_, ?_, hbel⟩
      · dsimp only
        rw [if_neg (by omega), if_neg (by omega)]
      · by_cases h1 : b = n
        · omega
        · by_cases h2 : n < b ∧ b ≤ n + (xs.length + 1)
          · omega
          · have hb' : (if b = n then some (xs.length + 1) else if n < b ∧ b ≤ n + (xs.length + 1) then some (ys.length + 1) else g.F b) = some lim := hb
            rw [if_neg h1, if_neg h2] at hb'
            have := hW.lt b lim hb'
            omega
      · simp only [RelV]
        have hrow : ∀ k, k < xs.length + 1 → RT w' (fun b => if b = n then some (xs.length + 1) else if n < b ∧ b ≤ n + (xs.length + 1) then some (ys.length + 1) else g.F b) (rowT ((List.range (ys.length + 1)).map fun j => tabL (nth xs) (nth ys) xs.length ys.length k j)) (.slice (some ⟨n + 1 + k, 0, none⟩) (ys.length + 1) (ys.length + 1)) := by
          intro k hk
          have hR := hM.done k hk
          rw [hn] at hR
          have hl : (((List.range (ys.length + 1)).map fun j => tabL (nth xs) (nth ys) xs.length ys.length k j).map fun z => T.sc (.int .i64 z)).length = ys.length + 1 := by simp
          have hRL : RList w' (fun b => if b = n then some (xs.length + 1) else if n < b ∧ b ≤ n + (xs.length + 1) then some (ys.length + 1) else g.F b) 1 (((List.range (ys.length + 1)).map fun j => tabL (nth xs) (nth ys) xs.length ys.length k j).map fun z => T.sc (.int .i64 z)) (n + 1 + k) 0 (ys.length + 1) := by
            refine ⟨by rw [if_neg (by omega), if_pos (by omega)], by simp, by decide, fun y hy => ?_, fun j x hx => ?_⟩
            · obtain ⟨z, _, rfl⟩ := List.mem_map.1 hy; rfl
            · rw [flat_one _ (fun y hy => by obtain ⟨z, _, rfl⟩ := List.mem_map.1 hy; rfl)] at hx
              have hj : j < ys.length + 1 := by rw [← hl]; exact (List.getElem?_eq_some_iff.1 hx).1
              rw [List.getElem?_map, List.getElem?_map, List.getElem?_range hj] at hx
              simp only [Option.map_some, Option.some.injEq] at hx
              subst hx
              exact ⟨_, by rw [Nat.zero_add]; exact hR.cell hj, .sc _ rfl⟩
          have := RT.ofList hRL (cap := ys.length + 1) (by rw [hl]; exact Nat.le_refl _)
          rw [hl] at this
          exact this
        have hl : ((comTab xs ys).map rowT).length = xs.length + 1 := by simp [comTab]
        have hRL : RList w' (fun b => if b = n then some (xs.length + 1) else if n < b ∧ b ≤ n + (xs.length + 1) then some (ys.length + 1) else g.F b) 1 ((comTab xs ys).map rowT) n 0 (xs.length + 1) := by
          refine ⟨if_pos rfl, by simp [comTab], by decide, fun y hy => ?_, fun k x hx => ?_⟩
          · obtain ⟨z, _, rfl⟩ := List.mem_map.1 hy; rfl
          · rw [flat_one _ (fun y hy => by obtain ⟨z, _, rfl⟩ := List.mem_map.1 hy; rfl)] at hx
            have hk : k < xs.length + 1 := by rw [← hl]; exact (List.getElem?_eq_some_iff.1 hx).1
            rw [List.getElem?_map, comTab, List.getElem?_map, List.getElem?_range hk] at hx
            simp only [Option.map_some, Option.some.injEq] at hx
            subst hx
            have hT := hM.top.cell (i := k) hk
            rw [hn] at hT
            refine ⟨_, by rw [Nat.zero_add]; exact hT, ?_⟩
            rw [show topv n (ys.length + 1) (xs.length + 1) k = .slice (some ⟨n + 1 + k, 0, none⟩) (ys.length + 1) (ys.length + 1) by simp [topv, hk]]
            exact hrow k hk
        have := RT.ofList hRL (cap := xs.length + 1) (by rw [hl]; exact Nat.le_refl _)
        rw [hl] at this
        exact this
  · cases h
end Go.Proofs.YtimkclpogbfciaaDoor.W
