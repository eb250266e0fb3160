/- diff.longest, walked: it hands back the table of chapter 7. No conditions but the lists' lengths. -/
import Derived.Test.YtimkclpogbfciaaDoorTab2
import Derived.Deep.Cut
import Derived.CellFam
import Derived.BigGuard
namespace Go.Proofs.YtimkclpogbfciaaDoor.W
open Go Go.RowKit
set_option linter.unusedVariables false
set_option linter.unusedSimpArgs false

set_option maxHeartbeats 6400000 in
set_option maxRecDepth 1000000 in
theorem longest_walk (ga gb : Option Addr) (ba oa bb ob A B G H Ca Cb : Nat) (X Y : Nat → ByteArray) (w : World)
    (hga : 0 < A → ga = some ⟨ba, oa, none⟩) (hgb : 0 < B → gb = some ⟨bb, ob, none⟩)
    (hAb : A ≤ 1099511627776) (hBb : B ≤ 1099511627776) (hG : (A : Int) + 1 = (G : Int)) (hH : (B : Int) + 1 = (H : Int))
    (hX : ∀ i, i < A → w.cell? ⟨ba, oa + i, none⟩ = some (.string (X i)))
    (hY : ∀ i, i < B → w.cell? ⟨bb, ob + i, none⟩ = some (.string (Y i))) :
    Calls Tryd.prog 28 #[.slice ga A Ca, .slice gb B Cb] w fun e w' => e = .returned (.slice (some ⟨w.heap.size, 0, none⟩) G G) ∧ Mat w w' G H G (tabL X Y A B) := by
  have hGA : G = A + 1 := by omega
  have hHB : H = B + 1 := by omega
  have AG : Aside (G = A + 1 ∧ H = B + 1) := ⟨hGA, hHB⟩
  have hmk1 := run_make_row' (P := Tryd.prog) 57 30 (.slice none 0 0) 24 Tryd.underlying57 tabRow rfl .i64 .i64 G (by omega) (by omega)
  clear hGA hHB
  go_enter Tryd.func28, Tryd.ntmps28
  go_wp2
  clear hmk1
  -- the first loop: the rows are made
  go_loopg [15] G (fun g i wr => ∃ r : Nat, r ≤ G ∧ g = G - r ∧ i = .int .i64 r ∧ Mat w wr G H r (fun _ _ => 0))
  case atStart => exact ⟨0, Nat.zero_le _, rfl, rfl, mat_start w G H _⟩
  case round =>
    obtain ⟨r, hr, rfl, rfl, hO⟩ := hrel
    by_cases hrG : r < G
    · have hrz : (r : Int) < (G : Int) := by omega
      have hsize := hO.size
      have hmk2 := run_make_row' (P := Tryd.prog) 30 3 (.int .i64 0) 8 Tryd.underlying30 tabInt rfl .i64 .i64 H (by omega) (by omega)
      have hst1 : ∀ o, (wr.alloc o).cell? ⟨w.heap.size, r, none⟩ = some (topv w.heap.size H r r) := fun o => (hO.top.alloc o).cell hrG
      have hst2 : ∀ o, (wr.alloc o).frozen? ⟨w.heap.size, r, none⟩ = false := fun o => (hO.top.alloc o).frozen r
      go_wp2
      have hI0 := mat_row hO (fun _ => rfl)
      clear hmk2 hst1 hst2 hsize
      go_roundg (G - (r + 1))
      case measure => go_light; omega
      case rel => go_light; exact ⟨r + 1, by omega, rfl, by simp, hI0⟩
    · have hrz : ¬ ((r : Int) < (G : Int)) := by omega
      obtain rfl : r = G := by omega
      have hM0 : Mat w wr r H r (fillZ X Y A B A (B + 1)) := hO.congr (fun i j hi hj => by
        obtain ⟨e1, e2⟩ := AG.out
        unfold fillZ
        split
        · rename_i h
          exact (tabL_ends X Y A B i j (by omega)).symm
        · rfl)
      clear hO
      go_wp2
      -- the second loop: the rows, from the last one on
      go_loopg [7] A (fun g i w2 => ∃ p : Nat, p ≤ A ∧ g = p ∧ i = .int .i64 ((p : Int) - 1) ∧ Mat w w2 r H r (fillZ X Y A B p (B + 1)))
      case atStart => exact ⟨A, Nat.le_refl _, rfl, rfl, hM0⟩
      case round =>
        obtain ⟨p, hp, hgp, hi7, hM⟩ := hrel
        subst hgp; subst hi7
        clear hM0
        cases gk with
        | zero =>
          go_wp2
          go_ret
          refine ⟨rfl, hM.congr (fun i j hi hj => ?_)⟩
          unfold fillZ
          rw [if_pos (.inl (Nat.zero_le _))]
        | succ p =>
          have hp0 : ((p + 1 : Nat) : Int) - 1 = (p : Int) := by omega
          rw [hp0]
          have hM1 : Mat w wr r H r (fillZ X Y A B (p + 1) B) := hM.congr (fun i j hi hj => by
            unfold fillZ
            by_cases e : p + 1 ≤ i
            · rw [if_pos (.inl e), if_pos (.inl e)]
            · obtain ⟨e1, e2⟩ := AG.out
              rw [if_neg (by omega)]
              split
              · rename_i h
                exact (tabL_ends X Y A B i j (by omega)).symm
              · rfl)
          clear hM hp0
          go_wp2
          -- the third loop: the places of a row, from the last one on
          go_loopg [8] B (fun g i w2 => ∃ q : Nat, q ≤ B ∧ g = q ∧ i = .int .i64 ((q : Int) - 1) ∧ Mat w w2 r H r (fillZ X Y A B (p + 1) q))
          case atStart => exact ⟨B, Nat.le_refl _, rfl, rfl, hM1⟩
          case round =>
            obtain ⟨q, hq, hgq, hi8, hM⟩ := hrel
            subst hgq; subst hi8
            clear hM1
            cases gk with
            | zero =>
              have hM2 : Mat w wr r H r (fillZ X Y A B p (B + 1)) := hM.congr (fun i j hi hj => by
                obtain ⟨e1, e2⟩ := AG.out
                unfold fillZ
                by_cases e : p ≤ i
                · rw [if_pos (by omega), if_pos (.inl e)]
                · rw [if_neg (by omega), if_neg (by omega)])
              clear hM
              go_wp2
              go_roundg p
              case measure => go_light; omega
              case rel => go_light; exact ⟨p, by omega, rfl, by simp, hM2⟩
            | succ q =>
              have hq0 : ((q + 1 : Nat) : Int) - 1 = (q : Int) := by omega
              rw [hq0]
              clear hq0
              have ega : ga = some ⟨ba, oa, none⟩ := hga (by omega)
              have egb : gb = some ⟨bb, ob, none⟩ := hgb (by omega)
              have hpr : p + 1 < r := by have := AG.out.1; omega
              have hqH : q + 1 < H := by have := AG.out.2; omega
              obtain ⟨v1, hv1⟩ : ∃ v, v = tabL X Y A B (p + 1) q := ⟨_, rfl⟩
              obtain ⟨v2, hv2⟩ : ∃ v, v = tabL X Y A B p (q + 1) := ⟨_, rfl⟩
              obtain ⟨v3, hv3⟩ : ∃ v, v = tabL X Y A B (p + 1) (q + 1) := ⟨_, rfl⟩
              have hb3 : 0 ≤ v3 ∧ v3 ≤ (A : Int) := hv3 ▸ tabL_bound X Y A B (p + 1) (q + 1)
              have hb30 := hb3.1
              have hb31 := hb3.2
              clear hb3
              have t1 : wr.cell? ⟨w.heap.size, p, none⟩ = some (.slice (some ⟨w.heap.size + 1 + p, 0, none⟩) H H) := by have := hM.top.cell (i := p) (by omega); rw [this]; simp [topv]; omega
              have t2 : wr.cell? ⟨w.heap.size, p + 1, none⟩ = some (.slice (some ⟨w.heap.size + 1 + (p + 1), 0, none⟩) H H) := by have := hM.top.cell (i := p + 1) (by omega); rw [this]; simp [topv]; omega
              have t3 : wr.cell? ⟨w.heap.size + 1 + (p + 1), q, none⟩ = some (.int .i64 v1) := by
                have := (hM.done (p + 1) hpr).cell (i := q) (by omega); rw [this, hv1]; simp [fillZ]
              have t4 : wr.cell? ⟨w.heap.size + 1 + p, q + 1, none⟩ = some (.int .i64 v2) := by
                have := (hM.done p (by omega)).cell (i := q + 1) (by omega); rw [this, hv2]; simp [fillZ]
              have t5 : wr.frozen? ⟨w.heap.size + 1 + p, q, none⟩ = false := (hM.done p (by omega)).frozen q
              have t6 : wr.cell? ⟨w.heap.size + 1 + p, q, none⟩ = some (.int .i64 0) := by
                have := (hM.done p (by omega)).cell (i := q) (by omega); rw [this]; simp [fillZ]; omega
              have t7 : wr.cell? ⟨w.heap.size + 1 + (p + 1), q + 1, none⟩ = some (.int .i64 v3) := by
                have := (hM.done (p + 1) hpr).cell (i := q + 1) (by omega); rw [this, hv3]; simp [fillZ]
              have HV : Aside (v1 = tabL X Y A B (p + 1) q ∧ v2 = tabL X Y A B p (q + 1) ∧ v3 = tabL X Y A B (p + 1) (q + 1)) := ⟨hv1, hv2, hv3⟩
              clear hv1 hv2 hv3
              have hprz : (p : Int) + 1 < (r : Int) := by omega
              have hqHz : (q : Int) + 1 < (H : Int) := by omega
              subst ega
              subst egb
              go_wp2_with fail
              go_region
              generalize hm : (if v1 < v2 then v2 else v1) = m
              have hMm := (mat_set hM p q m (by omega)).drew
              clear hM t1 t2 t3 t4 t5 t6 t7
              generalize (wr.setCell ⟨w.heap.size + 1 + p, q, none⟩ (.int .i64 m)).drew = W1 at hMm ⊢
              have hbaw : ba < w.heap.size := World.block_lt_of_cell? _ _ (hX p (by omega))
              have hbbw : bb < w.heap.size := World.block_lt_of_cell? _ _ (hY q (by omega))
              have s1 : W1.cell? ⟨ba, oa + p, none⟩ = some (.string (X p)) := by rw [hMm.since.cell (a := ⟨ba, oa + p, none⟩) hbaw]; exact hX p (by omega)
              have s2 : W1.cell? ⟨bb, ob + q, none⟩ = some (.string (Y q)) := by rw [hMm.since.cell (a := ⟨bb, ob + q, none⟩) hbbw]; exact hY q (by omega)
              have HM : Aside (m = max v1 v2) := by
                show m = max v1 v2
                rw [← hm]
                split <;> omega
              clear hm
              have hpA : (p : Int) < (A : Int) := by omega
              have hqB : (q : Int) < (B : Int) := by omega
              go_wp2_with fail
              cases hxy : ((X p).toList == (Y q).toList) with
              | true =>
                have q1 : W1.cell? ⟨w.heap.size, p, none⟩ = some (.slice (some ⟨w.heap.size + 1 + p, 0, none⟩) H H) := by have := hMm.top.cell (i := p) (by omega); rw [this]; simp [topv]; omega
                have q2 : W1.cell? ⟨w.heap.size, p + 1, none⟩ = some (.slice (some ⟨w.heap.size + 1 + (p + 1), 0, none⟩) H H) := by have := hMm.top.cell (i := p + 1) (by omega); rw [this]; simp [topv]; omega
                have q5 : W1.frozen? ⟨w.heap.size + 1 + p, q, none⟩ = false := (hMm.done p (by omega)).frozen q
                have q6 : W1.cell? ⟨w.heap.size + 1 + p, q, none⟩ = some (.int .i64 m) := by
                  have := (hMm.done p (by omega)).cell (i := q) (by omega); rw [this]; simp [setZ]
                have q7 : W1.cell? ⟨w.heap.size + 1 + (p + 1), q + 1, none⟩ = some (.int .i64 v3) := by
                  have := (hMm.done (p + 1) hpr).cell (i := q + 1) (by omega); rw [this, HV.out.2.2]; simp [setZ, fillZ]
                have hMf : Mat w (W1.drew.setCell ⟨w.heap.size + 1 + p, q, none⟩ (.int .i64 (1 + v3))).drew r H r (fillZ X Y A B (p + 1) q) :=
                  ((mat_set hMm.drew p q (1 + v3) (by omega)).drew).congr (fun i j hi hj => by
                    obtain ⟨-, -, e3⟩ := HV.out
                    have es := tabL_step X Y A B p q (by omega) (by omega)
                    rw [if_pos hxy, ← e3] at es
                    unfold fillZ setZ
                    show (if i = p ∧ j = q then _ else (if i = p ∧ j = q then m else (if p + 1 ≤ i ∨ i + 1 = p + 1 ∧ q + 1 ≤ j then tabL X Y A B i j else 0))) = _
                    by_cases e : i = p ∧ j = q
                    · obtain ⟨rfl, rfl⟩ := e
                      rw [if_pos ⟨rfl, rfl⟩, if_pos (.inr ⟨rfl, Nat.le_refl _⟩), es]
                    · rw [if_neg e, if_neg e]
                      by_cases e2 : p + 1 ≤ i ∨ i + 1 = p + 1 ∧ q + 1 ≤ j
                      · rw [if_pos e2, if_pos (by omega)]
                      · rw [if_neg e2, if_neg (by omega)])
                clear HV HM hMm
                go_region
                go_wp2_with fail
                go_region
                go_wp2
                go_roundg q
                case measure => go_light; omega
                case rel => go_light; exact ⟨q, by omega, rfl, by simp, hMf⟩
              | false =>
                have hMf : Mat w W1.drew r H r (fillZ X Y A B (p + 1) q) :=
                  hMm.drew.congr (fun i j hi hj => by
                    obtain ⟨e1, e2, -⟩ := HV.out
                    have es := tabL_step X Y A B p q (by omega) (by omega)
                    rw [if_neg (by rw [hxy]; decide), ← e1, ← e2, ← HM.out] at es
                    unfold fillZ setZ
                    show (if i = p ∧ j = q then _ else (if p + 1 ≤ i ∨ i + 1 = p + 1 ∧ q + 1 ≤ j then tabL X Y A B i j else 0)) = _
                    by_cases e : i = p ∧ j = q
                    · obtain ⟨rfl, rfl⟩ := e
                      rw [if_pos ⟨rfl, rfl⟩, if_pos (.inr ⟨rfl, Nat.le_refl _⟩), es]
                    · rw [if_neg e]
                      by_cases e2 : p + 1 ≤ i ∨ i + 1 = p + 1 ∧ q + 1 ≤ j
                      · rw [if_pos e2, if_pos (by omega)]
                      · rw [if_neg e2, if_neg (by omega)])
                clear HV HM hMm
                go_region
                go_wp2
                go_roundg q
                case measure => go_light; omega
                case rel => go_light; exact ⟨q, by omega, rfl, by simp, hMf⟩
end Go.Proofs.YtimkclpogbfciaaDoor.W
