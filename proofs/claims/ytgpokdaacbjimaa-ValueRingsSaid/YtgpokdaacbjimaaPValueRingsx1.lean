-- PRINTED BY print.sh 35421559b90ae4d0a3588c463048766b98c2df88dd9212a6774a882060cdf62d: not written by this session
import Derived.Test.YtgpokdaacbjimaaPValueRingsx0
namespace Go.Proofs.Ytgpokdaacbjimaa.PValueRings
open Go.RowKit Go.Proofs.YtgpokdaacbjimaaW.PrintWords Go.Proofs.YtgpokdaacbjimaaW.PrintLast Go.Proofs.YtgpokdaacbjimaaW.PrintMore
attribute [local go_sem] max2_int min2_int max_two min_two max_three min_three max_four min_four   -- for this text's walks alone
set_option linter.unusedVariables false
set_option linter.unusedSimpArgs false

/-! ### value_truth: function 15 -/
def value_truth.f (a0 : Bool) : Option (Int) := if a0 = true then (some 1) else (some 0)
set_option maxHeartbeats 8000000 in
set_option maxRecDepth 100000 in
theorem value_truth.calls (a0 : Bool) (r : Int) (w : World) (h : value_truth.f a0 = some r) :
    Calls Try.prog 15 #[.bool a0] w fun e w' => e = .returned (.int .i64 r) ∧ Drawn0 w w' := by
  have H : (if a0 = true then (some 1) else (some 0)) = some r := h
  clear h
  by_cases c2 : a0 = true
  · subst c2
    have H1 : (some 1) = some r := by rw [if_pos rfl] at H; exact H
    clear H
    have H := H1
    clear H1
    obtain rfl := Option.some.inj H
    go_enter Try.func15, Try.ntmps15
    go_wp2
    go_ret
    exact ⟨by first | rfl | (simp; done) | (simp [*]; done), by repeat (first | exact Drawn0.refl _ | apply Drawn0.step)⟩
  · replace c2 := Bool.eq_false_iff.mpr c2
    subst c2
    have H1 : (some 0) = some r := by rw [if_neg (show ¬ (false = true) by decide)] at H; exact H
    clear H
    have H := H1
    clear H1
    obtain rfl := Option.some.inj H
    go_enter Try.func15, Try.ntmps15
    go_wp2
    go_ret
    exact ⟨by first | rfl | (simp; done) | (simp [*]; done), by repeat (first | exact Drawn0.refl _ | apply Drawn0.step)⟩

/-! ### value_Op: function 7 -/
def value_Op.f (a0 : Int) (a1 : Int) (a2 : Int) : Option (Int × Bool) := if a0 = 3 then (some (wrap64 (-a1), true)) else (if a0 = 4 then (some (wrap64 (a1 + a2), true)) else (if a0 = 5 then (some (wrap64 (a1 - a2), true)) else (if a0 = 6 then (some (wrap64 (a1 * a2), true)) else (if a0 = 7 then (if a2 = 0 then (some (0, false)) else (some (wrap64 (Int.tdiv a1 a2), true))) else (if a0 = 8 then (if a2 = 0 then (some (0, false)) else (some (Int.tmod a1 a2, true))) else (if a0 = 9 then ((value_truth.f (decide (a1 < a2))).bind fun t101 => (some (t101, true))) else (if a0 = 10 then ((value_truth.f (a1 == a2)).bind fun t102 => (some (t102, true))) else (some (0, false)))))))))
set_option maxHeartbeats 8000000 in
set_option maxRecDepth 100000 in
theorem value_Op.calls (a0 : Int) (a1 : Int) (a2 : Int) (r1 : Int) (r2 : Bool) (w : World) (h : value_Op.f a0 a1 a2 = some (r1, r2)) :
    Calls Try.prog 7 #[.int .i64 a0, .int .i64 a1, .int .i64 a2] w fun e w' => e = .returned (.tuple #[.int .i64 r1, .bool r2]) ∧ Drawn0 w w' := by
  have H : (if a0 = 3 then (some (wrap64 (-a1), true)) else (if a0 = 4 then (some (wrap64 (a1 + a2), true)) else (if a0 = 5 then (some (wrap64 (a1 - a2), true)) else (if a0 = 6 then (some (wrap64 (a1 * a2), true)) else (if a0 = 7 then (if a2 = 0 then (some (0, false)) else (some (wrap64 (Int.tdiv a1 a2), true))) else (if a0 = 8 then (if a2 = 0 then (some (0, false)) else (some (Int.tmod a1 a2, true))) else (if a0 = 9 then ((value_truth.f (decide (a1 < a2))).bind fun t101 => (some (t101, true))) else (if a0 = 10 then ((value_truth.f (a1 == a2)).bind fun t102 => (some (t102, true))) else (some (0, false)))))))))) = some (r1, r2) := h
  clear h
  by_cases c4 : a0 = 3
  · rw [if_pos c4] at H
    have c4b0 : (a0 == 3) = true := beq_iff_eq.mpr c4
    have c4b1 : (a0 != 3) = false := bne_eq_false_iff_eq.mpr c4
    clear c4
    simp only [Option.some.injEq, Prod.mk.injEq] at H
    obtain ⟨rfl, rfl⟩ := H
    go_enter Try.func7, Try.ntmps7
    go_wp2
    go_ret2
    exact ⟨by first | rfl | (simp; done) | (simp [*]; done), by repeat (first | exact Drawn0.refl _ | apply Drawn0.step)⟩
  · rw [if_neg c4] at H
    have c4b0 : (a0 == 3) = false := beq_eq_false_iff_ne.mpr c4
    have c4b1 : (a0 != 3) = true := bne_iff_ne.mpr c4
    by_cases c5 : a0 = 4
    · rw [if_pos c5] at H
      have c5b0 : (a0 == 4) = true := beq_iff_eq.mpr c5
      have c5b1 : (a0 != 4) = false := bne_eq_false_iff_eq.mpr c5
      clear c5
      simp only [Option.some.injEq, Prod.mk.injEq] at H
      obtain ⟨rfl, rfl⟩ := H
      go_enter Try.func7, Try.ntmps7
      go_wp2
      go_ret2
      exact ⟨by first | rfl | (simp; done) | (simp [*]; done), by repeat (first | exact Drawn0.refl _ | apply Drawn0.step)⟩
    · rw [if_neg c5] at H
      have c5b0 : (a0 == 4) = false := beq_eq_false_iff_ne.mpr c5
      have c5b1 : (a0 != 4) = true := bne_iff_ne.mpr c5
      by_cases c6 : a0 = 5
      · rw [if_pos c6] at H
        have c6b0 : (a0 == 5) = true := beq_iff_eq.mpr c6
        have c6b1 : (a0 != 5) = false := bne_eq_false_iff_eq.mpr c6
        clear c6
        simp only [Option.some.injEq, Prod.mk.injEq] at H
        obtain ⟨rfl, rfl⟩ := H
        go_enter Try.func7, Try.ntmps7
        go_wp2
        go_ret2
        exact ⟨by first | rfl | (simp; done) | (simp [*]; done), by repeat (first | exact Drawn0.refl _ | apply Drawn0.step)⟩
      · rw [if_neg c6] at H
        have c6b0 : (a0 == 5) = false := beq_eq_false_iff_ne.mpr c6
        have c6b1 : (a0 != 5) = true := bne_iff_ne.mpr c6
        by_cases c7 : a0 = 6
        · rw [if_pos c7] at H
          have c7b0 : (a0 == 6) = true := beq_iff_eq.mpr c7
          have c7b1 : (a0 != 6) = false := bne_eq_false_iff_eq.mpr c7
          clear c7
          simp only [Option.some.injEq, Prod.mk.injEq] at H
          obtain ⟨rfl, rfl⟩ := H
          go_enter Try.func7, Try.ntmps7
          go_wp2
          go_ret2
          exact ⟨by first | rfl | (simp; done) | (simp [*]; done), by repeat (first | exact Drawn0.refl _ | apply Drawn0.step)⟩
        · rw [if_neg c7] at H
          have c7b0 : (a0 == 6) = false := beq_eq_false_iff_ne.mpr c7
          have c7b1 : (a0 != 6) = true := bne_iff_ne.mpr c7
          by_cases c8 : a0 = 7
          · rw [if_pos c8] at H
            have c8b0 : (a0 == 7) = true := beq_iff_eq.mpr c8
            have c8b1 : (a0 != 7) = false := bne_eq_false_iff_eq.mpr c8
            clear c8
            by_cases c9 : a2 = 0
            · rw [if_pos c9] at H
              have c9b0 : (a2 == 0) = true := beq_iff_eq.mpr c9
              have c9b1 : (a2 != 0) = false := bne_eq_false_iff_eq.mpr c9
              clear c9
              simp only [Option.some.injEq, Prod.mk.injEq] at H
              obtain ⟨rfl, rfl⟩ := H
              go_enter Try.func7, Try.ntmps7
              go_wp2
              go_ret2
              exact ⟨by first | rfl | (simp; done) | (simp [*]; done), by repeat (first | exact Drawn0.refl _ | apply Drawn0.step)⟩
            · rw [if_neg c9] at H
              have c9b0 : (a2 == 0) = false := beq_eq_false_iff_ne.mpr c9
              have c9b1 : (a2 != 0) = true := bne_iff_ne.mpr c9
              simp only [Option.some.injEq, Prod.mk.injEq] at H
              obtain ⟨rfl, rfl⟩ := H
              go_enter Try.func7, Try.ntmps7
              go_wp2
              go_ret2
              exact ⟨by first | rfl | (simp; done) | (simp [*]; done), by repeat (first | exact Drawn0.refl _ | apply Drawn0.step)⟩
          · rw [if_neg c8] at H
            have c8b0 : (a0 == 7) = false := beq_eq_false_iff_ne.mpr c8
            have c8b1 : (a0 != 7) = true := bne_iff_ne.mpr c8
            by_cases c10 : a0 = 8
            · rw [if_pos c10] at H
              have c10b0 : (a0 == 8) = true := beq_iff_eq.mpr c10
              have c10b1 : (a0 != 8) = false := bne_eq_false_iff_eq.mpr c10
              clear c10
              by_cases c11 : a2 = 0
              · rw [if_pos c11] at H
                have c11b0 : (a2 == 0) = true := beq_iff_eq.mpr c11
                have c11b1 : (a2 != 0) = false := bne_eq_false_iff_eq.mpr c11
                clear c11
                simp only [Option.some.injEq, Prod.mk.injEq] at H
                obtain ⟨rfl, rfl⟩ := H
                go_enter Try.func7, Try.ntmps7
                go_wp2
                go_ret2
                exact ⟨by first | rfl | (simp; done) | (simp [*]; done), by repeat (first | exact Drawn0.refl _ | apply Drawn0.step)⟩
              · rw [if_neg c11] at H
                have c11b0 : (a2 == 0) = false := beq_eq_false_iff_ne.mpr c11
                have c11b1 : (a2 != 0) = true := bne_iff_ne.mpr c11
                simp only [Option.some.injEq, Prod.mk.injEq] at H
                obtain ⟨rfl, rfl⟩ := H
                go_enter Try.func7, Try.ntmps7
                go_wp2
                go_ret2
                exact ⟨by first | rfl | (simp; done) | (simp [*]; done), by repeat (first | exact Drawn0.refl _ | apply Drawn0.step)⟩
            · rw [if_neg c10] at H
              have c10b0 : (a0 == 8) = false := beq_eq_false_iff_ne.mpr c10
              have c10b1 : (a0 != 8) = true := bne_iff_ne.mpr c10
              by_cases c12 : a0 = 9
              · rw [if_pos c12] at H
                have c12b0 : (a0 == 9) = true := beq_iff_eq.mpr c12
                have c12b1 : (a0 != 9) = false := bne_eq_false_iff_eq.mpr c12
                clear c12
                replace H := Option.bind_eq_some_iff.mp H
                obtain ⟨t101, A130, H⟩ := H
                replace H : (some (t101, true)) = some (r1, r2) := H
                have A13 := Aside0.mk A130
                clear A130
                simp only [Option.some.injEq, Prod.mk.injEq] at H
                obtain ⟨rfl, rfl⟩ := H
                go_enter Try.func7, Try.ntmps7
                go_wp2_with (first | ((with_reducible refine gate_callee (f := 15) rfl ?_); refine goesL_ (some 47) rfl rfl Try.func15 (by kernel_rfl) rfl #[.bool (decide (a1 < a2))] rfl (by (try simp only [List.map_toArray, List.map_cons, List.map_nil]); first | done | rfl | (simp only [List.length_drop, List.length_take]; rfl)) ?_; (with_reducible refine (value_truth.calls (decide (a1 < a2)) t101 _ A13.out).mono ?_); rintro e w' ⟨rfl, ⟨nd, rfl⟩⟩; refine ⟨_, rfl, ?_⟩))
                go_ret2
                exact ⟨by first | rfl | (simp; done) | (simp [*]; done), by repeat (first | exact Drawn0.refl _ | apply Drawn0.step)⟩
              · rw [if_neg c12] at H
                have c12b0 : (a0 == 9) = false := beq_eq_false_iff_ne.mpr c12
                have c12b1 : (a0 != 9) = true := bne_iff_ne.mpr c12
                by_cases c14 : a0 = 10
                · rw [if_pos c14] at H
                  have c14b0 : (a0 == 10) = true := beq_iff_eq.mpr c14
                  have c14b1 : (a0 != 10) = false := bne_eq_false_iff_eq.mpr c14
                  clear c14
                  replace H := Option.bind_eq_some_iff.mp H
                  obtain ⟨t102, A150, H⟩ := H
                  replace H : (some (t102, true)) = some (r1, r2) := H
                  have A15 := Aside0.mk A150
                  clear A150
                  simp only [Option.some.injEq, Prod.mk.injEq] at H
                  obtain ⟨rfl, rfl⟩ := H
                  go_enter Try.func7, Try.ntmps7
                  go_wp2_with (first | ((with_reducible refine gate_callee (f := 15) rfl ?_); refine goesL_ (some 53) rfl rfl Try.func15 (by kernel_rfl) rfl #[.bool (a1 == a2)] rfl (by (try simp only [List.map_toArray, List.map_cons, List.map_nil]); first | done | rfl | (simp only [List.length_drop, List.length_take]; rfl)) ?_; (with_reducible refine (value_truth.calls (a1 == a2) t102 _ A15.out).mono ?_); rintro e w' ⟨rfl, ⟨nd, rfl⟩⟩; refine ⟨_, rfl, ?_⟩))
                  go_ret2
                  exact ⟨by first | rfl | (simp; done) | (simp [*]; done), by repeat (first | exact Drawn0.refl _ | apply Drawn0.step)⟩
                · rw [if_neg c14] at H
                  have c14b0 : (a0 == 10) = false := beq_eq_false_iff_ne.mpr c14
                  have c14b1 : (a0 != 10) = true := bne_iff_ne.mpr c14
                  simp only [Option.some.injEq, Prod.mk.injEq] at H
                  obtain ⟨rfl, rfl⟩ := H
                  go_enter Try.func7, Try.ntmps7
                  go_wp2
                  go_ret2
                  exact ⟨by first | rfl | (simp; done) | (simp [*]; done), by repeat (first | exact Drawn0.refl _ | apply Drawn0.step)⟩

/-! ### value_Count: function 9 -/
def value_Count.f (a0 : Int) : Option (Int) := if a0 = 3 then (some 1) else (if a0 ≥ 4 then (if a0 ≤ 10 then (some 2) else (some 0)) else (some 0))
set_option maxHeartbeats 8000000 in
set_option maxRecDepth 100000 in
theorem value_Count.calls (a0 : Int) (r : Int) (w : World) (h : value_Count.f a0 = some r) :
    Calls Try.prog 9 #[.int .i64 a0] w fun e w' => e = .returned (.int .i64 r) ∧ Drawn0 w w' := by
  have H : (if a0 = 3 then (some 1) else (if a0 ≥ 4 then (if a0 ≤ 10 then (some 2) else (some 0)) else (some 0))) = some r := h
  clear h
  by_cases c2 : a0 = 3
  · rw [if_pos c2] at H
    have c2b0 : (a0 == 3) = true := beq_iff_eq.mpr c2
    have c2b1 : (a0 != 3) = false := bne_eq_false_iff_eq.mpr c2
    clear c2
    obtain rfl := Option.some.inj H
    go_enter Try.func9, Try.ntmps9
    go_wp2
    go_ret
    exact ⟨by first | rfl | (simp; done) | (simp [*]; done), by repeat (first | exact Drawn0.refl _ | apply Drawn0.step)⟩
  · rw [if_neg c2] at H
    have c2b0 : (a0 == 3) = false := beq_eq_false_iff_ne.mpr c2
    have c2b1 : (a0 != 3) = true := bne_iff_ne.mpr c2
    by_cases c3 : a0 ≥ 4
    · rw [if_pos c3] at H
      have c3b0 : decide (4 ≤ a0) = true := decide_eq_true c3
      clear c3
      by_cases c4 : a0 ≤ 10
      · rw [if_pos c4] at H
        have c4b0 : decide (a0 ≤ 10) = true := decide_eq_true c4
        clear c4
        obtain rfl := Option.some.inj H
        go_enter Try.func9, Try.ntmps9
        go_wp2
        go_ret
        exact ⟨by first | rfl | (simp; done) | (simp [*]; done), by repeat (first | exact Drawn0.refl _ | apply Drawn0.step)⟩
      · rw [if_neg c4] at H
        have c4b0 : decide (a0 ≤ 10) = false := decide_eq_false c4
        clear c4
        obtain rfl := Option.some.inj H
        go_enter Try.func9, Try.ntmps9
        go_wp2
        go_ret
        exact ⟨by first | rfl | (simp; done) | (simp [*]; done), by repeat (first | exact Drawn0.refl _ | apply Drawn0.step)⟩
    · rw [if_neg c3] at H
      have c3b0 : decide (4 ≤ a0) = false := decide_eq_false c3
      clear c3
      obtain rfl := Option.some.inj H
      go_enter Try.func9, Try.ntmps9
      go_wp2
      go_ret
      exact ⟨by first | rfl | (simp; done) | (simp [*]; done), by repeat (first | exact Drawn0.refl _ | apply Drawn0.step)⟩

/-! ### suturelaw12_known: function 8 -/
def suturelaw12_known.f  : Option (Bool) := (value_Op.f 8 (-7) 3).bind fun bt103 => (if bt103.2 = true then (if bt103.1 = (-1) then ((value_Count.f 3).bind fun t105 => (some (t105 == 1))) else (some false)) else (some false))
set_option maxHeartbeats 8000000 in
set_option maxRecDepth 100000 in
theorem suturelaw12_known.calls  (r : Bool) (w : World) (h : suturelaw12_known.f  = some r) :
    Calls Try.prog 8 #[] w fun e w' => e = .returned (.bool r) ∧ Drawn0 w w' := by
  have H : ((value_Op.f 8 (-7) 3).bind fun bt103 => (if bt103.2 = true then (if bt103.1 = (-1) then ((value_Count.f 3).bind fun t105 => (some (t105 == 1))) else (some false)) else (some false))) = some r := h
  clear h
  replace H := Option.bind_eq_some_iff.mp H
  obtain ⟨⟨t103, t104⟩, A10, H⟩ := H
  replace H : (if t104 = true then (if t103 = (-1) then ((value_Count.f 3).bind fun t105 => (some (t105 == 1))) else (some false)) else (some false)) = some r := H
  have A1 := Aside0.mk A10
  clear A10
  by_cases c2 : t104 = true
  · subst c2
    have H1 : (if t103 = (-1) then ((value_Count.f 3).bind fun t105 => (some (t105 == 1))) else (some false)) = some r := by rw [if_pos rfl] at H; exact H
    clear H
    have H := H1
    clear H1
    by_cases c3 : t103 = (-1)
    · rw [if_pos c3] at H
      have c3b0 : (t103 == (-1)) = true := beq_iff_eq.mpr c3
      have c3b1 : (t103 != (-1)) = false := bne_eq_false_iff_eq.mpr c3
      clear c3
      replace H := Option.bind_eq_some_iff.mp H
      obtain ⟨t105, A40, H⟩ := H
      replace H : (some (t105 == 1)) = some r := H
      have A4 := Aside0.mk A40
      clear A40
      obtain rfl := Option.some.inj H
      go_enter Try.func8, Try.ntmps8
      go_wp2_with (first | ((with_reducible refine gate_callee (f := 7) rfl ?_); refine goesL_ (some 4) rfl rfl Try.func7 (by kernel_rfl) rfl #[.int .i64 8, .int .i64 (-7), .int .i64 3] rfl (by (try simp only [List.map_toArray, List.map_cons, List.map_nil]); first | done | rfl | (simp only [List.length_drop, List.length_take]; rfl)) ?_; (with_reducible refine (value_Op.calls 8 (-7) 3 t103 true _ A1.out).mono ?_); rintro e w' ⟨rfl, ⟨nd, rfl⟩⟩; refine ⟨_, rfl, ?_⟩) | (go_at_call 9; (with_reducible refine (value_Count.calls 3 t105 _ A4.out).mono ?_); rintro e w' ⟨rfl, ⟨nd, rfl⟩⟩))
      go_ret
      exact ⟨by first | rfl | (simp; done) | (simp [*]; done), by repeat (first | exact Drawn0.refl _ | apply Drawn0.step)⟩
    · rw [if_neg c3] at H
      have c3b0 : (t103 == (-1)) = false := beq_eq_false_iff_ne.mpr c3
      have c3b1 : (t103 != (-1)) = true := bne_iff_ne.mpr c3
      obtain rfl := Option.some.inj H
      go_enter Try.func8, Try.ntmps8
      go_wp2_with (first | ((with_reducible refine gate_callee (f := 7) rfl ?_); refine goesL_ (some 4) rfl rfl Try.func7 (by kernel_rfl) rfl #[.int .i64 8, .int .i64 (-7), .int .i64 3] rfl (by (try simp only [List.map_toArray, List.map_cons, List.map_nil]); first | done | rfl | (simp only [List.length_drop, List.length_take]; rfl)) ?_; (with_reducible refine (value_Op.calls 8 (-7) 3 t103 true _ A1.out).mono ?_); rintro e w' ⟨rfl, ⟨nd, rfl⟩⟩; refine ⟨_, rfl, ?_⟩))
      go_ret
      exact ⟨by first | rfl | (simp; done) | (simp [*]; done), by repeat (first | exact Drawn0.refl _ | apply Drawn0.step)⟩
  · replace c2 := Bool.eq_false_iff.mpr c2
    subst c2
    have H1 : (some false) = some r := by rw [if_neg (show ¬ (false = true) by decide)] at H; exact H
    clear H
    have H := H1
    clear H1
    obtain rfl := Option.some.inj H
    go_enter Try.func8, Try.ntmps8
    go_wp2_with (first | ((with_reducible refine gate_callee (f := 7) rfl ?_); refine goesL_ (some 4) rfl rfl Try.func7 (by kernel_rfl) rfl #[.int .i64 8, .int .i64 (-7), .int .i64 3] rfl (by (try simp only [List.map_toArray, List.map_cons, List.map_nil]); first | done | rfl | (simp only [List.length_drop, List.length_take]; rfl)) ?_; (with_reducible refine (value_Op.calls 8 (-7) 3 t103 false _ A1.out).mono ?_); rintro e w' ⟨rfl, ⟨nd, rfl⟩⟩; refine ⟨_, rfl, ?_⟩))
    go_ret
    exact ⟨by first | rfl | (simp; done) | (simp [*]; done), by repeat (first | exact Drawn0.refl _ | apply Drawn0.step)⟩

/-! ### suturehand_Pick: function 10 -/
def suturehand_Pick.f (a0 : Int) (a1 : Int) : Option (Int) := if a1 = 0 then (none) else (if (Int.tmod a0 a1) < 0 then (some (wrap64 ((Int.tmod a0 a1) + a1))) else (some (Int.tmod a0 a1)))
set_option maxHeartbeats 8000000 in
set_option maxRecDepth 100000 in
theorem suturehand_Pick.calls (a0 : Int) (a1 : Int) (r : Int) (w : World) (h : suturehand_Pick.f a0 a1 = some r) :
    Calls Try.prog 10 #[.int .i64 a0, .int .i64 a1] w fun e w' => e = .returned (.int .i64 r) ∧ Drawn0 w w' := by
  have H : (if a1 = 0 then (none) else (if (Int.tmod a0 a1) < 0 then (some (wrap64 ((Int.tmod a0 a1) + a1))) else (some (Int.tmod a0 a1)))) = some r := h
  clear h
  by_cases c3 : a1 = 0
  · rw [if_pos c3] at H
    exact absurd H (by simp)
  · rw [if_neg c3] at H
    have c3b0 : (a1 == 0) = false := beq_eq_false_iff_ne.mpr c3
    have c3b1 : (a1 != 0) = true := bne_iff_ne.mpr c3
    by_cases c4 : (Int.tmod a0 a1) < 0
    · rw [if_pos c4] at H
      have c4b0 : decide ((Int.tmod a0 a1) < 0) = true := decide_eq_true c4
      clear c4
      obtain rfl := Option.some.inj H
      go_enter Try.func10, Try.ntmps10
      go_wp2
      go_ret
      exact ⟨by first | rfl | (simp; done) | (simp [*]; done), by repeat (first | exact Drawn0.refl _ | apply Drawn0.step)⟩
    · rw [if_neg c4] at H
      have c4b0 : decide ((Int.tmod a0 a1) < 0) = false := decide_eq_false c4
      clear c4
      obtain rfl := Option.some.inj H
      go_enter Try.func10, Try.ntmps10
      go_wp2
      go_ret
      exact ⟨by first | rfl | (simp; done) | (simp [*]; done), by repeat (first | exact Drawn0.refl _ | apply Drawn0.step)⟩

/-! ### suturelaw12_num: function 11 -/
def suturelaw12_num.f (a0 : Int) : Option (Int) := (suturehand_Pick.f a0 5).bind fun t106 => (if t106 = 0 then ((suturehand_Pick.f (wrap64 (Int.tdiv a0 5)) 7).bind fun t107 => (some (wrap64 (t107 - 3)))) else (if t106 = 1 then ((suturehand_Pick.f (wrap64 (Int.tdiv a0 5)) 3).bind fun t108 => (some (wrap64 (9223372036854775807 - t108)))) else (if t106 = 2 then ((suturehand_Pick.f (wrap64 (Int.tdiv a0 5)) 3).bind fun t109 => (some (wrap64 ((-9223372036854775808) + t109)))) else (some a0))))
set_option maxHeartbeats 8000000 in
set_option maxRecDepth 100000 in
theorem suturelaw12_num.calls (a0 : Int) (r : Int) (w : World) (h : suturelaw12_num.f a0 = some r) :
    Calls Try.prog 11 #[.int .i64 a0] w fun e w' => e = .returned (.int .i64 r) ∧ Drawn0 w w' := by
  have H : ((suturehand_Pick.f a0 5).bind fun t106 => (if t106 = 0 then ((suturehand_Pick.f (wrap64 (Int.tdiv a0 5)) 7).bind fun t107 => (some (wrap64 (t107 - 3)))) else (if t106 = 1 then ((suturehand_Pick.f (wrap64 (Int.tdiv a0 5)) 3).bind fun t108 => (some (wrap64 (9223372036854775807 - t108)))) else (if t106 = 2 then ((suturehand_Pick.f (wrap64 (Int.tdiv a0 5)) 3).bind fun t109 => (some (wrap64 ((-9223372036854775808) + t109)))) else (some a0))))) = some r := h
  clear h
  replace H := Option.bind_eq_some_iff.mp H
  obtain ⟨t106, A20, H⟩ := H
  replace H : (if t106 = 0 then ((suturehand_Pick.f (wrap64 (Int.tdiv a0 5)) 7).bind fun t107 => (some (wrap64 (t107 - 3)))) else (if t106 = 1 then ((suturehand_Pick.f (wrap64 (Int.tdiv a0 5)) 3).bind fun t108 => (some (wrap64 (9223372036854775807 - t108)))) else (if t106 = 2 then ((suturehand_Pick.f (wrap64 (Int.tdiv a0 5)) 3).bind fun t109 => (some (wrap64 ((-9223372036854775808) + t109)))) else (some a0)))) = some r := H
  have A2 := Aside0.mk A20
  clear A20
  by_cases c3 : t106 = 0
  · rw [if_pos c3] at H
    have c3b0 : (t106 == 0) = true := beq_iff_eq.mpr c3
    have c3b1 : (t106 != 0) = false := bne_eq_false_iff_eq.mpr c3
    clear c3
    replace H := Option.bind_eq_some_iff.mp H
    obtain ⟨t107, A40, H⟩ := H
    replace H : (some (wrap64 (t107 - 3))) = some r := H
    have A4 := Aside0.mk A40
    clear A40
    obtain rfl := Option.some.inj H
    go_enter Try.func11, Try.ntmps11
    go_wp2_with (first | ((with_reducible refine gate_callee (f := 10) rfl ?_); refine goesL_ (some 4) rfl rfl Try.func10 (by kernel_rfl) rfl #[.int .i64 a0, .int .i64 5] rfl (by (try simp only [List.map_toArray, List.map_cons, List.map_nil]); first | done | rfl | (simp only [List.length_drop, List.length_take]; rfl)) ?_; (with_reducible refine (suturehand_Pick.calls a0 5 t106 _ A2.out).mono ?_); rintro e w' ⟨rfl, ⟨nd, rfl⟩⟩; refine ⟨_, rfl, ?_⟩) | ((with_reducible refine gate_callee (f := 10) rfl ?_); refine goesL_ (some 9) rfl rfl Try.func10 (by kernel_rfl) rfl #[.int .i64 (wrap64 (Int.tdiv a0 5)), .int .i64 7] rfl (by (try simp only [List.map_toArray, List.map_cons, List.map_nil]); first | done | rfl | (simp only [List.length_drop, List.length_take]; rfl)) ?_; (with_reducible refine (suturehand_Pick.calls (wrap64 (Int.tdiv a0 5)) 7 t107 _ A4.out).mono ?_); rintro e w' ⟨rfl, ⟨nd, rfl⟩⟩; refine ⟨_, rfl, ?_⟩))
    go_ret
    exact ⟨by first | rfl | (simp; done) | (simp [*]; done), by repeat (first | exact Drawn0.refl _ | apply Drawn0.step)⟩
  · rw [if_neg c3] at H
    have c3b0 : (t106 == 0) = false := beq_eq_false_iff_ne.mpr c3
    have c3b1 : (t106 != 0) = true := bne_iff_ne.mpr c3
    by_cases c5 : t106 = 1
    · rw [if_pos c5] at H
      have c5b0 : (t106 == 1) = true := beq_iff_eq.mpr c5
      have c5b1 : (t106 != 1) = false := bne_eq_false_iff_eq.mpr c5
      clear c5
      replace H := Option.bind_eq_some_iff.mp H
      obtain ⟨t108, A60, H⟩ := H
      replace H : (some (wrap64 (9223372036854775807 - t108))) = some r := H
      have A6 := Aside0.mk A60
      clear A60
      obtain rfl := Option.some.inj H
      go_enter Try.func11, Try.ntmps11
      go_wp2_with (first | ((with_reducible refine gate_callee (f := 10) rfl ?_); refine goesL_ (some 4) rfl rfl Try.func10 (by kernel_rfl) rfl #[.int .i64 a0, .int .i64 5] rfl (by (try simp only [List.map_toArray, List.map_cons, List.map_nil]); first | done | rfl | (simp only [List.length_drop, List.length_take]; rfl)) ?_; (with_reducible refine (suturehand_Pick.calls a0 5 t106 _ A2.out).mono ?_); rintro e w' ⟨rfl, ⟨nd, rfl⟩⟩; refine ⟨_, rfl, ?_⟩) | ((with_reducible refine gate_callee (f := 10) rfl ?_); refine goesL_ (some 15) rfl rfl Try.func10 (by kernel_rfl) rfl #[.int .i64 (wrap64 (Int.tdiv a0 5)), .int .i64 3] rfl (by (try simp only [List.map_toArray, List.map_cons, List.map_nil]); first | done | rfl | (simp only [List.length_drop, List.length_take]; rfl)) ?_; (with_reducible refine (suturehand_Pick.calls (wrap64 (Int.tdiv a0 5)) 3 t108 _ A6.out).mono ?_); rintro e w' ⟨rfl, ⟨nd, rfl⟩⟩; refine ⟨_, rfl, ?_⟩))
      go_ret
      exact ⟨by first | rfl | (simp; done) | (simp [*]; done), by repeat (first | exact Drawn0.refl _ | apply Drawn0.step)⟩
    · rw [if_neg c5] at H
      have c5b0 : (t106 == 1) = false := beq_eq_false_iff_ne.mpr c5
      have c5b1 : (t106 != 1) = true := bne_iff_ne.mpr c5
      by_cases c7 : t106 = 2
      · rw [if_pos c7] at H
        have c7b0 : (t106 == 2) = true := beq_iff_eq.mpr c7
        have c7b1 : (t106 != 2) = false := bne_eq_false_iff_eq.mpr c7
        clear c7
        replace H := Option.bind_eq_some_iff.mp H
        obtain ⟨t109, A80, H⟩ := H
        replace H : (some (wrap64 ((-9223372036854775808) + t109))) = some r := H
        have A8 := Aside0.mk A80
        clear A80
        obtain rfl := Option.some.inj H
        go_enter Try.func11, Try.ntmps11
        go_wp2_with (first | ((with_reducible refine gate_callee (f := 10) rfl ?_); refine goesL_ (some 4) rfl rfl Try.func10 (by kernel_rfl) rfl #[.int .i64 a0, .int .i64 5] rfl (by (try simp only [List.map_toArray, List.map_cons, List.map_nil]); first | done | rfl | (simp only [List.length_drop, List.length_take]; rfl)) ?_; (with_reducible refine (suturehand_Pick.calls a0 5 t106 _ A2.out).mono ?_); rintro e w' ⟨rfl, ⟨nd, rfl⟩⟩; refine ⟨_, rfl, ?_⟩) | ((with_reducible refine gate_callee (f := 10) rfl ?_); refine goesL_ (some 21) rfl rfl Try.func10 (by kernel_rfl) rfl #[.int .i64 (wrap64 (Int.tdiv a0 5)), .int .i64 3] rfl (by (try simp only [List.map_toArray, List.map_cons, List.map_nil]); first | done | rfl | (simp only [List.length_drop, List.length_take]; rfl)) ?_; (with_reducible refine (suturehand_Pick.calls (wrap64 (Int.tdiv a0 5)) 3 t109 _ A8.out).mono ?_); rintro e w' ⟨rfl, ⟨nd, rfl⟩⟩; refine ⟨_, rfl, ?_⟩))
        go_ret
        exact ⟨by first | rfl | (simp; done) | (simp [*]; done), by repeat (first | exact Drawn0.refl _ | apply Drawn0.step)⟩
      · rw [if_neg c7] at H
        have c7b0 : (t106 == 2) = false := beq_eq_false_iff_ne.mpr c7
        have c7b1 : (t106 != 2) = true := bne_iff_ne.mpr c7
        obtain rfl := Option.some.inj H
        go_enter Try.func11, Try.ntmps11
        go_wp2_with (first | ((with_reducible refine gate_callee (f := 10) rfl ?_); refine goesL_ (some 4) rfl rfl Try.func10 (by kernel_rfl) rfl #[.int .i64 a0, .int .i64 5] rfl (by (try simp only [List.map_toArray, List.map_cons, List.map_nil]); first | done | rfl | (simp only [List.length_drop, List.length_take]; rfl)) ?_; (with_reducible refine (suturehand_Pick.calls a0 5 t106 _ A2.out).mono ?_); rintro e w' ⟨rfl, ⟨nd, rfl⟩⟩; refine ⟨_, rfl, ?_⟩))
        go_ret
        exact ⟨by first | rfl | (simp; done) | (simp [*]; done), by repeat (first | exact Drawn0.refl _ | apply Drawn0.step)⟩

/-! ### suturelaw12_op: function 14 -/
def suturelaw12_op.f (a0 : Int) (a1 : Int) (a2 : Int) : Option (Int) := (value_Op.f a0 a1 a2).bind fun bt110 => (some bt110.1)
set_option maxHeartbeats 8000000 in
set_option maxRecDepth 100000 in
theorem suturelaw12_op.calls (a0 : Int) (a1 : Int) (a2 : Int) (r : Int) (w : World) (h : suturelaw12_op.f a0 a1 a2 = some r) :
    Calls Try.prog 14 #[.int .i64 a0, .int .i64 a1, .int .i64 a2] w fun e w' => e = .returned (.int .i64 r) ∧ Drawn0 w w' := by
  have H : ((value_Op.f a0 a1 a2).bind fun bt110 => (some bt110.1)) = some r := h
  clear h
  replace H := Option.bind_eq_some_iff.mp H
  obtain ⟨⟨t110, t111⟩, A40, H⟩ := H
  replace H : (some t110) = some r := H
  have A4 := Aside0.mk A40
  clear A40
  obtain rfl := Option.some.inj H
  go_enter Try.func14, Try.ntmps14
  go_wp2_with (first | ((with_reducible refine gate_callee (f := 7) rfl ?_); refine goesL_ (some 13) rfl rfl Try.func7 (by kernel_rfl) rfl #[.int .i64 a0, .int .i64 a1, .int .i64 a2] rfl (by (try simp only [List.map_toArray, List.map_cons, List.map_nil]); first | done | rfl | (simp only [List.length_drop, List.length_take]; rfl)) ?_; (with_reducible refine (value_Op.calls a0 a1 a2 t110 t111 _ A4.out).mono ?_); rintro e w' ⟨rfl, ⟨nd, rfl⟩⟩; refine ⟨_, rfl, ?_⟩))
  go_ret
  exact ⟨by first | rfl | (simp; done) | (simp [*]; done), by repeat (first | exact Drawn0.refl _ | apply Drawn0.step)⟩

/-! ### suturelaw12_ValueRings: function 5 -/
def suturelaw12_ValueRings.j0 : Nat → Int → Int → Int → Int → Bool → Option (Bool)
  | 0, _, _, _, _, _ => none
  | k + 1, x0, x1, x2, x7, x12 => (suturelaw12_op.f 9 x0 x1).bind fun t122 => ((suturelaw12_op.f 9 x1 x0).bind fun t123 => ((suturelaw12_op.f 10 x0 x1).bind fun t124 => ((suturelaw12_known.f).bind fun t125 => (if t125 = true then ((suturelaw12_op.f 5 x7 x1).bind fun t126 => (if t126 = x0 then ((suturelaw12_op.f 4 x1 x0).bind fun t127 => (if x7 = t127 then ((suturelaw12_op.f 6 x7 x2).bind fun t128 => ((suturelaw12_op.f 6 x0 x2).bind fun t129 => ((suturelaw12_op.f 6 x1 x2).bind fun t130 => ((suturelaw12_op.f 4 t129 t130).bind fun t131 => (if t128 = t131 then ((suturelaw12_op.f 3 x0 x1).bind fun t132 => ((suturelaw12_op.f 4 x0 t132).bind fun t133 => (if t133 = 0 then (if x12 = true then (some ((wrap64 ((wrap64 (t122 + t123)) + t124)) == 1)) else (some false)) else (some false)))) else (some false)))))) else (some false))) else (some false))) else (some false)))))
def suturelaw12_ValueRings.f (k : Nat) (a0 : Int) (a1 : Int) (a2 : Int) : Option (Bool) := (suturelaw12_num.f a0).bind fun t112 => ((suturelaw12_num.f a1).bind fun t113 => ((suturelaw12_num.f a2).bind fun t114 => ((suturelaw12_op.f 4 t112 t113).bind fun t115 => ((value_Op.f 7 t112 t113).bind fun bt116 => ((value_Op.f 8 t112 t113).bind fun bt118 => (if bt116.2 = true then (if bt118.2 = true then (if t113 = 0 then (suturelaw12_ValueRings.j0 k t112 t113 t114 t115 false) else ((suturelaw12_op.f 6 bt116.1 t113).bind fun t120 => ((suturelaw12_op.f 4 t120 bt118.1).bind fun t121 => (suturelaw12_ValueRings.j0 k t112 t113 t114 t115 (t121 == t112))))) else (suturelaw12_ValueRings.j0 k t112 t113 t114 t115 false)) else (if bt118.2 = true then (suturelaw12_ValueRings.j0 k t112 t113 t114 t115 false) else (if t113 = 0 then (suturelaw12_ValueRings.j0 k t112 t113 t114 t115 true) else (suturelaw12_ValueRings.j0 k t112 t113 t114 t115 false)))))))))
theorem suturelaw12_ValueRings.mono_l : ∀ k, (∀ y0 y1 y2 y3 y4, LeO (suturelaw12_ValueRings.j0 k y0 y1 y2 y3 y4) (suturelaw12_ValueRings.j0 (k + 1) y0 y1 y2 y3 y4))
  | 0 => fun _ _ _ _ _ r h => by simp [suturelaw12_ValueRings.j0] at h
  | k + 1 => by
    have ih0 := suturelaw12_ValueRings.mono_l k
    · intro y0 y1 y2 y3 y4
      unfold suturelaw12_ValueRings.j0
      repeat' first
      | (with_reducible exact ih0 _ _ _ _ _)
      | (with_reducible exact LeO.refl _)
      | (with_reducible exact LeO.none _)
      | (with_reducible refine LeO.ite ?_ ?_)
      | (with_reducible refine LeO.bind ?_ (fun _ => ?_))
      | exact ih0 _ _ _ _ _
      | exact LeO.none _
      | refine LeO.ite ?_ ?_
      | refine LeO.bind ?_ (fun _ => ?_)
theorem suturelaw12_ValueRings.mono : ∀ a0 a1 a2 k, LeO (suturelaw12_ValueRings.f k a0 a1 a2) (suturelaw12_ValueRings.f (k + 1) a0 a1 a2) := by
  intro a0 a1 a2 k
  have ih0 := suturelaw12_ValueRings.mono_l k
  unfold suturelaw12_ValueRings.f
  repeat' first
      | (with_reducible exact ih0 _ _ _ _ _)
      | (with_reducible exact LeO.refl _)
      | (with_reducible exact LeO.none _)
      | (with_reducible refine LeO.ite ?_ ?_)
      | (with_reducible refine LeO.bind ?_ (fun _ => ?_))
      | exact ih0 _ _ _ _ _
      | exact LeO.none _
      | refine LeO.ite ?_ ?_
      | refine LeO.bind ?_ (fun _ => ?_)
set_option maxHeartbeats 8000000 in
set_option maxRecDepth 100000 in
theorem suturelaw12_ValueRings.calls (k : Nat) (a0 : Int) (a1 : Int) (a2 : Int) (r : Bool) (w : World) (h : suturelaw12_ValueRings.f k a0 a1 a2 = some r) :
    Calls Try.prog 5 #[.int .i64 a0, .int .i64 a1, .int .i64 a2] w fun e w' => e = .returned (.bool r) ∧ Drawn0 w w' := by
  have H : ((suturelaw12_num.f a0).bind fun t112 => ((suturelaw12_num.f a1).bind fun t113 => ((suturelaw12_num.f a2).bind fun t114 => ((suturelaw12_op.f 4 t112 t113).bind fun t115 => ((value_Op.f 7 t112 t113).bind fun bt116 => ((value_Op.f 8 t112 t113).bind fun bt118 => (if bt116.2 = true then (if bt118.2 = true then (if t113 = 0 then (suturelaw12_ValueRings.j0 k t112 t113 t114 t115 false) else ((suturelaw12_op.f 6 bt116.1 t113).bind fun t120 => ((suturelaw12_op.f 4 t120 bt118.1).bind fun t121 => (suturelaw12_ValueRings.j0 k t112 t113 t114 t115 (t121 == t112))))) else (suturelaw12_ValueRings.j0 k t112 t113 t114 t115 false)) else (if bt118.2 = true then (suturelaw12_ValueRings.j0 k t112 t113 t114 t115 false) else (if t113 = 0 then (suturelaw12_ValueRings.j0 k t112 t113 t114 t115 true) else (suturelaw12_ValueRings.j0 k t112 t113 t114 t115 false)))))))))) = some r := h
  clear h
  replace H := Option.bind_eq_some_iff.mp H
  obtain ⟨t112, A40, H⟩ := H
  replace H : ((suturelaw12_num.f a1).bind fun t113 => ((suturelaw12_num.f a2).bind fun t114 => ((suturelaw12_op.f 4 t112 t113).bind fun t115 => ((value_Op.f 7 t112 t113).bind fun bt116 => ((value_Op.f 8 t112 t113).bind fun bt118 => (if bt116.2 = true then (if bt118.2 = true then (if t113 = 0 then (suturelaw12_ValueRings.j0 k t112 t113 t114 t115 false) else ((suturelaw12_op.f 6 bt116.1 t113).bind fun t120 => ((suturelaw12_op.f 4 t120 bt118.1).bind fun t121 => (suturelaw12_ValueRings.j0 k t112 t113 t114 t115 (t121 == t112))))) else (suturelaw12_ValueRings.j0 k t112 t113 t114 t115 false)) else (if bt118.2 = true then (suturelaw12_ValueRings.j0 k t112 t113 t114 t115 false) else (if t113 = 0 then (suturelaw12_ValueRings.j0 k t112 t113 t114 t115 true) else (suturelaw12_ValueRings.j0 k t112 t113 t114 t115 false))))))))) = some r := H
  have A4 := Aside0.mk A40
  clear A40
  replace H := Option.bind_eq_some_iff.mp H
  obtain ⟨t113, A50, H⟩ := H
  replace H : ((suturelaw12_num.f a2).bind fun t114 => ((suturelaw12_op.f 4 t112 t113).bind fun t115 => ((value_Op.f 7 t112 t113).bind fun bt116 => ((value_Op.f 8 t112 t113).bind fun bt118 => (if bt116.2 = true then (if bt118.2 = true then (if t113 = 0 then (suturelaw12_ValueRings.j0 k t112 t113 t114 t115 false) else ((suturelaw12_op.f 6 bt116.1 t113).bind fun t120 => ((suturelaw12_op.f 4 t120 bt118.1).bind fun t121 => (suturelaw12_ValueRings.j0 k t112 t113 t114 t115 (t121 == t112))))) else (suturelaw12_ValueRings.j0 k t112 t113 t114 t115 false)) else (if bt118.2 = true then (suturelaw12_ValueRings.j0 k t112 t113 t114 t115 false) else (if t113 = 0 then (suturelaw12_ValueRings.j0 k t112 t113 t114 t115 true) else (suturelaw12_ValueRings.j0 k t112 t113 t114 t115 false)))))))) = some r := H
  have A5 := Aside0.mk A50
  clear A50
  replace H := Option.bind_eq_some_iff.mp H
  obtain ⟨t114, A60, H⟩ := H
  replace H : ((suturelaw12_op.f 4 t112 t113).bind fun t115 => ((value_Op.f 7 t112 t113).bind fun bt116 => ((value_Op.f 8 t112 t113).bind fun bt118 => (if bt116.2 = true then (if bt118.2 = true then (if t113 = 0 then (suturelaw12_ValueRings.j0 k t112 t113 t114 t115 false) else ((suturelaw12_op.f 6 bt116.1 t113).bind fun t120 => ((suturelaw12_op.f 4 t120 bt118.1).bind fun t121 => (suturelaw12_ValueRings.j0 k t112 t113 t114 t115 (t121 == t112))))) else (suturelaw12_ValueRings.j0 k t112 t113 t114 t115 false)) else (if bt118.2 = true then (suturelaw12_ValueRings.j0 k t112 t113 t114 t115 false) else (if t113 = 0 then (suturelaw12_ValueRings.j0 k t112 t113 t114 t115 true) else (suturelaw12_ValueRings.j0 k t112 t113 t114 t115 false))))))) = some r := H
  have A6 := Aside0.mk A60
  clear A60
  replace H := Option.bind_eq_some_iff.mp H
  obtain ⟨t115, A70, H⟩ := H
  replace H : ((value_Op.f 7 t112 t113).bind fun bt116 => ((value_Op.f 8 t112 t113).bind fun bt118 => (if bt116.2 = true then (if bt118.2 = true then (if t113 = 0 then (suturelaw12_ValueRings.j0 k t112 t113 t114 t115 false) else ((suturelaw12_op.f 6 bt116.1 t113).bind fun t120 => ((suturelaw12_op.f 4 t120 bt118.1).bind fun t121 => (suturelaw12_ValueRings.j0 k t112 t113 t114 t115 (t121 == t112))))) else (suturelaw12_ValueRings.j0 k t112 t113 t114 t115 false)) else (if bt118.2 = true then (suturelaw12_ValueRings.j0 k t112 t113 t114 t115 false) else (if t113 = 0 then (suturelaw12_ValueRings.j0 k t112 t113 t114 t115 true) else (suturelaw12_ValueRings.j0 k t112 t113 t114 t115 false)))))) = some r := H
  have A7 := Aside0.mk A70
  clear A70
  replace H := Option.bind_eq_some_iff.mp H
  obtain ⟨⟨t116, t117⟩, A80, H⟩ := H
  replace H : ((value_Op.f 8 t112 t113).bind fun bt118 => (if t117 = true then (if bt118.2 = true then (if t113 = 0 then (suturelaw12_ValueRings.j0 k t112 t113 t114 t115 false) else ((suturelaw12_op.f 6 t116 t113).bind fun t120 => ((suturelaw12_op.f 4 t120 bt118.1).bind fun t121 => (suturelaw12_ValueRings.j0 k t112 t113 t114 t115 (t121 == t112))))) else (suturelaw12_ValueRings.j0 k t112 t113 t114 t115 false)) else (if bt118.2 = true then (suturelaw12_ValueRings.j0 k t112 t113 t114 t115 false) else (if t113 = 0 then (suturelaw12_ValueRings.j0 k t112 t113 t114 t115 true) else (suturelaw12_ValueRings.j0 k t112 t113 t114 t115 false))))) = some r := H
  have A8 := Aside0.mk A80
  clear A80
  replace H := Option.bind_eq_some_iff.mp H
  obtain ⟨⟨t118, t119⟩, A90, H⟩ := H
  replace H : (if t117 = true then (if t119 = true then (if t113 = 0 then (suturelaw12_ValueRings.j0 k t112 t113 t114 t115 false) else ((suturelaw12_op.f 6 t116 t113).bind fun t120 => ((suturelaw12_op.f 4 t120 t118).bind fun t121 => (suturelaw12_ValueRings.j0 k t112 t113 t114 t115 (t121 == t112))))) else (suturelaw12_ValueRings.j0 k t112 t113 t114 t115 false)) else (if t119 = true then (suturelaw12_ValueRings.j0 k t112 t113 t114 t115 false) else (if t113 = 0 then (suturelaw12_ValueRings.j0 k t112 t113 t114 t115 true) else (suturelaw12_ValueRings.j0 k t112 t113 t114 t115 false)))) = some r := H
  have A9 := Aside0.mk A90
  clear A90
  have HC10 := Aside0.mk H
  clear H
  go_enter Try.func5, Try.ntmps5
  go_upto_region 7 with (first | ((with_reducible refine gate_callee (f := 11) rfl ?_); refine goesL_ (some 15) rfl rfl Try.func11 (by kernel_rfl) rfl #[.int .i64 a0] rfl (by (try simp only [List.map_toArray, List.map_cons, List.map_nil]); first | done | rfl | (simp only [List.length_drop, List.length_take]; rfl)) ?_; (with_reducible refine (suturelaw12_num.calls a0 t112 _ A4.out).mono ?_); rintro e w' ⟨rfl, ⟨nd, rfl⟩⟩; refine ⟨_, rfl, ?_⟩) | ((with_reducible refine gate_callee (f := 11) rfl ?_); refine goesL_ (some 17) rfl rfl Try.func11 (by kernel_rfl) rfl #[.int .i64 a1] rfl (by (try simp only [List.map_toArray, List.map_cons, List.map_nil]); first | done | rfl | (simp only [List.length_drop, List.length_take]; rfl)) ?_; (with_reducible refine (suturelaw12_num.calls a1 t113 _ A5.out).mono ?_); rintro e w' ⟨rfl, ⟨nd, rfl⟩⟩; refine ⟨_, rfl, ?_⟩) | ((with_reducible refine gate_callee (f := 11) rfl ?_); refine goesL_ (some 19) rfl rfl Try.func11 (by kernel_rfl) rfl #[.int .i64 a2] rfl (by (try simp only [List.map_toArray, List.map_cons, List.map_nil]); first | done | rfl | (simp only [List.length_drop, List.length_take]; rfl)) ?_; (with_reducible refine (suturelaw12_num.calls a2 t114 _ A6.out).mono ?_); rintro e w' ⟨rfl, ⟨nd, rfl⟩⟩; refine ⟨_, rfl, ?_⟩) | ((with_reducible refine gate_callee (f := 14) rfl ?_); refine goesL_ (some 22) rfl rfl Try.func14 (by kernel_rfl) rfl #[.int .i64 4, .int .i64 t112, .int .i64 t113] rfl (by (try simp only [List.map_toArray, List.map_cons, List.map_nil]); first | done | rfl | (simp only [List.length_drop, List.length_take]; rfl)) ?_; (with_reducible refine (suturelaw12_op.calls 4 t112 t113 t115 _ A7.out).mono ?_); rintro e w' ⟨rfl, ⟨nd, rfl⟩⟩; refine ⟨_, rfl, ?_⟩) | ((with_reducible refine gate_callee (f := 7) rfl ?_); refine goesL_ (some 26) rfl rfl Try.func7 (by kernel_rfl) rfl #[.int .i64 7, .int .i64 t112, .int .i64 t113] rfl (by (try simp only [List.map_toArray, List.map_cons, List.map_nil]); first | done | rfl | (simp only [List.length_drop, List.length_take]; rfl)) ?_; (with_reducible refine (value_Op.calls 7 t112 t113 t116 t117 _ A8.out).mono ?_); rintro e w' ⟨rfl, ⟨nd, rfl⟩⟩; refine ⟨_, rfl, ?_⟩) | ((with_reducible refine gate_callee (f := 7) rfl ?_); refine goesL_ (some 32) rfl rfl Try.func7 (by kernel_rfl) rfl #[.int .i64 8, .int .i64 t112, .int .i64 t113] rfl (by (try simp only [List.map_toArray, List.map_cons, List.map_nil]); first | done | rfl | (simp only [List.length_drop, List.length_take]; rfl)) ?_; (with_reducible refine (value_Op.calls 8 t112 t113 t118 t119 _ A9.out).mono ?_); rintro e w' ⟨rfl, ⟨nd, rfl⟩⟩; refine ⟨_, rfl, ?_⟩))
  (try simp only [Act.put, List.setIfInBounds_toArray, List.set_cons_zero, List.set_cons_succ])
  go_cut [12] (fun v12 wc => ∃ (kq : Nat) (x12_9 : Bool), v12 = .bool x12_9 ∧ Aside0 (suturelaw12_ValueRings.j0 kq t112 t113 t114 t115 x12_9 = some r) ∧ Aside0 (kq ≤ k) ∧ Drawn0 w wc)
  case first =>
    have H := HC10.out
    clear HC10
    by_cases c11 : t117 = true
    · subst c11
      have H1 : (if t119 = true then (if t113 = 0 then (suturelaw12_ValueRings.j0 k t112 t113 t114 t115 false) else ((suturelaw12_op.f 6 t116 t113).bind fun t120 => ((suturelaw12_op.f 4 t120 t118).bind fun t121 => (suturelaw12_ValueRings.j0 k t112 t113 t114 t115 (t121 == t112))))) else (suturelaw12_ValueRings.j0 k t112 t113 t114 t115 false)) = some r := by rw [if_pos rfl] at H; exact H
      clear H
      have H := H1
      clear H1
      by_cases c12 : t119 = true
      · subst c12
        have H1 : (if t113 = 0 then (suturelaw12_ValueRings.j0 k t112 t113 t114 t115 false) else ((suturelaw12_op.f 6 t116 t113).bind fun t120 => ((suturelaw12_op.f 4 t120 t118).bind fun t121 => (suturelaw12_ValueRings.j0 k t112 t113 t114 t115 (t121 == t112))))) = some r := by rw [if_pos rfl] at H; exact H
        clear H
        have H := H1
        clear H1
        by_cases c13 : t113 = 0
        · rw [if_pos c13] at H
          have c13b0 : (t113 == 0) = true := beq_iff_eq.mpr c13
          have c13b1 : (t113 != 0) = false := bne_eq_false_iff_eq.mpr c13
          clear c13
          (first | rw [c13b0] | (simp only [i64_w, i32_w]; rw [c13b0]) | skip)
          have H' := Aside0.mk H
          clear H
          go_wp2
          go_meet
          case rel => exact ⟨_, (false), (by first | rfl | (simp; done) | (simp [*]; done)), H', ⟨by first | omega | exact Nat.le_refl _⟩, by repeat (first | exact Drawn0.refl _ | apply Drawn0.step)⟩
        · rw [if_neg c13] at H
          have c13b0 : (t113 == 0) = false := beq_eq_false_iff_ne.mpr c13
          have c13b1 : (t113 != 0) = true := bne_iff_ne.mpr c13
          (first | rw [c13b0] | (simp only [i64_w, i32_w]; rw [c13b0]) | skip)
          replace H := Option.bind_eq_some_iff.mp H
          obtain ⟨t120, A140, H⟩ := H
          replace H : ((suturelaw12_op.f 4 t120 t118).bind fun t121 => (suturelaw12_ValueRings.j0 k t112 t113 t114 t115 (t121 == t112))) = some r := H
          have A14 := Aside0.mk A140
          clear A140
          replace H := Option.bind_eq_some_iff.mp H
          obtain ⟨t121, A150, H⟩ := H
          replace H : (suturelaw12_ValueRings.j0 k t112 t113 t114 t115 (t121 == t112)) = some r := H
          have A15 := Aside0.mk A150
          clear A150
          have H' := Aside0.mk H
          clear H
          go_wp2_with (first | (go_at_call 14; (with_reducible refine (suturelaw12_op.calls 6 t116 t113 t120 _ A14.out).mono ?_); rintro e w' ⟨rfl, ⟨nd, rfl⟩⟩) | (go_at_call 14; (with_reducible refine (suturelaw12_op.calls 4 t120 t118 t121 _ A15.out).mono ?_); rintro e w' ⟨rfl, ⟨nd, rfl⟩⟩))
          go_meet
          case rel => exact ⟨_, ((t121 == t112)), (by first | rfl | (simp; done) | (simp [*]; done)), H', ⟨by first | omega | exact Nat.le_refl _⟩, by repeat (first | exact Drawn0.refl _ | apply Drawn0.step)⟩
      · replace c12 := Bool.eq_false_iff.mpr c12
        subst c12
        have H1 : (suturelaw12_ValueRings.j0 k t112 t113 t114 t115 false) = some r := by rw [if_neg (show ¬ (false = true) by decide)] at H; exact H
        clear H
        have H := H1
        clear H1
        have H' := Aside0.mk H
        clear H
        go_wp2
        go_meet
        case rel => exact ⟨_, (false), (by first | rfl | (simp; done) | (simp [*]; done)), H', ⟨by first | omega | exact Nat.le_refl _⟩, by repeat (first | exact Drawn0.refl _ | apply Drawn0.step)⟩
    · replace c11 := Bool.eq_false_iff.mpr c11
      subst c11
      have H1 : (if t119 = true then (suturelaw12_ValueRings.j0 k t112 t113 t114 t115 false) else (if t113 = 0 then (suturelaw12_ValueRings.j0 k t112 t113 t114 t115 true) else (suturelaw12_ValueRings.j0 k t112 t113 t114 t115 false))) = some r := by rw [if_neg (show ¬ (false = true) by decide)] at H; exact H
      clear H
      have H := H1
      clear H1
      by_cases c16 : t119 = true
      · subst c16
        have H1 : (suturelaw12_ValueRings.j0 k t112 t113 t114 t115 false) = some r := by rw [if_pos rfl] at H; exact H
        clear H
        have H := H1
        clear H1
        have H' := Aside0.mk H
        clear H
        go_wp2
        go_meet
        case rel => exact ⟨_, (false), (by first | rfl | (simp; done) | (simp [*]; done)), H', ⟨by first | omega | exact Nat.le_refl _⟩, by repeat (first | exact Drawn0.refl _ | apply Drawn0.step)⟩
      · replace c16 := Bool.eq_false_iff.mpr c16
        subst c16
        have H1 : (if t113 = 0 then (suturelaw12_ValueRings.j0 k t112 t113 t114 t115 true) else (suturelaw12_ValueRings.j0 k t112 t113 t114 t115 false)) = some r := by rw [if_neg (show ¬ (false = true) by decide)] at H; exact H
        clear H
        have H := H1
        clear H1
        by_cases c17 : t113 = 0
        · rw [if_pos c17] at H
          have c17b0 : (t113 == 0) = true := beq_iff_eq.mpr c17
          have c17b1 : (t113 != 0) = false := bne_eq_false_iff_eq.mpr c17
          clear c17
          have H' := Aside0.mk H
          clear H
          go_wp2
          go_meet
          case rel => exact ⟨_, (true), (by first | rfl | (simp; done) | (simp [*]; done)), H', ⟨by first | omega | exact Nat.le_refl _⟩, by repeat (first | exact Drawn0.refl _ | apply Drawn0.step)⟩
        · rw [if_neg c17] at H
          have c17b0 : (t113 == 0) = false := beq_eq_false_iff_ne.mpr c17
          have c17b1 : (t113 != 0) = true := bne_iff_ne.mpr c17
          have H' := Aside0.mk H
          clear H
          go_wp2
          go_meet
          case rel => exact ⟨_, (false), (by first | rfl | (simp; done) | (simp [*]; done)), H', ⟨by first | omega | exact Nat.le_refl _⟩, by repeat (first | exact Drawn0.refl _ | apply Drawn0.step)⟩
  case rest =>
    clear HC10
    try clear c1
    try clear p2
    try clear c5
    try clear c7
    try clear c11
    try clear c12
    try clear c13
    try clear c13b0
    try clear c13b1
    try clear c14
    try clear c16
    try clear c17
    try clear c17b0
    try clear c17b1
    obtain ⟨kq, x12_9, rfl, HA, HJ9, ⟨mc9, rfl⟩⟩ := hcut
    cases kq with
    | zero => exact absurd HA.out (by simp [suturelaw12_ValueRings.j0])
    | succ kj9 =>
      have H := HA.out
      clear HA
      simp only [suturelaw12_ValueRings.j0] at H
      replace H := Option.bind_eq_some_iff.mp H
      obtain ⟨t122, A180, H⟩ := H
      replace H : ((suturelaw12_op.f 9 t113 t112).bind fun t123 => ((suturelaw12_op.f 10 t112 t113).bind fun t124 => ((suturelaw12_known.f).bind fun t125 => (if t125 = true then ((suturelaw12_op.f 5 t115 t113).bind fun t126 => (if t126 = t112 then ((suturelaw12_op.f 4 t113 t112).bind fun t127 => (if t115 = t127 then ((suturelaw12_op.f 6 t115 t114).bind fun t128 => ((suturelaw12_op.f 6 t112 t114).bind fun t129 => ((suturelaw12_op.f 6 t113 t114).bind fun t130 => ((suturelaw12_op.f 4 t129 t130).bind fun t131 => (if t128 = t131 then ((suturelaw12_op.f 3 t112 t113).bind fun t132 => ((suturelaw12_op.f 4 t112 t132).bind fun t133 => (if t133 = 0 then (if x12_9 = true then (some ((wrap64 ((wrap64 (t122 + t123)) + t124)) == 1)) else (some false)) else (some false)))) else (some false)))))) else (some false))) else (some false))) else (some false))))) = some r := H
      have A18 := Aside0.mk A180
      clear A180
      replace H := Option.bind_eq_some_iff.mp H
      obtain ⟨t123, A190, H⟩ := H
      replace H : ((suturelaw12_op.f 10 t112 t113).bind fun t124 => ((suturelaw12_known.f).bind fun t125 => (if t125 = true then ((suturelaw12_op.f 5 t115 t113).bind fun t126 => (if t126 = t112 then ((suturelaw12_op.f 4 t113 t112).bind fun t127 => (if t115 = t127 then ((suturelaw12_op.f 6 t115 t114).bind fun t128 => ((suturelaw12_op.f 6 t112 t114).bind fun t129 => ((suturelaw12_op.f 6 t113 t114).bind fun t130 => ((suturelaw12_op.f 4 t129 t130).bind fun t131 => (if t128 = t131 then ((suturelaw12_op.f 3 t112 t113).bind fun t132 => ((suturelaw12_op.f 4 t112 t132).bind fun t133 => (if t133 = 0 then (if x12_9 = true then (some ((wrap64 ((wrap64 (t122 + t123)) + t124)) == 1)) else (some false)) else (some false)))) else (some false)))))) else (some false))) else (some false))) else (some false)))) = some r := H
      have A19 := Aside0.mk A190
      clear A190
      replace H := Option.bind_eq_some_iff.mp H
      obtain ⟨t124, A200, H⟩ := H
      replace H : ((suturelaw12_known.f).bind fun t125 => (if t125 = true then ((suturelaw12_op.f 5 t115 t113).bind fun t126 => (if t126 = t112 then ((suturelaw12_op.f 4 t113 t112).bind fun t127 => (if t115 = t127 then ((suturelaw12_op.f 6 t115 t114).bind fun t128 => ((suturelaw12_op.f 6 t112 t114).bind fun t129 => ((suturelaw12_op.f 6 t113 t114).bind fun t130 => ((suturelaw12_op.f 4 t129 t130).bind fun t131 => (if t128 = t131 then ((suturelaw12_op.f 3 t112 t113).bind fun t132 => ((suturelaw12_op.f 4 t112 t132).bind fun t133 => (if t133 = 0 then (if x12_9 = true then (some ((wrap64 ((wrap64 (t122 + t123)) + t124)) == 1)) else (some false)) else (some false)))) else (some false)))))) else (some false))) else (some false))) else (some false))) = some r := H
      have A20 := Aside0.mk A200
      clear A200
      replace H := Option.bind_eq_some_iff.mp H
      obtain ⟨t125, A210, H⟩ := H
      replace H : (if t125 = true then ((suturelaw12_op.f 5 t115 t113).bind fun t126 => (if t126 = t112 then ((suturelaw12_op.f 4 t113 t112).bind fun t127 => (if t115 = t127 then ((suturelaw12_op.f 6 t115 t114).bind fun t128 => ((suturelaw12_op.f 6 t112 t114).bind fun t129 => ((suturelaw12_op.f 6 t113 t114).bind fun t130 => ((suturelaw12_op.f 4 t129 t130).bind fun t131 => (if t128 = t131 then ((suturelaw12_op.f 3 t112 t113).bind fun t132 => ((suturelaw12_op.f 4 t112 t132).bind fun t133 => (if t133 = 0 then (if x12_9 = true then (some ((wrap64 ((wrap64 (t122 + t123)) + t124)) == 1)) else (some false)) else (some false)))) else (some false)))))) else (some false))) else (some false))) else (some false)) = some r := H
      have A21 := Aside0.mk A210
      clear A210
      by_cases c22 : t125 = true
      · subst c22
        have H1 : ((suturelaw12_op.f 5 t115 t113).bind fun t126 => (if t126 = t112 then ((suturelaw12_op.f 4 t113 t112).bind fun t127 => (if t115 = t127 then ((suturelaw12_op.f 6 t115 t114).bind fun t128 => ((suturelaw12_op.f 6 t112 t114).bind fun t129 => ((suturelaw12_op.f 6 t113 t114).bind fun t130 => ((suturelaw12_op.f 4 t129 t130).bind fun t131 => (if t128 = t131 then ((suturelaw12_op.f 3 t112 t113).bind fun t132 => ((suturelaw12_op.f 4 t112 t132).bind fun t133 => (if t133 = 0 then (if x12_9 = true then (some ((wrap64 ((wrap64 (t122 + t123)) + t124)) == 1)) else (some false)) else (some false)))) else (some false)))))) else (some false))) else (some false))) = some r := by rw [if_pos rfl] at H; exact H
        clear H
        have H := H1
        clear H1
        replace H := Option.bind_eq_some_iff.mp H
        obtain ⟨t126, A230, H⟩ := H
        replace H : (if t126 = t112 then ((suturelaw12_op.f 4 t113 t112).bind fun t127 => (if t115 = t127 then ((suturelaw12_op.f 6 t115 t114).bind fun t128 => ((suturelaw12_op.f 6 t112 t114).bind fun t129 => ((suturelaw12_op.f 6 t113 t114).bind fun t130 => ((suturelaw12_op.f 4 t129 t130).bind fun t131 => (if t128 = t131 then ((suturelaw12_op.f 3 t112 t113).bind fun t132 => ((suturelaw12_op.f 4 t112 t132).bind fun t133 => (if t133 = 0 then (if x12_9 = true then (some ((wrap64 ((wrap64 (t122 + t123)) + t124)) == 1)) else (some false)) else (some false)))) else (some false)))))) else (some false))) else (some false)) = some r := H
        have A23 := Aside0.mk A230
        clear A230
        by_cases c24 : t126 = t112
        · rw [if_pos c24] at H
          have c24b0 : (t126 == t112) = true := beq_iff_eq.mpr c24
          have c24b1 : (t126 != t112) = false := bne_eq_false_iff_eq.mpr c24
          clear c24
          replace H := Option.bind_eq_some_iff.mp H
          obtain ⟨t127, A250, H⟩ := H
          replace H : (if t115 = t127 then ((suturelaw12_op.f 6 t115 t114).bind fun t128 => ((suturelaw12_op.f 6 t112 t114).bind fun t129 => ((suturelaw12_op.f 6 t113 t114).bind fun t130 => ((suturelaw12_op.f 4 t129 t130).bind fun t131 => (if t128 = t131 then ((suturelaw12_op.f 3 t112 t113).bind fun t132 => ((suturelaw12_op.f 4 t112 t132).bind fun t133 => (if t133 = 0 then (if x12_9 = true then (some ((wrap64 ((wrap64 (t122 + t123)) + t124)) == 1)) else (some false)) else (some false)))) else (some false)))))) else (some false)) = some r := H
          have A25 := Aside0.mk A250
          clear A250
          by_cases c26 : t115 = t127
          · rw [if_pos c26] at H
            have c26b0 : (t115 == t127) = true := beq_iff_eq.mpr c26
            have c26b1 : (t115 != t127) = false := bne_eq_false_iff_eq.mpr c26
            clear c26
            replace H := Option.bind_eq_some_iff.mp H
            obtain ⟨t128, A270, H⟩ := H
            replace H : ((suturelaw12_op.f 6 t112 t114).bind fun t129 => ((suturelaw12_op.f 6 t113 t114).bind fun t130 => ((suturelaw12_op.f 4 t129 t130).bind fun t131 => (if t128 = t131 then ((suturelaw12_op.f 3 t112 t113).bind fun t132 => ((suturelaw12_op.f 4 t112 t132).bind fun t133 => (if t133 = 0 then (if x12_9 = true then (some ((wrap64 ((wrap64 (t122 + t123)) + t124)) == 1)) else (some false)) else (some false)))) else (some false))))) = some r := H
            have A27 := Aside0.mk A270
            clear A270
            replace H := Option.bind_eq_some_iff.mp H
            obtain ⟨t129, A280, H⟩ := H
            replace H : ((suturelaw12_op.f 6 t113 t114).bind fun t130 => ((suturelaw12_op.f 4 t129 t130).bind fun t131 => (if t128 = t131 then ((suturelaw12_op.f 3 t112 t113).bind fun t132 => ((suturelaw12_op.f 4 t112 t132).bind fun t133 => (if t133 = 0 then (if x12_9 = true then (some ((wrap64 ((wrap64 (t122 + t123)) + t124)) == 1)) else (some false)) else (some false)))) else (some false)))) = some r := H
            have A28 := Aside0.mk A280
            clear A280
            replace H := Option.bind_eq_some_iff.mp H
            obtain ⟨t130, A290, H⟩ := H
            replace H : ((suturelaw12_op.f 4 t129 t130).bind fun t131 => (if t128 = t131 then ((suturelaw12_op.f 3 t112 t113).bind fun t132 => ((suturelaw12_op.f 4 t112 t132).bind fun t133 => (if t133 = 0 then (if x12_9 = true then (some ((wrap64 ((wrap64 (t122 + t123)) + t124)) == 1)) else (some false)) else (some false)))) else (some false))) = some r := H
            have A29 := Aside0.mk A290
            clear A290
            replace H := Option.bind_eq_some_iff.mp H
            obtain ⟨t131, A300, H⟩ := H
            replace H : (if t128 = t131 then ((suturelaw12_op.f 3 t112 t113).bind fun t132 => ((suturelaw12_op.f 4 t112 t132).bind fun t133 => (if t133 = 0 then (if x12_9 = true then (some ((wrap64 ((wrap64 (t122 + t123)) + t124)) == 1)) else (some false)) else (some false)))) else (some false)) = some r := H
            have A30 := Aside0.mk A300
            clear A300
            by_cases c31 : t128 = t131
            · rw [if_pos c31] at H
              have c31b0 : (t128 == t131) = true := beq_iff_eq.mpr c31
              have c31b1 : (t128 != t131) = false := bne_eq_false_iff_eq.mpr c31
              clear c31
              replace H := Option.bind_eq_some_iff.mp H
              obtain ⟨t132, A320, H⟩ := H
              replace H : ((suturelaw12_op.f 4 t112 t132).bind fun t133 => (if t133 = 0 then (if x12_9 = true then (some ((wrap64 ((wrap64 (t122 + t123)) + t124)) == 1)) else (some false)) else (some false))) = some r := H
              have A32 := Aside0.mk A320
              clear A320
              replace H := Option.bind_eq_some_iff.mp H
              obtain ⟨t133, A330, H⟩ := H
              replace H : (if t133 = 0 then (if x12_9 = true then (some ((wrap64 ((wrap64 (t122 + t123)) + t124)) == 1)) else (some false)) else (some false)) = some r := H
              have A33 := Aside0.mk A330
              clear A330
              by_cases c34 : t133 = 0
              · rw [if_pos c34] at H
                have c34b0 : (t133 == 0) = true := beq_iff_eq.mpr c34
                have c34b1 : (t133 != 0) = false := bne_eq_false_iff_eq.mpr c34
                clear c34
                by_cases c35 : x12_9 = true
                · subst c35
                  have H1 : (some ((wrap64 ((wrap64 (t122 + t123)) + t124)) == 1)) = some r := by rw [if_pos rfl] at H; exact H
                  clear H
                  have H := H1
                  clear H1
                  obtain rfl := Option.some.inj H
                  go_wp2_with (first | ((with_reducible refine gate_callee (f := 14) rfl ?_); refine goesL_ (some 66) rfl rfl Try.func14 (by kernel_rfl) rfl #[.int .i64 9, .int .i64 t112, .int .i64 t113] rfl (by (try simp only [List.map_toArray, List.map_cons, List.map_nil]); first | done | rfl | (simp only [List.length_drop, List.length_take]; rfl)) ?_; (with_reducible refine (suturelaw12_op.calls 9 t112 t113 t122 _ A18.out).mono ?_); rintro e w' ⟨rfl, ⟨nd, rfl⟩⟩; refine ⟨_, rfl, ?_⟩) | ((with_reducible refine gate_callee (f := 14) rfl ?_); refine goesL_ (some 69) rfl rfl Try.func14 (by kernel_rfl) rfl #[.int .i64 9, .int .i64 t113, .int .i64 t112] rfl (by (try simp only [List.map_toArray, List.map_cons, List.map_nil]); first | done | rfl | (simp only [List.length_drop, List.length_take]; rfl)) ?_; (with_reducible refine (suturelaw12_op.calls 9 t113 t112 t123 _ A19.out).mono ?_); rintro e w' ⟨rfl, ⟨nd, rfl⟩⟩; refine ⟨_, rfl, ?_⟩) | ((with_reducible refine gate_callee (f := 14) rfl ?_); refine goesL_ (some 73) rfl rfl Try.func14 (by kernel_rfl) rfl #[.int .i64 10, .int .i64 t112, .int .i64 t113] rfl (by (try simp only [List.map_toArray, List.map_cons, List.map_nil]); first | done | rfl | (simp only [List.length_drop, List.length_take]; rfl)) ?_; (with_reducible refine (suturelaw12_op.calls 10 t112 t113 t124 _ A20.out).mono ?_); rintro e w' ⟨rfl, ⟨nd, rfl⟩⟩; refine ⟨_, rfl, ?_⟩) | ((with_reducible refine gate_callee (f := 8) rfl ?_); refine goesL_ (some 75) rfl rfl Try.func8 (by kernel_rfl) rfl #[] rfl (by (try simp only [List.map_toArray, List.map_cons, List.map_nil]); first | done | rfl | (simp only [List.length_drop, List.length_take]; rfl)) ?_; (with_reducible refine (suturelaw12_known.calls  true _ A21.out).mono ?_); rintro e w' ⟨rfl, ⟨nd, rfl⟩⟩; refine ⟨_, rfl, ?_⟩) | (go_at_call 14; (with_reducible refine (suturelaw12_op.calls 5 t115 t113 t126 _ A23.out).mono ?_); rintro e w' ⟨rfl, ⟨nd, rfl⟩⟩) | (go_at_call 14; (with_reducible refine (suturelaw12_op.calls 4 t113 t112 t127 _ A25.out).mono ?_); rintro e w' ⟨rfl, ⟨nd, rfl⟩⟩) | (go_at_call 14; (with_reducible refine (suturelaw12_op.calls 6 t115 t114 t128 _ A27.out).mono ?_); rintro e w' ⟨rfl, ⟨nd, rfl⟩⟩) | (go_at_call 14; (with_reducible refine (suturelaw12_op.calls 6 t112 t114 t129 _ A28.out).mono ?_); rintro e w' ⟨rfl, ⟨nd, rfl⟩⟩) | (go_at_call 14; (with_reducible refine (suturelaw12_op.calls 6 t113 t114 t130 _ A29.out).mono ?_); rintro e w' ⟨rfl, ⟨nd, rfl⟩⟩) | (go_at_call 14; (with_reducible refine (suturelaw12_op.calls 4 t129 t130 t131 _ A30.out).mono ?_); rintro e w' ⟨rfl, ⟨nd, rfl⟩⟩) | (go_at_call 14; (with_reducible refine (suturelaw12_op.calls 3 t112 t113 t132 _ A32.out).mono ?_); rintro e w' ⟨rfl, ⟨nd, rfl⟩⟩) | (go_at_call 14; (with_reducible refine (suturelaw12_op.calls 4 t112 t132 t133 _ A33.out).mono ?_); rintro e w' ⟨rfl, ⟨nd, rfl⟩⟩))
                  go_ret
                  exact ⟨by first | rfl | (simp; done) | (simp [*]; done), by repeat (first | exact Drawn0.refl _ | apply Drawn0.step)⟩
                · replace c35 := Bool.eq_false_iff.mpr c35
                  subst c35
                  have H1 : (some false) = some r := by rw [if_neg (show ¬ (false = true) by decide)] at H; exact H
                  clear H
                  have H := H1
                  clear H1
                  obtain rfl := Option.some.inj H
                  go_wp2_with (first | ((with_reducible refine gate_callee (f := 14) rfl ?_); refine goesL_ (some 66) rfl rfl Try.func14 (by kernel_rfl) rfl #[.int .i64 9, .int .i64 t112, .int .i64 t113] rfl (by (try simp only [List.map_toArray, List.map_cons, List.map_nil]); first | done | rfl | (simp only [List.length_drop, List.length_take]; rfl)) ?_; (with_reducible refine (suturelaw12_op.calls 9 t112 t113 t122 _ A18.out).mono ?_); rintro e w' ⟨rfl, ⟨nd, rfl⟩⟩; refine ⟨_, rfl, ?_⟩) | ((with_reducible refine gate_callee (f := 14) rfl ?_); refine goesL_ (some 69) rfl rfl Try.func14 (by kernel_rfl) rfl #[.int .i64 9, .int .i64 t113, .int .i64 t112] rfl (by (try simp only [List.map_toArray, List.map_cons, List.map_nil]); first | done | rfl | (simp only [List.length_drop, List.length_take]; rfl)) ?_; (with_reducible refine (suturelaw12_op.calls 9 t113 t112 t123 _ A19.out).mono ?_); rintro e w' ⟨rfl, ⟨nd, rfl⟩⟩; refine ⟨_, rfl, ?_⟩) | ((with_reducible refine gate_callee (f := 14) rfl ?_); refine goesL_ (some 73) rfl rfl Try.func14 (by kernel_rfl) rfl #[.int .i64 10, .int .i64 t112, .int .i64 t113] rfl (by (try simp only [List.map_toArray, List.map_cons, List.map_nil]); first | done | rfl | (simp only [List.length_drop, List.length_take]; rfl)) ?_; (with_reducible refine (suturelaw12_op.calls 10 t112 t113 t124 _ A20.out).mono ?_); rintro e w' ⟨rfl, ⟨nd, rfl⟩⟩; refine ⟨_, rfl, ?_⟩) | ((with_reducible refine gate_callee (f := 8) rfl ?_); refine goesL_ (some 75) rfl rfl Try.func8 (by kernel_rfl) rfl #[] rfl (by (try simp only [List.map_toArray, List.map_cons, List.map_nil]); first | done | rfl | (simp only [List.length_drop, List.length_take]; rfl)) ?_; (with_reducible refine (suturelaw12_known.calls  true _ A21.out).mono ?_); rintro e w' ⟨rfl, ⟨nd, rfl⟩⟩; refine ⟨_, rfl, ?_⟩) | (go_at_call 14; (with_reducible refine (suturelaw12_op.calls 5 t115 t113 t126 _ A23.out).mono ?_); rintro e w' ⟨rfl, ⟨nd, rfl⟩⟩) | (go_at_call 14; (with_reducible refine (suturelaw12_op.calls 4 t113 t112 t127 _ A25.out).mono ?_); rintro e w' ⟨rfl, ⟨nd, rfl⟩⟩) | (go_at_call 14; (with_reducible refine (suturelaw12_op.calls 6 t115 t114 t128 _ A27.out).mono ?_); rintro e w' ⟨rfl, ⟨nd, rfl⟩⟩) | (go_at_call 14; (with_reducible refine (suturelaw12_op.calls 6 t112 t114 t129 _ A28.out).mono ?_); rintro e w' ⟨rfl, ⟨nd, rfl⟩⟩) | (go_at_call 14; (with_reducible refine (suturelaw12_op.calls 6 t113 t114 t130 _ A29.out).mono ?_); rintro e w' ⟨rfl, ⟨nd, rfl⟩⟩) | (go_at_call 14; (with_reducible refine (suturelaw12_op.calls 4 t129 t130 t131 _ A30.out).mono ?_); rintro e w' ⟨rfl, ⟨nd, rfl⟩⟩) | (go_at_call 14; (with_reducible refine (suturelaw12_op.calls 3 t112 t113 t132 _ A32.out).mono ?_); rintro e w' ⟨rfl, ⟨nd, rfl⟩⟩) | (go_at_call 14; (with_reducible refine (suturelaw12_op.calls 4 t112 t132 t133 _ A33.out).mono ?_); rintro e w' ⟨rfl, ⟨nd, rfl⟩⟩))
                  go_ret
                  exact ⟨by first | rfl | (simp; done) | (simp [*]; done), by repeat (first | exact Drawn0.refl _ | apply Drawn0.step)⟩
              · rw [if_neg c34] at H
                have c34b0 : (t133 == 0) = false := beq_eq_false_iff_ne.mpr c34
                have c34b1 : (t133 != 0) = true := bne_iff_ne.mpr c34
                obtain rfl := Option.some.inj H
                go_wp2_with (first | ((with_reducible refine gate_callee (f := 14) rfl ?_); refine goesL_ (some 66) rfl rfl Try.func14 (by kernel_rfl) rfl #[.int .i64 9, .int .i64 t112, .int .i64 t113] rfl (by (try simp only [List.map_toArray, List.map_cons, List.map_nil]); first | done | rfl | (simp only [List.length_drop, List.length_take]; rfl)) ?_; (with_reducible refine (suturelaw12_op.calls 9 t112 t113 t122 _ A18.out).mono ?_); rintro e w' ⟨rfl, ⟨nd, rfl⟩⟩; refine ⟨_, rfl, ?_⟩) | ((with_reducible refine gate_callee (f := 14) rfl ?_); refine goesL_ (some 69) rfl rfl Try.func14 (by kernel_rfl) rfl #[.int .i64 9, .int .i64 t113, .int .i64 t112] rfl (by (try simp only [List.map_toArray, List.map_cons, List.map_nil]); first | done | rfl | (simp only [List.length_drop, List.length_take]; rfl)) ?_; (with_reducible refine (suturelaw12_op.calls 9 t113 t112 t123 _ A19.out).mono ?_); rintro e w' ⟨rfl, ⟨nd, rfl⟩⟩; refine ⟨_, rfl, ?_⟩) | ((with_reducible refine gate_callee (f := 14) rfl ?_); refine goesL_ (some 73) rfl rfl Try.func14 (by kernel_rfl) rfl #[.int .i64 10, .int .i64 t112, .int .i64 t113] rfl (by (try simp only [List.map_toArray, List.map_cons, List.map_nil]); first | done | rfl | (simp only [List.length_drop, List.length_take]; rfl)) ?_; (with_reducible refine (suturelaw12_op.calls 10 t112 t113 t124 _ A20.out).mono ?_); rintro e w' ⟨rfl, ⟨nd, rfl⟩⟩; refine ⟨_, rfl, ?_⟩) | ((with_reducible refine gate_callee (f := 8) rfl ?_); refine goesL_ (some 75) rfl rfl Try.func8 (by kernel_rfl) rfl #[] rfl (by (try simp only [List.map_toArray, List.map_cons, List.map_nil]); first | done | rfl | (simp only [List.length_drop, List.length_take]; rfl)) ?_; (with_reducible refine (suturelaw12_known.calls  true _ A21.out).mono ?_); rintro e w' ⟨rfl, ⟨nd, rfl⟩⟩; refine ⟨_, rfl, ?_⟩) | (go_at_call 14; (with_reducible refine (suturelaw12_op.calls 5 t115 t113 t126 _ A23.out).mono ?_); rintro e w' ⟨rfl, ⟨nd, rfl⟩⟩) | (go_at_call 14; (with_reducible refine (suturelaw12_op.calls 4 t113 t112 t127 _ A25.out).mono ?_); rintro e w' ⟨rfl, ⟨nd, rfl⟩⟩) | (go_at_call 14; (with_reducible refine (suturelaw12_op.calls 6 t115 t114 t128 _ A27.out).mono ?_); rintro e w' ⟨rfl, ⟨nd, rfl⟩⟩) | (go_at_call 14; (with_reducible refine (suturelaw12_op.calls 6 t112 t114 t129 _ A28.out).mono ?_); rintro e w' ⟨rfl, ⟨nd, rfl⟩⟩) | (go_at_call 14; (with_reducible refine (suturelaw12_op.calls 6 t113 t114 t130 _ A29.out).mono ?_); rintro e w' ⟨rfl, ⟨nd, rfl⟩⟩) | (go_at_call 14; (with_reducible refine (suturelaw12_op.calls 4 t129 t130 t131 _ A30.out).mono ?_); rintro e w' ⟨rfl, ⟨nd, rfl⟩⟩) | (go_at_call 14; (with_reducible refine (suturelaw12_op.calls 3 t112 t113 t132 _ A32.out).mono ?_); rintro e w' ⟨rfl, ⟨nd, rfl⟩⟩) | (go_at_call 14; (with_reducible refine (suturelaw12_op.calls 4 t112 t132 t133 _ A33.out).mono ?_); rintro e w' ⟨rfl, ⟨nd, rfl⟩⟩))
                go_ret
                exact ⟨by first | rfl | (simp; done) | (simp [*]; done), by repeat (first | exact Drawn0.refl _ | apply Drawn0.step)⟩
            · rw [if_neg c31] at H
              have c31b0 : (t128 == t131) = false := beq_eq_false_iff_ne.mpr c31
              have c31b1 : (t128 != t131) = true := bne_iff_ne.mpr c31
              obtain rfl := Option.some.inj H
              go_wp2_with (first | ((with_reducible refine gate_callee (f := 14) rfl ?_); refine goesL_ (some 66) rfl rfl Try.func14 (by kernel_rfl) rfl #[.int .i64 9, .int .i64 t112, .int .i64 t113] rfl (by (try simp only [List.map_toArray, List.map_cons, List.map_nil]); first | done | rfl | (simp only [List.length_drop, List.length_take]; rfl)) ?_; (with_reducible refine (suturelaw12_op.calls 9 t112 t113 t122 _ A18.out).mono ?_); rintro e w' ⟨rfl, ⟨nd, rfl⟩⟩; refine ⟨_, rfl, ?_⟩) | ((with_reducible refine gate_callee (f := 14) rfl ?_); refine goesL_ (some 69) rfl rfl Try.func14 (by kernel_rfl) rfl #[.int .i64 9, .int .i64 t113, .int .i64 t112] rfl (by (try simp only [List.map_toArray, List.map_cons, List.map_nil]); first | done | rfl | (simp only [List.length_drop, List.length_take]; rfl)) ?_; (with_reducible refine (suturelaw12_op.calls 9 t113 t112 t123 _ A19.out).mono ?_); rintro e w' ⟨rfl, ⟨nd, rfl⟩⟩; refine ⟨_, rfl, ?_⟩) | ((with_reducible refine gate_callee (f := 14) rfl ?_); refine goesL_ (some 73) rfl rfl Try.func14 (by kernel_rfl) rfl #[.int .i64 10, .int .i64 t112, .int .i64 t113] rfl (by (try simp only [List.map_toArray, List.map_cons, List.map_nil]); first | done | rfl | (simp only [List.length_drop, List.length_take]; rfl)) ?_; (with_reducible refine (suturelaw12_op.calls 10 t112 t113 t124 _ A20.out).mono ?_); rintro e w' ⟨rfl, ⟨nd, rfl⟩⟩; refine ⟨_, rfl, ?_⟩) | ((with_reducible refine gate_callee (f := 8) rfl ?_); refine goesL_ (some 75) rfl rfl Try.func8 (by kernel_rfl) rfl #[] rfl (by (try simp only [List.map_toArray, List.map_cons, List.map_nil]); first | done | rfl | (simp only [List.length_drop, List.length_take]; rfl)) ?_; (with_reducible refine (suturelaw12_known.calls  true _ A21.out).mono ?_); rintro e w' ⟨rfl, ⟨nd, rfl⟩⟩; refine ⟨_, rfl, ?_⟩) | (go_at_call 14; (with_reducible refine (suturelaw12_op.calls 5 t115 t113 t126 _ A23.out).mono ?_); rintro e w' ⟨rfl, ⟨nd, rfl⟩⟩) | (go_at_call 14; (with_reducible refine (suturelaw12_op.calls 4 t113 t112 t127 _ A25.out).mono ?_); rintro e w' ⟨rfl, ⟨nd, rfl⟩⟩) | (go_at_call 14; (with_reducible refine (suturelaw12_op.calls 6 t115 t114 t128 _ A27.out).mono ?_); rintro e w' ⟨rfl, ⟨nd, rfl⟩⟩) | (go_at_call 14; (with_reducible refine (suturelaw12_op.calls 6 t112 t114 t129 _ A28.out).mono ?_); rintro e w' ⟨rfl, ⟨nd, rfl⟩⟩) | (go_at_call 14; (with_reducible refine (suturelaw12_op.calls 6 t113 t114 t130 _ A29.out).mono ?_); rintro e w' ⟨rfl, ⟨nd, rfl⟩⟩) | (go_at_call 14; (with_reducible refine (suturelaw12_op.calls 4 t129 t130 t131 _ A30.out).mono ?_); rintro e w' ⟨rfl, ⟨nd, rfl⟩⟩))
              go_ret
              exact ⟨by first | rfl | (simp; done) | (simp [*]; done), by repeat (first | exact Drawn0.refl _ | apply Drawn0.step)⟩
          · rw [if_neg c26] at H
            have c26b0 : (t115 == t127) = false := beq_eq_false_iff_ne.mpr c26
            have c26b1 : (t115 != t127) = true := bne_iff_ne.mpr c26
            obtain rfl := Option.some.inj H
            go_wp2_with (first | ((with_reducible refine gate_callee (f := 14) rfl ?_); refine goesL_ (some 66) rfl rfl Try.func14 (by kernel_rfl) rfl #[.int .i64 9, .int .i64 t112, .int .i64 t113] rfl (by (try simp only [List.map_toArray, List.map_cons, List.map_nil]); first | done | rfl | (simp only [List.length_drop, List.length_take]; rfl)) ?_; (with_reducible refine (suturelaw12_op.calls 9 t112 t113 t122 _ A18.out).mono ?_); rintro e w' ⟨rfl, ⟨nd, rfl⟩⟩; refine ⟨_, rfl, ?_⟩) | ((with_reducible refine gate_callee (f := 14) rfl ?_); refine goesL_ (some 69) rfl rfl Try.func14 (by kernel_rfl) rfl #[.int .i64 9, .int .i64 t113, .int .i64 t112] rfl (by (try simp only [List.map_toArray, List.map_cons, List.map_nil]); first | done | rfl | (simp only [List.length_drop, List.length_take]; rfl)) ?_; (with_reducible refine (suturelaw12_op.calls 9 t113 t112 t123 _ A19.out).mono ?_); rintro e w' ⟨rfl, ⟨nd, rfl⟩⟩; refine ⟨_, rfl, ?_⟩) | ((with_reducible refine gate_callee (f := 14) rfl ?_); refine goesL_ (some 73) rfl rfl Try.func14 (by kernel_rfl) rfl #[.int .i64 10, .int .i64 t112, .int .i64 t113] rfl (by (try simp only [List.map_toArray, List.map_cons, List.map_nil]); first | done | rfl | (simp only [List.length_drop, List.length_take]; rfl)) ?_; (with_reducible refine (suturelaw12_op.calls 10 t112 t113 t124 _ A20.out).mono ?_); rintro e w' ⟨rfl, ⟨nd, rfl⟩⟩; refine ⟨_, rfl, ?_⟩) | ((with_reducible refine gate_callee (f := 8) rfl ?_); refine goesL_ (some 75) rfl rfl Try.func8 (by kernel_rfl) rfl #[] rfl (by (try simp only [List.map_toArray, List.map_cons, List.map_nil]); first | done | rfl | (simp only [List.length_drop, List.length_take]; rfl)) ?_; (with_reducible refine (suturelaw12_known.calls  true _ A21.out).mono ?_); rintro e w' ⟨rfl, ⟨nd, rfl⟩⟩; refine ⟨_, rfl, ?_⟩) | (go_at_call 14; (with_reducible refine (suturelaw12_op.calls 5 t115 t113 t126 _ A23.out).mono ?_); rintro e w' ⟨rfl, ⟨nd, rfl⟩⟩) | (go_at_call 14; (with_reducible refine (suturelaw12_op.calls 4 t113 t112 t127 _ A25.out).mono ?_); rintro e w' ⟨rfl, ⟨nd, rfl⟩⟩))
            go_ret
            exact ⟨by first | rfl | (simp; done) | (simp [*]; done), by repeat (first | exact Drawn0.refl _ | apply Drawn0.step)⟩
        · rw [if_neg c24] at H
          have c24b0 : (t126 == t112) = false := beq_eq_false_iff_ne.mpr c24
          have c24b1 : (t126 != t112) = true := bne_iff_ne.mpr c24
          obtain rfl := Option.some.inj H
          go_wp2_with (first | ((with_reducible refine gate_callee (f := 14) rfl ?_); refine goesL_ (some 66) rfl rfl Try.func14 (by kernel_rfl) rfl #[.int .i64 9, .int .i64 t112, .int .i64 t113] rfl (by (try simp only [List.map_toArray, List.map_cons, List.map_nil]); first | done | rfl | (simp only [List.length_drop, List.length_take]; rfl)) ?_; (with_reducible refine (suturelaw12_op.calls 9 t112 t113 t122 _ A18.out).mono ?_); rintro e w' ⟨rfl, ⟨nd, rfl⟩⟩; refine ⟨_, rfl, ?_⟩) | ((with_reducible refine gate_callee (f := 14) rfl ?_); refine goesL_ (some 69) rfl rfl Try.func14 (by kernel_rfl) rfl #[.int .i64 9, .int .i64 t113, .int .i64 t112] rfl (by (try simp only [List.map_toArray, List.map_cons, List.map_nil]); first | done | rfl | (simp only [List.length_drop, List.length_take]; rfl)) ?_; (with_reducible refine (suturelaw12_op.calls 9 t113 t112 t123 _ A19.out).mono ?_); rintro e w' ⟨rfl, ⟨nd, rfl⟩⟩; refine ⟨_, rfl, ?_⟩) | ((with_reducible refine gate_callee (f := 14) rfl ?_); refine goesL_ (some 73) rfl rfl Try.func14 (by kernel_rfl) rfl #[.int .i64 10, .int .i64 t112, .int .i64 t113] rfl (by (try simp only [List.map_toArray, List.map_cons, List.map_nil]); first | done | rfl | (simp only [List.length_drop, List.length_take]; rfl)) ?_; (with_reducible refine (suturelaw12_op.calls 10 t112 t113 t124 _ A20.out).mono ?_); rintro e w' ⟨rfl, ⟨nd, rfl⟩⟩; refine ⟨_, rfl, ?_⟩) | ((with_reducible refine gate_callee (f := 8) rfl ?_); refine goesL_ (some 75) rfl rfl Try.func8 (by kernel_rfl) rfl #[] rfl (by (try simp only [List.map_toArray, List.map_cons, List.map_nil]); first | done | rfl | (simp only [List.length_drop, List.length_take]; rfl)) ?_; (with_reducible refine (suturelaw12_known.calls  true _ A21.out).mono ?_); rintro e w' ⟨rfl, ⟨nd, rfl⟩⟩; refine ⟨_, rfl, ?_⟩) | (go_at_call 14; (with_reducible refine (suturelaw12_op.calls 5 t115 t113 t126 _ A23.out).mono ?_); rintro e w' ⟨rfl, ⟨nd, rfl⟩⟩))
          go_ret
          exact ⟨by first | rfl | (simp; done) | (simp [*]; done), by repeat (first | exact Drawn0.refl _ | apply Drawn0.step)⟩
      · replace c22 := Bool.eq_false_iff.mpr c22
        subst c22
        have H1 : (some false) = some r := by rw [if_neg (show ¬ (false = true) by decide)] at H; exact H
        clear H
        have H := H1
        clear H1
        obtain rfl := Option.some.inj H
        go_wp2_with (first | ((with_reducible refine gate_callee (f := 14) rfl ?_); refine goesL_ (some 66) rfl rfl Try.func14 (by kernel_rfl) rfl #[.int .i64 9, .int .i64 t112, .int .i64 t113] rfl (by (try simp only [List.map_toArray, List.map_cons, List.map_nil]); first | done | rfl | (simp only [List.length_drop, List.length_take]; rfl)) ?_; (with_reducible refine (suturelaw12_op.calls 9 t112 t113 t122 _ A18.out).mono ?_); rintro e w' ⟨rfl, ⟨nd, rfl⟩⟩; refine ⟨_, rfl, ?_⟩) | ((with_reducible refine gate_callee (f := 14) rfl ?_); refine goesL_ (some 69) rfl rfl Try.func14 (by kernel_rfl) rfl #[.int .i64 9, .int .i64 t113, .int .i64 t112] rfl (by (try simp only [List.map_toArray, List.map_cons, List.map_nil]); first | done | rfl | (simp only [List.length_drop, List.length_take]; rfl)) ?_; (with_reducible refine (suturelaw12_op.calls 9 t113 t112 t123 _ A19.out).mono ?_); rintro e w' ⟨rfl, ⟨nd, rfl⟩⟩; refine ⟨_, rfl, ?_⟩) | ((with_reducible refine gate_callee (f := 14) rfl ?_); refine goesL_ (some 73) rfl rfl Try.func14 (by kernel_rfl) rfl #[.int .i64 10, .int .i64 t112, .int .i64 t113] rfl (by (try simp only [List.map_toArray, List.map_cons, List.map_nil]); first | done | rfl | (simp only [List.length_drop, List.length_take]; rfl)) ?_; (with_reducible refine (suturelaw12_op.calls 10 t112 t113 t124 _ A20.out).mono ?_); rintro e w' ⟨rfl, ⟨nd, rfl⟩⟩; refine ⟨_, rfl, ?_⟩) | ((with_reducible refine gate_callee (f := 8) rfl ?_); refine goesL_ (some 75) rfl rfl Try.func8 (by kernel_rfl) rfl #[] rfl (by (try simp only [List.map_toArray, List.map_cons, List.map_nil]); first | done | rfl | (simp only [List.length_drop, List.length_take]; rfl)) ?_; (with_reducible refine (suturelaw12_known.calls  false _ A21.out).mono ?_); rintro e w' ⟨rfl, ⟨nd, rfl⟩⟩; refine ⟨_, rfl, ?_⟩))
        go_ret
        exact ⟨by first | rfl | (simp; done) | (simp [*]; done), by repeat (first | exact Drawn0.refl _ | apply Drawn0.step)⟩

/-- THE ONE PURE STATEMENT of suturelaw12_ValueRings: yours. -/
def suturelaw12_ValueRings.Pure : Prop := ∀ (a0 : Int) (a1 : Int) (a2 : Int), (Lit.int .i64 a0).wf = true → (Lit.int .i64 a1).wf = true → (Lit.int .i64 a2).wf = true → ∃ k, suturelaw12_ValueRings.f k a0 a1 a2 = some true
theorem suturelaw12_ValueRings.walk (P : suturelaw12_ValueRings.Pure) (a0 : Int) (a1 : Int) (a2 : Int) (w : World) (w0 : (Lit.int .i64 a0).wf = true) (w1 : (Lit.int .i64 a1).wf = true) (w2 : (Lit.int .i64 a2).wf = true) :
    Calls Try.prog 5 #[.int .i64 a0, .int .i64 a1, .int .i64 a2] w fun e w' => e = .returned (.bool true) ∧ Below w.heap.size w w' := by
  obtain ⟨k, h⟩ := P a0 a1 a2 w0 w1 w2
  refine (suturelaw12_ValueRings.calls k a0 a1 a2 true w h).mono ?_
  rintro e w' ⟨rfl, hd⟩
  exact ⟨rfl, hd.below⟩

end Go.Proofs.Ytgpokdaacbjimaa.PValueRings
