/- The function suturehand.Decls, by hand: a list of declarations that it makes, and turns in place. No conditions. -/
import Derived.Test.YtgpokdaacbjimabBase
import Derived.Test.YtgpokdaacbjimabEngWH
namespace Go.Proofs.Ytgpokdaacbjimab.W
open Go Go.Eng Go.RowKit
set_option maxRecDepth 100000
set_option linter.unusedVariables false
set_option linter.unusedSimpArgs false

def pickW (n m : Int) : Int := if Int.tmod n m < 0 then wrap64 (Int.tmod n m + m) else Int.tmod n m
def declT1 (k : Int) (s : ByteArray) (m : Int) : T := T.agg [(T.sc (.int .i64 k)), (T.sc (.string s)), (T.sc (.int .i64 m)), (T.sc (.complex .f64 0 0))]
def declT (k0 k1 c : Int) : List T := [declT1 k0 ⟨#[120]⟩ 0, declT1 k1 ⟨#[121]⟩ 0, declT1 2 ⟨#[122]⟩ 0, declT1 3 ⟨#[97]⟩ 0, declT1 4 ⟨#[116]⟩ 0, declT1 5 ⟨#[109]⟩ 0, declT1 6 ⟨#[99]⟩ c, declT1 6 ⟨#[100]⟩ 0]
def declsK (k c : Int) : List T := declT (if k = 4 then 2 else if k = 6 then 3 else 1) (if k = 5 then 2 else 1) c
def declsM (how : Int) : Option (List T) := some (declsK (pickW (wrap64 (Int.tdiv how 3)) 7) (pickW how 3))
abbrev declV (k0 k1 c : Int) : List Value := [.int .i64 k0, .string ⟨#[120]⟩, .int .i64 0, .complex .f64 0 0, .int .i64 k1, .string ⟨#[121]⟩, .int .i64 0, .complex .f64 0 0, .int .i64 2, .string ⟨#[122]⟩, .int .i64 0, .complex .f64 0 0, .int .i64 3, .string ⟨#[97]⟩, .int .i64 0, .complex .f64 0 0,
      .int .i64 4, .string ⟨#[116]⟩, .int .i64 0, .complex .f64 0 0, .int .i64 5, .string ⟨#[109]⟩, .int .i64 0, .complex .f64 0 0, .int .i64 6, .string ⟨#[99]⟩, .int .i64 c, .complex .f64 0 0, .int .i64 6, .string ⟨#[100]⟩, .int .i64 0, .complex .f64 0 0]

theorem declsK4 {k c : Int} (h : (k == 4) = true) : declT 2 1 c = declsK k c := by
  obtain rfl := beq_iff_eq.1 h; rfl
theorem declsK5 {k c : Int} (h : (k == 4) = false) (h5 : (k == 5) = true) : declT 1 2 c = declsK k c := by
  obtain rfl := beq_iff_eq.1 h5; rfl
theorem declsK6 {k c : Int} (h : (k == 4) = false) (h5 : (k == 5) = false) (h6 : (k == 6) = true) : declT 3 1 c = declsK k c := by
  obtain rfl := beq_iff_eq.1 h6; rfl
theorem declsK0 {k c : Int} (h : (k == 4) = false) (h5 : (k == 5) = false) (h6 : (k == 6) = false) : declT 1 1 c = declsK k c := by
  unfold declsK
  rw [if_neg (beq_eq_false_iff_ne.1 h), if_neg (beq_eq_false_iff_ne.1 h6), if_neg (beq_eq_false_iff_ne.1 h5)]

set_option maxHeartbeats 4000000 in
theorem decls_calls (how : Int) (w : World) : Calls Try.prog 25 #[.int .i64 how] w fun e w' => ∃ k0 k1 c, declsM how = some (declT k0 k1 c) ∧ e = .returned (.slice (some ⟨w.heap.size, 0, none⟩) 8 8) ∧ w' = w.alloc (.cells (declV k0 k1 c).toArray 92) := by
  go_enter Try.func25, Try.ntmps25
  go_wp2
  all_goals go_ret
  all_goals refine ⟨_, _, _, ?_, rfl, rfl⟩
  all_goals unfold declsM pickW
  all_goals first
    | (rw [if_neg (by omega)]; rw [if_neg (by omega)])
    | (rw [if_pos (by assumption)]; rw [if_neg (by omega)])
    | (rw [if_neg (by omega)]; rw [if_pos (by assumption)])
    | (rw [if_pos (by assumption)]; rw [if_pos (by assumption)])
  all_goals refine congrArg some (Eq.symm ?_)
  all_goals first
    | exact declsK4 (by assumption)
    | exact declsK5 (by assumption) (by assumption)
    | exact declsK6 (by assumption) (by assumption) (by assumption)
    | exact declsK0 (by assumption) (by assumption) (by assumption)

theorem decl_flat (k0 k1 c : Int) : (declT k0 k1 c).flatMap T.cells = (declV k0 k1 c).map T.sc := by
  simp [declT, declT1, T.cells]
theorem declV_flat (k0 k1 c : Int) : ∀ v ∈ declV k0 k1 c, flat v = true := by
  simp [flat]

theorem x_suturehand_Decls {a0 : Int} {r : List T} (h : declsM a0 = some r) : FuncOk Try.prog 25 [V.t (T.sc (.int .i64 a0))] [] (V.own 4 r) [] := by
  refine ext_any Try.func25 (by kernel_rfl) (by kernel_rfl) (fun w g args hsz hrel hW _ => ?_)
  obtain ⟨x0, rfl, h0⟩ := args1 hsz hrel
  obtain rfl := rel_sc h0
  refine (decls_calls a0 w).mono ?_
  rintro e w' ⟨k0, k1, c, hm, rfl, rfl⟩
  rw [h] at hm
  simp only [Option.some.injEq] at hm
  subst hm
  have hflat := decl_flat k0 k1 c
  have hfl := declV_flat k0 k1 c
  have hlen : (declT k0 k1 c).length = 8 := rfl
  have hsz4 : ∀ y ∈ declT k0 k1 c, y.cells.length = 4 := by
    intro y hy
    simp only [declT, List.mem_cons, List.not_mem_nil, or_false] at hy
    rcases hy with rfl | rfl | rfl | rfl | rfl | rfl | rfl | rfl <;> rfl
  generalize declT k0 k1 c = es at *
  generalize declV k0 k1 c = vs at *
  have hbel : Below w.heap.size w (w.alloc (.cells vs.toArray 92)) := (Below.refl _ _).alloc (Nat.le_refl _) _
  have hcell := (MapKept.heap_alloc w (.cells vs.toArray 92)).1
  refine ⟨_, fun b => if b = w.heap.size then some 32 else g.F b, rfl, fun b hb => if_neg (by omega), fun b lim hb => ?_, ?_, hbel⟩
  · by_cases hbs : b = w.heap.size
    · subst hbs; exact (Array.getElem?_eq_some_iff.1 hcell).1
    · have hb' : (if b = w.heap.size then some 32 else g.F b) = some lim := hb
      rw [if_neg hbs] at hb'; exact Nat.lt_of_lt_of_le (hW.lt b lim hb') hbel.size
  · simp only [RelV]
    right
    refine ⟨w.heap.size, 0, 8, 32, by rw [hlen], by omega, ⟨if_pos rfl, by omega, by decide, hsz4, ?_⟩, .inl hlen.symm⟩
    intro k x hx
    rw [hflat, List.getElem?_map] at hx
    obtain ⟨v, hv, rfl⟩ := Option.map_eq_some_iff.1 hx
    refine ⟨v, ?_, .sc v (hfl v (List.mem_of_getElem? hv))⟩
    simp only [World.cell?]
    rw [hcell, Nat.zero_add]
    simpa using hv

end Go.Proofs.Ytgpokdaacbjimab.W
