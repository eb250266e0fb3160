/- Chapter 2, plain: whole texts' tokens, places, the texts of the statements, keywords, names. -/
import Derived.Test.YtkolhagejiabhaaDoorLE
import Derived.Test.YtkolhagejiabhaaDoorEngWF
namespace Go.Proofs.YtkolhagejiabhaaDoor.W
open Go Go.Eng Go.Eng.Fl
set_option linter.unusedVariables false
set_option linter.unusedSimpArgs false

theorem must_bind {A C : Type} (c φ : Bool) (r : Option A) (f : A → Option C) : (must c φ r).bind f = must c φ (r.bind f) := by
  unfold must; cases (c && !φ) <;> rfl
theorem cond_bind {A C : Type} (c : Bool) (a b : Option A) (f : A → Option C) : (bif c then a else b).bind f = bif c then a.bind f else b.bind f := by cases c <;> rfl

theorem map_res3 (x : Option ((List T) × (Nat × Nat) × Int × Int × ByteArray × Int × (Nat × Nat))) : x.map res3 = x.bind (fun p => some (p.1, p.2.1, p.2.2.1)) := by cases x <;> rfl

theorem inline_eq (s : ByteArray) (n : Nat) (h : decide ((((ByteArray.size s : Nat) : Int) : Int) > 6000) = false) : m_lex_Tokens n s = (j_lex_Tokens_0_B0 n (j_lex_Tokens_0 n n) (s, [], (0 : Int), 0, (⟨#[]⟩ : ByteArray), 0, (0, 0))).map res3 := by
  unfold m_lex_Tokens j_lex_Tokens_0_B0
  rw [h, map_res3]
  generalize j_lex_Tokens_0 n n = J
  simp only [must_bind, cond_bind, Option.bind_assoc, cond_false]
  rfl

theorem lab0_eq (n m : Nat) (st : ByteArray × (List T) × Int × Int × ByteArray × Int × (Nat × Nat)) : j_lex_Tokens_0 n (m + 1) (Sum.inr (Sum.inr (Sum.inr (Sum.inr (Sum.inr (Sum.inr st)))))) = j_lex_Tokens_0_B0 n (j_lex_Tokens_0 n m) st := rfl

theorem head_eq (s : ByteArray) (n m : Nat) : j_lex_Tokens_0_B0 n (j_lex_Tokens_0 n m) (s, [], (0 : Int), 0, (⟨#[]⟩ : ByteArray), 0, (0, 0)) = j_lex_Tokens_0 n (m + 1) (btw s [] 0 0 (⟨#[]⟩ : ByteArray) 0 (0, 0)) := by
  have e : btw s [] 0 0 (⟨#[]⟩ : ByteArray) 0 (0, 0) = Sum.inr (Sum.inr (Sum.inr (Sum.inr (Sum.inr (Sum.inr (s, [], (0 : Int), 0, (⟨#[]⟩ : ByteArray), 0, (0, 0))))))) := rfl
  rw [e, lab0_eq]

/-- What the program's Tokens comes to. -/
def toksL (s : ByteArray) : List T × (Nat × Nat) × Int :=
  if 6000 < (L s).length then ([], P s 6000, 2) else outL s (lexR (L s) 0 [])

theorem tokens_long {s : ByteArray} {n : Nat} (hs : (L s).length ≤ 281474976710656) (h : 6000 < (L s).length) : m_lex_Tokens n s = some ([], P s 6000, 2) := by
  unfold m_lex_Tokens
  rw [decide_eq_true (show ((ByteArray.size s : Nat) : Int) > 6000 by rw [size_L]; omega)]
  have := of_P n s 6000 hs (by omega)
  have e : ((6000 : Nat) : Int) = 6000 := by omega
  rw [e] at this
  simp only [cond_true, this, Option.bind_some]

theorem tokens_short {s : ByteArray} {n : Nat} (hn : 20000 < n) (h : (L s).length ≤ 6000) : m_lex_Tokens n s = some (outL s (lexR (L s) 0 [])) := by
  have hl := prog_loop (s := s) (n := n) h (by omega) (L s).length 0 [] (n + 1) (by omega) (by omega) (by simp) (by omega) 0 (⟨#[]⟩ : ByteArray) 0 (0, 0)
  rw [List.drop_zero] at hl
  rw [← hl, inline_eq s n (decide_eq_false (show ¬ ((ByteArray.size s : Nat) : Int) > 6000 by rw [size_L]; omega)), head_eq]

theorem tokens_eq {s : ByteArray} {n : Nat} (hs : (L s).length ≤ 281474976710656) (hn : 20000 < n) : m_lex_Tokens n s = some (toksL s) := by
  unfold toksL
  by_cases h : 6000 < (L s).length
  · rw [if_pos h]; exact tokens_long hs h
  · rw [if_neg h]; exact tokens_short hn (by omega)

/-! places -/

theorem spot_loop6 (n : Nat) (s : ByteArray) (hs : (L s).length ≤ 281474976710656) (q : Nat) (hq : q ≤ (L s).length) : ∀ (m i : Nat), i ≤ q → q < i + m →
    l_sutureref1_Spot_5 n m (s, (q : Int), (pos ((L s).take i)).1, (pos ((L s).take i)).2, (i : Int)) = some ((pos ((L s).take q)).1, (pos ((L s).take q)).2)
  | 0, i, h1, h2 => by omega
  | m + 1, i, h1, h2 => by
    rw [l_sutureref1_Spot_5]
    unfold l_sutureref1_Spot_5_B
    simp only
    by_cases h : i < q
    · rw [decide_eq_true (show (i : Int) < (q : Int) by omega)]
      have hlt : i < (L s).length := by omega
      have bb := bounds_pos ((L s).take i)
      rw [List.length_take] at bb
      have ht : (L s).take (i + 1) = (L s).take i ++ [(L s)[i]] := by
        rw [List.take_add_one, List.getElem?_eq_getElem hlt]; rfl
      have hp : pos ((L s).take (i + 1)) = step (pos ((L s).take i)) ((L s)[i]) := by rw [ht, pos_append]; rfl
      have ih := spot_loop6 n s hs q hq m (i + 1) (by omega) (by omega)
      rw [hp] at ih
      simp only [cond_true, bidx_at hlt, Option.bind_some, beq_byte (L s)[i] 10 10 rfl]
      rw [wrap_up (show i ≤ 281474976710656 by omega)]
      by_cases h10 : (L s)[i] = 10
      · rw [beq_iff_eq.2 h10]
        simp only [cond_true]
        rw [wrap_id (by omega) (by omega)]
        rw [show step (pos ((L s).take i)) ((L s)[i]) = ((pos ((L s).take i)).1 + 1, 1) by unfold step; rw [if_pos h10]] at ih
        exact ih
      · rw [beq_eq_false_iff_ne.2 h10]
        simp only [cond_false]
        rw [wrap_id (show -9223372036854775808 ≤ (pos ((L s).take i)).2 + 1 by omega) (by omega)]
        rw [show step (pos ((L s).take i)) ((L s)[i]) = ((pos ((L s).take i)).1, (pos ((L s).take i)).2 + 1) by unfold step; rw [if_neg h10]] at ih
        exact ih
    · rw [decide_eq_false (show ¬ (i : Int) < (q : Int) by omega)]
      have : i = q := by omega
      subst this
      rfl

theorem place_eq {n : Nat} {s : ByteArray} {q : Nat} (hs : (L s).length ≤ 281474976710656) (hq : q ≤ (L s).length) (hn : q < n) : m_sutureref1_Place n s (q : Int) = some (P s q) := by
  unfold m_sutureref1_Place m_sutureref1_Spot m_sutureref1_Within
  have h1 : (if ((q : Nat) : Int) < ((ByteArray.size s : Nat) : Int) then ((q : Nat) : Int) else ((ByteArray.size s : Nat) : Int)) = (q : Int) := by
    rw [size_L]
    by_cases h : q < (L s).length
    · rw [if_pos (by omega)]
    · rw [if_neg (by omega)]; omega
  have h2 : (if (0 : Int) < ((q : Nat) : Int) then ((q : Nat) : Int) else 0) = (q : Int) := by
    by_cases h : 0 < q
    · rw [if_pos (by omega)]
    · rw [if_neg (by omega)]; omega
  rw [h1, h2]
  have hl := spot_loop6 n s hs q hq n 0 (by omega) (by omega)
  rw [List.take_zero] at hl
  have e : pos [] = (1, 1) := rfl
  rw [e] at hl
  simp only [Option.bind_some]
  rw [show ((0 : Int)) = ((0 : Nat) : Int) from rfl, hl]
  rfl

theorem P_small {s : ByteArray} (hs : (L s).length ≤ 281474976710656) (q : Nat) : (pos ((L s).take q)).1.natAbs < 2 ^ 53 ∧ (pos ((L s).take q)).2.natAbs < 2 ^ 53 := by
  have hb := bounds_pos ((L s).take q)
  rw [List.length_take] at hb
  have e : (2 : Nat) ^ 53 = 9007199254740992 := rfl
  omega

theorem eqF {a b : Int} (ha : a.natAbs < 2 ^ 53) (hb : b.natAbs < 2 ^ 53) : (Ieee.Format.order (FloatKind.format .f64) (F a) (F b) == some .eq) = decide (a = b) := by
  rw [order_F a b ha hb]
  by_cases h : a = b
  · subst h; simp
  · have : compare a b ≠ .eq := fun hh => h (Int.compare_eq_eq.1 hh)
    simp [h, this]

theorem P_refl {s : ByteArray} (hs : (L s).length ≤ 281474976710656) (q : Nat) : cplxEq .f64 (P s q).1 (P s q).2 (P s q).1 (P s q).2 = true := by
  obtain ⟨h1, h2⟩ := P_small hs q
  unfold cplxEq P
  simp only
  rw [eqF h1 h1, eqF h2 h2]
  simp

theorem zero_refl : cplxEq .f64 0 0 0 0 = true := by decide +kernel

/-! the statements' texts -/

def okT (t : T) : Bool := match t with
  | .sc (.string p) => Nat.ble p.size 11
  | _ => false

theorem part_ok {ps : List T} (h : ps.all okT = true) {k : Nat} (hk : k < ps.length) : ∃ y, idx1 true .str ps (k : Int) = some y ∧ y.str.size ≤ 11 := by
  have hy := List.all_eq_true.1 h ps[k] (List.getElem_mem hk)
  unfold idx1
  simp only [cond_true, Int.toNat_natCast, List.getElem?_eq_getElem hk]
  rw [decide_eq_true (show (0 : Int) ≤ (k : Int) by omega)]
  simp only [cond_true]
  generalize ps[k] = y at hy ⊢
  unfold okT at hy
  split at hy
  · rename_i p
    exact ⟨_, rfl, by simpa [T.str] using hy⟩
  · cases hy

theorem few_eq (n : Nat) (s : ByteArray) (k : Int) (h0 : 0 ≤ k) : ∃ r, m_suturehand_Few n s k = some r ∧ (r.size : Int) ≤ k := by
  unfold m_suturehand_Few
  by_cases h : ((ByteArray.size s : Nat) : Int) > k
  · rw [decide_eq_true h]
    simp only [cond_true]
    rw [must_eq (by simp only [Bool.and_eq_true, decide_eq_true_eq]; omega)]
    refine ⟨_, rfl, ?_⟩
    rw [size_L, ext_B, L_B, List.length_take]
    have e0 : Int.toNat (0 : Int) = 0 := rfl
    rw [e0]
    omega
  · rw [decide_eq_false h]
    exact ⟨_, rfl, by omega⟩

def int1 (x : Int) : T := .sc (.int .i64 x)
theorem idx_ints {v : List Int} {i : Nat} (h : i < v.length) : idx true [.int .i64] (ints .i64 v) (i : Int) = some (int1 v[i]) := by
  have h0 : decide ((0 : Int) ≤ (i : Int)) = true := by simp
  simp only [idx, cond_true, h0, Int.toNat_natCast, ints, List.getElem?_map, List.getElem?_eq_getElem h, Option.map_some]
  rfl

theorem maxI : (IntKind.i64.max : Int) = 9223372036854775807 := rfl

theorem text_ok {n : Nat} {z : List Int} (raw : ByteArray) (hz : z.length ≤ 17592186044416) (hn : z.length < n) :
    ∃ s, m_suturelaw2_text n (ints .i64 z) raw = some s ∧ (L s).length ≤ 11 * z.length := by
  have loop : ∀ (m i : Nat) (acc : ByteArray), i ≤ z.length → z.length - i < m → acc.size ≤ 11 * i →
      ∃ x, l_suturelaw2_text_4 n m (raw, acc, ints .i64 z, ((List.length (ints .i64 z) : Nat) : Int), (i : Int), (⟨#[120]⟩ : ByteArray), (⟨#[121]⟩ : ByteArray), (⟨#[103, 111]⟩ : ByteArray), (⟨#[32]⟩ : ByteArray), (⟨#[10]⟩ : ByteArray), (⟨#[123]⟩ : ByteArray), (⟨#[125]⟩ : ByteArray), (⟨#[61]⟩ : ByteArray), (⟨#[61, 61]⟩ : ByteArray), (⟨#[40]⟩ : ByteArray), (⟨#[41]⟩ : ByteArray), (⟨#[43]⟩ : ByteArray), (⟨#[45]⟩ : ByteArray), (⟨#[42]⟩ : ByteArray), (⟨#[47]⟩ : ByteArray), (⟨#[37]⟩ : ByteArray), (⟨#[60]⟩ : ByteArray), (⟨#[55]⟩ : ByteArray), (⟨#[48]⟩ : ByteArray), (⟨#[49, 50]⟩ : ByteArray), (⟨#[114, 101, 112, 101, 97, 116]⟩ : ByteArray), (⟨#[35, 32, 110, 111, 116, 101, 32, 61, 32, 123, 10]⟩ : ByteArray), (⟨#[9]⟩ : ByteArray), (⟨#[103, 111, 116, 111]⟩ : ByteArray), (⟨#[108, 97, 98, 101, 108]⟩ : ByteArray), (⟨#[122, 57]⟩ : ByteArray), (⟨#[108, 111, 99, 107]⟩ : ByteArray), (⟨#[57]⟩ : ByteArray), (⟨#[97]⟩ : ByteArray), (⟨#[112, 114, 105, 110, 116]⟩ : ByteArray)) = some x ∧ x.1.size ≤ 11 * z.length := by
    intro m
    induction m with
    | zero => intro i acc _ hm; omega
    | succ m ih =>
      intro i acc hi hm ha
      rw [l_suturelaw2_text_4]
      unfold l_suturelaw2_text_4_B
      simp only
      have hlen : (List.length (ints .i64 z) : Nat) = z.length := by simp [ints]
      by_cases hlt : i < z.length
      · rw [decide_eq_true (show (i : Int) < ((List.length (ints .i64 z) : Nat) : Int) by rw [hlen]; omega)]
        simp only [cond_true, idx_ints hlt, Option.bind_some]
        obtain ⟨k, hk1, hk2⟩ := pick_eq n ((int1 z[i]).cell 0).int 33 (by omega) (by omega)
        rw [hk1]
        simp only [Option.bind_some]
        rw [wrap_up (show i ≤ 281474976710656 by omega)]
        have happ : ∀ y : ByteArray, (acc ++ y).size = acc.size + y.size := fun y => ByteArray.size_append
        by_cases h30 : (k : Int) < 30
        · rw [decide_eq_true h30]
          simp only [cond_true]
          rw [must_eq (by rw [Bool.and_eq_true, decide_eq_true_eq, decide_eq_true_eq]; omega)]
          obtain ⟨y, hy1, hy2⟩ := part_ok (ps := [(T.sc (.string (⟨#[120]⟩ : ByteArray))), (T.sc (.string (⟨#[121]⟩ : ByteArray))), (T.sc (.string (⟨#[103, 111]⟩ : ByteArray))), (T.sc (.string (⟨#[32]⟩ : ByteArray))), (T.sc (.string (⟨#[10]⟩ : ByteArray))), (T.sc (.string (⟨#[123]⟩ : ByteArray))), (T.sc (.string (⟨#[125]⟩ : ByteArray))), (T.sc (.string (⟨#[61]⟩ : ByteArray))), (T.sc (.string (⟨#[61, 61]⟩ : ByteArray))), (T.sc (.string (⟨#[40]⟩ : ByteArray))), (T.sc (.string (⟨#[41]⟩ : ByteArray))), (T.sc (.string (⟨#[43]⟩ : ByteArray))), (T.sc (.string (⟨#[45]⟩ : ByteArray))), (T.sc (.string (⟨#[42]⟩ : ByteArray))), (T.sc (.string (⟨#[47]⟩ : ByteArray))), (T.sc (.string (⟨#[37]⟩ : ByteArray))), (T.sc (.string (⟨#[60]⟩ : ByteArray))), (T.sc (.string (⟨#[55]⟩ : ByteArray))), (T.sc (.string (⟨#[48]⟩ : ByteArray))), (T.sc (.string (⟨#[49, 50]⟩ : ByteArray))), (T.sc (.string (⟨#[114, 101, 112, 101, 97, 116]⟩ : ByteArray))), (T.sc (.string (⟨#[35, 32, 110, 111, 116, 101, 32, 61, 32, 123, 10]⟩ : ByteArray))), (T.sc (.string (⟨#[9]⟩ : ByteArray))), (T.sc (.string (⟨#[103, 111, 116, 111]⟩ : ByteArray))), (T.sc (.string (⟨#[108, 97, 98, 101, 108]⟩ : ByteArray))), (T.sc (.string (⟨#[122, 57]⟩ : ByteArray))), (T.sc (.string (⟨#[108, 111, 99, 107]⟩ : ByteArray))), (T.sc (.string (⟨#[57]⟩ : ByteArray))), (T.sc (.string (⟨#[97]⟩ : ByteArray))), (T.sc (.string (⟨#[112, 114, 105, 110, 116]⟩ : ByteArray)))]) rfl (show k < 30 by omega)
          rw [hy1]
          simp only [Option.bind_some]
          rw [must_eq (by rw [decide_eq_true_eq, maxI]; omega)]
          exact ih (i + 1) _ (by omega) (by omega) (by rw [happ]; omega)
        · rw [decide_eq_false h30]
          simp only [cond_false]
          rw [must_eq (show (!decide ((33 : Nat) = 0)) = true from rfl)]
          obtain ⟨j, hj1, hj2⟩ := pick_eq n (IntKind.wrap .i64 (Int.tdiv ((int1 z[i]).cell 0).int 33)) 3 (by omega) (by omega)
          rw [hj1]
          simp only [Option.bind_some]
          rw [wrap_id (show -9223372036854775808 ≤ 1 + (j : Int) by omega) (by omega)]
          obtain ⟨r, hr1, hr2⟩ := few_eq n raw (1 + (j : Int)) (by omega)
          rw [hr1]
          simp only [Option.bind_some]
          rw [must_eq (by rw [decide_eq_true_eq, maxI]; omega)]
          exact ih (i + 1) _ (by omega) (by omega) (by rw [happ]; omega)
      · rw [decide_eq_false (show ¬ (i : Int) < ((List.length (ints .i64 z) : Nat) : Int) by rw [hlen]; omega)]
        exact ⟨_, rfl, by show acc.size ≤ _; omega⟩
  obtain ⟨x, hx1, hx2⟩ := loop n 0 (⟨#[]⟩ : ByteArray) (by omega) (by omega) (by show 0 ≤ _; omega)
  refine ⟨x.1, ?_, by rw [← size_L]; exact hx2⟩
  unfold m_suturelaw2_text
  rw [show ((0 : Int)) = ((0 : Nat) : Int) from rfl, hx1]
  rfl
end Go.Proofs.YtkolhagejiabhaaDoor.W
