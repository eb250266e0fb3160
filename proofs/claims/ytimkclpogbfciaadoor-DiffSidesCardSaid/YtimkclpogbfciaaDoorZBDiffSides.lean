/- Own texts, several in one. No conditions. -/
import Derived.Test.YtimkclpogbfciaaDoorZADiffSides
import Derived.Test.YtimkclpogbfciaaDoorS
import Derived.Test.YtimkclpogbfciaaDoorEngWF
namespace Go.Proofs.YtimkclpogbfciaaDoor.W
open Go Go.Eng
set_option linter.unusedVariables false
set_option linter.unusedSimpArgs false
set_option maxRecDepth 100000

theorem w64 {x : Int} (h1 : -9223372036854775808 ≤ x) (h2 : x < 9223372036854775808) : IntKind.wrap .i64 x = x := by
  have := IntKind.wrap_i64 x; omega
theorem w8 {x : Int} (h1 : 0 ≤ x) (h2 : x < 256) : IntKind.wrap .u8 x = x := by
  have := IntKind.wrap_u8 x; omega
theorem bidx_at {s : ByteArray} {p r : List UInt8} {c : UInt8} (h : s.data.toList = p ++ c :: r) : bidx true s (p.length : Int) = some c := by
  have hs : s.size = p.length + 1 + r.length := by rw [size_data, h]; simp; omega
  unfold bidx
  rw [cond_true, decide_eq_true (Int.natCast_nonneg _), cond_true, Int.toNat_natCast]
  have h2 : s.data.toList[p.length]? = some c := by rw [h, List.getElem?_append_right (Nat.le_refl _)]; simp
  rw [ByteArray.getElem?_lt' s _ (by omega)]
  rw [List.getElem?_eq_getElem (by rw [← size_data]; omega)] at h2
  exact h2
theorem bidx_false (s : ByteArray) (k : Int) : bidx false s k = some 0 := rfl
theorem must_ok {R : Type} {c φ : Bool} {r : Option R} (h : φ = true) : must c φ r = r := by unfold must; rw [h]; cases c <;> rfl

theorem kept7 (n : Nat) (s : ByteArray) (cnt kind : Int) : ∀ (ds : List UInt8) (p r : List UInt8) (c : UInt8) (acc k : Nat), s.data.toList = p ++ (ds ++ c :: r) → (∀ d ∈ ds, 48 ≤ d.toNat ∧ d.toNat ≤ 57) → (c.toNat < 48 ∨ 57 < c.toNat) → s.size < 1000000 →
    ds.length < k → (acc + 1) * 10 ^ ds.length ≤ 1000 → l_suturelaw7_kept_7 n k (s, cnt, (p.length : Int), kind, (acc : Int)) = some (s, cnt, ((p.length + ds.length : Nat) : Int), kind, ((ds.foldl (fun a c => 10 * a + (c.toNat - 48)) acc : Nat) : Int)) := by
  intro ds
  induction ds with
  | nil =>
    intro p r c acc k hs _ hc hsz hk _
    obtain ⟨k, rfl⟩ : ∃ j, k = j + 1 := ⟨k - 1, by simp at hk; omega⟩
    rw [List.nil_append] at hs
    have hlt : (p.length : Int) < ((ByteArray.size s : Nat) : Int) := by
      have : s.size = p.length + 1 + r.length := by rw [size_data, hs]; simp; omega
      omega
    show l_suturelaw7_kept_7_B n (l_suturelaw7_kept_7 n k) _ = _
    unfold l_suturelaw7_kept_7_B
    simp only [decide_eq_true hlt, cond_true, bidx_at hs, Option.bind_some]
    rcases hc with hc | hc
    · have : decide ((((UInt8.toNat c : Nat) : Int) : Int) ≥ 48) = false := decide_eq_false (by omega)
      simp only [this, bidx_false, Option.bind_some, cond_false]
      rfl
    · have : decide ((((UInt8.toNat c : Nat) : Int) : Int) ≥ 48) = true := decide_eq_true (by omega)
      have h2 : decide ((((UInt8.toNat c : Nat) : Int) : Int) ≤ 57) = false := decide_eq_false (by omega)
      simp only [this, bidx_at hs, Option.bind_some, cond_true, h2, cond_false]
      rfl
  | cons d ds ih =>
    intro p r c acc k hs hd hc hsz hk ha
    obtain ⟨k, rfl⟩ : ∃ j, k = j + 1 := ⟨k - 1, by omega⟩
    obtain ⟨d1, d2⟩ := hd d (by simp)
    have hs1 : s.data.toList = p ++ d :: (ds ++ c :: r) := by rw [hs]; rfl
    have hlt : (p.length : Int) < ((ByteArray.size s : Nat) : Int) ∧ p.length < 1000000 := by
      have : s.size = p.length + 1 + (ds ++ c :: r).length := by rw [size_data, hs1]; simp; omega
      omega
    show l_suturelaw7_kept_7_B n (l_suturelaw7_kept_7 n k) _ = _
    unfold l_suturelaw7_kept_7_B
    have h1 : decide ((((UInt8.toNat d : Nat) : Int) : Int) ≥ 48) = true := decide_eq_true (by omega)
    have h2 : decide ((((UInt8.toNat d : Nat) : Int) : Int) ≤ 57) = true := decide_eq_true (by omega)
    simp only [decide_eq_true hlt.1, cond_true, bidx_at hs1, Option.bind_some, h1, h2]
    have hpow : 1 ≤ 10 ^ ds.length := Nat.one_le_pow _ _ (by decide)
    have hb : (10 * acc + (d.toNat - 48) + 1) * 10 ^ ds.length ≤ 1000 := by
      refine Nat.le_trans ?_ ha
      rw [List.length_cons, Nat.pow_succ, Nat.mul_comm (10 ^ ds.length) 10, ← Nat.mul_assoc]
      exact Nat.mul_le_mul_right _ (by omega)
    have ha1 : 10 * acc + (d.toNat - 48) + 1 ≤ 1000 := Nat.le_trans (by
      have := Nat.mul_le_mul_left (10 * acc + (d.toNat - 48) + 1) hpow
      omega) hb
    have e1 : IntKind.wrap .i64 ((p.length : Int) + 1) = (((p ++ [d]).length : Nat) : Int) := by rw [w64 (by omega) (by omega)]; simp
    have e2 : IntKind.wrap .i64 (IntKind.wrap .i64 (10 * (acc : Int)) + IntKind.wrap .i64 (IntKind.wrap .u8 (((UInt8.toNat d : Nat) : Int) - 48))) = ((10 * acc + (d.toNat - 48) : Nat) : Int) := by
      rw [w8 (by omega) (by omega), w64 (x := 10 * (acc : Int)) (by omega) (by omega), w64 (x := ((UInt8.toNat d : Nat) : Int) - 48) (by omega) (by omega), w64 (by omega) (by omega)]
      omega
    rw [e1, e2]
    rw [ih (p ++ [d]) r c _ k (by rw [hs]; simp) (fun x hx => hd x (by simp [hx])) hc hsz (by simp at hk; omega) hb]
    simp only [List.length_append, List.length_cons, List.length_nil, List.foldl_cons]
    rw [show p.length + (0 + 1) + ds.length = p.length + (ds.length + 1) by omega]

theorem size_cons {s : ByteArray} {p r : List UInt8} {c : UInt8} (h : s.data.toList = p ++ c :: r) : s.size = p.length + 1 + r.length := by rw [size_data, h]; simp; omega

/-- How many lines are kept, by what is told. -/
theorem kept3 (n : Nat) (hn : 10 ≤ n) (s : ByteArray) (hsz : s.size < 1000000) : ∀ (ps : List (Pc ByteArray)) (p : List UInt8) (b cnt k : Nat), s.data.toList = p ++ rdr ps → Gd b ps → ps.length < k → cnt + pk ps < 1000000 →
    l_suturelaw7_kept_3 n k (s, (cnt : Int), (p.length : Int)) = some ((cnt + pk ps : Nat) : Int) := by
  intro ps
  induction ps with
  | nil =>
    intro p b cnt k hs _ hk _
    obtain ⟨k, rfl⟩ : ∃ j, k = j + 1 := ⟨k - 1, by simp at hk; omega⟩
    show l_suturelaw7_kept_3_B n (l_suturelaw7_kept_3 n k) _ = _
    unfold l_suturelaw7_kept_3_B
    have : s.size = p.length := by rw [size_data, hs]; simp [rdr]
    have hd : decide ((p.length : Int) < ((ByteArray.size s : Nat) : Int)) = false := decide_eq_false (by omega)
    simp only [hd, cond_false]
    rfl
  | cons q ps ih =>
    intro p b cnt k hs hg hk hc
    obtain ⟨k, rfl⟩ : ∃ j, k = j + 1 := ⟨k - 1, by omega⟩
    have hk2 : ps.length < k := by simp at hk; omega
    show l_suturelaw7_kept_3_B n (l_suturelaw7_kept_3 n k) _ = _
    unfold l_suturelaw7_kept_3_B
    have run : ∀ (m : Nat) (c d : UInt8) (r : List UInt8), m < 100 → (d.toNat < 48 ∨ 57 < d.toNat) → s.data.toList = p ++ c :: (Lib.decDigits m ++ d :: r) →
        (p.length : Int) < ((ByteArray.size s : Nat) : Int) ∧ bidx true s (p.length : Int) = some c ∧ s.size = p.length + 1 + (Lib.decDigits m).length + 1 + r.length ∧
        l_suturelaw7_kept_7 n n (s, (cnt : Int), IntKind.wrap .i64 ((p.length : Int) + 1), ((UInt8.toNat c : Nat) : Int), 0) = some (s, (cnt : Int), ((p.length + 1 + (Lib.decDigits m).length : Nat) : Int), ((UInt8.toNat c : Nat) : Int), (m : Int)) := by
      intro m c d r hm hd hs2
      obtain ⟨f1, f2, f3, f4, f5⟩ := dig_facts hm
      have hl := dec_le hm
      have hz := size_cons hs2
      have hz2 : (Lib.decDigits m ++ d :: r).length = (Lib.decDigits m).length + 1 + r.length := by simp; omega
      refine ⟨by omega, bidx_at hs2, by omega, ?_⟩
      have e1 : IntKind.wrap .i64 ((p.length : Int) + 1) = (((p ++ [c]).length : Nat) : Int) := by rw [w64 (by omega) (by omega)]; simp
      have h7 := kept7 n s cnt ((UInt8.toNat c : Nat) : Int) (Lib.decDigits m) (p ++ [c]) r d 0 n (by rw [hs2]; simp) f3 hd hsz (by omega) (by
        have : 10 ^ (Lib.decDigits m).length ≤ 10 ^ 2 := Nat.pow_le_pow_right (by decide) hl
        omega)
      rw [show ((0 : Nat) : Int) = 0 from rfl] at h7
      rw [e1, h7, f5]
      simp
    cases q with
    | kp m =>
      obtain ⟨g1, g2, g3, g4⟩ := hg
      have hs2 : s.data.toList = p ++ (61 : UInt8) :: (Lib.decDigits m ++ (10 : UInt8) :: rdr ps) := by rw [hs, rdr, runL_cons]; simp
      obtain ⟨r1, r2, r3, r4⟩ := run m 61 10 (rdr ps) g3 (by decide) hs2
      simp only [decide_eq_true r1, cond_true, r2, Option.bind_some, r4]
      have e61 : (((UInt8.toNat 61 : Nat) : Int) == 61) = true := rfl
      have e43 : (((UInt8.toNat 61 : Nat) : Int) == 43) = false := rfl
      simp only [pk] at hc ⊢
      rw [e61, e43, cond_true, cond_false, w64 (by omega) (by omega), w64 (by omega) (by omega)]
      have := ih (p ++ (61 : UInt8) :: (Lib.decDigits m ++ [10])) 61 (cnt + m) k (by rw [hs2]; simp) g4 hk2 (by omega)
      rw [show (((p ++ (61 : UInt8) :: (Lib.decDigits m ++ [10])).length : Nat) : Int) = ((p.length + 1 + (Lib.decDigits m).length : Nat) : Int) + 1 by simp; omega] at this
      rw [show ((cnt : Int) + (m : Int)) = ((cnt + m : Nat) : Int) by omega, this]
      congr 2; omega
    | dp m =>
      obtain ⟨g1, g2, g3, g4⟩ := hg
      have hs2 : s.data.toList = p ++ (45 : UInt8) :: (Lib.decDigits m ++ (10 : UInt8) :: rdr ps) := by rw [hs, rdr, runL_cons]; simp
      obtain ⟨r1, r2, r3, r4⟩ := run m 45 10 (rdr ps) g3 (by decide) hs2
      simp only [decide_eq_true r1, cond_true, r2, Option.bind_some, r4]
      have e61 : (((UInt8.toNat 45 : Nat) : Int) == 61) = false := rfl
      have e43 : (((UInt8.toNat 45 : Nat) : Int) == 43) = false := rfl
      simp only [pk] at hc ⊢
      rw [e61, e43, cond_false, cond_false, w64 (by omega) (by omega)]
      have := ih (p ++ (45 : UInt8) :: (Lib.decDigits m ++ [10])) 45 cnt k (by rw [hs2]; simp) g4 hk2 (by omega)
      rw [show (((p ++ (45 : UInt8) :: (Lib.decDigits m ++ [10])).length : Nat) : Int) = ((p.length + 1 + (Lib.decDigits m).length : Nat) : Int) + 1 by simp; omega] at this
      rw [this]
    | ad y =>
      obtain ⟨g1, g4⟩ := hg
      have hs2 : s.data.toList = p ++ (43 : UInt8) :: (Lib.decDigits y.size ++ (58 : UInt8) :: (y.data.toList ++ 10 :: rdr ps)) := by rw [hs, rdr, addL]; simp
      obtain ⟨r1, r2, r3, r4⟩ := run y.size 43 58 (y.data.toList ++ 10 :: rdr ps) g1.2 (by decide) hs2
      have hyl : y.data.toList.length = y.size := (size_data y).symm
      have hly := g1.2
      simp only [decide_eq_true r1, cond_true, r2, Option.bind_some, r4]
      have e61 : (((UInt8.toNat 43 : Nat) : Int) == 61) = false := rfl
      have e43 : (((UInt8.toNat 43 : Nat) : Int) == 43) = true := rfl
      simp only [pk] at hc ⊢
      rw [e61, e43, cond_false, cond_true, w64 (x := ((p.length + 1 + (Lib.decDigits y.size).length : Nat) : Int) + 1) (by omega) (by omega), w64 (x := ((p.length + 1 + (Lib.decDigits y.size).length : Nat) : Int) + 1 + (y.size : Int)) (by omega) (by omega), w64 (by omega) (by omega)]
      have := ih (p ++ (43 : UInt8) :: (Lib.decDigits y.size ++ (58 : UInt8) :: (y.data.toList ++ [10]))) 43 cnt k (by rw [hs2]; simp) g4 hk2 (by omega)
      rw [show (((p ++ (43 : UInt8) :: (Lib.decDigits y.size ++ (58 : UInt8) :: (y.data.toList ++ [10]))).length : Nat) : Int) = ((p.length + 1 + (Lib.decDigits y.size).length : Nat) : Int) + 1 + (y.size : Int) + 1 by simp only [List.length_append, List.length_cons, List.length_nil, hyl]; omega] at this
      rw [this]

theorem kept_ok (n : Nat) (hn : 1000 ≤ n) {s : ByteArray} (hsz : s.size < 1000000) {ps : List (Pc ByteArray)} (hs : s.data.toList = rdr ps) (hg : Gd 0 ps) (hl : ps.length < 1000) (hp : pk ps < 1000000) : m_suturelaw7_kept n s = some ((pk ps : Nat) : Int) := by
  unfold m_suturelaw7_kept
  have := kept3 n (by omega) s hsz ps [] 0 0 n (by rw [hs]; rfl) hg (by omega) (by omega)
  rw [show ((([] : List UInt8).length : Nat) : Int) = 0 from rfl, show ((0 : Nat) : Int) = 0 from rfl, Nat.zero_add] at this
  rw [this]; rfl

/-! texts of few unlike lines -/
def pick6 (z : Int) : Int := bif decide (Int.tmod z 6 < 0) then Int.tmod z 6 + 6 else Int.tmod z 6
theorem pick6_rng (z : Int) : 0 ≤ pick6 z ∧ pick6 z < 6 := by
  unfold pick6
  have h1 : Int.tmod z 6 < 6 := Int.tmod_lt_of_pos _ (by decide)
  have h2 : -6 < Int.tmod z 6 := by have := Int.lt_tmod_of_pos z (b := 6) (by decide); simpa using this
  cases h : decide (Int.tmod z 6 < 0) with
  | true => rw [cond_true]; have := of_decide_eq_true h; omega
  | false => rw [cond_false]; have := of_decide_eq_false h; omega
theorem pick_ok (n : Nat) (z : Int) : m_suturehand_Pick n z 6 = some (pick6 z) := by
  unfold m_suturehand_Pick
  have h1 : Int.tmod z 6 < 6 := Int.tmod_lt_of_pos _ (by decide)
  have h2 : -6 < Int.tmod z 6 := by have := Int.lt_tmod_of_pos z (b := 6) (by decide); simpa using this
  rw [must_ok (by decide), w64 (by omega) (by omega)]
  unfold pick6
  cases decide (Int.tmod z 6 < 0) <;> rfl
def tabl : List ByteArray := [⟨#[97, 10]⟩, ⟨#[98, 10]⟩, ⟨#[10]⟩, ⟨#[97, 10]⟩, ⟨#[9, 108, 111, 110, 103, 32, 111, 110, 101, 10]⟩, ⟨#[99, 10]⟩]
def tbl (z : Int) : ByteArray := tabl.getD (pick6 z).toNat ByteArray.empty
theorem tbl_mem (z : Int) : tbl z ∈ tabl := by
  have := pick6_rng z
  unfold tbl
  rw [List.getD_eq_getElem?_getD, List.getElem?_eq_getElem (by show (pick6 z).toNat < 6; omega)]
  exact List.getElem_mem _
def strT (y : ByteArray) : T := T.sc (.string y)
theorem tabl_wl : ∀ y ∈ tabl, Wl y.data.toList ∧ y.size ≤ 10 := by
  intro y hy
  simp only [tabl, List.mem_cons, List.not_mem_nil, or_false] at hy
  rcases hy with rfl | rfl | rfl | rfl | rfl | rfl
  · exact ⟨⟨[97], by decide, rfl⟩, by decide⟩
  · exact ⟨⟨[98], by decide, rfl⟩, by decide⟩
  · exact ⟨⟨[], by decide, rfl⟩, by decide⟩
  · exact ⟨⟨[97], by decide, rfl⟩, by decide⟩
  · exact ⟨⟨[9, 108, 111, 110, 103, 32, 111, 110, 101], by decide, rfl⟩, by decide⟩
  · exact ⟨⟨[99], by decide, rfl⟩, by decide⟩

theorem idx_ints {z : List Int} {i : Nat} (h : i < z.length) : idx true [.int .i64] (ints .i64 z) (i : Int) = some (T.sc (.int .i64 z[i])) := by
  unfold idx ints
  rw [cond_true, decide_eq_true (Int.natCast_nonneg _), cond_true, Int.toNat_natCast, List.getElem?_map, List.getElem?_eq_getElem h]
  rfl
theorem idx_tabl (z : Int) : idx1 true (.str) [(T.sc (.string (⟨#[97, 10]⟩ : ByteArray))), (T.sc (.string (⟨#[98, 10]⟩ : ByteArray))), (T.sc (.string (⟨#[10]⟩ : ByteArray))), (T.sc (.string (⟨#[97, 10]⟩ : ByteArray))), (T.sc (.string (⟨#[9, 108, 111, 110, 103, 32, 111, 110, 101, 10]⟩ : ByteArray))), (T.sc (.string (⟨#[99, 10]⟩ : ByteArray)))] (pick6 z) = some (strT (tbl z)) := by
  obtain ⟨h1, h2⟩ := pick6_rng z
  unfold tbl
  obtain ⟨k, hk⟩ : ∃ k : Nat, pick6 z = k := ⟨(pick6 z).toNat, by omega⟩
  rw [hk, Int.toNat_natCast]
  have : k < 6 := by omega
  match k, this with
  | 0, _ => rfl
  | 1, _ => rfl
  | 2, _ => rfl
  | 3, _ => rfl
  | 4, _ => rfl
  | 5, _ => rfl

def flatB (ys : List ByteArray) : ByteArray := ⟨(ys.flatMap (·.data.toList)).toArray⟩
theorem flatB_data (ys : List ByteArray) : (flatB ys).data.toList = ys.flatMap (·.data.toList) := by simp [flatB]
theorem lines3 (n : Nat) (z : List Int) (b : Bool) : ∀ (m i k : Nat) (acc : ByteArray), 24 - i = m → i ≤ 24 → m < k → acc.size ≤ 10 * i → l_suturelaw7_lines_3 n k (ints .i64 z, b, acc, (i : Int)) = some (b, acc ++ flatB (((z.drop i).take (24 - i)).map tbl)) := by
  intro m
  have stop : ∀ (i k : Nat) (acc : ByteArray), (z.length ≤ i ∨ 24 ≤ i) → 0 < k → l_suturelaw7_lines_3 n k (ints .i64 z, b, acc, (i : Int)) = some (b, acc ++ flatB (((z.drop i).take (24 - i)).map tbl)) := by
    intro i k acc h hk
    obtain ⟨k, rfl⟩ : ∃ j, k = j + 1 := ⟨k - 1, by omega⟩
    show l_suturelaw7_lines_3_B n (l_suturelaw7_lines_3 n k) _ = _
    unfold l_suturelaw7_lines_3_B
    have hl : (ints .i64 z).length = z.length := by simp [ints]
    have hd : (bif (decide ((i : Int) < ((List.length (ints .i64 z) : Nat) : Int))) then (decide ((i : Int) < 24)) else false) = false := by
      rw [hl]
      rcases h with h | h
      · rw [decide_eq_false (by omega)]; rfl
      · rw [decide_eq_false (p := (i : Int) < 24) (by omega)]; cases decide ((i : Int) < (z.length : Int)) <;> rfl
    have he : (z.drop i).take (24 - i) = [] := by
      rcases h with h | h
      · rw [List.drop_eq_nil_of_le h, List.take_nil]
      · rw [show 24 - i = 0 by omega]; rfl
    simp only [hd, cond_false, he]
    refine congrArg some (Prod.ext rfl ?_)
    exact ext_data (by simp [ByteArray.data_append, flatB_data])
  induction m with
  | zero => intro i k acc h1 h2 h3 _; exact stop i k acc (by omega) h3
  | succ m ih =>
    intro i k acc h1 h2 h3 h4
    by_cases hz : i < z.length
    · obtain ⟨k, rfl⟩ : ∃ j, k = j + 1 := ⟨k - 1, by omega⟩
      show l_suturelaw7_lines_3_B n (l_suturelaw7_lines_3 n k) _ = _
      unfold l_suturelaw7_lines_3_B
      have hl : (ints .i64 z).length = z.length := by simp [ints]
      have hd : (bif (decide ((i : Int) < ((List.length (ints .i64 z) : Nat) : Int))) then (decide ((i : Int) < 24)) else false) = true := by
        rw [hl, decide_eq_true (by omega), decide_eq_true (by omega)]; rfl
      have hs := (tabl_wl _ (tbl_mem z[i])).2
      simp only [hd, cond_true, idx_ints hz, Option.bind_some]
      rw [show (T.cell (T.sc (.int .i64 z[i])) 0).int = z[i] from rfl, pick_ok, Option.bind_some, idx_tabl, Option.bind_some, show (strT (tbl z[i])).str = tbl z[i] from rfl]
      rw [must_ok (decide_eq_true (by show ((acc.size + (tbl z[i]).size : Nat) : Int) ≤ 9223372036854775807; omega)), w64 (by omega) (by omega)]
      have := ih (i + 1) k (acc ++ tbl z[i]) (by omega) (by omega) (by omega) (by rw [ByteArray.size_append]; omega)
      rw [show ((i : Int) + 1) = ((i + 1 : Nat) : Int) by omega, this]
      refine congrArg some (Prod.ext rfl ?_)
      refine ext_data ?_
      simp only [ByteArray.data_append, Array.toList_append, flatB_data]
      rw [List.drop_eq_getElem_cons hz, show 24 - i = (24 - (i + 1)) + 1 by omega, List.take_succ_cons]
      simp
    · exact stop i k acc (.inl (by omega)) (by omega)

/-- The lines of raw numbers. -/
def lnsP (z : List Int) : List ByteArray := (z.take 24).map tbl
theorem lnsP_wl (z : List Int) : ∀ y ∈ lnsP z, Wl y.data.toList ∧ y.size ≤ 10 := by
  intro y hy
  obtain ⟨a, _, rfl⟩ := List.mem_map.1 hy
  exact tabl_wl _ (tbl_mem a)
theorem lnsP_len (z : List Int) : (lnsP z).length ≤ 24 := by unfold lnsP; rw [List.length_map, List.length_take]; omega
theorem flat_size : ∀ {ys : List ByteArray} {c : Nat}, (∀ y ∈ ys, y.size ≤ c) → (flatB ys).size ≤ c * ys.length
  | [], c, _ => Nat.zero_le _
  | y :: ys, c, h => by
    have ih := flat_size (ys := ys) (c := c) fun x hx => h x (List.mem_cons_of_mem _ hx)
    have h1 := h y (by simp)
    have e : (flatB (y :: ys)).size = y.size + (flatB ys).size := by rw [size_data, flatB_data, List.flatMap_cons, List.length_append, ← size_data, size_data (flatB ys), flatB_data]
    rw [e, List.length_cons, Nat.mul_add]; omega
theorem lines_ok (n : Nat) (hn : 30 ≤ n) (z : List Int) : m_suturelaw7_lines n (ints .i64 z) false = some (flatB (lnsP z)) := by
  unfold m_suturelaw7_lines
  have := lines3 n z false 24 0 n ⟨#[]⟩ rfl (by omega) (by omega) (by show 0 ≤ 0; omega)
  rw [show ((0 : Nat) : Int) = 0 from rfl] at this
  rw [this, Option.bind_some]
  show some _ = _
  refine congrArg some (ext_data ?_)
  simp [ByteArray.data_append, flatB_data, lnsP]
theorem lines_ok_tail (n : Nat) (hn : 30 ≤ n) (z : List Int) : m_suturelaw7_lines n (ints .i64 z) true = some (flatB (lnsP z)) ∧ lnsP z = [] ∨ m_suturelaw7_lines n (ints .i64 z) true = some ((flatB (lnsP z)).extract 0 ((flatB (lnsP z)).size - 1)) := by
  unfold m_suturelaw7_lines
  have h := lines3 n z true 24 0 n ⟨#[]⟩ rfl (by omega) (by omega) (by show 0 ≤ 0; omega)
  rw [show ((0 : Nat) : Int) = 0 from rfl] at h
  have e : (⟨#[]⟩ : ByteArray) ++ flatB (((z.drop 0).take (24 - 0)).map tbl) = flatB (lnsP z) := ext_data (by simp [ByteArray.data_append, flatB_data, lnsP])
  rw [e] at h
  rw [h, Option.bind_some]
  have hsz : (flatB (lnsP z)).size ≤ 10 * 24 := Nat.le_trans (flat_size fun y hy => (lnsP_wl z y hy).2) (Nat.mul_le_mul_left _ (lnsP_len z))
  by_cases h0 : (flatB (lnsP z)).size = 0
  · left
    refine ⟨?_, ?_⟩
    · simp only [h0, cond_true]; rfl
    · cases hl : lnsP z with
      | nil => rfl
      | cons y ys =>
        exfalso
        have hy := (lnsP_wl z y (by rw [hl]; simp)).1
        obtain ⟨a, _, ha⟩ := hy
        rw [hl, size_data, flatB_data, List.flatMap_cons, ha] at h0
        simp at h0
  · right
    have hp : decide ((((ByteArray.size (flatB (lnsP z)) : Nat) : Int) : Int) > 0) = true := decide_eq_true (by omega)
    simp only [hp, cond_true]
    rw [w64 (by omega) (by omega), must_ok (by simp only [Bool.and_eq_true, decide_eq_true_eq]; omega)]
    rw [show (((ByteArray.size (flatB (lnsP z)) : Nat) : Int) - 1).toNat = (flatB (lnsP z)).size - 1 by omega]
    rfl
theorem few_ok (n : Nat) (s : ByteArray) (k : Nat) : m_suturehand_Few n s (k : Int) = some (if k < s.size then s.extract 0 k else s) := by
  unfold m_suturehand_Few
  by_cases h : k < s.size
  · rw [decide_eq_true (by omega), cond_true, must_ok (by simp only [Bool.and_eq_true, decide_eq_true_eq]; omega), if_pos h]
    rfl
  · rw [decide_eq_false (by omega), cond_false, if_neg h]

def chkD (n : Nat) : Bool := match m_sutureref1_Digits 100000 (n : Int) with
  | some r => r.data.toList == Lib.decDigits n
  | none => false
theorem chkD_all : (List.range 100).all chkD = true := by kernel_rfl
theorem digits_ok {n : Nat} (h : n < 100) : m_sutureref1_Digits 100000 (n : Int) = some ⟨(Lib.decDigits n).toArray⟩ := by
  have := List.all_eq_true.1 chkD_all n (by simpa using h)
  unfold chkD at this
  split at this
  · rename_i r hr
    rw [hr]
    exact congrArg some (mk_data _ _ (by simpa using this))
  · cases this
end Go.Proofs.YtimkclpogbfciaaDoor.W

namespace Go.Proofs.YtimkclpogbfciaaDoor.W
open Go Go.Eng
set_option linter.unusedVariables false
set_option linter.unusedSimpArgs false
set_option maxRecDepth 100000

theorem map_data_inj {xs ys : List ByteArray} (h : xs.map (·.data.toList) = ys.map (·.data.toList)) : xs = ys :=
  List.map_inj_right (fun x y e => ext_data e) |>.1 h
theorem linesB_ln {s y : ByteArray} (h : y ∈ linesB s) : Ln y.data.toList :=
  linesL_ln s.data.toList _ (by rw [← linesB_eq]; exact List.mem_map.2 ⟨y, h, rfl⟩)
theorem flatB_lines (s : ByteArray) : flatB (linesB s) = s := by
  refine ext_data ?_
  rw [flatB_data, List.flatMap_def, linesB_eq, linesL_flat]
theorem linesB_of {s : ByteArray} {ys : List ByteArray} (hs : s.data.toList = ys.flatMap (·.data.toList)) (h : ∀ y ∈ ys, Wl y.data.toList) : linesB s = ys := by
  refine map_data_inj ?_
  rw [linesB_eq, hs, List.flatMap_def]
  have := linesL_wl (ys.map (·.data.toList)) [] (fun l hl => by obtain ⟨y, hy, rfl⟩ := List.mem_map.1 hl; exact h y hy)
  rw [List.append_nil] at this
  rw [this]; simp [linesL]
theorem linesB_flatB {ys : List ByteArray} (h : ∀ y ∈ ys, Wl y.data.toList) : linesB (flatB ys) = ys := linesB_of (flatB_data ys) h
theorem linesL_count : ∀ b : List UInt8, (linesL b).length ≤ b.length
  | [] => Nat.le_refl _
  | c :: r => by
    have ih := linesL_count r
    unfold linesL
    split
    · simp; omega
    · split
      · simp
      · rename_i h; rw [h] at ih; simp at ih ⊢; omega
theorem flatten_le : ∀ {ls : List (List UInt8)} {l : List UInt8}, l ∈ ls → l.length ≤ ls.flatten.length
  | [], l, h => by simp at h
  | a :: ls, l, h => by
    rw [List.flatten_cons, List.length_append]
    rcases List.mem_cons.1 h with rfl | h
    · omega
    · have := flatten_le h; omega
theorem linesB_count (s : ByteArray) : (linesB s).length ≤ s.size := by
  have := linesL_count s.data.toList
  rw [← linesB_eq, List.length_map, ← size_data] at this
  exact this
theorem linesB_size {s y : ByteArray} (h : y ∈ linesB s) : y.size ≤ s.size := by
  have := flatten_le (ls := linesL s.data.toList) (l := y.data.toList) (by rw [← linesB_eq]; exact List.mem_map.2 ⟨y, h, rfl⟩)
  rw [linesL_flat, ← size_data, ← size_data] at this
  exact this

/-- A text that is small. -/
structure Sm (s : ByteArray) : Prop where
  size : s.size ≤ 1000
  count : (linesB s).length < 100
  each : ∀ y ∈ linesB s, y.size < 100
theorem Sm.tl {s : ByteArray} (h : Sm s) : ∀ y ∈ linesB s, Tl y := fun y hy => ⟨linesB_ln hy, h.each y hy⟩
theorem sm_short {s : ByteArray} (h : s.size ≤ 80) : Sm s :=
  ⟨by omega, by have := linesB_count s; omega, fun y hy => by have := linesB_size hy; omega⟩
theorem sm_few (s : ByteArray) (k : Nat) (hk : k ≤ 80) : Sm (if k < s.size then s.extract 0 k else s) := by
  refine sm_short ?_
  split
  · rw [ByteArray.size_extract]; omega
  · omega
theorem sm_flat {ys : List ByteArray} (h : ∀ y ∈ ys, Wl y.data.toList ∧ y.size ≤ 10) (hl : ys.length ≤ 72) : Sm (flatB ys) := by
  have h1 := flat_size fun y hy => (h y hy).2
  have h2 := linesB_flatB fun y hy => (h y hy).1
  exact ⟨by omega, by rw [h2]; omega, fun y hy => by rw [h2] at hy; have := (h y hy).2; omega⟩
theorem sm_tail (z : List Int) : Sm ((flatB (lnsP z)).extract 0 ((flatB (lnsP z)).size - 1)) := by
  have hw := lnsP_wl z
  have hl := lnsP_len z
  generalize lnsP z = ys at *
  cases hys : ys.reverse with
  | nil =>
    obtain rfl : ys = [] := by simpa using hys
    exact sm_short (by rw [ByteArray.size_extract]; show min (0 - 1) 0 - 0 ≤ 80; omega)
  | cons y rs =>
    obtain rfl : ys = rs.reverse ++ [y] := by have := congrArg List.reverse hys; simpa using this
    obtain ⟨⟨a, ha, hay⟩, hy10⟩ := hw y (by simp)
    have hd : (flatB (rs.reverse ++ [y])).data.toList = rs.reverse.flatMap (·.data.toList) ++ (a ++ [10]) := by rw [flatB_data, List.flatMap_append, ← hay]; simp
    have ht : ((flatB (rs.reverse ++ [y])).extract 0 ((flatB (rs.reverse ++ [y])).size - 1)).data.toList = rs.reverse.flatMap (·.data.toList) ++ a := by
      rw [extract_data, List.drop_zero, size_data, hd, ← List.append_assoc, List.take_left' (by simp)]
    have hal : a.length < 10 := by
      have : y.size = a.length + 1 := by rw [size_data, hay]; simp
      omega
    have hL : (linesB ((flatB (rs.reverse ++ [y])).extract 0 ((flatB (rs.reverse ++ [y])).size - 1))).map (·.data.toList) = rs.reverse.map (·.data.toList) ++ linesL a := by
      rw [linesB_eq, ht, List.flatMap_def]
      exact linesL_wl _ a (fun l h => by obtain ⟨x, hx, rfl⟩ := List.mem_map.1 h; exact (hw x (by simp at hx ⊢; exact .inl hx)).1)
    have hlen := congrArg List.length hL
    rw [List.length_map, List.length_append, List.length_map] at hlen
    have hac := linesL_count a
    simp at hl hlen
    refine ⟨?_, by omega, fun x hx => ?_⟩
    · have h1 := flat_size fun y hy => (hw y hy).2
      rw [ByteArray.size_extract]
      simp at h1
      omega
    · have hm : x.data.toList ∈ rs.reverse.map (·.data.toList) ++ linesL a := by rw [← hL]; exact List.mem_map.2 ⟨x, hx, rfl⟩
      rcases List.mem_append.1 hm with h | h
      · obtain ⟨u, hu, e⟩ := List.mem_map.1 h
        obtain rfl : u = x := ext_data e
        have := (hw u (by simp at hu ⊢; exact .inl hu)).2
        omega
      · have := flatten_le h
        rw [linesL_flat, ← size_data] at this
        omega
theorem lines_sm (n : Nat) (hn : 30 ≤ n) (z : List Int) (b : Bool) : ∃ x, m_suturelaw7_lines n (ints .i64 z) b = some x ∧ Sm x := by
  have h0 : Sm (flatB (lnsP z)) := sm_flat (lnsP_wl z) (by have := lnsP_len z; omega)
  cases b with
  | false => exact ⟨_, lines_ok n hn z, h0⟩
  | true =>
    rcases lines_ok_tail n hn z with ⟨h, _⟩ | h
    · exact ⟨_, h, h0⟩
    · exact ⟨_, h, sm_tail z⟩

/-- What is told of two texts. -/
def tell (s t : ByteArray) : ByteArray := ⟨(rdr (pcs (linesB s) (linesB t))).toArray⟩
theorem tell_data (s t : ByteArray) : (tell s t).data.toList = rdr (pcs (linesB s) (linesB t)) := by simp [tell]
theorem of_ok (n : Nat) {s t : ByteArray} (hs : Sm s) (ht : Sm t) : m_diff_Of n s t = some (tell s t) := by
  show ofM s t = _
  have h1 := hs.size; have h2 := ht.size
  unfold ofM
  rw [decide_eq_true (by omega), decide_eq_true (by omega), decide_eq_true hs.count, decide_eq_true ht.count]
  have : (linesB t).all (fun y => decide (y.size < 100)) = true := List.all_eq_true.2 fun y hy => decide_eq_true (ht.each y hy)
  rw [this]
  show some _ = _
  rw [ofS_rdr]; rfl
theorem tell_gd {s t : ByteArray} (hs : Sm s) (ht : Sm t) : Gd 0 (pcs (linesB s) (linesB t)) := pcs_gd hs.count ht.tl

theorem path_len : ∀ (m : Nat) (a b : List ByteArray), a.length + b.length ≤ m → (path a b).length ≤ a.length + b.length := by
  intro m
  induction m with
  | zero =>
    intro a b h
    have ha : a = [] := List.eq_nil_of_length_eq_zero (by omega)
    have hb : b = [] := List.eq_nil_of_length_eq_zero (by omega)
    subst ha; subst hb
    rw [path_nn]; simp
  | succ m ih =>
    intro a b h
    match a, b with
    | [], [] => rw [path_nn]; simp
    | [], y :: b =>
      have := ih [] b (by simp only [List.length_cons] at h; omega)
      rw [path_nc]; simp only [List.length_cons, List.length_nil] at this ⊢; omega
    | x :: a, [] =>
      have := ih a [] (by simp only [List.length_cons] at h; omega)
      rw [path_cn]; simp only [List.length_cons, List.length_nil] at this ⊢; omega
    | x :: a, y :: b =>
      simp only [List.length_cons] at h
      rw [path_cc]
      split
      · have := ih a b (by omega); simp only [List.length_cons] at this ⊢; omega
      · split
        · have := ih a (y :: b) (by simp only [List.length_cons]; omega); simp only [List.length_cons] at this ⊢; omega
        · have := ih (x :: a) b (by simp only [List.length_cons]; omega); simp only [List.length_cons] at this ⊢; omega
theorem flush_len (k c : Nat) : (flush k c : List (Pc ByteArray)).length ≤ 1 := by
  unfold flush
  split
  · simp
  · split <;> simp
theorem rn_len : ∀ (o : List (Op ByteArray)) (k c : Nat), (rn k c o).length ≤ 1 + 2 * o.length
  | [], k, c => by rw [rn]; have := flush_len k c; simp; omega
  | .keep :: o, k, c => by
    rw [rn]
    have := flush_len k c
    split
    · have := rn_len o 1 (c + 1); simp only [List.length_cons] at this ⊢; omega
    · have := rn_len o 1 1; simp only [List.length_append, List.length_cons] at this ⊢; omega
  | .drop :: o, k, c => by
    rw [rn]
    have := flush_len k c
    split
    · have := rn_len o 2 (c + 1); simp only [List.length_cons] at this ⊢; omega
    · have := rn_len o 2 1; simp only [List.length_append, List.length_cons] at this ⊢; omega
  | .add y :: o, k, c => by
    rw [rn]
    have := flush_len k c
    have := rn_len o 3 0; simp only [List.length_append, List.length_cons] at this ⊢; omega
theorem rdr_len : ∀ (p : List (Pc ByteArray)) (b : Nat), Gd b p → (rdr p).length ≤ 104 * p.length
  | [], b, _ => Nat.zero_le _
  | .kp n :: p, b, h => by
    have := rdr_len p 61 h.2.2.2
    have := dec_le h.2.2.1
    rw [rdr, runL_cons]; simp; omega
  | .dp n :: p, b, h => by
    have := rdr_len p 45 h.2.2.2
    have := dec_le h.2.2.1
    rw [rdr, runL_cons]; simp; omega
  | .ad y :: p, b, h => by
    have := rdr_len p 43 h.2
    have := addL_le h.1.2
    rw [rdr]; simp only [List.length_append, List.length_cons]; omega
theorem pcs_len {s t : ByteArray} (hs : Sm s) (ht : Sm t) : (pcs (linesB s) (linesB t)).length ≤ 400 := by
  have h1 := rn_len (path (linesB s) (linesB t)) 0 0
  have h2 := path_len _ (linesB s) (linesB t) (Nat.le_refl _)
  have h3 := hs.count; have h4 := ht.count
  unfold pcs
  omega
theorem tell_size {s t : ByteArray} (hs : Sm s) (ht : Sm t) : (tell s t).size ≤ 50000 := by
  have h1 := rdr_len _ 0 (tell_gd hs ht)
  have h2 := pcs_len hs ht
  rw [size_data, tell_data]
  omega
theorem kept_tell (n : Nat) (hn : 1000 ≤ n) {s t : ByteArray} (hs : Sm s) (ht : Sm t) : m_suturelaw7_kept n (tell s t) = some ((lc (linesB s) (linesB t) : Nat) : Int) := by
  have h2 := pcs_len hs ht
  have h3 := lc_le_l (linesB s) (linesB t)
  have h4 := hs.count
  rw [kept_ok n hn (by have := tell_size hs ht; omega) (tell_data s t) (tell_gd hs ht) (by omega) (by rw [pcs_pk]; omega), pcs_pk]
theorem sumL_lines (s : ByteArray) : sumL (linesB s) = s.size := by
  have h : ∀ xs : List ByteArray, sumL xs = (xs.flatMap (·.data.toList)).length := by
    intro xs
    induction xs with
    | nil => rfl
    | cons x xs ih => rw [show sumL (x :: xs) = x.size + sumL xs by simp [sumL], ih, List.flatMap_cons, List.length_append, ← size_data]
  rw [h, ← flatB_data, flatB_lines, ← size_data]
def mkR : Option (List ByteArray) → ByteArray × Int
  | some l => (flatB l, 0)
  | none => (⟨#[]⟩, 2)
theorem apply_ok (n : Nat) {s t z : ByteArray} (hs : Sm s) (ht : Sm t) (hz : Sm z) : m_diff_Apply n z (tell s t) = some (mkR (app (path (linesB s) (linesB t)) (linesB z))) := by
  show applyM z (tell s t) = _
  have h1 := hz.size; have h2 := tell_size hs ht
  unfold applyM
  rw [decide_eq_true (by omega), decide_eq_true (by rw [sumL_lines]; omega)]
  show some (applyP z (tell s t)) = _
  unfold applyP
  rw [appQ_rdr _ _ 0 (tell s t) _ _ (tell_data s t) (by rw [← tell_data, ← size_data]; exact Nat.le_refl _) (tell_gd hs ht), pcs_ap]
  cases app (path (linesB s) (linesB t)) (linesB z) with
  | none => rfl
  | some l => rfl
theorem apply_self (n : Nat) {s t : ByteArray} (hs : Sm s) (ht : Sm t) : m_diff_Apply n s (tell s t) = some (t, 0) := by
  rw [apply_ok n hs ht hs, path_app]
  show some (flatB (linesB t), (0 : Int)) = _
  rw [flatB_lines]
theorem dLines_ok (n : Nat) {s : ByteArray} (h : s.size < 4294967281) : m_diff_Lines n s = some ((linesB s).map strT) := by
  show linesM s = _
  unfold linesM
  rw [decide_eq_true h]; rfl
theorem known_ok (n : Nat) : m_suturelaw7_known n = some true := rfl

theorem rn_keeps : ∀ (m k c : Nat), rn 1 c (List.replicate m Op.keep : List (Op ByteArray)) = flush 1 (c + m)
  | 0, k, c => by rw [List.replicate_zero, rn]; rfl
  | m + 1, k, c => by rw [List.replicate_succ, rn, if_pos rfl, rn_keeps m k]; congr 1; omega
theorem tell_self (s : ByteArray) : tell s s = if (linesB s).length = 0 then ⟨#[]⟩ else ⟨(runL 61 (linesB s).length).toArray⟩ := by
  unfold tell pcs
  rw [path_self]
  cases h : (linesB s).length with
  | zero => rfl
  | succ m =>
    rw [List.replicate_succ, rn, if_neg (by decide), rn_keeps m 0]
    rw [if_neg (by omega), show 1 + m = m + 1 by omega]
    simp [flush, rdr]

theorem diffBack_law (z1 z2 : List Int) (tail : Bool) (a b : ByteArray) (any : Bool) (hz1 : ∀ x ∈ z1, (Lit.int .i64 x).wf = true) (l1 : z1.length ≤ 17592186044416) (hz2 : ∀ x ∈ z2, (Lit.int .i64 x).wf = true) (l2 : z2.length ≤ 17592186044416) (ha : a.size ≤ 140737488351232) (hb : b.size ≤ 140737488351232) :
    ∃ n, m_suturelaw7_DiffBack n (ints .i64 z1) (ints .i64 z2) tail a b any = some true := by
  refine ⟨100000, ?_⟩
  obtain ⟨x, hx, sx⟩ := lines_sm 100000 (by decide) z1 tail
  obtain ⟨y, hy, sy⟩ := lines_sm 100000 (by decide) z2 (!tail)
  have hdig := fun s (hs : Sm s) => digits_ok hs.count
  have hkept := fun s t (hs : Sm s) (ht : Sm t) => kept_tell 100000 (by decide) hs ht
  unfold m_suturelaw7_DiffBack
  rw [hx, Option.bind_some, hy, Option.bind_some]
  have few := few_ok 100000
  generalize 100000 = n at *
  have core : ∀ (s t : ByteArray), Sm s → Sm t → (∀ (F : ByteArray → ByteArray → ByteArray × Int → ByteArray × Int → List T → Option Bool), F (tell s t) (tell t s) (t, 0) (s, 0) ((linesB s).map strT) = some true → (Option.bind (m_diff_Of n s t) fun r4 => Option.bind (m_diff_Of n t s) fun r5 => Option.bind (m_diff_Apply n s r4) fun r6 => Option.bind (m_diff_Apply n t r5) fun r7 => Option.bind (m_diff_Lines n s) fun r8 => F r4 r5 r6 r7 r8) = some true) := by
    intro s t hs ht F hF
    rw [of_ok n hs ht, Option.bind_some, of_ok n ht hs, Option.bind_some, apply_self n hs ht, Option.bind_some, apply_self n ht hs, Option.bind_some, dLines_ok n (by have := hs.size; omega), Option.bind_some]
    exact hF
  have hlc : ∀ s t : ByteArray, (((lc (linesB s) (linesB t) : Nat) : Int) == ((lc (linesB t) (linesB s) : Nat) : Int)) = true := fun s t => by rw [lc_comm]; simp
  cases any with
  | true =>
    rw [cond_true, show (80 : Int) = ((80 : Nat) : Int) from rfl, few, Option.bind_some, few, Option.bind_some]
    have s1 := sm_few a 80 (by decide)
    have s2 := sm_few b 80 (by decide)
    generalize (if 80 < a.size then a.extract 0 80 else a) = s at *
    generalize (if 80 < b.size then b.extract 0 80 else b) = t at *
    refine core s t s1 s2 _ ?_
    have hs0 := tell_self s
    have hd := hdig s s1
    rw [List.length_map]
    by_cases h0 : (linesB s).length = 0
    · rw [decide_eq_false (by omega), cond_false, known_ok, Option.bind_some, of_ok n s1 s1]
      rw [if_pos h0] at hs0
      simp only [beq_self_eq_true, cond_true, Option.bind_some, hs0, hkept s t s1 s2, hkept t s s2 s1, hlc]
    · rw [decide_eq_true (by omega), cond_true, hd, Option.bind_some]
      have hdl := dec_le s1.count
      rw [if_neg h0] at hs0
      have hcat : ((⟨#[61]⟩ : ByteArray) ++ ⟨(Lib.decDigits (linesB s).length).toArray⟩) ++ (⟨#[10]⟩ : ByteArray) = tell s s := by
        rw [hs0]
        exact ext_data (by simp [ByteArray.data_append, runL_cons])
      rw [must_ok (decide_eq_true (by show ((1 + (Lib.decDigits (linesB s).length).toArray.size : Nat) : Int) ≤ 9223372036854775807; rw [List.size_toArray]; omega)),
        must_ok (decide_eq_true (by rw [ByteArray.size_append]; show ((1 + (Lib.decDigits (linesB s).length).toArray.size + 1 : Nat) : Int) ≤ 9223372036854775807; rw [List.size_toArray]; omega)), hcat, known_ok, Option.bind_some, of_ok n s1 s1]
      simp only [beq_self_eq_true, cond_true, Option.bind_some, hkept s t s1 s2, hkept t s s2 s1, hlc]
  | false =>
    rw [cond_false]
    refine core x y sx sy _ ?_
    have hs0 := tell_self x
    have hd := hdig x sx
    rw [List.length_map]
    by_cases h0 : (linesB x).length = 0
    · rw [decide_eq_false (by omega), cond_false, known_ok, Option.bind_some, of_ok n sx sx]
      rw [if_pos h0] at hs0
      simp only [beq_self_eq_true, cond_true, Option.bind_some, hs0, hkept x y sx sy, hkept y x sy sx, hlc]
    · rw [decide_eq_true (by omega), cond_true, hd, Option.bind_some]
      have hdl := dec_le sx.count
      rw [if_neg h0] at hs0
      have hcat : ((⟨#[61]⟩ : ByteArray) ++ ⟨(Lib.decDigits (linesB x).length).toArray⟩) ++ (⟨#[10]⟩ : ByteArray) = tell x x := by
        rw [hs0]
        exact ext_data (by simp [ByteArray.data_append, runL_cons])
      rw [must_ok (decide_eq_true (by show ((1 + (Lib.decDigits (linesB x).length).toArray.size : Nat) : Int) ≤ 9223372036854775807; rw [List.size_toArray]; omega)),
        must_ok (decide_eq_true (by rw [ByteArray.size_append]; show ((1 + (Lib.decDigits (linesB x).length).toArray.size + 1 : Nat) : Int) ≤ 9223372036854775807; rw [List.size_toArray]; omega)), hcat, known_ok, Option.bind_some, of_ok n sx sx]
      simp only [beq_self_eq_true, cond_true, Option.bind_some, hkept x y sx sy, hkept y x sy sx, hlc]
end Go.Proofs.YtimkclpogbfciaaDoor.W

namespace Go.Proofs.YtimkclpogbfciaaDoor.W
open Go Go.Eng
set_option linter.unusedVariables false
set_option linter.unusedSimpArgs false
set_option maxRecDepth 100000

/-- How long what is made is. -/
def mades : List (Op ByteArray) → Nat
  | [] => 0
  | .keep :: o => 1 + mades o
  | .drop :: o => mades o
  | .add _ :: o => 1 + mades o
theorem app_len : ∀ (o : List (Op ByteArray)) (a l : List ByteArray), app o a = some l → l.length = mades o ∧ ∀ y ∈ l, y ∈ a ∨ y ∈ adds o
  | [], [], l, h => by simp only [app, Option.some.injEq] at h; subst h; simp [mades]
  | [], _ :: _, l, h => by simp [app] at h
  | .keep :: o, [], l, h => by simp [app] at h
  | .keep :: o, x :: a, l, h => by
    simp only [app, Option.map_eq_some_iff] at h
    obtain ⟨l', h1, rfl⟩ := h
    obtain ⟨h2, h3⟩ := app_len o a l' h1
    refine ⟨by simp only [List.length_cons, mades, h2]; omega, ?_⟩
    rintro y hy
    rcases List.mem_cons.1 hy with rfl | hy
    · exact .inl (by simp)
    · rcases h3 y hy with h | h
      · exact .inl (by simp [h])
      · exact .inr h
  | .drop :: o, [], l, h => by simp [app] at h
  | .drop :: o, x :: a, l, h => by
    simp only [app] at h
    obtain ⟨h2, h3⟩ := app_len o a l h
    refine ⟨h2, fun y hy => ?_⟩
    rcases h3 y hy with h | h
    · exact .inl (by simp [h])
    · exact .inr h
  | .add z :: o, a, l, h => by
    simp only [app, Option.map_eq_some_iff] at h
    obtain ⟨l', h1, rfl⟩ := h
    obtain ⟨h2, h3⟩ := app_len o a l' h1
    refine ⟨by simp only [List.length_cons, mades, h2]; omega, ?_⟩
    rintro y hy
    rcases List.mem_cons.1 hy with rfl | hy
    · exact .inr (by simp [adds])
    · rcases h3 y hy with h | h
      · exact .inl h
      · exact .inr (by simp [adds, h])

theorem lns_sm (z : List Int) : Sm (flatB (lnsP z)) := sm_flat (lnsP_wl z) (by have := lnsP_len z; omega)
theorem lns_lines (z : List Int) : linesB (flatB (lnsP z)) = lnsP z := linesB_flatB fun y hy => (lnsP_wl z y hy).1

theorem diffOther_law (z1 z2 z3 : List Int) (hz1 : ∀ x ∈ z1, (Lit.int .i64 x).wf = true) (l1 : z1.length ≤ 17592186044416) (hz2 : ∀ x ∈ z2, (Lit.int .i64 x).wf = true) (l2 : z2.length ≤ 17592186044416) (hz3 : ∀ x ∈ z3, (Lit.int .i64 x).wf = true) (l3 : z3.length ≤ 17592186044416) :
    ∃ n, m_suturelaw7_DiffOther n (ints .i64 z1) (ints .i64 z2) (ints .i64 z3) = some true := by
  refine ⟨100000, ?_⟩
  have hl := lines_ok 100000 (by decide)
  generalize 100000 = n at *
  unfold m_suturelaw7_DiffOther
  rw [hl, Option.bind_some, hl, Option.bind_some, hl, Option.bind_some]
  have s1 := lns_sm z1; have s2 := lns_sm z2; have s3 := lns_sm z3
  rw [of_ok n s1 s2, Option.bind_some, apply_ok n s1 s2 s3, Option.bind_some, dLines_ok n (by have := s3.size; omega), Option.bind_some, dLines_ok n (by have := s1.size; omega), Option.bind_some, List.length_map, List.length_map,
    lns_lines z1, lns_lines z2, lns_lines z3]
  have hw := app_wants (path (lnsP z1) (lnsP z2)) (lnsP z3)
  rw [path_wants] at hw
  cases hap : app (path (lnsP z1) (lnsP z2)) (lnsP z3) with
  | none =>
    rw [hap] at hw
    have hne : ¬ (lnsP z3).length = (lnsP z1).length := fun h => by have := hw.2 h; cases this
    have : ((((lnsP z3).length : Nat) : Int) != ((lnsP z1).length : Nat)) = true := by simp; omega
    rw [this, cond_true, known_ok, Option.bind_some]
    simp [mkR]
  | some l =>
    rw [hap] at hw
    have heq := hw.1 rfl
    have : ((((lnsP z3).length : Nat) : Int) != ((lnsP z1).length : Nat)) = false := by simp; omega
    rw [this, cond_false, known_ok, Option.bind_some]
    obtain ⟨h1, h2⟩ := app_len _ _ _ hap
    obtain ⟨h3, _⟩ := app_len _ _ _ (path_app (lnsP z1) (lnsP z2))
    have hwl : ∀ y ∈ l, Wl y.data.toList ∧ y.size ≤ 10 := fun y hy => by
      rcases h2 y hy with h | h
      · exact lnsP_wl z3 y h
      · exact lnsP_wl z2 y (path_adds _ _ _ (Nat.le_refl _) y h)
    have hsm : (flatB l).size < 4294967281 := by
      have h5 := flat_size fun y hy => (hwl y hy).2
      have h6 := lnsP_len z2
      omega
    show (Option.bind (bif true then m_diff_Lines n (flatB l) else some []) fun r9 => _) = _
    rw [cond_true, dLines_ok n hsm, Option.bind_some, linesB_flatB fun y hy => (hwl y hy).1]
    show (Option.bind (bif true then m_diff_Lines n (flatB (lnsP z2)) else some []) fun r9 => _) = _
    rw [cond_true, dLines_ok n (by have := s2.size; omega), Option.bind_some, lns_lines z2, List.length_map, List.length_map]
    show some (bif true then _ else false) = _
    rw [cond_true, h1, ← h3]
    simp

/-! DiffMost -/
theorem idx_strs {ys : List ByteArray} {i : Nat} (h : i < ys.length) : idx true [.str] (ys.map strT) (i : Int) = some (strT ys[i]) := by
  unfold idx
  rw [cond_true, decide_eq_true (Int.natCast_nonneg _), cond_true, Int.toNat_natCast, List.getElem?_map, List.getElem?_eq_getElem h]
  rfl
theorem idx_no {sh : List CK} {es : List T} {k : Int} : idx false sh es k = some default := rfl

theorem most11 (n : Nat) (p : List T) (xs ys : List ByteArray) (c0 j cnt : Int) (i : Nat) (hi : i < xs.length) (hy : ys.length < 1000) : ∀ (m k f : Nat), ys.length - k = m → k ≤ ys.length → m < f →
    ∃ k', k ≤ k' ∧ k' ≤ ys.length ∧ (∀ h : k' < ys.length, ys[k'] = xs[i]) ∧ l_suturelaw7_DiffMost_11 n f (p, xs.map strT, ys.map strT, c0, j, cnt, (i : Int), (k : Int)) = some (p, xs.map strT, ys.map strT, c0, j, cnt, (i : Int), (k' : Int)) := by
  intro m
  induction m with
  | zero =>
    intro k f h1 h2 hf
    obtain ⟨f, rfl⟩ : ∃ j, f = j + 1 := ⟨f - 1, by omega⟩
    refine ⟨k, Nat.le_refl _, h2, fun h => by omega, ?_⟩
    show l_suturelaw7_DiffMost_11_B n (l_suturelaw7_DiffMost_11 n f) _ = _
    unfold l_suturelaw7_DiffMost_11_B
    have hd : decide ((k : Int) < ((List.length (ys.map strT) : Nat) : Int)) = false := decide_eq_false (by rw [List.length_map]; omega)
    simp only [hd, idx_no, Option.bind_some, cond_false]
  | succ m ih =>
    intro k f h1 h2 hf
    obtain ⟨f, rfl⟩ : ∃ j, f = j + 1 := ⟨f - 1, by omega⟩
    have hk : k < ys.length := by omega
    have hd : decide ((k : Int) < ((List.length (ys.map strT) : Nat) : Int)) = true := decide_eq_true (by rw [List.length_map]; omega)
    by_cases he : ys[k] = xs[i]
    · refine ⟨k, Nat.le_refl _, h2, fun _ => he, ?_⟩
      show l_suturelaw7_DiffMost_11_B n (l_suturelaw7_DiffMost_11 n f) _ = _
      unfold l_suturelaw7_DiffMost_11_B
      simp only [hd, idx_strs hk, idx_strs hi, Option.bind_some, cond_true]
      have : (!(ByteArray.toList ((strT ys[k]).cell 0).str == ByteArray.toList ((strT xs[i]).cell 0).str)) = false := by
        show (!(ys[k].toList == xs[i].toList)) = false
        rw [he]; simp
      rw [this, cond_false]
    · obtain ⟨k', k1, k2, k3, k4⟩ := ih (k + 1) f (by omega) (by omega) (by omega)
      refine ⟨k', by omega, k2, k3, ?_⟩
      show l_suturelaw7_DiffMost_11_B n (l_suturelaw7_DiffMost_11 n f) _ = _
      unfold l_suturelaw7_DiffMost_11_B
      simp only [hd, idx_strs hk, idx_strs hi, Option.bind_some, cond_true]
      have : (!(ByteArray.toList ((strT ys[k]).cell 0).str == ByteArray.toList ((strT xs[i]).cell 0).str)) = true := by
        show (!(ys[k].toList == xs[i].toList)) = true
        cases hh : (ys[k].toList == xs[i].toList) with
        | false => rfl
        | true => exact absurd ((ofB_eq _ _).1 hh) he
      rw [this, cond_true, w64 (by omega) (by omega)]
      exact k4

theorem lc_skip2 {x : ByteArray} {ys : List ByteArray} (a : List ByteArray) {j k : Nat} (h : j ≤ k) : lc a (ys.drop k) ≤ lc a (ys.drop j) := by
  have : ys.drop j = (ys.drop j).take (k - j) ++ ys.drop k := by
    have h2 := List.take_append_drop (k - j) (ys.drop j)
    rw [List.drop_drop, show j + (k - j) = k by omega] at h2
    exact h2.symm
  rw [this]
  exact lc_skip a _ _

theorem most7 (n : Nat) (hn : 1001 ≤ n) (z : List Int) (xs ys : List ByteArray) (c0 : Int) (M : Nat) (hx : xs.length < 1000) (hy : ys.length < 1000) : ∀ (m i j cnt f : Nat), xs.length - i = m → i ≤ xs.length → j ≤ ys.length → m < f → cnt ≤ i → cnt + lc (xs.drop i) (ys.drop j) ≤ M →
    ∃ cnt' : Nat, cnt' ≤ M ∧ l_suturelaw7_DiffMost_7 n f (ints .i64 z, xs.map strT, ys.map strT, c0, (j : Int), (cnt : Int), (i : Int)) = some (xs.map strT, ys.map strT, c0, (cnt' : Int)) := by
  intro m
  induction m with
  | zero =>
    intro i j cnt f h1 h2 h3 hf hc hM
    obtain ⟨f, rfl⟩ : ∃ j, f = j + 1 := ⟨f - 1, by omega⟩
    refine ⟨cnt, by omega, ?_⟩
    show l_suturelaw7_DiffMost_7_B n (l_suturelaw7_DiffMost_7 n f) _ = _
    unfold l_suturelaw7_DiffMost_7_B
    have hd : decide ((i : Int) < ((List.length (xs.map strT) : Nat) : Int)) = false := decide_eq_false (by rw [List.length_map]; omega)
    simp only [hd, cond_false]
  | succ m ih =>
    intro i j cnt f h1 h2 h3 hf hc hM
    obtain ⟨f, rfl⟩ : ∃ j, f = j + 1 := ⟨f - 1, by omega⟩
    have hi : i < xs.length := by omega
    have hd : decide ((i : Int) < ((List.length (xs.map strT) : Nat) : Int)) = true := decide_eq_true (by rw [List.length_map]; omega)
    have hdx : xs.drop i = xs[i] :: xs.drop (i + 1) := List.drop_eq_getElem_cons hi
    have hle := (lc_l xs[i] (xs.drop (i + 1)) (ys.drop j)).1
    have ei : IntKind.wrap .i64 ((i : Int) + 1) = ((i + 1 : Nat) : Int) := by rw [w64 (by omega) (by omega)]; omega
    have go : ∀ B : Bool, ∃ cnt' : Nat, cnt' ≤ M ∧ (bif B then l_suturelaw7_DiffMost_7 n f (ints .i64 z, xs.map strT, ys.map strT, c0, (j : Int), (cnt : Int), IntKind.wrap .i64 ((i : Int) + 1)) else
        Option.bind (l_suturelaw7_DiffMost_11 n n (ints .i64 z, xs.map strT, ys.map strT, c0, (j : Int), (cnt : Int), (i : Int), (j : Int))) fun p12 =>
          bif (decide ((p12.2.2.2.2.2.2.2 : Int) < ((List.length p12.2.2.1 : Nat) : Int))) then
            l_suturelaw7_DiffMost_7 n f (p12.1, p12.2.1, p12.2.2.1, p12.2.2.2.1, (IntKind.wrap .i64 (p12.2.2.2.2.2.2.2 + 1)), (IntKind.wrap .i64 (p12.2.2.2.2.2.1 + 1)), (IntKind.wrap .i64 (p12.2.2.2.2.2.2.1 + 1)))
          else l_suturelaw7_DiffMost_7 n f (p12.1, p12.2.1, p12.2.2.1, p12.2.2.2.1, p12.2.2.2.2.1, p12.2.2.2.2.2.1, (IntKind.wrap .i64 (p12.2.2.2.2.2.2.1 + 1)))) = some (xs.map strT, ys.map strT, c0, (cnt' : Int)) := by
      intro B
      have same := ih (i + 1) j cnt f (by omega) (by omega) h3 (by omega) (by omega) (by rw [hdx] at hM; omega)
      cases B with
      | true => rw [cond_true, ei]; exact same
      | false =>
        rw [cond_false]
        obtain ⟨k', k1, k2, k3, k4⟩ := most11 n (ints .i64 z) xs ys c0 (j : Int) (cnt : Int) i hi hy _ j n rfl h3 (by omega)
        rw [k4, Option.bind_some]
        by_cases hk : k' < ys.length
        · have hdk : decide ((k' : Int) < ((List.length (ys.map strT) : Nat) : Int)) = true := decide_eq_true (by rw [List.length_map]; omega)
          simp only [hdk, cond_true]
          rw [ei, w64 (x := (k' : Int) + 1) (by omega) (by omega), w64 (by omega) (by omega)]
          have hdy : ys.drop k' = xs[i] :: ys.drop (k' + 1) := by rw [← k3 hk]; exact List.drop_eq_getElem_cons hk
          have h5 := lc_skip2 (x := xs[i]) (ys := ys) (xs.drop i) k1
          rw [hdy, hdx, lc_eq] at h5
          have := ih (i + 1) (k' + 1) (cnt + 1) f (by omega) (by omega) (by omega) (by omega) (by omega) (by rw [hdx] at hM; omega)
          rw [show ((k' : Int) + 1) = ((k' + 1 : Nat) : Int) by omega, show ((cnt : Int) + 1) = ((cnt + 1 : Nat) : Int) by omega]
          exact this
        · have hdk : decide ((k' : Int) < ((List.length (ys.map strT) : Nat) : Int)) = false := decide_eq_false (by rw [List.length_map]; omega)
          simp only [hdk, cond_false]
          rw [ei]; exact same
    have hb : l_suturelaw7_DiffMost_7 n (f + 1) (ints .i64 z, xs.map strT, ys.map strT, c0, (j : Int), (cnt : Int), (i : Int)) = l_suturelaw7_DiffMost_7_B n (l_suturelaw7_DiffMost_7 n f) (ints .i64 z, xs.map strT, ys.map strT, c0, (j : Int), (cnt : Int), (i : Int)) := rfl
    rw [hb]
    unfold l_suturelaw7_DiffMost_7_B
    simp only [hd, cond_true]
    have hl : (ints .i64 z).length = z.length := by simp [ints]
    by_cases hz : i < z.length
    · have hdz : decide ((i : Int) < ((List.length (ints .i64 z) : Nat) : Int)) = true := decide_eq_true (by rw [hl]; omega)
      simp only [hdz, idx_ints hz, Option.bind_some]
      rw [must_ok (by decide), cond_true]
      exact go _
    · have hdz : decide ((i : Int) < ((List.length (ints .i64 z) : Nat) : Int)) = false := decide_eq_false (by rw [hl]; omega)
      simp only [hdz, idx_no, Option.bind_some]
      rw [must_ok (by decide), cond_false]
      exact go false

theorem diffMost_law (z1 z2 z3 : List Int) (hz1 : ∀ x ∈ z1, (Lit.int .i64 x).wf = true) (l1 : z1.length ≤ 17592186044416) (hz2 : ∀ x ∈ z2, (Lit.int .i64 x).wf = true) (l2 : z2.length ≤ 17592186044416) (hz3 : ∀ x ∈ z3, (Lit.int .i64 x).wf = true) (l3 : z3.length ≤ 17592186044416) :
    ∃ n, m_suturelaw7_DiffMost n (ints .i64 z1) (ints .i64 z2) (ints .i64 z3) = some true := by
  refine ⟨100000, ?_⟩
  have hl := lines_ok 100000 (by decide)
  have s1 := lns_sm z1; have s2 := lns_sm z2
  have hkept := kept_tell 100000 (by decide) s1 s2
  have c1 := lnsP_len z1; have c2 := lnsP_len z2
  have h7 := most7 100000 (by decide) z3 (lnsP z1) (lnsP z2) ((lc (lnsP z1) (lnsP z2) : Nat) : Int) (lc (lnsP z1) (lnsP z2)) (by omega) (by omega) _ 0 0 0 100000 rfl (Nat.zero_le _) (Nat.zero_le _) (by omega) (Nat.le_refl _) (by simp)
  unfold m_suturelaw7_DiffMost
  generalize 100000 = n at *
  rw [hl, Option.bind_some, dLines_ok n (by have := s1.size; omega), Option.bind_some, hl, Option.bind_some, dLines_ok n (by have := s2.size; omega), Option.bind_some, Option.bind_some, Option.bind_some, of_ok n s1 s2, Option.bind_some, hkept, Option.bind_some, lns_lines z1, lns_lines z2]
  obtain ⟨cnt', h8, h9⟩ := h7
  rw [show (((0 : Nat) : Int)) = 0 from rfl] at h9
  rw [h9, Option.bind_some, known_ok, Option.bind_some]
  have g1 := lc_le_l (lnsP z1) (lnsP z2)
  have g2 := lc_le_r (lnsP z1) (lnsP z2)
  rw [decide_eq_true (show ((lc (lnsP z1) (lnsP z2) : Nat) : Int) ≥ (cnt' : Int) by omega), List.length_map, List.length_map, decide_eq_true (by dsimp only; split <;> omega)]
  rfl
end Go.Proofs.YtimkclpogbfciaaDoor.W

namespace Go.Proofs.YtimkclpogbfciaaDoor.W
open Go Go.Eng
set_option linter.unusedVariables false
set_option linter.unusedSimpArgs false
set_option maxRecDepth 100000

def strL (l : List UInt8) : T := T.sc (.string ⟨l.toArray⟩)
theorem strL_map (s : ByteArray) : (linesL s.data.toList).map strL = (linesB s).map strT := by
  rw [← linesB_eq, List.map_map]
  refine List.map_congr_left fun y _ => ?_
  show T.sc (.string ⟨y.data.toList.toArray⟩) = T.sc (.string y)
  rw [← mk_data y _ rfl]
theorem extract_mid {s : ByteArray} {p c r : List UInt8} (h : s.data.toList = p ++ (c ++ r)) (i j : Nat) (hi : i = p.length) (hj : j = p.length + c.length) : s.extract i j = ⟨c.toArray⟩ := by
  subst hi; subst hj
  refine mk_data _ _ ?_
  rw [extract_data, h, List.drop_left' rfl, show p.length + c.length - p.length = c.length by omega, List.take_left' rfl]

theorem rlines4 (n : Nat) (s : ByteArray) (hsz : s.size ≤ 1000000) : ∀ (r p c : List UInt8) (out : List T) (k : Nat), s.data.toList = p ++ (c ++ r) → 10 ∉ c → r.length < k → out.length + r.length ≤ 1000000 →
    ∃ (o : List T) (f : List UInt8) (g : List UInt8), s.data.toList = f ++ g ∧ l_sutureref1_Lines_4 n k (s, out, (p.length : Int), ((p.length + c.length : Nat) : Int)) = some (s, o, (f.length : Int)) ∧ (if g = [] then o else o ++ [strL g]) = out ++ (linesL (c ++ r)).map strL ∧ o.length ≤ 1000000 := by
  intro r
  induction r with
  | nil =>
    intro p c out k hs hc hk ho
    obtain ⟨k, rfl⟩ : ∃ j, k = j + 1 := ⟨k - 1, by simp at hk; omega⟩
    refine ⟨out, p, c, by rw [hs, List.append_nil], ?_, ?_, by simpa using ho⟩
    · show l_sutureref1_Lines_4_B n (l_sutureref1_Lines_4 n k) _ = _
      unfold l_sutureref1_Lines_4_B
      have : s.size = p.length + c.length := by rw [size_data, hs]; simp
      have hd : decide (((p.length + c.length : Nat) : Int) < ((ByteArray.size s : Nat) : Int)) = false := decide_eq_false (by omega)
      simp only [hd, cond_false]
    · rw [List.append_nil]
      by_cases h : c = []
      · subst h; simp [linesL]
      · rw [if_neg h, linesL_none c hc h]; rfl
  | cons d r ih =>
    intro p c out k hs hc hk ho
    obtain ⟨k, rfl⟩ : ∃ j, k = j + 1 := ⟨k - 1, by omega⟩
    have hs2 : s.data.toList = (p ++ c) ++ d :: r := by rw [hs]; simp
    have hz := size_cons hs2
    rw [List.length_append] at hz
    have hd : decide (((p.length + c.length : Nat) : Int) < ((ByteArray.size s : Nat) : Int)) = true := decide_eq_true (by omega)
    have hb : bidx true s ((p.length + c.length : Nat) : Int) = some d := by have := bidx_at hs2; rwa [List.length_append] at this
    have hkk : r.length < k := by simp at hk; omega
    have hoo : out.length + r.length + 1 ≤ 1000000 := by simp at ho; omega
    by_cases h10 : d = 10
    · subst h10
      have ew : IntKind.wrap .i64 (((p.length + c.length : Nat) : Int) + 1) = ((p.length + c.length + 1 : Nat) : Int) := by rw [w64 (by omega) (by omega)]; omega
      obtain ⟨o, f, g, h1, h2, h3, h4⟩ := ih (p ++ (c ++ [10])) [] (out ++ [strL (c ++ [10])]) k (by rw [hs]; simp) (by simp) hkk (by rw [List.length_append]; simp; omega)
      refine ⟨o, f, g, h1, ?_, ?_, h4⟩
      · show l_sutureref1_Lines_4_B n (l_sutureref1_Lines_4 n k) _ = _
        unfold l_sutureref1_Lines_4_B
        simp only [hd, cond_true, hb, Option.bind_some]
        rw [show ((((UInt8.toNat 10 : Nat) : Int) : Int) == 10) = true from rfl, cond_true, ew, Int.toNat_natCast, Int.toNat_natCast]
        have hx : s.extract p.length (p.length + c.length + 1) = ⟨(c ++ [10]).toArray⟩ := extract_mid (p := p) (c := c ++ [10]) (r := r) (by rw [hs]; simp) _ _ rfl (by simp; omega)
        rw [hx, must_ok (by simp only [Bool.and_eq_true, decide_eq_true_eq]; omega), must_ok (by simp only [Bool.and_eq_true, decide_eq_true_eq]; exact ⟨rfl, by simp; omega, rfl⟩)]
        rw [← h2]
        simp only [List.length_append, List.length_cons, List.length_nil]
        rfl
      · rw [h3, linesL_hit c r hc]
        simp
    · have ew : IntKind.wrap .i64 (((p.length + c.length : Nat) : Int) + 1) = ((p.length + (c ++ [d]).length : Nat) : Int) := by rw [w64 (by omega) (by omega)]; simp; omega
      obtain ⟨o, f, g, h1, h2, h3, h4⟩ := ih p (c ++ [d]) out k (by rw [hs]; simp) (by simp; exact ⟨hc, fun e => h10 e.symm⟩) hkk (by omega)
      refine ⟨o, f, g, h1, ?_, by rw [h3]; simp, h4⟩
      show l_sutureref1_Lines_4_B n (l_sutureref1_Lines_4 n k) _ = _
      unfold l_sutureref1_Lines_4_B
      simp only [hd, cond_true, hb, Option.bind_some]
      have hne : ((((UInt8.toNat d : Nat) : Int) : Int) == 10) = false := by
        have : d.toNat ≠ 10 := fun e => h10 (UInt8.toNat_inj.1 e)
        simp; omega
      rw [hne, cond_false, ew]
      exact h2

theorem rLines_ok (n : Nat) {s : ByteArray} (hsz : s.size ≤ 1000000) (hn : s.size < n) : m_sutureref1_Lines n s = some ((linesB s).map strT) := by
  unfold m_sutureref1_Lines
  obtain ⟨o, f, g, h1, h2, h3, h4⟩ := rlines4 n s hsz s.data.toList [] [] [] n rfl (by simp) (by rw [← size_data]; exact hn) (by rw [← size_data]; simpa using hsz)
  rw [show ((([] : List UInt8).length : Nat) : Int) = 0 from rfl, show ((([] : List UInt8).length + ([] : List UInt8).length : Nat) : Int) = 0 from rfl] at h2
  rw [h2, Option.bind_some]
  rw [List.nil_append, List.nil_append, strL_map] at h3
  rw [← h3]
  have hfl : s.size = f.length + g.length := by rw [size_data, h1]; simp
  by_cases hg : g = []
  · rw [if_pos hg]
    have hd : decide ((f.length : Int) < ((ByteArray.size s : Nat) : Int)) = false := decide_eq_false (by rw [hfl, hg]; simp)
    simp only [hd, cond_false]
  · have hgl : 0 < g.length := List.length_pos_iff.2 hg
    rw [if_neg hg]
    have hd : decide ((f.length : Int) < ((ByteArray.size s : Nat) : Int)) = true := decide_eq_true (by omega)
    simp only [hd, cond_true]
    rw [Int.toNat_natCast, Int.toNat_natCast]
    have hx : s.extract f.length s.size = ⟨g.toArray⟩ := extract_mid (p := f) (c := g) (r := []) (by rw [h1]; simp) _ _ rfl (by omega)
    rw [hx, must_ok (by simp only [Bool.and_eq_true, decide_eq_true_eq]; omega), must_ok (by simp only [Bool.and_eq_true, decide_eq_true_eq]; exact ⟨rfl, by simp; omega, rfl⟩)]
    rfl

theorem flatB_app (a b : List ByteArray) : flatB a ++ flatB b = flatB (a ++ b) := ext_data (by simp [ByteArray.data_append, flatB_data])

theorem diffSides_law (z1 z2 z3 z4 : List Int) (hz1 : ∀ x ∈ z1, (Lit.int .i64 x).wf = true) (l1 : z1.length ≤ 17592186044416) (hz2 : ∀ x ∈ z2, (Lit.int .i64 x).wf = true) (l2 : z2.length ≤ 17592186044416) (hz3 : ∀ x ∈ z3, (Lit.int .i64 x).wf = true) (l3 : z3.length ≤ 17592186044416) (hz4 : ∀ x ∈ z4, (Lit.int .i64 x).wf = true) (l4 : z4.length ≤ 17592186044416) :
    ∃ n, m_suturelaw7_DiffSides n (ints .i64 z1) (ints .i64 z2) (ints .i64 z3) (ints .i64 z4) = some true := by
  refine ⟨100000, ?_⟩
  have hl := lines_ok 100000 (by decide)
  have s1 := lns_sm z1; have s2 := lns_sm z2; have s3 := lns_sm z3; have s4 := lns_sm z4
  have c1 := lnsP_len z1; have c2 := lnsP_len z2; have c3 := lnsP_len z3; have c4 := lnsP_len z4
  have hw : ∀ (a b c : List Int), ∀ y ∈ lnsP a ++ lnsP b ++ lnsP c, Wl y.data.toList ∧ y.size ≤ 10 := fun a b c y hy => by
    rcases List.mem_append.1 hy with h | h
    · rcases List.mem_append.1 h with h | h
      · exact lnsP_wl _ y h
      · exact lnsP_wl _ y h
    · exact lnsP_wl _ y h
  have t1 : Sm (flatB (lnsP z3 ++ lnsP z1 ++ lnsP z4)) := sm_flat (hw z3 z1 z4) (by simp; omega)
  have t2 : Sm (flatB (lnsP z3 ++ lnsP z2 ++ lnsP z4)) := sm_flat (hw z3 z2 z4) (by simp; omega)
  have q1 : linesB (flatB (lnsP z3 ++ lnsP z1 ++ lnsP z4)) = lnsP z3 ++ lnsP z1 ++ lnsP z4 := linesB_flatB fun y hy => (hw z3 z1 z4 y hy).1
  have q2 : linesB (flatB (lnsP z3 ++ lnsP z2 ++ lnsP z4)) = lnsP z3 ++ lnsP z2 ++ lnsP z4 := linesB_flatB fun y hy => (hw z3 z2 z4 y hy).1
  have hk1 := kept_tell 100000 (by decide) t1 t2
  have hk2 := kept_tell 100000 (by decide) s1 s2
  have r3 := rLines_ok 100000 (s := flatB (lnsP z3)) (by have := s3.size; omega) (by have := s3.size; omega)
  have r4 := rLines_ok 100000 (s := flatB (lnsP z4)) (by have := s4.size; omega) (by have := s4.size; omega)
  have z1s := s1.size; have z2s := s2.size; have z3s := s3.size; have z4s := s4.size
  unfold m_suturelaw7_DiffSides
  generalize 100000 = n at *
  rw [hl, Option.bind_some, hl, Option.bind_some, hl, Option.bind_some, hl, Option.bind_some]
  have big : ∀ a : Nat, a ≤ 10000 → decide (((a : Nat) : Int) ≤ IntKind.i64.max) = true := fun a h => decide_eq_true (by show (a : Int) ≤ 9223372036854775807; omega)
  have f1 : (flatB (lnsP z3) ++ flatB (lnsP z1)).size ≤ 2000 := by rw [ByteArray.size_append]; omega
  have f2 : (flatB (lnsP z3) ++ flatB (lnsP z2)).size ≤ 2000 := by rw [ByteArray.size_append]; omega
  rw [must_ok (big _ (by omega)), must_ok (big _ (by omega)), must_ok (big _ (by omega)), must_ok (big _ (by omega)), flatB_app, flatB_app, flatB_app, flatB_app, of_ok n t1 t2, Option.bind_some]
  rw [flatB_app] at f1 f2
  rw [must_ok (big _ (by omega)), must_ok (big _ (by omega)), apply_self n t1 t2, Option.bind_some, r3, Option.bind_some, r4, Option.bind_some, known_ok, Option.bind_some, must_ok (big _ (by omega)), must_ok (big _ (by omega))]
  simp only [beq_self_eq_true, cond_true]
  rw [hk1, Option.bind_some, of_ok n s1 s2, Option.bind_some, hk2, Option.bind_some, q1, q2, lns_lines z1, lns_lines z2, List.length_map, List.length_map, lns_lines z3, lns_lines z4]
  have g1 := lc_le_l (lnsP z1) (lnsP z2)
  rw [lc_back, lc_front, w64 (x := (((lnsP z3).length : Nat) : Int) + (((lnsP z4).length : Nat) : Int)) (by omega) (by omega), w64 (by omega) (by omega)]
  refine congrArg some ?_
  rw [beq_iff_eq]
  omega
end Go.Proofs.YtimkclpogbfciaaDoor.W

