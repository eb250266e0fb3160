/- Own texts, several in one. No conditions. -/
import Derived.Test.YtimkclpogbfciaaDoorZADiffTells
import Derived.Test.YtimkclpogbfciaaDoorD
import Derived.Test.YtimkclpogbfciaaDoorEngWF
namespace Go.Proofs.YtimkclpogbfciaaDoor.W
open Go Go.Eng
set_option linter.unusedVariables false
set_option linter.unusedSimpArgs false
set_option maxRecDepth 100000

theorem w64 {x : Int} (h1 : -9223372036854775808 ≤ x) (h2 : x < 9223372036854775808) : IntKind.wrap .i64 x = x := by
  have := IntKind.wrap_i64 x; omega
theorem w8 {x : Int} (h1 : 0 ≤ x) (h2 : x < 256) : IntKind.wrap .u8 x = x := by
  have := IntKind.wrap_u8 x; omega
theorem bidx_at {s : ByteArray} {p r : List UInt8} {c : UInt8} (h : s.data.toList = p ++ c :: r) : bidx true s (p.length : Int) = some c := by
  have hs : s.size = p.length + 1 + r.length := by rw [size_data, h]; simp; omega
  unfold bidx
  rw [cond_true, decide_eq_true (Int.natCast_nonneg _), cond_true, Int.toNat_natCast]
  have h2 : s.data.toList[p.length]? = some c := by rw [h, List.getElem?_append_right (Nat.le_refl _)]; simp
  rw [ByteArray.getElem?_lt' s _ (by omega)]
  rw [List.getElem?_eq_getElem (by rw [← size_data]; omega)] at h2
  exact h2
theorem bidx_false (s : ByteArray) (k : Int) : bidx false s k = some 0 := rfl
theorem must_ok {R : Type} {c φ : Bool} {r : Option R} (h : φ = true) : must c φ r = r := by unfold must; rw [h]; cases c <;> rfl

theorem kept7 (n : Nat) (s : ByteArray) (cnt kind : Int) : ∀ (ds : List UInt8) (p r : List UInt8) (c : UInt8) (acc k : Nat), s.data.toList = p ++ (ds ++ c :: r) → (∀ d ∈ ds, 48 ≤ d.toNat ∧ d.toNat ≤ 57) → (c.toNat < 48 ∨ 57 < c.toNat) → s.size < 1000000 →
    ds.length < k → (acc + 1) * 10 ^ ds.length ≤ 1000 → l_suturelaw7_kept_7 n k (s, cnt, (p.length : Int), kind, (acc : Int)) = some (s, cnt, ((p.length + ds.length : Nat) : Int), kind, ((ds.foldl (fun a c => 10 * a + (c.toNat - 48)) acc : Nat) : Int)) := by
  intro ds
  induction ds with
  | nil =>
    intro p r c acc k hs _ hc hsz hk _
    obtain ⟨k, rfl⟩ : ∃ j, k = j + 1 := ⟨k - 1, by simp at hk; omega⟩
    rw [List.nil_append] at hs
    have hlt : (p.length : Int) < ((ByteArray.size s : Nat) : Int) := by
      have : s.size = p.length + 1 + r.length := by rw [size_data, hs]; simp; omega
      omega
    show l_suturelaw7_kept_7_B n (l_suturelaw7_kept_7 n k) _ = _
    unfold l_suturelaw7_kept_7_B
    simp only [decide_eq_true hlt, cond_true, bidx_at hs, Option.bind_some]
    rcases hc with hc | hc
    · have : decide ((((UInt8.toNat c : Nat) : Int) : Int) ≥ 48) = false := decide_eq_false (by omega)
      simp only [this, bidx_false, Option.bind_some, cond_false]
      rfl
    · have : decide ((((UInt8.toNat c : Nat) : Int) : Int) ≥ 48) = true := decide_eq_true (by omega)
      have h2 : decide ((((UInt8.toNat c : Nat) : Int) : Int) ≤ 57) = false := decide_eq_false (by omega)
      simp only [this, bidx_at hs, Option.bind_some, cond_true, h2, cond_false]
      rfl
  | cons d ds ih =>
    intro p r c acc k hs hd hc hsz hk ha
    obtain ⟨k, rfl⟩ : ∃ j, k = j + 1 := ⟨k - 1, by omega⟩
    obtain ⟨d1, d2⟩ := hd d (by simp)
    have hs1 : s.data.toList = p ++ d :: (ds ++ c :: r) := by rw [hs]; rfl
    have hlt : (p.length : Int) < ((ByteArray.size s : Nat) : Int) ∧ p.length < 1000000 := by
      have : s.size = p.length + 1 + (ds ++ c :: r).length := by rw [size_data, hs1]; simp; omega
      omega
    show l_suturelaw7_kept_7_B n (l_suturelaw7_kept_7 n k) _ = _
    unfold l_suturelaw7_kept_7_B
    have h1 : decide ((((UInt8.toNat d : Nat) : Int) : Int) ≥ 48) = true := decide_eq_true (by omega)
    have h2 : decide ((((UInt8.toNat d : Nat) : Int) : Int) ≤ 57) = true := decide_eq_true (by omega)
    simp only [decide_eq_true hlt.1, cond_true, bidx_at hs1, Option.bind_some, h1, h2]
    have hpow : 1 ≤ 10 ^ ds.length := Nat.one_le_pow _ _ (by decide)
    have hb : (10 * acc + (d.toNat - 48) + 1) * 10 ^ ds.length ≤ 1000 := by
      refine Nat.le_trans ?_ ha
      rw [List.length_cons, Nat.pow_succ, Nat.mul_comm (10 ^ ds.length) 10, ← Nat.mul_assoc]
      exact Nat.mul_le_mul_right _ (by omega)
    have ha1 : 10 * acc + (d.toNat - 48) + 1 ≤ 1000 := Nat.le_trans (by
      have := Nat.mul_le_mul_left (10 * acc + (d.toNat - 48) + 1) hpow
      omega) hb
    have e1 : IntKind.wrap .i64 ((p.length : Int) + 1) = (((p ++ [d]).length : Nat) : Int) := by rw [w64 (by omega) (by omega)]; simp
    have e2 : IntKind.wrap .i64 (IntKind.wrap .i64 (10 * (acc : Int)) + IntKind.wrap .i64 (IntKind.wrap .u8 (((UInt8.toNat d : Nat) : Int) - 48))) = ((10 * acc + (d.toNat - 48) : Nat) : Int) := by
      rw [w8 (by omega) (by omega), w64 (x := 10 * (acc : Int)) (by omega) (by omega), w64 (x := ((UInt8.toNat d : Nat) : Int) - 48) (by omega) (by omega), w64 (by omega) (by omega)]
      omega
    rw [e1, e2]
    rw [ih (p ++ [d]) r c _ k (by rw [hs]; simp) (fun x hx => hd x (by simp [hx])) hc hsz (by simp at hk; omega) hb]
    simp only [List.length_append, List.length_cons, List.length_nil, List.foldl_cons]
    rw [show p.length + (0 + 1) + ds.length = p.length + (ds.length + 1) by omega]

theorem size_cons {s : ByteArray} {p r : List UInt8} {c : UInt8} (h : s.data.toList = p ++ c :: r) : s.size = p.length + 1 + r.length := by rw [size_data, h]; simp; omega

/-- How many lines are kept, by what is told. -/
theorem kept3 (n : Nat) (hn : 10 ≤ n) (s : ByteArray) (hsz : s.size < 1000000) : ∀ (ps : List (Pc ByteArray)) (p : List UInt8) (b cnt k : Nat), s.data.toList = p ++ rdr ps → Gd b ps → ps.length < k → cnt + pk ps < 1000000 →
    l_suturelaw7_kept_3 n k (s, (cnt : Int), (p.length : Int)) = some ((cnt + pk ps : Nat) : Int) := by
  intro ps
  induction ps with
  | nil =>
    intro p b cnt k hs _ hk _
    obtain ⟨k, rfl⟩ : ∃ j, k = j + 1 := ⟨k - 1, by simp at hk; omega⟩
    show l_suturelaw7_kept_3_B n (l_suturelaw7_kept_3 n k) _ = _
    unfold l_suturelaw7_kept_3_B
    have : s.size = p.length := by rw [size_data, hs]; simp [rdr]
    have hd : decide ((p.length : Int) < ((ByteArray.size s : Nat) : Int)) = false := decide_eq_false (by omega)
    simp only [hd, cond_false]
    rfl
  | cons q ps ih =>
    intro p b cnt k hs hg hk hc
    obtain ⟨k, rfl⟩ : ∃ j, k = j + 1 := ⟨k - 1, by omega⟩
    have hk2 : ps.length < k := by simp at hk; omega
    show l_suturelaw7_kept_3_B n (l_suturelaw7_kept_3 n k) _ = _
    unfold l_suturelaw7_kept_3_B
    have run : ∀ (m : Nat) (c d : UInt8) (r : List UInt8), m < 100 → (d.toNat < 48 ∨ 57 < d.toNat) → s.data.toList = p ++ c :: (Lib.decDigits m ++ d :: r) →
        (p.length : Int) < ((ByteArray.size s : Nat) : Int) ∧ bidx true s (p.length : Int) = some c ∧ s.size = p.length + 1 + (Lib.decDigits m).length + 1 + r.length ∧
        l_suturelaw7_kept_7 n n (s, (cnt : Int), IntKind.wrap .i64 ((p.length : Int) + 1), ((UInt8.toNat c : Nat) : Int), 0) = some (s, (cnt : Int), ((p.length + 1 + (Lib.decDigits m).length : Nat) : Int), ((UInt8.toNat c : Nat) : Int), (m : Int)) := by
      intro m c d r hm hd hs2
      obtain ⟨f1, f2, f3, f4, f5⟩ := dig_facts hm
      have hl := dec_le hm
      have hz := size_cons hs2
      have hz2 : (Lib.decDigits m ++ d :: r).length = (Lib.decDigits m).length + 1 + r.length := by simp; omega
      refine ⟨by omega, bidx_at hs2, by omega, ?_⟩
      have e1 : IntKind.wrap .i64 ((p.length : Int) + 1) = (((p ++ [c]).length : Nat) : Int) := by rw [w64 (by omega) (by omega)]; simp
      have h7 := kept7 n s cnt ((UInt8.toNat c : Nat) : Int) (Lib.decDigits m) (p ++ [c]) r d 0 n (by rw [hs2]; simp) f3 hd hsz (by omega) (by
        have : 10 ^ (Lib.decDigits m).length ≤ 10 ^ 2 := Nat.pow_le_pow_right (by decide) hl
        omega)
      rw [show ((0 : Nat) : Int) = 0 from rfl] at h7
      rw [e1, h7, f5]
      simp
    cases q with
    | kp m =>
      obtain ⟨g1, g2, g3, g4⟩ := hg
      have hs2 : s.data.toList = p ++ (61 : UInt8) :: (Lib.decDigits m ++ (10 : UInt8) :: rdr ps) := by rw [hs, rdr, runL_cons]; simp
      obtain ⟨r1, r2, r3, r4⟩ := run m 61 10 (rdr ps) g3 (by decide) hs2
      simp only [decide_eq_true r1, cond_true, r2, Option.bind_some, r4]
      have e61 : (((UInt8.toNat 61 : Nat) : Int) == 61) = true := rfl
      have e43 : (((UInt8.toNat 61 : Nat) : Int) == 43) = false := rfl
      simp only [pk] at hc ⊢
      rw [e61, e43, cond_true, cond_false, w64 (by omega) (by omega), w64 (by omega) (by omega)]
      have := ih (p ++ (61 : UInt8) :: (Lib.decDigits m ++ [10])) 61 (cnt + m) k (by rw [hs2]; simp) g4 hk2 (by omega)
      rw [show (((p ++ (61 : UInt8) :: (Lib.decDigits m ++ [10])).length : Nat) : Int) = ((p.length + 1 + (Lib.decDigits m).length : Nat) : Int) + 1 by simp; omega] at this
      rw [show ((cnt : Int) + (m : Int)) = ((cnt + m : Nat) : Int) by omega, this]
      congr 2; omega
    | dp m =>
      obtain ⟨g1, g2, g3, g4⟩ := hg
      have hs2 : s.data.toList = p ++ (45 : UInt8) :: (Lib.decDigits m ++ (10 : UInt8) :: rdr ps) := by rw [hs, rdr, runL_cons]; simp
      obtain ⟨r1, r2, r3, r4⟩ := run m 45 10 (rdr ps) g3 (by decide) hs2
      simp only [decide_eq_true r1, cond_true, r2, Option.bind_some, r4]
      have e61 : (((UInt8.toNat 45 : Nat) : Int) == 61) = false := rfl
      have e43 : (((UInt8.toNat 45 : Nat) : Int) == 43) = false := rfl
      simp only [pk] at hc ⊢
      rw [e61, e43, cond_false, cond_false, w64 (by omega) (by omega)]
      have := ih (p ++ (45 : UInt8) :: (Lib.decDigits m ++ [10])) 45 cnt k (by rw [hs2]; simp) g4 hk2 (by omega)
      rw [show (((p ++ (45 : UInt8) :: (Lib.decDigits m ++ [10])).length : Nat) : Int) = ((p.length + 1 + (Lib.decDigits m).length : Nat) : Int) + 1 by simp; omega] at this
      rw [this]
    | ad y =>
      obtain ⟨g1, g4⟩ := hg
      have hs2 : s.data.toList = p ++ (43 : UInt8) :: (Lib.decDigits y.size ++ (58 : UInt8) :: (y.data.toList ++ 10 :: rdr ps)) := by rw [hs, rdr, addL]; simp
      obtain ⟨r1, r2, r3, r4⟩ := run y.size 43 58 (y.data.toList ++ 10 :: rdr ps) g1.2 (by decide) hs2
      have hyl : y.data.toList.length = y.size := (size_data y).symm
      have hly := g1.2
      simp only [decide_eq_true r1, cond_true, r2, Option.bind_some, r4]
      have e61 : (((UInt8.toNat 43 : Nat) : Int) == 61) = false := rfl
      have e43 : (((UInt8.toNat 43 : Nat) : Int) == 43) = true := rfl
      simp only [pk] at hc ⊢
      rw [e61, e43, cond_false, cond_true, w64 (x := ((p.length + 1 + (Lib.decDigits y.size).length : Nat) : Int) + 1) (by omega) (by omega), w64 (x := ((p.length + 1 + (Lib.decDigits y.size).length : Nat) : Int) + 1 + (y.size : Int)) (by omega) (by omega), w64 (by omega) (by omega)]
      have := ih (p ++ (43 : UInt8) :: (Lib.decDigits y.size ++ (58 : UInt8) :: (y.data.toList ++ [10]))) 43 cnt k (by rw [hs2]; simp) g4 hk2 (by omega)
      rw [show (((p ++ (43 : UInt8) :: (Lib.decDigits y.size ++ (58 : UInt8) :: (y.data.toList ++ [10]))).length : Nat) : Int) = ((p.length + 1 + (Lib.decDigits y.size).length : Nat) : Int) + 1 + (y.size : Int) + 1 by simp only [List.length_append, List.length_cons, List.length_nil, hyl]; omega] at this
      rw [this]

theorem kept_ok (n : Nat) (hn : 1000 ≤ n) {s : ByteArray} (hsz : s.size < 1000000) {ps : List (Pc ByteArray)} (hs : s.data.toList = rdr ps) (hg : Gd 0 ps) (hl : ps.length < 1000) (hp : pk ps < 1000000) : m_suturelaw7_kept n s = some ((pk ps : Nat) : Int) := by
  unfold m_suturelaw7_kept
  have := kept3 n (by omega) s hsz ps [] 0 0 n (by rw [hs]; rfl) hg (by omega) (by omega)
  rw [show ((([] : List UInt8).length : Nat) : Int) = 0 from rfl, show ((0 : Nat) : Int) = 0 from rfl, Nat.zero_add] at this
  rw [this]; rfl

/-! texts of few unlike lines -/
def pick6 (z : Int) : Int := bif decide (Int.tmod z 6 < 0) then Int.tmod z 6 + 6 else Int.tmod z 6
theorem pick6_rng (z : Int) : 0 ≤ pick6 z ∧ pick6 z < 6 := by
  unfold pick6
  have h1 : Int.tmod z 6 < 6 := Int.tmod_lt_of_pos _ (by decide)
  have h2 : -6 < Int.tmod z 6 := by have := Int.lt_tmod_of_pos z (b := 6) (by decide); simpa using this
  cases h : decide (Int.tmod z 6 < 0) with
  | true => rw [cond_true]; have := of_decide_eq_true h; omega
  | false => rw [cond_false]; have := of_decide_eq_false h; omega
theorem pick_ok (n : Nat) (z : Int) : m_suturehand_Pick n z 6 = some (pick6 z) := by
  unfold m_suturehand_Pick
  have h1 : Int.tmod z 6 < 6 := Int.tmod_lt_of_pos _ (by decide)
  have h2 : -6 < Int.tmod z 6 := by have := Int.lt_tmod_of_pos z (b := 6) (by decide); simpa using this
  rw [must_ok (by decide), w64 (by omega) (by omega)]
  unfold pick6
  cases decide (Int.tmod z 6 < 0) <;> rfl
def tabl : List ByteArray := [⟨#[97, 10]⟩, ⟨#[98, 10]⟩, ⟨#[10]⟩, ⟨#[97, 10]⟩, ⟨#[9, 108, 111, 110, 103, 32, 111, 110, 101, 10]⟩, ⟨#[99, 10]⟩]
def tbl (z : Int) : ByteArray := tabl.getD (pick6 z).toNat ByteArray.empty
theorem tbl_mem (z : Int) : tbl z ∈ tabl := by
  have := pick6_rng z
  unfold tbl
  rw [List.getD_eq_getElem?_getD, List.getElem?_eq_getElem (by show (pick6 z).toNat < 6; omega)]
  exact List.getElem_mem _
def strT (y : ByteArray) : T := T.sc (.string y)
theorem tabl_wl : ∀ y ∈ tabl, Wl y.data.toList ∧ y.size ≤ 10 := by
  intro y hy
  simp only [tabl, List.mem_cons, List.not_mem_nil, or_false] at hy
  rcases hy with rfl | rfl | rfl | rfl | rfl | rfl
  · exact ⟨⟨[97], by decide, rfl⟩, by decide⟩
  · exact ⟨⟨[98], by decide, rfl⟩, by decide⟩
  · exact ⟨⟨[], by decide, rfl⟩, by decide⟩
  · exact ⟨⟨[97], by decide, rfl⟩, by decide⟩
  · exact ⟨⟨[9, 108, 111, 110, 103, 32, 111, 110, 101], by decide, rfl⟩, by decide⟩
  · exact ⟨⟨[99], by decide, rfl⟩, by decide⟩

theorem idx_ints {z : List Int} {i : Nat} (h : i < z.length) : idx true [.int .i64] (ints .i64 z) (i : Int) = some (T.sc (.int .i64 z[i])) := by
  unfold idx ints
  rw [cond_true, decide_eq_true (Int.natCast_nonneg _), cond_true, Int.toNat_natCast, List.getElem?_map, List.getElem?_eq_getElem h]
  rfl
theorem idx_tabl (z : Int) : idx1 true (.str) [(T.sc (.string (⟨#[97, 10]⟩ : ByteArray))), (T.sc (.string (⟨#[98, 10]⟩ : ByteArray))), (T.sc (.string (⟨#[10]⟩ : ByteArray))), (T.sc (.string (⟨#[97, 10]⟩ : ByteArray))), (T.sc (.string (⟨#[9, 108, 111, 110, 103, 32, 111, 110, 101, 10]⟩ : ByteArray))), (T.sc (.string (⟨#[99, 10]⟩ : ByteArray)))] (pick6 z) = some (strT (tbl z)) := by
  obtain ⟨h1, h2⟩ := pick6_rng z
  unfold tbl
  obtain ⟨k, hk⟩ : ∃ k : Nat, pick6 z = k := ⟨(pick6 z).toNat, by omega⟩
  rw [hk, Int.toNat_natCast]
  have : k < 6 := by omega
  match k, this with
  | 0, _ => rfl
  | 1, _ => rfl
  | 2, _ => rfl
  | 3, _ => rfl
  | 4, _ => rfl
  | 5, _ => rfl

def flatB (ys : List ByteArray) : ByteArray := ⟨(ys.flatMap (·.data.toList)).toArray⟩
theorem flatB_data (ys : List ByteArray) : (flatB ys).data.toList = ys.flatMap (·.data.toList) := by simp [flatB]
theorem lines3 (n : Nat) (z : List Int) (b : Bool) : ∀ (m i k : Nat) (acc : ByteArray), 24 - i = m → i ≤ 24 → m < k → acc.size ≤ 10 * i → l_suturelaw7_lines_3 n k (ints .i64 z, b, acc, (i : Int)) = some (b, acc ++ flatB (((z.drop i).take (24 - i)).map tbl)) := by
  intro m
  have stop : ∀ (i k : Nat) (acc : ByteArray), (z.length ≤ i ∨ 24 ≤ i) → 0 < k → l_suturelaw7_lines_3 n k (ints .i64 z, b, acc, (i : Int)) = some (b, acc ++ flatB (((z.drop i).take (24 - i)).map tbl)) := by
    intro i k acc h hk
    obtain ⟨k, rfl⟩ : ∃ j, k = j + 1 := ⟨k - 1, by omega⟩
    show l_suturelaw7_lines_3_B n (l_suturelaw7_lines_3 n k) _ = _
    unfold l_suturelaw7_lines_3_B
    have hl : (ints .i64 z).length = z.length := by simp [ints]
    have hd : (bif (decide ((i : Int) < ((List.length (ints .i64 z) : Nat) : Int))) then (decide ((i : Int) < 24)) else false) = false := by
      rw [hl]
      rcases h with h | h
      · rw [decide_eq_false (by omega)]; rfl
      · rw [decide_eq_false (p := (i : Int) < 24) (by omega)]; cases decide ((i : Int) < (z.length : Int)) <;> rfl
    have he : (z.drop i).take (24 - i) = [] := by
      rcases h with h | h
      · rw [List.drop_eq_nil_of_le h, List.take_nil]
      · rw [show 24 - i = 0 by omega]; rfl
    simp only [hd, cond_false, he]
    refine congrArg some (Prod.ext rfl ?_)
    exact ext_data (by simp [ByteArray.data_append, flatB_data])
  induction m with
  | zero => intro i k acc h1 h2 h3 _; exact stop i k acc (by omega) h3
  | succ m ih =>
    intro i k acc h1 h2 h3 h4
    by_cases hz : i < z.length
    · obtain ⟨k, rfl⟩ : ∃ j, k = j + 1 := ⟨k - 1, by omega⟩
      show l_suturelaw7_lines_3_B n (l_suturelaw7_lines_3 n k) _ = _
      unfold l_suturelaw7_lines_3_B
      have hl : (ints .i64 z).length = z.length := by simp [ints]
      have hd : (bif (decide ((i : Int) < ((List.length (ints .i64 z) : Nat) : Int))) then (decide ((i : Int) < 24)) else false) = true := by
        rw [hl, decide_eq_true (by omega), decide_eq_true (by omega)]; rfl
      have hs := (tabl_wl _ (tbl_mem z[i])).2
      simp only [hd, cond_true, idx_ints hz, Option.bind_some]
      rw [show (T.cell (T.sc (.int .i64 z[i])) 0).int = z[i] from rfl, pick_ok, Option.bind_some, idx_tabl, Option.bind_some, show (strT (tbl z[i])).str = tbl z[i] from rfl]
      rw [must_ok (decide_eq_true (by show ((acc.size + (tbl z[i]).size : Nat) : Int) ≤ 9223372036854775807; omega)), w64 (by omega) (by omega)]
      have := ih (i + 1) k (acc ++ tbl z[i]) (by omega) (by omega) (by omega) (by rw [ByteArray.size_append]; omega)
      rw [show ((i : Int) + 1) = ((i + 1 : Nat) : Int) by omega, this]
      refine congrArg some (Prod.ext rfl ?_)
      refine ext_data ?_
      simp only [ByteArray.data_append, Array.toList_append, flatB_data]
      rw [List.drop_eq_getElem_cons hz, show 24 - i = (24 - (i + 1)) + 1 by omega, List.take_succ_cons]
      simp
    · exact stop i k acc (.inl (by omega)) (by omega)

/-- The lines of raw numbers. -/
def lnsP (z : List Int) : List ByteArray := (z.take 24).map tbl
theorem lnsP_wl (z : List Int) : ∀ y ∈ lnsP z, Wl y.data.toList ∧ y.size ≤ 10 := by
  intro y hy
  obtain ⟨a, _, rfl⟩ := List.mem_map.1 hy
  exact tabl_wl _ (tbl_mem a)
theorem lnsP_len (z : List Int) : (lnsP z).length ≤ 24 := by unfold lnsP; rw [List.length_map, List.length_take]; omega
theorem flat_size : ∀ {ys : List ByteArray} {c : Nat}, (∀ y ∈ ys, y.size ≤ c) → (flatB ys).size ≤ c * ys.length
  | [], c, _ => Nat.zero_le _
  | y :: ys, c, h => by
    have ih := flat_size (ys := ys) (c := c) fun x hx => h x (List.mem_cons_of_mem _ hx)
    have h1 := h y (by simp)
    have e : (flatB (y :: ys)).size = y.size + (flatB ys).size := by rw [size_data, flatB_data, List.flatMap_cons, List.length_append, ← size_data, size_data (flatB ys), flatB_data]
    rw [e, List.length_cons, Nat.mul_add]; omega
theorem lines_ok (n : Nat) (hn : 30 ≤ n) (z : List Int) : m_suturelaw7_lines n (ints .i64 z) false = some (flatB (lnsP z)) := by
  unfold m_suturelaw7_lines
  have := lines3 n z false 24 0 n ⟨#[]⟩ rfl (by omega) (by omega) (by show 0 ≤ 0; omega)
  rw [show ((0 : Nat) : Int) = 0 from rfl] at this
  rw [this, Option.bind_some]
  show some _ = _
  refine congrArg some (ext_data ?_)
  simp [ByteArray.data_append, flatB_data, lnsP]
theorem lines_ok_tail (n : Nat) (hn : 30 ≤ n) (z : List Int) : m_suturelaw7_lines n (ints .i64 z) true = some (flatB (lnsP z)) ∧ lnsP z = [] ∨ m_suturelaw7_lines n (ints .i64 z) true = some ((flatB (lnsP z)).extract 0 ((flatB (lnsP z)).size - 1)) := by
  unfold m_suturelaw7_lines
  have h := lines3 n z true 24 0 n ⟨#[]⟩ rfl (by omega) (by omega) (by show 0 ≤ 0; omega)
  rw [show ((0 : Nat) : Int) = 0 from rfl] at h
  have e : (⟨#[]⟩ : ByteArray) ++ flatB (((z.drop 0).take (24 - 0)).map tbl) = flatB (lnsP z) := ext_data (by simp [ByteArray.data_append, flatB_data, lnsP])
  rw [e] at h
  rw [h, Option.bind_some]
  have hsz : (flatB (lnsP z)).size ≤ 10 * 24 := Nat.le_trans (flat_size fun y hy => (lnsP_wl z y hy).2) (Nat.mul_le_mul_left _ (lnsP_len z))
  by_cases h0 : (flatB (lnsP z)).size = 0
  · left
    refine ⟨?_, ?_⟩
    · simp only [h0, cond_true]; rfl
    · cases hl : lnsP z with
      | nil => rfl
      | cons y ys =>
        exfalso
        have hy := (lnsP_wl z y (by rw [hl]; simp)).1
        obtain ⟨a, _, ha⟩ := hy
        rw [hl, size_data, flatB_data, List.flatMap_cons, ha] at h0
        simp at h0
  · right
    have hp : decide ((((ByteArray.size (flatB (lnsP z)) : Nat) : Int) : Int) > 0) = true := decide_eq_true (by omega)
    simp only [hp, cond_true]
    rw [w64 (by omega) (by omega), must_ok (by simp only [Bool.and_eq_true, decide_eq_true_eq]; omega)]
    rw [show (((ByteArray.size (flatB (lnsP z)) : Nat) : Int) - 1).toNat = (flatB (lnsP z)).size - 1 by omega]
    rfl
theorem few_ok (n : Nat) (s : ByteArray) (k : Nat) : m_suturehand_Few n s (k : Int) = some (if k < s.size then s.extract 0 k else s) := by
  unfold m_suturehand_Few
  by_cases h : k < s.size
  · rw [decide_eq_true (by omega), cond_true, must_ok (by simp only [Bool.and_eq_true, decide_eq_true_eq]; omega), if_pos h]
    rfl
  · rw [decide_eq_false (by omega), cond_false, if_neg h]

def chkD (n : Nat) : Bool := match m_sutureref1_Digits 100000 (n : Int) with
  | some r => r.data.toList == Lib.decDigits n
  | none => false
theorem chkD_all : (List.range 100).all chkD = true := by kernel_rfl
theorem digits_ok {n : Nat} (h : n < 100) : m_sutureref1_Digits 100000 (n : Int) = some ⟨(Lib.decDigits n).toArray⟩ := by
  have := List.all_eq_true.1 chkD_all n (by simpa using h)
  unfold chkD at this
  split at this
  · rename_i r hr
    rw [hr]
    exact congrArg some (mk_data _ _ (by simpa using this))
  · cases this
end Go.Proofs.YtimkclpogbfciaaDoor.W

namespace Go.Proofs.YtimkclpogbfciaaDoor.W
open Go Go.Eng
set_option linter.unusedVariables false
set_option linter.unusedSimpArgs false
set_option maxRecDepth 100000

theorem map_data_inj {xs ys : List ByteArray} (h : xs.map (·.data.toList) = ys.map (·.data.toList)) : xs = ys :=
  List.map_inj_right (fun x y e => ext_data e) |>.1 h
theorem linesB_ln {s y : ByteArray} (h : y ∈ linesB s) : Ln y.data.toList :=
  linesL_ln s.data.toList _ (by rw [← linesB_eq]; exact List.mem_map.2 ⟨y, h, rfl⟩)
theorem flatB_lines (s : ByteArray) : flatB (linesB s) = s := by
  refine ext_data ?_
  rw [flatB_data, List.flatMap_def, linesB_eq, linesL_flat]
theorem linesB_of {s : ByteArray} {ys : List ByteArray} (hs : s.data.toList = ys.flatMap (·.data.toList)) (h : ∀ y ∈ ys, Wl y.data.toList) : linesB s = ys := by
  refine map_data_inj ?_
  rw [linesB_eq, hs, List.flatMap_def]
  have := linesL_wl (ys.map (·.data.toList)) [] (fun l hl => by obtain ⟨y, hy, rfl⟩ := List.mem_map.1 hl; exact h y hy)
  rw [List.append_nil] at this
  rw [this]; simp [linesL]
theorem linesB_flatB {ys : List ByteArray} (h : ∀ y ∈ ys, Wl y.data.toList) : linesB (flatB ys) = ys := linesB_of (flatB_data ys) h
theorem linesL_count : ∀ b : List UInt8, (linesL b).length ≤ b.length
  | [] => Nat.le_refl _
  | c :: r => by
    have ih := linesL_count r
    unfold linesL
    split
    · simp; omega
    · split
      · simp
      · rename_i h; rw [h] at ih; simp at ih ⊢; omega
theorem flatten_le : ∀ {ls : List (List UInt8)} {l : List UInt8}, l ∈ ls → l.length ≤ ls.flatten.length
  | [], l, h => by simp at h
  | a :: ls, l, h => by
    rw [List.flatten_cons, List.length_append]
    rcases List.mem_cons.1 h with rfl | h
    · omega
    · have := flatten_le h; omega
theorem linesB_count (s : ByteArray) : (linesB s).length ≤ s.size := by
  have := linesL_count s.data.toList
  rw [← linesB_eq, List.length_map, ← size_data] at this
  exact this
theorem linesB_size {s y : ByteArray} (h : y ∈ linesB s) : y.size ≤ s.size := by
  have := flatten_le (ls := linesL s.data.toList) (l := y.data.toList) (by rw [← linesB_eq]; exact List.mem_map.2 ⟨y, h, rfl⟩)
  rw [linesL_flat, ← size_data, ← size_data] at this
  exact this

/-- A text that is small. -/
structure Sm (s : ByteArray) : Prop where
  size : s.size ≤ 1000
  count : (linesB s).length < 100
  each : ∀ y ∈ linesB s, y.size < 100
theorem Sm.tl {s : ByteArray} (h : Sm s) : ∀ y ∈ linesB s, Tl y := fun y hy => ⟨linesB_ln hy, h.each y hy⟩
theorem sm_short {s : ByteArray} (h : s.size ≤ 80) : Sm s :=
  ⟨by omega, by have := linesB_count s; omega, fun y hy => by have := linesB_size hy; omega⟩
theorem sm_few (s : ByteArray) (k : Nat) (hk : k ≤ 80) : Sm (if k < s.size then s.extract 0 k else s) := by
  refine sm_short ?_
  split
  · rw [ByteArray.size_extract]; omega
  · omega
theorem sm_flat {ys : List ByteArray} (h : ∀ y ∈ ys, Wl y.data.toList ∧ y.size ≤ 10) (hl : ys.length ≤ 72) : Sm (flatB ys) := by
  have h1 := flat_size fun y hy => (h y hy).2
  have h2 := linesB_flatB fun y hy => (h y hy).1
  exact ⟨by omega, by rw [h2]; omega, fun y hy => by rw [h2] at hy; have := (h y hy).2; omega⟩
theorem sm_tail (z : List Int) : Sm ((flatB (lnsP z)).extract 0 ((flatB (lnsP z)).size - 1)) := by
  have hw := lnsP_wl z
  have hl := lnsP_len z
  generalize lnsP z = ys at *
  cases hys : ys.reverse with
  | nil =>
    obtain rfl : ys = [] := by simpa using hys
    exact sm_short (by rw [ByteArray.size_extract]; show min (0 - 1) 0 - 0 ≤ 80; omega)
  | cons y rs =>
    obtain rfl : ys = rs.reverse ++ [y] := by have := congrArg List.reverse hys; simpa using this
    obtain ⟨⟨a, ha, hay⟩, hy10⟩ := hw y (by simp)
    have hd : (flatB (rs.reverse ++ [y])).data.toList = rs.reverse.flatMap (·.data.toList) ++ (a ++ [10]) := by rw [flatB_data, List.flatMap_append, ← hay]; simp
    have ht : ((flatB (rs.reverse ++ [y])).extract 0 ((flatB (rs.reverse ++ [y])).size - 1)).data.toList = rs.reverse.flatMap (·.data.toList) ++ a := by
      rw [extract_data, List.drop_zero, size_data, hd, ← List.append_assoc, List.take_left' (by simp)]
    have hal : a.length < 10 := by
      have : y.size = a.length + 1 := by rw [size_data, hay]; simp
      omega
    have hL : (linesB ((flatB (rs.reverse ++ [y])).extract 0 ((flatB (rs.reverse ++ [y])).size - 1))).map (·.data.toList) = rs.reverse.map (·.data.toList) ++ linesL a := by
      rw [linesB_eq, ht, List.flatMap_def]
      exact linesL_wl _ a (fun l h => by obtain ⟨x, hx, rfl⟩ := List.mem_map.1 h; exact (hw x (by simp at hx ⊢; exact .inl hx)).1)
    have hlen := congrArg List.length hL
    rw [List.length_map, List.length_append, List.length_map] at hlen
    have hac := linesL_count a
    simp at hl hlen
    refine ⟨?_, by omega, fun x hx => ?_⟩
    · have h1 := flat_size fun y hy => (hw y hy).2
      rw [ByteArray.size_extract]
      simp at h1
      omega
    · have hm : x.data.toList ∈ rs.reverse.map (·.data.toList) ++ linesL a := by rw [← hL]; exact List.mem_map.2 ⟨x, hx, rfl⟩
      rcases List.mem_append.1 hm with h | h
      · obtain ⟨u, hu, e⟩ := List.mem_map.1 h
        obtain rfl : u = x := ext_data e
        have := (hw u (by simp at hu ⊢; exact .inl hu)).2
        omega
      · have := flatten_le h
        rw [linesL_flat, ← size_data] at this
        omega
theorem lines_sm (n : Nat) (hn : 30 ≤ n) (z : List Int) (b : Bool) : ∃ x, m_suturelaw7_lines n (ints .i64 z) b = some x ∧ Sm x := by
  have h0 : Sm (flatB (lnsP z)) := sm_flat (lnsP_wl z) (by have := lnsP_len z; omega)
  cases b with
  | false => exact ⟨_, lines_ok n hn z, h0⟩
  | true =>
    rcases lines_ok_tail n hn z with ⟨h, _⟩ | h
    · exact ⟨_, h, h0⟩
    · exact ⟨_, h, sm_tail z⟩

/-- What is told of two texts. -/
def tell (s t : ByteArray) : ByteArray := ⟨(rdr (pcs (linesB s) (linesB t))).toArray⟩
theorem tell_data (s t : ByteArray) : (tell s t).data.toList = rdr (pcs (linesB s) (linesB t)) := by simp [tell]
theorem of_ok (n : Nat) {s t : ByteArray} (hs : Sm s) (ht : Sm t) : m_diff_Of n s t = some (tell s t) := by
  show ofM s t = _
  have h1 := hs.size; have h2 := ht.size
  unfold ofM
  rw [decide_eq_true (by omega), decide_eq_true (by omega), decide_eq_true hs.count, decide_eq_true ht.count]
  have : (linesB t).all (fun y => decide (y.size < 100)) = true := List.all_eq_true.2 fun y hy => decide_eq_true (ht.each y hy)
  rw [this]
  show some _ = _
  rw [ofS_rdr]; rfl
theorem tell_gd {s t : ByteArray} (hs : Sm s) (ht : Sm t) : Gd 0 (pcs (linesB s) (linesB t)) := pcs_gd hs.count ht.tl

theorem path_len : ∀ (m : Nat) (a b : List ByteArray), a.length + b.length ≤ m → (path a b).length ≤ a.length + b.length := by
  intro m
  induction m with
  | zero =>
    intro a b h
    have ha : a = [] := List.eq_nil_of_length_eq_zero (by omega)
    have hb : b = [] := List.eq_nil_of_length_eq_zero (by omega)
    subst ha; subst hb
    rw [path_nn]; simp
  | succ m ih =>
    intro a b h
    match a, b with
    | [], [] => rw [path_nn]; simp
    | [], y :: b =>
      have := ih [] b (by simp only [List.length_cons] at h; omega)
      rw [path_nc]; simp only [List.length_cons, List.length_nil] at this ⊢; omega
    | x :: a, [] =>
      have := ih a [] (by simp only [List.length_cons] at h; omega)
      rw [path_cn]; simp only [List.length_cons, List.length_nil] at this ⊢; omega
    | x :: a, y :: b =>
      simp only [List.length_cons] at h
      rw [path_cc]
      split
      · have := ih a b (by omega); simp only [List.length_cons] at this ⊢; omega
      · split
        · have := ih a (y :: b) (by simp only [List.length_cons]; omega); simp only [List.length_cons] at this ⊢; omega
        · have := ih (x :: a) b (by simp only [List.length_cons]; omega); simp only [List.length_cons] at this ⊢; omega
theorem flush_len (k c : Nat) : (flush k c : List (Pc ByteArray)).length ≤ 1 := by
  unfold flush
  split
  · simp
  · split <;> simp
theorem rn_len : ∀ (o : List (Op ByteArray)) (k c : Nat), (rn k c o).length ≤ 1 + 2 * o.length
  | [], k, c => by rw [rn]; have := flush_len k c; simp; omega
  | .keep :: o, k, c => by
    rw [rn]
    have := flush_len k c
    split
    · have := rn_len o 1 (c + 1); simp only [List.length_cons] at this ⊢; omega
    · have := rn_len o 1 1; simp only [List.length_append, List.length_cons] at this ⊢; omega
  | .drop :: o, k, c => by
    rw [rn]
    have := flush_len k c
    split
    · have := rn_len o 2 (c + 1); simp only [List.length_cons] at this ⊢; omega
    · have := rn_len o 2 1; simp only [List.length_append, List.length_cons] at this ⊢; omega
  | .add y :: o, k, c => by
    rw [rn]
    have := flush_len k c
    have := rn_len o 3 0; simp only [List.length_append, List.length_cons] at this ⊢; omega
theorem rdr_len : ∀ (p : List (Pc ByteArray)) (b : Nat), Gd b p → (rdr p).length ≤ 104 * p.length
  | [], b, _ => Nat.zero_le _
  | .kp n :: p, b, h => by
    have := rdr_len p 61 h.2.2.2
    have := dec_le h.2.2.1
    rw [rdr, runL_cons]; simp; omega
  | .dp n :: p, b, h => by
    have := rdr_len p 45 h.2.2.2
    have := dec_le h.2.2.1
    rw [rdr, runL_cons]; simp; omega
  | .ad y :: p, b, h => by
    have := rdr_len p 43 h.2
    have := addL_le h.1.2
    rw [rdr]; simp only [List.length_append, List.length_cons]; omega
theorem pcs_len {s t : ByteArray} (hs : Sm s) (ht : Sm t) : (pcs (linesB s) (linesB t)).length ≤ 400 := by
  have h1 := rn_len (path (linesB s) (linesB t)) 0 0
  have h2 := path_len _ (linesB s) (linesB t) (Nat.le_refl _)
  have h3 := hs.count; have h4 := ht.count
  unfold pcs
  omega
theorem tell_size {s t : ByteArray} (hs : Sm s) (ht : Sm t) : (tell s t).size ≤ 50000 := by
  have h1 := rdr_len _ 0 (tell_gd hs ht)
  have h2 := pcs_len hs ht
  rw [size_data, tell_data]
  omega
theorem kept_tell (n : Nat) (hn : 1000 ≤ n) {s t : ByteArray} (hs : Sm s) (ht : Sm t) : m_suturelaw7_kept n (tell s t) = some ((lc (linesB s) (linesB t) : Nat) : Int) := by
  have h2 := pcs_len hs ht
  have h3 := lc_le_l (linesB s) (linesB t)
  have h4 := hs.count
  rw [kept_ok n hn (by have := tell_size hs ht; omega) (tell_data s t) (tell_gd hs ht) (by omega) (by rw [pcs_pk]; omega), pcs_pk]
theorem sumL_lines (s : ByteArray) : sumL (linesB s) = s.size := by
  have h : ∀ xs : List ByteArray, sumL xs = (xs.flatMap (·.data.toList)).length := by
    intro xs
    induction xs with
    | nil => rfl
    | cons x xs ih => rw [show sumL (x :: xs) = x.size + sumL xs by simp [sumL], ih, List.flatMap_cons, List.length_append, ← size_data]
  rw [h, ← flatB_data, flatB_lines, ← size_data]
def mkR : Option (List ByteArray) → ByteArray × Int
  | some l => (flatB l, 0)
  | none => (⟨#[]⟩, 2)
theorem apply_ok (n : Nat) {s t z : ByteArray} (hs : Sm s) (ht : Sm t) (hz : Sm z) : m_diff_Apply n z (tell s t) = some (mkR (app (path (linesB s) (linesB t)) (linesB z))) := by
  show applyM z (tell s t) = _
  have h1 := hz.size; have h2 := tell_size hs ht
  unfold applyM
  rw [decide_eq_true (by omega), decide_eq_true (by rw [sumL_lines]; omega)]
  show some (applyP z (tell s t)) = _
  unfold applyP
  rw [appQ_rdr _ _ 0 (tell s t) _ _ (tell_data s t) (by rw [← tell_data, ← size_data]; exact Nat.le_refl _) (tell_gd hs ht), pcs_ap]
  cases app (path (linesB s) (linesB t)) (linesB z) with
  | none => rfl
  | some l => rfl
theorem apply_self (n : Nat) {s t : ByteArray} (hs : Sm s) (ht : Sm t) : m_diff_Apply n s (tell s t) = some (t, 0) := by
  rw [apply_ok n hs ht hs, path_app]
  show some (flatB (linesB t), (0 : Int)) = _
  rw [flatB_lines]
theorem dLines_ok (n : Nat) {s : ByteArray} (h : s.size < 4294967281) : m_diff_Lines n s = some ((linesB s).map strT) := by
  show linesM s = _
  unfold linesM
  rw [decide_eq_true h]; rfl
theorem known_ok (n : Nat) : m_suturelaw7_known n = some true := rfl

theorem rn_keeps : ∀ (m k c : Nat), rn 1 c (List.replicate m Op.keep : List (Op ByteArray)) = flush 1 (c + m)
  | 0, k, c => by rw [List.replicate_zero, rn]; rfl
  | m + 1, k, c => by rw [List.replicate_succ, rn, if_pos rfl, rn_keeps m k]; congr 1; omega
theorem tell_self (s : ByteArray) : tell s s = if (linesB s).length = 0 then ⟨#[]⟩ else ⟨(runL 61 (linesB s).length).toArray⟩ := by
  unfold tell pcs
  rw [path_self]
  cases h : (linesB s).length with
  | zero => rfl
  | succ m =>
    rw [List.replicate_succ, rn, if_neg (by decide), rn_keeps m 0]
    rw [if_neg (by omega), show 1 + m = m + 1 by omega]
    simp [flush, rdr]

theorem diffBack_law (z1 z2 : List Int) (tail : Bool) (a b : ByteArray) (any : Bool) (hz1 : ∀ x ∈ z1, (Lit.int .i64 x).wf = true) (l1 : z1.length ≤ 17592186044416) (hz2 : ∀ x ∈ z2, (Lit.int .i64 x).wf = true) (l2 : z2.length ≤ 17592186044416) (ha : a.size ≤ 140737488351232) (hb : b.size ≤ 140737488351232) :
    ∃ n, m_suturelaw7_DiffBack n (ints .i64 z1) (ints .i64 z2) tail a b any = some true := by
  refine ⟨100000, ?_⟩
  obtain ⟨x, hx, sx⟩ := lines_sm 100000 (by decide) z1 tail
  obtain ⟨y, hy, sy⟩ := lines_sm 100000 (by decide) z2 (!tail)
  have hdig := fun s (hs : Sm s) => digits_ok hs.count
  have hkept := fun s t (hs : Sm s) (ht : Sm t) => kept_tell 100000 (by decide) hs ht
  unfold m_suturelaw7_DiffBack
  rw [hx, Option.bind_some, hy, Option.bind_some]
  have few := few_ok 100000
  generalize 100000 = n at *
  have core : ∀ (s t : ByteArray), Sm s → Sm t → (∀ (F : ByteArray → ByteArray → ByteArray × Int → ByteArray × Int → List T → Option Bool), F (tell s t) (tell t s) (t, 0) (s, 0) ((linesB s).map strT) = some true → (Option.bind (m_diff_Of n s t) fun r4 => Option.bind (m_diff_Of n t s) fun r5 => Option.bind (m_diff_Apply n s r4) fun r6 => Option.bind (m_diff_Apply n t r5) fun r7 => Option.bind (m_diff_Lines n s) fun r8 => F r4 r5 r6 r7 r8) = some true) := by
    intro s t hs ht F hF
    rw [of_ok n hs ht, Option.bind_some, of_ok n ht hs, Option.bind_some, apply_self n hs ht, Option.bind_some, apply_self n ht hs, Option.bind_some, dLines_ok n (by have := hs.size; omega), Option.bind_some]
    exact hF
  have hlc : ∀ s t : ByteArray, (((lc (linesB s) (linesB t) : Nat) : Int) == ((lc (linesB t) (linesB s) : Nat) : Int)) = true := fun s t => by rw [lc_comm]; simp
  cases any with
  | true =>
    rw [cond_true, show (80 : Int) = ((80 : Nat) : Int) from rfl, few, Option.bind_some, few, Option.bind_some]
    have s1 := sm_few a 80 (by decide)
    have s2 := sm_few b 80 (by decide)
    generalize (if 80 < a.size then a.extract 0 80 else a) = s at *
    generalize (if 80 < b.size then b.extract 0 80 else b) = t at *
    refine core s t s1 s2 _ ?_
    have hs0 := tell_self s
    have hd := hdig s s1
    rw [List.length_map]
    by_cases h0 : (linesB s).length = 0
    · rw [decide_eq_false (by omega), cond_false, known_ok, Option.bind_some, of_ok n s1 s1]
      rw [if_pos h0] at hs0
      simp only [beq_self_eq_true, cond_true, Option.bind_some, hs0, hkept s t s1 s2, hkept t s s2 s1, hlc]
    · rw [decide_eq_true (by omega), cond_true, hd, Option.bind_some]
      have hdl := dec_le s1.count
      rw [if_neg h0] at hs0
      have hcat : ((⟨#[61]⟩ : ByteArray) ++ ⟨(Lib.decDigits (linesB s).length).toArray⟩) ++ (⟨#[10]⟩ : ByteArray) = tell s s := by
        rw [hs0]
        exact ext_data (by simp [ByteArray.data_append, runL_cons])
      rw [must_ok (decide_eq_true (by show ((1 + (Lib.decDigits (linesB s).length).toArray.size : Nat) : Int) ≤ 9223372036854775807; rw [List.size_toArray]; omega)),
        must_ok (decide_eq_true (by rw [ByteArray.size_append]; show ((1 + (Lib.decDigits (linesB s).length).toArray.size + 1 : Nat) : Int) ≤ 9223372036854775807; rw [List.size_toArray]; omega)), hcat, known_ok, Option.bind_some, of_ok n s1 s1]
      simp only [beq_self_eq_true, cond_true, Option.bind_some, hkept s t s1 s2, hkept t s s2 s1, hlc]
  | false =>
    rw [cond_false]
    refine core x y sx sy _ ?_
    have hs0 := tell_self x
    have hd := hdig x sx
    rw [List.length_map]
    by_cases h0 : (linesB x).length = 0
    · rw [decide_eq_false (by omega), cond_false, known_ok, Option.bind_some, of_ok n sx sx]
      rw [if_pos h0] at hs0
      simp only [beq_self_eq_true, cond_true, Option.bind_some, hs0, hkept x y sx sy, hkept y x sy sx, hlc]
    · rw [decide_eq_true (by omega), cond_true, hd, Option.bind_some]
      have hdl := dec_le sx.count
      rw [if_neg h0] at hs0
      have hcat : ((⟨#[61]⟩ : ByteArray) ++ ⟨(Lib.decDigits (linesB x).length).toArray⟩) ++ (⟨#[10]⟩ : ByteArray) = tell x x := by
        rw [hs0]
        exact ext_data (by simp [ByteArray.data_append, runL_cons])
      rw [must_ok (decide_eq_true (by show ((1 + (Lib.decDigits (linesB x).length).toArray.size : Nat) : Int) ≤ 9223372036854775807; rw [List.size_toArray]; omega)),
        must_ok (decide_eq_true (by rw [ByteArray.size_append]; show ((1 + (Lib.decDigits (linesB x).length).toArray.size + 1 : Nat) : Int) ≤ 9223372036854775807; rw [List.size_toArray]; omega)), hcat, known_ok, Option.bind_some, of_ok n sx sx]
      simp only [beq_self_eq_true, cond_true, Option.bind_some, hkept x y sx sy, hkept y x sy sx, hlc]
end Go.Proofs.YtimkclpogbfciaaDoor.W

namespace Go.Proofs.YtimkclpogbfciaaDoor.W
open Go Go.Eng
set_option linter.unusedVariables false
set_option linter.unusedSimpArgs false
set_option maxRecDepth 100000

/-- How long what is made is. -/
def mades : List (Op ByteArray) → Nat
  | [] => 0
  | .keep :: o => 1 + mades o
  | .drop :: o => mades o
  | .add _ :: o => 1 + mades o
theorem app_len : ∀ (o : List (Op ByteArray)) (a l : List ByteArray), app o a = some l → l.length = mades o ∧ ∀ y ∈ l, y ∈ a ∨ y ∈ adds o
  | [], [], l, h => by simp only [app, Option.some.injEq] at h; subst h; simp [mades]
  | [], _ :: _, l, h => by simp [app] at h
  | .keep :: o, [], l, h => by simp [app] at h
  | .keep :: o, x :: a, l, h => by
    simp only [app, Option.map_eq_some_iff] at h
    obtain ⟨l', h1, rfl⟩ := h
    obtain ⟨h2, h3⟩ := app_len o a l' h1
    refine ⟨by simp only [List.length_cons, mades, h2]; omega, ?_⟩
    rintro y hy
    rcases List.mem_cons.1 hy with rfl | hy
    · exact .inl (by simp)
    · rcases h3 y hy with h | h
      · exact .inl (by simp [h])
      · exact .inr h
  | .drop :: o, [], l, h => by simp [app] at h
  | .drop :: o, x :: a, l, h => by
    simp only [app] at h
    obtain ⟨h2, h3⟩ := app_len o a l h
    refine ⟨h2, fun y hy => ?_⟩
    rcases h3 y hy with h | h
    · exact .inl (by simp [h])
    · exact .inr h
  | .add z :: o, a, l, h => by
    simp only [app, Option.map_eq_some_iff] at h
    obtain ⟨l', h1, rfl⟩ := h
    obtain ⟨h2, h3⟩ := app_len o a l' h1
    refine ⟨by simp only [List.length_cons, mades, h2]; omega, ?_⟩
    rintro y hy
    rcases List.mem_cons.1 hy with rfl | hy
    · exact .inr (by simp [adds])
    · rcases h3 y hy with h | h
      · exact .inl h
      · exact .inr (by simp [adds, h])

theorem lns_sm (z : List Int) : Sm (flatB (lnsP z)) := sm_flat (lnsP_wl z) (by have := lnsP_len z; omega)
theorem lns_lines (z : List Int) : linesB (flatB (lnsP z)) = lnsP z := linesB_flatB fun y hy => (lnsP_wl z y hy).1

theorem diffOther_law (z1 z2 z3 : List Int) (hz1 : ∀ x ∈ z1, (Lit.int .i64 x).wf = true) (l1 : z1.length ≤ 17592186044416) (hz2 : ∀ x ∈ z2, (Lit.int .i64 x).wf = true) (l2 : z2.length ≤ 17592186044416) (hz3 : ∀ x ∈ z3, (Lit.int .i64 x).wf = true) (l3 : z3.length ≤ 17592186044416) :
    ∃ n, m_suturelaw7_DiffOther n (ints .i64 z1) (ints .i64 z2) (ints .i64 z3) = some true := by
  refine ⟨100000, ?_⟩
  have hl := lines_ok 100000 (by decide)
  generalize 100000 = n at *
  unfold m_suturelaw7_DiffOther
  rw [hl, Option.bind_some, hl, Option.bind_some, hl, Option.bind_some]
  have s1 := lns_sm z1; have s2 := lns_sm z2; have s3 := lns_sm z3
  rw [of_ok n s1 s2, Option.bind_some, apply_ok n s1 s2 s3, Option.bind_some, dLines_ok n (by have := s3.size; omega), Option.bind_some, dLines_ok n (by have := s1.size; omega), Option.bind_some, List.length_map, List.length_map,
    lns_lines z1, lns_lines z2, lns_lines z3]
  have hw := app_wants (path (lnsP z1) (lnsP z2)) (lnsP z3)
  rw [path_wants] at hw
  cases hap : app (path (lnsP z1) (lnsP z2)) (lnsP z3) with
  | none =>
    rw [hap] at hw
    have hne : ¬ (lnsP z3).length = (lnsP z1).length := fun h => by have := hw.2 h; cases this
    have : ((((lnsP z3).length : Nat) : Int) != ((lnsP z1).length : Nat)) = true := by simp; omega
    rw [this, cond_true, known_ok, Option.bind_some]
    simp [mkR]
  | some l =>
    rw [hap] at hw
    have heq := hw.1 rfl
    have : ((((lnsP z3).length : Nat) : Int) != ((lnsP z1).length : Nat)) = false := by simp; omega
    rw [this, cond_false, known_ok, Option.bind_some]
    obtain ⟨h1, h2⟩ := app_len _ _ _ hap
    obtain ⟨h3, _⟩ := app_len _ _ _ (path_app (lnsP z1) (lnsP z2))
    have hwl : ∀ y ∈ l, Wl y.data.toList ∧ y.size ≤ 10 := fun y hy => by
      rcases h2 y hy with h | h
      · exact lnsP_wl z3 y h
      · exact lnsP_wl z2 y (path_adds _ _ _ (Nat.le_refl _) y h)
    have hsm : (flatB l).size < 4294967281 := by
      have h5 := flat_size fun y hy => (hwl y hy).2
      have h6 := lnsP_len z2
      omega
    show (Option.bind (bif true then m_diff_Lines n (flatB l) else some []) fun r9 => _) = _
    rw [cond_true, dLines_ok n hsm, Option.bind_some, linesB_flatB fun y hy => (hwl y hy).1]
    show (Option.bind (bif true then m_diff_Lines n (flatB (lnsP z2)) else some []) fun r9 => _) = _
    rw [cond_true, dLines_ok n (by have := s2.size; omega), Option.bind_some, lns_lines z2, List.length_map, List.length_map]
    show some (bif true then _ else false) = _
    rw [cond_true, h1, ← h3]
    simp

/-! DiffMost -/
theorem idx_strs {ys : List ByteArray} {i : Nat} (h : i < ys.length) : idx true [.str] (ys.map strT) (i : Int) = some (strT ys[i]) := by
  unfold idx
  rw [cond_true, decide_eq_true (Int.natCast_nonneg _), cond_true, Int.toNat_natCast, List.getElem?_map, List.getElem?_eq_getElem h]
  rfl
theorem idx_no {sh : List CK} {es : List T} {k : Int} : idx false sh es k = some default := rfl

theorem most11 (n : Nat) (p : List T) (xs ys : List ByteArray) (c0 j cnt : Int) (i : Nat) (hi : i < xs.length) (hy : ys.length < 1000) : ∀ (m k f : Nat), ys.length - k = m → k ≤ ys.length → m < f →
    ∃ k', k ≤ k' ∧ k' ≤ ys.length ∧ (∀ h : k' < ys.length, ys[k'] = xs[i]) ∧ l_suturelaw7_DiffMost_11 n f (p, xs.map strT, ys.map strT, c0, j, cnt, (i : Int), (k : Int)) = some (p, xs.map strT, ys.map strT, c0, j, cnt, (i : Int), (k' : Int)) := by
  intro m
  induction m with
  | zero =>
    intro k f h1 h2 hf
    obtain ⟨f, rfl⟩ : ∃ j, f = j + 1 := ⟨f - 1, by omega⟩
    refine ⟨k, Nat.le_refl _, h2, fun h => by omega, ?_⟩
    show l_suturelaw7_DiffMost_11_B n (l_suturelaw7_DiffMost_11 n f) _ = _
    unfold l_suturelaw7_DiffMost_11_B
    have hd : decide ((k : Int) < ((List.length (ys.map strT) : Nat) : Int)) = false := decide_eq_false (by rw [List.length_map]; omega)
    simp only [hd, idx_no, Option.bind_some, cond_false]
  | succ m ih =>
    intro k f h1 h2 hf
    obtain ⟨f, rfl⟩ : ∃ j, f = j + 1 := ⟨f - 1, by omega⟩
    have hk : k < ys.length := by omega
    have hd : decide ((k : Int) < ((List.length (ys.map strT) : Nat) : Int)) = true := decide_eq_true (by rw [List.length_map]; omega)
    by_cases he : ys[k] = xs[i]
    · refine ⟨k, Nat.le_refl _, h2, fun _ => he, ?_⟩
      show l_suturelaw7_DiffMost_11_B n (l_suturelaw7_DiffMost_11 n f) _ = _
      unfold l_suturelaw7_DiffMost_11_B
      simp only [hd, idx_strs hk, idx_strs hi, Option.bind_some, cond_true]
      have : (!(ByteArray.toList ((strT ys[k]).cell 0).str == ByteArray.toList ((strT xs[i]).cell 0).str)) = false := by
        show (!(ys[k].toList == xs[i].toList)) = false
        rw [he]; simp
      rw [this, cond_false]
    · obtain ⟨k', k1, k2, k3, k4⟩ := ih (k + 1) f (by omega) (by omega) (by omega)
      refine ⟨k', by omega, k2, k3, ?_⟩
      show l_suturelaw7_DiffMost_11_B n (l_suturelaw7_DiffMost_11 n f) _ = _
      unfold l_suturelaw7_DiffMost_11_B
      simp only [hd, idx_strs hk, idx_strs hi, Option.bind_some, cond_true]
      have : (!(ByteArray.toList ((strT ys[k]).cell 0).str == ByteArray.toList ((strT xs[i]).cell 0).str)) = true := by
        show (!(ys[k].toList == xs[i].toList)) = true
        cases hh : (ys[k].toList == xs[i].toList) with
        | false => rfl
        | true => exact absurd ((ofB_eq _ _).1 hh) he
      rw [this, cond_true, w64 (by omega) (by omega)]
      exact k4

theorem lc_skip2 {x : ByteArray} {ys : List ByteArray} (a : List ByteArray) {j k : Nat} (h : j ≤ k) : lc a (ys.drop k) ≤ lc a (ys.drop j) := by
  have : ys.drop j = (ys.drop j).take (k - j) ++ ys.drop k := by
    have h2 := List.take_append_drop (k - j) (ys.drop j)
    rw [List.drop_drop, show j + (k - j) = k by omega] at h2
    exact h2.symm
  rw [this]
  exact lc_skip a _ _

theorem most7 (n : Nat) (hn : 1001 ≤ n) (z : List Int) (xs ys : List ByteArray) (c0 : Int) (M : Nat) (hx : xs.length < 1000) (hy : ys.length < 1000) : ∀ (m i j cnt f : Nat), xs.length - i = m → i ≤ xs.length → j ≤ ys.length → m < f → cnt ≤ i → cnt + lc (xs.drop i) (ys.drop j) ≤ M →
    ∃ cnt' : Nat, cnt' ≤ M ∧ l_suturelaw7_DiffMost_7 n f (ints .i64 z, xs.map strT, ys.map strT, c0, (j : Int), (cnt : Int), (i : Int)) = some (xs.map strT, ys.map strT, c0, (cnt' : Int)) := by
  intro m
  induction m with
  | zero =>
    intro i j cnt f h1 h2 h3 hf hc hM
    obtain ⟨f, rfl⟩ : ∃ j, f = j + 1 := ⟨f - 1, by omega⟩
    refine ⟨cnt, by omega, ?_⟩
    show l_suturelaw7_DiffMost_7_B n (l_suturelaw7_DiffMost_7 n f) _ = _
    unfold l_suturelaw7_DiffMost_7_B
    have hd : decide ((i : Int) < ((List.length (xs.map strT) : Nat) : Int)) = false := decide_eq_false (by rw [List.length_map]; omega)
    simp only [hd, cond_false]
  | succ m ih =>
    intro i j cnt f h1 h2 h3 hf hc hM
    obtain ⟨f, rfl⟩ : ∃ j, f = j + 1 := ⟨f - 1, by omega⟩
    have hi : i < xs.length := by omega
    have hd : decide ((i : Int) < ((List.length (xs.map strT) : Nat) : Int)) = true := decide_eq_true (by rw [List.length_map]; omega)
    have hdx : xs.drop i = xs[i] :: xs.drop (i + 1) := List.drop_eq_getElem_cons hi
    have hle := (lc_l xs[i] (xs.drop (i + 1)) (ys.drop j)).1
    have ei : IntKind.wrap .i64 ((i : Int) + 1) = ((i + 1 : Nat) : Int) := by rw [w64 (by omega) (by omega)]; omega
    have go : ∀ B : Bool, ∃ cnt' : Nat, cnt' ≤ M ∧ (bif B then l_suturelaw7_DiffMost_7 n f (ints .i64 z, xs.map strT, ys.map strT, c0, (j : Int), (cnt : Int), IntKind.wrap .i64 ((i : Int) + 1)) else
        Option.bind (l_suturelaw7_DiffMost_11 n n (ints .i64 z, xs.map strT, ys.map strT, c0, (j : Int), (cnt : Int), (i : Int), (j : Int))) fun p12 =>
          bif (decide ((p12.2.2.2.2.2.2.2 : Int) < ((List.length p12.2.2.1 : Nat) : Int))) then
            l_suturelaw7_DiffMost_7 n f (p12.1, p12.2.1, p12.2.2.1, p12.2.2.2.1, (IntKind.wrap .i64 (p12.2.2.2.2.2.2.2 + 1)), (IntKind.wrap .i64 (p12.2.2.2.2.2.1 + 1)), (IntKind.wrap .i64 (p12.2.2.2.2.2.2.1 + 1)))
          else l_suturelaw7_DiffMost_7 n f (p12.1, p12.2.1, p12.2.2.1, p12.2.2.2.1, p12.2.2.2.2.1, p12.2.2.2.2.2.1, (IntKind.wrap .i64 (p12.2.2.2.2.2.2.1 + 1)))) = some (xs.map strT, ys.map strT, c0, (cnt' : Int)) := by
      intro B
      have same := ih (i + 1) j cnt f (by omega) (by omega) h3 (by omega) (by omega) (by rw [hdx] at hM; omega)
      cases B with
      | true => rw [cond_true, ei]; exact same
      | false =>
        rw [cond_false]
        obtain ⟨k', k1, k2, k3, k4⟩ := most11 n (ints .i64 z) xs ys c0 (j : Int) (cnt : Int) i hi hy _ j n rfl h3 (by omega)
        rw [k4, Option.bind_some]
        by_cases hk : k' < ys.length
        · have hdk : decide ((k' : Int) < ((List.length (ys.map strT) : Nat) : Int)) = true := decide_eq_true (by rw [List.length_map]; omega)
          simp only [hdk, cond_true]
          rw [ei, w64 (x := (k' : Int) + 1) (by omega) (by omega), w64 (by omega) (by omega)]
          have hdy : ys.drop k' = xs[i] :: ys.drop (k' + 1) := by rw [← k3 hk]; exact List.drop_eq_getElem_cons hk
          have h5 := lc_skip2 (x := xs[i]) (ys := ys) (xs.drop i) k1
          rw [hdy, hdx, lc_eq] at h5
          have := ih (i + 1) (k' + 1) (cnt + 1) f (by omega) (by omega) (by omega) (by omega) (by omega) (by rw [hdx] at hM; omega)
          rw [show ((k' : Int) + 1) = ((k' + 1 : Nat) : Int) by omega, show ((cnt : Int) + 1) = ((cnt + 1 : Nat) : Int) by omega]
          exact this
        · have hdk : decide ((k' : Int) < ((List.length (ys.map strT) : Nat) : Int)) = false := decide_eq_false (by rw [List.length_map]; omega)
          simp only [hdk, cond_false]
          rw [ei]; exact same
    have hb : l_suturelaw7_DiffMost_7 n (f + 1) (ints .i64 z, xs.map strT, ys.map strT, c0, (j : Int), (cnt : Int), (i : Int)) = l_suturelaw7_DiffMost_7_B n (l_suturelaw7_DiffMost_7 n f) (ints .i64 z, xs.map strT, ys.map strT, c0, (j : Int), (cnt : Int), (i : Int)) := rfl
    rw [hb]
    unfold l_suturelaw7_DiffMost_7_B
    simp only [hd, cond_true]
    have hl : (ints .i64 z).length = z.length := by simp [ints]
    by_cases hz : i < z.length
    · have hdz : decide ((i : Int) < ((List.length (ints .i64 z) : Nat) : Int)) = true := decide_eq_true (by rw [hl]; omega)
      simp only [hdz, idx_ints hz, Option.bind_some]
      rw [must_ok (by decide), cond_true]
      exact go _
    · have hdz : decide ((i : Int) < ((List.length (ints .i64 z) : Nat) : Int)) = false := decide_eq_false (by rw [hl]; omega)
      simp only [hdz, idx_no, Option.bind_some]
      rw [must_ok (by decide), cond_false]
      exact go false

theorem diffMost_law (z1 z2 z3 : List Int) (hz1 : ∀ x ∈ z1, (Lit.int .i64 x).wf = true) (l1 : z1.length ≤ 17592186044416) (hz2 : ∀ x ∈ z2, (Lit.int .i64 x).wf = true) (l2 : z2.length ≤ 17592186044416) (hz3 : ∀ x ∈ z3, (Lit.int .i64 x).wf = true) (l3 : z3.length ≤ 17592186044416) :
    ∃ n, m_suturelaw7_DiffMost n (ints .i64 z1) (ints .i64 z2) (ints .i64 z3) = some true := by
  refine ⟨100000, ?_⟩
  have hl := lines_ok 100000 (by decide)
  have s1 := lns_sm z1; have s2 := lns_sm z2
  have hkept := kept_tell 100000 (by decide) s1 s2
  have c1 := lnsP_len z1; have c2 := lnsP_len z2
  have h7 := most7 100000 (by decide) z3 (lnsP z1) (lnsP z2) ((lc (lnsP z1) (lnsP z2) : Nat) : Int) (lc (lnsP z1) (lnsP z2)) (by omega) (by omega) _ 0 0 0 100000 rfl (Nat.zero_le _) (Nat.zero_le _) (by omega) (Nat.le_refl _) (by simp)
  unfold m_suturelaw7_DiffMost
  generalize 100000 = n at *
  rw [hl, Option.bind_some, dLines_ok n (by have := s1.size; omega), Option.bind_some, hl, Option.bind_some, dLines_ok n (by have := s2.size; omega), Option.bind_some, Option.bind_some, Option.bind_some, of_ok n s1 s2, Option.bind_some, hkept, Option.bind_some, lns_lines z1, lns_lines z2]
  obtain ⟨cnt', h8, h9⟩ := h7
  rw [show (((0 : Nat) : Int)) = 0 from rfl] at h9
  rw [h9, Option.bind_some, known_ok, Option.bind_some]
  have g1 := lc_le_l (lnsP z1) (lnsP z2)
  have g2 := lc_le_r (lnsP z1) (lnsP z2)
  rw [decide_eq_true (show ((lc (lnsP z1) (lnsP z2) : Nat) : Int) ≥ (cnt' : Int) by omega), List.length_map, List.length_map, decide_eq_true (by dsimp only; split <;> omega)]
  rfl
end Go.Proofs.YtimkclpogbfciaaDoor.W

namespace Go.Proofs.YtimkclpogbfciaaDoor.W
open Go Go.Eng
set_option linter.unusedVariables false
set_option linter.unusedSimpArgs false
set_option maxRecDepth 100000

def strL (l : List UInt8) : T := T.sc (.string ⟨l.toArray⟩)
theorem strL_map (s : ByteArray) : (linesL s.data.toList).map strL = (linesB s).map strT := by
  rw [← linesB_eq, List.map_map]
  refine List.map_congr_left fun y _ => ?_
  show T.sc (.string ⟨y.data.toList.toArray⟩) = T.sc (.string y)
  rw [← mk_data y _ rfl]
theorem extract_mid {s : ByteArray} {p c r : List UInt8} (h : s.data.toList = p ++ (c ++ r)) (i j : Nat) (hi : i = p.length) (hj : j = p.length + c.length) : s.extract i j = ⟨c.toArray⟩ := by
  subst hi; subst hj
  refine mk_data _ _ ?_
  rw [extract_data, h, List.drop_left' rfl, show p.length + c.length - p.length = c.length by omega, List.take_left' rfl]

theorem rlines4 (n : Nat) (s : ByteArray) (hsz : s.size ≤ 2000000) : ∀ (r p c : List UInt8) (out : List T) (k : Nat), s.data.toList = p ++ (c ++ r) → 10 ∉ c → r.length < k → out.length + r.length ≤ 2000000 →
    ∃ (o : List T) (f : List UInt8) (g : List UInt8), s.data.toList = f ++ g ∧ l_sutureref1_Lines_4 n k (s, out, (p.length : Int), ((p.length + c.length : Nat) : Int)) = some (s, o, (f.length : Int)) ∧ (if g = [] then o else o ++ [strL g]) = out ++ (linesL (c ++ r)).map strL ∧ o.length ≤ 2000000 := by
  intro r
  induction r with
  | nil =>
    intro p c out k hs hc hk ho
    obtain ⟨k, rfl⟩ : ∃ j, k = j + 1 := ⟨k - 1, by simp at hk; omega⟩
    refine ⟨out, p, c, by rw [hs, List.append_nil], ?_, ?_, by simpa using ho⟩
    · show l_sutureref1_Lines_4_B n (l_sutureref1_Lines_4 n k) _ = _
      unfold l_sutureref1_Lines_4_B
      have : s.size = p.length + c.length := by rw [size_data, hs]; simp
      have hd : decide (((p.length + c.length : Nat) : Int) < ((ByteArray.size s : Nat) : Int)) = false := decide_eq_false (by omega)
      simp only [hd, cond_false]
    · rw [List.append_nil]
      by_cases h : c = []
      · subst h; simp [linesL]
      · rw [if_neg h, linesL_none c hc h]; rfl
  | cons d r ih =>
    intro p c out k hs hc hk ho
    obtain ⟨k, rfl⟩ : ∃ j, k = j + 1 := ⟨k - 1, by omega⟩
    have hs2 : s.data.toList = (p ++ c) ++ d :: r := by rw [hs]; simp
    have hz := size_cons hs2
    rw [List.length_append] at hz
    have hd : decide (((p.length + c.length : Nat) : Int) < ((ByteArray.size s : Nat) : Int)) = true := decide_eq_true (by omega)
    have hb : bidx true s ((p.length + c.length : Nat) : Int) = some d := by have := bidx_at hs2; rwa [List.length_append] at this
    have hkk : r.length < k := by simp at hk; omega
    have hoo : out.length + r.length + 1 ≤ 2000000 := by simp at ho; omega
    by_cases h10 : d = 10
    · subst h10
      have ew : IntKind.wrap .i64 (((p.length + c.length : Nat) : Int) + 1) = ((p.length + c.length + 1 : Nat) : Int) := by rw [w64 (by omega) (by omega)]; omega
      obtain ⟨o, f, g, h1, h2, h3, h4⟩ := ih (p ++ (c ++ [10])) [] (out ++ [strL (c ++ [10])]) k (by rw [hs]; simp) (by simp) hkk (by rw [List.length_append]; simp; omega)
      refine ⟨o, f, g, h1, ?_, ?_, h4⟩
      · show l_sutureref1_Lines_4_B n (l_sutureref1_Lines_4 n k) _ = _
        unfold l_sutureref1_Lines_4_B
        simp only [hd, cond_true, hb, Option.bind_some]
        rw [show ((((UInt8.toNat 10 : Nat) : Int) : Int) == 10) = true from rfl, cond_true, ew, Int.toNat_natCast, Int.toNat_natCast]
        have hx : s.extract p.length (p.length + c.length + 1) = ⟨(c ++ [10]).toArray⟩ := extract_mid (p := p) (c := c ++ [10]) (r := r) (by rw [hs]; simp) _ _ rfl (by simp; omega)
        rw [hx, must_ok (by simp only [Bool.and_eq_true, decide_eq_true_eq]; omega), must_ok (by simp only [Bool.and_eq_true, decide_eq_true_eq]; exact ⟨rfl, by simp; omega, rfl⟩)]
        rw [← h2]
        simp only [List.length_append, List.length_cons, List.length_nil]
        rfl
      · rw [h3, linesL_hit c r hc]
        simp
    · have ew : IntKind.wrap .i64 (((p.length + c.length : Nat) : Int) + 1) = ((p.length + (c ++ [d]).length : Nat) : Int) := by rw [w64 (by omega) (by omega)]; simp; omega
      obtain ⟨o, f, g, h1, h2, h3, h4⟩ := ih p (c ++ [d]) out k (by rw [hs]; simp) (by simp; exact ⟨hc, fun e => h10 e.symm⟩) hkk (by omega)
      refine ⟨o, f, g, h1, ?_, by rw [h3]; simp, h4⟩
      show l_sutureref1_Lines_4_B n (l_sutureref1_Lines_4 n k) _ = _
      unfold l_sutureref1_Lines_4_B
      simp only [hd, cond_true, hb, Option.bind_some]
      have hne : ((((UInt8.toNat d : Nat) : Int) : Int) == 10) = false := by
        have : d.toNat ≠ 10 := fun e => h10 (UInt8.toNat_inj.1 e)
        simp; omega
      rw [hne, cond_false, ew]
      exact h2

theorem rLines_ok (n : Nat) {s : ByteArray} (hsz : s.size ≤ 2000000) (hn : s.size < n) : m_sutureref1_Lines n s = some ((linesB s).map strT) := by
  unfold m_sutureref1_Lines
  obtain ⟨o, f, g, h1, h2, h3, h4⟩ := rlines4 n s hsz s.data.toList [] [] [] n rfl (by simp) (by rw [← size_data]; exact hn) (by rw [← size_data]; simpa using hsz)
  rw [show ((([] : List UInt8).length : Nat) : Int) = 0 from rfl, show ((([] : List UInt8).length + ([] : List UInt8).length : Nat) : Int) = 0 from rfl] at h2
  rw [h2, Option.bind_some]
  rw [List.nil_append, List.nil_append, strL_map] at h3
  rw [← h3]
  have hfl : s.size = f.length + g.length := by rw [size_data, h1]; simp
  by_cases hg : g = []
  · rw [if_pos hg]
    have hd : decide ((f.length : Int) < ((ByteArray.size s : Nat) : Int)) = false := decide_eq_false (by rw [hfl, hg]; simp)
    simp only [hd, cond_false]
  · have hgl : 0 < g.length := List.length_pos_iff.2 hg
    rw [if_neg hg]
    have hd : decide ((f.length : Int) < ((ByteArray.size s : Nat) : Int)) = true := decide_eq_true (by omega)
    simp only [hd, cond_true]
    rw [Int.toNat_natCast, Int.toNat_natCast]
    have hx : s.extract f.length s.size = ⟨g.toArray⟩ := extract_mid (p := f) (c := g) (r := []) (by rw [h1]; simp) _ _ rfl (by omega)
    rw [hx, must_ok (by simp only [Bool.and_eq_true, decide_eq_true_eq]; omega), must_ok (by simp only [Bool.and_eq_true, decide_eq_true_eq]; exact ⟨rfl, by simp; omega, rfl⟩)]
    rfl

theorem flatB_app (a b : List ByteArray) : flatB a ++ flatB b = flatB (a ++ b) := ext_data (by simp [ByteArray.data_append, flatB_data])

theorem diffSides_law (z1 z2 z3 z4 : List Int) (hz1 : ∀ x ∈ z1, (Lit.int .i64 x).wf = true) (l1 : z1.length ≤ 17592186044416) (hz2 : ∀ x ∈ z2, (Lit.int .i64 x).wf = true) (l2 : z2.length ≤ 17592186044416) (hz3 : ∀ x ∈ z3, (Lit.int .i64 x).wf = true) (l3 : z3.length ≤ 17592186044416) (hz4 : ∀ x ∈ z4, (Lit.int .i64 x).wf = true) (l4 : z4.length ≤ 17592186044416) :
    ∃ n, m_suturelaw7_DiffSides n (ints .i64 z1) (ints .i64 z2) (ints .i64 z3) (ints .i64 z4) = some true := by
  refine ⟨100000, ?_⟩
  have hl := lines_ok 100000 (by decide)
  have s1 := lns_sm z1; have s2 := lns_sm z2; have s3 := lns_sm z3; have s4 := lns_sm z4
  have c1 := lnsP_len z1; have c2 := lnsP_len z2; have c3 := lnsP_len z3; have c4 := lnsP_len z4
  have hw : ∀ (a b c : List Int), ∀ y ∈ lnsP a ++ lnsP b ++ lnsP c, Wl y.data.toList ∧ y.size ≤ 10 := fun a b c y hy => by
    rcases List.mem_append.1 hy with h | h
    · rcases List.mem_append.1 h with h | h
      · exact lnsP_wl _ y h
      · exact lnsP_wl _ y h
    · exact lnsP_wl _ y h
  have t1 : Sm (flatB (lnsP z3 ++ lnsP z1 ++ lnsP z4)) := sm_flat (hw z3 z1 z4) (by simp; omega)
  have t2 : Sm (flatB (lnsP z3 ++ lnsP z2 ++ lnsP z4)) := sm_flat (hw z3 z2 z4) (by simp; omega)
  have q1 : linesB (flatB (lnsP z3 ++ lnsP z1 ++ lnsP z4)) = lnsP z3 ++ lnsP z1 ++ lnsP z4 := linesB_flatB fun y hy => (hw z3 z1 z4 y hy).1
  have q2 : linesB (flatB (lnsP z3 ++ lnsP z2 ++ lnsP z4)) = lnsP z3 ++ lnsP z2 ++ lnsP z4 := linesB_flatB fun y hy => (hw z3 z2 z4 y hy).1
  have hk1 := kept_tell 100000 (by decide) t1 t2
  have hk2 := kept_tell 100000 (by decide) s1 s2
  have r3 := rLines_ok 100000 (s := flatB (lnsP z3)) (by have := s3.size; omega) (by have := s3.size; omega)
  have r4 := rLines_ok 100000 (s := flatB (lnsP z4)) (by have := s4.size; omega) (by have := s4.size; omega)
  have z1s := s1.size; have z2s := s2.size; have z3s := s3.size; have z4s := s4.size
  unfold m_suturelaw7_DiffSides
  generalize 100000 = n at *
  rw [hl, Option.bind_some, hl, Option.bind_some, hl, Option.bind_some, hl, Option.bind_some]
  have big : ∀ a : Nat, a ≤ 10000 → decide (((a : Nat) : Int) ≤ IntKind.i64.max) = true := fun a h => decide_eq_true (by show (a : Int) ≤ 9223372036854775807; omega)
  have f1 : (flatB (lnsP z3) ++ flatB (lnsP z1)).size ≤ 2000 := by rw [ByteArray.size_append]; omega
  have f2 : (flatB (lnsP z3) ++ flatB (lnsP z2)).size ≤ 2000 := by rw [ByteArray.size_append]; omega
  rw [must_ok (big _ (by omega)), must_ok (big _ (by omega)), must_ok (big _ (by omega)), must_ok (big _ (by omega)), flatB_app, flatB_app, flatB_app, flatB_app, of_ok n t1 t2, Option.bind_some]
  rw [flatB_app] at f1 f2
  rw [must_ok (big _ (by omega)), must_ok (big _ (by omega)), apply_self n t1 t2, Option.bind_some, r3, Option.bind_some, r4, Option.bind_some, known_ok, Option.bind_some, must_ok (big _ (by omega)), must_ok (big _ (by omega))]
  simp only [beq_self_eq_true, cond_true]
  rw [hk1, Option.bind_some, of_ok n s1 s2, Option.bind_some, hk2, Option.bind_some, q1, q2, lns_lines z1, lns_lines z2, List.length_map, List.length_map, lns_lines z3, lns_lines z4]
  have g1 := lc_le_l (lnsP z1) (lnsP z2)
  rw [lc_back, lc_front, w64 (x := (((lnsP z3).length : Nat) : Int) + (((lnsP z4).length : Nat) : Int)) (by omega) (by omega), w64 (by omega) (by omega)]
  refine congrArg some ?_
  rw [beq_iff_eq]
  omega
end Go.Proofs.YtimkclpogbfciaaDoor.W

namespace Go.Proofs.YtimkclpogbfciaaDoor.W
open Go Go.Eng
set_option linter.unusedVariables false
set_option linter.unusedSimpArgs false
set_option maxRecDepth 100000

def chkE (n m k : Nat) : Bool := match (unB_sutureref1_Digits n (m + 2)).sutureref1_Digits (k : Int) with
  | some r => r.data.toList == Lib.decDigits k
  | none => false
theorem chkE_all (n m : Nat) : (List.range 100).all (chkE n m) = true := by kernel_rfl
theorem digits_any {n k : Nat} (hn : 2 ≤ n) (h : k < 100) : m_sutureref1_Digits n (k : Int) = some ⟨(Lib.decDigits k).toArray⟩ := by
  obtain ⟨m, rfl⟩ : ∃ m, n = m + 2 := ⟨n - 2, by omega⟩
  have := List.all_eq_true.1 (chkE_all (m + 2) m) k (by simpa using h)
  unfold chkE at this
  unfold m_sutureref1_Digits
  split at this
  · rename_i r hr
    rw [hr]
    exact congrArg some (mk_data _ _ (by simpa using this))
  · cases this

def runB (c k : Nat) : ByteArray := ⟨(if k = 0 then [] else runL c k).toArray⟩
theorem runB_data (c k : Nat) : (runB c k).data.toList = if k = 0 then [] else runL c k := by simp [runB]
theorem max_ok {a : Nat} (h : a ≤ 1000000000000000000) : decide (((a : Nat) : Int) ≤ IntKind.i64.max) = true := decide_eq_true (by show (a : Int) ≤ 9223372036854775807; omega)
theorem run_ok {n k : Nat} (hn : 2 ≤ n) (h : k < 100) (c : UInt8) : m_sutureref1_run n ⟨#[c]⟩ (k : Int) = some (runB c.toNat k) := by
  unfold m_sutureref1_run
  by_cases h0 : k = 0
  · subst h0; rfl
  · have hne : ((k : Int) == 0) = false := by simp; omega
    rw [hne, cond_false, digits_any hn h, Option.bind_some]
    have hl := dec_le h
    have e1 : (⟨(Lib.decDigits k).toArray⟩ : ByteArray).size ≤ 2 := by rw [size_data]; simpa using hl
    have e2 : (⟨#[c]⟩ : ByteArray).size = 1 := rfl
    have e3 : (⟨#[10]⟩ : ByteArray).size = 1 := rfl
    rw [must_ok (max_ok (by omega)), must_ok (max_ok (by rw [ByteArray.size_append]; omega))]
    refine congrArg some (ext_data ?_)
    rw [runB_data, if_neg h0, runL_cons]
    simp [ByteArray.data_append]
theorem added_ok {n : Nat} (hn : 2 ≤ n) {y : ByteArray} (h : y.size < 100) : m_sutureref1_added n y = some ⟨(addL y).toArray⟩ := by
  unfold m_sutureref1_added
  rw [digits_any hn h, Option.bind_some]
  have hl := dec_le h
  have e1 : (⟨(Lib.decDigits y.size).toArray⟩ : ByteArray).size ≤ 2 := by rw [size_data]; simpa using hl
  have e2 : (⟨#[43]⟩ : ByteArray).size = 1 := rfl
  have e3 : (⟨#[58]⟩ : ByteArray).size = 1 := rfl
  have e4 : (⟨#[10]⟩ : ByteArray).size = 1 := rfl
  rw [must_ok (max_ok (by omega)), must_ok (max_ok (by simp only [ByteArray.size_append]; omega)), must_ok (max_ok (by simp only [ByteArray.size_append]; omega)), must_ok (max_ok (by simp only [ByteArray.size_append]; omega))]
  refine congrArg some (ext_data ?_)
  simp [ByteArray.data_append, addL]

theorem strsOf_strT : ∀ xs : List ByteArray, strsOf (xs.map strT) = some xs
  | [] => rfl
  | x :: xs => by
    show (strsOf (xs.map strT)).map (x :: ·) = _
    rw [strsOf_strT xs]; rfl
theorem common_ok (n : Nat) {xs ys : List ByteArray} (hx : xs.length ≤ 1000000) (hy : ys.length ≤ 1000000) : m_sutureref1_common n (xs.map strT) (ys.map strT) = some ((comTab xs ys).map rowT) := by
  show commonM _ _ = _
  unfold commonM
  rw [strsOf_strT, strsOf_strT]
  simp only
  rw [decide_eq_true hx, decide_eq_true hy]
  rfl
theorem idx_tab {xs ys : List ByteArray} {i : Nat} (hi : i ≤ xs.length) : idx true [.list] ((comTab xs ys).map rowT) (i : Int) = some (rowT ((List.range (ys.length + 1)).map fun j => tabL (nth xs) (nth ys) xs.length ys.length i j)) := by
  unfold idx
  rw [cond_true, decide_eq_true (Int.natCast_nonneg _), cond_true, Int.toNat_natCast, List.getElem?_map, comTab, List.getElem?_map, List.getElem?_range (by omega)]
  rfl
theorem idx_row {xs ys : List ByteArray} {i j : Nat} (hj : j ≤ ys.length) : idx true [.int .i64] ((rowT ((List.range (ys.length + 1)).map fun j => tabL (nth xs) (nth ys) xs.length ys.length i j)).cell 0).lst (j : Int) = some (T.sc (.int .i64 (tabL (nth xs) (nth ys) xs.length ys.length i j))) := by
  show idx true [.int .i64] (((List.range (ys.length + 1)).map fun j => tabL (nth xs) (nth ys) xs.length ys.length i j).map fun z => T.sc (.int .i64 z)) (j : Int) = _
  unfold idx
  rw [cond_true, decide_eq_true (Int.natCast_nonneg _), cond_true, Int.toNat_natCast, List.getElem?_map, List.getElem?_map, List.getElem?_range (by omega)]
  rfl
theorem tab_lc (xs ys : List ByteArray) (i j : Nat) : tabL (nth xs) (nth ys) xs.length ys.length i j = (lc (xs.drop i) (ys.drop j) : Nat) := tabL_lc xs ys _ i j (Nat.le_refl _)

/-- What was counted of a kind. -/
def kpt (k c : Nat) : Nat := if k = 1 then c else 0
def dpt (k c : Nat) : Nat := if k = 2 then c else 0
theorem flush_kd {k c : Nat} (hk : k = 1 ∨ k = 2 ∨ c = 0) : rdr (flush k c) = (runB 61 (kpt k c)).data.toList ++ (runB 45 (dpt k c)).data.toList := by
  rw [runB_data, runB_data]
  by_cases hc : c = 0
  · subst hc; simp [flush, rdr, kpt, dpt]
  · rcases hk with rfl | rfl | h
    · simp [flush, rdr, kpt, dpt, hc]
    · simp [flush, rdr, kpt, dpt, hc]
    · exact absurd h hc
theorem runB_size {c k : Nat} (h : k < 100) : (runB c k).size ≤ 4 := by
  rw [size_data, runB_data]
  split
  · simp
  · have := dec_le h; rw [runL_cons]; simp; omega

theorem diff9 (n : Nat) (hn : 2 ≤ n) (xs ys : List ByteArray) (hx : xs.length < 100) (hyl : ys.length < 100) (hy : ∀ y ∈ ys, y.size < 100) : ∀ (m i j k c f : Nat) (out : ByteArray), (xs.length - i) + (ys.length - j) ≤ m → i ≤ xs.length → j ≤ ys.length → m < f → (k = 1 ∨ k = 2 ∨ c = 0) → c ≤ i → out.size + 200 * m ≤ 100000 →
    ∃ (o : ByteArray) (a b : Nat), l_sutureref1_Diff_9 n f (xs.map strT, ys.map strT, (comTab xs ys).map rowT, out, ((kpt k c : Nat) : Int), ((dpt k c : Nat) : Int), (i : Int), (j : Int)) = some (o, (a : Int), (b : Int)) ∧ a < 100 ∧ b < 100 ∧ o.size ≤ 100000 ∧
      o.data.toList ++ (runB 61 a).data.toList ++ (runB 45 b).data.toList = out.data.toList ++ rdr (rn k c (path (xs.drop i) (ys.drop j))) := by
  have stop : ∀ (i j k c f : Nat) (out : ByteArray), i = xs.length → j = ys.length → 0 < f → (k = 1 ∨ k = 2 ∨ c = 0) → c ≤ i → out.size ≤ 100000 →
    ∃ (o : ByteArray) (a b : Nat), l_sutureref1_Diff_9 n f (xs.map strT, ys.map strT, (comTab xs ys).map rowT, out, ((kpt k c : Nat) : Int), ((dpt k c : Nat) : Int), (i : Int), (j : Int)) = some (o, (a : Int), (b : Int)) ∧ a < 100 ∧ b < 100 ∧ o.size ≤ 100000 ∧
      o.data.toList ++ (runB 61 a).data.toList ++ (runB 45 b).data.toList = out.data.toList ++ rdr (rn k c (path (xs.drop i) (ys.drop j))) := by
    intro i j k c f out h2 h3 hf hk hc ho
    obtain ⟨f, rfl⟩ : ∃ j, f = j + 1 := ⟨f - 1, by omega⟩
    have hka : kpt k c < 100 := by unfold kpt; split <;> omega
    have hda : dpt k c < 100 := by unfold dpt; split <;> omega
    refine ⟨out, kpt k c, dpt k c, ?_, hka, hda, by omega, ?_⟩
    · show l_sutureref1_Diff_9_B n (l_sutureref1_Diff_9 n f) _ = _
      unfold l_sutureref1_Diff_9_B
      have hd1 : decide ((i : Int) < ((List.length (xs.map strT) : Nat) : Int)) = false := decide_eq_false (by rw [List.length_map]; omega)
      have hd2 : decide ((j : Int) < ((List.length (ys.map strT) : Nat) : Int)) = false := decide_eq_false (by rw [List.length_map]; omega)
      simp only [hd1, hd2, cond_false]
    · rw [dropN (xs := xs) (by omega), dropN (xs := ys) (by omega), path_nn, rn, flush_kd hk, List.append_assoc]
  intro m
  induction m with
  | zero =>
    intro i j k c f out h1 h2 h3 hf hk hc ho
    exact stop i j k c f out (by omega) (by omega) hf hk hc (by omega)
  | succ m ih =>
    intro i j k c f out h1 h2 h3 hf hk hc ho
    by_cases hend : i = xs.length ∧ j = ys.length
    · exact stop i j k c f out hend.1 hend.2 (by omega) hk hc (by omega)
    obtain ⟨f, rfl⟩ : ∃ j, f = j + 1 := ⟨f - 1, by omega⟩
    have hka : kpt k c < 100 := by unfold kpt; split <;> omega
    have hda : dpt k c < 100 := by unfold dpt; split <;> omega
    have sk := runB_size (c := 61) hka
    have sd := runB_size (c := 45) hda
    have hb : l_sutureref1_Diff_9 n (f + 1) (xs.map strT, ys.map strT, (comTab xs ys).map rowT, out, ((kpt k c : Nat) : Int), ((dpt k c : Nat) : Int), (i : Int), (j : Int)) = l_sutureref1_Diff_9_B n (l_sutureref1_Diff_9 n f) (xs.map strT, ys.map strT, (comTab xs ys).map rowT, out, ((kpt k c : Nat) : Int), ((dpt k c : Nat) : Int), (i : Int), (j : Int)) := rfl
    rw [hb]
    unfold l_sutureref1_Diff_9_B
    have el1 : ((List.length (xs.map strT) : Nat) : Int) = (xs.length : Int) := by rw [List.length_map]
    have el2 : ((List.length (ys.map strT) : Nat) : Int) = (ys.length : Int) := by rw [List.length_map]
    simp only [el1, el2]
    have e61 : m_sutureref1_run n (⟨#[61]⟩ : ByteArray) ((kpt k c : Nat) : Int) = some (runB 61 (kpt k c)) := run_ok hn hka 61
    have e45 : m_sutureref1_run n (⟨#[45]⟩ : ByteArray) ((dpt k c : Nat) : Int) = some (runB 45 (dpt k c)) := run_ok hn hda 45
    have ei : IntKind.wrap .i64 ((i : Int) + 1) = ((i + 1 : Nat) : Int) := by rw [w64 (by omega) (by omega)]; omega
    have ej : IntKind.wrap .i64 ((j : Int) + 1) = ((j + 1 : Nat) : Int) := by rw [w64 (by omega) (by omega)]; omega
    -- what follows a dropped line
    have drp : ∀ o : List (Op ByteArray), xs.drop (i + 1) = xs.drop (i + 1) → path (xs.drop i) (ys.drop j) = .drop :: path (xs.drop (i + 1)) (ys.drop j) → i < xs.length →
        ∃ (o : ByteArray) (a b : Nat), (Option.bind (m_sutureref1_run n (⟨#[61]⟩ : ByteArray) ((kpt k c : Nat) : Int)) fun r10 => must true (decide (((ByteArray.size out + ByteArray.size r10 : Nat) : Int) ≤ IntKind.i64.max)) (l_sutureref1_Diff_9 n f (xs.map strT, ys.map strT, (comTab xs ys).map rowT, out ++ r10, 0, IntKind.wrap .i64 (((dpt k c : Nat) : Int) + 1), ((i + 1 : Nat) : Int), (j : Int)))) = some (o, (a : Int), (b : Int)) ∧ a < 100 ∧ b < 100 ∧ o.size ≤ 100000 ∧
        o.data.toList ++ (runB 61 a).data.toList ++ (runB 45 b).data.toList = out.data.toList ++ rdr (rn k c (path (xs.drop i) (ys.drop j))) := by
      intro _ _ hp hi
      rw [e61, Option.bind_some, must_ok (max_ok (by omega)), w64 (x := ((dpt k c : Nat) : Int) + 1) (by omega) (by omega)]
      have step := fun c' hc' => ih (i + 1) j 2 c' f (out ++ runB 61 (kpt k c)) (by omega) (by omega) h3 (by omega) (.inr (.inl rfl)) hc' (by rw [ByteArray.size_append]; omega)
      have e0 : ∀ c', ((kpt 2 c' : Nat) : Int) = 0 := fun c' => by simp [kpt]
      have ed : dpt 2 (dpt k c + 1) = dpt k c + 1 := by simp [dpt]
      have hs := step (dpt k c + 1) (by unfold dpt; split <;> omega)
      rw [e0, ed] at hs
      obtain ⟨o, a, b, q1, q2, q3, q4, q5⟩ := hs
      refine ⟨o, a, b, by rw [show (((dpt k c : Nat) : Int) + 1) = ((dpt k c + 1 : Nat) : Int) by omega]; exact q1, q2, q3, q4, ?_⟩
      rw [q5, hp, ByteArray.data_append, Array.toList_append, List.append_assoc]
      congr 1
      rw [rn]
      by_cases hk2 : k = 2
      · subst hk2
        rw [if_pos rfl]
        simp [kpt, dpt, runB_data]
      · rw [if_neg hk2, rdr_app, flush_kd hk]
        have : dpt k c = 0 := by simp [dpt, hk2]
        rw [this, runB_data 45, if_pos rfl, List.append_nil]
    have ad : path (xs.drop i) (ys.drop j) = .add (nth ys j) :: path (xs.drop i) (ys.drop (j + 1)) → j < ys.length →
        ∃ (o : ByteArray) (a b : Nat), (Option.bind (m_sutureref1_run n (⟨#[61]⟩ : ByteArray) ((kpt k c : Nat) : Int)) fun r11 => must true (decide (((ByteArray.size out + ByteArray.size r11 : Nat) : Int) ≤ IntKind.i64.max)) (Option.bind (m_sutureref1_run n (⟨#[45]⟩ : ByteArray) ((dpt k c : Nat) : Int)) fun r12 => must true (decide (((ByteArray.size (out ++ r11) + ByteArray.size r12 : Nat) : Int) ≤ IntKind.i64.max)) (Option.bind (m_sutureref1_added n (nth ys j)) fun r14 => must true (decide (((ByteArray.size ((out ++ r11) ++ r12) + ByteArray.size r14 : Nat) : Int) ≤ IntKind.i64.max)) (l_sutureref1_Diff_9 n f (xs.map strT, ys.map strT, (comTab xs ys).map rowT, (((out ++ r11) ++ r12) ++ r14), 0, 0, (i : Int), ((j + 1 : Nat) : Int)))))) = some (o, (a : Int), (b : Int)) ∧ a < 100 ∧ b < 100 ∧ o.size ≤ 100000 ∧
        o.data.toList ++ (runB 61 a).data.toList ++ (runB 45 b).data.toList = out.data.toList ++ rdr (rn k c (path (xs.drop i) (ys.drop j))) := by
      intro hp hj
      have hyj : ys[j] = nth ys j := by rw [nth, List.getD_eq_getElem?_getD, List.getElem?_eq_getElem hj]; rfl
      have hys : (nth ys j).size < 100 := hy _ (by rw [← hyj]; exact List.getElem_mem _)
      have hal := addL_le hys
      have haz : (⟨(addL (nth ys j)).toArray⟩ : ByteArray).size ≤ 104 := by rw [size_data]; simpa using hal
      rw [e61, Option.bind_some, must_ok (max_ok (by omega)), e45, Option.bind_some, must_ok (max_ok (by rw [ByteArray.size_append]; omega)), added_ok hn hys, Option.bind_some,
        must_ok (max_ok (by simp only [ByteArray.size_append]; omega))]
      have hs := ih i (j + 1) 3 0 f (((out ++ runB 61 (kpt k c)) ++ runB 45 (dpt k c)) ++ ⟨(addL (nth ys j)).toArray⟩) (by omega) h2 (by omega) (by omega) (.inr (.inr rfl)) (Nat.zero_le _) (by simp only [ByteArray.size_append]; omega)
      obtain ⟨o, a, b, q1, q2, q3, q4, q5⟩ := hs
      refine ⟨o, a, b, q1, q2, q3, q4, ?_⟩
      rw [q5, hp, rn, rdr_app, flush_kd hk]
      simp [ByteArray.data_append, rdr]
    by_cases hi : i < xs.length
    · have hdx : decide ((i : Int) < (xs.length : Int)) = true := decide_eq_true (by omega)
      by_cases hj : j < ys.length
      · have hdy : decide ((j : Int) < (ys.length : Int)) = true := decide_eq_true (by omega)
        have hyj : ys[j] = ys.getD j ByteArray.empty := by rw [List.getD_eq_getElem?_getD, List.getElem?_eq_getElem hj]; rfl
        have hxi : xs[i] = xs.getD i ByteArray.empty := by rw [List.getD_eq_getElem?_getD, List.getElem?_eq_getElem hi]; rfl
        simp only [hdx, hdy, cond_true, idx_strs hi, idx_strs hj, Option.bind_some]
        rw [show ((strT xs[i]).cell 0).str = xs[i] from rfl, show ((strT ys[j]).cell 0).str = ys[j] from rfl]
        by_cases he : xs[i] = ys[j]
        · rw [(ofB_eq _ _).2 he, cond_true, e45, Option.bind_some, must_ok (max_ok (by omega)), ei, ej, w64 (x := ((kpt k c : Nat) : Int) + 1) (by omega) (by omega)]
          have hp : path (xs.drop i) (ys.drop j) = .keep :: path (xs.drop (i + 1)) (ys.drop (j + 1)) := by
            rw [getD_drop hi, getD_drop hj, path_cc, if_pos (by rw [← hxi, ← hyj, he])]
          have hs := ih (i + 1) (j + 1) 1 (kpt k c + 1) f (out ++ runB 45 (dpt k c)) (by omega) (by omega) (by omega) (by omega) (.inl rfl) (by unfold kpt; split <;> omega) (by rw [ByteArray.size_append]; omega)
          rw [show ((dpt 1 (kpt k c + 1) : Nat) : Int) = 0 by simp [dpt], show kpt 1 (kpt k c + 1) = kpt k c + 1 by simp [kpt]] at hs
          obtain ⟨o, a, b, q1, q2, q3, q4, q5⟩ := hs
          refine ⟨o, a, b, by rw [show (((kpt k c : Nat) : Int) + 1) = ((kpt k c + 1 : Nat) : Int) by omega]; exact q1, q2, q3, q4, ?_⟩
          rw [q5, hp, ByteArray.data_append, Array.toList_append, List.append_assoc]
          congr 1
          rw [rn]
          by_cases hk1 : k = 1
          · subst hk1
            rw [if_pos rfl]
            simp [kpt, dpt, runB_data]
          · rw [if_neg hk1, rdr_app, flush_kd hk]
            have : kpt k c = 0 := by simp [kpt, hk1]
            rw [this, runB_data 61, if_pos rfl, List.nil_append]
        · have hne : (xs[i].toList == ys[j].toList) = false := by
            cases hh : (xs[i].toList == ys[j].toList) with
            | false => rfl
            | true => exact absurd ((ofB_eq _ _).1 hh) he
          have hjn : ((j : Int) == (ys.length : Int)) = false := by simp; omega
          simp only [hne, cond_false, hjn, Bool.not_false, Bool.true_and]
          rw [ei, idx_tab (xs := xs) (ys := ys) (i := i + 1) (by omega), Option.bind_some, idx_row (xs := xs) (ys := ys) (i := i + 1) (j := j) h3, Option.bind_some, idx_tab (xs := xs) (ys := ys) (i := i) h2, Option.bind_some, ej, idx_row (xs := xs) (ys := ys) (i := i) (j := j + 1) (by omega), Option.bind_some]
          rw [show (T.cell (T.sc (.int .i64 (tabL (nth xs) (nth ys) xs.length ys.length (i + 1) j))) 0).int = tabL (nth xs) (nth ys) xs.length ys.length (i + 1) j from rfl, show (T.cell (T.sc (.int .i64 (tabL (nth xs) (nth ys) xs.length ys.length i (j + 1)))) 0).int = tabL (nth xs) (nth ys) xs.length ys.length i (j + 1) from rfl, tab_lc, tab_lc]
          have hpc : path (xs.drop i) (ys.drop j) = if lc (xs.drop i) (ys.drop (j + 1)) ≤ lc (xs.drop (i + 1)) (ys.drop j) then .drop :: path (xs.drop (i + 1)) (ys.drop j) else .add (ys.getD j ByteArray.empty) :: path (xs.drop i) (ys.drop (j + 1)) := by
            rw [getD_drop hi, getD_drop hj, path_cc, if_neg (by rw [← hxi, ← hyj]; exact he)]
          by_cases hle : lc (xs.drop i) (ys.drop (j + 1)) ≤ lc (xs.drop (i + 1)) (ys.drop j)
          · rw [decide_eq_true (by omega), cond_true]
            exact drp [] rfl (by rw [hpc, if_pos hle]) hi
          · rw [decide_eq_false (by omega), cond_false]
            rw [hyj]
            exact ad (by rw [hpc, if_neg hle]; rfl) hj
      · have hdy : decide ((j : Int) < (ys.length : Int)) = false := decide_eq_false (by omega)
        have hjn : ((j : Int) == (ys.length : Int)) = true := by simp; omega
        simp only [hdx, hdy, cond_true, cond_false, idx_no, Option.bind_some, hjn, Bool.not_true, Bool.false_and]
        rw [ei]
        exact drp [] rfl (by rw [getD_drop hi, dropN (xs := ys) (by omega), path_cn]) hi
    · have hdx : decide ((i : Int) < (xs.length : Int)) = false := decide_eq_false (by omega)
      have hj : j < ys.length := by omega
      have hdy : decide ((j : Int) < (ys.length : Int)) = true := decide_eq_true (by omega)
      have hjn : ((j : Int) == (ys.length : Int)) = false := by simp; omega
      simp only [hdx, hdy, cond_true, cond_false, idx_no, Option.bind_some, hjn, Bool.not_false, Bool.and_false]
      rw [ej]
      have hyj : ys[j] = nth ys j := by rw [nth, List.getD_eq_getElem?_getD, List.getElem?_eq_getElem hj]; rfl
      simp only [idx_strs hj, Option.bind_some]
      rw [show ((strT ys[j]).cell 0).str = ys[j] from rfl, hyj]
      exact ad (by rw [getD_drop hj, dropN (xs := xs) (by omega), path_nc]; rfl) hj

theorem rDiff_ok {n : Nat} (hn : 2000 ≤ n) {s t : ByteArray} (hs : Sm s) (ht : Sm t) : m_sutureref1_Diff n s t = some (tell s t) := by
  have h1 := hs.size; have h2 := ht.size
  have h3 := hs.count; have h4 := ht.count
  unfold m_sutureref1_Diff
  rw [rLines_ok n (s := s) (by omega) (by omega), Option.bind_some, rLines_ok n (s := t) (by omega) (by omega), Option.bind_some, common_ok n (by omega) (by omega), Option.bind_some]
  obtain ⟨o, a, b, q1, q2, q3, q4, q5⟩ := diff9 n (by omega) (linesB s) (linesB t) h3 h4 ht.each _ 0 0 0 0 n ⟨#[]⟩ (Nat.le_refl _) (Nat.zero_le _) (Nat.zero_le _) (by omega) (.inr (.inr rfl)) (Nat.le_refl _) (by show 0 + _ ≤ _; omega)
  rw [show ((kpt 0 0 : Nat) : Int) = 0 from rfl, show ((dpt 0 0 : Nat) : Int) = 0 from rfl, show ((0 : Nat) : Int) = 0 from rfl] at q1
  have sk := runB_size (c := 61) q2
  have sd := runB_size (c := 45) q3
  rw [q1, Option.bind_some]
  have e61 : m_sutureref1_run n (⟨#[61]⟩ : ByteArray) (a : Int) = some (runB 61 a) := run_ok (by omega) q2 61
  have e45 : m_sutureref1_run n (⟨#[45]⟩ : ByteArray) (b : Int) = some (runB 45 b) := run_ok (by omega) q3 45
  simp only [e61, e45, Option.bind_some]
  rw [must_ok (max_ok (by omega)), must_ok (max_ok (by rw [ByteArray.size_append]; omega))]
  refine congrArg some (ext_data ?_)
  rw [tell_data]
  simp only [ByteArray.data_append, Array.toList_append]
  rw [q5]
  simp [pcs]
end Go.Proofs.YtimkclpogbfciaaDoor.W

namespace Go.Proofs.YtimkclpogbfciaaDoor.W
open Go Go.Eng
set_option linter.unusedVariables false
set_option linter.unusedSimpArgs false
set_option maxRecDepth 100000

def isD (c : UInt8) : Prop := 48 ≤ c.toNat ∧ c.toNat ≤ 57
instance (c : UInt8) : Decidable (isD c) := by unfold isD; exact inferInstance
def dv (acc : Nat) (ds : List UInt8) : Nat := ds.foldl (fun a c => 10 * a + (c.toNat - 48)) acc
theorem dv_mono : ∀ (ds : List UInt8) (acc : Nat), acc ≤ dv acc ds
  | [], acc => Nat.le_refl _
  | c :: ds, acc => by
    have := dv_mono ds (10 * acc + (c.toNat - 48))
    show acc ≤ dv (10 * acc + (c.toNat - 48)) ds
    omega
theorem dv_app (a b : List UInt8) (acc : Nat) : dv acc (a ++ b) = dv (dv acc a) b := by simp [dv]
theorem parse_ok : ∀ (ds : List UInt8) (acc : Nat), (∀ c ∈ ds, isD c) → dv acc ds < 18446744073709551616 → Lib.parseUint10 acc ds = .ok (dv acc ds)
  | [], acc, _, _ => rfl
  | c :: ds, acc, h, hv => by
    obtain ⟨h1, h2⟩ := h c (by simp)
    have hv' : dv (10 * acc + (c.toNat - 48)) ds < 18446744073709551616 := hv
    have hm := dv_mono ds (10 * acc + (c.toNat - 48))
    rw [Lib.parseUint10, if_pos ⟨h1, h2⟩, if_neg (by omega), if_neg (by omega), show acc * 10 + (c.toNat - 48) = 10 * acc + (c.toNat - 48) by omega]
    exact parse_ok ds _ (fun d hd => h d (by simp [hd])) hv'

theorem dig_byte {d : Nat} (h : d < 10) : (UInt8.ofNat (48 + d)).toNat = 48 + d := by
  rw [UInt8.toNat_ofNat']; omega
theorem byte_dig {c : UInt8} (h : isD c) : UInt8.ofNat (48 + (c.toNat - 48)) = c := by
  rw [show 48 + (c.toNat - 48) = c.toNat by have := h.1; omega]; simp
theorem dec_facts : ∀ a : Nat, (∀ c ∈ Lib.decDigits a, isD c) ∧ dv 0 (Lib.decDigits a) = a ∧ ∃ c r, Lib.decDigits a = c :: r ∧ (0 < a → c.toNat ≠ 48) := by
  intro a
  induction a using Nat.strongRecOn with
  | ind a ih =>
    rw [Lib.decDigits]
    by_cases h : a < 10
    · rw [dif_pos h]
      have hb := dig_byte h
      refine ⟨fun c hc => ?_, ?_, _, _, rfl, fun h0 => by rw [hb]; omega⟩
      · obtain rfl : c = UInt8.ofNat (48 + a) := by simpa using hc
        unfold isD; rw [hb]; omega
      · show 10 * 0 + ((UInt8.ofNat (48 + a)).toNat - 48) = a
        rw [hb]; omega
    · rw [dif_neg h]
      obtain ⟨i1, i2, c, r, i3, i4⟩ := ih (a / 10) (by omega)
      have hb := dig_byte (d := a % 10) (by omega)
      refine ⟨fun d hd => ?_, ?_, c, r ++ [UInt8.ofNat (48 + a % 10)], by rw [i3]; rfl, fun _ => i4 (by omega)⟩
      · rcases List.mem_append.1 hd with hd | hd
        · exact i1 d hd
        · obtain rfl : d = UInt8.ofNat (48 + a % 10) := by simpa using hd
          unfold isD; rw [hb]; omega
      · rw [dv_app, i2]
        show 10 * (a / 10) + ((UInt8.ofNat (48 + a % 10)).toNat - 48) = a
        rw [hb]; omega
theorem dec_dv_rev : ∀ (rs : List UInt8) (c : UInt8) (r : List UInt8), rs.reverse = c :: r → (∀ d ∈ rs, isD d) → c.toNat ≠ 48 → Lib.decDigits (dv 0 rs.reverse) = rs.reverse
  | [], c, r, h, _, _ => by simp at h
  | d :: rs, c, r, h, hd, hc => by
    have hdd := hd d (by simp)
    rw [List.reverse_cons, dv_app]
    show Lib.decDigits (10 * dv 0 rs.reverse + (d.toNat - 48)) = _
    cases hrs : rs.reverse with
    | nil =>
      rw [List.reverse_cons, hrs] at h
      obtain ⟨rfl, _⟩ : d = c ∧ r = [] := by simpa using h
      have h1 : 10 * dv 0 ([] : List UInt8) + (d.toNat - 48) = d.toNat - 48 := by show 10 * 0 + _ = _; omega
      have := hdd.2
      rw [h1, Lib.decDigits, dif_pos (by omega), byte_dig hdd]; rfl
    | cons e es =>
      rw [List.reverse_cons, hrs] at h
      obtain ⟨rfl, _⟩ : e = c ∧ es ++ [d] = r := by simpa using h
      have ih := dec_dv_rev rs e es hrs (fun x hx => hd x (by simp [hx])) hc
      rw [hrs] at ih
      have hpos : 0 < dv 0 (e :: es) := by
        rcases Nat.eq_zero_or_pos (dv 0 (e :: es)) with h0 | h0
        · rw [h0, Lib.decDigits, dif_pos (by omega)] at ih
          obtain ⟨h3, _⟩ := List.cons.inj ih
          exact absurd (by rw [← h3]; rfl) hc
        · exact h0
      have h1 := hdd.1
      have h2 := hdd.2
      rw [Lib.decDigits, dif_neg (by omega), show (10 * dv 0 (e :: es) + (d.toNat - 48)) / 10 = dv 0 (e :: es) by omega, show (10 * dv 0 (e :: es) + (d.toNat - 48)) % 10 = d.toNat - 48 by omega, ih, byte_dig hdd]
theorem dec_dv {c : UInt8} {r : List UInt8} (hd : ∀ d ∈ c :: r, isD d) (hc : c.toNat ≠ 48) : Lib.decDigits (dv 0 (c :: r)) = c :: r := by
  have := dec_dv_rev (c :: r).reverse c r (by simp) (fun d h => hd d (List.mem_reverse.1 h)) hc
  simpa using this

theorem atoi_dec {a : Nat} (h : a ≤ 9223372036854775807) : Lib.atoiAll (Lib.decDigits a) = .ok (a : Int) := by
  obtain ⟨h1, h2, c, r, h3, _⟩ := dec_facts a
  have hc := h1 c (by rw [h3]; simp)
  have hp := parse_ok (Lib.decDigits a) 0 h1 (by rw [h2]; omega)
  rw [h2] at hp
  unfold isD at hc
  unfold Lib.atoiAll
  rw [h3] at hp ⊢
  simp only
  rw [if_neg (by omega)]
  unfold Lib.parseMag
  rw [if_neg (by simp), hp]
  simp only
  rw [if_neg (by omega), if_neg (by omega), if_neg (by omega)]
theorem numP_spelt2 {a : Nat} (h0 : 0 < a) (h : a ≤ 9223372036854775807) {c : UInt8} (hc : ¬ isD c) {r : List UInt8} {s : ByteArray} (hs : s.data.toList = Lib.decDigits a ++ c :: r) : numP s c = ((a : Int), ⟨r.toArray⟩, true) := by
  obtain ⟨h1, h2, _⟩ := dec_facts a
  have hd : c ∉ Lib.decDigits a := fun hm => hc (h1 c hm)
  unfold numP
  simp only
  rw [hs, indexByte_hit _ _ _ hd, if_neg (by omega), Int.toNat_natCast]
  have hsz : s.size = (Lib.decDigits a).length + 1 + r.length := by rw [size_data, hs]; simp; omega
  have e1 : s.extract 0 (Lib.decDigits a).length = ⟨(Lib.decDigits a).toArray⟩ := mk_data _ _ (by rw [extract_data, hs, List.drop_zero, Nat.sub_zero, List.take_left' rfl])
  have e2 : s.extract ((Lib.decDigits a).length + 1) s.size = ⟨r.toArray⟩ := mk_data _ _ (by
    rw [extract_data, hs, hsz]
    have : (Lib.decDigits a ++ c :: r).drop ((Lib.decDigits a).length + 1) = r := by rw [List.drop_append]; simp
    rw [this, List.take_of_length_le (by omega)])
  have e3 : atoiP ⟨(Lib.decDigits a).toArray⟩ = ((a : Int), true) := by
    unfold atoiP
    simp only [atoi_dec h]
  have e4 : Lib.itoa (a : Int) = Lib.decDigits a := by unfold Lib.itoa; rw [if_neg (by omega), Int.toNat_natCast]
  rw [e1, e2, e3, e4]
  simp
  omega
theorem numP_inv {s : ByteArray} {c : UInt8} (h : (numP s c).2.2 = true) : ∃ a : Nat, 0 < a ∧ a ≤ 9223372036854775807 ∧ s.data.toList = Lib.decDigits a ++ c :: (numP s c).2.1.data.toList := by
  obtain ⟨h1, h2⟩ := numP_ok s c h
  obtain ⟨a, ha⟩ : ∃ a : Nat, (numP s c).1 = a := ⟨(numP s c).1.toNat, by omega⟩
  refine ⟨a, by omega, by omega, ?_⟩
  have hge := Lib.indexByte_ge s.data.toList c
  unfold numP at h ha ⊢
  simp only at h ha ⊢
  generalize hk : Lib.indexByte s.data.toList c = k0 at *
  by_cases hk0 : k0 < 0
  · rw [if_pos hk0] at h; cases h
  · obtain ⟨k, rfl⟩ : ∃ k : Nat, k0 = k := ⟨k0.toNat, by omega⟩
    rw [if_neg hk0] at h ha ⊢
    rw [Int.toNat_natCast] at *
    simp only [Bool.and_eq_true, decide_eq_true_eq] at h
    have hat := (Lib.indexByte_some hk).1
    have hlt := (List.getElem?_eq_some_iff.1 hat).1
    have hi : Lib.itoa (atoiP (s.extract 0 k)).1 = (s.extract 0 k).data.toList := by
      have := h.2.2
      rw [beq_iff_eq, ByteArray.toList_eq, ByteArray.toList_eq] at this
      simpa using this
    simp only at ha
    rw [ha, show Lib.itoa (a : Int) = Lib.decDigits a by unfold Lib.itoa; rw [if_neg (by omega), Int.toNat_natCast], extract_data, List.drop_zero, Nat.sub_zero] at hi
    rw [hi]
    have hr : (s.extract (k + 1) s.size).data.toList = s.data.toList.drop (k + 1) := by
      rw [extract_data, List.take_of_length_le (by rw [List.length_drop, ← size_data]; omega)]
    show s.data.toList = _ ++ c :: (s.extract (k + 1) s.size).data.toList
    rw [hr]
    have h5 := List.take_append_drop k s.data.toList
    rw [List.drop_eq_getElem_cons hlt] at h5
    have h6 : s.data.toList[k] = c := by
      rw [List.getElem?_eq_getElem hlt] at hat; exact Option.some.inj hat
    rw [h6] at h5
    exact h5.symm

/-! the document's number, count -/
theorem number3 (n : Nat) (s : ByteArray) (hsz : s.size ≤ 2000000) : ∀ (ds p : List UInt8) (acc k : Nat), s.data.toList = p ++ ds → (∀ c ∈ ds, isD c) → ds.length < k → acc ≤ 9223372036854775807 →
    l_sutureref1_number_3 n k (s, (acc : Int), (p.length : Int)) = if dv acc ds ≤ 9223372036854775807 then some (.inr (s, ((dv acc ds : Nat) : Int))) else some (.inl (0, false)) := by
  intro ds
  induction ds with
  | nil =>
    intro p acc k hs _ hk ha
    obtain ⟨k, rfl⟩ : ∃ j, k = j + 1 := ⟨k - 1, by simp at hk; omega⟩
    have : s.size = p.length := by rw [size_data, hs]; simp
    rw [if_pos (show dv acc [] ≤ _ from ha)]
    show l_sutureref1_number_3_B n (l_sutureref1_number_3 n k) _ = _
    unfold l_sutureref1_number_3_B
    have hd : decide ((p.length : Int) < ((ByteArray.size s : Nat) : Int)) = false := decide_eq_false (by omega)
    simp only [hd, cond_false]
    rfl
  | cons d ds ih =>
    intro p acc k hs hd hk ha
    obtain ⟨k, rfl⟩ : ∃ j, k = j + 1 := ⟨k - 1, by omega⟩
    obtain ⟨d1, d2⟩ := hd d (by simp)
    have hz := size_cons hs
    have hlt : decide ((p.length : Int) < ((ByteArray.size s : Nat) : Int)) = true := decide_eq_true (by omega)
    have hb : l_sutureref1_number_3 n (k + 1) (s, (acc : Int), (p.length : Int)) = l_sutureref1_number_3_B n (l_sutureref1_number_3 n k) (s, (acc : Int), (p.length : Int)) := rfl
    rw [hb]
    unfold l_sutureref1_number_3_B
    simp only [hlt, cond_true, bidx_at hs, Option.bind_some]
    have e8 : IntKind.wrap .i64 (IntKind.wrap .u8 (((UInt8.toNat d : Nat) : Int) - 48)) = ((d.toNat - 48 : Nat) : Int) := by
      rw [w8 (by omega) (by omega), w64 (by omega) (by omega)]; omega
    rw [must_ok (by decide), e8, w64 (x := 9223372036854775807 - ((d.toNat - 48 : Nat) : Int)) (by omega) (by omega)]
    have et : Int.tdiv (9223372036854775807 - ((d.toNat - 48 : Nat) : Int)) 10 = (((9223372036854775807 - (d.toNat - 48)) / 10 : Nat) : Int) := by
      rw [show (9223372036854775807 - ((d.toNat - 48 : Nat) : Int)) = ((9223372036854775807 - (d.toNat - 48) : Nat) : Int) by omega]
      exact (Int.ofNat_tdiv _ 10).symm
    rw [et, w64 (x := (((9223372036854775807 - (d.toNat - 48)) / 10 : Nat) : Int)) (by omega) (by omega)]
    have hm := dv_mono ds (10 * acc + (d.toNat - 48))
    by_cases hov : acc > (9223372036854775807 - (d.toNat - 48)) / 10
    · have hne : ¬ dv acc (d :: ds) ≤ 9223372036854775807 := by
        show ¬ dv (10 * acc + (d.toNat - 48)) ds ≤ 9223372036854775807
        omega
      rw [decide_eq_true (by omega), cond_true, if_neg hne]
    · rw [decide_eq_false (by omega), cond_false, w64 (x := 10 * (acc : Int)) (by omega) (by omega), w64 (by omega) (by omega), w64 (by omega) (by omega)]
      have := ih (p ++ [d]) (10 * acc + (d.toNat - 48)) k (by rw [hs]; simp) (fun c hc => hd c (by simp [hc])) (by simp at hk; omega) (by omega)
      rw [show (10 * (acc : Int) + ((d.toNat - 48 : Nat) : Int)) = ((10 * acc + (d.toNat - 48) : Nat) : Int) by omega, show ((p.length : Int) + 1) = (((p ++ [d]).length : Nat) : Int) by simp]
      exact this
/-- Whether digits are without needless zeros. -/
def neat : List UInt8 → Bool
  | [] => false
  | c :: r => c.toNat != 48 || r.isEmpty
theorem number_ok (n : Nat) {ds : List UInt8} (hd : ∀ c ∈ ds, isD c) (hl : ds.length ≤ 2000000) (hn : ds.length < n) : m_sutureref1_number n ⟨ds.toArray⟩ = some (if dv 0 ds ≤ 9223372036854775807 then (((dv 0 ds : Nat) : Int), neat ds) else (0, false)) := by
  unfold m_sutureref1_number
  have hs : (⟨ds.toArray⟩ : ByteArray).data.toList = [] ++ ds := by simp
  have := number3 n ⟨ds.toArray⟩ (by rw [size_data]; simpa using hl) ds [] 0 n hs hd hn (by omega)
  rw [show (([] : List UInt8).length : Int) = 0 from rfl, show ((0 : Nat) : Int) = 0 from rfl] at this
  rw [this]
  split
  · rw [Option.bind_some]
    simp only [Sum.elim_inr]
    cases ds with
    | nil =>
      have h0 : (ByteArray.toList (⟨#[]⟩ : ByteArray) == ByteArray.toList (⟨#[]⟩ : ByteArray)) = true := by simp
      show (Option.bind (bidx (!(ByteArray.toList (⟨#[]⟩ : ByteArray) == ByteArray.toList (⟨#[]⟩ : ByteArray))) ⟨#[]⟩ 0) fun b4 => _) = _
      rw [h0]; rfl
    | cons c r =>
      have hne : (ByteArray.toList (⟨(c :: r).toArray⟩ : ByteArray) == ByteArray.toList (⟨#[]⟩ : ByteArray)) = false := by
        rw [ByteArray.toList_eq, ByteArray.toList_eq]; simp
      have hb := bidx_at (s := ⟨(c :: r).toArray⟩) (p := []) (r := r) (c := c) (by simp)
      rw [show (([] : List UInt8).length : Int) = 0 from rfl] at hb
      simp only [hne, Bool.not_false, hb, Option.bind_some, cond_true]
      refine congrArg some (Prod.ext rfl ?_)
      show (bif ((((UInt8.toNat c : Nat) : Int) : Int) != 48) then true else (ByteArray.toList (⟨(c :: r).toArray⟩ : ByteArray) == ByteArray.toList (⟨#[48]⟩ : ByteArray))) = (c.toNat != 48 || r.isEmpty)
      by_cases hc : c.toNat = 48
      · have e1 : ((((UInt8.toNat c : Nat) : Int) : Int) != 48) = false := by rw [hc]; rfl
        have e2 : (c.toNat != 48) = false := by rw [hc]; rfl
        rw [e1, e2, cond_false, Bool.false_or, ByteArray.toList_eq, ByteArray.toList_eq]
        have hcc : c = 48 := UInt8.toNat_inj.1 hc
        subst hcc
        cases r <;> simp
      · have e1 : ((((UInt8.toNat c : Nat) : Int) : Int) != 48) = true := by simp; omega
        have e2 : (c.toNat != 48) = true := by simpa using hc
        rw [e1, e2]; rfl
  · rfl

theorem span_d : ∀ b : List UInt8, ∃ ds r, b = ds ++ r ∧ (∀ c ∈ ds, isD c) ∧ (∀ c r', r = c :: r' → ¬ isD c)
  | [] => ⟨[], [], rfl, by simp, by simp⟩
  | c :: b => by
    by_cases hc : isD c
    · obtain ⟨ds, r, h1, h2, h3⟩ := span_d b
      refine ⟨c :: ds, r, by rw [h1]; rfl, fun d hd => ?_, h3⟩
      rcases List.mem_cons.1 hd with rfl | hd
      · exact hc
      · exact h2 d hd
    · refine ⟨[], c :: b, rfl, by simp, fun d r' h => ?_⟩
      obtain ⟨rfl, _⟩ := List.cons.inj h
      exact hc
theorem count2 (n : Nat) (s : ByteArray) (hsz : s.size ≤ 2000000) (c : Int) : ∀ (ds p r : List UInt8) (k : Nat), s.data.toList = p ++ (ds ++ r) → (∀ c ∈ ds, isD c) → (∀ c r', r = c :: r' → ¬ isD c) → ds.length < k →
    l_sutureref1_count_2 n k (s, c, (p.length : Int)) = some (s, c, ((p.length + ds.length : Nat) : Int)) := by
  intro ds
  induction ds with
  | nil =>
    intro p r k hs _ hr hk
    obtain ⟨k, rfl⟩ : ∃ j, k = j + 1 := ⟨k - 1, by simp at hk; omega⟩
    show l_sutureref1_count_2_B n (l_sutureref1_count_2 n k) _ = _
    unfold l_sutureref1_count_2_B
    rw [List.nil_append] at hs
    cases r with
    | nil =>
      have : s.size = p.length := by rw [size_data, hs]; simp
      have hd : decide ((p.length : Int) < ((ByteArray.size s : Nat) : Int)) = false := decide_eq_false (by omega)
      simp only [hd, bidx_false, Option.bind_some, cond_false]
      rfl
    | cons d r =>
      have hz := size_cons hs
      have hd : decide ((p.length : Int) < ((ByteArray.size s : Nat) : Int)) = true := decide_eq_true (by omega)
      have hnd := hr d r rfl
      have hdg : m_sutureref1_digit n ((UInt8.toNat d : Nat) : Int) = some false := by
        unfold m_sutureref1_digit
        refine congrArg some ?_
        unfold isD at hnd
        by_cases h1 : 48 ≤ d.toNat
        · rw [decide_eq_true (by omega), cond_true, decide_eq_false (by omega)]
        · rw [decide_eq_false (by omega), cond_false]
      simp only [hd, bidx_at hs, Option.bind_some, cond_true, hdg, cond_false]
      rfl
  | cons d ds ih =>
    intro p r k hs hd hr hk
    obtain ⟨k, rfl⟩ : ∃ j, k = j + 1 := ⟨k - 1, by omega⟩
    have hs1 : s.data.toList = p ++ d :: (ds ++ r) := by rw [hs]; rfl
    have hz := size_cons hs1
    have hlt : decide ((p.length : Int) < ((ByteArray.size s : Nat) : Int)) = true := decide_eq_true (by omega)
    obtain ⟨d1, d2⟩ := hd d (by simp)
    have hdg : m_sutureref1_digit n ((UInt8.toNat d : Nat) : Int) = some true := by
      unfold m_sutureref1_digit
      rw [decide_eq_true (by omega), cond_true, decide_eq_true (by omega)]
    have hb : l_sutureref1_count_2 n (k + 1) (s, c, (p.length : Int)) = l_sutureref1_count_2_B n (l_sutureref1_count_2 n k) (s, c, (p.length : Int)) := rfl
    rw [hb]
    unfold l_sutureref1_count_2_B
    simp only [hlt, bidx_at hs1, Option.bind_some, cond_true, hdg]
    have := ih (p ++ [d]) r k (by rw [hs]; simp) (fun x hx => hd x (by simp [hx])) hr (by simp at hk; omega)
    rw [w64 (by omega) (by omega), show ((p.length : Int) + 1) = (((p ++ [d]).length : Nat) : Int) by simp, this]
    simp only [List.length_append, List.length_cons, List.length_nil]
    rw [show p.length + (0 + 1) + ds.length = p.length + (ds.length + 1) by omega]

theorem count_form (n : Nat) {s : ByteArray} (hsz : s.size ≤ 2000000) (hn : s.size < n) {c : UInt8} {ds r : List UInt8} (hs : s.data.toList = ds ++ r) (hd : ∀ c ∈ ds, isD c) (hr : ∀ c r', r = c :: r' → ¬ isD c) :
    (∀ d r', r = d :: r' → d = c → m_sutureref1_count n s ((c.toNat : Nat) : Int) = some ((if dv 0 ds ≤ 9223372036854775807 then ((dv 0 ds : Nat) : Int) else 0), ⟨r'.toArray⟩, (if dv 0 ds ≤ 9223372036854775807 then neat ds && decide (0 < dv 0 ds) else false))) ∧
    ((r = [] ∨ ∃ d r', r = d :: r' ∧ d ≠ c) → m_sutureref1_count n s ((c.toNat : Nat) : Int) = some (0, ⟨#[]⟩, false)) := by
  have hl : s.size = ds.length + r.length := by rw [size_data, hs]; simp
  have h2 := count2 n s hsz ((c.toNat : Nat) : Int) ds [] r n (by rw [hs]; rfl) hd hr (by omega)
  rw [show (([] : List UInt8).length : Int) = 0 from rfl, show (([] : List UInt8).length + ds.length : Nat) = ds.length by simp] at h2
  constructor
  · rintro d r' rfl rfl
    unfold m_sutureref1_count
    rw [h2, Option.bind_some]
    simp only
    have hz := size_cons hs
    have hne : ((ds.length : Int) == ((ByteArray.size s : Nat) : Int)) = false := by simp; omega
    simp only [hne, Bool.not_false, bidx_at hs, Option.bind_some, cond_false]
    have hcc : ((((UInt8.toNat d : Nat) : Int) : Int) != ((d.toNat : Nat) : Int)) = false := by simp
    rw [hcc, cond_false, must_ok (by simp only [Bool.and_eq_true, decide_eq_true_eq]; omega), w64 (by omega) (by omega)]
    rw [show s.extract (Int.toNat 0) (Int.toNat (ds.length : Int)) = ⟨ds.toArray⟩ from extract_mid (p := []) (c := ds) (r := d :: r') (by rw [hs]; rfl) _ _ rfl (by simp)]
    rw [number_ok n hd (by omega) (by omega), Option.bind_some, must_ok (by simp only [Bool.and_eq_true, decide_eq_true_eq]; omega)]
    rw [show s.extract (Int.toNat ((ds.length : Int) + 1)) (Int.toNat ((ByteArray.size s : Nat) : Int)) = ⟨r'.toArray⟩ from extract_mid (p := ds ++ [d]) (c := r') (r := []) (by rw [hs]; simp) _ _ (by simp <;> omega) (by simp <;> omega)]
    split
    · refine congrArg some (Prod.ext rfl (Prod.ext rfl ?_))
      show (bif neat ds then decide (((dv 0 ds : Nat) : Int) > 0) else false) = _
      cases neat ds with
      | true => rw [cond_true, Bool.true_and]; congr 1; simp
      | false => rfl
    · rfl
  · intro h
    unfold m_sutureref1_count
    rw [h2, Option.bind_some]
    simp only
    rcases h with rfl | ⟨d, r', rfl, hdc⟩
    · have he : ((ds.length : Int) == ((ByteArray.size s : Nat) : Int)) = true := by rw [hl]; simp
      simp only [he, Bool.not_true, bidx_false, Option.bind_some, cond_true]
    · have hz := size_cons hs
      have hne : ((ds.length : Int) == ((ByteArray.size s : Nat) : Int)) = false := by simp; omega
      simp only [hne, Bool.not_false, bidx_at hs, Option.bind_some, cond_false]
      have hcc : ((((UInt8.toNat d : Nat) : Int) : Int) != ((c.toNat : Nat) : Int)) = true := by
        have : d.toNat ≠ c.toNat := fun e => hdc (UInt8.toNat_inj.1 e)
        simp; omega
      rw [hcc, cond_true]

/-- The document's count reads what diff.number reads. -/
theorem rcount_ok (n : Nat) {s : ByteArray} (hsz : s.size ≤ 2000000) (hn : s.size < n) {c : UInt8} (hc : ¬ isD c) : ∃ z r, m_sutureref1_count n s ((c.toNat : Nat) : Int) = some (z, r, (numP s c).2.2) ∧ ((numP s c).2.2 = true → z = (numP s c).1 ∧ r = (numP s c).2.1) := by
  cases hb : (numP s c).2.2 with
  | true =>
    obtain ⟨a, h1, h2, h3⟩ := numP_inv hb
    have hsp := numP_spelt2 h1 h2 hc h3
    obtain ⟨f1, f2, d, r, f3, f4⟩ := dec_facts a
    have := (count_form n hsz hn (c := c) h3 f1 (fun x r' h => by obtain ⟨rfl, _⟩ := List.cons.inj h; exact hc)).1 _ _ rfl rfl
    rw [f2, if_pos h2, if_pos h2] at this
    have hneat : neat (Lib.decDigits a) = true := by
      rw [f3]
      show (d.toNat != 48 || r.isEmpty) = true
      have := f4 h1
      simp [this]
    rw [hneat, decide_eq_true h1] at this
    refine ⟨_, _, this, fun _ => ?_⟩
    rw [hsp]
    exact ⟨rfl, by simp⟩
  | false =>
    obtain ⟨ds, r, h1, h2, h3⟩ := span_d s.data.toList
    obtain ⟨g1, g2⟩ := count_form n hsz hn (c := c) h1 h2 h3
    by_cases hr : ∃ r', r = c :: r'
    · obtain ⟨r', rfl⟩ := hr
      have := g1 c r' rfl rfl
      have hf : (if dv 0 ds ≤ 9223372036854775807 then neat ds && decide (0 < dv 0 ds) else false) = false := by
        cases hh : (if dv 0 ds ≤ 9223372036854775807 then neat ds && decide (0 < dv 0 ds) else false) with
        | false => rfl
        | true =>
          exfalso
          split at hh
          · rename_i hle
            simp only [Bool.and_eq_true, decide_eq_true_eq] at hh
            obtain ⟨hn1, hp⟩ := hh
            cases ds with
            | nil => cases hn1
            | cons d ds =>
              have hd48 : d.toNat ≠ 48 := by
                intro e
                have hn2 : (d.toNat != 48 || ds.isEmpty) = true := hn1
                rw [e] at hn2
                have hnil : ds = [] := by simpa using hn2
                subst hnil
                have : dv 0 [d] = d.toNat - 48 := by show 10 * 0 + (d.toNat - 48) = _; omega
                omega
              have hdec := dec_dv h2 hd48
              have := numP_spelt2 hp hle hc (s := s) (r := r') (by rw [hdec, h1])
              rw [this] at hb
              cases hb
          · cases hh
      rw [hf] at this
      exact ⟨_, _, this, fun h => by cases h⟩
    · refine ⟨_, _, g2 ?_, fun h => by cases h⟩
      cases r with
      | nil => exact .inl rfl
      | cons d r' => exact .inr ⟨d, r', rfl, fun e => hr ⟨r', by rw [e]⟩⟩
end Go.Proofs.YtimkclpogbfciaaDoor.W

namespace Go.Proofs.YtimkclpogbfciaaDoor.W
open Go Go.Eng
set_option linter.unusedVariables false
set_option linter.unusedSimpArgs false
set_option maxRecDepth 100000

theorem must_no {R : Type} {φ : Bool} {r : Option R} : must false φ r = r := rfl
theorem linesL_one {b : List UInt8} (h : b ≠ []) : (linesL b).length = 1 ↔ 10 ∉ b.dropLast := by
  rcases split10 b with hn | ⟨a, r, ha, rfl⟩
  · rw [linesL_none b hn h]
    exact ⟨fun _ hm => hn ((List.dropLast_sublist b).subset hm), fun _ => rfl⟩
  · rw [linesL_hit a r ha]
    cases r with
    | nil => simp [linesL, ha]
    | cons d r =>
      have hne : linesL (d :: r) ≠ [] := fun e => by
        have := linesL_flat (d :: r)
        rw [e] at this; cases this
      have hpos := List.length_pos_iff.2 hne
      constructor
      · intro hl; simp only [List.length_cons] at hl; omega
      · intro hm
        exfalso
        apply hm
        rw [List.dropLast_append_of_ne_nil (by simp), List.dropLast_cons_of_ne_nil (by simp)]
        simp

theorem indexByte_neg {l : List UInt8} {c : UInt8} : Lib.indexByte l c < 0 ↔ c ∉ l := by
  constructor
  · intro h hm
    obtain ⟨k, hk, e⟩ := List.getElem_of_mem hm
    have hge := Lib.indexByte_ge l c
    have := Lib.indexByte_none (l := l) (c := c) (by omega) k
    rw [List.getElem?_eq_getElem hk, e] at this
    exact this rfl
  · intro h
    rw [indexByte_miss l c h]; decide

theorem apply19 (n : Nat) (X : List ByteArray) (hX : X.length < 1000) (last c : Int) (rest : ByteArray) : ∀ (m i k : Nat) (out : ByteArray), i + m ≤ X.length → m < k → out.size + sumL (X.drop i) ≤ 1000000000000 →
    ∃ o : ByteArray, o.data.toList = out.data.toList ++ (if c = 61 then ((X.drop i).take m).flatMap (·.data.toList) else []) ∧
      l_sutureref1_Apply_19 n k (X.map strT, out, (i : Int), last, c, (m : Int), rest) = some (X.map strT, o, ((i + m : Nat) : Int), last, rest) := by
  intro m
  induction m with
  | zero =>
    intro i k out _ hk _
    obtain ⟨k, rfl⟩ : ∃ j, k = j + 1 := ⟨k - 1, by omega⟩
    refine ⟨out, by simp, ?_⟩
    rfl
  | succ m ih =>
    intro i k out hi hk ho
    obtain ⟨k, rfl⟩ : ∃ j, k = j + 1 := ⟨k - 1, by omega⟩
    have hlt : i < X.length := by omega
    have hb : l_sutureref1_Apply_19 n (k + 1) (X.map strT, out, (i : Int), last, c, ((m + 1 : Nat) : Int), rest) = l_sutureref1_Apply_19_B n (l_sutureref1_Apply_19 n k) (X.map strT, out, (i : Int), last, c, ((m + 1 : Nat) : Int), rest) := rfl
    rw [hb]
    unfold l_sutureref1_Apply_19_B
    have hpos : decide (((m + 1 : Nat) : Int) > 0) = true := decide_eq_true (by omega)
    have hdx : X.drop i = X[i] :: X.drop (i + 1) := List.drop_eq_getElem_cons hlt
    have hsum : sumL (X.drop i) = X[i].size + sumL (X.drop (i + 1)) := by rw [hdx]; unfold sumL; rw [List.map_cons, List.sum_cons]
    simp only [hpos, cond_true]
    rw [w64 (x := (i : Int) + 1) (by omega) (by omega), w64 (x := ((m + 1 : Nat) : Int) - 1) (by omega) (by omega), show ((m + 1 : Nat) : Int) - 1 = (m : Int) by omega, show (i : Int) + 1 = ((i + 1 : Nat) : Int) by omega]
    by_cases hc : c = 61
    · subst hc
      simp only [beq_self_eq_true, cond_true, idx_strs hlt, Option.bind_some]
      rw [show ((strT X[i]).cell 0).str = X[i] from rfl, must_ok (max_ok (by omega))]
      obtain ⟨o, h1, h2⟩ := ih (i + 1) k (out ++ X[i]) (by omega) (by omega) (by rw [ByteArray.size_append]; omega)
      refine ⟨o, ?_, by rw [h2]; simp only [Option.some.injEq, Prod.mk.injEq, true_and, and_true]; omega⟩
      rw [h1]
      simp only [if_true]
      rw [hdx, List.take_succ_cons, List.flatMap_cons, ByteArray.data_append, Array.toList_append, List.append_assoc]
    · have hcf : (c == 61) = false := by simpa using hc
      simp only [hcf, cond_false]
      obtain ⟨o, h1, h2⟩ := ih (i + 1) k out (by omega) (by omega) (by omega)
      refine ⟨o, ?_, by rw [h2]; simp only [Option.some.injEq, Prod.mk.injEq, true_and, and_true]; omega⟩
      rw [h1, if_neg hc, if_neg hc]

/-- What stands behind the loop of Apply. -/
def post5 (x9 : (ByteArray × Int) ⊕ (List T) × ByteArray × Int) : Option (ByteArray × Int) :=
  Sum.elim (fun p10 => some (p10.1, p10.2)) (fun x9' => (fun p11 => bif ((p11.2.2 : Int) != ((List.length p11.1 : Nat) : Int)) then (some ((⟨#[]⟩ : ByteArray), 2)) else (some (p11.2.1, 0))) x9') x9

theorem apply5 (n : Nat) (X : List ByteArray) (hX : X.length < 1000) (hn : 2000 ≤ n) : ∀ (m : Nat) (d : ByteArray) (i bf g f : Nat) (out : ByteArray), d.size ≤ m → d.size ≤ g → d.size < f → i ≤ X.length → d.size ≤ 2000000 → d.size < n → out.size + d.size + sumL (X.drop i) ≤ 1000000000 →
    Option.bind (l_sutureref1_Apply_5 n f (d, X.map strT, out, (i : Int), (bf : Int))) post5 = some (appR (appQ g d (X.drop i) bf out.data.toList)) := by
  intro m
  have stop : ∀ (d : ByteArray) (i bf g f : Nat) (out : ByteArray), d.data.toList = [] → 0 < f → i ≤ X.length → Option.bind (l_sutureref1_Apply_5 n f (d, X.map strT, out, (i : Int), (bf : Int))) post5 = some (appR (appQ g d (X.drop i) bf out.data.toList)) := by
    intro d i bf g f out hd hf hi
    obtain ⟨f, rfl⟩ : ∃ j, f = j + 1 := ⟨f - 1, by omega⟩
    have hb : l_sutureref1_Apply_5 n (f + 1) (d, X.map strT, out, (i : Int), (bf : Int)) = l_sutureref1_Apply_5_B n (l_sutureref1_Apply_5 n f) (d, X.map strT, out, (i : Int), (bf : Int)) := rfl
    rw [hb]
    unfold l_sutureref1_Apply_5_B
    have he : (!(ByteArray.toList d == ByteArray.toList (⟨#[]⟩ : ByteArray))) = false := by rw [ByteArray.toList_eq, hd]; simp
    simp only [he, cond_false, Option.bind_some]
    rw [appQ_nil _ _ _ _ _ hd]
    unfold post5
    simp only [Sum.elim_inr, List.length_map, List.length_drop]
    by_cases hil : i = X.length
    · have : ((i : Int) != (X.length : Int)) = false := by simp; omega
      rw [this, cond_false, if_pos (by omega)]
      exact congrArg some (Prod.ext (mk_data out _ rfl) rfl)
    · have : ((i : Int) != (X.length : Int)) = true := by simp; omega
      rw [this, cond_true, if_neg (by omega)]
      rfl
  induction m with
  | zero =>
    intro d i bf g f out h1 _ hf hi _ _ _
    exact stop d i bf g f out (List.length_eq_zero_iff.1 (by rw [← size_data]; omega)) (by omega) hi
  | succ m ih =>
    intro d i bf g f out h1 hg hf hi hd2 hdn ho
    cases hdl : d.data.toList with
    | nil => exact stop d i bf g f out hdl (by omega) hi
    | cons k r =>
      have hsz : d.size = r.length + 1 := by rw [size_data, hdl]; simp
      obtain ⟨f, rfl⟩ : ∃ j, f = j + 1 := ⟨f - 1, by omega⟩
      obtain ⟨g, rfl⟩ : ∃ j, g = j + 1 := ⟨g - 1, by omega⟩
      have hb : l_sutureref1_Apply_5 n (f + 1) (d, X.map strT, out, (i : Int), (bf : Int)) = l_sutureref1_Apply_5_B n (l_sutureref1_Apply_5 n f) (d, X.map strT, out, (i : Int), (bf : Int)) := rfl
      rw [hb]
      unfold l_sutureref1_Apply_5_B
      have he : (!(ByteArray.toList d == ByteArray.toList (⟨#[]⟩ : ByteArray))) = true := by rw [ByteArray.toList_eq, hdl, ByteArray.toList_eq]; simp
      have hb0 := bidx_at (s := d) (p := []) (r := r) (c := k) (by rw [hdl]; rfl)
      rw [show (([] : List UInt8).length : Int) = 0 from rfl] at hb0
      have htz : (d.extract 1 d.size).size = d.size - 1 := by rw [ByteArray.size_extract]; omega
      have hex : ByteArray.extract d (Int.toNat 1) (Int.toNat ((ByteArray.size d : Nat) : Int)) = d.extract 1 d.size := rfl
      have hmu : (decide ((0 : Nat) ≤ 1) && decide ((1 : Int) ≤ ((ByteArray.size d : Nat) : Int)) && decide (((ByteArray.size d : Nat) : Int) ≤ ((ByteArray.size d : Nat) : Int))) = true := by simp only [Bool.and_eq_true, decide_eq_true_eq]; omega
      simp only [he, cond_true, hb0, Option.bind_some, hex, must_ok hmu]
      rw [appQ_cons g _ _ _ hdl]
      have fail : ∀ w : ByteArray × Int, w = ((⟨#[]⟩ : ByteArray), (2 : Int)) → post5 (Sum.inl w) = some (appR none) := by rintro w rfl; rfl
      by_cases h43 : k.toNat = 43
      · -- an added line
        have e61 : ((((UInt8.toNat k : Nat) : Int) : Int) != 61) = true := by rw [h43]; rfl
        have e45 : ((((UInt8.toNat k : Nat) : Int) : Int) != 45) = true := by rw [h43]; rfl
        have e43 : ((((UInt8.toNat k : Nat) : Int) : Int) != 43) = false := by rw [h43]; rfl
        have e43' : ((((UInt8.toNat k : Nat) : Int) : Int) == 43) = true := by rw [h43]; rfl
        simp only [e61, e45, e43, e43', cond_true, cond_false]
        rw [if_pos h43]
        obtain ⟨z, q, hq1, hq2⟩ := rcount_ok n (s := d.extract 1 d.size) (c := 58) (by omega) (by omega) (by decide)
        rw [show ((((58 : UInt8).toNat : Nat)) : Int) = 58 from rfl] at hq1
        rw [hq1, Option.bind_some]
        have hrest := numP_rest (d.extract 1 d.size) 58
        have hok := numP_ok (d.extract 1 d.size) 58
        unfold addP
        generalize (numP (d.extract 1 d.size) 58).1 = z' at *
        generalize (numP (d.extract 1 d.size) 58).2.1 = q' at *
        cases hb3 : (numP (d.extract 1 d.size) 58).2.2 with
        | false =>
          rw [addQ_bad (by rintro ⟨h, _⟩; cases h), if_neg (by decide)]
          simp only [Bool.not_false, cond_true, Bool.not_true, bidx_false, Option.bind_some, cond_false]
          rw [must_no]
          exact fail _ rfl
        | true =>
          obtain ⟨rfl, rfl⟩ := hq2 hb3
          obtain ⟨ok1, ok2⟩ := hok hb3
          obtain ⟨a, rfl⟩ : ∃ a : Nat, z = a := ⟨z.toNat, by omega⟩
          have hqs : q.size ≤ d.size - 1 := by omega
          have ew : IntKind.wrap .i64 (((ByteArray.size q : Nat) : Int) - 1) = ((ByteArray.size q : Nat) : Int) - 1 := w64 (by omega) (by omega)
          simp only [Bool.not_true, cond_false, ew]
          by_cases hlt : (a : Int) < (q.size : Int)
          · have hgt : decide ((a : Int) > ((ByteArray.size q : Nat) : Int) - 1) = false := decide_eq_false (by omega)
            have hal : a < q.data.toList.length := by rw [← size_data]; omega
            obtain ⟨x, hx⟩ : ∃ x, q.data.toList[a]? = some x := ⟨_, List.getElem?_eq_getElem hal⟩
            have hqd : q.data.toList = q.data.toList.take a ++ x :: q.data.toList.drop (a + 1) := by
              have h5 := List.take_append_drop a q.data.toList
              rw [List.drop_eq_getElem_cons hal] at h5
              rw [List.getElem?_eq_getElem hal] at hx
              rw [Option.some.inj hx] at h5
              exact h5.symm
            have hbx := bidx_at hqd
            rw [show ((q.data.toList.take a).length : Nat) = a by rw [List.length_take]; omega] at hbx
            simp only [hgt, Bool.not_false, hbx, Option.bind_some]
            by_cases hx10 : x = 10
            · subst hx10
              have ex : ((((UInt8.toNat 10 : Nat) : Int) : Int) != 10) = false := rfl
              simp only [ex, Bool.not_false]
              have hmu2 : (decide ((0 : Nat) ≤ 0) && decide (0 ≤ (a : Int)) && decide ((a : Int) ≤ ((ByteArray.size q : Nat) : Int))) = true := by simp only [Bool.and_eq_true, decide_eq_true_eq]; omega
              rw [must_ok hmu2]
              have hexq : ByteArray.extract q (Int.toNat 0) (Int.toNat (a : Int)) = q.extract 0 a := rfl
              have hqa : (q.extract 0 a).size = a := by rw [ByteArray.size_extract]; omega
              have hqad : (q.extract 0 a).data.toList = q.data.toList.take a := by rw [extract_data, List.drop_zero, Nat.sub_zero]
              rw [hexq]
              have hln : m_sutureref1_Lines n (q.extract 0 a) = some ((linesB (q.extract 0 a)).map strT) := rLines_ok n (by omega) (by omega)
              simp only [cond_false, Bool.not_false, cond_true]
              rw [hln, Option.bind_some, List.length_map]
              have hcnt : (linesB (q.extract 0 a)).length = (linesL (q.data.toList.take a)).length := by rw [← hqad, ← linesB_eq, List.length_map]
              have hone := linesL_one (b := q.data.toList.take a) (by intro e; have h9 := congrArg List.length e; rw [List.length_take, List.length_nil] at h9; omega)
              have hdl2 : (q.data.toList.take a).dropLast = (q.extract 0 (a - 1)).data.toList := by
                rw [List.dropLast_eq_take, extract_data, List.drop_zero, Nat.sub_zero, List.take_take, List.length_take]
                congr 1; omega
              rw [hdl2] at hone
              by_cases hnl : 10 ∈ (q.extract 0 (a - 1)).data.toList
              · have hne1 : ((((linesB (q.extract 0 a)).length : Nat) : Int) != 1) = true := by
                  have : (linesB (q.extract 0 a)).length ≠ 1 := fun e => hone.1 (by rw [← hcnt]; exact e) hnl
                  simp; omega
                rw [hne1, cond_true, addQ_bad (by rintro ⟨_, _, _, h⟩; rw [Int.toNat_natCast] at h; exact indexByte_neg.1 h hnl), if_neg (by decide)]
                exact fail _ rfl
              · have hne1 : ((((linesB (q.extract 0 a)).length : Nat) : Int) != 1) = false := by
                  have : (linesB (q.extract 0 a)).length = 1 := by rw [hcnt]; exact hone.2 hnl
                  rw [this]; rfl
                rw [hne1, cond_false, addQ_good ⟨rfl, hlt, by rw [Int.toNat_natCast]; exact hx, by rw [Int.toNat_natCast]; exact indexByte_neg.2 hnl⟩, if_pos rfl]
                have ew2 : IntKind.wrap .i64 ((a : Int) + 1) = ((a + 1 : Nat) : Int) := by rw [w64 (by omega) (by omega)]; omega
                simp only [ew2, Int.toNat_natCast]
                rw [must_ok (by simp only [Bool.and_eq_true, decide_eq_true_eq]; omega), must_ok (max_ok (by omega)), must_ok (by simp only [Bool.and_eq_true, decide_eq_true_eq]; omega), h43]
                have hsz3 : (q.extract (a + 1) q.size).size = q.size - (a + 1) := by rw [ByteArray.size_extract]; omega
                have := ih (q.extract (a + 1) q.size) i 43 g f (out ++ q.extract 0 a) (by omega) (by omega) (by omega) hi (by omega) (by omega) (by rw [ByteArray.size_append]; omega)
                rw [ByteArray.data_append, Array.toList_append] at this
                exact this
            · have ex : ((((UInt8.toNat x : Nat) : Int) : Int) != 10) = true := by
                have : x.toNat ≠ 10 := fun e => hx10 (UInt8.toNat_inj.1 e)
                simp; omega
              simp only [ex, Bool.not_true, cond_false, Option.bind_some, cond_true]
              rw [addQ_bad (by rintro ⟨_, _, h, _⟩; rw [Int.toNat_natCast, hx] at h; exact hx10 (Option.some.inj h)), if_neg (by decide)]
              rw [must_no]
              exact fail _ rfl
          · have hgt : decide ((a : Int) > ((ByteArray.size q : Nat) : Int) - 1) = true := decide_eq_true (by omega)
            simp only [hgt, Bool.not_true, bidx_false, Option.bind_some, cond_true, cond_false]
            rw [addQ_bad (by rintro ⟨_, h, _⟩; exact hlt h), if_neg (by decide)]
            rw [must_no]
            exact fail _ rfl
      · have e43 : ((((UInt8.toNat k : Nat) : Int) : Int) != 43) = true := by simp; omega
        have e43' : ((((UInt8.toNat k : Nat) : Int) : Int) == 43) = false := by simp; omega
        rw [if_neg h43]
        by_cases hk : k.toNat = 61 ∨ k.toNat = 45
        · have e1 : (bif ((((UInt8.toNat k : Nat) : Int) : Int) != 61) then ((((UInt8.toNat k : Nat) : Int) : Int) != 45) else false) = false := by
            rcases hk with h | h
            · rw [h]; rfl
            · rw [h]; rfl
          simp only [e1, e43, e43', cond_true, cond_false]
          by_cases hbf : k.toNat = bf
          · have e2 : ((((UInt8.toNat k : Nat) : Int) : Int) == (bf : Int)) = true := by rw [hbf]; simp
            rw [e2, cond_true, if_neg (by rintro ⟨⟨_, h⟩, _⟩; exact h hbf)]
            exact fail _ rfl
          · have e2 : ((((UInt8.toNat k : Nat) : Int) : Int) == (bf : Int)) = false := by simp; omega
            rw [e2, cond_false]
            obtain ⟨z, q, hq1, hq2⟩ := rcount_ok n (s := d.extract 1 d.size) (c := 10) (by omega) (by omega) (by decide)
            rw [show ((((10 : UInt8).toNat : Nat)) : Int) = 10 from rfl] at hq1
            rw [hq1, Option.bind_some]
            have hrest := numP_rest (d.extract 1 d.size) 10
            have hok := numP_ok (d.extract 1 d.size) 10
            generalize (numP (d.extract 1 d.size) 10).1 = z' at *
            generalize (numP (d.extract 1 d.size) 10).2.1 = q' at *
            cases hb3 : (numP (d.extract 1 d.size) 10).2.2 with
            | false =>
              rw [if_neg (by rintro ⟨_, h, _⟩; cases h)]
              simp only [Bool.not_false, cond_true]
              exact fail _ rfl
            | true =>
              obtain ⟨rfl, rfl⟩ := hq2 hb3
              obtain ⟨ok1, ok2⟩ := hok hb3
              obtain ⟨a, rfl⟩ : ∃ a : Nat, z = a := ⟨z.toNat, by omega⟩
              have ew : IntKind.wrap .i64 (((List.length (X.map strT) : Nat) : Int) - (i : Int)) = ((X.length - i : Nat) : Int) := by rw [List.length_map, w64 (by omega) (by omega)]; omega
              simp only [Bool.not_true, cond_false, ew, Int.toNat_natCast, List.length_drop]
              by_cases hle : (a : Int) ≤ ((X.length - i : Nat) : Int)
              · rw [decide_eq_false (by omega), cond_false, if_pos ⟨⟨hk, hbf⟩, trivial, hle⟩]
                have hcut := sumL_cut (X.drop i) a
                obtain ⟨o, ho1, ho2⟩ := apply19 n X hX ((UInt8.toNat k : Nat) : Int) ((UInt8.toNat k : Nat) : Int) q a i n out (by omega) (by omega) (by omega)
                rw [ho2, Option.bind_some]
                have hos : o.size + sumL ((X.drop i).drop a) ≤ out.size + sumL (X.drop i) := by
                  rw [size_data, ho1, List.length_append, ← size_data]
                  have : (if ((UInt8.toNat k : Nat) : Int) = 61 then ((X.drop i).take a).flatMap (·.data.toList) else []).length ≤ sumL ((X.drop i).take a) := by
                    split
                    · rw [← join_flat, join_nil]; exact Nat.le_refl _
                    · exact Nat.zero_le _
                  omega
                have hdd : (X.drop i).drop a = X.drop (i + a) := List.drop_drop
                rw [hdd] at hos hcut ⊢
                have := ih q (i + a) k.toNat g f o (by omega) (by omega) (by omega) (by omega) (by omega) (by omega) (by omega)
                rw [ho1] at this
                rw [show (if k.toNat = 61 then out.data.toList ++ Lib.join (((X.drop i).take a).map (·.data.toList)) [] else out.data.toList) = out.data.toList ++ (if ((UInt8.toNat k : Nat) : Int) = 61 then ((X.drop i).take a).flatMap (·.data.toList) else []) by
                  by_cases h61 : k.toNat = 61
                  · rw [if_pos h61, if_pos (by omega), join_flat]
                  · rw [if_neg h61, if_neg (by omega), List.append_nil]]
                exact this
              · rw [decide_eq_true (by omega), cond_true, if_neg (by rintro ⟨_, _, h⟩; exact hle h)]
                exact fail _ rfl
        · have e1 : (bif ((((UInt8.toNat k : Nat) : Int) : Int) != 61) then ((((UInt8.toNat k : Nat) : Int) : Int) != 45) else false) = true := by
            have h1 : ((((UInt8.toNat k : Nat) : Int) : Int) != 61) = true := by simp; omega
            have h2 : ((((UInt8.toNat k : Nat) : Int) : Int) != 45) = true := by simp; omega
            rw [h1, h2]; rfl
          simp only [e1, e43, cond_true]
          rw [if_neg (by rintro ⟨⟨h, _⟩, _⟩; exact hk h)]
          exact fail _ rfl

theorem rApply_ok {n : Nat} {s d : ByteArray} (hs : Sm s) (hd : d.size ≤ 1100000) (hn : 2000000 < n) : m_sutureref1_Apply n s d = some (applyP s d) := by
  have h1 := hs.size; have h2 := hs.count
  unfold m_sutureref1_Apply
  rw [rLines_ok n (s := s) (by omega) (by omega), Option.bind_some]
  have := apply5 n (linesB s) (by omega) (by omega) d.size d 0 0 d.size n ⟨#[]⟩ (Nat.le_refl _) (Nat.le_refl _) (by omega) (Nat.zero_le _) (by omega) (by omega) (by rw [List.drop_zero, sumL_lines]; show 0 + _ + _ ≤ _; omega)
  rw [List.drop_zero] at this
  exact this
theorem dApply_ok (n : Nat) {s d : ByteArray} (hs : Sm s) (hd : d.size ≤ 1100000) : m_diff_Apply n s d = some (applyP s d) := by
  show applyM s d = _
  have h1 := hs.size
  unfold applyM
  rw [decide_eq_true (by omega), decide_eq_true (by rw [sumL_lines]; omega)]
  rfl
end Go.Proofs.YtimkclpogbfciaaDoor.W

namespace Go.Proofs.YtimkclpogbfciaaDoor.W
open Go Go.Eng
set_option linter.unusedVariables false
set_option linter.unusedSimpArgs false
set_option maxRecDepth 100000

theorem pick_any (n : Nat) (z : Int) {L : Nat} (h0 : 0 < L) (hL : L ≤ 1000000000) : ∃ r : Nat, r < L ∧ m_suturehand_Pick n z (L : Int) = some (r : Int) := by
  have h1 : Int.tmod z (L : Int) < (L : Int) := Int.tmod_lt_of_pos _ (by omega)
  have h2 : -(L : Int) < Int.tmod z (L : Int) := by have := Int.lt_tmod_of_pos z (b := (L : Int)) (by omega); simpa using this
  unfold m_suturehand_Pick
  rw [must_ok (by have : ¬ (L : Int) = 0 := by omega
                  simp [this]; omega)]
  by_cases h : Int.tmod z (L : Int) < 0
  · rw [decide_eq_true h, cond_true, w64 (by omega) (by omega)]
    exact ⟨(Int.tmod z (L : Int) + L).toNat, by omega, congrArg some (by omega)⟩
  · rw [decide_eq_false h, cond_false]
    exact ⟨(Int.tmod z (L : Int)).toNat, by omega, congrArg some (by omega)⟩
theorem idx_ten {u : Nat} (h : u < 10) : ∃ y : ByteArray, y.size ≤ 3 ∧ idx1 true (.str) [(T.sc (.string (⟨#[61]⟩ : ByteArray))), (T.sc (.string (⟨#[45]⟩ : ByteArray))), (T.sc (.string (⟨#[43]⟩ : ByteArray))), (T.sc (.string (⟨#[48]⟩ : ByteArray))), (T.sc (.string (⟨#[49]⟩ : ByteArray))), (T.sc (.string (⟨#[10]⟩ : ByteArray))), (T.sc (.string (⟨#[58]⟩ : ByteArray))), (T.sc (.string (⟨#[]⟩ : ByteArray))), (T.sc (.string (⟨#[97]⟩ : ByteArray))), (T.sc (.string (⟨#[61, 49, 10]⟩ : ByteArray)))] (u : Int) = some (strT y) := by
  match u, h with
  | 0, _ => exact ⟨_, by decide, rfl⟩
  | 1, _ => exact ⟨_, by decide, rfl⟩
  | 2, _ => exact ⟨_, by decide, rfl⟩
  | 3, _ => exact ⟨_, by decide, rfl⟩
  | 4, _ => exact ⟨_, by decide, rfl⟩
  | 5, _ => exact ⟨_, by decide, rfl⟩
  | 6, _ => exact ⟨_, by decide, rfl⟩
  | 7, _ => exact ⟨_, by decide, rfl⟩
  | 8, _ => exact ⟨_, by decide, rfl⟩
  | 9, _ => exact ⟨_, by decide, rfl⟩

theorem loop12 (n : Nat) (b : ByteArray) (k1 k2 : Int) (s d : ByteArray) (xs : List ByteArray) (hx : xs.length < 1000) : ∀ (m i f : Nat), xs.length - i = m → i ≤ xs.length → m < f →
    l_suturelaw7_DiffTells_12 n f (b, k1, k2, s, d, xs.map strT, xs.map strT, ((List.length (xs.map strT) : Nat) : Int), (i : Int)) = some (.inr (b, k1, k2, s, d)) := by
  intro m
  induction m with
  | zero =>
    intro i f h1 h2 hf
    obtain ⟨f, rfl⟩ : ∃ j, f = j + 1 := ⟨f - 1, by omega⟩
    show l_suturelaw7_DiffTells_12_B n (l_suturelaw7_DiffTells_12 n f) _ = _
    unfold l_suturelaw7_DiffTells_12_B
    have hd : decide ((i : Int) < ((List.length (xs.map strT) : Nat) : Int)) = false := decide_eq_false (by rw [List.length_map]; omega)
    simp only [hd, cond_false]
  | succ m ih =>
    intro i f h1 h2 hf
    obtain ⟨f, rfl⟩ : ∃ j, f = j + 1 := ⟨f - 1, by omega⟩
    have hi : i < xs.length := by omega
    have hb : l_suturelaw7_DiffTells_12 n (f + 1) (b, k1, k2, s, d, xs.map strT, xs.map strT, ((List.length (xs.map strT) : Nat) : Int), (i : Int)) = l_suturelaw7_DiffTells_12_B n (l_suturelaw7_DiffTells_12 n f) (b, k1, k2, s, d, xs.map strT, xs.map strT, ((List.length (xs.map strT) : Nat) : Int), (i : Int)) := rfl
    rw [hb]
    unfold l_suturelaw7_DiffTells_12_B
    have hd : decide ((i : Int) < ((List.length (xs.map strT) : Nat) : Int)) = true := decide_eq_true (by rw [List.length_map]; omega)
    simp only [hd, cond_true, idx_strs hi, Option.bind_some, beq_self_eq_true, Bool.not_true, cond_false]
    rw [w64 (by omega) (by omega)]
    exact ih (i + 1) f (by omega) (by omega) (by omega)

theorem tail_ok (n : Nat) (hn : 2000000 < n) {s d b : ByteArray} (hs : Sm s) (hd : d.size ≤ 1100000) (hb : b.size ≤ 1100000) :
    (Option.bind (m_diff_Apply n s d) fun r22 => Option.bind (m_sutureref1_Apply n s d) fun r23 => Option.bind (m_diff_Apply n s b) fun r24 => Option.bind (m_sutureref1_Apply n s b) fun r25 =>
      some (bif (bif (bif (ByteArray.toList r22.1 == ByteArray.toList r23.1) then ((r22.2 : Int) == r23.2) else false) then (ByteArray.toList r24.1 == ByteArray.toList r25.1) else false) then ((r24.2 : Int) == r25.2) else false)) = some true := by
  rw [dApply_ok n hs hd, Option.bind_some, rApply_ok hs hd hn, Option.bind_some, dApply_ok n hs hb, Option.bind_some, rApply_ok hs hb hn, Option.bind_some]
  simp only [beq_self_eq_true, cond_true]

theorem diffTells_law (z1 z2 : List Int) (tail : Bool) (a b : ByteArray) (any : Bool) (k1 k2 : Int) (hz1 : ∀ x ∈ z1, (Lit.int .i64 x).wf = true) (l1 : z1.length ≤ 17592186044416) (hz2 : ∀ x ∈ z2, (Lit.int .i64 x).wf = true) (l2 : z2.length ≤ 17592186044416) (ha : a.size ≤ 1048576) (hb : b.size ≤ 1048576) (h6 : (Lit.int .i64 k1).wf = true) (h7 : (Lit.int .i64 k2).wf = true) :
    ∃ n, m_suturelaw7_DiffTells n (ints .i64 z1) (ints .i64 z2) tail a b any k1 k2 = some true := by
  refine ⟨3000000, ?_⟩
  obtain ⟨x, hx, sx⟩ := lines_sm 3000000 (by decide) z1 tail
  obtain ⟨y, hy, sy⟩ := lines_sm 3000000 (by decide) z2 (!tail)
  unfold m_suturelaw7_DiffTells
  rw [hx, Option.bind_some, hy, Option.bind_some]
  have hn : 2000000 < 3000000 := by decide
  generalize 3000000 = n at *
  cases any with
  | true =>
    rw [cond_true, show (60 : Int) = ((60 : Nat) : Int) from rfl, few_ok, Option.bind_some, few_ok, Option.bind_some]
    have s1 := sm_few a 60 (by decide)
    have s2 := sm_few b 60 (by decide)
    generalize (if 60 < a.size then a.extract 0 60 else a) = s at *
    generalize (if 60 < b.size then b.extract 0 60 else b) = t at *
    rw [rDiff_ok (by omega) s1 s2, Option.bind_some, dLines_ok n (s := s) (by have := s1.size; omega), Option.bind_some, rLines_ok n (s := s) (by have := s1.size; omega) (by have := s1.size; omega), Option.bind_some, known_ok, Option.bind_some]
    simp only [Bool.not_true, Bool.not_false, cond_true, cond_false, of_ok n s1 s2, Option.bind_some, beq_self_eq_true, bne_self_eq_false]
    have hloop := loop12 n b k1 k2 s (tell s t) (linesB s) (by have := s1.count; omega) _ 0 n rfl (Nat.zero_le _) (by have := s1.count; omega)
    rw [show ((0 : Nat) : Int) = 0 from rfl] at hloop
    rw [hloop, Option.bind_some]
    clear hloop
    simp only [Sum.elim_inr]
    rw [must_ok (by decide)]
    have htz := tell_size s1 s2
    generalize tell s t = d at *
    cases hm : (bif (decide (((Int.tmod k2 3) : Int) > 0)) then (decide ((((ByteArray.size d : Nat) : Int) : Int) > 0)) else false) with
    | false =>
      rw [cond_false]
      exact tail_ok n hn s1 (by omega) (by omega)
    | true =>
      rw [cond_true]
      have hd0 : 0 < d.size := by
        cases h3 : decide (((Int.tmod k2 3) : Int) > 0) with
        | false => rw [h3] at hm; cases hm
        | true => rw [h3, cond_true] at hm; have := of_decide_eq_true hm; omega
      obtain ⟨r, hr1, hr2⟩ := pick_any n k1 (L := d.size) hd0 (by omega)
      obtain ⟨u, hu1, hu2⟩ := pick_any n k2 (L := 10) (by decide) (by decide)
      obtain ⟨v, hv1, hv2⟩ := pick_any n (IntKind.wrap .i64 (Int.tdiv k2 10)) (L := 2) (by decide) (by decide)
      rw [show ((10 : Nat) : Int) = 10 from rfl] at hu2
      rw [show ((2 : Nat) : Int) = 2 from rfl] at hv2
      obtain ⟨y, hy1, hy2⟩ := idx_ten hu1
      rw [hr2, Option.bind_some, must_ok (by simp only [Bool.and_eq_true, decide_eq_true_eq]; omega), hu2, Option.bind_some, hy2, Option.bind_some, show (strT y).str = y from rfl]
      have e1 : (ByteArray.extract d (Int.toNat 0) (Int.toNat (r : Int))).size ≤ 60000 := by rw [ByteArray.size_extract, Int.toNat_natCast]; omega
      rw [must_ok (max_ok (by omega)), must_ok (by decide), hv2, Option.bind_some, w64 (x := (r : Int) + (v : Int)) (by omega) (by omega)]
      have e2 : (ByteArray.extract d (Int.toNat ((r : Int) + (v : Int))) (Int.toNat ((ByteArray.size d : Nat) : Int))).size ≤ 60000 := by rw [ByteArray.size_extract, Int.toNat_natCast]; omega
      rw [must_ok (by simp only [Bool.and_eq_true, decide_eq_true_eq]; omega), must_ok (max_ok (by rw [ByteArray.size_append]; omega))]
      exact tail_ok n hn s1 (by simp only [ByteArray.size_append]; omega) (by omega)
  | false =>
    rw [cond_false]
    rw [rDiff_ok (by omega) sx sy, Option.bind_some, dLines_ok n (s := x) (by have := sx.size; omega), Option.bind_some, rLines_ok n (s := x) (by have := sx.size; omega) (by have := sx.size; omega), Option.bind_some, known_ok, Option.bind_some]
    simp only [Bool.not_true, Bool.not_false, cond_true, cond_false, of_ok n sx sy, Option.bind_some, beq_self_eq_true, bne_self_eq_false]
    have hloop := loop12 n b k1 k2 x (tell x y) (linesB x) (by have := sx.count; omega) _ 0 n rfl (Nat.zero_le _) (by have := sx.count; omega)
    rw [show ((0 : Nat) : Int) = 0 from rfl] at hloop
    rw [hloop, Option.bind_some]
    clear hloop
    simp only [Sum.elim_inr]
    rw [must_ok (by decide)]
    have htz := tell_size sx sy
    generalize tell x y = d at *
    cases hm : (bif (decide (((Int.tmod k2 3) : Int) > 0)) then (decide ((((ByteArray.size d : Nat) : Int) : Int) > 0)) else false) with
    | false =>
      rw [cond_false]
      exact tail_ok n hn sx (by omega) (by omega)
    | true =>
      rw [cond_true]
      have hd0 : 0 < d.size := by
        cases h3 : decide (((Int.tmod k2 3) : Int) > 0) with
        | false => rw [h3] at hm; cases hm
        | true => rw [h3, cond_true] at hm; have := of_decide_eq_true hm; omega
      obtain ⟨r, hr1, hr2⟩ := pick_any n k1 (L := d.size) hd0 (by omega)
      obtain ⟨u, hu1, hu2⟩ := pick_any n k2 (L := 10) (by decide) (by decide)
      obtain ⟨v, hv1, hv2⟩ := pick_any n (IntKind.wrap .i64 (Int.tdiv k2 10)) (L := 2) (by decide) (by decide)
      rw [show ((10 : Nat) : Int) = 10 from rfl] at hu2
      rw [show ((2 : Nat) : Int) = 2 from rfl] at hv2
      obtain ⟨g, hy1, hy2⟩ := idx_ten hu1
      rw [hr2, Option.bind_some, must_ok (by simp only [Bool.and_eq_true, decide_eq_true_eq]; omega), hu2, Option.bind_some, hy2, Option.bind_some, show (strT g).str = g from rfl]
      have e1 : (ByteArray.extract d (Int.toNat 0) (Int.toNat (r : Int))).size ≤ 60000 := by rw [ByteArray.size_extract, Int.toNat_natCast]; omega
      rw [must_ok (max_ok (by omega)), must_ok (by decide), hv2, Option.bind_some, w64 (x := (r : Int) + (v : Int)) (by omega) (by omega)]
      have e2 : (ByteArray.extract d (Int.toNat ((r : Int) + (v : Int))) (Int.toNat ((ByteArray.size d : Nat) : Int))).size ≤ 60000 := by rw [ByteArray.size_extract, Int.toNat_natCast]; omega
      rw [must_ok (by simp only [Bool.and_eq_true, decide_eq_true_eq]; omega), must_ok (max_ok (by rw [ByteArray.size_append]; omega))]
      exact tail_ok n hn sx (by simp only [ByteArray.size_append]; omega) (by omega)
end Go.Proofs.YtimkclpogbfciaaDoor.W

