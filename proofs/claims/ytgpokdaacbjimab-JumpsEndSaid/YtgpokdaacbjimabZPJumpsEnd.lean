/- Own plain texts over this seat's printed models. No conditions. -/
import Derived.Test.YtgpokdaacbjimabZAJumpsEnd
import Derived.Test.YtgpokdaacbjimabEngFl
import Derived.Test.YtgpokdaacbjimabEngWI
namespace Go.Proofs.Ytgpokdaacbjimab.W
open Go Go.Eng Go.Eng.Fl Go.RowKit
set_option linter.unusedVariables false
set_option linter.unusedSimpArgs false
theorem dec_val_n : ∀ (n : Nat) (w : List UInt8), w.length = n -> w ≠ [] -> (∀ c ∈ w, isD c = true) -> plainNum w = true -> Lib.decDigits (val w) = w := by
 intro n
 induction n with
 | zero => intro w hl h; exact absurd (List.length_eq_zero_iff.1 hl) h
 | succ n ih0 =>
  intro w hl h0 hd hp
  rcases List.eq_nil_or_concat w with h | ⟨u, c, h⟩
  ·exact absurd h h0
  subst h
  rw [List.concat_eq_append] at *
  have ih := ih0 u (by simpa using hl)
  have hc := isD_iff.1 (hd c (by simp))
  have hv : val (u ++ [c]) = 10 * val u + (c.toNat - 48) := by unfold val; rw [valF_append, valF_cons, valF_nil]
  cases u with
  | nil =>
   rw [hv]
   have : 10 * val [] + (c.toNat - 48) < 10 := by simp only [val, valF_nil]; omega
   rw [Lib.decDigits_one this]
   simp only [val, valF_nil, List.nil_append]
   rw [show 48 + (10 * 0 + (c.toNat - 48)) = 48 + (c.toNat - 48) by omega, ofNat_digit (hd c (by simp))]
  | cons a r =>
   have ha : a ≠ 48 := by
    have h1 : (a :: r ++ [c] == [48]) = false := by
     rw [beq_eq_false_iff_ne]; intro hh
     have := congrArg List.length hh
     simp at this
    simp only [List.cons_append] at h1
    simp only [plainNum, h1, Bool.false_or, List.cons_append, List.head?_cons, Option.any_some, bne_iff_ne, ne_eq] at hp
    exact hp
   have hda := isD_iff.1 (hd a (by simp))
   have hpu : plainNum (a :: r) = true := by simp [plainNum, ha]
   have ihu := ih (by simp) (fun x hx => hd x (by simp only [List.mem_append]; exact .inl hx)) hpu
   have hpos : 1 <= val (a :: r) := by
    have h1 := valF_le r (10 * 0 + (a.toNat - 48))
    have h2 : val (a :: r) = valF (10 * 0 + (a.toNat - 48)) r := by unfold val; rw [valF_cons]
    have h3 : a.toNat ≠ 48 := fun hh => ha (UInt8.toNat_inj.1 (by rw [hh]; rfl))
    omega
   rw [hv, Lib.decDigits, dif_neg (by omega)]
   rw [show (10 * val (a :: r) + (c.toNat - 48)) / 10 = val (a :: r) by omega, show (10 * val (a :: r) + (c.toNat - 48)) % 10 = c.toNat - 48 by omega, ihu, ofNat_digit (hd c (by simp))]
theorem dec_val (w : List UInt8) : w ≠ [] -> (∀ c ∈ w, isD c = true) -> plainNum w = true -> Lib.decDigits (val w) = w := dec_val_n _ w rfl
theorem val_dec (u : Nat) : val (Lib.decDigits u) = u /\ (∀ c ∈ Lib.decDigits u, isD c = true) /\ Lib.decDigits u ≠ [] /\ plainNum (Lib.decDigits u) = true := by
 induction u using Nat.strongRecOn with
 | ind u ih =>
  by_cases h : u < 10
  ·rw [Lib.decDigits_one h]
   refine ⟨?_, ?_, by simp, ?_⟩
   ·unfold val
    rw [valF_cons, valF_nil, digit_ofNat h]; omega
   ·intro c hc
    simp only [List.mem_singleton] at hc
    rw [hc, isD_iff, digit_ofNat h]; omega
   ·by_cases h0 : u = 0
    ·subst h0; rfl
    ·have : UInt8.ofNat (48 + u) ≠ 48 := by
      intro hh
      have := congrArg UInt8.toNat hh
      rw [digit_ofNat h] at this
      have e : (48 : UInt8).toNat = 48 := rfl
      omega
     simp only [plainNum, List.head?_cons, Option.any_some, Bool.or_eq_true, bne_iff_ne, ne_eq]; exact .inr this
  ·obtain ⟨h1, h2, h3, h4⟩ := ih (u / 10) (by omega)
   rw [Lib.decDigits, dif_neg h]
   refine ⟨?_, ?_, by simp, ?_⟩
   ·unfold val at h1 ⊢
    rw [valF_append, h1, valF_cons, valF_nil, digit_ofNat (by omega)]; omega
   ·intro c hc
    simp only [List.mem_append, List.mem_singleton] at hc
    rcases hc with hc | hc
    ·exact h2 c hc
    ·rw [hc, isD_iff, digit_ofNat (by omega)]; omega
   ·cases hw : Lib.decDigits (u / 10) with
    | nil => exact absurd hw h3
    | cons a r =>
     rw [hw] at h4
     have ha : a ≠ 48 := by
      intro ha
      subst ha
      simp only [plainNum, List.head?_cons, Option.any_some, bne_self_eq_false, Bool.or_false, beq_iff_eq] at h4
      have : u / 10 = 0 := by
       rw [hw, h4] at h1
       exact h1.symm
      omega
     simp [plainNum, ha]
def P (s : ByteArray) (q : Nat) : Nat × Nat := (F (pos ((L s).take q)).1, F (pos ((L s).take q)).2)
def encL (s : ByteArray) (t : Tok) : T := T.agg [(T.sc (.int .i64 t.kind)), (T.sc (.string (B t.text))), (T.sc (.int .i64 (t.num : Int))), (T.sc (.complex .f64 (P s t.pos).1 (P s t.pos).2))]
theorem sized_L (s : ByteArray) (l : List Tok) : sized 4 (l.map (encL s)) = true := by
 unfold sized
 rw [List.all_eq_true]
 intro y hy
 obtain ⟨t, _, rfl⟩ := List.mem_map.1 hy
 rfl
theorem ext_drop (s : ByteArray) (q : Nat) : s.extract q s.size = B ((L s).drop q) := by
 rw [ext_B, List.take_of_length_le (by rw [List.length_drop, size_L]; omega)]
def res3 (x : (List T) × (Nat × Nat) × Int × Int × ByteArray × Int × (Nat × Nat)) : List T × (Nat × Nat) × Int := (x.1, x.2.1, x.2.2.1)
def outL (s : ByteArray) : LR -> List T × (Nat × Nat) × Int
 | .ok l => ((l ++ [(⟨4, [], 0, (L s).length⟩ : Tok)]).map (encL s), (0, 0), 0)
 | .bad q => ([], P s q, 2)
section
variable {s : ByteArray} {n : Nat}
def btw (s : ByteArray) (acc : List Tok) (p : Nat) (k0 : Int) (t0 : ByteArray) (n0 : Int) (pl : Nat × Nat) : (((List T) × Int × ByteArray × Int × (Nat × Nat)) ⊕ ((ByteArray × (List T) × Int × Int × ByteArray × Int × (Nat × Nat)) ⊕ ((ByteArray × (List T) × Int × Int × ByteArray × Int × (Nat × Nat)) ⊕ ((ByteArray × (List T) × Int × Int × ByteArray × Int × (Nat × Nat)) ⊕ ((Int × ByteArray × Int × (Nat × Nat)) ⊕ ((ByteArray × (List T) × Int × Int × Int × ByteArray × Int × (Nat × Nat)) ⊕ ByteArray × (List T) × Int × Int × ByteArray × Int × (Nat × Nat))))))) :=
 Sum.inr (Sum.inr (Sum.inr (Sum.inr (Sum.inr (Sum.inr (s, acc.map (encL s), (p : Int), k0, t0, n0, pl))))))
end
theorem must_bind {A C : Type} (c φ : Bool) (r : Option A) (f : A -> Option C) : (must c φ r).bind f = must c φ (r.bind f) := by
 unfold must; cases (c && !φ) <;> rfl
theorem cond_bind {A C : Type} (c : Bool) (a b : Option A) (f : A -> Option C) : (bif c then a else b).bind f = bif c then a.bind f else b.bind f := by cases c <;> rfl
theorem map_res3 (x : Option ((List T) × (Nat × Nat) × Int × Int × ByteArray × Int × (Nat × Nat))) : x.map res3 = x.bind (fun p => some (p.1, p.2.1, p.2.2.1)) := by cases x <;> rfl
def toksL (s : ByteArray) : List T × (Nat × Nat) × Int :=
 if 6000 < (L s).length then ([], P s 6000, 2) else outL s (lexR (L s) 0 [])
theorem spot_loop6 (n : Nat) (s : ByteArray) (hs : (L s).length <= 281474976710656) (q : Nat) (hq : q <= (L s).length) : ∀ (m i : Nat), i <= q -> q < i + m →
  l_sutureref1_Spot_5 n m (s, (q : Int), (pos ((L s).take i)).1, (pos ((L s).take i)).2, (i : Int)) = some ((pos ((L s).take q)).1, (pos ((L s).take q)).2)
 | 0, i, h1, h2 => by omega
 | m + 1, i, h1, h2 => by
  rw [l_sutureref1_Spot_5]
  unfold l_sutureref1_Spot_5_B
  simp only
  by_cases h : i < q
  ·rw [decide_eq_true (show (i : Int) < (q : Int) by omega)]
   have hlt : i < (L s).length := by omega
   have bb := bounds_pos ((L s).take i)
   rw [List.length_take] at bb
   have ht : (L s).take (i + 1) = (L s).take i ++ [(L s)[i]] := by
    rw [List.take_add_one, List.getElem?_eq_getElem hlt]; rfl
   have hp : pos ((L s).take (i + 1)) = step (pos ((L s).take i)) ((L s)[i]) := by rw [ht, pos_append]; rfl
   have ih := spot_loop6 n s hs q hq m (i + 1) (by omega) (by omega)
   rw [hp] at ih
   simp only [cond_true, bidx_at hlt, Option.bind_some, beq_byte (L s)[i] 10 10 rfl]
   rw [wrap_up (show i <= 281474976710656 by omega)]
   by_cases h10 : (L s)[i] = 10
   ·rw [beq_iff_eq.2 h10]
    simp only [cond_true]
    rw [wrap_id (by omega) (by omega)]
    rw [show step (pos ((L s).take i)) ((L s)[i]) = ((pos ((L s).take i)).1 + 1, 1) by unfold step; rw [if_pos h10]] at ih
    exact ih
   ·rw [beq_eq_false_iff_ne.2 h10]
    simp only [cond_false]
    rw [wrap_id (show -9223372036854775808 <= (pos ((L s).take i)).2 + 1 by omega) (by omega)]
    rw [show step (pos ((L s).take i)) ((L s)[i]) = ((pos ((L s).take i)).1, (pos ((L s).take i)).2 + 1) by unfold step; rw [if_neg h10]] at ih
    exact ih
  ·rw [decide_eq_false (show ¬ (i : Int) < (q : Int) by omega)]
   have : i = q := by omega
   subst this
   rfl
theorem place_eq {n : Nat} {s : ByteArray} {q : Nat} (hs : (L s).length <= 281474976710656) (hq : q <= (L s).length) (hn : q < n) : m_sutureref1_Place n s (q : Int) = some (P s q) := by
 unfold m_sutureref1_Place m_sutureref1_Spot m_sutureref1_Within
 have h1 : (if ((q : Nat) : Int) < ((ByteArray.size s : Nat) : Int) then ((q : Nat) : Int) else ((ByteArray.size s : Nat) : Int)) = (q : Int) := by
  rw [size_L]
  by_cases h : q < (L s).length
  ·rw [if_pos (by omega)]
  ·rw [if_neg (by omega)]; omega
 have h2 : (if (0 : Int) < ((q : Nat) : Int) then ((q : Nat) : Int) else 0) = (q : Int) := by
  by_cases h : 0 < q
  ·rw [if_pos (by omega)]
  ·rw [if_neg (by omega)]; omega
 rw [h1, h2]
 have hl := spot_loop6 n s hs q hq n 0 (by omega) (by omega)
 rw [List.take_zero] at hl
 have e : pos [] = (1, 1) := rfl
 rw [e] at hl
 simp only [Option.bind_some]
 rw [show ((0 : Int)) = ((0 : Nat) : Int) from rfl, hl]
 rfl
theorem P_small {s : ByteArray} (hs : (L s).length <= 281474976710656) (q : Nat) : (pos ((L s).take q)).1.natAbs < 2 ^ 53 /\ (pos ((L s).take q)).2.natAbs < 2 ^ 53 := by
 have hb := bounds_pos ((L s).take q)
 rw [List.length_take] at hb
 have e : (2 : Nat) ^ 53 = 9007199254740992 := rfl
 omega
theorem eqF {a b : Int} (ha : a.natAbs < 2 ^ 53) (hb : b.natAbs < 2 ^ 53) : (Ieee.Format.order (FloatKind.format .f64) (F a) (F b) == some .eq) = decide (a = b) := by
 rw [order_F a b ha hb]
 by_cases h : a = b
 ·subst h; simp
 ·have : compare a b ≠ .eq := fun hh => h (Int.compare_eq_eq.1 hh)
  simp [h, this]
theorem P_refl {s : ByteArray} (hs : (L s).length <= 281474976710656) (q : Nat) : cplxEq .f64 (P s q).1 (P s q).2 (P s q).1 (P s q).2 = true := by
 obtain ⟨h1, h2⟩ := P_small hs q
 unfold cplxEq P
 simp only
 rw [eqF h1 h1, eqF h2 h2]
 simp
theorem zero_refl : cplxEq .f64 0 0 0 0 = true := by decide +kernel
def okT (t : T) : Bool := match t with
 | .sc (.string p) => Nat.ble p.size 11
 | _ => false
theorem part_ok {ps : List T} (h : ps.all okT = true) {k : Nat} (hk : k < ps.length) : ∃ y, idx1 true .str ps (k : Int) = some y /\ y.str.size <= 11 := by
 have hy := List.all_eq_true.1 h ps[k] (List.getElem_mem hk)
 unfold idx1
 simp only [cond_true, Int.toNat_natCast, List.getElem?_eq_getElem hk]
 rw [decide_eq_true (show (0 : Int) <= (k : Int) by omega)]
 simp only [cond_true]
 generalize ps[k] = y at hy ⊢
 unfold okT at hy
 split at hy
 ·rename_i p
  exact ⟨_, rfl, by simpa [T.str] using hy⟩
 ·cases hy
def int1 (x : Int) : T := .sc (.int .i64 x)
theorem idx_ints {v : List Int} {i : Nat} (h : i < v.length) : idx true [.int .i64] (ints .i64 v) (i : Int) = some (int1 v[i]) := by
 have h0 : decide ((0 : Int) <= (i : Int)) = true := by simp
 simp only [idx, cond_true, h0, Int.toNat_natCast, ints, List.getElem?_map, List.getElem?_eq_getElem h, Option.map_some]
 rfl
theorem maxI : (IntKind.i64.max : Int) = 9223372036854775807 := rfl
def kws : List ByteArray := [(⟨#[118, 97, 114]⟩ : ByteArray), (⟨#[119, 105, 100, 101]⟩ : ByteArray), (⟨#[97, 116, 111, 109, 105, 99]⟩ : ByteArray), (⟨#[108, 111, 99, 97, 108]⟩ : ByteArray), (⟨#[109, 117, 116, 101, 120]⟩ : ByteArray), (⟨#[99, 104, 97, 110]⟩ : ByteArray), (⟨#[103, 111]⟩ : ByteArray), (⟨#[108, 111, 99, 107]⟩ : ByteArray), (⟨#[117, 110, 108, 111, 99, 107]⟩ : ByteArray), (⟨#[115, 101, 110, 100]⟩ : ByteArray), (⟨#[114, 101, 99, 118]⟩ : ByteArray), (⟨#[112, 114, 105, 110, 116]⟩ : ByteArray), (⟨#[105, 102]⟩ : ByteArray), (⟨#[101, 108, 115, 101]⟩ : ByteArray), (⟨#[114, 101, 112, 101, 97, 116]⟩ : ByteArray), (⟨#[103, 111, 116, 111]⟩ : ByteArray), (⟨#[108, 97, 98, 101, 108]⟩ : ByteArray)]
def str1 (s : ByteArray) : T := .sc (.string s)
def kw (a : ByteArray) : Bool := kws.any fun k => L a == L k
theorem idx_str {v : List ByteArray} {i : Nat} (h : i < v.length) : idx true [.str] (v.map str1) (i : Int) = some (str1 v[i]) := by
 have h0 : decide ((0 : Int) <= (i : Int)) = true := by simp
 simp only [idx, cond_true, h0, Int.toNat_natCast, List.getElem?_map, List.getElem?_eq_getElem h, Option.map_some]
 rfl
theorem idx1_str {v : List ByteArray} {i : Nat} (h : i < v.length) : idx1 true .str (v.map str1) (i : Int) = some (str1 v[i]) := by
 have h0 : decide ((0 : Int) <= (i : Int)) = true := by simp
 simp only [idx1, cond_true, h0, Int.toNat_natCast, List.getElem?_map, List.getElem?_eq_getElem h, Option.map_some]
 rfl
theorem kwR_loop (n : Nat) (a : ByteArray) : ∀ (m i : Nat), i <= 17 -> 17 - i < m →
  l_sutureref1_Keyword_2 n m (a, (⟨#[118, 97, 114]⟩ : ByteArray), (⟨#[119, 105, 100, 101]⟩ : ByteArray), (⟨#[97, 116, 111, 109, 105, 99]⟩ : ByteArray), (⟨#[108, 111, 99, 97, 108]⟩ : ByteArray), (⟨#[109, 117, 116, 101, 120]⟩ : ByteArray), (⟨#[99, 104, 97, 110]⟩ : ByteArray), (⟨#[103, 111]⟩ : ByteArray), (⟨#[108, 111, 99, 107]⟩ : ByteArray), (⟨#[117, 110, 108, 111, 99, 107]⟩ : ByteArray), (⟨#[115, 101, 110, 100]⟩ : ByteArray), (⟨#[114, 101, 99, 118]⟩ : ByteArray), (⟨#[112, 114, 105, 110, 116]⟩ : ByteArray), (⟨#[105, 102]⟩ : ByteArray), (⟨#[101, 108, 115, 101]⟩ : ByteArray), (⟨#[114, 101, 112, 101, 97, 116]⟩ : ByteArray), (⟨#[103, 111, 116, 111]⟩ : ByteArray), (⟨#[108, 97, 98, 101, 108]⟩ : ByteArray), (i : Int)) =
   if (kws.drop i).any (fun k => L a == L k) = true then some (.inl true) else some (.inr ())
 | 0, i, _, hm => by omega
 | m + 1, i, hi, hm => by
  rw [l_sutureref1_Keyword_2]
  unfold l_sutureref1_Keyword_2_B
  simp only
  have hlen : kws.length = 17 := rfl
  by_cases hlt : i < 17
  ·rw [decide_eq_true (show (i : Int) < 17 by omega)]
   have hx := idx1_str (v := kws) (i := i) hlt
   have hx' : idx1 true .str [(T.sc (.string (⟨#[118, 97, 114]⟩ : ByteArray))), (T.sc (.string (⟨#[119, 105, 100, 101]⟩ : ByteArray))), (T.sc (.string (⟨#[97, 116, 111, 109, 105, 99]⟩ : ByteArray))), (T.sc (.string (⟨#[108, 111, 99, 97, 108]⟩ : ByteArray))), (T.sc (.string (⟨#[109, 117, 116, 101, 120]⟩ : ByteArray))), (T.sc (.string (⟨#[99, 104, 97, 110]⟩ : ByteArray))), (T.sc (.string (⟨#[103, 111]⟩ : ByteArray))), (T.sc (.string (⟨#[108, 111, 99, 107]⟩ : ByteArray))), (T.sc (.string (⟨#[117, 110, 108, 111, 99, 107]⟩ : ByteArray))), (T.sc (.string (⟨#[115, 101, 110, 100]⟩ : ByteArray))), (T.sc (.string (⟨#[114, 101, 99, 118]⟩ : ByteArray))), (T.sc (.string (⟨#[112, 114, 105, 110, 116]⟩ : ByteArray))), (T.sc (.string (⟨#[105, 102]⟩ : ByteArray))), (T.sc (.string (⟨#[101, 108, 115, 101]⟩ : ByteArray))), (T.sc (.string (⟨#[114, 101, 112, 101, 97, 116]⟩ : ByteArray))), (T.sc (.string (⟨#[103, 111, 116, 111]⟩ : ByteArray))), (T.sc (.string (⟨#[108, 97, 98, 101, 108]⟩ : ByteArray)))] (i : Int) = some (str1 kws[i]) := hx
   simp only [cond_true, hx', Option.bind_some, bytes_eq]
   rw [List.drop_eq_getElem_cons (show i < kws.length from hlt), List.any_cons]
   have e : (str1 kws[i]).str = kws[i] := rfl
   rw [e]
   cases hq : (L a == L kws[i]) with
   | true => simp only [cond_true, Bool.true_or, if_true]
   | false =>
    simp only [cond_false, Bool.false_or]
    rw [wrap_up (show i <= 281474976710656 by omega)]
    exact kwR_loop n a m (i + 1) (by omega) (by omega)
  ·rw [decide_eq_false (show ¬ (i : Int) < 17 by omega), List.drop_eq_nil_of_le (by show 17 <= i; omega)]
   rfl
theorem keywordR (n : Nat) (hn : 100 < n) (a : ByteArray) : m_sutureref1_Keyword n a = some (kw a) := by
 have h := kwR_loop n a n 0 (by omega) (by omega)
 rw [List.drop_zero] at h
 unfold m_sutureref1_Keyword
 rw [show ((0 : Int)) = ((0 : Nat) : Int) from rfl, h]
 unfold kw
 cases hk : kws.any (fun k => L a == L k) with
 | true => rfl
 | false => rfl
def wordB (l : List UInt8) : Bool := match l with
 | [] => false
 | c :: _ => isL c && l.all isLD && decide (l.length <= 12)
theorem takeWhile_all {f : UInt8 -> Bool} : ∀ {l : List UInt8}, (l.takeWhile f).length = l.length ↔ l.all f = true
 | [] => by simp
 | c :: l => by
  rw [List.all_cons]
  cases h : f c with
  | true => rw [List.takeWhile_cons_of_pos h]; simp only [List.length_cons, Bool.true_and]; rw [<- takeWhile_all (l := l)]; omega
  | false => rw [List.takeWhile_cons_of_neg (by rw [h]; simp)]; simp
theorem lexR_pos : ∀ (k : Nat) (r : List UInt8) (p : Nat) (acc l : List Tok), r.length <= k -> (∀ t ∈ acc, t.pos <= p + r.length) -> lexR r p acc = .ok l -> ∀ t ∈ l, t.pos <= p + r.length := by
 intro k
 induction k with
 | zero =>
  intro r p acc l hr ha h
  have : r = [] := List.length_eq_zero_iff.1 (by omega)
  subst this
  rw [lexR_nil] at h; cases h; exact ha
 | succ k ih =>
  intro r p acc l hr ha h
  cases r with
  | nil => rw [lexR_nil] at h; cases h; exact ha
  | cons c r =>
   simp only [List.length_cons] at hr ha ⊢
   cases hb : blank c with
   | true =>
    rw [lexR_blank hb] at h
    intro t ht
    have := ih r _ acc l (by omega) (fun t ht => by have := ha t ht; omega) h t ht
    omega
   | false =>
    by_cases h35 : c = 35
    ·subst h35
     rw [lexR_note] at h
     have h1 := congrArg List.length (List.takeWhile_append_dropWhile (p := (· != 10)) (l := r))
     rw [List.length_append] at h1
     intro t ht
     have := ih _ _ acc l (by omega) (fun t ht => by have := ha t ht; omega) h t ht
     omega
    ·cases ht : tokAt (c :: r) p with
     | none => rw [lexR_bad hb h35 ht] at h; cases h
     | some t =>
      rw [lexR_tok hb h35 ht] at h
      obtain ⟨g1, g2, g3, g4⟩ := tokAt_pos ht
      simp only [List.length_cons] at g3
      intro u hu
      have := ih _ _ (acc ++ [t]) l (by rw [List.length_drop]; omega) (fun t' ht' => by
       rw [List.length_drop]
       simp only [List.mem_append, List.mem_singleton] at ht'
       rcases ht' with h' | rfl
       ·have := ha t' h'; omega
       ·omega) h u hu
      rw [List.length_drop] at this
      omega
inductive E where
 | num (n : Nat)
 | name (w : List UInt8)
 | neg (e : E)
 | bin (k : Int) (a b : E)
 deriving DecidableEq
inductive RE where
 | ok (e : E) (r : List Tok)
 | bad (r : List Tok)
abbrev Bk := Int × List UInt8 × Nat
def Tok.bare (t : Tok) : Bk := (t.kind, t.text, t.num)
def opAt (t : Bk) (l : Nat) : Option Int :=
 if t.1 = 3 then (match l with
  | 0 => if t.2.1 = [60] then some 9 else if t.2.1 = [61, 61] then some 10 else none
  | 1 => if t.2.1 = [43] then some 4 else if t.2.1 = [45] then some 5 else none
  | 2 => if t.2.1 = [42] then some 6 else if t.2.1 = [47] then some 7 else if t.2.1 = [37] then some 8 else none
  | _ => none) else none
def isSign (c : UInt8) (t : Bk) : Bool := t.1 == 3 && t.2.1 == [c]
def isNm (kw : List UInt8 -> Bool) (t : Bk) : Bool := t.1 == 1 && !kw t.2.1
section
variable (kw : List UInt8 -> Bool)
def mu (ts : List Tok) (x : Nat) : Nat := 16 * ts.length + x
mutual
def lv (l d : Nat) (ts : List Tok) : RE :=
 if h : l < 3 then (match lv (l + 1) d ts with
  | .bad r => .bad r
  | .ok e r => if r.length <= ts.length then lp l d e r else .bad r)
 else fac d ts
termination_by 16 * ts.length + (8 - 2 * l) + 2
decreasing_by all_goals omega
def lp (l d : Nat) (e : E) (ts : List Tok) : RE :=
 match ts with
 | [] => .ok e []
 | t :: r =>
  match opAt t.bare l with
  | none => .ok e (t :: r)
  | some k => (match lv (l + 1) d r with
   | .bad r => .bad r
   | .ok b r' => if l = 0 then .ok (.bin k e b) r' else if r'.length <= r.length then lp l d (.bin k e b) r' else .bad r')
termination_by 16 * ts.length
decreasing_by all_goals (simp only [List.length_cons]; omega)
def fac (d : Nat) (ts : List Tok) : RE :=
 match ts with
 | [] => .bad []
 | t :: r =>
  if t.kind = 2 then .ok (.num t.num) r
  else if isNm kw t.bare then .ok (.name t.text) r
  else if isSign 45 t.bare && decide (d < 8) then (match fac (d + 1) r with
   | .bad r => .bad r
   | .ok e r' => .ok (.neg e) r')
  else if isSign 40 t.bare && decide (d < 8) then (match lv 0 (d + 1) r with
   | .bad r => .bad r
   | .ok e [] => .bad []
   | .ok e (t' :: r') => if isSign 41 t'.bare then .ok e r' else .bad (t' :: r'))
  else .bad (t :: r)
termination_by 16 * ts.length + 1
decreasing_by all_goals (simp only [List.length_cons]; omega)
end
theorem lv_lt {l d : Nat} {ts : List Tok} (h : l < 3) : lv kw l d ts = (match lv kw (l + 1) d ts with
  | .bad r => .bad r
  | .ok e r => if r.length <= ts.length then lp kw l d e r else .bad r) := by rw [lv, dif_pos h]
theorem lv_fac {d : Nat} {ts : List Tok} : lv kw 3 d ts = fac kw d ts := by rw [lv, dif_neg (by omega)]
theorem le_all : ∀ (m : Nat),
  (∀ l d ts, l <= 3 -> 16 * ts.length + (10 - 2 * l) <= m -> (∀ e r, lv kw l d ts = .ok e r -> r.length < ts.length) /\ (∀ r, lv kw l d ts = .bad r -> r.length <= ts.length)) ∧
  (∀ l d e ts, l < 3 -> 16 * ts.length <= m -> (∀ e' r, lp kw l d e ts = .ok e' r -> r.length <= ts.length) /\ (∀ r, lp kw l d e ts = .bad r -> r.length <= ts.length)) ∧
  (∀ d ts, 16 * ts.length + 1 <= m -> (∀ e r, fac kw d ts = .ok e r -> r.length < ts.length) /\ (∀ r, fac kw d ts = .bad r -> r.length <= ts.length)) := by
 intro m
 induction m using Nat.strongRecOn with
 | _ m ih =>
 refine ⟨?_, ?_, ?_⟩
 ·intro l d ts hl hm
  by_cases h3 : l < 3
  ·rw [lv_lt kw h3]
   obtain ⟨i1, i2⟩ := (ih (16 * ts.length + (10 - 2 * (l + 1))) (by omega)).1 (l + 1) d ts (by omega) (Nat.le_refl _)
   cases hc : lv kw (l + 1) d ts with
   | bad r => exact ⟨fun _ _ h => by simp at h, fun r' h => by simp only [RE.bad.injEq] at h; subst h; exact i2 _ hc⟩
   | ok e r =>
    have hr := i1 _ _ hc
    simp only
    rw [if_pos (by omega)]
    obtain ⟨j1, j2⟩ := (ih (16 * r.length) (by omega)).2.1 l d e r h3 (Nat.le_refl _)
    exact ⟨fun e' r' h => by have := j1 _ _ h; omega, fun r' h => by have := j2 _ h; omega⟩
  ·obtain rfl : l = 3 := by omega
   rw [lv_fac]
   exact (ih (16 * ts.length + 1) (by omega)).2.2 d ts (Nat.le_refl _)
 ·intro l d e ts hl hm
  cases ts with
  | nil => rw [lp]; exact ⟨fun _ _ h => by simp only [RE.ok.injEq] at h; obtain ⟨_, rfl⟩ := h; exact Nat.le_refl _, fun _ h => by simp at h⟩
  | cons t r =>
   rw [lp]
   simp only [List.length_cons] at hm
   cases ho : opAt t.bare l with
   | none => exact ⟨fun _ _ h => by simp only [RE.ok.injEq] at h; obtain ⟨_, rfl⟩ := h; exact Nat.le_refl _, fun _ h => by simp at h⟩
   | some k =>
    simp only
    obtain ⟨i1, i2⟩ := (ih (16 * r.length + (10 - 2 * (l + 1))) (by omega)).1 (l + 1) d r (by omega) (Nat.le_refl _)
    cases hc : lv kw (l + 1) d r with
    | bad r' => exact ⟨fun _ _ h => by simp at h, fun r'' h => by simp only [RE.bad.injEq] at h; subst h; have := i2 _ hc; simp only [List.length_cons]; omega⟩
    | ok b r' =>
     have hr := i1 _ _ hc
     simp only
     split
     ·exact ⟨fun _ _ h => by simp only [RE.ok.injEq] at h; obtain ⟨_, rfl⟩ := h; simp only [List.length_cons]; omega, fun _ h => by simp at h⟩
     ·rw [if_pos (by omega)]
      obtain ⟨j1, j2⟩ := (ih (16 * r'.length) (by omega)).2.1 l d (.bin k e b) r' hl (Nat.le_refl _)
      exact ⟨fun e' r'' h => by have := j1 _ _ h; simp only [List.length_cons]; omega, fun r'' h => by have := j2 _ h; simp only [List.length_cons]; omega⟩
 ·intro d ts hm
  cases ts with
  | nil => rw [fac]; exact ⟨fun _ _ h => by simp at h, fun _ h => by simp only [RE.bad.injEq] at h; subst h; exact Nat.le_refl _⟩
  | cons t r =>
   simp only [List.length_cons] at hm
   rw [fac]
   split
   ·exact ⟨fun _ _ h => by simp only [RE.ok.injEq] at h; obtain ⟨_, rfl⟩ := h; simp, fun _ h => by simp at h⟩
   split
   ·exact ⟨fun _ _ h => by simp only [RE.ok.injEq] at h; obtain ⟨_, rfl⟩ := h; simp, fun _ h => by simp at h⟩
   split
   ·obtain ⟨i1, i2⟩ := (ih (16 * r.length + 1) (by omega)).2.2 (d + 1) r (Nat.le_refl _)
    cases hc : fac kw (d + 1) r with
    | bad r' => exact ⟨fun _ _ h => by simp at h, fun r'' h => by simp only [RE.bad.injEq] at h; subst h; have := i2 _ hc; simp only [List.length_cons]; omega⟩
    | ok e r' => exact ⟨fun _ _ h => by simp only [RE.ok.injEq] at h; obtain ⟨_, rfl⟩ := h; have := i1 _ _ hc; simp only [List.length_cons]; omega, fun _ h => by simp at h⟩
   split
   ·obtain ⟨i1, i2⟩ := (ih (16 * r.length + 10) (by omega)).1 0 (d + 1) r (by omega) (by omega)
    cases hc : lv kw 0 (d + 1) r with
    | bad r' => exact ⟨fun _ _ h => by simp at h, fun r'' h => by simp only [RE.bad.injEq] at h; subst h; have := i2 _ hc; simp only [List.length_cons]; omega⟩
    | ok e r' =>
     have hr := i1 _ _ hc
     cases r' with
     | nil => exact ⟨fun _ _ h => by simp at h, fun _ h => by simp only [RE.bad.injEq] at h; subst h; simp⟩
     | cons t' r' =>
      simp only [List.length_cons] at hr
      simp only
      split
      ·exact ⟨fun _ _ h => by simp only [RE.ok.injEq] at h; obtain ⟨_, rfl⟩ := h; simp only [List.length_cons]; omega, fun _ h => by simp at h⟩
      ·exact ⟨fun _ _ h => by simp at h, fun _ h => by simp only [RE.bad.injEq] at h; subst h; simp only [List.length_cons]; omega⟩
   ·exact ⟨fun _ _ h => by simp at h, fun _ h => by simp only [RE.bad.injEq] at h; subst h; exact Nat.le_refl _⟩
theorem lv_shorter {l d : Nat} {ts : List Tok} (hl : l <= 3) {e : E} {r : List Tok} (h : lv kw l d ts = .ok e r) : r.length < ts.length := ((le_all kw _).1 l d ts hl (Nat.le_refl _)).1 e r h
theorem lv_bad_le {l d : Nat} {ts : List Tok} (hl : l <= 3) {r : List Tok} (h : lv kw l d ts = .bad r) : r.length <= ts.length := ((le_all kw _).1 l d ts hl (Nat.le_refl _)).2 r h
theorem fac_shorter {d : Nat} {ts : List Tok} {e : E} {r : List Tok} (h : fac kw d ts = .ok e r) : r.length < ts.length := ((le_all kw _).2.2 d ts (Nat.le_refl _)).1 e r h
theorem lv_step {l d : Nat} {ts : List Tok} (h : l < 3) {e : E} {r : List Tok} (h1 : lv kw (l + 1) d ts = .ok e r) : lv kw l d ts = lp kw l d e r := by
 rw [lv_lt kw h, h1]
 simp only
 rw [if_pos (Nat.le_of_lt (lv_shorter kw (by omega) h1))]
theorem lv_step_bad {l d : Nat} {ts : List Tok} (h : l < 3) {r : List Tok} (h1 : lv kw (l + 1) d ts = .bad r) : lv kw l d ts = .bad r := by
 rw [lv_lt kw h, h1]
theorem lp_stop {l d : Nat} {e : E} {t : Tok} {r : List Tok} (h : opAt t.bare l = none) : lp kw l d e (t :: r) = .ok e (t :: r) := by rw [lp, h]
theorem lp_nil {l d : Nat} {e : E} : lp kw l d e [] = .ok e [] := by rw [lp]
theorem lp_step {l d : Nat} {e b : E} {t : Tok} {r r' : List Tok} {k : Int} (h0 : l ≠ 0) (hl : l < 3) (h : opAt t.bare l = some k) (h1 : lv kw (l + 1) d r = .ok b r') : lp kw l d e (t :: r) = lp kw l d (.bin k e b) r' := by
 rw [lp, h]
 simp only [h1]
 rw [if_neg h0, if_pos (Nat.le_of_lt (lv_shorter kw (by omega) h1))]
theorem lp_step0 {d : Nat} {e b : E} {t : Tok} {r r' : List Tok} {k : Int} (h : opAt t.bare 0 = some k) (h1 : lv kw 1 d r = .ok b r') : lp kw 0 d e (t :: r) = .ok (.bin k e b) r' := by
 rw [lp, h]
 simp only [Nat.zero_add, h1]
 rw [if_pos trivial]
theorem lp_step_bad {l d : Nat} {e : E} {t : Tok} {r r' : List Tok} {k : Int} (h : opAt t.bare l = some k) (h1 : lv kw (l + 1) d r = .bad r') : lp kw l d e (t :: r) = .bad r' := by
 rw [lp, h]
 simp only [h1]
inductive G : Nat -> Nat -> E -> List Bk -> Prop
 | num (d n : Nat) (w : List UInt8) : G 3 d (.num n) [(2, w, n)]
 | name (d : Nat) (w : List UInt8) (x : Nat) : kw w = false -> G 3 d (.name w) [(1, w, x)]
 | neg (d : Nat) (e : E) (us : List Bk) (x : Nat) : d < 8 -> G 3 (d + 1) e us -> G 3 d (.neg e) ((3, [45], x) :: us)
 | paren (d : Nat) (e : E) (us : List Bk) (x y : Nat) : d < 8 -> G 0 (d + 1) e us -> G 3 d e ((3, [40], x) :: us ++ [(3, [41], y)])
 | up (l d : Nat) (e : E) (us : List Bk) : l < 3 -> G (l + 1) d e us -> G l d e us
 | bin (l d : Nat) (a b : E) (us vs : List Bk) (t : Bk) (k : Int) : (l = 1 \/ l = 2) -> G l d a us -> opAt t l = some k -> G (l + 1) d b vs -> G l d (.bin k a b) (us ++ t :: vs)
 | cmp (d : Nat) (a b : E) (us vs : List Bk) (t : Bk) (k : Int) : G 1 d a us -> opAt t 0 = some k -> G 1 d b vs -> G 0 d (.bin k a b) (us ++ t :: vs)
theorem map_cons' {ts : List Tok} {b : Bk} {us : List Bk} (h : ts.map Tok.bare = b :: us) : ∃ t r, ts = t :: r /\ t.bare = b /\ r.map Tok.bare = us := by
 cases ts with
 | nil => cases h
 | cons t r => simp only [List.map_cons, List.cons.injEq] at h; exact ⟨t, r, rfl, h.1, h.2⟩
theorem map_nil' {ts : List Tok} (h : ts.map Tok.bare = []) : ts = [] := by simpa using h
theorem map_one' {ts : List Tok} {b : Bk} (h : ts.map Tok.bare = [b]) : ∃ t, ts = [t] /\ t.bare = b := by
 have hq := map_cons' h
 clear h
 obtain ⟨t, r, rfl, h1, h2⟩ := hq
 rw [map_nil' h2]
 exact ⟨t, rfl, h1⟩
theorem map_split {us vs : List Bk} : ∀ {ts : List Tok}, ts.map Tok.bare = us ++ vs -> ∃ t1 t2, ts = t1 ++ t2 /\ t1.map Tok.bare = us /\ t2.map Tok.bare = vs := by
 intro ts h
 obtain ⟨t1, t2, h1, h2, h3⟩ := List.map_eq_append_iff.1 h
 exact ⟨t1, t2, h1, h2, h3⟩
def stop (l : Nat) (rest : List Tok) : Prop := match rest with
 | [] => True
 | t :: _ => ∀ j, l <= j -> j < 3 -> opAt t.bare j = none
theorem stop.mono {l l' : Nat} {rest : List Tok} (h : stop l rest) (hl : l <= l') : stop l' rest := by
 cases rest with
 | nil => trivial
 | cons t r => exact fun j h1 h2 => h j (by omega) h2
theorem stop_op {l : Nat} {t : Tok} {r : List Tok} {k : Int} (h : opAt t.bare l = some k) : stop (l + 1) (t :: r) := by
 intro j h1 h2
 unfold opAt at *
 by_cases h3 : t.bare.1 = 3
 ·rw [if_pos h3] at *
  match l, j, h1, h2 with
  | 0, 1, _, _ => simp only at h ⊢; split at h
                  ·rename_i hs; rw [hs]; rfl
                  ·split at h
                   ·rename_i hs; rw [hs]; rfl
                   ·cases h
  | 0, 2, _, _ => simp only at h ⊢; split at h
                  ·rename_i hs; rw [hs]; rfl
                  ·split at h
                   ·rename_i hs; rw [hs]; rfl
                   ·cases h
  | 1, 2, _, _ => simp only at h ⊢; split at h
                  ·rename_i hs; rw [hs]; rfl
                  ·split at h
                   ·rename_i hs; rw [hs]; rfl
                   ·cases h
  | 0, 0, h1, _ => omega
  | 1, 0, h1, _ => omega
  | 1, 1, h1, _ => omega
  | 2, 0, h1, _ => omega
  | 2, 1, h1, _ => omega
  | 2, 2, h1, _ => omega
  | l + 3, _, _, _ => simp at h
  | _, j + 3, _, h2 => omega
 ·rw [if_neg h3] at h; cases h
theorem lp_end {l d : Nat} {e : E} {rest : List Tok} (hl : l < 3) (h : stop l rest) : lp kw l d e rest = .ok e rest := by
 cases rest with
 | nil => exact lp_nil kw
 | cons t r => exact lp_stop kw (h l (Nat.le_refl _) hl)
theorem read_G {l d : Nat} {e : E} {us : List Bk} (h : G kw l d e us) : ∀ (ts rest : List Tok), ts.map Tok.bare = us -> stop (l + 1) rest →
  (l = 3 -> fac kw d (ts ++ rest) = .ok e rest) /\ (l = 1 \/ l = 2 -> lv kw l d (ts ++ rest) = lp kw l d e rest) /\ (l = 0 -> stop 0 rest -> lv kw 0 d (ts ++ rest) = .ok e rest) := by
 induction h with
 | num d n w =>
  intro ts rest ht hs
  have hq := map_one' ht
  clear ht
  obtain ⟨t, rfl, ht⟩ := hq
  refine ⟨fun _ => ?_, fun h => by omega, fun h => by omega⟩
  simp only [Tok.bare, Prod.mk.injEq] at ht
  rw [List.singleton_append, fac, if_pos ht.1, ht.2.2]
 | name d w x hk =>
  intro ts rest ht hs
  have hq := map_one' ht
  clear ht
  obtain ⟨t, rfl, ht⟩ := hq
  refine ⟨fun _ => ?_, fun h => by omega, fun h => by omega⟩
  have hb := ht
  simp only [Tok.bare, Prod.mk.injEq] at ht
  rw [List.singleton_append, fac, if_neg (by rw [ht.1]; decide), if_pos (by rw [hb]; simp [isNm, hk]), ht.2.1]
 | neg d e us x hd hg ih =>
  intro ts rest ht hs
  have hq := map_cons' ht
  clear ht
  obtain ⟨t, ts, rfl, ht, ht2⟩ := hq
  refine ⟨fun _ => ?_, fun h => by omega, fun h => by omega⟩
  have hb := ht
  simp only [Tok.bare, Prod.mk.injEq] at ht
  rw [List.cons_append, fac, if_neg (by rw [ht.1]; decide), if_neg (by rw [hb]; simp [isNm]), if_pos (by rw [hb]; simp [isSign, hd]), (ih ts rest ht2 hs).1 rfl]
 | paren d e us x y hd hg ih =>
  intro ts rest ht hs
  obtain ⟨t, ts, t', rfl, ht, ht2, ht3⟩ : ∃ t ts' t', ts = t :: (ts' ++ [t']) /\ t.bare = (3, [40], x) /\ ts'.map Tok.bare = us /\ t'.bare = (3, [41], y) := by
   rw [List.cons_append] at ht
   have hq := map_cons' ht
   clear ht
   obtain ⟨t, ts, rfl, h1, ht⟩ := hq
   have hq := map_split ht
   clear ht
   obtain ⟨t1, t2, rfl, h2, h3⟩ := hq
   have hq := map_one' h3
   clear h3
   obtain ⟨t', rfl, h4⟩ := hq
   exact ⟨t, t1, t', rfl, h1, h2, h4⟩
  refine ⟨fun _ => ?_, fun h => by omega, fun h => by omega⟩
  have hb := ht
  simp only [Tok.bare, Prod.mk.injEq] at ht
  have hst : stop 0 (t' :: rest) := by
   intro j _ h2
   rw [ht3]
   unfold opAt
   match j, h2 with
   | 0, _ => rfl
   | 1, _ => rfl
   | 2, _ => rfl
   | j + 3, h2 => omega
  rw [List.cons_append, fac, if_neg (by rw [ht.1]; decide), if_neg (by rw [hb]; simp [isNm]), if_neg (by rw [hb]; simp [isSign]), if_pos (by rw [hb]; simp [isSign, hd]), List.append_assoc, List.singleton_append,
   (ih ts (t' :: rest) ht2 (hst.mono (Nat.zero_le _))).2.2 rfl hst]
  simp only
  rw [if_pos (by rw [ht3]; simp [isSign])]
 | up l d e us hl hg ih =>
  intro ts rest ht hs
  obtain ⟨i1, i2, i3⟩ := ih ts rest ht (hs.mono (by omega))
  have key : lv kw (l + 1) d (ts ++ rest) = .ok e rest := by
   by_cases h2 : l = 2
   ·subst h2; rw [lv_fac]; exact i1 rfl
   ·rw [i2 (by omega)]; exact lp_end kw (by omega) hs
  refine ⟨fun h => by omega, fun h => lv_step kw hl key, fun h hs0 => ?_⟩
  subst h
  rw [lv_step kw hl key]
  exact lp_end kw (by omega) hs0
 | bin l d a b us vs t k hl hga ho hgb iha ihb =>
  intro ts rest ht hs
  have hq := map_split ht
  clear ht
  obtain ⟨t1, t2, rfl, ht1, ht2⟩ := hq
  have hq := map_cons' ht2
  clear ht2
  obtain ⟨x, t2, rfl, hx, ht2⟩ := hq
  subst hx
  refine ⟨fun h => by omega, fun _ => ?_, fun h => by omega⟩
  have h1 := (iha t1 (x :: t2 ++ rest) ht1 (stop_op ho)).2.1 hl
  have h2 : lv kw (l + 1) d (t2 ++ rest) = .ok b rest := by
   obtain ⟨j1, j2, _⟩ := ihb t2 rest ht2 (hs.mono (by omega))
   by_cases h2 : l = 2
   ·subst h2; rw [lv_fac]; exact j1 rfl
   ·rw [j2 (by omega)]; exact lp_end kw (by omega) hs
  rw [List.append_assoc, h1, List.cons_append, lp_step kw (by omega) (by omega) ho h2]
 | cmp d a b us vs t k hga ho hgb iha ihb =>
  intro ts rest ht hs
  have hq := map_split ht
  clear ht
  obtain ⟨t1, t2, rfl, ht1, ht2⟩ := hq
  have hq := map_cons' ht2
  clear ht2
  obtain ⟨x, t2, rfl, hx, ht2⟩ := hq
  subst hx
  refine ⟨fun h => by omega, fun h => by omega, fun _ hs0 => ?_⟩
  have h1 : lv kw 1 d (t1 ++ (x :: t2 ++ rest)) = .ok a (x :: t2 ++ rest) := by
   rw [(iha t1 (x :: t2 ++ rest) ht1 ((stop_op ho).mono (by omega))).2.1 (.inl rfl)]
   exact lp_end kw (by omega) (stop_op ho)
  have h2 : lv kw 1 d (t2 ++ rest) = .ok b rest := by
   rw [(ihb t2 rest ht2 (hs.mono (by omega))).2.1 (.inl rfl)]
   exact lp_end kw (by omega) hs
  rw [List.append_assoc, lv_step kw (by omega) h1, List.cons_append, lp_step0 kw ho h2]
theorem read_G0 {d : Nat} {e : E} {us : List Bk} (h : G kw 0 d e us) {ts rest : List Tok} (ht : ts.map Tok.bare = us) (hs : stop 0 rest) : lv kw 0 d (ts ++ rest) = .ok e rest :=
 (read_G kw h ts rest ht (hs.mono (by omega))).2.2 rfl hs
theorem G.down {l l' d : Nat} {e : E} {us : List Bk} (h : G kw l d e us) : l' <= l -> l <= 3 -> G kw l' d e us := by
 intro h1 h3
 obtain ⟨k, rfl⟩ := Nat.exists_eq_add_of_le h1
 clear h1
 induction k with
 | zero => exact h
 | succ k ih => exact ih (.up (l' + k) d e us (by omega) h) (by omega)
theorem isSign_bare {c : UInt8} {t : Tok} (h : isSign c t.bare = true) : t.bare = (3, [c], t.num) := by
 simp only [isSign, Tok.bare, Bool.and_eq_true, beq_iff_eq] at h
 simp only [Tok.bare, h.1, h.2]
theorem spelt_all : ∀ (m : Nat),
  (∀ l d ts, l <= 3 -> 16 * ts.length + (10 - 2 * l) <= m -> ∀ e r, lv kw l d ts = .ok e r -> ∃ t1, ts = t1 ++ r /\ G kw l d e (t1.map Tok.bare)) ∧
  (∀ l d e0 ts, l < 3 -> 16 * ts.length <= m -> ∀ e r us, lp kw l d e0 ts = .ok e r -> (if l = 0 then G kw 1 d e0 us else G kw l d e0 us) -> ∃ t1, ts = t1 ++ r /\ G kw l d e (us ++ t1.map Tok.bare)) ∧
  (∀ d ts, 16 * ts.length + 1 <= m -> ∀ e r, fac kw d ts = .ok e r -> ∃ t1, ts = t1 ++ r /\ G kw 3 d e (t1.map Tok.bare)) := by
 intro m
 induction m using Nat.strongRecOn with
 | _ m ih =>
 refine ⟨?_, ?_, ?_⟩
 ·intro l d ts hl hm e r h
  by_cases h3 : l < 3
  ·have i1 := (ih (16 * ts.length + (10 - 2 * (l + 1))) (by omega)).1 (l + 1) d ts (by omega) (Nat.le_refl _)
   cases hc : lv kw (l + 1) d ts with
   | bad r' => rw [lv_step_bad kw h3 hc] at h; cases h
   | ok a r' =>
    rw [lv_step kw h3 hc] at h
    obtain ⟨t1, rfl, hg⟩ := i1 a r' hc
    have hlen := lv_shorter kw (by omega) hc
    have i2 := (ih (16 * r'.length) (by omega)).2.1 l d a r' h3 (Nat.le_refl _) e r (t1.map Tok.bare) h (by
     split
     ·rename_i h0; subst h0; exact hg
     ·exact .up l d a _ h3 hg)
    obtain ⟨t2, rfl, hg2⟩ := i2
    exact ⟨t1 ++ t2, by rw [List.append_assoc], by rw [List.map_append]; exact hg2⟩
  ·obtain rfl : l = 3 := by omega
   rw [lv_fac] at h
   exact (ih (16 * ts.length + 1) (by omega)).2.2 d ts (Nat.le_refl _) e r h
 ·intro l d e0 ts hl hm e r us h hg
  have stay : G kw l d e0 us := by
   split at hg
   ·rename_i h0; subst h0; exact .up 0 d e0 us (by omega) hg
   ·exact hg
  cases ts with
  | nil =>
   rw [lp_nil] at h
   simp only [RE.ok.injEq] at h
   obtain ⟨rfl, rfl⟩ := h
   exact ⟨[], rfl, by simpa using stay⟩
  | cons t ts =>
   simp only [List.length_cons] at hm
   cases ho : opAt t.bare l with
   | none =>
    rw [lp_stop kw ho] at h
    simp only [RE.ok.injEq] at h
    obtain ⟨rfl, rfl⟩ := h
    exact ⟨[], rfl, by simpa using stay⟩
   | some k =>
    have i1 := (ih (16 * ts.length + (10 - 2 * (l + 1))) (by omega)).1 (l + 1) d ts (by omega) (Nat.le_refl _)
    cases hc : lv kw (l + 1) d ts with
    | bad r' => rw [lp_step_bad kw ho hc] at h; cases h
    | ok b r' =>
     obtain ⟨t1, rfl, hgb⟩ := i1 b r' hc
     have hlen := lv_shorter kw (by omega) hc
     by_cases h0 : l = 0
     ·subst h0
      rw [lp_step0 kw ho hc] at h
      simp only [RE.ok.injEq] at h
      obtain ⟨rfl, rfl⟩ := h
      exact ⟨t :: t1, rfl, .cmp d e0 b us _ t.bare k (by simpa using hg) ho hgb⟩
     ·rw [lp_step kw h0 hl ho hc] at h
      rw [if_neg h0] at hg
      have hnew : G kw l d (.bin k e0 b) (us ++ t.bare :: t1.map Tok.bare) := .bin l d e0 b us _ t.bare k (by omega) hg ho hgb
      obtain ⟨t2, rfl, hg2⟩ := (ih (16 * r'.length) (by omega)).2.1 l d (.bin k e0 b) r' hl (Nat.le_refl _) e r _ h (by rw [if_neg h0]; exact hnew)
      exact ⟨t :: t1 ++ t2, by simp, by simpa [List.append_assoc] using hg2⟩
 ·intro d ts hm e r h
  cases ts with
  | nil => rw [fac] at h; cases h
  | cons t ts =>
   simp only [List.length_cons] at hm
   rw [fac] at h
   split at h
   ·rename_i hk
    simp only [RE.ok.injEq] at h
    obtain ⟨rfl, rfl⟩ := h
    exact ⟨[t], rfl, by simpa [Tok.bare, hk] using G.num d t.num t.text⟩
   split at h
   ·rename_i hk
    simp only [RE.ok.injEq] at h
    obtain ⟨rfl, rfl⟩ := h
    simp only [isNm, Tok.bare, Bool.and_eq_true, beq_iff_eq, Bool.not_eq_true'] at hk
    exact ⟨[t], rfl, by simpa [Tok.bare, hk.1] using G.name d t.text t.num hk.2⟩
   split at h
   ·rename_i hk
    simp only [Bool.and_eq_true, decide_eq_true_eq] at hk
    cases hc : fac kw (d + 1) ts with
    | bad r' => rw [hc] at h; cases h
    | ok a r' =>
     rw [hc] at h
     simp only [RE.ok.injEq] at h
     obtain ⟨rfl, rfl⟩ := h
     obtain ⟨t1, rfl, hg⟩ := (ih (16 * ts.length + 1) (by omega)).2.2 (d + 1) ts (Nat.le_refl _) a r' hc
     exact ⟨t :: t1, rfl, by rw [List.map_cons, isSign_bare hk.1]; exact .neg d a _ _ hk.2 hg⟩
   split at h
   ·rename_i hk
    simp only [Bool.and_eq_true, decide_eq_true_eq] at hk
    cases hc : lv kw 0 (d + 1) ts with
    | bad r' => rw [hc] at h; cases h
    | ok a r' =>
     rw [hc] at h
     cases r' with
     | nil => cases h
     | cons t' r' =>
      simp only at h
      split at h
      ·rename_i hr
       simp only [RE.ok.injEq] at h
       obtain ⟨rfl, rfl⟩ := h
       obtain ⟨t1, rfl, hg⟩ := (ih (16 * ts.length + 10) (by omega)).1 0 (d + 1) ts (by omega) (by omega) a _ hc
       refine ⟨t :: t1 ++ [t'], by simp, ?_⟩
       rw [List.map_append, List.map_cons, isSign_bare hk.1, List.map_singleton, isSign_bare hr]
       exact .paren d a _ _ _ hk.2 hg
      ·cases h
   ·cases h
theorem spelt {l d : Nat} {ts : List Tok} (hl : l <= 3) {e : E} {r : List Tok} (h : lv kw l d ts = .ok e r) : ∃ t1, ts = t1 ++ r /\ G kw l d e (t1.map Tok.bare) :=
 (spelt_all kw _).1 l d ts hl (Nat.le_refl _) e r h
def lvl (k : Int) : Nat := if k = 9 \/ k = 10 then 0 else if k = 4 \/ k = 5 then 1 else 2
def sgn (k : Int) : List UInt8 := if k = 9 then [60] else if k = 10 then [61, 61] else if k = 4 then [43] else if k = 5 then [45] else if k = 6 then [42] else if k = 7 then [47] else [37]
def isOp (k : Int) : Bool := decide (4 <= k) && decide (k <= 10)
def left (k : Int) : Nat := if lvl k = 0 then 1 else lvl k
theorem opAt_lvl {t : Bk} {l : Nat} {k : Int} (h : opAt t l = some k) : lvl k = l /\ isOp k = true /\ t.1 = 3 /\ t.2.1 = sgn k := by
 unfold opAt at h
 split at h
 ·rename_i h3
  split at h
  ·split at h
   ·rename_i hs; cases h; exact ⟨rfl, rfl, h3, hs⟩
   ·split at h
    ·rename_i hs; cases h; exact ⟨rfl, rfl, h3, hs⟩
    ·cases h
  ·split at h
   ·rename_i hs; cases h; exact ⟨rfl, rfl, h3, hs⟩
   ·split at h
    ·rename_i hs; cases h; exact ⟨rfl, rfl, h3, hs⟩
    ·cases h
  ·split at h
   ·rename_i hs; cases h; exact ⟨rfl, rfl, h3, hs⟩
   ·split at h
    ·rename_i hs; cases h; exact ⟨rfl, rfl, h3, hs⟩
    ·split at h
     ·rename_i hs; cases h; exact ⟨rfl, rfl, h3, hs⟩
     ·cases h
  ·cases h
 ·cases h
theorem op_cases {k : Int} (h : isOp k = true) : k = 4 \/ k = 5 \/ k = 6 \/ k = 7 \/ k = 8 \/ k = 9 \/ k = 10 := by
 simp only [isOp, Bool.and_eq_true, decide_eq_true_eq] at h
 omega
theorem opAt_sgn {k : Int} (h : isOp k = true) (x : Nat) : opAt (3, sgn k, x) (lvl k) = some k := by
 rcases op_cases h with rfl | rfl | rfl | rfl | rfl | rfl | rfl <;> rfl
theorem lvl_le (k : Int) : lvl k <= 2 := by unfold lvl; split; omega; split <;> omega
theorem left_le (k : Int) : 1 <= left k /\ left k <= 2 /\ (lvl k = 0 -> left k = 1) /\ (lvl k ≠ 0 -> left k = lvl k) := by
 have := lvl_le k
 unfold left
 split <;> refine ⟨?_, ?_, ?_, ?_⟩ <;> omega
def pr : E -> Nat -> List Bk
 | .num n, _ => [(2, Lib.decDigits n, n)]
 | .name w, _ => [(1, w, 0)]
 | .neg e, _ => (3, [45], 0) :: pr e 3
 | .bin k a b, l =>
  if lvl k < l then (3, [40], 0) :: (pr a (left k) ++ (3, sgn k, 0) :: pr b (lvl k + 1)) ++ [(3, [41], 0)]
  else pr a (left k) ++ (3, sgn k, 0) :: pr b (lvl k + 1)
def fitsE : E -> Nat -> Nat -> Prop
 | .num _, _, _ => True
 | .name w, _, _ => kw w = false
 | .neg e, _, d => d < 8 /\ fitsE e 3 (d + 1)
 | .bin k a b, l, d => isOp k = true /\ (if lvl k < l then d < 8 /\ fitsE a (left k) (d + 1) /\ fitsE b (lvl k + 1) (d + 1) else fitsE a (left k) d /\ fitsE b (lvl k + 1) d)
theorem fitsE.less : ∀ {e : E} {l d : Nat}, fitsE kw e l (d + 1) -> fitsE kw e l d
 | .num _, _, _, _ => trivial
 | .name w, _, _, h => h
 | .neg e, _, d, h => ⟨by have := h.1; omega, fitsE.less h.2⟩
 | .bin k a b, l, d, h => by
  obtain ⟨h1, h2⟩ := h
  refine ⟨h1, ?_⟩
  split at h2
  ·rename_i hk; rw [if_pos hk]; exact ⟨by omega, fitsE.less h2.2.1, fitsE.less h2.2.2⟩
  ·rename_i hk; rw [if_neg hk]; exact ⟨fitsE.less h2.1, fitsE.less h2.2⟩
theorem fits_G : ∀ {e : E} {l d : Nat}, l <= 3 -> fitsE kw e l d -> G kw l d e (pr e l)
 | .num n, l, d, hl, _ => (G.num d n _).down kw hl (by omega)
 | .name w, l, d, hl, h => (G.name d w 0 h).down kw hl (by omega)
 | .neg e, l, d, hl, h => (G.neg d e _ 0 h.1 (fits_G (by omega) h.2)).down kw hl (by omega)
 | .bin k a b, l, d, hl, h => by
  obtain ⟨h1, h2⟩ := h
  have hL := left_le k
  have hl2 := lvl_le k
  have inner : ∀ d, fitsE kw a (left k) d -> fitsE kw b (lvl k + 1) d -> G kw (lvl k) d (.bin k a b) (pr a (left k) ++ (3, sgn k, 0) :: pr b (lvl k + 1)) := by
   intro d ha hb
   have ga := fits_G (l := left k) (by omega) ha
   have gb := fits_G (l := lvl k + 1) (by omega) hb
   have ho := opAt_sgn h1 0
   by_cases h0 : lvl k = 0
   ·rw [h0] at ho gb ⊢
    rw [hL.2.2.1 h0] at ga ⊢
    exact .cmp d a b _ _ _ k ga ho gb
   ·rw [hL.2.2.2 h0] at ga ⊢
    exact .bin (lvl k) d a b _ _ _ k (by omega) ga ho gb
  split at h2
  ·rename_i hk
   rw [pr, if_pos hk]
   exact (G.paren d _ _ 0 0 h2.1 ((inner (d + 1) h2.2.1 h2.2.2).down kw (Nat.zero_le _) (by omega))).down kw hl (by omega)
  ·rename_i hk
   rw [pr, if_neg hk]
   exact (inner d h2.1 h2.2).down kw (by omega) (by omega)
theorem G_fits {l d : Nat} {e : E} {us : List Bk} (h : G kw l d e us) : fitsE kw e l d := by
 induction h with
 | num => trivial
 | name d w x hk => exact hk
 | neg d e us x hd _ ih => exact ⟨hd, ih⟩
 | paren d e us x y hd _ ih =>
  cases e with
  | num => trivial
  | name => exact ih
  | neg e => exact ⟨hd, fitsE.less kw ih.2⟩
  | bin k a b =>
   have hl := lvl_le k
   obtain ⟨h1, h2⟩ := ih
   rw [if_neg (by omega)] at h2
   exact ⟨h1, by rw [if_pos (by omega)]; exact ⟨hd, h2⟩⟩
 | up l d e us hl _ ih =>
  cases e with
  | num => trivial
  | name => exact ih
  | neg e => exact ih
  | bin k a b =>
   obtain ⟨h1, h2⟩ := ih
   refine ⟨h1, ?_⟩
   by_cases hk : lvl k < l
   ·rw [if_pos (by omega)] at h2; rw [if_pos hk]; exact h2
   ·rw [if_neg hk]
    by_cases hk2 : lvl k < l + 1
    ·rw [if_pos hk2] at h2; exact ⟨fitsE.less kw h2.2.1, fitsE.less kw h2.2.2⟩
    ·rw [if_neg hk2] at h2; exact h2
 | bin l d a b us vs t k hl _ ho _ iha ihb =>
  obtain ⟨h1, h2, h3, h4⟩ := opAt_lvl ho
  have hL := left_le k
  refine ⟨h2, ?_⟩
  rw [if_neg (by omega), hL.2.2.2 (by omega), h1]
  exact ⟨iha, ihb⟩
 | cmp d a b us vs t k _ ho _ iha ihb =>
  obtain ⟨h1, h2, h3, h4⟩ := opAt_lvl ho
  have hL := left_le k
  refine ⟨h2, ?_⟩
  rw [if_neg (by omega), hL.2.2.1 h1, h1]
  exact ⟨iha, ihb⟩
theorem read_pr {l d : Nat} {e : E} {us : List Bk} (h : G kw l d e us) (hl : l <= 3) : G kw l d e (pr e l) := fits_G kw hl (G_fits kw h)
def wid (us : List Bk) : Nat := (us.map fun t => t.2.1.length).sum
def spaces : E -> Nat
 | .num _ => 0
 | .name _ => 0
 | .neg e => spaces e
 | .bin _ a b => spaces a + 2 + spaces b
theorem wid_append (us vs : List Bk) : wid (us ++ vs) = wid us + wid vs := by simp [wid]
theorem wid_cons (t : Bk) (vs : List Bk) : wid (t :: vs) = t.2.1.length + wid vs := by simp [wid]
def numsOk (us : List Bk) : Prop := ∀ t ∈ us, t.1 = 2 -> t.2.1 = Lib.decDigits t.2.2
theorem pr_short {l d : Nat} {e : E} {us : List Bk} (h : G kw l d e us) (hn : numsOk us) : wid (pr e l) + spaces e + 1 <= wid us + us.length := by
 induction h with
 | num d n w =>
  have := hn (2, w, n) (by simp) rfl
  simp only at this
  subst this
  simp [pr, spaces, wid]
 | name d w x => simp [pr, spaces, wid]
 | neg d e us x hd _ ih =>
  have := ih (fun t ht => hn t (by simp [ht]))
  simp only [pr, spaces, wid_cons, List.length_cons, List.length_nil]
  omega
 | paren d e us x y hd _ ih =>
  have i := ih (fun t ht => hn t (by simp [ht]))
  simp only [List.cons_append, wid_cons, wid_append, List.length_cons, List.length_append, List.length_nil]
  cases e with
  | num n => simp only [pr] at i ⊢; omega
  | name w => simp only [pr] at i ⊢; omega
  | neg e => simp only [pr] at i ⊢; omega
  | bin k a b =>
   have hl := lvl_le k
   rw [pr, if_neg (by omega)] at i
   rw [pr, if_pos (by omega)]
   simp only [List.cons_append, wid_cons, wid_append, List.length_cons, List.length_nil] at i ⊢
   simp only [wid, List.map_nil, List.sum_nil] at i ⊢
   omega
 | up l d e us hl _ ih =>
  have i := ih hn
  cases e with
  | num n => exact i
  | name w => exact i
  | neg e => exact i
  | bin k a b =>
   by_cases hk : lvl k < l
   ·rw [pr, if_pos (by omega)] at i; rw [pr, if_pos hk]; exact i
   ·rw [pr, if_neg hk]
    by_cases hk2 : lvl k < l + 1
    ·rw [pr, if_pos hk2] at i
     simp only [List.cons_append, wid_cons, wid_append, List.length_cons, List.length_nil] at i ⊢
     omega
    ·rw [pr, if_neg hk2] at i; exact i
 | bin l d a b us vs t k hl _ ho _ iha ihb =>
  obtain ⟨h1, h2, h3, h4⟩ := opAt_lvl ho
  have hL := left_le k
  have ia := iha (fun t ht => hn t (by simp [ht]))
  have ib := ihb (fun t ht => hn t (by simp [ht]))
  rw [pr, if_neg (by omega), hL.2.2.2 (by omega), h1]
  simp only [wid_append, wid_cons, List.length_append, List.length_cons, spaces, h4]
  omega
 | cmp d a b us vs t k _ ho _ iha ihb =>
  obtain ⟨h1, h2, h3, h4⟩ := opAt_lvl ho
  have hL := left_le k
  have ia := iha (fun t ht => hn t (by simp [ht]))
  have ib := ihb (fun t ht => hn t (by simp [ht]))
  rw [pr, if_neg (by omega), hL.2.2.1 h1, h1, Nat.zero_add]
  simp only [wid_append, wid_cons, List.length_append, List.length_cons, spaces, h4]
  omega
theorem G.less {l d : Nat} {e : E} {us : List Bk} (h : G kw l d e us) : ∀ d', d' <= d -> G kw l d' e us := by
 induction h with
 | num d n w => exact fun d' _ => .num d' n w
 | name d w x hk => exact fun d' _ => .name d' w x hk
 | neg d e us x hd _ ih => exact fun d' h => .neg d' e us x (by omega) (ih (d' + 1) (by omega))
 | paren d e us x y hd _ ih => exact fun d' h => .paren d' e us x y (by omega) (ih (d' + 1) (by omega))
 | up l d e us hl _ ih => exact fun d' h => .up l d' e us hl (ih d' h)
 | bin l d a b us vs t k hl _ ho _ iha ihb => exact fun d' h => .bin l d' a b us vs t k hl (iha d' h) ho (ihb d' h)
 | cmp d a b us vs t k _ ho _ iha ihb => exact fun d' h => .cmp d' a b us vs t k (iha d' h) ho (ihb d' h)
end
def okR (rest : List UInt8) : Prop := ∀ c, rest.head? = some c -> isLD c = false /\ c ≠ 61
def Lx (u : List UInt8) (us : List Bk) : Prop := ∀ (rest : List UInt8) (p : Nat) (acc : List Tok), okR rest →
 ∃ ts, ts.map Tok.bare = us /\ (∀ t ∈ ts, p <= t.pos /\ t.pos < p + u.length) /\ lexR (u ++ rest) p acc = lexR rest (p + u.length) (acc ++ ts)
def Lx0 (u : List UInt8) (us : List Bk) : Prop := ∀ (rest : List UInt8) (p : Nat) (acc : List Tok),
 ∃ ts, ts.map Tok.bare = us /\ (∀ t ∈ ts, p <= t.pos /\ t.pos < p + u.length) /\ lexR (u ++ rest) p acc = lexR rest (p + u.length) (acc ++ ts)
theorem Lx0.to {u : List UInt8} {us : List Bk} (h : Lx0 u us) : Lx u us := fun rest p acc _ => h rest p acc
theorem Lx0.nil : Lx0 [] [] := fun rest p acc => ⟨[], rfl, by simp, by simp⟩
theorem Lx0.append {u v : List UInt8} {us vs : List Bk} (h : Lx0 u us) (k : Lx v vs) : Lx (u ++ v) (us ++ vs) := by
 intro rest p acc hr
 obtain ⟨t1, h1, h2, h3⟩ := h (v ++ rest) p acc
 obtain ⟨t2, k1, k2, k3⟩ := k rest (p + u.length) (acc ++ t1) hr
 refine ⟨t1 ++ t2, by rw [List.map_append, h1, k1], ?_, ?_⟩
 ·intro t ht
  rw [List.length_append]
  rcases List.mem_append.1 ht with ht | ht
  ·have := h2 t ht; omega
  ·have := k2 t ht; omega
 ·rw [List.append_assoc, h3, k3, List.length_append, Nat.add_assoc, List.append_assoc]
theorem Lx0.append0 {u v : List UInt8} {us vs : List Bk} (h : Lx0 u us) (k : Lx0 v vs) : Lx0 (u ++ v) (us ++ vs) := by
 intro rest p acc
 obtain ⟨t1, h1, h2, h3⟩ := h (v ++ rest) p acc
 obtain ⟨t2, k1, k2, k3⟩ := k rest (p + u.length) (acc ++ t1)
 refine ⟨t1 ++ t2, by rw [List.map_append, h1, k1], ?_, ?_⟩
 ·intro t ht
  rw [List.length_append]
  rcases List.mem_append.1 ht with ht | ht
  ·have := h2 t ht; omega
  ·have := k2 t ht; omega
 ·rw [List.append_assoc, h3, k3, List.length_append, Nat.add_assoc, List.append_assoc]
theorem okR_cons {c : UInt8} {v rest : List UInt8} (h : isLD c = false /\ c ≠ 61) : okR (c :: v ++ rest) := fun x hx => by simp only [List.cons_append, List.head?_cons, Option.some.injEq] at hx; subst hx; exact h
theorem okR_nil : okR [] := fun x hx => by simp at hx
theorem Lx.append0 {u v : List UInt8} {c : UInt8} {us vs : List Bk} (h : Lx u us) (hc : isLD c = false /\ c ≠ 61) (k : Lx0 (c :: v) vs) : Lx0 (u ++ c :: v) (us ++ vs) := by
 intro rest p acc
 obtain ⟨t1, h1, h2, h3⟩ := h (c :: v ++ rest) p acc (okR_cons hc)
 obtain ⟨t2, k1, k2, k3⟩ := k rest (p + u.length) (acc ++ t1)
 refine ⟨t1 ++ t2, by rw [List.map_append, h1, k1], ?_, ?_⟩
 ·intro t ht
  rw [List.length_append]
  rcases List.mem_append.1 ht with ht | ht
  ·have := h2 t ht; omega
  ·have := k2 t ht; omega
 ·rw [List.append_assoc, h3, k3, List.length_append, Nat.add_assoc, List.append_assoc]
theorem Lx.append {u v : List UInt8} {c : UInt8} {us vs : List Bk} (h : Lx u us) (hc : isLD c = false /\ c ≠ 61) (k : Lx (c :: v) vs) : Lx (u ++ c :: v) (us ++ vs) := by
 intro rest p acc hr
 obtain ⟨t1, h1, h2, h3⟩ := h (c :: v ++ rest) p acc (okR_cons hc)
 obtain ⟨t2, k1, k2, k3⟩ := k rest (p + u.length) (acc ++ t1) hr
 refine ⟨t1 ++ t2, by rw [List.map_append, h1, k1], ?_, ?_⟩
 ·intro t ht
  rw [List.length_append]
  rcases List.mem_append.1 ht with ht | ht
  ·have := h2 t ht; omega
  ·have := k2 t ht; omega
 ·rw [List.append_assoc, h3, k3, List.length_append, Nat.add_assoc, List.append_assoc]
theorem Lx.all {u : List UInt8} {us : List Bk} (h : Lx u us) : ∃ ts, ts.map Tok.bare = us /\ lexR u 0 [] = .ok ts := by
 obtain ⟨ts, h1, _, h3⟩ := h [] 0 [] okR_nil
 rw [List.append_nil, lexR_nil, List.nil_append] at h3
 exact ⟨ts, h1, h3⟩
theorem Lx0.blank {c : UInt8} (h : blank c = true) : Lx0 [c] [] := by
 intro rest p acc
 exact ⟨[], rfl, by simp, by rw [List.singleton_append, lexR_blank h]; simp⟩
theorem takeWhile_app {f : UInt8 -> Bool} : ∀ {w rest : List UInt8}, w.all f = true -> (∀ c, rest.head? = some c -> f c = false) -> (w ++ rest).takeWhile f = w
 | [], [], _, _ => rfl
 | [], c :: rest, _, h => by rw [List.nil_append, List.takeWhile_cons_of_neg (by rw [h c rfl]; simp)]
 | c :: w, rest, hw, h => by
  rw [List.all_cons, Bool.and_eq_true] at hw
  rw [List.cons_append, List.takeWhile_cons_of_pos hw.1, takeWhile_app hw.2 h]
theorem Lx.one {w rest : List UInt8} {c : UInt8} {t : Bk} {p : Nat} {acc : List Tok} (hb : W.blank c = false) (h35 : c ≠ 35) (ht : tokAt (c :: w ++ rest) p = some ⟨t.1, c :: w, t.2.2, p⟩) (h2 : t.2.1 = c :: w) :
  ∃ ts, ts.map Tok.bare = [t] /\ (∀ x ∈ ts, p <= x.pos /\ x.pos < p + (c :: w).length) /\ lexR (c :: w ++ rest) p acc = lexR rest (p + (c :: w).length) (acc ++ ts) := by
 refine ⟨[⟨t.1, c :: w, t.2.2, p⟩], by simp [Tok.bare, <- h2], ?_, ?_⟩
 ·intro x hx
  simp only [List.mem_singleton] at hx
  subst hx
  simp
 ·rw [List.cons_append] at ht ⊢
  rw [lexR_tok hb h35 ht]
  simp
theorem isL_facts {c : UInt8} (h : isL c = true) : W.blank c = false /\ c ≠ 35 /\ isD c = false := by
 simp only [isL, Bool.and_eq_true, decide_eq_true_eq] at h
 have e : ∀ k : UInt8, k.toNat < 97 -> c ≠ k := fun k hk hc => by subst hc; omega
 refine ⟨?_, e 35 (by decide), ?_⟩
 ·simp only [W.blank, Bool.or_eq_false_iff, beq_eq_false_iff_ne]
  exact ⟨⟨e 32 (by decide), e 9 (by decide)⟩, e 10 (by decide)⟩
 ·simp only [isD, Bool.and_eq_false_iff, decide_eq_false_iff_not]; omega
theorem isD_facts {c : UInt8} (h : isD c = true) : W.blank c = false /\ c ≠ 35 /\ isL c = false := by
 simp only [isD, Bool.and_eq_true, decide_eq_true_eq] at h
 have e : ∀ k : UInt8, k.toNat < 48 -> c ≠ k := fun k hk hc => by subst hc; omega
 refine ⟨?_, e 35 (by decide), ?_⟩
 ·simp only [W.blank, Bool.or_eq_false_iff, beq_eq_false_iff_ne]
  exact ⟨⟨e 32 (by decide), e 9 (by decide)⟩, e 10 (by decide)⟩
 ·simp only [isL, Bool.and_eq_false_iff, decide_eq_false_iff_not]; omega
theorem Lx.word {w : List UInt8} (h : wordB w = true) : Lx w [(1, w, 0)] := by
 intro rest p acc hr
 cases w with
 | nil => simp [wordB] at h
 | cons c w =>
  simp only [wordB, Bool.and_eq_true, decide_eq_true_eq] at h
  obtain ⟨⟨h1, h2⟩, h3⟩ := h
  have hf := isL_facts h1
  refine Lx.one hf.1 hf.2.1 ?_ rfl
  have ht := takeWhile_app (rest := rest) h2 (fun x hx => (hr x hx).1)
  rw [List.cons_append] at ht ⊢
  unfold tokAt
  simp only
  rw [if_pos h1, ht, if_pos h3]
theorem Lx.num {n : Nat} (h : n < 9223372036854775808) : Lx (Lib.decDigits n) [(2, Lib.decDigits n, n)] := by
 intro rest p acc hr
 obtain ⟨h1, h2, h3, h4⟩ := val_dec n
 cases hd : Lib.decDigits n with
 | nil => exact absurd hd h3
 | cons c w =>
  rw [hd] at h1 h2 h4
  have hc : isD c = true := h2 c (by simp)
  have hf := isD_facts hc
  refine Lx.one hf.1 hf.2.1 ?_ rfl
  have ht := takeWhile_app (f := isD) (w := c :: w) (rest := rest) (List.all_eq_true.2 h2) (fun x hx => by
   have := (hr x hx).1
   unfold isLD at this
   simp only [Bool.or_eq_false_iff] at this
   exact this.2)
  rw [List.cons_append] at ht ⊢
  unfold tokAt
  simp only
  rw [if_neg (by rw [hf.2.2]; simp), if_pos hc, ht, if_pos (by simp [numOk, h4, h1, h]), h1]
theorem sign_facts : ∀ c ∈ signs, W.blank c = false /\ c ≠ 35 /\ isL c = false /\ isD c = false := by decide
theorem Lx0.sign {c : UInt8} (h : signs.contains c = true) (h61 : c ≠ 61) : Lx0 [c] [(3, [c], 0)] := by
 intro rest p acc
 obtain ⟨f1, f2, f3, f4⟩ := sign_facts c (by simpa using h)
 refine Lx.one f1 f2 ?_ rfl
 rw [List.cons_append]
 unfold tokAt
 simp only
 rw [if_neg (by rw [f3]; simp), if_neg (by rw [f4]; simp), if_pos h, if_neg (by simp [h61])]
theorem Lx.eq : Lx [61] [(3, [61], 0)] := by
 intro rest p acc hr
 refine Lx.one (by decide) (by decide) ?_ rfl
 rw [List.cons_append]
 unfold tokAt
 simp only
 rw [if_neg (by decide), if_neg (by decide), if_pos (by decide), if_neg (fun h => by have := (hr 61 (by simpa using h.2)).2; exact this rfl)]
theorem Lx0.eqeq : Lx0 [61, 61] [(3, [61, 61], 0)] := by
 intro rest p acc
 refine Lx.one (by decide) (by decide) ?_ rfl
 rw [List.cons_append]
 unfold tokAt
 simp only
 rw [if_neg (by decide), if_neg (by decide), if_pos (by decide), if_pos (by simp)]
def bs : E -> Nat -> List UInt8
 | .num n, _ => Lib.decDigits n
 | .name w, _ => w
 | .neg e, _ => 45 :: bs e 3
 | .bin k a b, l =>
  if lvl k < l then 40 :: (bs a (left k) ++ 32 :: (sgn k ++ 32 :: bs b (lvl k + 1)) ++ [41])
  else bs a (left k) ++ 32 :: (sgn k ++ 32 :: bs b (lvl k + 1))
def saneE : E -> Prop
 | .num n => n < 9223372036854775808
 | .name w => wordB w = true
 | .neg e => saneE e
 | .bin k a b => isOp k = true /\ saneE a /\ saneE b
theorem Lx0.op {k : Int} (h : isOp k = true) : Lx0 (32 :: (sgn k ++ [32])) [(3, sgn k, 0)] := by
 have b : Lx0 [32] [] := Lx0.blank (by decide)
 have key : ∀ {s : List UInt8} {t : Bk}, Lx0 s [t] -> Lx0 (32 :: (s ++ [32])) [t] := fun h => b.append0 (h.append0 b)
 rcases op_cases h with rfl | rfl | rfl | rfl | rfl | rfl | rfl
 ·exact key (Lx0.sign (by decide) (by decide))
 ·exact key (Lx0.sign (by decide) (by decide))
 ·exact key (Lx0.sign (by decide) (by decide))
 ·exact key (Lx0.sign (by decide) (by decide))
 ·exact key (Lx0.sign (by decide) (by decide))
 ·exact key (Lx0.sign (by decide) (by decide))
 ·exact key Lx0.eqeq
theorem Lx.expr : ∀ {e : E} {l : Nat}, saneE e -> Lx (bs e l) (pr e l)
 | .num n, l, h => Lx.num h
 | .name w, l, h => Lx.word h
 | .neg e, l, h => (Lx0.sign (c := 45) (by decide) (by decide)).append (Lx.expr (e := e) h)
 | .bin k a b, l, h => by
  obtain ⟨hk, ha, hb⟩ := h
  have inner : Lx (bs a (left k) ++ 32 :: (sgn k ++ 32 :: bs b (lvl k + 1))) (pr a (left k) ++ (3, sgn k, 0) :: pr b (lvl k + 1)) := by
   have h1 : Lx0 (bs a (left k) ++ 32 :: (sgn k ++ [32])) (pr a (left k) ++ [(3, sgn k, 0)]) := (Lx.expr ha).append0 (by decide) (Lx0.op hk)
   have h2 := h1.append (Lx.expr (e := b) (l := lvl k + 1) hb)
   simpa [List.append_assoc] using h2
  have close : Lx0 [41] [(3, [41], 0)] := Lx0.sign (by decide) (by decide)
  by_cases hl : lvl k < l
  ·rw [bs, if_pos hl, pr, if_pos hl]
   have h1 := inner.append0 (c := 41) (v := []) (by decide) close
   have h2 := (Lx0.sign (c := 40) (by decide) (by decide)).append0 h1
   simpa [List.append_assoc] using h2.to
  ·rw [bs, if_neg hl, pr, if_neg hl]
   exact inner
theorem bs_len : ∀ (e : E) (l : Nat), (bs e l).length = wid (pr e l) + spaces e
 | .num n, l => by simp [bs, pr, spaces, wid]
 | .name w, l => by simp [bs, pr, spaces, wid]
 | .neg e, l => by have := bs_len e 3; simp only [bs, pr, spaces, List.length_cons, wid_cons, List.length_nil]; omega
 | .bin k a b, l => by
  have h1 := bs_len a (left k)
  have h2 := bs_len b (lvl k + 1)
  rw [bs, pr]
  by_cases hl : lvl k < l
  ·rw [if_pos hl, if_pos hl]
   simp only [List.length_cons, List.length_append, List.cons_append, wid_cons, wid_append, spaces, List.length_nil]
   simp only [wid, List.map_nil, List.sum_nil] at *
   omega
  ·rw [if_neg hl, if_neg hl]
   simp only [List.length_cons, List.length_append, wid_cons, wid_append, spaces]
   omega
def saneT (t : Bk) : Prop := (t.1 = 1 -> wordB t.2.1 = true) /\ (t.1 = 2 -> t.2.1 = Lib.decDigits t.2.2 /\ t.2.2 < 9223372036854775808) /\ (t.1 = 1 \/ t.1 = 2 \/ t.1 = 3) /\ (t.1 ≠ 2 -> t.2.2 = 0)
theorem tokAt_sane {r : List UInt8} {p : Nat} {t : Tok} (h : tokAt r p = some t) : saneT t.bare := by
 unfold tokAt at h
 cases r with
 | nil => cases h
 | cons c r' =>
  simp only at h
  split at h
  ·rename_i hl
   split at h
   ·rename_i hlen
    simp only [Option.some.injEq] at h
    subst h
    refine ⟨fun _ => ?_, fun h => by simp [Tok.bare] at h, .inl rfl, fun _ => rfl⟩
    simp only [Tok.bare]
    have hall : ((c :: r').takeWhile isLD).all isLD = true := List.all_takeWhile
    rw [List.takeWhile_cons_of_pos (isLD_L hl)] at hall hlen ⊢
    simp only [wordB, hl, hall, Bool.true_and, decide_eq_true_eq]
    exact hlen
   ·cases h
  ·split at h
   ·rename_i hd
    split at h
    ·rename_i hn
     simp only [Option.some.injEq] at h
     subst h
     simp only [numOk, Bool.and_eq_true, decide_eq_true_eq] at hn
     refine ⟨fun h => by simp [Tok.bare] at h, fun _ => ⟨?_, hn.2⟩, .inr (.inl rfl), fun h => absurd rfl h⟩
     simp only [Tok.bare]
     refine (dec_val _ ?_ ?_ hn.1).symm
     ·rw [List.takeWhile_cons_of_pos hd]; simp
     ·intro x hx
      exact List.all_eq_true.1 (List.all_takeWhile (l := c :: r') (p := isD)) x hx
    ·cases h
   ·split at h
    ·split at h <;> (simp only [Option.some.injEq] at h; subst h; exact ⟨fun h => by simp [Tok.bare] at h, fun h => by simp [Tok.bare] at h, .inr (.inr rfl), fun _ => rfl⟩)
    ·cases h
theorem lexR_sane : ∀ (k : Nat) (r : List UInt8) (p : Nat) (acc l : List Tok), r.length <= k -> (∀ t ∈ acc, saneT t.bare) -> lexR r p acc = .ok l -> ∀ t ∈ l, saneT t.bare := by
 intro k
 induction k with
 | zero =>
  intro r p acc l hr ha h
  obtain rfl := List.eq_nil_of_length_eq_zero (Nat.le_zero.1 hr)
  rw [lexR_nil] at h
  simp only [LR.ok.injEq] at h
  subst h
  exact ha
 | succ k ih =>
  intro r p acc l hr ha h
  cases r with
  | nil =>
   rw [lexR_nil] at h
   simp only [LR.ok.injEq] at h
   subst h
   exact ha
  | cons c r =>
   simp only [List.length_cons] at hr
   cases hb : W.blank c with
   | true => rw [lexR_blank hb] at h; exact ih r _ acc l (by omega) ha h
   | false =>
    by_cases h35 : c = 35
    ·subst h35
     rw [lexR_note] at h
     exact ih _ _ acc l (by have := dropWhile_le (· != 10) r; omega) ha h
    ·cases ht : tokAt (c :: r) p with
     | none => rw [lexR_bad hb h35 ht] at h; cases h
     | some t =>
      rw [lexR_tok hb h35 ht] at h
      refine ih _ _ (acc ++ [t]) l (by simp only [List.length_drop]; omega) ?_ h
      intro x hx
      rcases List.mem_append.1 hx with hx | hx
      ·exact ha x hx
      ·simp only [List.mem_singleton] at hx; subst hx; exact tokAt_sane ht
theorem G_sane {kw : List UInt8 -> Bool} {l d : Nat} {e : E} {us : List Bk} (h : G kw l d e us) (hs : ∀ t ∈ us, saneT t) : saneE e := by
 induction h with
 | num d n w => exact ((hs (2, w, n) (by simp)).2.1 rfl).2
 | name d w x _ => exact (hs (1, w, x) (by simp)).1 rfl
 | neg d e us x hd _ ih => exact ih (fun t ht => hs t (by simp [ht]))
 | paren d e us x y hd _ ih => exact ih (fun t ht => hs t (by simp [ht]))
 | up l d e us hl _ ih => exact ih hs
 | bin l d a b us vs t k hl _ ho _ iha ihb => exact ⟨(opAt_lvl ho).2.1, iha (fun t ht => hs t (by simp [ht])), ihb (fun t ht => hs t (by simp [ht]))⟩
 | cmp d a b us vs t k _ ho _ iha ihb => exact ⟨(opAt_lvl ho).2.1, iha (fun t ht => hs t (by simp [ht])), ihb (fun t ht => hs t (by simp [ht]))⟩
theorem sane_nums {us : List Bk} (hs : ∀ t ∈ us, saneT t) : numsOk us := fun t ht h => ((hs t ht).2.1 h).1
inductive St where
 | mk (kind : Int) (name other : List UInt8) (num : Nat) (e : Option E) (body els : List St) (pos : Nat)
inductive RS where
 | ok (s : St) (r : List Tok)
 | bad (r : List Tok)
inductive RB where
 | ok (l : List St) (r : List Tok)
 | bad (r : List Tok)
def isWord (w : List UInt8) (t : Bk) : Bool := t.1 == 1 && t.2.1 == w
def wLock : List UInt8 := [108, 111, 99, 107]
def wUnlock : List UInt8 := [117, 110, 108, 111, 99, 107]
def wSend : List UInt8 := [115, 101, 110, 100]
def wRecv : List UInt8 := [114, 101, 99, 118]
def wPrint : List UInt8 := [112, 114, 105, 110, 116]
def wIf : List UInt8 := [105, 102]
def wElse : List UInt8 := [101, 108, 115, 101]
def wRepeat : List UInt8 := [114, 101, 112, 101, 97, 116]
def wGoto : List UInt8 := [103, 111, 116, 111]
def wLabel : List UInt8 := [108, 97, 98, 101, 108]
def wGo : List UInt8 := [103, 111]
def wVar : List UInt8 := [118, 97, 114]
def wWide : List UInt8 := [119, 105, 100, 101]
def wAtomic : List UInt8 := [97, 116, 111, 109, 105, 99]
def wLocal : List UInt8 := [108, 111, 99, 97, 108]
def wMutex : List UInt8 := [109, 117, 116, 101, 120]
def wChan : List UInt8 := [99, 104, 97, 110]
def keyws : List (List UInt8) := [wVar, wWide, wAtomic, wLocal, wMutex, wChan, wGo, wLock, wUnlock, wSend, wRecv, wPrint, wIf, wElse, wRepeat, wGoto, wLabel]
def kwd (w : List UInt8) : Bool := keyws.contains w
def one1 (k : Int) (p : Nat) (ts : List Tok) : RS := match ts with
 | [] => .bad []
 | t :: r => if isNm kwd t.bare then .ok (.mk k t.text [] 0 none [] [] p) r else .bad (t :: r)
mutual
def stm (d : Nat) (ts : List Tok) : RS :=
 match ts with
 | [] => .bad []
 | t :: r =>
  if t.kind ≠ 1 then .bad (t :: r)
  else if kwd t.text = false then (match r with
   | [] => .bad []
   | t1 :: r1 => if isSign 61 t1.bare then (match lv kwd 0 0 r1 with
     | .bad r2 => .bad r2
     | .ok x r2 => .ok (.mk 1 t.text [] 0 (some x) [] [] t.pos) r2) else .bad (t1 :: r1))
  else if t.text = wLock then one1 2 t.pos r
  else if t.text = wUnlock then one1 3 t.pos r
  else if t.text = wSend then (match r with
   | [] => .bad []
   | t1 :: r1 => if isNm kwd t1.bare then (match lv kwd 0 0 r1 with
     | .bad r2 => .bad r2
     | .ok x r2 => .ok (.mk 4 t1.text [] 0 (some x) [] [] t.pos) r2) else .bad (t1 :: r1))
  else if t.text = wRecv then (match r with
   | [] => .bad []
   | t1 :: r1 => if isNm kwd t1.bare then (match r1 with
     | [] => .bad []
     | t2 :: r2 => if isNm kwd t2.bare then .ok (.mk 5 t1.text t2.text 0 none [] [] t.pos) r2 else .bad (t2 :: r2)) else .bad (t1 :: r1))
  else if t.text = wPrint then (match lv kwd 0 0 r with
   | .bad r2 => .bad r2
   | .ok x r2 => .ok (.mk 6 [] [] 0 (some x) [] [] t.pos) r2)
  else if t.text = wIf then (match lv kwd 0 0 r with
   | .bad r2 => .bad r2
   | .ok x r2 => if r2.length <= r.length then (match blk d r2 with
    | .bad r3 => .bad r3
    | .ok body r3 => (match r3 with
     | [] => .ok (.mk 7 [] [] 0 (some x) body [] t.pos) []
     | t4 :: r4 => if isWord wElse t4.bare then (if r4.length <= r.length then (match blk d r4 with
       | .bad r5 => .bad r5
       | .ok els r5 => .ok (.mk 7 [] [] 0 (some x) body els t.pos) r5) else .bad r4) else .ok (.mk 7 [] [] 0 (some x) body [] t.pos) (t4 :: r4))) else .bad r2)
  else if t.text = wRepeat then (match r with
   | [] => .bad []
   | t1 :: r1 => if t1.kind = 2 /\ t1.num <= 9 then (match blk d r1 with
    | .bad r3 => .bad r3
    | .ok body r3 => .ok (.mk 8 [] [] t1.num none body [] t.pos) r3) else .bad (t1 :: r1))
  else if t.text = wGoto then one1 9 t.pos r
  else if t.text = wLabel then one1 10 t.pos r
  else .bad (t :: r)
termination_by 4 * ts.length
decreasing_by all_goals (simp only [List.length_cons]; omega)
def blk (d : Nat) (ts : List Tok) : RB :=
 if d = 8 then .bad ts else match ts with
 | [] => .bad []
 | t :: r => if isSign 123 t.bare then sts d [] r else .bad (t :: r)
termination_by 4 * ts.length + 2
decreasing_by all_goals (simp only [List.length_cons]; omega)
def sts (d : Nat) (acc : List St) (ts : List Tok) : RB :=
 match ts with
 | [] => .bad []
 | t :: r => if isSign 125 t.bare then .ok acc r else (match stm (d + 1) (t :: r) with
  | .bad r' => .bad r'
  | .ok s r' => if r'.length < (t :: r).length then sts d (acc ++ [s]) r' else .bad r')
termination_by 4 * ts.length + 1
decreasing_by all_goals (simp only [List.length_cons] at *; omega)
end
theorem stm_cons (d : Nat) (t : Tok) (r : List Tok) : stm d (t :: r) = (
  if t.kind ≠ 1 then .bad (t :: r)
  else if kwd t.text = false then (match r with
   | [] => .bad []
   | t1 :: r1 => if isSign 61 t1.bare then (match lv kwd 0 0 r1 with
     | .bad r2 => .bad r2
     | .ok x r2 => .ok (.mk 1 t.text [] 0 (some x) [] [] t.pos) r2) else .bad (t1 :: r1))
  else if t.text = wLock then one1 2 t.pos r
  else if t.text = wUnlock then one1 3 t.pos r
  else if t.text = wSend then (match r with
   | [] => .bad []
   | t1 :: r1 => if isNm kwd t1.bare then (match lv kwd 0 0 r1 with
     | .bad r2 => .bad r2
     | .ok x r2 => .ok (.mk 4 t1.text [] 0 (some x) [] [] t.pos) r2) else .bad (t1 :: r1))
  else if t.text = wRecv then (match r with
   | [] => .bad []
   | t1 :: r1 => if isNm kwd t1.bare then (match r1 with
     | [] => .bad []
     | t2 :: r2 => if isNm kwd t2.bare then .ok (.mk 5 t1.text t2.text 0 none [] [] t.pos) r2 else .bad (t2 :: r2)) else .bad (t1 :: r1))
  else if t.text = wPrint then (match lv kwd 0 0 r with
   | .bad r2 => .bad r2
   | .ok x r2 => .ok (.mk 6 [] [] 0 (some x) [] [] t.pos) r2)
  else if t.text = wIf then (match lv kwd 0 0 r with
   | .bad r2 => .bad r2
   | .ok x r2 => if r2.length <= r.length then (match blk d r2 with
    | .bad r3 => .bad r3
    | .ok body r3 => (match r3 with
     | [] => .ok (.mk 7 [] [] 0 (some x) body [] t.pos) []
     | t4 :: r4 => if isWord wElse t4.bare then (if r4.length <= r.length then (match blk d r4 with
       | .bad r5 => .bad r5
       | .ok els r5 => .ok (.mk 7 [] [] 0 (some x) body els t.pos) r5) else .bad r4) else .ok (.mk 7 [] [] 0 (some x) body [] t.pos) (t4 :: r4))) else .bad r2)
  else if t.text = wRepeat then (match r with
   | [] => .bad []
   | t1 :: r1 => if t1.kind = 2 /\ t1.num <= 9 then (match blk d r1 with
    | .bad r3 => .bad r3
    | .ok body r3 => .ok (.mk 8 [] [] t1.num none body [] t.pos) r3) else .bad (t1 :: r1))
  else if t.text = wGoto then one1 9 t.pos r
  else if t.text = wLabel then one1 10 t.pos r
  else .bad (t :: r)) := by rw [stm.eq_def]
theorem blk_cons (d : Nat) (t : Tok) (r : List Tok) (h : d ≠ 8) : blk d (t :: r) = if isSign 123 t.bare then sts d [] r else .bad (t :: r) := by rw [blk.eq_def, if_neg h]
theorem sts_cons (d : Nat) (acc : List St) (t : Tok) (r : List Tok) : sts d acc (t :: r) = if isSign 125 t.bare then .ok acc r else (match stm (d + 1) (t :: r) with
  | .bad r' => .bad r'
  | .ok s r' => if r'.length < (t :: r).length then sts d (acc ++ [s]) r' else .bad r') := by rw [sts.eq_def]
structure Dc where
 kind : Int
 name : List UInt8
 num : Nat
 pos : Nat
def declK (w : List UInt8) : Int :=
 if w = wVar then 1 else if w = wWide then 2 else if w = wAtomic then 3 else if w = wLocal then 4 else if w = wMutex then 5 else if w = wChan then 6 else 0
inductive RD where
 | ok (l : List Dc) (r : List Tok)
 | bad (r : List Tok)
inductive RT where
 | ok (l : List (List St)) (r : List Tok)
 | bad (r : List Tok)
def dcl (acc : List Dc) (ts : List Tok) : RD :=
 match ts with
 | [] => .bad []
 | t :: r => if t.kind = 1 /\ declK t.text ≠ 0 then (if acc.length = 24 then .bad (t :: r) else (match r with
   | [] => .bad []
   | t1 :: r1 => if isNm kwd t1.bare then (if declK t.text = 6 then (match r1 with
     | [] => .bad []
     | t2 :: r2 => if t2.kind = 2 /\ t2.num <= 3 then dcl (acc ++ [⟨6, t1.text, t2.num, t.pos⟩]) r2 else .bad (t2 :: r2)) else dcl (acc ++ [⟨declK t.text, t1.text, 0, t.pos⟩]) r1) else .bad (t1 :: r1)))
  else .ok acc (t :: r)
termination_by ts.length
decreasing_by all_goals (simp only [List.length_cons]; omega)
def thr (acc : List (List St)) (ts : List Tok) : RT :=
 match ts with
 | [] => .bad []
 | t :: r => if acc ≠ [] /\ t.kind = 4 then .ok acc (t :: r)
  else if acc.length = 4 then .bad (t :: r)
  else if isWord wGo t.bare then (match blk 0 r with
   | .bad r' => .bad r'
   | .ok l r' => if r'.length <= r.length then thr (acc ++ [l]) r' else .bad r')
  else .bad (t :: r)
termination_by ts.length
decreasing_by all_goals (simp only [List.length_cons]; omega)
inductive RP where
 | ok (d : List Dc) (t : List (List St))
 | bad (r : List Tok)
def prg (ts : List Tok) : RP := match dcl [] ts with
 | .bad r => .bad r
 | .ok d r => (match thr [] r with
  | .bad r => .bad r
  | .ok t _ => .ok d t)
mutual
def St.strip : St -> St
 | .mk k n o m e body els p => .mk k n o m e (stripL body) (stripL els) 0
def stripL : List St -> List St
 | [] => []
 | s :: r => s.strip :: stripL r
end
theorem stripL_append : ∀ (l k : List St), stripL (l ++ k) = stripL l ++ stripL k
 | [], k => by simp only [stripL, List.nil_append]
 | s :: l, k => by simp only [stripL, List.cons_append, stripL_append l k]
def nmT (w : List UInt8) : Bk := (1, w, 0)
def sgT (c : UInt8) : Bk := (3, [c], 0)
def prO (e : Option E) : List Bk := match e with
 | some x => pr x 0
 | none => []
mutual
def tkS : St -> List Bk
 | .mk k n o m e body els p =>
  if k = 1 then nmT n :: sgT 61 :: prO e
  else if k = 2 then [nmT wLock, nmT n]
  else if k = 3 then [nmT wUnlock, nmT n]
  else if k = 4 then nmT wSend :: nmT n :: prO e
  else if k = 5 then [nmT wRecv, nmT n, nmT o]
  else if k = 6 then nmT wPrint :: prO e
  else if k = 7 then nmT wIf :: (prO e ++ sgT 123 :: (tkL body ++ sgT 125 :: (match els with
   | [] => []
   | s :: r => nmT wElse :: sgT 123 :: (tkS s ++ tkL r ++ [sgT 125]))))
  else if k = 8 then nmT wRepeat :: (2, Lib.decDigits m, m) :: sgT 123 :: (tkL body ++ [sgT 125])
  else if k = 9 then [nmT wGoto, nmT n]
  else [nmT wLabel, nmT n]
def tkL : List St -> List Bk
 | [] => []
 | s :: r => tkS s ++ tkL r
end
theorem tkL_append : ∀ (l k : List St), tkL (l ++ k) = tkL l ++ tkL k
 | [], k => by simp only [tkL, List.nil_append]
 | s :: l, k => by simp only [tkL, List.cons_append, tkL_append l k, List.append_assoc]
def okN (w : List UInt8) : Prop := wordB w = true /\ kwd w = false
def okE (e : Option E) : Prop := match e with
 | some x => saneE x /\ fitsE kwd x 0 0
 | none => False
mutual
def okS : St -> Nat -> Prop
 | .mk k n o m e body els p, d =>
  if k = 1 then okN n /\ o = [] /\ m = 0 /\ okE e /\ body = [] /\ els = []
  else if k = 2 \/ k = 3 \/ k = 9 \/ k = 10 then okN n /\ o = [] /\ m = 0 /\ e = none /\ body = [] /\ els = []
  else if k = 4 then okN n /\ o = [] /\ m = 0 /\ okE e /\ body = [] /\ els = []
  else if k = 5 then okN n /\ okN o /\ m = 0 /\ e = none /\ body = [] /\ els = []
  else if k = 6 then n = [] /\ o = [] /\ m = 0 /\ okE e /\ body = [] /\ els = []
  else if k = 7 then n = [] /\ o = [] /\ m = 0 /\ okE e /\ d < 8 /\ okL body (d + 1) /\ okL els (d + 1)
  else if k = 8 then n = [] /\ o = [] /\ m <= 9 /\ e = none /\ d < 8 /\ okL body (d + 1) /\ els = []
  else False
def okL : List St -> Nat -> Prop
 | [], _ => True
 | s :: r, d => okS s d /\ okL r d
end
theorem okL_append : ∀ {l k : List St} {d : Nat}, okL (l ++ k) d ↔ okL l d /\ okL k d
 | [], k, d => by simp only [okL, List.nil_append, true_and]
 | s :: l, k, d => by simp only [okL, List.cons_append, okL_append (l := l), and_assoc]
theorem kw_all : kwd wLock = true /\ kwd wUnlock = true /\ kwd wSend = true /\ kwd wRecv = true /\ kwd wPrint = true /\ kwd wIf = true /\ kwd wElse = true /\ kwd wRepeat = true /\ kwd wGoto = true /\ kwd wLabel = true /\ kwd wGo = true := by decide
theorem isNm_kw {t : Tok} {w : List UInt8} (h : t.bare = nmT w) (hk : kwd w = false) : isNm kwd t.bare = true := by rw [h]; simp [isNm, nmT, hk]
theorem bare_nm {t : Tok} {w : List UInt8} (h : t.bare = nmT w) : t.kind = 1 /\ t.text = w := by simp only [Tok.bare, nmT, Prod.mk.injEq] at h; exact ⟨h.1, h.2.1⟩
theorem isSign_sg {t : Tok} {c : UInt8} (h : t.bare = sgT c) : isSign c t.bare = true := by rw [h]; simp [isSign, sgT]
theorem one1_ok {k : Int} {p : Nat} {t : Tok} {r : List Tok} {n : List UInt8} (h : t.bare = nmT n) (hk : kwd n = false) : one1 k p (t :: r) = .ok (.mk k n [] 0 none [] [] p) r := by
 rw [one1, if_pos (isNm_kw h hk), (bare_nm h).2]
theorem read_E {x : E} (h : fitsE kwd x 0 0) {ts rest : List Tok} (ht : ts.map Tok.bare = pr x 0) (hs : stop 0 rest) : lv kwd 0 0 (ts ++ rest) = .ok x rest :=
 read_G0 kwd (fits_G kwd (by omega) h) ht hs
def okB (rest : List Tok) : Prop := match rest with
 | [] => True
 | t :: _ => stop 0 rest /\ isWord wElse t.bare = false
theorem okB.stop {rest : List Tok} (h : okB rest) : W.stop 0 rest := by
 cases rest with
 | nil => trivial
 | cons t r => exact h.1
theorem okB_sign {c : UInt8} {t : Tok} {r : List Tok} (h : t.bare = sgT c) (hc : c = 123 \/ c = 125) : okB (t :: r) := by
 refine ⟨?_, by rw [h]; rfl⟩
 intro j _ h2
 rw [h]
 rcases hc with rfl | rfl <;> (match j, h2 with
  | 0, _ => rfl
  | 1, _ => rfl
  | 2, _ => rfl
  | j + 3, h2 => omega)
theorem okB_word {w : List UInt8} {t : Tok} {r : List Tok} (h : t.bare = nmT w) (hw : w ≠ wElse) : okB (t :: r) := by
 refine ⟨?_, by rw [h]; simp [isWord, nmT, hw]⟩
 intro j _ h2
 rw [h]
 rfl
theorem kw_ne {n : List UInt8} (h : kwd n = false) : n ≠ wElse := by rintro rfl; have := kw_all.2.2.2.2.2.2.1; rw [this] at h; cases h
theorem tkS_head : ∀ {s : St} {d : Nat}, okS s d -> ∃ w us, tkS s = nmT w :: us /\ w ≠ wElse
 | .mk k n o m e body els p, d, h => by
  unfold okS at h
  unfold tkS
  split at h
  ·rename_i hk; rw [if_pos hk]; exact ⟨n, _, rfl, kw_ne h.1.2⟩
  rename_i h1
  rw [if_neg h1]
  split at h
  ·rename_i hk
   rcases hk with rfl | rfl | rfl | rfl
   ·exact ⟨_, _, rfl, by decide⟩
   ·exact ⟨_, _, rfl, by decide⟩
   ·exact ⟨_, _, rfl, by decide⟩
   ·exact ⟨_, _, rfl, by decide⟩
  split at h
  ·rename_i hk; subst hk; exact ⟨_, _, rfl, by decide⟩
  split at h
  ·rename_i hk; subst hk; exact ⟨_, _, rfl, by decide⟩
  split at h
  ·rename_i hk; subst hk; exact ⟨_, _, rfl, by decide⟩
  split at h
  ·rename_i hk; subst hk; exact ⟨_, _, rfl, by decide⟩
  split at h
  ·rename_i hk; subst hk; exact ⟨_, _, rfl, by decide⟩
  ·exact h.elim
theorem tkL_okB {l : List St} {d : Nat} (h : okL l d) {ts rest : List Tok} (ht : ts.map Tok.bare = tkL l) (hr : okB rest) : okB (ts ++ rest) := by
 cases l with
 | nil =>
  obtain rfl := map_nil' (ts := ts) (by simpa [tkL] using ht)
  exact hr
 | cons s l =>
  simp only [okL] at h
  obtain ⟨w, us, hw, hne⟩ := tkS_head h.1
  simp only [tkL, hw, List.cons_append] at ht
  have hq := map_cons' ht
  clear ht
  obtain ⟨t, r, rfl, h1, _⟩ := hq
  exact okB_word h1 hne
mutual
theorem read_S : ∀ (s : St) {d : Nat}, okS s d -> ∀ {ts rest : List Tok}, ts.map Tok.bare = tkS s -> okB rest -> ∃ s', stm d (ts ++ rest) = .ok s' rest /\ s'.strip = s.strip /\ ∃ t r, ts = t :: r /\ s' = (match s' with | .mk k n o m e b f _ => .mk k n o m e b f t.pos)
 | .mk k n o m e body els p, d, h, ts, rest, ht, hr => by
  unfold okS at h
  unfold tkS at ht
  split at h
  ·
   rename_i hk
   subst hk
   rw [if_pos rfl] at ht
   obtain ⟨hn, rfl, rfl, he, rfl, rfl⟩ := h
   have hq := map_cons' ht
   clear ht
   obtain ⟨t, ts, rfl, h1, ht⟩ := hq
   have hq := map_cons' ht
   clear ht
   obtain ⟨t1, ts, rfl, h2, ht⟩ := hq
   cases e with
   | none => exact he.elim
   | some x =>
   have hb := bare_nm h1
   refine ⟨.mk 1 n [] 0 (some x) [] [] t.pos, ?_, by simp only [St.strip], t, _, rfl, rfl⟩
   rw [List.cons_append, List.cons_append, stm_cons, if_neg (by rw [hb.1]; simp), if_pos (by rw [hb.2]; exact hn.2)]
   simp only
   rw [if_pos (isSign_sg h2), read_E he.2 ht hr.stop, hb.2]
  rename_i hk1
  rw [if_neg hk1] at ht
  split at h
  ·rename_i hk
   obtain ⟨hn, rfl, rfl, rfl, rfl, rfl⟩ := h
   rcases hk with rfl | rfl | rfl | rfl
   ·rw [if_pos rfl] at ht
    have hq := map_cons' ht
    clear ht
    obtain ⟨t, ts, rfl, h1, ht⟩ := hq
    have hq := map_cons' ht
    clear ht
    obtain ⟨t1, ts, rfl, h2, ht⟩ := hq
    obtain rfl := map_nil' ht
    have hb := bare_nm h1
    refine ⟨.mk 2 n [] 0 none [] [] t.pos, ?_, by simp only [St.strip], t, _, rfl, rfl⟩
    rw [List.cons_append, stm_cons, if_neg (by rw [hb.1]; simp), if_neg (by rw [hb.2]; decide), if_pos hb.2]
    exact one1_ok h2 hn.2
   ·rw [if_neg (by decide), if_pos rfl] at ht
    have hq := map_cons' ht
    clear ht
    obtain ⟨t, ts, rfl, h1, ht⟩ := hq
    have hq := map_cons' ht
    clear ht
    obtain ⟨t1, ts, rfl, h2, ht⟩ := hq
    obtain rfl := map_nil' ht
    have hb := bare_nm h1
    refine ⟨.mk 3 n [] 0 none [] [] t.pos, ?_, by simp only [St.strip], t, _, rfl, rfl⟩
    rw [List.cons_append, stm_cons, if_neg (by rw [hb.1]; simp), if_neg (by rw [hb.2]; decide), if_neg (by rw [hb.2]; decide), if_pos hb.2]
    exact one1_ok h2 hn.2
   ·rw [if_neg (by decide), if_neg (by decide), if_neg (by decide), if_neg (by decide), if_neg (by decide), if_neg (by decide), if_neg (by decide), if_pos rfl] at ht
    have hq := map_cons' ht
    clear ht
    obtain ⟨t, ts, rfl, h1, ht⟩ := hq
    have hq := map_cons' ht
    clear ht
    obtain ⟨t1, ts, rfl, h2, ht⟩ := hq
    obtain rfl := map_nil' ht
    have hb := bare_nm h1
    refine ⟨.mk 9 n [] 0 none [] [] t.pos, ?_, by simp only [St.strip], t, _, rfl, rfl⟩
    rw [List.cons_append, stm_cons, if_neg (by rw [hb.1]; simp), if_neg (by rw [hb.2]; decide), if_neg (by rw [hb.2]; decide), if_neg (by rw [hb.2]; decide), if_neg (by rw [hb.2]; decide), if_neg (by rw [hb.2]; decide), if_neg (by rw [hb.2]; decide), if_neg (by rw [hb.2]; decide), if_neg (by rw [hb.2]; decide), if_pos hb.2]
    exact one1_ok h2 hn.2
   ·rw [if_neg (by decide), if_neg (by decide), if_neg (by decide), if_neg (by decide), if_neg (by decide), if_neg (by decide), if_neg (by decide), if_neg (by decide)] at ht
    have hq := map_cons' ht
    clear ht
    obtain ⟨t, ts, rfl, h1, ht⟩ := hq
    have hq := map_cons' ht
    clear ht
    obtain ⟨t1, ts, rfl, h2, ht⟩ := hq
    obtain rfl := map_nil' ht
    have hb := bare_nm h1
    refine ⟨.mk 10 n [] 0 none [] [] t.pos, ?_, by simp only [St.strip], t, _, rfl, rfl⟩
    rw [List.cons_append, stm_cons, if_neg (by rw [hb.1]; simp), if_neg (by rw [hb.2]; decide), if_neg (by rw [hb.2]; decide), if_neg (by rw [hb.2]; decide), if_neg (by rw [hb.2]; decide), if_neg (by rw [hb.2]; decide), if_neg (by rw [hb.2]; decide), if_neg (by rw [hb.2]; decide), if_neg (by rw [hb.2]; decide), if_neg (by rw [hb.2]; decide), if_pos hb.2]
    exact one1_ok h2 hn.2
  split at h
  ·rename_i hk
   subst hk
   rw [if_neg (by decide), if_neg (by decide), if_pos rfl] at ht
   obtain ⟨hn, rfl, rfl, he, rfl, rfl⟩ := h
   have hq := map_cons' ht
   clear ht
   obtain ⟨t, ts, rfl, h1, ht⟩ := hq
   have hq := map_cons' ht
   clear ht
   obtain ⟨t1, ts, rfl, h2, ht⟩ := hq
   cases e with
   | none => exact he.elim
   | some x =>
   have hb := bare_nm h1
   refine ⟨.mk 4 n [] 0 (some x) [] [] t.pos, ?_, by simp only [St.strip], t, _, rfl, rfl⟩
   rw [List.cons_append, List.cons_append, stm_cons, if_neg (by rw [hb.1]; simp), if_neg (by rw [hb.2]; decide), if_neg (by rw [hb.2]; decide), if_neg (by rw [hb.2]; decide), if_pos hb.2]
   simp only
   rw [if_pos (isNm_kw h2 hn.2), read_E he.2 ht hr.stop, (bare_nm h2).2]
  split at h
  ·rename_i hk
   subst hk
   rw [if_neg (by decide), if_neg (by decide), if_neg (by decide), if_pos rfl] at ht
   obtain ⟨hn, ho, rfl, rfl, rfl, rfl⟩ := h
   have hq := map_cons' ht
   clear ht
   obtain ⟨t, ts, rfl, h1, ht⟩ := hq
   have hq := map_cons' ht
   clear ht
   obtain ⟨t1, ts, rfl, h2, ht⟩ := hq
   have hq := map_cons' ht
   clear ht
   obtain ⟨t2, ts, rfl, h3, ht⟩ := hq
   obtain rfl := map_nil' ht
   have hb := bare_nm h1
   refine ⟨.mk 5 n o 0 none [] [] t.pos, ?_, by simp only [St.strip], t, _, rfl, rfl⟩
   rw [List.cons_append, List.cons_append, List.cons_append, stm_cons, if_neg (by rw [hb.1]; simp), if_neg (by rw [hb.2]; decide), if_neg (by rw [hb.2]; decide), if_neg (by rw [hb.2]; decide), if_neg (by rw [hb.2]; decide), if_pos hb.2]
   simp only
   rw [if_pos (isNm_kw h2 hn.2), if_pos (isNm_kw h3 ho.2), (bare_nm h2).2, (bare_nm h3).2, List.nil_append]
  split at h
  ·rename_i hk
   subst hk
   rw [if_neg (by decide), if_neg (by decide), if_neg (by decide), if_neg (by decide), if_pos rfl] at ht
   obtain ⟨rfl, rfl, rfl, he, rfl, rfl⟩ := h
   have hq := map_cons' ht
   clear ht
   obtain ⟨t, ts, rfl, h1, ht⟩ := hq
   cases e with
   | none => exact he.elim
   | some x =>
   have hb := bare_nm h1
   refine ⟨.mk 6 [] [] 0 (some x) [] [] t.pos, ?_, by simp only [St.strip], t, _, rfl, rfl⟩
   rw [List.cons_append, stm_cons, if_neg (by rw [hb.1]; simp), if_neg (by rw [hb.2]; decide), if_neg (by rw [hb.2]; decide), if_neg (by rw [hb.2]; decide), if_neg (by rw [hb.2]; decide), if_neg (by rw [hb.2]; decide), if_pos hb.2, read_E he.2 ht hr.stop]
  split at h
  ·rename_i hk
   subst hk
   rw [if_neg (by decide), if_neg (by decide), if_neg (by decide), if_neg (by decide), if_neg (by decide), if_pos rfl] at ht
   obtain ⟨rfl, rfl, rfl, he, hd, hB, hF⟩ := h
   have hq := map_cons' ht
   clear ht
   obtain ⟨t, ts, rfl, h1, ht⟩ := hq
   cases e with
   | none => exact he.elim
   | some x =>
   have hq := map_split ht
   clear ht
   obtain ⟨te, ts, rfl, hte, ht⟩ := hq
   have hq := map_cons' ht
   clear ht
   obtain ⟨tb, ts, rfl, h2, ht⟩ := hq
   have hq := map_split ht
   clear ht
   obtain ⟨tbd, ts, rfl, hbd, ht⟩ := hq
   have hq := map_cons' ht
   clear ht
   obtain ⟨tc, ts, rfl, h3, ht⟩ := hq
   have hb := bare_nm h1
   have hl1 : ∀ (a b : List Tok), b.length <= (a ++ b).length := fun a b => by simp
   have eE : lv kwd 0 0 (te ++ (tb :: (tbd ++ tc :: ts)) ++ rest) = .ok x (tb :: (tbd ++ tc :: ts) ++ rest) := by
    rw [List.append_assoc]; exact read_E he.2 hte (okB_sign h2 (.inl rfl)).stop
   obtain ⟨body', hbody, hbs⟩ := read_L body (d := d) hB (ts := tbd) (t := tc) (rest := ts ++ rest) [] hbd h3
   have eB : blk d (tb :: (tbd ++ tc :: ts) ++ rest) = .ok body' (ts ++ rest) := by
    rw [List.cons_append, blk_cons _ _ _ (by omega), if_pos (isSign_sg h2)]
    simpa [List.append_assoc] using hbody
   cases els with
   | nil =>
    obtain rfl := map_nil' ht
    refine ⟨.mk 7 [] [] 0 (some x) body' [] t.pos, ?_, by simp only [St.strip, stripL, Int.reduceEq]; rw [hbs]; simp only [stripL, List.nil_append], t, _, rfl, rfl⟩
    rw [List.cons_append, stm_cons, if_neg (by rw [hb.1]; simp), if_neg (by rw [hb.2]; decide), if_neg (by rw [hb.2]; decide), if_neg (by rw [hb.2]; decide), if_neg (by rw [hb.2]; decide), if_neg (by rw [hb.2]; decide), if_neg (by rw [hb.2]; decide), if_pos hb.2, eE]
    simp only
    rw [if_pos (by simp only [List.length_append, List.length_cons]; omega), eB]
    simp only [List.nil_append]
    cases rest with
    | nil => rfl
    | cons t4 r4 =>
     simp only
     rw [if_neg (by rw [hr.2]; simp)]
   | cons s els =>
    simp only at ht
    have hq := map_cons' ht
    clear ht
    obtain ⟨t4, ts, rfl, h4, ht⟩ := hq
    have hq := map_cons' ht
    clear ht
    obtain ⟨t5, ts, rfl, h5, ht⟩ := hq
    have hq := map_split ht
    clear ht
    obtain ⟨tel, ts, rfl, hel, ht⟩ := hq
    have hq := map_cons' ht
    clear ht
    obtain ⟨t6, ts, rfl, h6, ht⟩ := hq
    obtain rfl := map_nil' ht
    obtain ⟨els', hels, hfs⟩ := read_L (s :: els) (d := d) hF (ts := tel) (t := t6) (rest := rest) [] (by simpa only [tkL] using hel) h6
    have eF : blk d (t5 :: (tel ++ [t6]) ++ rest) = .ok els' rest := by
     rw [List.cons_append, blk_cons _ _ _ (by omega), if_pos (isSign_sg h5)]
     simpa [List.append_assoc] using hels
    refine ⟨.mk 7 [] [] 0 (some x) body' els' t.pos, ?_, by simp only [St.strip]; rw [hbs, hfs]; simp only [stripL, List.nil_append], t, _, rfl, rfl⟩
    rw [List.cons_append, stm_cons, if_neg (by rw [hb.1]; simp), if_neg (by rw [hb.2]; decide), if_neg (by rw [hb.2]; decide), if_neg (by rw [hb.2]; decide), if_neg (by rw [hb.2]; decide), if_neg (by rw [hb.2]; decide), if_neg (by rw [hb.2]; decide), if_pos hb.2, eE]
    simp only
    rw [if_pos (by simp only [List.length_append, List.length_cons]; omega), eB]
    simp only [List.cons_append]
    rw [if_pos (by rw [h4]; rfl), if_pos (by simp only [List.length_append, List.length_cons]; omega)]
    rw [List.cons_append] at eF
    rw [eF]
  split at h
  ·rename_i hk
   subst hk
   rw [if_neg (by decide), if_neg (by decide), if_neg (by decide), if_neg (by decide), if_neg (by decide), if_neg (by decide), if_pos rfl] at ht
   obtain ⟨rfl, rfl, hm, rfl, hd, hB, rfl⟩ := h
   have hq := map_cons' ht
   clear ht
   obtain ⟨t, ts, rfl, h1, ht⟩ := hq
   have hq := map_cons' ht
   clear ht
   obtain ⟨t1, ts, rfl, h2, ht⟩ := hq
   have hq := map_cons' ht
   clear ht
   obtain ⟨tb, ts, rfl, h3, ht⟩ := hq
   have hq := map_split ht
   clear ht
   obtain ⟨tbd, ts, rfl, hbd, ht⟩ := hq
   have hq := map_cons' ht
   clear ht
   obtain ⟨tc, ts, rfl, h4, ht⟩ := hq
   obtain rfl := map_nil' ht
   have hb := bare_nm h1
   obtain ⟨body', hbody, hbs⟩ := read_L body (d := d) hB (ts := tbd) (t := tc) (rest := rest) [] hbd h4
   have eB : blk d (tb :: (tbd ++ [tc]) ++ rest) = .ok body' rest := by
    rw [List.cons_append, blk_cons _ _ _ (by omega), if_pos (isSign_sg h3)]
    simpa [List.append_assoc] using hbody
   simp only [Tok.bare, Prod.mk.injEq] at h2
   refine ⟨.mk 8 [] [] m none body' [] t.pos, ?_, by simp only [St.strip]; rw [hbs]; simp only [stripL, List.nil_append], t, _, rfl, rfl⟩
   rw [List.cons_append, List.cons_append, stm_cons, if_neg (by rw [hb.1]; simp), if_neg (by rw [hb.2]; decide), if_neg (by rw [hb.2]; decide), if_neg (by rw [hb.2]; decide), if_neg (by rw [hb.2]; decide), if_neg (by rw [hb.2]; decide), if_neg (by rw [hb.2]; decide), if_neg (by rw [hb.2]; decide), if_pos hb.2]
   simp only
   rw [if_pos ⟨h2.1, by omega⟩, eB, h2.2.2]
  ·exact h.elim
theorem read_L : ∀ (l : List St) {d : Nat}, okL l (d + 1) -> ∀ {ts rest : List Tok} {t : Tok} (acc : List St), ts.map Tok.bare = tkL l -> t.bare = sgT 125 -> ∃ l', sts d acc (ts ++ t :: rest) = .ok l' rest /\ stripL l' = stripL (acc ++ l)
 | [], d, h, ts, rest, t, acc, ht, h1 => by
  obtain rfl := map_nil' (by simpa [tkL] using ht)
  refine ⟨acc, ?_, by rw [List.append_nil]⟩
  rw [List.nil_append, sts_cons, if_pos (isSign_sg h1)]
 | s :: l, d, h, ts, rest, t, acc, ht, h1 => by
  simp only [okL] at h
  simp only [tkL] at ht
  have hq := map_split ht
  clear ht
  obtain ⟨t1, t2, rfl, hs, hl⟩ := hq
  obtain ⟨s', e1, e2, x, xs, e3, _⟩ := read_S s h.1 (rest := t2 ++ t :: rest) hs (tkL_okB h.2 hl (okB_sign h1 (.inr rfl)))
  obtain ⟨l', e4, e5⟩ := read_L l h.2 (ts := t2) (rest := rest) (acc ++ [s']) hl h1
  subst e3
  have hne : isSign 125 x.bare = false := by
   obtain ⟨w, us, hw, _⟩ := tkS_head h.1
   rw [hw] at hs
   simp only [List.map_cons, List.cons.injEq] at hs
   rw [hs.1]; rfl
  refine ⟨l', ?_, ?_⟩
  ·rw [List.append_assoc, List.cons_append, sts_cons, if_neg (by rw [hne]; simp), <- List.cons_append, e1]
   simp only
   rw [if_pos (by simp only [List.cons_append, List.length_cons, List.length_append]; omega)]
   exact e4
  ·rw [e5, List.append_assoc, stripL_append, stripL_append, stripL_append]
   simp only [stripL, List.singleton_append, e2, List.nil_append, List.cons_append]
end
def encE : E -> T
 | .num n => T.agg [(T.sc (.int .i64 1)), (T.sc (.int .i64 (n : Int))), (T.sc (.string (⟨#[]⟩ : ByteArray))), (T.list [])]
 | .name w => T.agg [(T.sc (.int .i64 2)), (T.sc (.int .i64 0)), (T.sc (.string (B w))), (T.list [])]
 | .neg e => T.agg [(T.sc (.int .i64 3)), (T.sc (.int .i64 0)), (T.sc (.string (⟨#[]⟩ : ByteArray))), (T.list [encE e])]
 | .bin k a b => T.agg [(T.sc (.int .i64 k)), (T.sc (.int .i64 0)), (T.sc (.string (⟨#[]⟩ : ByteArray))), (T.list [encE a, encE b])]
def kE : E -> Int
 | .num _ => 1
 | .name _ => 2
 | .neg _ => 3
 | .bin k _ _ => k
def nE : E -> Int
 | .num n => (n : Int)
 | _ => 0
def wE : E -> ByteArray
 | .name w => B w
 | _ => (⟨#[]⟩ : ByteArray)
def oE : E -> List T
 | .neg e => [encE e]
 | .bin _ a b => [encE a, encE b]
 | _ => []
theorem encE_eq (e : E) : encE e = T.agg [(T.sc (.int .i64 (kE e))), (T.sc (.int .i64 (nE e))), (T.sc (.string (wE e))), (T.list (oE e))] := by cases e <;> rfl
def Ended (ts : List Tok) : Prop := ∃ ini e, ts = ini ++ [e] /\ e.kind = 4 /\ ∀ t ∈ ini, t.kind ≠ 4
def Suf (TS r : List Tok) : Prop := ∃ pre, TS = pre ++ r
theorem Suf.refl (ts : List Tok) : Suf ts ts := ⟨[], rfl⟩
theorem Suf.trans {a b c : List Tok} (h : Suf a b) (k : Suf b c) : Suf a c := by
 obtain ⟨p, rfl⟩ := h
 obtain ⟨q, rfl⟩ := k
 exact ⟨p ++ q, by rw [List.append_assoc]⟩
theorem Suf.cons {TS r : List Tok} {t : Tok} (h : Suf TS (t :: r)) : Suf TS r := by
 obtain ⟨p, rfl⟩ := h
 exact ⟨p ++ [t], by simp⟩
theorem Suf.len {TS r : List Tok} (h : Suf TS r) : r.length <= TS.length := by
 obtain ⟨p, rfl⟩ := h
 simp
theorem Ended.cons {t : Tok} {r : List Tok} (h : Ended (t :: r)) (hk : t.kind ≠ 4) : Ended r := by
 obtain ⟨ini, e, h1, h2, h3⟩ := h
 cases ini with
 | nil => simp only [List.nil_append, List.cons.injEq] at h1; obtain ⟨rfl, rfl⟩ := h1; exact absurd h2 hk
 | cons x ini =>
  simp only [List.cons_append, List.cons.injEq] at h1
  obtain ⟨rfl, rfl⟩ := h1
  exact ⟨ini, e, rfl, h2, fun t ht => h3 t (by simp [ht])⟩
theorem Ended.ne {r : List Tok} (h : Ended r) : ∃ t r', r = t :: r' := by
 obtain ⟨ini, e, rfl, _⟩ := h
 cases ini with
 | nil => exact ⟨e, [], rfl⟩
 | cons x ini => exact ⟨x, ini ++ [e], rfl⟩
theorem opAt_kind {t : Tok} {l : Nat} {k : Int} (h : opAt t.bare l = some k) : t.kind ≠ 4 := by
 have := (opAt_lvl h).2.2.1
 simp only [Tok.bare] at this
 omega
theorem isSign_kind {t : Tok} {c : UInt8} (h : isSign c t.bare = true) : t.kind = 3 := by
 simp only [isSign, Tok.bare, Bool.and_eq_true, beq_iff_eq] at h
 exact h.1
theorem isNm_kind {kw : List UInt8 -> Bool} {t : Tok} (h : isNm kw t.bare = true) : t.kind = 1 := by
 simp only [isNm, Tok.bare, Bool.and_eq_true, beq_iff_eq] at h
 exact h.1
def RE.keeps (ts : List Tok) : RE -> Prop
 | .ok _ r => Suf ts r /\ Ended r
 | .bad r => Suf ts r /\ Ended r
theorem keeps_all (kw : List UInt8 -> Bool) : ∀ (m : Nat),
  (∀ l d ts, l <= 3 -> Ended ts -> 16 * ts.length + (10 - 2 * l) <= m -> (lv kw l d ts).keeps ts) ∧
  (∀ l d e ts, l < 3 -> Ended ts -> 16 * ts.length <= m -> (lp kw l d e ts).keeps ts) ∧
  (∀ d ts, Ended ts -> 16 * ts.length + 1 <= m -> (fac kw d ts).keeps ts) := by
 intro m
 induction m using Nat.strongRecOn with
 | _ m ih =>
 refine ⟨?_, ?_, ?_⟩
 ·intro l d ts hl he hm
  by_cases h3 : l < 3
  ·have i1 := (ih (16 * ts.length + (10 - 2 * (l + 1))) (by omega)).1 (l + 1) d ts (by omega) he (Nat.le_refl _)
   cases hc : lv kw (l + 1) d ts with
   | bad r => rw [lv_step_bad kw h3 hc]; rw [hc] at i1; exact i1
   | ok e r =>
    rw [hc] at i1
    rw [lv_step kw h3 hc]
    have hlt := lv_shorter kw (by omega) hc
    have i2 := (ih (16 * r.length) (by omega)).2.1 l d e r h3 i1.2 (Nat.le_refl _)
    cases hd : lp kw l d e r with
    | ok e' r' => rw [hd] at i2; exact ⟨i1.1.trans i2.1, i2.2⟩
    | bad r' => rw [hd] at i2; exact ⟨i1.1.trans i2.1, i2.2⟩
  ·obtain rfl : l = 3 := by omega
   rw [lv_fac]
   exact (ih (16 * ts.length + 1) (by omega)).2.2 d ts he (Nat.le_refl _)
 ·intro l d e ts hl he hm
  obtain ⟨t, r, rfl⟩ := he.ne
  simp only [List.length_cons] at hm
  cases ho : opAt t.bare l with
  | none => rw [lp_stop kw ho]; exact ⟨Suf.refl _, he⟩
  | some k =>
   have her := he.cons (opAt_kind ho)
   have i1 := (ih (16 * r.length + (10 - 2 * (l + 1))) (by omega)).1 (l + 1) d r (by omega) her (Nat.le_refl _)
   cases hc : lv kw (l + 1) d r with
   | bad r' => rw [lp_step_bad kw ho hc]; rw [hc] at i1; exact ⟨(Suf.refl (t :: r)).cons.trans i1.1, i1.2⟩
   | ok b r' =>
    rw [hc] at i1
    have hlt := lv_shorter kw (by omega) hc
    by_cases h0 : l = 0
    ·subst h0
     rw [lp_step0 kw ho hc]
     exact ⟨(Suf.refl (t :: r)).cons.trans i1.1, i1.2⟩
    ·rw [lp_step kw h0 hl ho hc]
     have i2 := (ih (16 * r'.length) (by omega)).2.1 l d (.bin k e b) r' hl i1.2 (Nat.le_refl _)
     cases hd : lp kw l d (.bin k e b) r' with
     | ok e' r'' => rw [hd] at i2; exact ⟨(Suf.refl (t :: r)).cons.trans (i1.1.trans i2.1), i2.2⟩
     | bad r'' => rw [hd] at i2; exact ⟨(Suf.refl (t :: r)).cons.trans (i1.1.trans i2.1), i2.2⟩
 ·intro d ts he hm
  obtain ⟨t, r, rfl⟩ := he.ne
  simp only [List.length_cons] at hm
  have hs : Suf (t :: r) r := (Suf.refl (t :: r)).cons
  rw [fac]
  split
  ·rename_i hk; exact ⟨hs, he.cons (by omega)⟩
  split
  ·rename_i hk; exact ⟨hs, he.cons (by rw [isNm_kind hk]; decide)⟩
  split
  ·rename_i hk
   simp only [Bool.and_eq_true] at hk
   have her := he.cons (by rw [isSign_kind hk.1]; decide)
   have i1 := (ih (16 * r.length + 1) (by omega)).2.2 (d + 1) r her (Nat.le_refl _)
   cases hc : fac kw (d + 1) r with
   | ok e r' => rw [hc] at i1; exact ⟨hs.trans i1.1, i1.2⟩
   | bad r' => rw [hc] at i1; exact ⟨hs.trans i1.1, i1.2⟩
  split
  ·rename_i hk
   simp only [Bool.and_eq_true] at hk
   have her := he.cons (by rw [isSign_kind hk.1]; decide)
   have i1 := (ih (16 * r.length + 10) (by omega)).1 0 (d + 1) r (by omega) her (by omega)
   cases hc : lv kw 0 (d + 1) r with
   | bad r' => rw [hc] at i1; exact ⟨hs.trans i1.1, i1.2⟩
   | ok e r' =>
    rw [hc] at i1
    obtain ⟨i1, i2⟩ := i1
    obtain ⟨t', r', rfl⟩ := i2.ne
    simp only
    split
    ·rename_i hr
     exact ⟨hs.trans i1.cons, i2.cons (by rw [isSign_kind hr]; decide)⟩
    ·exact ⟨hs.trans i1, i2⟩
  ·exact ⟨Suf.refl _, he⟩
theorem lv_keeps (kw : List UInt8 -> Bool) {l d : Nat} {ts : List Tok} (hl : l <= 3) (he : Ended ts) : (lv kw l d ts).keeps ts := (keeps_all kw _).1 l d ts hl he (Nat.le_refl _)
theorem fac_keeps (kw : List UInt8 -> Bool) {d : Nat} {ts : List Tok} (he : Ended ts) : (fac kw d ts).keeps ts := (keeps_all kw _).2.2 d ts he (Nat.le_refl _)
theorem kw_eq (w : List UInt8) : kw (B w) = kwd w := by
 have key : ∀ l : List ByteArray, (l.any fun k => L (B w) == L k) = (l.map L).contains w := by
  intro l
  induction l with
  | nil => rfl
  | cons a l ih => rw [List.any_cons, List.map_cons, List.contains_cons, ih, L_B]
 unfold kw
 rw [key]
 rfl
def ix (TS r : List Tok) : Int := ((TS.length - r.length : Nat) : Int)
structure Tks (TS : List Tok) : Prop where
 ended : Ended TS
 len : TS.length <= 6001
 word : ∀ t ∈ TS, t.kind = 1 -> wordB t.text = true
 short : ∀ t ∈ TS, t.text.length <= 6000
theorem Suf.mem {TS r : List Tok} {t : Tok} (h : Suf TS (t :: r)) : t ∈ TS := by
 obtain ⟨p, rfl⟩ := h
 simp
section
variable {s : ByteArray} {TS : List Tok} {n : Nat}
theorem encL_fits (t : Tok) : fits [.int .i64, .str, .int .i64, .cplx .f64] (encL s t) = true := rfl
theorem tok_at {r : List Tok} {t : Tok} (h : Suf TS (t :: r)) : idx true [.int .i64, .str, .int .i64, .cplx .f64] (TS.map (encL s)) (ix TS (t :: r)) = some (encL s t) := by
 obtain ⟨p, rfl⟩ := h
 have e : ix (p ++ t :: r) (t :: r) = (p.length : Int) := by simp [ix]
 rw [e]
 unfold idx
 rw [cond_true, decide_eq_true (Int.natCast_nonneg _), cond_true, Int.toNat_natCast]
 simp [encL_fits]
theorem ix_up {r : List Tok} {t : Tok} (h : Suf TS (t :: r)) (hl : TS.length <= 6001) : IntKind.wrap .i64 (ix TS (t :: r) + 1) = ix TS r := by
 have := h.len
 simp only [List.length_cons] at this
 have e : ix TS (t :: r) + 1 = ix TS r := by simp only [ix, List.length_cons]; omega
 rw [e]
 exact wrap_id (by unfold ix; omega) (by unfold ix; omega)
theorem idx_false {sh : List CK} {es : List T} {k : Int} : idx false sh es k = some default := rfl
abbrev Ex7 := Int × Int × ByteArray × (List T) × (List T) × Int × Bool
def Res (s : ByteArray) (TS : List Tok) (q : Option Ex7) : RE -> Prop
 | .ok e r => q = some (kE e, nE e, wE e, oE e, TS.map (encL s), ix TS r, false)
 | .bad r => ∃ k m w o, q = some (k, m, w, o, TS.map (encL s), ix TS r, true)
theorem cast_up (l : Nat) (hl : l <= 8) : IntKind.wrap .i64 ((l : Int) + 1) = ((l + 1 : Nat) : Int) := by rw [wrap_id (by omega) (by omega)]; omega
abbrev Lp11 := (List T) × Int × Bool × Int × Int × ByteArray × (List T) × Int × Int × ByteArray × (List T)
def ResL (s : ByteArray) (TS : List Tok) (q : Option Lp11) : RE -> Prop
 | .ok e r => ∃ a b c o, q = some (TS.map (encL s), ix TS r, false, a, b, c, o, kE e, nE e, wE e, oE e)
 | .bad r => ∃ a b c o k m w p, q = some (TS.map (encL s), ix TS r, true, a, b, c, o, k, m, w, p)
end
section
variable (kw : List UInt8 -> Bool)
theorem mono_all : ∀ (m : Nat),
  (∀ l d ts, l <= 3 -> 16 * ts.length + (10 - 2 * l) <= m -> ∀ e r, lv kw l (d + 1) ts = .ok e r -> lv kw l d ts = .ok e r) ∧
  (∀ l d e0 ts, l < 3 -> 16 * ts.length <= m -> ∀ e r, lp kw l (d + 1) e0 ts = .ok e r -> lp kw l d e0 ts = .ok e r) ∧
  (∀ d ts, 16 * ts.length + 1 <= m -> ∀ e r, fac kw (d + 1) ts = .ok e r -> fac kw d ts = .ok e r) := by
 intro m
 induction m using Nat.strongRecOn with
 | _ m ih =>
 refine ⟨?_, ?_, ?_⟩
 ·intro l d ts hl hm e r h
  by_cases h3 : l < 3
  ·cases hc : lv kw (l + 1) (d + 1) ts with
   | bad r' => rw [lv_step_bad kw h3 hc] at h; cases h
   | ok a r' =>
    have i1 := (ih (16 * ts.length + (10 - 2 * (l + 1))) (by omega)).1 (l + 1) d ts (by omega) (Nat.le_refl _) a r' hc
    rw [lv_step kw h3 hc] at h
    rw [lv_step kw h3 i1]
    have hlt := lv_shorter kw (by omega) hc
    exact (ih (16 * r'.length) (by omega)).2.1 l d a r' h3 (Nat.le_refl _) e r h
  ·obtain rfl : l = 3 := by omega
   rw [lv_fac] at h ⊢
   exact (ih (16 * ts.length + 1) (by omega)).2.2 d ts (Nat.le_refl _) e r h
 ·intro l d e0 ts hl hm e r h
  cases ts with
  | nil => rw [lp_nil] at h ⊢; exact h
  | cons t ts =>
   simp only [List.length_cons] at hm
   cases ho : opAt t.bare l with
   | none => rw [lp_stop kw ho] at h ⊢; exact h
   | some k =>
    cases hc : lv kw (l + 1) (d + 1) ts with
    | bad r' => rw [lp_step_bad kw ho hc] at h; cases h
    | ok b r' =>
     have i1 := (ih (16 * ts.length + (10 - 2 * (l + 1))) (by omega)).1 (l + 1) d ts (by omega) (Nat.le_refl _) b r' hc
     have hlt := lv_shorter kw (by omega) hc
     by_cases h0 : l = 0
     ·subst h0
      rw [lp_step0 kw ho hc] at h
      rw [lp_step0 kw ho i1]
      exact h
     ·rw [lp_step kw h0 hl ho hc] at h
      rw [lp_step kw h0 hl ho i1]
      exact (ih (16 * r'.length) (by omega)).2.1 l d (.bin k e0 b) r' hl (Nat.le_refl _) e r h
 ·intro d ts hm e r h
  cases ts with
  | nil => rw [fac] at h; cases h
  | cons t ts =>
   simp only [List.length_cons] at hm
   rw [fac] at h ⊢
   split
   ·rename_i hk; rw [if_pos hk] at h; exact h
   rename_i hk
   rw [if_neg hk] at h
   split
   ·rename_i hk; rw [if_pos hk] at h; exact h
   rename_i hk
   rw [if_neg hk] at h
   by_cases h45 : isSign 45 t.bare = true
   ·by_cases hd : d + 1 < 8
    ·rw [if_pos (by simp [h45, hd])] at h
     rw [if_pos (by simp [h45]; omega)]
     cases hc : fac kw (d + 1 + 1) ts with
     | bad r' => rw [hc] at h; cases h
     | ok a r' =>
      rw [hc] at h
      rw [(ih (16 * ts.length + 1) (by omega)).2.2 (d + 1) ts (Nat.le_refl _) a r' hc]
      exact h
    ·have h40 : isSign 40 t.bare = false := by
      cases hq : isSign 40 t.bare with
      | false => rfl
      | true =>
       simp only [isSign, Bool.and_eq_true, beq_iff_eq] at h45 hq
       have := h45.2.symm.trans hq.2
       simp at this
     rw [if_neg (by simp [hd]), if_neg (by simp [h40])] at h
     cases h
   have h45' : isSign 45 t.bare = false := by simpa using h45
   rw [if_neg (by simp [h45'])] at h
   rw [if_neg (by simp [h45'])]
   by_cases h40 : isSign 40 t.bare = true
   ·by_cases hd : d + 1 < 8
    ·rw [if_pos (by simp [h40, hd])] at h
     rw [if_pos (by simp [h40]; omega)]
     cases hc : lv kw 0 (d + 1 + 1) ts with
     | bad r' => rw [hc] at h; cases h
     | ok a r' =>
      rw [hc] at h
      rw [(ih (16 * ts.length + 10) (by omega)).1 0 (d + 1) ts (by omega) (by omega) a r' hc]
      exact h
    ·rw [if_neg (by simp [hd])] at h
     cases h
   ·rw [if_neg (by simp [h40])] at h
    cases h
theorem lv_mono {l d : Nat} {ts : List Tok} (hl : l <= 3) {e : E} {r : List Tok} (h : lv kw l (d + 1) ts = .ok e r) : lv kw l d ts = .ok e r := (mono_all kw _).1 l d ts hl (Nat.le_refl _) e r h
theorem lv_mono0 {l : Nat} {ts : List Tok} (hl : l <= 3) {e : E} {r : List Tok} : ∀ {d : Nat}, lv kw l d ts = .ok e r -> lv kw l 0 ts = .ok e r
 | 0, h => h
 | d + 1, h => lv_mono0 hl (lv_mono kw hl h)
theorem lv_bad {d : Nat} {ts r : List Tok} (h : fac kw d ts = .bad r) : lv kw 0 d ts = .bad r := by
 have h3 : lv kw 3 d ts = .bad r := by rw [lv_fac]; exact h
 exact lv_step_bad kw (by omega) (lv_step_bad kw (by omega) (lv_step_bad kw (by omega) h3))
theorem stop_sign {c : UInt8} {t : Tok} {r : List Tok} (h : t.bare = (3, [c], t.num)) (hc : c = 40 \/ c = 41 \/ c = 123 \/ c = 125 \/ c = 61) : stop 0 (t :: r) := by
 intro j _ h2
 rw [h]
 rcases hc with rfl | rfl | rfl | rfl | rfl <;> (match j, h2 with
  | 0, _ => rfl
  | 1, _ => rfl
  | 2, _ => rfl
  | j + 3, h2 => omega)
theorem stop_kind {t : Tok} {r : List Tok} (h : t.kind ≠ 3) : stop 0 (t :: r) := by
 intro j _ h2
 unfold opAt Tok.bare
 rw [if_neg h]
theorem inner_G {d : Nat} {x : E} (hx : fitsE kw x 0 0) {tx rest : List Tok} {tc : Tok} (ht : tx.map Tok.bare = pr x 0) (hc : tc.bare = (3, [41], tc.num)) {e : E} {r : List Tok} (h : lv kw 0 d (tx ++ tc :: rest) = .ok e r) : G kw 0 d x (pr x 0) /\ e = x /\ r = tc :: rest := by
 have h0 := lv_mono0 kw (by omega) h
 have h1 := read_G0 kw (fits_G kw (by omega) hx) ht (stop_sign (r := rest) hc (.inr (.inl rfl)))
 rw [h1] at h0
 simp only [RE.ok.injEq] at h0
 obtain ⟨rfl, rfl⟩ := h0
 obtain ⟨t1, e1, hg⟩ := spelt kw (by omega) h
 have := List.append_cancel_right e1
 subst this
 rw [ht] at hg
 exact ⟨hg, rfl, rfl⟩
theorem paren_inner {d : Nat} {to1 : Tok} {ts : List Tok} (ho : to1.bare = (3, [40], to1.num)) (hd : d < 8) {e : E} {r : List Tok} (h : fac kw d (to1 :: ts) = .ok e r) : ∃ e' r', lv kw 0 (d + 1) ts = .ok e' r' := by
 have hk : to1.kind = 3 := by simp only [Tok.bare, Prod.mk.injEq] at ho; exact ho.1
 rw [fac, if_neg (by rw [hk]; decide), if_neg (by rw [ho]; simp [isNm]), if_neg (by rw [ho]; simp [isSign]), if_pos (by rw [ho]; simp [isSign, hd])] at h
 cases hc : lv kw 0 (d + 1) ts with
 | bad r' => rw [hc] at h; cases h
 | ok e' r' => exact ⟨e', r', rfl⟩
theorem minus_inner {d : Nat} {to1 : Tok} {ts : List Tok} (ho : to1.bare = (3, [45], to1.num)) (hd : d < 8) {e : E} {r : List Tok} (h : fac kw d (to1 :: ts) = .ok e r) : ∃ e' r', fac kw (d + 1) ts = .ok e' r' := by
 have hk : to1.kind = 3 := by simp only [Tok.bare, Prod.mk.injEq] at ho; exact ho.1
 rw [fac, if_neg (by rw [hk]; decide), if_neg (by rw [ho]; simp [isNm]), if_pos (by rw [ho]; simp [isSign, hd])] at h
 cases hc : fac kw (d + 1) ts with
 | bad r' => rw [hc] at h; cases h
 | ok e' r' => exact ⟨e', r', rfl⟩
theorem lv_fac_ok {d : Nat} {ts : List Tok} {e : E} {r : List Tok} (h : lv kw 0 d ts = .ok e r) : ∃ e' r', fac kw d ts = .ok e' r' := by
 cases hc : fac kw d ts with
 | bad r' => rw [lv_bad kw hc] at h; cases h
 | ok e' r' => exact ⟨e', r', rfl⟩
end
def subs : E -> List E
 | .neg e => [e]
 | .bin _ a b => [a, b]
 | _ => []
theorem oE_subs (e : E) : oE e = (subs e).map encE := by cases e <;> rfl
def ht : E -> Nat
 | .neg e => 1 + ht e
 | .bin _ a b => 1 + ht a + ht b
 | _ => 0
theorem ht_subs {e x : E} (h : x ∈ subs e) : ht x < ht e := by
 cases e with
 | num => simp [subs] at h
 | name => simp [subs] at h
 | neg e => simp only [subs, List.mem_singleton] at h; subst h; simp only [ht]; omega
 | bin k a b =>
  simp only [subs, List.mem_cons, List.not_mem_nil, or_false] at h
  simp only [ht]
  rcases h with rfl | rfl <;> omega
theorem subs_len (e : E) : (subs e).length <= 2 := by cases e <;> simp [subs]
theorem B_inj {u v : List UInt8} (h : L (B u) = L (B v)) : u = v := by rw [L_B, L_B] at h; exact h
theorem E_same (a b : E) : (((kE a == kE b) && (nE a == nE b)) && (L (wE a) == L (wE b))) = true /\ subs a = subs b ↔ a = b := by
 constructor
 ·rintro ⟨h, hs⟩
  simp only [Bool.and_eq_true, beq_iff_eq] at h
  obtain ⟨⟨h1, h2⟩, h3⟩ := h
  cases a with
  | num n =>
   cases b with
   | num m => simp only [nE] at h2; rw [show n = m by omega]
   | name w => simp [kE] at h1
   | neg e => simp [subs] at hs
   | bin k x y => simp [subs] at hs
  | name w =>
   cases b with
   | num m => simp [kE] at h1
   | name v => simp only [wE] at h3; rw [B_inj h3]
   | neg e => simp [subs] at hs
   | bin k x y => simp [subs] at hs
  | neg e =>
   cases b with
   | num m => simp [subs] at hs
   | name v => simp [subs] at hs
   | neg e' => simp only [subs, List.cons.injEq, and_true] at hs; rw [hs]
   | bin k x y => simp [subs] at hs
  | bin k x y =>
   cases b with
   | num m => simp [subs] at hs
   | name v => simp [subs] at hs
   | neg e' => simp [subs] at hs
   | bin k' x' y' =>
    simp only [subs, List.cons.injEq, and_true] at hs
    simp only [kE] at h1
    rw [h1, hs.1, hs.2]
 ·rintro rfl
  simp
theorem B_append (u v : List UInt8) : B u ++ B v = B (u ++ v) := by
 have h : (B u ++ B v).data = (B (u ++ v)).data := by
  simp [B, ByteArray.data_append]
 cases hx : B u ++ B v with
 | mk d => rw [hx] at h; cases hy : B (u ++ v) with
  | mk d' => rw [hy] at h; simp only at h; rw [h]
theorem size_B (u : List UInt8) : (B u).size = u.length := by rw [size_L, L_B]
theorem must_cat {R : Type} {u v : List UInt8} {r : Option R} (h : u.length + v.length <= 4611686018427387904) : must true (decide (((ByteArray.size (B u) + ByteArray.size (B v) : Nat) : Int) <= IntKind.i64.max)) r = r := by
 refine must_eq ?_
 rw [decide_eq_true_eq, size_B, size_B, maxI]
 omega
theorem eB1 (c : UInt8) : (⟨#[c]⟩ : ByteArray) = B [c] := rfl
theorem fitsE_enc (e : E) : fits [.int .i64, .int .i64, .str, .list] (encE e) = true := by cases e <;> rfl
theorem idx_E {es : List E} {i : Nat} (h : i < es.length) : idx true [.int .i64, .int .i64, .str, .list] (es.map encE) (i : Int) = some (encE es[i]) := by
 unfold idx
 rw [cond_true, decide_eq_true (Int.natCast_nonneg _), cond_true, Int.toNat_natCast, List.getElem?_map, List.getElem?_eq_getElem h]
 simp [fitsE_enc]
theorem cellE (e : E) : ((encE e).cell 0).int = kE e /\ ((encE e).cell 1).int = nE e /\ ((encE e).cell 2).str = wE e /\ ((encE e).cell 3).lst = oE e := by cases e <;> exact ⟨rfl, rfl, rfl, rfl⟩
theorem len_ne {α : Type} {a b : List α} : (((((List.length a : Nat) : Int) : Int) != ((List.length b : Nat) : Int))) = !decide (a.length = b.length) := by
 by_cases h : a.length = b.length
 ·rw [decide_eq_true h, h]; simp
 ·rw [decide_eq_false h]; simp only [bne, Bool.not_false, Bool.not_eq_true', beq_eq_false_iff_ne]; omega
theorem heads (a c : E) : (bif (bif ((kE a : Int) == kE c) then ((nE a : Int) == nE c) else false) then (ByteArray.toList (wE a) == ByteArray.toList (wE c)) else false) = (((kE a == kE c) && (nE a == nE c)) && (L (wE a) == L (wE c))) := by
 rw [bytes_eq]
 cases (kE a == kE c) <;> cases (nE a == nE c) <;> rfl
section
variable {n : Nat}
theorem heads_ne (a c : E) : (bif (bif (bif ((kE a : Int) != kE c) then true else ((nE a : Int) != nE c)) then true else (!(ByteArray.toList (wE a) == ByteArray.toList (wE c)))) then true else ((((List.length (oE a) : Nat) : Int) : Int) != ((List.length (oE c) : Nat) : Int))) = !((((kE a == kE c) && (nE a == nE c)) && (L (wE a) == L (wE c))) && decide ((subs a).length = (subs c).length)) := by
 rw [bytes_eq, len_ne, oE_subs, oE_subs, List.length_map, List.length_map]
 simp only [bne]
 cases (kE a == kE c) <;> cases (nE a == nE c) <;> cases (L (wE a) == L (wE c)) <;> rfl
theorem op_tests {k : Int} (h : isOp k = true) : ((k : Int) == 1) = false /\ ((k : Int) == 2) = false /\ ((k : Int) == 3) = false /\ decide ((k : Int) < 4) = false /\ decide ((k : Int) > 10) = false := by
 rcases op_cases h with rfl | rfl | rfl | rfl | rfl | rfl | rfl <;> decide
end
theorem lexR_short : ∀ (k : Nat) (r : List UInt8) (p : Nat) (acc l : List Tok) (K : Nat), r.length <= k -> r.length <= K -> (∀ t ∈ acc, t.text.length <= K) -> lexR r p acc = .ok l -> ∀ t ∈ l, t.text.length <= K := by
 intro k
 induction k with
 | zero =>
  intro r p acc l K hr _ ha h
  obtain rfl := List.eq_nil_of_length_eq_zero (Nat.le_zero.1 hr)
  rw [lexR_nil] at h
  simp only [LR.ok.injEq] at h
  subst h
  exact ha
 | succ k ih =>
  intro r p acc l K hr hK ha h
  cases r with
  | nil =>
   rw [lexR_nil] at h
   simp only [LR.ok.injEq] at h
   subst h
   exact ha
  | cons c r =>
   simp only [List.length_cons] at hr hK
   cases hb : W.blank c with
   | true => rw [lexR_blank hb] at h; exact ih r _ acc l K (by omega) (by omega) ha h
   | false =>
    by_cases h35 : c = 35
    ·subst h35
     rw [lexR_note] at h
     have := dropWhile_le (· != 10) r
     exact ih _ _ acc l K (by omega) (by omega) ha h
    ·cases ht : tokAt (c :: r) p with
     | none => rw [lexR_bad hb h35 ht] at h; cases h
     | some t =>
      rw [lexR_tok hb h35 ht] at h
      have hp := tokAt_pos ht
      simp only [List.length_cons] at hp
      refine ih _ _ (acc ++ [t]) l K (by simp only [List.length_drop]; omega) (by simp only [List.length_drop]; omega) ?_ h
      intro x hx
      rcases List.mem_append.1 hx with hx | hx
      ·exact ha x hx
      ·simp only [List.mem_singleton] at hx; subst hx; omega
def endT (u : List UInt8) : Tok := ⟨4, [], 0, u.length⟩
theorem tks_of {u : List UInt8} (hu : u.length <= 6000) {l : List Tok} (hl : lexR u 0 [] = .ok l) : Tks (l ++ [endT u]) := by
 have hs := lexR_sane u.length u 0 [] l (Nat.le_refl _) (by simp) hl
 have hlen := lexR_len u.length u 0 [] l (Nat.le_refl _) hl
 have hsh := lexR_short u.length u 0 [] l 6000 (Nat.le_refl _) hu (by simp) hl
 refine ⟨⟨l, endT u, rfl, rfl, fun t ht => ?_⟩, by simp at hlen ⊢; omega, fun t ht hk => ?_, fun t ht => ?_⟩
 ·have := (hs t ht).2.2.1
  simp only [Tok.bare] at this
  omega
 ·rcases List.mem_append.1 ht with ht | ht
  ·exact (hs t ht).1 hk
  ·simp only [List.mem_singleton] at ht; subst ht; simp [endT] at hk
 ·rcases List.mem_append.1 ht with ht | ht
  ·exact hsh t ht
  ·simp only [List.mem_singleton] at ht; subst ht; simp [endT]
section
variable {n : Nat}
theorem toks_cases {u : List UInt8} : (∃ l, u.length <= 6000 /\ lexR u 0 [] = .ok l) \/ (6000 < u.length \/ ∃ q, lexR u 0 [] = .bad q) := by
 by_cases h6 : 6000 < u.length
 ·exact .inr (.inl h6)
 ·cases hc : lexR u 0 [] with
  | ok l => exact .inl ⟨l, by omega, rfl⟩
  | bad q => exact .inr (.inr ⟨q, rfl⟩)
theorem ix_all (ts : List Tok) : ix ts ts = 0 := by simp [ix]
theorem ht_le : ∀ (e : E) (l : Nat), ht e <= (bs e l).length
 | .num k, l => Nat.zero_le _
 | .name w, l => Nat.zero_le _
 | .neg e, l => by have := ht_le e 3; simp only [ht, bs, List.length_cons]; omega
 | .bin k a b, l => by
  have h1 := ht_le a (left k)
  have h2 := ht_le b (lvl k + 1)
  rw [bs]
  split <;> (simp only [ht, List.length_cons, List.length_append]; omega)
theorem spelt_self {e : E} (hs : saneE e) {l : List Tok} (hl : lexR (bs e 0) 0 [] = .ok l) : l.map Tok.bare = pr e 0 := by
 obtain ⟨ts, h1, h2⟩ := (Lx.expr (l := 0) hs).all
 rw [hl] at h2
 simp only [LR.ok.injEq] at h2
 subst h2
 exact h1
theorem lex_self {e : E} (hs : saneE e) : ∃ l, lexR (bs e 0) 0 [] = .ok l /\ l.map Tok.bare = pr e 0 := by
 obtain ⟨ts, h1, h2⟩ := (Lx.expr (l := 0) hs).all
 exact ⟨ts, h2, h1⟩
theorem stop_end (u : List UInt8) : stop 0 [endT u] := stop_kind (by simp [endT])
theorem read_self {e : E} (hf : fitsE kwd e 0 0) {u : List UInt8} {l : List Tok} (h : l.map Tok.bare = pr e 0) : lv kwd 0 0 (l ++ [endT u]) = .ok e [endT u] := read_E hf h (stop_end u)
theorem tok_end {s : ByteArray} {TS r : List Tok} {t : Tok} (h : Suf TS (t :: r)) : ((encL s t).cell 0).int = t.kind := rfl
theorem bs_ne {e : E} (hs : saneE e) : bs e 0 ≠ [] := by
 intro h
 obtain ⟨l, hl, hbare⟩ := lex_self hs
 rw [h, lexR_nil] at hl
 simp only [LR.ok.injEq] at hl
 subst hl
 have : (pr e 0).length = 0 := by rw [<- hbare]; rfl
 cases e with
 | num k => simp [pr] at this
 | name w => simp [pr] at this
 | neg e => simp [pr] at this
 | bin k a b => rw [pr] at this; split at this <;> simp at this
theorem empty_test (u : List UInt8) : (ByteArray.toList (B u) == ByteArray.toList (⟨#[]⟩ : ByteArray)) = decide (u = []) := by
 rw [bytes_eq, L_B, show L (⟨#[]⟩ : ByteArray) = [] from rfl]
 cases u <;> rfl
end
section
variable {n : Nat}
theorem len_end (l : List Tok) (s : ByteArray) (u : List UInt8) : (((List.length ((l ++ [endT u]).map (encL s)) : Nat) : Int) : Int) = ((l.length + 1 : Nat) : Int) := by simp
def pieces : List (List UInt8) := [[120], [121], [97], [55], [48], [49, 50], [43], [45], [42], [47], [37], [60], [61, 61], [40], [41], [120], [51], [45], [40], [41], [103, 111], [61], [123], [57]]
def Piece (p : List UInt8) : Prop := p.length <= 2 /\ ∃ b : Bk, Lx0 (p ++ [32]) [b] /\ b.2.1 = p
theorem piece_word {p : List UInt8} (h2 : p.length <= 2) (h : wordB p = true) : Piece p := ⟨h2, (1, p, 0), (Lx.word h).append0 (c := 32) (v := []) (by decide) (Lx0.blank (by decide)), rfl⟩
theorem piece_num {p : List UInt8} (k : Nat) (h2 : p.length <= 2) (hk : k < 9223372036854775808) (h : Lib.decDigits k = p) : Piece p := by
 subst h
 exact ⟨h2, (2, Lib.decDigits k, k), (Lx.num hk).append0 (c := 32) (v := []) (by decide) (Lx0.blank (by decide)), rfl⟩
theorem piece_sign {c : UInt8} (h : signs.contains c = true) (h61 : c ≠ 61) : Piece [c] := ⟨by simp, (3, [c], 0), (Lx0.sign h h61).append0 (Lx0.blank (by decide)), rfl⟩
theorem digits1 {k : Nat} (h : k < 10) : Lib.decDigits k = [UInt8.ofNat (48 + k)] := Lib.decDigits_one h
theorem pieces_ok : ∀ p ∈ pieces, Piece p := by
 intro p hp
 simp only [pieces, List.mem_cons, List.not_mem_nil, or_false] at hp
 rcases hp with rfl | rfl | rfl | rfl | rfl | rfl | rfl | rfl | rfl | rfl | rfl | rfl | rfl | rfl | rfl | rfl | rfl | rfl | rfl | rfl | rfl | rfl | rfl | rfl
 ·exact piece_word (by decide) (by decide)
 ·exact piece_word (by decide) (by decide)
 ·exact piece_word (by decide) (by decide)
 ·exact piece_num 7 (by decide) (by omega) (digits1 (by omega))
 ·exact piece_num 0 (by decide) (by omega) (digits1 (by omega))
 ·exact piece_num 12 (by decide) (by omega) (by rw [Lib.decDigits, dif_neg (by omega), digits1 (by omega)]; rfl)
 ·exact piece_sign (by decide) (by decide)
 ·exact piece_sign (by decide) (by decide)
 ·exact piece_sign (by decide) (by decide)
 ·exact piece_sign (by decide) (by decide)
 ·exact piece_sign (by decide) (by decide)
 ·exact piece_sign (by decide) (by decide)
 ·exact ⟨by decide, (3, [61, 61], 0), Lx0.eqeq.append0 (Lx0.blank (by decide)), rfl⟩
 ·exact piece_sign (by decide) (by decide)
 ·exact piece_sign (by decide) (by decide)
 ·exact piece_word (by decide) (by decide)
 ·exact piece_num 3 (by decide) (by omega) (digits1 (by omega))
 ·exact piece_sign (by decide) (by decide)
 ·exact piece_sign (by decide) (by decide)
 ·exact piece_sign (by decide) (by decide)
 ·exact piece_word (by decide) (by decide)
 ·exact ⟨by decide, (3, [61], 0), Lx.eq.append0 (c := 32) (v := []) (by decide) (Lx0.blank (by decide)), rfl⟩
 ·exact piece_sign (by decide) (by decide)
 ·exact piece_num 9 (by decide) (by omega) (digits1 (by omega))
def Spaced (u : List UInt8) (us : List Bk) : Prop := Lx0 u us /\ u.length = wid us + us.length
theorem ints_length (z : List Int) : (ints .i64 z).length = z.length := by simp [ints]
theorem back_short {u : List UInt8} {us : List Bk} (hu : Spaced u us) (h6 : u.length <= 6000) {l : List Tok} (hl : lexR u 0 [] = .ok l) {e : E} {r : List Tok} (he : lv kwd 0 0 (l ++ [endT u]) = .ok e r) :
  saneE e /\ fitsE kwd e 0 0 /\ (bs e 0).length <= 6000 /\ ∃ t r', r = t :: r' /\ Suf (l ++ [endT u]) (t :: r') := by
 have hT := tks_of h6 hl
 obtain ⟨t1, e1, hg⟩ := spelt kwd (by omega) he
 have hkp := lv_keeps kwd (l := 0) (d := 0) (by omega) hT.ended
 rw [he] at hkp
 obtain ⟨k1, k2⟩ := hkp
 obtain ⟨t, r', rfl⟩ := k2.ne
 have hpre : ∃ l2, l = t1 ++ l2 := by
  rcases List.append_eq_append_iff.1 e1 with ⟨a, ha, hb⟩ | ⟨a, ha, hb⟩
  ·cases a with
   | nil => exact ⟨[], by simpa using ha.symm⟩
   | cons x a => simp at hb
  ·exact ⟨a, ha⟩
 obtain ⟨l2, rfl⟩ := hpre
 obtain ⟨ts, h1, h2⟩ := hu.1.to.all
 rw [hl] at h2
 simp only [LR.ok.injEq] at h2
 subst h2
 rw [List.map_append] at h1
 have hsane := lexR_sane u.length u 0 [] _ (Nat.le_refl _) (by simp) hl
 have hs1 : ∀ x ∈ t1.map Tok.bare, saneT x := by
  intro x hx
  obtain ⟨y, hy, rfl⟩ := List.mem_map.1 hx
  exact hsane y (by simp [hy])
 have hsp := pr_short kwd hg (sane_nums hs1)
 have hw := hu.2
 rw [<- h1, wid_append, List.length_append] at hw
 refine ⟨G_sane hg hs1, G_fits kwd hg, ?_, t, r', rfl, k1⟩
 rw [bs_len]
 omega
theorem end_ix (l : List Tok) (u : List UInt8) (h : l.length <= 9223372036854775807) : ((ix (l ++ [endT u]) [endT u] : Int) == IntKind.wrap .i64 (((l.length + 1 : Nat) : Int) - 1)) = true := by
 have e : ((l.length + 1 : Nat) : Int) - 1 = (l.length : Int) := by omega
 rw [e, wrap_id (by omega) (by omega), beq_iff_eq]
 simp [ix]
end
def names8 : List (List UInt8) := [[120], [120], [121], [122], [97], [116], [120], [121]]
theorem names8_ok : ∀ p ∈ names8, wordB p = true /\ kwd p = false /\ p.length = 1 := by decide
def RawE (d : Nat) (e : E) : Prop := saneE e /\ (∀ l D, D + 6 <= 8 + d -> fitsE kwd e l D) /\ ∀ l, (bs e l).length + 6 <= 7 * 2 ^ (6 - d)
section
variable {n : Nat}
theorem plain_eq (x : Int) : ∃ p ∈ names8, m_suturehand_plain n x = some (B p) := by
 unfold m_suturehand_plain
 obtain ⟨q, hq, hq8⟩ := pick_eq n x 8 (by omega) (by omega)
 rw [hq, Option.bind_some]
 have hqn : q < names8.length := by show q < 8; omega
 have hix := idx1_str (v := names8.map B) (i := q) (by rw [List.length_map]; exact hqn)
 rw [List.getElem_map] at hix
 refine ⟨names8[q], List.getElem_mem hqn, ?_⟩
 have hlist : (names8.map B).map str1 = [(T.sc (.string (⟨#[120]⟩ : ByteArray))), (T.sc (.string (⟨#[120]⟩ : ByteArray))), (T.sc (.string (⟨#[121]⟩ : ByteArray))), (T.sc (.string (⟨#[122]⟩ : ByteArray))), (T.sc (.string (⟨#[97]⟩ : ByteArray))), (T.sc (.string (⟨#[116]⟩ : ByteArray))), (T.sc (.string (⟨#[120]⟩ : ByteArray))), (T.sc (.string (⟨#[121]⟩ : ByteArray)))] := rfl
 rw [hlist] at hix
 rw [hix]
 rfl
theorem raw_name {p : List UInt8} (hp : p ∈ names8) {d : Nat} : RawE d (.name p) := by
 obtain ⟨h1, h2, h3⟩ := names8_ok p hp
 refine ⟨h1, fun _ _ _ => h2, fun l => ?_⟩
 have : 1 <= 2 ^ (6 - d) := Nat.one_le_two_pow
 simp only [bs, h3]
 omega
theorem raw_num {k : Nat} (hk : k < 10) {d : Nat} : RawE d (.num k) := by
 refine ⟨(show k < 9223372036854775808 by omega), fun _ _ _ => trivial, fun l => ?_⟩
 have : 1 <= 2 ^ (6 - d) := Nat.one_le_two_pow
 simp only [bs, digits1 hk, List.length_cons, List.length_nil]
 omega
theorem pow_up {d : Nat} (hd : d <= 5) : 2 ^ (6 - d) = 2 * 2 ^ (6 - (d + 1)) := by
 rw [show 6 - d = (6 - (d + 1)) + 1 by omega, Nat.pow_succ]; omega
theorem raw_neg {e : E} {d : Nat} (hd : d <= 5) (h : RawE (d + 1) e) : RawE d (.neg e) := by
 obtain ⟨h1, h2, h3⟩ := h
 have hp := pow_up hd
 refine ⟨h1, fun l D hD => ⟨by omega, h2 3 (D + 1) (by omega)⟩, fun l => ?_⟩
 have := h3 3
 simp only [bs, List.length_cons]
 omega
theorem sgn_len (k : Int) : (sgn k).length <= 2 := by
 unfold sgn
 repeat' split
 all_goals simp
theorem raw_bin {a b : E} {k : Int} {d : Nat} (hk : isOp k = true) (hd : d <= 5) (ha : RawE (d + 1) a) (hb : RawE (d + 1) b) : RawE d (.bin k a b) := by
 obtain ⟨a1, a2, a3⟩ := ha
 obtain ⟨b1, b2, b3⟩ := hb
 have hp := pow_up hd
 refine ⟨⟨hk, a1, b1⟩, fun l D hD => ⟨hk, ?_⟩, fun l => ?_⟩
 ·split
  ·exact ⟨by omega, a2 _ _ (by omega), b2 _ _ (by omega)⟩
  ·exact ⟨a2 _ _ (by omega), b2 _ _ (by omega)⟩
 ·have := a3 (left k)
  have := b3 (lvl k + 1)
  have := sgn_len k
  rw [bs]
  split <;> (simp only [List.length_cons, List.length_append, List.length_nil]; omega)
theorem sized_ints (z : List Int) : sized 1 (ints .i64 z) = true := by
 unfold sized ints
 rw [List.all_map]
 exact List.all_eq_true.2 (fun x _ => rfl)
theorem take_ints (z : List Int) (k : Nat) : (ints .i64 z).take k = ints .i64 (z.take k) := by simp [ints, List.map_take]
theorem drop_ints (z : List Int) (k : Nat) : (ints .i64 z).drop k = ints .i64 (z.drop k) := by simp [ints, List.map_drop]
theorem expr_all : ∀ (m : Nat) (z : List Int) (d : Nat), z.length <= 17592186044416 -> d <= 6 -> 7 - d <= m →
  ∃ e, (unB_suturehand_Expr n m).suturehand_Expr (ints .i64 z) (d : Int) = some (kE e, nE e, wE e, oE e) /\ RawE d e /\ ∀ l, (bs e l).length <= 7 * z.length + 1 := by
 intro m
 induction m with
 | zero => intro z d _ hd h; omega
 | succ m ih =>
  intro z d hz hd hm
  have hun : (unB_suturehand_Expr n (m + 1)).suturehand_Expr = f_suturehand_Expr (unB_suturehand_Expr n m) n := rfl
  rw [hun]
  generalize unB_suturehand_Expr n m = b at *
  unfold f_suturehand_Expr
  rw [ints_length]
  cases z with
  | nil => exact ⟨.num 1, rfl, raw_num (by omega), fun l => by simp [bs, digits1]⟩
  | cons x z =>
   have hne : (((((x :: z).length : Nat) : Int) : Int) == 0) = false := by rw [beq_eq_false_iff_ne]; simp; omega
   have hi := idx_ints (v := x :: z) (i := 0) (by simp)
   rw [show ((0 : Nat) : Int) = 0 from rfl] at hi
   rw [hne, cond_false, hi, Option.bind_some]
   obtain ⟨q, hq, hq16⟩ := pick_eq n ((int1 (x :: z)[0]).cell 0).int 16 (by omega) (by omega)
   rw [hq, Option.bind_some]
   have e16 : (!decide ((16 : Nat) = 0)) = true := by decide
   have e2 : (!decide ((2 : Nat) = 0)) = true := by decide
   by_cases h5 : q < 5 \/ d > 5
   ·have ht : (bif (decide (((q : Nat) : Int) < 5)) then true else (decide (((d : Nat) : Int) > 5))) = true := by
     by_cases h : q < 5
     ·rw [decide_eq_true (by omega)]; rfl
     ·rw [decide_eq_false (by omega), cond_false, decide_eq_true_eq]; omega
    rw [ht, cond_true, must_eq e16]
    obtain ⟨p, hp, hpl⟩ := plain_eq (n := n) (IntKind.wrap .i64 (Int.tdiv ((int1 (x :: z)[0]).cell 0).int 16))
    rw [hpl, Option.bind_some]
    exact ⟨.name p, rfl, raw_name hp, fun l => by simp only [bs, (names8_ok p hp).2.2]; omega⟩
   have hf : (bif (decide (((q : Nat) : Int) < 5)) then true else (decide (((d : Nat) : Int) > 5))) = false := by
    rw [decide_eq_false (by omega), cond_false, decide_eq_false_iff_not]; omega
   have hd5 : d <= 5 := by omega
   rw [hf, cond_false]
   by_cases h8 : q < 8
   ·rw [decide_eq_true (by omega), cond_true, must_eq e16]
    obtain ⟨y, hy, hy5⟩ := pick_eq n (IntKind.wrap .i64 (Int.tdiv ((int1 (x :: z)[0]).cell 0).int 16)) 5 (by omega) (by omega)
    rw [hy, Option.bind_some]
    exact ⟨.num y, rfl, raw_num (by omega), fun l => by simp only [bs, digits1 (show y < 10 by omega), List.length_cons, List.length_nil]; omega⟩
   rw [decide_eq_false (by omega), cond_false, cast_up d (by omega)]
   have hlen : (((x :: z).length : Nat) : Int).toNat = (x :: z).length := Int.toNat_natCast _
   simp only [List.length_cons] at hz
   by_cases hq8 : q = 8
   ·rw [hq8, show (((8 : Nat) : Int) == 8) = true from rfl, cond_true, must_eq (by simp only [Bool.and_eq_true, decide_eq_true_eq]; exact ⟨⟨⟨by omega, by simp only [List.length_cons]; omega⟩, Int.le_refl _⟩, sized_ints _⟩)]
    rw [hlen, take_ints, show Int.toNat 1 = 1 from rfl, drop_ints]
    obtain ⟨e, he, hr, hlb⟩ := ih ((x :: z).take (x :: z).length |>.drop 1) (d + 1) (by simp; omega) (by omega) (by omega)
    rw [he, Option.bind_some]
    refine ⟨.neg e, ?_, raw_neg hd5 hr, fun l => ?_⟩
    ·simp only [kE, nE, wE, oE, encE_eq e]
    ·have := hlb 3
     simp only [List.length_drop, List.length_take, List.length_cons] at this
     simp only [bs, List.length_cons]
     omega
   ·have hqb : (((q : Nat) : Int) == 8) = false := by rw [beq_eq_false_iff_ne]; omega
    rw [hqb, cond_false, must_eq e16]
    obtain ⟨y, hy, hy7⟩ := pick_eq n (IntKind.wrap .i64 (Int.tdiv ((int1 (x :: z)[0]).cell 0).int 16)) 7 (by omega) (by omega)
    have ht0 : Int.tdiv (((x :: z).length : Nat) : Int) 2 = (((x :: z).length / 2 : Nat) : Int) := by first | exact Int.ofNat_tdiv _ 2 | exact (Int.ofNat_tdiv _ 2).symm
    have hm0 : IntKind.wrap .i64 (Int.tdiv (((x :: z).length : Nat) : Int) 2) = (((x :: z).length / 2 : Nat) : Int) := by
     rw [ht0]
     exact wrap_id (by omega) (by simp only [List.length_cons]; omega)
    have hm1 : IntKind.wrap .i64 (1 + IntKind.wrap .i64 (Int.tdiv (((x :: z).length : Nat) : Int) 2)) = ((1 + (x :: z).length / 2 : Nat) : Int) := by
     rw [hm0, wrap_id (by omega) (by simp only [List.length_cons]; omega)]; omega
    have hle : 1 + (x :: z).length / 2 <= (x :: z).length := by simp only [List.length_cons]; omega
    rw [hy, Option.bind_some, must_eq e2, hm1, must_eq (by simp only [Bool.and_eq_true, decide_eq_true_eq]; exact ⟨⟨⟨by omega, by omega⟩, by omega⟩, sized_ints _⟩)]
    rw [hlen, Int.toNat_natCast, take_ints, show Int.toNat 1 = 1 from rfl, drop_ints]
    obtain ⟨e1, he1, hr1, hl1⟩ := ih ((x :: z).take (1 + (x :: z).length / 2) |>.drop 1) (d + 1) (by simp; omega) (by omega) (by omega)
    rw [he1, Option.bind_some, must_eq (by simp only [Bool.and_eq_true, decide_eq_true_eq]; exact ⟨⟨⟨by omega, by omega⟩, Int.le_refl _⟩, sized_ints _⟩), take_ints, drop_ints]
    obtain ⟨e2', he2, hr2, hl2⟩ := ih ((x :: z).take (x :: z).length |>.drop (1 + (x :: z).length / 2)) (d + 1) (by simp; omega) (by omega) (by omega)
    rw [he2, Option.bind_some]
    have hk : IntKind.wrap .i64 (4 + (y : Int)) = 4 + (y : Int) := wrap_id (by omega) (by omega)
    have hop : isOp (4 + (y : Int)) = true := by simp only [isOp, Bool.and_eq_true, decide_eq_true_eq]; omega
    refine ⟨.bin (4 + (y : Int)) e1 e2', ?_, raw_bin hop hd5 hr1 hr2, fun l => ?_⟩
    ·simp only [kE, nE, wE, oE, encE_eq e1, encE_eq e2', hk]
    ·have h1 := hl1 (left (4 + (y : Int)))
     have h2 := hl2 (lvl (4 + (y : Int)) + 1)
     have h3 := sgn_len (4 + (y : Int))
     simp only [List.length_drop, List.length_take, List.length_cons] at h1 h2
     rw [bs]
     split <;> (simp only [List.length_cons, List.length_append, List.length_nil]; omega)
theorem expr_eq (z : List Int) (hz : z.length <= 17592186044416) (hn : 100 < n) : ∃ e, m_suturehand_Expr n (ints .i64 z) 0 = some (kE e, nE e, wE e, oE e) /\ RawE 0 e := by
 obtain ⟨e, h1, h2, _⟩ := expr_all n z 0 hz (by omega) (by omega)
 exact ⟨e, h1, h2⟩
theorem expr_eqL (z : List Int) (hz : z.length <= 17592186044416) (hn : 100 < n) : ∃ e, m_suturehand_Expr n (ints .i64 z) 0 = some (kE e, nE e, wE e, oE e) /\ RawE 0 e /\ ∀ l, (bs e l).length <= 7 * z.length + 1 :=
 expr_all n z 0 hz (by omega) (by omega)
end
theorem lx_paren {e : E} (hs : saneE e) : Lx0 (40 :: (bs e 0 ++ [41])) ((3, [40], 0) :: (pr e 0 ++ [(3, [41], 0)])) := by
 have close : Lx0 [41] [(3, [41], 0)] := Lx0.sign (by decide) (by decide)
 exact (Lx0.sign (c := 40) (by decide) (by decide)).append0 ((Lx.expr (l := 0) hs).append0 (c := 41) (v := []) (by decide) close)
theorem bare_sign {t : Tok} {c : UInt8} (h : t.bare = (3, [c], 0)) : t.bare = (3, [c], t.num) := by
 have : t.num = 0 := by simp only [Tok.bare, Prod.mk.injEq] at h; exact h.2.2
 rw [this]; exact h
theorem paren_read {e : E} (hf : fitsE kwd e 0 0) {ts rest : List Tok} (hts : ts.map Tok.bare = (3, [40], 0) :: (pr e 0 ++ [(3, [41], 0)])) {d : Nat} (hd : d < 8) {y : E} {r : List Tok} (h : fac kwd d (ts ++ rest) = .ok y r) :
  G kwd 3 d e (ts.map Tok.bare) := by
 have hq := map_cons' hts
 obtain ⟨to1, ts1, rfl, h1, h2⟩ := hq
 have hq := map_split h2
 obtain ⟨tx, tc', rfl, h3, h4⟩ := hq
 have hq := map_one' h4
 obtain ⟨tc, rfl, h5⟩ := hq
 rw [List.cons_append] at h
 obtain ⟨e', r', hin⟩ := paren_inner kwd (bare_sign h1) hd h
 rw [List.append_assoc, List.singleton_append] at hin
 obtain ⟨hg, _, _⟩ := inner_G kwd hf h3 (bare_sign h5) hin
 have := G.paren d e (pr e 0) 0 0 hd hg
 rw [List.map_cons, List.map_append, List.map_singleton, h1, h3, h5]
 simpa using this
section
variable {n : Nat}
theorem B_cons1 (c : UInt8) (u : List UInt8) : (⟨#[c]⟩ : ByteArray) ++ B u = B (c :: u) := by rw [eB1, B_append]; rfl
def ops5 : List UInt8 := [43, 45, 42, 47, 37]
def ks5 : List Int := [4, 5, 6, 7, 8]
theorem ops5_ok : ∀ q, q < 5 -> signs.contains (ops5.getD q 0) = true /\ ops5.getD q 0 ≠ 61 /\ (lvl (ks5.getD q 0) = 1 \/ lvl (ks5.getD q 0) = 2) /\ opAt (3, [ops5.getD q 0], 0) (lvl (ks5.getD q 0)) = some (ks5.getD q 0) /\ isOp (ks5.getD q 0) = true := by decide
theorem dig (k : Nat) (h : k < 10) : Lx [UInt8.ofNat (48 + k)] [(2, [UInt8.ofNat (48 + k)], k)] := by
 have := Lx.num (n := k) (by omega)
 rw [digits1 h] at this
 exact this
theorem lx_left {e : E} (hs : saneE e) {c : UInt8} (hc : signs.contains c = true) (h61 : c ≠ 61) : Lx ((((40 :: bs e 0) ++ [41, 32]) ++ [c]) ++ [32, 51, 32, 45, 32, 52]) (((3, [40], 0) :: (pr e 0 ++ [(3, [41], 0)])) ++ [(3, [c], 0), (2, [51], 3), (3, [45], 0), (2, [52], 4)]) := by
 have b : Lx0 [32] [] := Lx0.blank (by decide)
 have t1 : Lx ([45] ++ ([32] ++ [52])) ([(3, [45], 0)] ++ ([] ++ [(2, [52], 4)])) := (Lx0.sign (c := 45) (by decide) (by decide)).append (b.append (dig 4 (by omega)))
 have t2 : Lx ([51] ++ 32 :: ([45] ++ ([32] ++ [52]))) ([(2, [51], 3)] ++ ([] ++ ([(3, [45], 0)] ++ ([] ++ [(2, [52], 4)])))) := (dig 3 (by omega)).append (c := 32) (by decide) (b.append t1)
 have t3 := (lx_paren hs).append (b.append ((Lx0.sign hc h61).append (b.append t2)))
 simpa [List.append_assoc] using t3
end
def kO (e : Option E) : Int := match e with | some x => kE x | none => 0
def nO (e : Option E) : Int := match e with | some x => nE x | none => 0
def wO (e : Option E) : ByteArray := match e with | some x => wE x | none => (⟨#[]⟩ : ByteArray)
def oO (e : Option E) : List T := match e with | some x => oE x | none => []
mutual
def encS (pl : Nat -> Nat × Nat) : St -> T
 | .mk k n o m e body els p => T.agg [(T.sc (.int .i64 k)), (T.sc (.string (B n))), (T.sc (.string (B o))), (T.sc (.int .i64 (m : Int))), (T.sc (.int .i64 (kO e))), (T.sc (.int .i64 (nO e))), (T.sc (.string (wO e))), (T.list (oO e)), (T.list (encSL pl body)), (T.list (encSL pl els)), (T.sc (.complex .f64 (pl p).1 (pl p).2))]
def encSL (pl : Nat -> Nat × Nat) : List St -> List T
 | [] => []
 | x :: r => encS pl x :: encSL pl r
end
theorem encSL_map (pl : Nat -> Nat × Nat) : ∀ l : List St, encSL pl l = l.map (encS pl)
 | [] => by simp only [encSL, List.map_nil]
 | x :: l => by simp only [encSL, List.map_cons, encSL_map pl l]
theorem encSL_app (pl : Nat -> Nat × Nat) (l k : List St) : encSL pl (l ++ k) = encSL pl l ++ encSL pl k := by simp only [encSL_map, List.map_append]
theorem sized_S (pl : Nat -> Nat × Nat) (l : List St) : sized 11 (encSL pl l) = true := by
 rw [encSL_map]
 unfold sized
 rw [List.all_eq_true]
 intro y hy
 obtain ⟨t, _, rfl⟩ := List.mem_map.1 hy
 cases t
 simp only [encS]
 rfl
structure TkP (TS : List Tok) : Prop where
 tks : Tks TS
 sgn : ∀ t ∈ TS, t.kind = 3 -> wordB t.text = false
section
variable {s : ByteArray} {TS : List Tok} {n : Nat}
theorem txt_dec (t : Tok) (q : ByteArray) : (ByteArray.toList (B t.text) == ByteArray.toList q) = decide (t.text = L q) := by
 rw [bytes_eq, L_B]
 by_cases h : t.text = L q
 ·rw [decide_eq_true h, beq_iff_eq]; exact h
 ·rw [decide_eq_false h, beq_eq_false_iff_ne]; exact h
theorem sgn_is (hT : Tks TS) {r : List Tok} {t : Tok} (h : Suf TS (t :: r)) (c : UInt8) (hc : isL c = false) : ((t.kind == 1 || t.kind == 3) && (t.text == [c])) = isSign c t.bare := by
 unfold isSign Tok.bare
 simp only
 by_cases h1 : t.kind = 1
 ·have hw := hT.word t h.mem h1
  have : (t.text == [c]) = false := by
   rw [beq_eq_false_iff_ne]
   intro hh
   rw [hh] at hw
   simp [wordB, hc] at hw
  rw [this, Bool.and_false, Bool.and_false]
 ·rw [show (t.kind == 1) = false from beq_eq_false_iff_ne.2 h1, Bool.false_or]
abbrev Q14 := Int × ByteArray × ByteArray × Int × Int × Int × ByteArray × (List T) × (List T) × (List T) × (Nat × Nat) × (List T) × Int × Bool
abbrev Q4 := (List T) × (List T) × Int × Bool
def ResS (s : ByteArray) (TS : List Tok) (q : Option Q14) (len : Nat) : RS -> Prop
 | .ok (.mk k nm o m e body els p) r => q = some (k, B nm, B o, (m : Int), kO e, nO e, wO e, oO e, encSL (P s) body, encSL (P s) els, P s p, TS.map (encL s), ix TS r, false) /\ Suf TS r /\ Ended r /\ r.length < len
 | .bad r => (∃ k nm o m a b c d e f g, q = some (k, nm, o, m, a, b, c, d, e, f, g, TS.map (encL s), ix TS r, true)) /\ Suf TS r /\ Ended r
def ResB (s : ByteArray) (TS : List Tok) (q : Option Q4) (len : Nat) : RB -> Prop
 | .ok l r => q = some (encSL (P s) l, TS.map (encL s), ix TS r, false) /\ Suf TS r /\ Ended r /\ r.length < len
 | .bad r => (∃ l, q = some (l, TS.map (encL s), ix TS r, true)) /\ Suf TS r /\ Ended r
theorem lits : L (⟨#[108, 111, 99, 107]⟩ : ByteArray) = wLock /\ L (⟨#[117, 110, 108, 111, 99, 107]⟩ : ByteArray) = wUnlock /\ L (⟨#[115, 101, 110, 100]⟩ : ByteArray) = wSend /\ L (⟨#[114, 101, 99, 118]⟩ : ByteArray) = wRecv /\ L (⟨#[112, 114, 105, 110, 116]⟩ : ByteArray) = wPrint /\ L (⟨#[105, 102]⟩ : ByteArray) = wIf /\ L (⟨#[114, 101, 112, 101, 97, 116]⟩ : ByteArray) = wRepeat /\ L (⟨#[103, 111, 116, 111]⟩ : ByteArray) = wGoto /\ L (⟨#[108, 97, 98, 101, 108]⟩ : ByteArray) = wLabel /\ L (⟨#[101, 108, 115, 101]⟩ : ByteArray) = wElse /\ L (⟨#[103, 111]⟩ : ByteArray) = wGo := ⟨rfl, rfl, rfl, rfl, rfl, rfl, rfl, rfl, rfl, rfl, rfl⟩
theorem word_is (hP : TkP TS) {r : List Tok} {t : Tok} (h : Suf TS (t :: r)) (w : List UInt8) (hw : wordB w = true) : ((t.kind == 1 || t.kind == 3) && (t.text == w)) = isWord w t.bare := by
 unfold isWord Tok.bare
 simp only
 by_cases h3 : t.kind = 3
 ·have hq := hP.sgn t h.mem h3
  have : (t.text == w) = false := by
   rw [beq_eq_false_iff_ne]
   intro hh
   rw [hh, hw] at hq
   cases hq
  rw [this, Bool.and_false, Bool.and_false]
 ·rw [show (t.kind == 3) = false from beq_eq_false_iff_ne.2 h3, Bool.or_false]
theorem isWord_kind {w : List UInt8} {t : Tok} (h : isWord w t.bare = true) : t.kind = 1 := by
 simp only [isWord, Tok.bare, Bool.and_eq_true, beq_iff_eq] at h
 exact h.1
def ResL' (s : ByteArray) (TS : List Tok) (q : Option Q4) (len : Nat) : RB -> Prop
 | .ok l r => ∃ t, isSign 125 t.bare = true /\ q = some (encSL (P s) l, TS.map (encL s), ix TS (t :: r), false) /\ Suf TS (t :: r) /\ Ended (t :: r) /\ r.length < len
 | .bad r => (∃ l, sized 11 l = true /\ q = some (l, TS.map (encL s), ix TS r, true)) /\ Suf TS r /\ Ended r
end
def encD (pl : Nat -> Nat × Nat) (d : Dc) : T := T.agg [(T.sc (.int .i64 d.kind)), (T.sc (.string (B d.name))), (T.sc (.int .i64 (d.num : Int))), (T.sc (.complex .f64 (pl d.pos).1 (pl d.pos).2))]
def encT (pl : Nat -> Nat × Nat) (l : List St) : T := T.list (encSL pl l)
theorem sized_D (pl : Nat -> Nat × Nat) (l : List Dc) : sized 4 (l.map (encD pl)) = true := by
 unfold sized
 rw [List.all_eq_true]
 intro y hy
 obtain ⟨t, _, rfl⟩ := List.mem_map.1 hy
 rfl
theorem sized_T (pl : Nat -> Nat × Nat) (l : List (List St)) : sized 1 (l.map (encT pl)) = true := by
 unfold sized
 rw [List.all_eq_true]
 intro y hy
 obtain ⟨t, _, rfl⟩ := List.mem_map.1 hy
 rfl
section
variable {s : ByteArray} {TS : List Tok} {n : Nat}
def ResD (s : ByteArray) (TS : List Tok) (q : Option Q4) : RD -> Prop
 | .ok l r => q = some (l.map (encD (P s)), TS.map (encL s), ix TS r, false) /\ Suf TS r /\ Ended r
 | .bad r => (∃ l, sized 4 l = true /\ q = some (l, TS.map (encL s), ix TS r, true)) /\ Suf TS r /\ Ended r
theorem dcl_eq (acc : List Dc) (t : Tok) (r : List Tok) : dcl acc (t :: r) = (if t.kind = 1 /\ declK t.text ≠ 0 then (if acc.length = 24 then .bad (t :: r) else (match r with
   | [] => .bad []
   | t1 :: r1 => if isNm kwd t1.bare then (if declK t.text = 6 then (match r1 with
     | [] => .bad []
     | t2 :: r2 => if t2.kind = 2 /\ t2.num <= 3 then dcl (acc ++ [⟨6, t1.text, t2.num, t.pos⟩]) r2 else .bad (t2 :: r2)) else dcl (acc ++ [⟨declK t.text, t1.text, 0, t.pos⟩]) r1) else .bad (t1 :: r1)))
  else .ok acc (t :: r)) := by rw [dcl.eq_def] <;> rfl
theorem fitD (k : Nat) (x : T) (acc : List T) (hx : sized 4 [x] = true) (ha : acc.length <= 6001) {R : Type} (q : Option R) : must true ((Nat.beq 4 4 || Nat.beq 4 0) && (decide (List.length acc + List.length [x] <= 1073741824) && sized 4 [x])) q = q := by
 rw [List.length_singleton, decide_eq_true (show acc.length + 1 <= 1073741824 by omega), hx]
 rfl
theorem sized_add {es : List T} {x : T} (h : sized 4 es = true) (hx : sized 4 [x] = true) : sized 4 (es ++ [x]) = true := by
 unfold sized at *
 rw [List.all_append, h, hx]
 rfl
abbrev Q7 := (List T) × Int × Bool × (List T) × (List T) × (List T) × (List T)
def ResT (s : ByteArray) (TS : List Tok) (x y z : List T) (q : Option Q7) : RT -> Prop
 | .ok l r => q = some (TS.map (encL s), ix TS r, false, x, y, z, l.map (encT (P s))) /\ Suf TS r /\ Ended r
 | .bad r => (∃ l, sized 1 l = true /\ q = some (TS.map (encL s), ix TS r, true, x, y, z, l)) /\ Suf TS r /\ Ended r
theorem thr_eq (acc : List (List St)) (t : Tok) (r : List Tok) : thr acc (t :: r) = (if acc ≠ [] /\ t.kind = 4 then .ok acc (t :: r)
  else if acc.length = 4 then .bad (t :: r)
  else if isWord wGo t.bare then (match blk 0 r with
   | .bad r' => .bad r'
   | .ok l r' => if r'.length <= r.length then thr (acc ++ [l]) r' else .bad r')
  else .bad (t :: r)) := by rw [thr.eq_def] <;> rfl
theorem fitT (x : List T) (acc : List T) (ha : acc.length <= 6001) {R : Type} (q : Option R) : must true ((Nat.beq 1 1 || Nat.beq 1 0) && (decide (List.length acc + List.length [T.list x] <= 1073741824) && sized 1 [T.list x])) q = q := by
 rw [List.length_singleton, decide_eq_true (show acc.length + 1 <= 1073741824 by omega)]
 rfl
theorem sized_addT {es : List T} {x : List T} (h : sized 1 es = true) : sized 1 (es ++ [T.list x]) = true := by
 unfold sized at *
 rw [List.all_append, h]
 rfl
end
theorem lexR_mem {Q : Tok -> Prop} (hQ : ∀ r p t, tokAt r p = some t -> Q t) : ∀ (k : Nat) (r : List UInt8) (p : Nat) (acc l : List Tok), r.length <= k -> (∀ t ∈ acc, Q t) -> lexR r p acc = .ok l -> ∀ t ∈ l, Q t := by
 intro k
 induction k with
 | zero =>
  intro r p acc l hr ha h
  obtain rfl := List.eq_nil_of_length_eq_zero (Nat.le_zero.1 hr)
  rw [lexR_nil] at h
  simp only [LR.ok.injEq] at h
  subst h
  exact ha
 | succ k ih =>
  intro r p acc l hr ha h
  cases r with
  | nil =>
   rw [lexR_nil] at h
   simp only [LR.ok.injEq] at h
   subst h
   exact ha
  | cons c r =>
   simp only [List.length_cons] at hr
   cases hb : W.blank c with
   | true => rw [lexR_blank hb] at h; exact ih r _ acc l (by omega) ha h
   | false =>
    by_cases h35 : c = 35
    ·subst h35
     rw [lexR_note] at h
     exact ih _ _ acc l (by have := dropWhile_le (· != 10) r; omega) ha h
    ·cases ht : tokAt (c :: r) p with
     | none => rw [lexR_bad hb h35 ht] at h; cases h
     | some t =>
      rw [lexR_tok hb h35 ht] at h
      refine ih _ _ (acc ++ [t]) l (by simp only [List.length_drop]; omega) ?_ h
      intro x hx
      rcases List.mem_append.1 hx with hx | hx
      ·exact ha x hx
      ·simp only [List.mem_singleton] at hx; subst hx; exact hQ _ _ _ ht
theorem tokAt_sign {r : List UInt8} {p : Nat} {t : Tok} (h : tokAt r p = some t) : t.kind = 3 -> wordB t.text = false := by
 unfold tokAt at h
 cases r with
 | nil => cases h
 | cons c r' =>
  simp only at h
  split at h
  ·split at h
   ·simp only [Option.some.injEq] at h; subst h; intro h; simp at h
   ·cases h
  ·split at h
   ·split at h
    ·simp only [Option.some.injEq] at h; subst h; intro h; simp at h
    ·cases h
   ·split at h
    ·rename_i hs
     have hf := sign_facts c (by simpa using hs)
     split at h <;> (simp only [Option.some.injEq] at h; subst h; intro _)
     ·rfl
     ·simp [wordB, hf.2.2.1]
    ·cases h
theorem tkp_of {u : List UInt8} (hu : u.length <= 6000) {l : List Tok} (hl : lexR u 0 [] = .ok l) : TkP (l ++ [endT u]) := by
 refine ⟨tks_of hu hl, fun t ht h3 => ?_⟩
 rcases List.mem_append.1 ht with ht | ht
 ·exact lexR_mem (Q := fun t => t.kind = 3 -> wordB t.text = false) (fun r p t h => tokAt_sign h) u.length u 0 [] l (Nat.le_refl _) (by simp) hl t ht h3
 ·simp only [List.mem_singleton] at ht; subst ht; cases h3
def tabsL (d : Nat) : List UInt8 := List.replicate d 9
def bsO (e : Option E) : List UInt8 := match e with | some x => bs x 0 | none => []
mutual
def tx : St -> Nat -> List UInt8
 | .mk k n o m e body els p, d =>
  if k = 1 then n ++ 32 :: 61 :: 32 :: bsO e
  else if k = 2 then wLock ++ 32 :: n
  else if k = 3 then wUnlock ++ 32 :: n
  else if k = 4 then wSend ++ 32 :: (n ++ 32 :: bsO e)
  else if k = 5 then wRecv ++ 32 :: (n ++ 32 :: o)
  else if k = 6 then wPrint ++ 32 :: bsO e
  else if k = 9 then wGoto ++ 32 :: n
  else if k = 10 then wLabel ++ 32 :: n
  else if k = 7 then wIf ++ (32 : UInt8) :: (bsO e ++ (32 : UInt8) :: (123 : UInt8) :: (10 : UInt8) :: (txL body (d + 1) ++ (tabsL d ++ (125 : UInt8) :: (match els with
   | [] => ([] : List UInt8)
   | _ :: _ => (32 : UInt8) :: (wElse ++ (32 : UInt8) :: (123 : UInt8) :: (10 : UInt8) :: (txL els (d + 1) ++ (tabsL d ++ [125])))))))
  else if k = 8 then wRepeat ++ (32 : UInt8) :: (Lib.decDigits m ++ (32 : UInt8) :: (123 : UInt8) :: (10 : UInt8) :: (txL body (d + 1) ++ (tabsL d ++ [125])))
  else [63]
def txL : List St -> Nat -> List UInt8
 | [], _ => []
 | s :: r, d => tabsL d ++ (tx s d ++ 10 :: txL r d)
end
theorem sp {v : List UInt8} {vs : List Bk} (k : Lx v vs) : Lx (32 :: v) vs := (Lx0.blank (c := 32) (by decide)).append k
theorem bl {c : UInt8} {v : List UInt8} {vs : List Bk} (h : blank c = true) (k : Lx0 v vs) : Lx0 (c :: v) vs := (Lx0.blank h).append0 k
theorem sg {c : UInt8} {v : List UInt8} {vs : List Bk} (h : signs.contains c = true) (h61 : c ≠ 61) (k : Lx0 v vs) : Lx0 (c :: v) (sgT c :: vs) := (Lx0.sign h h61).append0 k
theorem wd {w v : List UInt8} {vs : List Bk} (hw : wordB w = true) (k : Lx v vs) : Lx (w ++ 32 :: v) (nmT w :: vs) := (Lx.word hw).append (c := 32) (by decide) (sp k)
theorem wd0 {w v : List UInt8} {vs : List Bk} (hw : wordB w = true) (k : Lx0 v vs) : Lx0 (w ++ 32 :: v) (nmT w :: vs) := (Lx.word hw).append0 (c := 32) (by decide) (bl (by decide) k)
theorem tabs0 {v : List UInt8} {vs : List Bk} (k : Lx0 v vs) : ∀ d, Lx0 (tabsL d ++ v) vs
 | 0 => k
 | d + 1 => bl (by decide) (tabs0 k d)
theorem eO {e : Option E} (h : okE e) : Lx (bsO e) (prO e) := by
 cases e with
 | none => exact h.elim
 | some x => exact Lx.expr h.1
theorem brace {v : List UInt8} {vs : List Bk} (k : Lx0 v vs) : Lx0 (32 :: 123 :: 10 :: v) (sgT 123 :: vs) := bl (by decide) (sg (by decide) (by decide) (bl (by decide) k))
mutual
theorem lx_S : ∀ (s : St) {d : Nat} (D : Nat), okS s d -> Lx (tx s D) (tkS s)
 | .mk k n o m e body els p, d, D, h => by
  unfold okS at h
  unfold tx tkS
  split at h
  ·rename_i hk
   subst hk
   rw [if_pos rfl, if_pos rfl]
   exact (Lx.word h.1.1).append (c := 32) (by decide) (sp (Lx.append (Lx.eq) (c := 32) (by decide) (sp (eO h.2.2.2.1))))
  rename_i h1
  rw [if_neg h1, if_neg h1]
  split at h
  ·rename_i hk
   rcases hk with rfl | rfl | rfl | rfl
   ·rw [if_pos rfl, if_pos rfl]; exact wd (by decide) (Lx.word h.1.1)
   ·simp only [Int.reduceEq, if_false, if_true]; exact wd (by decide) (Lx.word h.1.1)
   ·simp only [Int.reduceEq, if_false, if_true]; exact wd (by decide) (Lx.word h.1.1)
   ·simp only [Int.reduceEq, if_false, if_true]; exact wd (by decide) (Lx.word h.1.1)
  split at h
  ·rename_i hk
   subst hk
   simp only [Int.reduceEq, if_false, if_true]
   exact wd (by decide) (wd h.1.1 (eO h.2.2.2.1))
  split at h
  ·rename_i hk
   subst hk
   simp only [Int.reduceEq, if_false, if_true]
   exact wd (by decide) (wd h.1.1 (Lx.word h.2.1.1))
  split at h
  ·rename_i hk
   subst hk
   simp only [Int.reduceEq, if_false, if_true]
   exact wd (by decide) (eO h.2.2.2.1)
  split at h
  ·rename_i hk
   subst hk
   simp only [Int.reduceEq, if_false, if_true]
   obtain ⟨_, _, _, he, _, hB, hF⟩ := h
   refine wd (by decide) (Lx0.to ((eO he).append0 (c := 32) (by decide) (brace ((lx_L body (D + 1) hB).append0 (tabs0 (sg (by decide) (by decide) ?_) D)))))
   cases els with
   | nil => exact Lx0.nil
   | cons x r =>
    have hL := lx_L (x :: r) (D + 1) hF
    simp only [tkL] at hL
    exact bl (by decide) (wd0 (w := wElse) (by decide) (sg (by decide) (by decide) (bl (by decide) (hL.append0 (tabs0 (Lx0.sign (by decide) (by decide)) D)))))
  split at h
  ·rename_i hk
   subst hk
   simp only [Int.reduceEq, if_false, if_true]
   obtain ⟨_, _, hm, _, _, hB, _⟩ := h
   exact wd (by decide) (Lx0.to ((Lx.num (by omega)).append0 (c := 32) (by decide) (brace ((lx_L body (D + 1) hB).append0 (tabs0 (Lx0.sign (by decide) (by decide)) D)))))
  ·exact h.elim
theorem lx_L : ∀ (l : List St) {d : Nat} (D : Nat), okL l d -> Lx0 (txL l D) (tkL l)
 | [], d, D, _ => by simp only [txL, tkL]; exact Lx0.nil
 | s :: r, d, D, h => by
  simp only [okL] at h
  simp only [txL, tkL]
  exact tabs0 ((lx_S s D h.1).append0 (c := 10) (by decide) (bl (by decide) (lx_L r D h.2))) D
end
section
variable {n : Nat}
theorem wrap8 {x : Int} (h1 : 0 <= x) (h2 : x <= 255) : IntKind.wrap .u8 x = x := by
 have e : IntKind.wrap .u8 x = x % 256 := by
  show (if (false && decide (x % (2 ^ 8 : Int) ≥ (2 ^ 7 : Int))) = true then x % (2 ^ 8 : Int) - (2 ^ 8 : Int) else x % (2 ^ 8 : Int)) = _
  simp only [Bool.false_and, Bool.false_eq_true, if_false]
  rfl
 rw [e]; omega
theorem digit1 (d : Int) (h1 : 0 <= d) (h2 : d < 10) : bytesIf true [(T.sc (.int .u8 (IntKind.wrap .u8 (IntKind.wrap .i64 (48 + d)))))] = some [UInt8.ofNat (48 + d.toNat)] := by
 rw [wrap_id (x := 48 + d) (by omega) (by omega), wrap8 (by omega) (by omega)]
 have : (48 + d).toNat = 48 + d.toNat := by omega
 simp only [bytesIf, cond_true, bytesL, Option.map_some, this]
theorem digs_len : ∀ (k u : Nat), u < 10 ^ k -> 0 < k -> (Lib.decDigits u).length <= k
 | 0, _, _, h => absurd h (Nat.lt_irrefl _)
 | k + 1, u, h, _ => by
  rw [Lib.decDigits]
  by_cases h10 : u < 10
  ·rw [dif_pos h10]; simp
  ·rw [dif_neg h10]
   have hk : 0 < k := by
    rcases Nat.eq_zero_or_pos k with rfl | h0
    ·simp at h; omega
    ·exact h0
   have := digs_len k (u / 10) (by rw [Nat.pow_succ] at h; exact Nat.div_lt_of_lt_mul (by omega)) hk
   simp only [List.length_append, List.length_singleton]
   omega
def lev : E -> Nat
 | .num _ => 5
 | .name _ => 5
 | .neg _ => 4
 | .bin k _ _ => lvl k + 1
theorem bs_side {e : E} (hs : saneE e) (l : Nat) (hl : l <= 3) : bs e l = if lev e < l + 1 then 40 :: (bs e 0 ++ [41]) else bs e 0 := by
 cases e with
 | num k => rw [if_neg (by simp only [lev]; omega)]; simp only [bs]
 | name w => rw [if_neg (by simp only [lev]; omega)]; simp only [bs]
 | neg e => rw [if_neg (by simp only [lev]; omega)]; simp only [bs]
 | bin k a b =>
  have e0 : bs (.bin k a b) 0 = bs a (left k) ++ 32 :: (sgn k ++ 32 :: bs b (lvl k + 1)) := by rw [bs, if_neg (by omega)]
  rw [e0]
  by_cases h : lvl k < l
  ·rw [bs, if_pos h, if_pos (show lev (.bin k a b) < l + 1 by simp only [lev]; omega)]
  ·rw [bs, if_neg h, if_neg (show ¬ lev (.bin k a b) < l + 1 by simp only [lev]; omega)]
end
section
variable {n : Nat}
def St.e : St -> Option E | .mk _ _ _ _ e _ _ _ => e
theorem fit_S (pl : Nat -> Nat × Nat) (s : St) : fits [.int .i64, .str, .str, .int .i64, .int .i64, .int .i64, .str, .list, .list, .list, .cplx .f64] (encS pl s) = true := by
 cases s
 simp only [encS]
 rfl
theorem idx_S (pl : Nat -> Nat × Nat) {l : List St} {i : Nat} (h : i < l.length) : idx true [.int .i64, .str, .str, .int .i64, .int .i64, .int .i64, .str, .list, .list, .list, .cplx .f64] (encSL pl l) (i : Int) = some (encS pl l[i]) := by
 rw [encSL_map]
 unfold idx
 rw [cond_true, decide_eq_true (Int.natCast_nonneg _), cond_true, Int.toNat_natCast]
 simp [h, fit_S]
theorem encSL_len (pl : Nat -> Nat × Nat) (l : List St) : (encSL pl l).length = l.length := by rw [encSL_map, List.length_map]
theorem wlens : wLock.length = 4 /\ wUnlock.length = 6 /\ wSend.length = 4 /\ wRecv.length = 4 /\ wPrint.length = 5 /\ wIf.length = 2 /\ wElse.length = 4 /\ wRepeat.length = 6 /\ wGoto.length = 4 /\ wLabel.length = 5 := ⟨rfl, rfl, rfl, rfl, rfl, rfl, rfl, rfl, rfl, rfl⟩
end
def declW (k : Int) : List UInt8 := if k = 1 then wVar else if k = 2 then wWide else if k = 3 then wAtomic else if k = 4 then wLocal else if k = 5 then wMutex else wChan
def okD (d : Dc) : Prop := (1 <= d.kind /\ d.kind <= 6) /\ okN d.name /\ (d.kind ≠ 6 -> d.num = 0) /\ d.num <= 3
def dtx (d : Dc) : List UInt8 := declW d.kind ++ 32 :: (d.name ++ (if d.kind = 6 then 32 :: Lib.decDigits d.num else []))
def dtL : List Dc -> List UInt8
 | [] => []
 | d :: r => dtx d ++ 10 :: dtL r
def ttL : List (List St) -> List UInt8
 | [] => []
 | l :: r => wGo ++ 32 :: 123 :: 10 :: (txL l 1 ++ 125 :: 10 :: ttL r)
def tkD (d : Dc) : List Bk := nmT (declW d.kind) :: nmT d.name :: (if d.kind = 6 then [(2, Lib.decDigits d.num, d.num)] else [])
def tkDL : List Dc -> List Bk
 | [] => []
 | d :: r => tkD d ++ tkDL r
def tkTL : List (List St) -> List Bk
 | [] => []
 | l :: r => nmT wGo :: sgT 123 :: (tkL l ++ sgT 125 :: tkTL r)
def Dc.strip (d : Dc) : Dc := ⟨d.kind, d.name, d.num, 0⟩
def okDL (l : List Dc) : Prop := ∀ d ∈ l, okD d
def okTL (l : List (List St)) : Prop := ∀ t ∈ l, okL t 1
theorem kinds {k : Int} (h : 1 <= k /\ k <= 6) : k = 1 \/ k = 2 \/ k = 3 \/ k = 4 \/ k = 5 \/ k = 6 := by omega
theorem declW_word {k : Int} (h : 1 <= k /\ k <= 6) : wordB (declW k) = true /\ declK (declW k) = k := by
 rcases kinds h with rfl | rfl | rfl | rfl | rfl | rfl <;> exact ⟨by decide, by decide⟩
theorem lx_D {d : Dc} (h : okD d) : Lx (dtx d) (tkD d) := by
 unfold dtx tkD
 refine wd (declW_word h.1).1 ?_
 by_cases h6 : d.kind = 6
 ·rw [if_pos h6, if_pos h6]
  have := h.2.2.2
  exact wd h.2.1.1 (Lx.num (by omega))
 ·rw [if_neg h6, if_neg h6, List.append_nil]
  exact Lx.word h.2.1.1
theorem lx_DL : ∀ {l : List Dc}, okDL l -> Lx0 (dtL l) (tkDL l)
 | [], _ => Lx0.nil
 | d :: r, h => (lx_D (h d (by simp))).append0 (c := 10) (by decide) (bl (by decide) (lx_DL (l := r) (fun x hx => h x (by simp [hx]))))
theorem lx_TL : ∀ {l : List (List St)}, okTL l -> Lx0 (ttL l) (tkTL l)
 | [], _ => Lx0.nil
 | t :: r, h => wd0' (lx_TL (l := r) (fun x hx => h x (by simp [hx]))) (lx_L t 1 (h t (by simp)))
where
 wd0' {t : List St} {v : List UInt8} {vs : List Bk} (k : Lx0 v vs) (hL : Lx0 (txL t 1) (tkL t)) : Lx0 (wGo ++ 32 :: 123 :: 10 :: (txL t 1 ++ 125 :: 10 :: v)) (nmT wGo :: sgT 123 :: (tkL t ++ sgT 125 :: vs)) :=
  wd0 (w := wGo) (by decide) (sg (by decide) (by decide) (bl (by decide) (hL.append0 (sg (by decide) (by decide) (bl (by decide) k)))))
def endD (rest : List Tok) : Prop := ∃ t r, rest = t :: r /\ ¬ (t.kind = 1 /\ declK t.text ≠ 0)
theorem read_D : ∀ (ds acc : List Dc) (ts rest : List Tok), okDL ds -> acc.length + ds.length <= 24 -> ts.map Tok.bare = tkDL ds -> endD rest -> ∃ ds', dcl acc (ts ++ rest) = .ok (acc ++ ds') rest /\ ds'.map Dc.strip = ds.map Dc.strip
 | [], acc, ts, rest, _, _, ht, ⟨t, r, hr, hn⟩ => by
  obtain rfl := map_nil' ht
  subst hr
  exact ⟨[], by rw [List.nil_append, dcl_eq, if_neg hn, List.append_nil], rfl⟩
 | d :: ds, acc, ts, rest, hok, hl, ht, hr => by
  have hd := hok d (by simp)
  simp only [List.length_cons] at hl
  simp only [tkDL, tkD, List.cons_append] at ht
  have hq := map_cons' ht
  clear ht
  obtain ⟨t, ts, rfl, h1, ht⟩ := hq
  have hq := map_cons' ht
  clear ht
  obtain ⟨t1, ts, rfl, h2, ht⟩ := hq
  have hb := bare_nm h1
  have hw := declW_word hd.1
  have hk : declK t.text = d.kind := by rw [hb.2]; exact hw.2
  rw [List.cons_append, List.cons_append, dcl_eq, if_pos ⟨hb.1, by rw [hk]; have := hd.1; omega⟩, if_neg (by omega), hk]
  simp only
  rw [if_pos (isNm_kw h2 hd.2.1.2), (bare_nm h2).2]
  by_cases h6 : d.kind = 6
  ·rw [if_pos h6] at ht ⊢
   have hq := map_cons' ht
   clear ht
   obtain ⟨t2, ts, rfl, h3, ht⟩ := hq
   have h3' : t2.kind = 2 /\ t2.num = d.num := by simp only [Tok.bare, Prod.mk.injEq] at h3; exact ⟨h3.1, h3.2.2⟩
   obtain ⟨ds', e1, e2⟩ := read_D ds (acc ++ [⟨6, d.name, t2.num, t.pos⟩]) ts rest (fun x hx => hok x (by simp [hx])) (by simp only [List.length_append, List.length_cons, List.length_nil]; omega) (by simpa using ht) hr
   refine ⟨⟨6, d.name, t2.num, t.pos⟩ :: ds', ?_, ?_⟩
   ·rw [List.cons_append]
    simp only
    rw [if_pos ⟨h3'.1, by rw [h3'.2]; exact hd.2.2.2⟩, e1, List.append_assoc]
    rfl
   ·rw [List.map_cons, List.map_cons, e2, h3'.2]
    simp only [Dc.strip, h6]
  ·rw [if_neg h6] at ht ⊢
   obtain ⟨ds', e1, e2⟩ := read_D ds (acc ++ [⟨d.kind, d.name, 0, t.pos⟩]) ts rest (fun x hx => hok x (by simp [hx])) (by simp only [List.length_append, List.length_cons, List.length_nil]; omega) (by simpa using ht) hr
   refine ⟨⟨d.kind, d.name, 0, t.pos⟩ :: ds', ?_, ?_⟩
   ·rw [e1, List.append_assoc]; rfl
   ·rw [List.map_cons, List.map_cons, e2]
    simp only [Dc.strip, hd.2.2.1 h6]
theorem read_T : ∀ (tl acc : List (List St)) (ts : List Tok) (e : Tok), okTL tl -> acc.length + tl.length <= 4 -> acc ++ tl ≠ [] -> ts.map Tok.bare = tkTL tl -> e.kind = 4 -> ∃ tl', thr acc (ts ++ [e]) = .ok (acc ++ tl') [e] /\ tl'.map stripL = tl.map stripL
 | [], acc, ts, e, _, _, hne, ht, he => by
  obtain rfl := map_nil' ht
  rw [List.append_nil] at hne
  exact ⟨[], by rw [List.nil_append, thr_eq, if_pos ⟨hne, he⟩, List.append_nil], rfl⟩
 | l :: tl, acc, ts, e, hok, hl, hne, ht, he => by
  simp only [List.length_cons] at hl
  simp only [tkTL] at ht
  have hq := map_cons' ht
  clear ht
  obtain ⟨t, ts, rfl, h1, ht⟩ := hq
  have hq := map_cons' ht
  clear ht
  obtain ⟨t1, ts, rfl, h2, ht⟩ := hq
  have hq := map_split ht
  clear ht
  obtain ⟨tb, ts, rfl, h3, ht⟩ := hq
  have hq := map_cons' ht
  clear ht
  obtain ⟨t2, ts, rfl, h4, ht⟩ := hq
  have hb := bare_nm h1
  obtain ⟨l', e1, e2⟩ := read_L l (d := 0) (hok l (by simp)) (ts := tb) (rest := ts ++ [e]) [] h3 h4
  have eB : blk 0 (t1 :: (tb ++ t2 :: ts) ++ [e]) = .ok l' (ts ++ [e]) := by
   rw [List.cons_append, blk_cons _ _ _ (by omega), if_pos (isSign_sg h2)]
   simpa [List.append_assoc] using e1
  obtain ⟨tl', f1, f2⟩ := read_T tl (acc ++ [l']) ts e (fun x hx => hok x (by simp [hx])) (by simp only [List.length_append, List.length_cons, List.length_nil]; omega) (by simp) ht he
  refine ⟨l' :: tl', ?_, ?_⟩
  ·rw [List.cons_append, thr_eq, if_neg (fun h => by rw [hb.1] at h; exact absurd h.2 (by decide)), if_neg (by omega), if_pos (by rw [h1]; rfl), eB]
   simp only
   rw [if_pos (by simp only [List.length_append, List.length_cons]; omega), f1, List.append_assoc]
   rfl
  ·rw [List.map_cons, List.map_cons, f2]
   rw [List.nil_append] at e2
   rw [e2]
theorem read_P {ds : List Dc} {tl : List (List St)} (hd : okDL ds) (h24 : ds.length <= 24) (ht : okTL tl) (h4 : tl.length <= 4) (hne : tl ≠ []) : ∃ l ds' tl', lexR (dtL ds ++ ttL tl) 0 [] = .ok l /\ prg (l ++ [endT (dtL ds ++ ttL tl)]) = .ok ds' tl' /\ ds'.map Dc.strip = ds.map Dc.strip /\ tl'.map stripL = tl.map stripL := by
 obtain ⟨l, h1, h2⟩ := ((lx_DL hd).append0 (lx_TL ht)).to.all
 have hq := map_split h1
 obtain ⟨t1, t2, rfl, g1, g2⟩ := hq
 have hend : endD (t2 ++ [endT (dtL ds ++ ttL tl)]) := by
  cases tl with
  | nil => exact absurd rfl hne
  | cons x tl =>
   simp only [tkTL] at g2
   have hq := map_cons' g2
   obtain ⟨t, ts, rfl, h3, _⟩ := hq
   have hb := bare_nm h3
   exact ⟨t, _, rfl, fun h => h.2 (by rw [hb.2]; decide)⟩
 obtain ⟨ds', e1, e2⟩ := read_D ds [] t1 (t2 ++ [endT (dtL ds ++ ttL tl)]) hd (by simpa using h24) g1 hend
 obtain ⟨tl', f1, f2⟩ := read_T tl [] t2 (endT (dtL ds ++ ttL tl)) ht (by simpa using h4) (by simpa using hne) g2 rfl
 refine ⟨t1 ++ t2, ds', tl', h2, ?_, e2, f2⟩
 unfold prg
 rw [List.append_assoc, e1]
 simp only
 rw [f1]
 rfl
section
variable {n : Nat}
theorem fit_D (pl : Nat -> Nat × Nat) (d : Dc) : fits [.int .i64, .str, .int .i64, .cplx .f64] (encD pl d) = true := rfl
theorem idx_D (pl : Nat -> Nat × Nat) {l : List Dc} {i : Nat} (h : i < l.length) : idx true [.int .i64, .str, .int .i64, .cplx .f64] (l.map (encD pl)) (i : Int) = some (encD pl l[i]) := by
 unfold idx
 rw [cond_true, decide_eq_true (Int.natCast_nonneg _), cond_true, Int.toNat_natCast]
 simp [h, fit_D]
theorem idx_T (pl : Nat -> Nat × Nat) {l : List (List St)} {i : Nat} (h : i < l.length) : idx true [.list] (l.map (encT pl)) (i : Int) = some (encT pl l[i]) := by
 unfold idx
 rw [cond_true, decide_eq_true (Int.natCast_nonneg _), cond_true, Int.toNat_natCast]
 have : ∀ x : List St, fits [.list] (encT pl x) = true := fun _ => rfl
 simp [h, this]
end
section
variable {n : Nat}
theorem tx_sub {k : Int} {nm o : List UInt8} {m : Nat} {e : Option E} {body els : List St} {p d : Nat} (h : okS (.mk k nm o m e body els p) d) :
  (txL body (d + 1)).length <= (tx (.mk k nm o m e body els p) d).length /\ (txL els (d + 1)).length <= (tx (.mk k nm o m e body els p) d).length /\ okL body (d + 1) /\ okL els (d + 1) /\ (d < 8 \/ (body = [] /\ els = [])) /\ (bsO e).length <= (tx (.mk k nm o m e body els p) d).length := by
 unfold okS at h
 have nl : (txL [] (d + 1)).length = 0 := by simp only [txL, List.length_nil]
 split at h
 ·rename_i hk; subst hk
  obtain ⟨_, _, _, he, rfl, rfl⟩ := h
  refine ⟨by omega, by omega, by simp only [okL], by simp only [okL], .inr ⟨rfl, rfl⟩, ?_⟩
  simp only [tx, if_true, List.length_append, List.length_cons]; omega
 split at h
 ·obtain ⟨_, _, _, rfl, rfl, rfl⟩ := h
  exact ⟨by omega, by omega, by simp only [okL], by simp only [okL], .inr ⟨rfl, rfl⟩, by simp only [bsO, List.length_nil]; omega⟩
 split at h
 ·rename_i hk; subst hk
  obtain ⟨_, _, _, he, rfl, rfl⟩ := h
  refine ⟨by omega, by omega, by simp only [okL], by simp only [okL], .inr ⟨rfl, rfl⟩, ?_⟩
  simp only [tx, Int.reduceEq, if_false, if_true, List.length_append, List.length_cons]; omega
 split at h
 ·obtain ⟨_, _, _, rfl, rfl, rfl⟩ := h
  exact ⟨by omega, by omega, by simp only [okL], by simp only [okL], .inr ⟨rfl, rfl⟩, by simp only [bsO, List.length_nil]; omega⟩
 split at h
 ·rename_i hk; subst hk
  obtain ⟨_, _, _, he, rfl, rfl⟩ := h
  refine ⟨by omega, by omega, by simp only [okL], by simp only [okL], .inr ⟨rfl, rfl⟩, ?_⟩
  simp only [tx, Int.reduceEq, if_false, if_true, List.length_append, List.length_cons]; omega
 split at h
 ·rename_i hk; subst hk
  obtain ⟨_, _, _, he, hd, hB, hF⟩ := h
  refine ⟨?_, ?_, hB, hF, .inl hd, ?_⟩
  ·simp only [tx, Int.reduceEq, if_false, if_true, List.length_append, List.length_cons]; omega
  ·cases els with
   | nil => omega
   | cons y els =>
    simp only [tx, Int.reduceEq, if_false, if_true, List.length_append, List.length_cons]; omega
  ·simp only [tx, Int.reduceEq, if_false, if_true, List.length_append, List.length_cons]; omega
 split at h
 ·rename_i hk; subst hk
  obtain ⟨_, _, _, rfl, hd, hB, rfl⟩ := h
  refine ⟨?_, by omega, hB, by simp only [okL], .inl hd, by simp only [bsO, List.length_nil]; omega⟩
  simp only [tx, Int.reduceEq, if_false, if_true, List.length_append, List.length_cons]; omega
 ·exact h.elim
theorem stripL_map : ∀ l : List St, stripL l = l.map St.strip
 | [] => rfl
 | x :: l => by simp only [stripL, List.map_cons, stripL_map l]
theorem okL_at {l : List St} {d i : Nat} (h : okL l d) (hi : i < l.length) : okS l[i] d := by
 have e := List.take_append_drop i l
 rw [<- e] at h
 have h2 := (okL_append.1 h).2
 rw [List.drop_eq_getElem_cons hi] at h2
 simp only [okL] at h2
 exact h2.1
theorem txL_at : ∀ {l : List St} {d i : Nat} (hi : i < l.length), (tx l[i] d).length <= (txL l d).length
 | x :: l, d, 0, _ => by simp only [txL, List.length_append, List.length_cons, List.getElem_cons_zero]; omega
 | x :: l, d, i + 1, hi => by
  have := txL_at (l := l) (d := d) (i := i) (by simpa using hi)
  simp only [txL, List.length_append, List.length_cons, List.getElem_cons_succ]
  omega
theorem txL_len : ∀ (l : List St) (d : Nat), l.length <= (txL l d).length
 | [], d => by simp
 | x :: l, d => by simp only [txL, List.length_append, List.length_cons]; have := txL_len l d; omega
end
def pl0 : Nat -> Nat × Nat := fun _ => (0, 0)
section
variable {n : Nat}
theorem act_cell (x : Act5) : (x.t.cell 0).int = x.w /\ (x.t.cell 1).int = x.a /\ (x.t.cell 2).int = x.b /\ (x.t.cell 3).int = x.n /\ (x.t.cell 4).lst = ints .i64 x.e := ⟨rfl, rfl, rfl, rfl, rfl⟩
theorem sized_act (l : List Act5) : sized 5 (l.map Act5.t) = true := by
 unfold sized
 rw [List.all_map]
 exact List.all_eq_true.2 (fun x _ => rfl)
theorem idx_act {x : Act5} {l : List Act5} : idx true [.int .i64, .int .i64, .int .i64, .int .i64, .list] ((x :: l).map Act5.t) 0 = some x.t := rfl
theorem drop_act (x : Act5) (l : List Act5) : List.drop (Int.toNat 1) (List.take (Int.toNat ((List.length ((x :: l).map Act5.t) : Nat) : Int)) ((x :: l).map Act5.t)) = l.map Act5.t := by
 rw [Int.toNat_natCast, List.take_length]
 rfl
theorem short_eq (hn : 100000 < n) (a b c d : Int) (z : List Int) : ∃ x, m_suturehand_short n a b c d (ints .i64 z) = some (kE x, nE x, wE x, oE x) /\ saneE x /\ fitsE kwd x 0 0 /\ (bs x 0).length <= 22 := by
 unfold m_suturehand_short
 rw [ints_length]
 by_cases h : 3 < z.length
 ·rw [decide_eq_true (show (((z.length : Nat) : Int) : Int) > 3 by omega), cond_true, must_eq (by simp only [Bool.and_eq_true, decide_eq_true_eq]; exact ⟨⟨⟨by omega, by omega⟩, by omega⟩, sized_ints _⟩), show Int.toNat 3 = 3 from rfl, show Int.toNat 0 = 0 from rfl, take_ints, List.drop_zero]
  obtain ⟨x, h1, h2, h3⟩ := expr_eqL (n := n) (z.take 3) (by simp; omega) (by omega)
  rw [h1, Option.bind_some]
  refine ⟨x, rfl, h2.1, h2.2.1 0 0 (by omega), ?_⟩
  have := h3 0
  simp only [List.length_take] at this
  omega
 ·rw [decide_eq_false (show ¬ (((z.length : Nat) : Int) : Int) > 3 by omega), cond_false]
  obtain ⟨x, h1, h2, h3⟩ := expr_eqL (n := n) z (by omega) (by omega)
  rw [h1, Option.bind_some]
  refine ⟨x, rfl, h2.1, h2.2.1 0 0 (by omega), ?_⟩
  have := h3 0
  omega
theorem two_eq (a b : UInt8) (x : Int) : ∃ p, (p = a \/ p = b) /\ (∀ {R : Type} (f : T -> Option R), (Option.bind (m_suturehand_Pick n x 2) fun r => Option.bind (idx1 true (.str) [(T.sc (.string (⟨#[a]⟩ : ByteArray))), (T.sc (.string (⟨#[b]⟩ : ByteArray)))] r) f) = f (T.sc (.string (B [p])))) := by
 obtain ⟨q, hq, hq2⟩ := pick_eq n x 2 (by omega) (by omega)
 have : q = 0 \/ q = 1 := by omega
 rcases this with rfl | rfl
 ·exact ⟨a, .inl rfl, fun f => by rw [hq]; rfl⟩
 ·exact ⟨b, .inr rfl, fun f => by rw [hq]; rfl⟩
theorem fit11 (es : List T) (y : T) (h : es.length <= 100000) (hy : sized 11 [y] = true) {R : Type} (q : Option R) : must true ((Nat.beq 11 11 || Nat.beq 11 0) && (decide (List.length es + List.length [y] <= 1073741824) && sized 11 [y])) q = q := by
 rw [List.length_singleton, decide_eq_true (show es.length + 1 <= 1073741824 by omega), hy]
 rfl
structure StOk (n : Nat) (b : B_suturehand_stmts) (m : Nat) : Prop where
 st : ∀ (l : List Act5) (most : Int) (d : Nat), l.length <= 16 -> d <= 3 -> 3 < m + d -> ∃ (out : List St) (r : List Act5), b.suturehand_stmts (l.map Act5.t) most (d : Int) = some (encSL pl0 out, r.map Act5.t) /\ okL out d /\ (∀ x ∈ r, x ∈ l) /\ r.length <= l.length /\ (txL out d).length + 53 * r.length <= 53 * l.length
theorem txL_app (l : List St) (s : St) (d : Nat) : (txL (l ++ [s]) d).length = (txL l d).length + (d + (tx s d).length + 1) := by
 induction l with
 | nil => simp only [List.nil_append, txL, List.length_append, List.length_cons, List.length_nil, tabsL, List.length_replicate]; omega
 | cons x l ih => simp only [List.cons_append, txL, List.length_append, List.length_cons, ih]; omega
theorem tx7_len {e : E} {bd el : List St} {p d : Nat} : (tx (.mk 7 [] [] 0 (some e) bd el p) d).length <= (bs e 0).length + (txL bd (d + 1)).length + (txL el (d + 1)).length + 2 * d + 20 := by
 have w6 : wIf.length = 2 := rfl
 have w7 : wElse.length = 4 := rfl
 have tb : (tabsL d).length = d := List.length_replicate
 cases el with
 | nil => simp only [tx, bsO, Int.reduceEq, if_false, if_true, List.length_append, List.length_cons, List.length_nil]; omega
 | cons y el => simp only [tx, bsO, Int.reduceEq, if_false, if_true, List.length_append, List.length_cons, List.length_nil]; omega
theorem st_loop' (hn : 100000 < n) {b : B_suturehand_stmts} {m : Nat} (hb : StOk n b m) {d : Nat} (hd : d <= 3) (hm : 3 < m + 1 + d) (most : Int) : ∀ (k : Nat) (l : List Act5) (out : List St), l.length < k -> l.length <= 16 -> okL out d -> (txL out d).length + 53 * l.length <= 2000 →
  ∃ (out' : List St) (r : List Act5), l_suturehand_stmts_2 b n k (l.map Act5.t, most, (d : Int), encSL pl0 out) = some (r.map Act5.t, encSL pl0 out') /\ okL out' d /\ (∀ x ∈ r, x ∈ l) /\ r.length <= l.length /\ (txL out' d).length + 53 * r.length <= (txL out d).length + 53 * l.length := by
 intro k
 induction k with
 | zero => intro l out h; omega
 | succ k ih =>
  intro l out hk h16 hok h2000
  show ∃ (out' : List St) (r : List Act5), l_suturehand_stmts_2_B b n (l_suturehand_stmts_2 b n k) (l.map Act5.t, most, (d : Int), encSL pl0 out) = _ /\ _
  unfold l_suturehand_stmts_2_B
  simp only
  cases l with
  | nil =>
   have : (bif (decide ((((List.length (encSL pl0 out) : Nat) : Int) : Int) < most)) then (decide ((((List.length (([] : List Act5).map Act5.t) : Nat) : Int) : Int) > 0)) else false) = false := by
    cases (decide ((((List.length (encSL pl0 out) : Nat) : Int) : Int) < most)) <;> rfl
   rw [this, cond_false]
   exact ⟨out, [], rfl, hok, fun x hx => hx, Nat.le_refl _, Nat.le_refl _⟩
  | cons x l =>
  simp only [List.length_cons] at hk h16 h2000
  by_cases hmost : ¬ (((List.length (encSL pl0 out) : Nat) : Int) < most)
  ·rw [decide_eq_false hmost, cond_false, cond_false]
   exact ⟨out, x :: l, rfl, hok, fun x hx => hx, Nat.le_refl _, Nat.le_refl _⟩
  rw [decide_eq_true (Decidable.not_not.1 hmost), decide_eq_true (show ((((List.length ((x :: l).map Act5.t) : Nat) : Int) : Int) > 0) by simp only [List.length_map, List.length_cons]; omega), cond_true, cond_true, idx_act, Option.bind_some]
  rw [must_eq (by simp only [Bool.and_eq_true, decide_eq_true_eq]; exact ⟨⟨⟨by omega, by simp only [List.length_map, List.length_cons]; omega⟩, Int.le_refl _⟩, sized_act _⟩), drop_act]
  obtain ⟨v0, v1, v2, v3, v4⟩ := act_cell x
  rw [v0, v1, v2, v3, v4]
  have hol : (encSL pl0 out).length <= 2000 := by rw [encSL_len]; have := txL_len out d; omega
  have push : ∀ (S : St) (y : T) (l2 : List Act5), y = encS pl0 S -> okS S d -> l2.length <= l.length -> (∀ z ∈ l2, z ∈ l) -> (d + (tx S d).length + 1) + 53 * l2.length <= 53 * (l.length + 1) →
    ∃ (out' : List St) (r : List Act5), must true ((Nat.beq 11 11 || Nat.beq 11 0) && (decide (List.length (encSL pl0 out) + List.length [y] <= 1073741824) && sized 11 [y])) (l_suturehand_stmts_2 b n k (l2.map Act5.t, most, (d : Int), encSL pl0 out ++ [y])) = some (r.map Act5.t, encSL pl0 out') /\ okL out' d /\ (∀ z ∈ r, z ∈ x :: l) /\ r.length <= (x :: l).length /\ (txL out' d).length + 53 * r.length <= (txL out d).length + 53 * (x :: l).length := by
   rintro S y l2 rfl hS h2 hmem hlen
   rw [fit11 _ _ (by omega) (by cases S; simp only [encS]; rfl)]
   have e1 : encSL pl0 out ++ [encS pl0 S] = encSL pl0 (out ++ [S]) := by rw [encSL_app]; simp only [encSL]
   rw [e1]
   have hap := txL_app out S d
   obtain ⟨out', r, g1, g2, g3, g4, g5⟩ := ih l2 (out ++ [S]) (by omega) (by omega) (okL_append.2 ⟨hok, by simp only [okL]; exact ⟨hS, trivial⟩⟩) (by omega)
   exact ⟨out', r, g1, g2, fun z hz2 => by simp [hmem z (g3 z hz2)], by simp only [List.length_cons]; omega, by simp only [List.length_cons]; omega⟩
  have hup : IntKind.wrap .i64 ((d : Int) + 1) = ((d + 1 : Nat) : Int) := by rw [wrap_id (by omega) (by omega)]; omega
  rw [hup]
  obtain ⟨w1, w2, w3, w4, w5, w6, w7, w8, w9, w10⟩ := wlens
  obtain ⟨q, hq, hq24⟩ := pick_eq n x.w 24 (by omega) (by omega)
  obtain ⟨ex, hex, hxs, hxf, hxl⟩ := short_eq (n := n) hn x.w x.a x.b x.n x.e
  rw [hq, Option.bind_some, hex]
  by_cases k9 : q < 9
  ·rw [decide_eq_true (show ((q : Nat) : Int) < 9 by omega), cond_true]
   obtain ⟨p, hp, hpl⟩ := plain_eq (n := n) x.a
   obtain ⟨n1, n2, n3⟩ := names8_ok p hp
   rw [hpl, Option.bind_some, Option.bind_some]
   exact push (.mk 1 p [] 0 (some ex) [] [] 0) _ l (by simp only [encS, encSL]; first | done | rfl) (by unfold okS; rw [if_pos rfl]; exact ⟨⟨n1, n2⟩, rfl, rfl, ⟨hxs, hxf⟩, rfl, rfl⟩) (Nat.le_refl _) (fun z hz => hz) (by simp only [tx, bsO, if_true, List.length_append, List.length_cons]; omega)
  rw [decide_eq_false (show ¬ ((q : Nat) : Int) < 9 by omega), cond_false]
  by_cases k11 : q < 11
  ·rw [decide_eq_true (show ((q : Nat) : Int) < 11 by omega), cond_true]
   exact push (.mk 2 [109] [] 0 none [] [] 0) _ l (by simp only [encS, encSL]; first | done | rfl) (by unfold okS; rw [if_neg (by decide), if_pos (by decide)]; exact ⟨⟨by decide, by decide⟩, rfl, rfl, rfl, rfl, rfl⟩) (Nat.le_refl _) (fun z hz => hz) (by simp only [tx, Int.reduceEq, if_false, if_true, List.length_append, List.length_cons, List.length_nil]; omega)
  rw [decide_eq_false (show ¬ ((q : Nat) : Int) < 11 by omega), cond_false]
  by_cases k13 : q < 13
  ·rw [decide_eq_true (show ((q : Nat) : Int) < 13 by omega), cond_true]
   exact push (.mk 3 [109] [] 0 none [] [] 0) _ l (by simp only [encS, encSL]; first | done | rfl) (by unfold okS; rw [if_neg (by decide), if_pos (by decide)]; exact ⟨⟨by decide, by decide⟩, rfl, rfl, rfl, rfl, rfl⟩) (Nat.le_refl _) (fun z hz => hz) (by simp only [tx, Int.reduceEq, if_false, if_true, List.length_append, List.length_cons, List.length_nil]; omega)
  rw [decide_eq_false (show ¬ ((q : Nat) : Int) < 13 by omega), cond_false]
  obtain ⟨pc, hpc, hpcf⟩ := two_eq (n := n) 99 100 x.a
  obtain ⟨pk, hpk, hpkf⟩ := two_eq (n := n) 108 107 x.a
  have okc : okN [pc] := by rcases hpc with rfl | rfl <;> exact ⟨by decide, by decide⟩
  have okk : okN [pk] := by rcases hpk with rfl | rfl <;> exact ⟨by decide, by decide⟩
  by_cases k15 : q < 15
  ·rw [decide_eq_true (show ((q : Nat) : Int) < 15 by omega), cond_true, hpcf, Option.bind_some]
   exact push (.mk 4 [pc] [] 0 (some ex) [] [] 0) _ l (by simp only [encS, encSL]; first | done | rfl) (by unfold okS; rw [if_neg (by decide), if_neg (by decide), if_pos rfl]; exact ⟨okc, rfl, rfl, ⟨hxs, hxf⟩, rfl, rfl⟩) (Nat.le_refl _) (fun z hz => hz) (by simp only [tx, bsO, Int.reduceEq, if_false, if_true, List.length_append, List.length_cons, List.length_nil]; omega)
  rw [decide_eq_false (show ¬ ((q : Nat) : Int) < 15 by omega), cond_false]
  by_cases k17 : q < 17
  ·rw [decide_eq_true (show ((q : Nat) : Int) < 17 by omega), cond_true, hpcf]
   obtain ⟨p, hp, hpl⟩ := plain_eq (n := n) x.b
   obtain ⟨n1, n2, n3⟩ := names8_ok p hp
   rw [hpl, Option.bind_some]
   exact push (.mk 5 [pc] p 0 none [] [] 0) _ l (by simp only [encS, encSL]; first | done | rfl) (by unfold okS; rw [if_neg (by decide), if_neg (by decide), if_neg (by decide), if_pos rfl]; exact ⟨okc, ⟨n1, n2⟩, rfl, rfl, rfl, rfl⟩) (Nat.le_refl _) (fun z hz => hz) (by simp only [tx, bsO, Int.reduceEq, if_false, if_true, List.length_append, List.length_cons, List.length_nil]; omega)
  rw [decide_eq_false (show ¬ ((q : Nat) : Int) < 17 by omega), cond_false]
  by_cases k18 : q < 18
  ·rw [decide_eq_true (show ((q : Nat) : Int) < 18 by omega), cond_true, Option.bind_some]
   exact push (.mk 6 [] [] 0 (some ex) [] [] 0) _ l (by simp only [encS, encSL]; first | done | rfl) (by unfold okS; rw [if_neg (by decide), if_neg (by decide), if_neg (by decide), if_neg (by decide), if_pos rfl]; exact ⟨rfl, rfl, rfl, ⟨hxs, hxf⟩, rfl, rfl⟩) (Nat.le_refl _) (fun z hz => hz) (by simp only [tx, bsO, Int.reduceEq, if_false, if_true, List.length_append, List.length_cons, List.length_nil]; omega)
  rw [decide_eq_false (show ¬ ((q : Nat) : Int) < 18 by omega), cond_false]
  by_cases k20 : q < 20 /\ d < 3
  ·rw [decide_eq_true (show ((q : Nat) : Int) < 20 by omega), decide_eq_true (show ((d : Nat) : Int) < 3 by omega), cond_true, cond_true, Option.bind_some]
   obtain ⟨y, hy, hy2⟩ := pick_eq n x.a 2 (by omega) (by omega)
   rw [hy, Option.bind_some]
   obtain ⟨o1, r1, f1, f2, f3, f4, f5⟩ := hb.st l (IntKind.wrap .i64 (1 + (y : Int))) (d + 1) (by omega) (by omega) (by omega)
   rw [f1, Option.bind_some, must_eq (by decide)]
   cases ((Int.tmod x.b 3 : Int) == 0) with
   | true =>
    rw [cond_true]
    obtain ⟨y', hy', _⟩ := pick_eq n x.n 2 (by omega) (by omega)
    rw [hy', Option.bind_some]
    obtain ⟨o2, r2, g1, g2, g3, g4, g5⟩ := hb.st r1 (IntKind.wrap .i64 (1 + (y' : Int))) (d + 1) (by omega) (by omega) (by omega)
    rw [g1, Option.bind_some]
    have ht := tx7_len (e := ex) (bd := o1) (el := o2) (p := 0) (d := d)
    exact push (.mk 7 [] [] 0 (some ex) o1 o2 0) _ r2 (by simp only [encS]; first | done | rfl) (by unfold okS; rw [if_neg (by decide), if_neg (by decide), if_neg (by decide), if_neg (by decide), if_neg (by decide), if_pos rfl]; exact ⟨rfl, rfl, rfl, ⟨hxs, hxf⟩, by omega, f2, g2⟩) (by omega) (fun z hz => f3 z (g3 z hz)) (by omega)
   | false =>
    rw [cond_false]
    have ht := tx7_len (e := ex) (bd := o1) (el := []) (p := 0) (d := d)
    have hnil : (txL [] (d + 1)).length = 0 := by simp only [txL, List.length_nil]
    exact push (.mk 7 [] [] 0 (some ex) o1 [] 0) _ r1 (by simp only [encS, encSL]; first | done | rfl) (by unfold okS; rw [if_neg (by decide), if_neg (by decide), if_neg (by decide), if_neg (by decide), if_neg (by decide), if_pos rfl]; exact ⟨rfl, rfl, rfl, ⟨hxs, hxf⟩, by omega, f2, by simp only [okL]⟩) (by omega) f3 (by omega)
  have c20 : (bif (decide (((q : Nat) : Int) < 20)) then (decide (((d : Nat) : Int) < 3)) else false) = false := by
   by_cases h : q < 20
   ·rw [decide_eq_true (show ((q : Nat) : Int) < 20 by omega), cond_true, decide_eq_false_iff_not]; omega
   ·rw [decide_eq_false (show ¬ ((q : Nat) : Int) < 20 by omega), cond_false]
  rw [c20, cond_false]
  by_cases k21 : q < 21 /\ d < 3
  ·rw [decide_eq_true (show ((q : Nat) : Int) < 21 by omega), decide_eq_true (show ((d : Nat) : Int) < 3 by omega), cond_true, cond_true]
   obtain ⟨y0, hy0, hy03⟩ := pick_eq n x.n 3 (by omega) (by omega)
   obtain ⟨y, hy, hy2⟩ := pick_eq n x.a 2 (by omega) (by omega)
   rw [hy0, Option.bind_some, hy, Option.bind_some]
   obtain ⟨o1, r1, f1, f2, f3, f4, f5⟩ := hb.st l (IntKind.wrap .i64 (1 + (y : Int))) (d + 1) (by omega) (by omega) (by omega)
   rw [f1, Option.bind_some]
   have tb : (tabsL d).length = d := List.length_replicate
   have hdg : (Lib.decDigits y0).length = 1 := by rw [digits1 (show y0 < 10 by omega)]; rfl
   exact push (.mk 8 [] [] y0 none o1 [] 0) _ r1 (by simp only [encS, encSL]; first | done | rfl) (by unfold okS; rw [if_neg (by decide), if_neg (by decide), if_neg (by decide), if_neg (by decide), if_neg (by decide), if_neg (by decide), if_pos rfl]; exact ⟨rfl, rfl, by omega, rfl, by omega, f2, rfl⟩) (by omega) f3 (by simp only [tx, Int.reduceEq, if_false, if_true, List.length_append, List.length_cons, List.length_nil]; omega)
  have c21 : (bif (decide (((q : Nat) : Int) < 21)) then (decide (((d : Nat) : Int) < 3)) else false) = false := by
   by_cases h : q < 21
   ·rw [decide_eq_true (show ((q : Nat) : Int) < 21 by omega), cond_true, decide_eq_false_iff_not]; omega
   ·rw [decide_eq_false (show ¬ ((q : Nat) : Int) < 21 by omega), cond_false]
  rw [c21, cond_false]
  by_cases k22 : q < 22
  ·rw [decide_eq_true (show ((q : Nat) : Int) < 22 by omega), cond_true, hpkf]
   exact push (.mk 9 [pk] [] 0 none [] [] 0) _ l (by simp only [encS, encSL]; first | done | rfl) (by unfold okS; rw [if_neg (by decide), if_pos (by decide)]; exact ⟨okk, rfl, rfl, rfl, rfl, rfl⟩) (Nat.le_refl _) (fun z hz => hz) (by simp only [tx, Int.reduceEq, if_false, if_true, List.length_append, List.length_cons, List.length_nil]; omega)
  rw [decide_eq_false (show ¬ ((q : Nat) : Int) < 22 by omega), cond_false]
  by_cases k23 : q < 23
  ·rw [decide_eq_true (show ((q : Nat) : Int) < 23 by omega), cond_true, hpkf]
   exact push (.mk 10 [pk] [] 0 none [] [] 0) _ l (by simp only [encS, encSL]; first | done | rfl) (by unfold okS; rw [if_neg (by decide), if_pos (by decide)]; exact ⟨okk, rfl, rfl, rfl, rfl, rfl⟩) (Nat.le_refl _) (fun z hz => hz) (by simp only [tx, Int.reduceEq, if_false, if_true, List.length_append, List.length_cons, List.length_nil]; omega)
  rw [decide_eq_false (show ¬ ((q : Nat) : Int) < 23 by omega), cond_false, Option.bind_some]
  exact push (.mk 1 [116] [] 0 (some ex) [] [] 0) _ l (by simp only [encS, encSL]; first | done | rfl) (by unfold okS; rw [if_pos rfl]; exact ⟨⟨by decide, by decide⟩, rfl, rfl, ⟨hxs, hxf⟩, rfl, rfl⟩) (Nat.le_refl _) (fun z hz => hz) (by simp only [tx, bsO, if_true, List.length_append, List.length_cons, List.length_nil]; omega)
theorem st_ok (hn : 100000 < n) : ∀ m, StOk n (unB_suturehand_stmts n m) m
 | 0 => ⟨fun l most d _ h1 h2 => by omega⟩
 | m + 1 => by
  have ih := st_ok hn m
  refine ⟨fun l most d h16 hd hm => ?_⟩
  have hnil : (txL [] d).length = 0 := by simp only [txL, List.length_nil]
  obtain ⟨out, r, g1, g2, g3, g4, g5⟩ := st_loop' hn ih hd (by omega) most n l [] (by omega) h16 (by simp only [okL]) (by omega)
  refine ⟨out, r, ?_, g2, g3, g4, by omega⟩
  show f_suturehand_stmts (unB_suturehand_stmts n m) n (l.map Act5.t) most (d : Int) = _
  unfold f_suturehand_stmts
  simp only [encSL] at g1
  rw [g1, Option.bind_some]
end
section
variable {n : Nat}
theorem pickW_nat (x m : Int) (h1 : 0 < m) (h2 : m <= 1000) : ∃ q : Nat, pickW x m = (q : Int) /\ (q : Int) < m := by
 have a1 : Int.tmod x m < m := Int.tmod_lt_of_pos x h1
 have a2 : -m < Int.tmod x m := by
  have := Int.tmod_lt_of_pos (-x) h1
  rw [Int.neg_tmod] at this
  omega
 unfold pickW
 by_cases h : Int.tmod x m < 0
 ·rw [if_pos h]
  refine ⟨(Int.tmod x m + m).toNat, ?_, by omega⟩
  unfold wrap64
  omega
 ·rw [if_neg h]
  exact ⟨(Int.tmod x m).toNat, by omega, by omega⟩
def dsOf (k0 k1 : Int) (q : Nat) : List Dc := [⟨k0, [120], 0, 0⟩, ⟨k1, [121], 0, 0⟩, ⟨2, [122], 0, 0⟩, ⟨3, [97], 0, 0⟩, ⟨4, [116], 0, 0⟩, ⟨5, [109], 0, 0⟩, ⟨6, [99], q, 0⟩, ⟨6, [100], 0, 0⟩]
theorem declW_len (k : Int) : (declW k).length <= 6 := by
 unfold declW
 repeat' split
 all_goals decide
theorem decls_eq (how : Int) : ∃ ds, m_suturehand_Decls n how = some (ds.map (encD pl0)) /\ okDL ds /\ ds.length = 8 /\ (dtL ds).length <= 100 := by
 obtain ⟨q, hq, hq3⟩ := pickW_nat how 3 (by omega) (by omega)
 unfold m_suturehand_Decls declsM declsK
 rw [hq]
 generalize hk0 : (if pickW (wrap64 (Int.tdiv how 3)) 7 = 4 then (2 : Int) else if pickW (wrap64 (Int.tdiv how 3)) 7 = 6 then 3 else 1) = k0
 generalize hk1 : (if pickW (wrap64 (Int.tdiv how 3)) 7 = 5 then (2 : Int) else 1) = k1
 have b0 : 1 <= k0 /\ k0 <= 3 := by subst hk0; split <;> (try split) <;> omega
 have b1 : 1 <= k1 /\ k1 <= 2 := by subst hk1; split <;> omega
 refine ⟨dsOf k0 k1 q, by rfl, ?_, rfl, ?_⟩
 ·intro d hd
  simp only [dsOf, List.mem_cons, List.not_mem_nil, or_false] at hd
  have m0 : okN [120] := ⟨by decide, by decide⟩
  have m1 : okN [121] := ⟨by decide, by decide⟩
  have m2 : okN [99] := ⟨by decide, by decide⟩
  rcases hd with rfl | rfl | rfl | rfl | rfl | rfl | rfl | rfl
  ·exact ⟨by simp only; omega, m0, fun _ => rfl, by simp only; omega⟩
  ·exact ⟨by simp only; omega, m1, fun _ => rfl, by simp only; omega⟩
  ·exact ⟨by decide, ⟨by decide, by decide⟩, fun _ => rfl, by decide⟩
  ·exact ⟨by decide, ⟨by decide, by decide⟩, fun _ => rfl, by decide⟩
  ·exact ⟨by decide, ⟨by decide, by decide⟩, fun _ => rfl, by decide⟩
  ·exact ⟨by decide, ⟨by decide, by decide⟩, fun _ => rfl, by decide⟩
  ·exact ⟨by simp only; omega, m2, fun h => absurd rfl h, by simp only; omega⟩
  ·exact ⟨by decide, ⟨by decide, by decide⟩, fun _ => rfl, by decide⟩
 ·have l0 := declW_len k0
  have l1 := declW_len k1
  have l2 := declW_len 2
  have l3 := declW_len 3
  have l4 := declW_len 4
  have l5 := declW_len 5
  have l6 := declW_len 6
  have hdg : (Lib.decDigits q).length = 1 := by rw [digits1 (show q < 10 by omega)]; rfl
  have hd0 : (Lib.decDigits 0).length = 1 := by rw [digits1 (show 0 < 10 by omega)]; rfl
  have n0 : ¬ k0 = 6 := by omega
  have n1 : ¬ k1 = 6 := by omega
  simp only [dsOf, dtL, dtx, n0, n1, if_false, if_true, Int.reduceEq, List.length_append, List.length_cons, List.length_nil]
  omega
theorem acts_eq (l : List Act5) : m_suturehand_acts n (l.map Act5.t) = some ((l.take 16).map Act5.t) := by
 unfold m_suturehand_acts
 rw [List.length_map]
 by_cases h : 16 < l.length
 ·rw [decide_eq_true (show (((l.length : Nat) : Int) : Int) > 16 by omega), cond_true, must_eq (by simp only [Bool.and_eq_true, decide_eq_true_eq]; exact ⟨⟨⟨by omega, by omega⟩, by omega⟩, sized_act _⟩), show Int.toNat 16 = 16 from rfl, show Int.toNat 0 = 0 from rfl, List.drop_zero, List.map_take]
 ·rw [decide_eq_false (show ¬ (((l.length : Nat) : Int) : Int) > 16 by omega), cond_false, List.take_of_length_le (by omega)]
theorem stmts_eq (hn : 100000 < n) (l : List Act5) (most : Int) : ∃ out x, m_suturehand_stmts n ((l.take 16).map Act5.t) most 1 = some (encSL pl0 out, x) /\ okL out 1 /\ (txL out 1).length <= 848 := by
 have hl : (l.take 16).length <= 16 := by simp only [List.length_take]; omega
 obtain ⟨out, r, h1, h2, _, _, h3⟩ := (st_ok hn n).st (l.take 16) most 1 hl (by omega) (by omega)
 exact ⟨out, _, h1, h2, by omega⟩
theorem prog_step (hn : 100000 < n) (k : (List T) × Int × (List T) × (List T) × (List T) × Int × (List T) × (List T) × (List T) × (List T) -> Option ((List T) × (List T) × (List T) × (List T))) (a b c : List Act5) (most : Int) (i : Nat) (hi : i = 0 \/ i = 1 \/ (i = 2 /\ c ≠ [] /\ most <= 4)) (x y z : List T) (acc : List (List St)) (ha : acc.length <= 10) :
  ∃ out, l_suturehand_Prog_3_B n k (c.map Act5.t, most, a.map Act5.t, b.map Act5.t, c.map Act5.t, (i : Int), x, y, z, acc.map (encT pl0)) = k (c.map Act5.t, most, a.map Act5.t, b.map Act5.t, c.map Act5.t, ((i + 1 : Nat) : Int), x, y, z, (acc ++ [out]).map (encT pl0)) /\ okL out 1 /\ (txL out 1).length <= 848 := by
 have hl : (acc.map (encT pl0)).length <= 6001 := by rw [List.length_map]; omega
 unfold l_suturehand_Prog_3_B
 simp only
 rcases hi with rfl | rfl | ⟨rfl, hc, hm⟩
 ·obtain ⟨out, r, h1, h2, h3⟩ := stmts_eq (n := n) hn a most
  refine ⟨out, ?_, h2, h3⟩
  rw [show (decide ((((0 : Nat) : Int) : Int) < 3)) = true from rfl, cond_true, show idx1 true (.list) [(T.list (a.map Act5.t)), (T.list (b.map Act5.t)), (T.list (c.map Act5.t))] ((0 : Nat) : Int) = some (T.list (a.map Act5.t)) from rfl, Option.bind_some, show ((((0 : Nat) : Int) : Int) == 2) = false from rfl, cond_false, cond_false, show (T.list (a.map Act5.t)).lst = a.map Act5.t from rfl, acts_eq, Option.bind_some, h1, Option.bind_some, fitT _ _ hl, List.map_append]
  rfl
 ·obtain ⟨out, r, h1, h2, h3⟩ := stmts_eq (n := n) hn b most
  refine ⟨out, ?_, h2, h3⟩
  rw [show (decide ((((1 : Nat) : Int) : Int) < 3)) = true from rfl, cond_true, show idx1 true (.list) [(T.list (a.map Act5.t)), (T.list (b.map Act5.t)), (T.list (c.map Act5.t))] ((1 : Nat) : Int) = some (T.list (b.map Act5.t)) from rfl, Option.bind_some, show ((((1 : Nat) : Int) : Int) == 2) = false from rfl, cond_false, cond_false, show (T.list (b.map Act5.t)).lst = b.map Act5.t from rfl, acts_eq, Option.bind_some, h1, Option.bind_some, fitT _ _ hl, List.map_append]
  rfl
 ·obtain ⟨out, r, h1, h2, h3⟩ := stmts_eq (n := n) hn c most
  refine ⟨out, ?_, h2, h3⟩
  have hcl : ((((List.length (c.map Act5.t) : Nat) : Int) : Int) == 0) = false := by
   rw [beq_eq_false_iff_ne, List.length_map]
   intro h
   exact hc (List.eq_nil_of_length_eq_zero (by omega))
  rw [show (decide ((((2 : Nat) : Int) : Int) < 3)) = true from rfl, cond_true, show idx1 true (.list) [(T.list (a.map Act5.t)), (T.list (b.map Act5.t)), (T.list (c.map Act5.t))] ((2 : Nat) : Int) = some (T.list (c.map Act5.t)) from rfl, Option.bind_some, show ((((2 : Nat) : Int) : Int) == 2) = true from rfl, cond_true, hcl, cond_false, decide_eq_false (show ¬ most > 4 by omega), cond_false, show (T.list (c.map Act5.t)).lst = c.map Act5.t from rfl, acts_eq, Option.bind_some, h1, Option.bind_some, fitT _ _ hl, List.map_append]
  rfl
theorem make_eq (hn : 100000 < n) (how : Int) (a b c : List Act5) (most : Int) : ∃ ds tl, m_suturehand_Prog n how (a.map Act5.t) (b.map Act5.t) (c.map Act5.t) most = some (ds.map (encD pl0), tl.map (encT pl0)) /\ okDL ds /\ ds.length = 8 /\ (dtL ds).length <= 100 /\ okTL tl /\ (tl.length = 2 \/ (tl.length = 3 /\ c ≠ [] /\ most <= 4)) /\ (ttL tl).length <= 2600 := by
 obtain ⟨ds, h1, h2, h3, h4⟩ := decls_eq (n := n) how
 unfold m_suturehand_Prog
 rw [h1, Option.bind_some]
 obtain ⟨j, hj⟩ : ∃ j, n = j + 4 := ⟨n - 4, by omega⟩
 have wg : wGo.length = 2 := rfl
 obtain ⟨o1, e1, f1, g1⟩ := prog_step hn (l_suturehand_Prog_3 n (j + 3)) a b c most 0 (.inl rfl) [] [] (ds.map (encD pl0)) [] (by simp)
 obtain ⟨o2, e2, f2, g2⟩ := prog_step hn (l_suturehand_Prog_3 n (j + 2)) a b c most 1 (.inr (.inl rfl)) [] [] (ds.map (encD pl0)) [o1] (by simp)
 have hst : l_suturehand_Prog_3 n n (c.map Act5.t, most, a.map Act5.t, b.map Act5.t, c.map Act5.t, 0, [], [], ds.map (encD pl0), []) = l_suturehand_Prog_3_B n (l_suturehand_Prog_3 n (j + 1)) (c.map Act5.t, most, a.map Act5.t, b.map Act5.t, c.map Act5.t, ((2 : Nat) : Int), [], [], ds.map (encD pl0), [o1, o2].map (encT pl0)) := by
  rw [show l_suturehand_Prog_3 n n = l_suturehand_Prog_3 n (j + 4) by rw [<- hj]]
  refine Eq.trans (show _ = l_suturehand_Prog_3_B n (l_suturehand_Prog_3 n (j + 3)) _ from rfl) (e1.trans ?_)
  refine Eq.trans (show _ = l_suturehand_Prog_3_B n (l_suturehand_Prog_3 n (j + 2)) _ from rfl) (e2.trans ?_)
  rfl
 rw [hst]
 by_cases hc : c ≠ [] /\ most <= 4
 ·obtain ⟨o3, e3, f3, g3⟩ := prog_step hn (l_suturehand_Prog_3 n (j + 1)) a b c most 2 (.inr (.inr ⟨rfl, hc⟩)) [] [] (ds.map (encD pl0)) [o1, o2] (by simp)
  have e4 : l_suturehand_Prog_3 n (j + 1) (c.map Act5.t, most, a.map Act5.t, b.map Act5.t, c.map Act5.t, ((2 + 1 : Nat) : Int), [], [], ds.map (encD pl0), ([o1, o2] ++ [o3]).map (encT pl0)) = some ([], [], ds.map (encD pl0), ([o1, o2] ++ [o3]).map (encT pl0)) := rfl
  rw [e3, e4, Option.bind_some]
  refine ⟨ds, [o1, o2] ++ [o3], rfl, h2, h3, h4, ?_, .inr ⟨rfl, hc⟩, ?_⟩
  ·intro t ht
   simp only [List.cons_append, List.nil_append, List.mem_cons, List.not_mem_nil, or_false] at ht
   rcases ht with rfl | rfl | rfl
   ·exact f1
   ·exact f2
   ·exact f3
  ·simp only [List.cons_append, List.nil_append, ttL, List.length_append, List.length_cons, List.length_nil]; omega
 ·have e3 : l_suturehand_Prog_3_B n (l_suturehand_Prog_3 n (j + 1)) (c.map Act5.t, most, a.map Act5.t, b.map Act5.t, c.map Act5.t, ((2 : Nat) : Int), [], [], ds.map (encD pl0), [o1, o2].map (encT pl0)) = some ([], [], ds.map (encD pl0), [o1, o2].map (encT pl0)) := by
   unfold l_suturehand_Prog_3_B
   simp only
   have hq : (bif ((((List.length (c.map Act5.t) : Nat) : Int) : Int) == 0) then true else (decide ((most : Int) > 4))) = true := by
    by_cases hz : c = []
    ·rw [hz]; rfl
    ·have : most > 4 := by
      refine Classical.byContradiction fun h => hc ⟨hz, by omega⟩
     rw [decide_eq_true this]
     cases ((((List.length (c.map Act5.t) : Nat) : Int) : Int) == 0) <;> rfl
   rw [show (decide ((((2 : Nat) : Int) : Int) < 3)) = true from rfl, cond_true, show idx1 true (.list) [(T.list (a.map Act5.t)), (T.list (b.map Act5.t)), (T.list (c.map Act5.t))] ((2 : Nat) : Int) = some (T.list (c.map Act5.t)) from rfl, Option.bind_some, show ((((2 : Nat) : Int) : Int) == 2) = true from rfl, cond_true, hq, cond_true]
  rw [e3, Option.bind_some]
  refine ⟨ds, [o1, o2], rfl, h2, h3, h4, ?_, .inl rfl, ?_⟩
  ·intro t ht
   simp only [List.mem_cons, List.not_mem_nil, or_false] at ht
   rcases ht with rfl | rfl
   ·exact f1
   ·exact f2
  ·simp only [ttL, List.length_append, List.length_cons, List.length_nil]; omega
end
theorem endD_T {tl : List (List St)} (hne : tl ≠ []) {t2 rest : List Tok} (g2 : t2.map Tok.bare = tkTL tl) : endD (t2 ++ rest) := by
 cases tl with
 | nil => exact absurd rfl hne
 | cons x tl =>
  simp only [tkTL] at g2
  have hq := map_cons' g2
  obtain ⟨t, ts, rfl, h3, _⟩ := hq
  have hb := bare_nm h3
  exact ⟨t, _, rfl, fun h => h.2 (by rw [hb.2]; decide)⟩
theorem read_Pg {u : List UInt8} {ds : List Dc} {tl : List (List St)} (hx : Lx0 u (tkDL ds ++ tkTL tl)) (hd : okDL ds) (h24 : ds.length <= 24) (ht : okTL tl) (h4 : tl.length <= 4) (hne : tl ≠ []) :
  ∃ l ds' tl', lexR u 0 [] = .ok l /\ prg (l ++ [endT u]) = .ok ds' tl' /\ ds'.map Dc.strip = ds.map Dc.strip /\ tl'.map stripL = tl.map stripL := by
 obtain ⟨l, h1, h2⟩ := hx.to.all
 have hq := map_split h1
 obtain ⟨t1, t2, rfl, g1, g2⟩ := hq
 obtain ⟨ds', e1, e2⟩ := read_D ds [] t1 (t2 ++ [endT u]) hd (by simpa using h24) g1 (endD_T hne g2)
 obtain ⟨tl', f1, f2⟩ := read_T tl [] t2 (endT u) ht (by simpa using h4) (by simpa using hne) g2 rfl
 refine ⟨t1 ++ t2, ds', tl', h2, ?_, e2, f2⟩
 unfold prg
 rw [List.append_assoc, e1]
 simp only
 rw [f1]
 rfl
theorem tabsL_len (d : Nat) : (tabsL d).length = d := List.length_replicate
theorem tx_sum {k : Int} {nm o : List UInt8} {m : Nat} {e : Option E} {body els : List St} {p d : Nat} (h : okS (.mk k nm o m e body els p) d) : (txL body (d + 1)).length + (txL els (d + 1)).length <= (tx (.mk k nm o m e body els p) d).length := by
 have nl : (txL [] (d + 1)).length = 0 := by simp only [txL, List.length_nil]
 unfold okS at h
 split at h
 ·obtain ⟨_, _, _, he, rfl, rfl⟩ := h; omega
 split at h
 ·obtain ⟨_, _, _, rfl, rfl, rfl⟩ := h; omega
 split at h
 ·obtain ⟨_, _, _, he, rfl, rfl⟩ := h; omega
 split at h
 ·obtain ⟨_, _, _, rfl, rfl, rfl⟩ := h; omega
 split at h
 ·obtain ⟨_, _, _, he, rfl, rfl⟩ := h; omega
 split at h
 ·rename_i hk; subst hk
  cases els with
  | nil => simp only [tx, Int.reduceEq, if_false, if_true, List.length_append, List.length_cons]; omega
  | cons y els => simp only [tx, Int.reduceEq, if_false, if_true, List.length_append, List.length_cons]; omega
 split at h
 ·rename_i hk; subst hk
  obtain ⟨_, _, _, rfl, hd, hB, rfl⟩ := h
  unfold tx
  simp only [Int.reduceEq, if_false, if_true, List.length_append, List.length_cons]; omega
 ·exact h.elim
theorem sizedS11 (pl : Nat -> Nat × Nat) (l : List St) : sized 11 (l.map (encS pl)) = true := by
 unfold sized
 rw [List.all_map, List.all_eq_true]
 intro x _
 cases x
 simp only [Function.comp, encS]
 rfl
def plF : Nat -> Nat × Nat := fun q => (FloatKind.nearest .f64 (q : Int), 0)
mutual
def ctS : St -> Nat
 | .mk k n o m e body els p => 1 + ctL body + ctL els
def ctL : List St -> Nat
 | [] => 0
 | s :: r => ctS s + ctL r
end
def ctTL : List (List St) -> Nat
 | [] => 0
 | l :: r => ctL l + ctTL r
mutual
def nbS : St -> Nat -> St
 | .mk k n o m e body els p, q => .mk k n o m e (nbL body (q + 1)) (nbL els (q + 1 + ctL body)) q
def nbL : List St -> Nat -> List St
 | [], _ => []
 | s :: r, q => nbS s q :: nbL r (q + ctS s)
end
def nbTL : List (List St) -> Nat -> List (List St)
 | [], _ => []
 | l :: r, q => nbL l q :: nbTL r (q + ctL l)
mutual
theorem ctS_len : ∀ (s : St) (d : Nat), okS s d -> ctS s <= (tx s d).length + 1
 | .mk k n o m e body els p, d, h => by
  have h0 := tx_sum h
  obtain ⟨_, _, t3, t4, _⟩ := tx_sub h
  have h1 := ctL_len body (d + 1) t3
  have h2 := ctL_len els (d + 1) t4
  simp only [ctS]
  omega
theorem ctL_len : ∀ (l : List St) (d : Nat), okL l d -> ctL l <= (txL l d).length
 | [], d, _ => by simp [ctL]
 | s :: l, d, h => by
  simp only [okL] at h
  have h1 := ctS_len s d h.1
  have h2 := ctL_len l d h.2
  simp only [ctL, txL, List.length_append, List.length_cons]
  omega
end
theorem ctTL_len : ∀ {l : List (List St)}, okTL l -> ctTL l <= (ttL l).length
 | [], _ => by simp [ctTL]
 | t :: r, h => by
  have i1 := ctL_len t 1 (h t (by simp))
  have i2 := ctTL_len (l := r) (fun x hx => h x (by simp [hx]))
  simp only [ctTL, ttL, List.length_append, List.length_cons]
  omega
section
variable {n : Nat}
mutual
def ctoS : St -> Int -> Nat -> List St
 | .mk k n o m e body els p, site, q => if ((q : Nat) : Int) = site then [] else [.mk k n o m e (ctoL body site (q + 1)) (ctoL els site (q + 1 + ctL body)) p]
def ctoL : List St -> Int -> Nat -> List St
 | [], _, _ => []
 | s :: r, site, q => ctoS s site q ++ ctoL r site (q + ctS s)
end
def ctoTL : List (List St) -> Int -> Nat -> List (List St)
 | [], _, _ => []
 | l :: r, site, q => ctoL l site q :: ctoTL r site (q + ctL l)
end
mutual
theorem cto_okS : ∀ (s : St) (d : Nat) (site : Int) (q : Nat), okS s d -> okL (ctoS s site q) d /\ (txL (ctoS s site q) d).length <= (tx s d).length + d + 1
 | .mk k n o m e body els p, d, site, q, h => by
  obtain ⟨t1, t2, t3, t4, t5, t6⟩ := tx_sub h
  obtain ⟨b1, b2⟩ := cto_okL body (d + 1) site (q + 1) t3
  obtain ⟨f1, f2⟩ := cto_okL els (d + 1) site (q + 1 + ctL body) t4
  have hb0 : body = [] -> ctoL body site (q + 1) = [] := fun hb => by subst hb; simp only [ctoL]
  have hf0 : els = [] -> ctoL els site (q + 1 + ctL body) = [] := fun hb => by subst hb; simp only [ctoL]
  unfold ctoS
  by_cases hs : ((q : Nat) : Int) = site
  ·rw [if_pos hs]
   exact ⟨by simp only [okL], by simp only [txL, List.length_nil]; omega⟩
  ·rw [if_neg hs]
   generalize ctoL body site (q + 1) = body' at *
   generalize ctoL els site (q + 1 + ctL body) = els' at *
   have goal : okS (.mk k n o m e body' els' p) d /\ (tx (.mk k n o m e body' els' p) d).length <= (tx (.mk k n o m e body els p) d).length := by
    unfold okS at h ⊢
    split at h
    ·rename_i hk; subst hk
     obtain ⟨h1, h2, h3, he, rfl, rfl⟩ := h
     obtain rfl := hb0 rfl
     obtain rfl := hf0 rfl
     exact ⟨by simp only [if_true]; exact ⟨h1, h2, h3, he, trivial, trivial⟩, Nat.le_refl _⟩
    rename_i h01
    rw [if_neg h01]
    split at h
    ·rename_i hk
     obtain ⟨h1, h2, h3, he, rfl, rfl⟩ := h
     obtain rfl := hb0 rfl
     obtain rfl := hf0 rfl
     exact ⟨by rw [if_pos hk]; exact ⟨h1, h2, h3, he, rfl, rfl⟩, Nat.le_refl _⟩
    rename_i h02
    rw [if_neg h02]
    split at h
    ·rename_i hk
     obtain ⟨h1, h2, h3, he, rfl, rfl⟩ := h
     obtain rfl := hb0 rfl
     obtain rfl := hf0 rfl
     exact ⟨by rw [if_pos hk]; exact ⟨h1, h2, h3, he, rfl, rfl⟩, Nat.le_refl _⟩
    rename_i h03
    rw [if_neg h03]
    split at h
    ·rename_i hk
     obtain ⟨h1, h2, h3, he, rfl, rfl⟩ := h
     obtain rfl := hb0 rfl
     obtain rfl := hf0 rfl
     exact ⟨by rw [if_pos hk]; exact ⟨h1, h2, h3, he, rfl, rfl⟩, Nat.le_refl _⟩
    rename_i h04
    rw [if_neg h04]
    split at h
    ·rename_i hk
     obtain ⟨h1, h2, h3, he, rfl, rfl⟩ := h
     obtain rfl := hb0 rfl
     obtain rfl := hf0 rfl
     exact ⟨by rw [if_pos hk]; exact ⟨h1, h2, h3, he, rfl, rfl⟩, Nat.le_refl _⟩
    rename_i h05
    rw [if_neg h05]
    split at h
    ·rename_i hk
     subst hk
     obtain ⟨h1, h2, h3, he, hd, hB, hF⟩ := h
     refine ⟨by rw [if_pos rfl]; exact ⟨h1, h2, h3, he, hd, b1, f1⟩, ?_⟩
     cases els with
     | nil =>
      obtain rfl := hf0 rfl
      simp only [tx, Int.reduceEq, if_false, if_true, List.length_append, List.length_cons, List.length_nil]
      omega
     | cons y els =>
      cases els' with
      | nil => simp only [tx, Int.reduceEq, if_false, if_true, List.length_append, List.length_cons, List.length_nil]; omega
      | cons z els' => simp only [tx, Int.reduceEq, if_false, if_true, List.length_append, List.length_cons, List.length_nil]; omega
    rename_i h06
    rw [if_neg h06]
    split at h
    ·rename_i hk
     subst hk
     obtain ⟨h1, h2, h3, he, hd, hB, rfl⟩ := h
     obtain rfl := hf0 rfl
     refine ⟨by rw [if_pos rfl]; exact ⟨h1, h2, h3, he, hd, b1, rfl⟩, ?_⟩
     unfold tx
     simp only [Int.reduceEq, if_false, if_true, List.length_append, List.length_cons, List.length_nil]
     omega
    ·exact h.elim
   refine ⟨by simp only [okL]; exact ⟨goal.1, trivial⟩, ?_⟩
   have htl := tabsL_len d
   simp only [txL, List.length_append, List.length_cons, List.length_nil]
   omega
theorem cto_okL : ∀ (l : List St) (d : Nat) (site : Int) (q : Nat), okL l d -> okL (ctoL l site q) d /\ (txL (ctoL l site q) d).length <= (txL l d).length
 | [], d, site, q, _ => ⟨by simp only [ctoL, okL], by simp only [ctoL]; exact Nat.le_refl _⟩
 | s :: l, d, site, q, h => by
  simp only [okL] at h
  obtain ⟨a1, a2⟩ := cto_okS s d site q h.1
  obtain ⟨b1, b2⟩ := cto_okL l d site (q + ctS s) h.2
  have htl := tabsL_len d
  have app : ∀ (a c : List St), (txL (a ++ c) d).length = (txL a d).length + (txL c d).length := by
   intro a c
   induction a with
   | nil => simp [txL]
   | cons x a ih => simp only [List.cons_append, txL, List.length_append, List.length_cons, ih]; omega
  simp only [ctoL, txL, List.length_append, List.length_cons, app]
  exact ⟨okL_append.2 ⟨a1, b1⟩, by omega⟩
end
theorem cto_okTL : ∀ {l : List (List St)} {site : Int} {q : Nat}, okTL l -> okTL (ctoTL l site q) /\ (ttL (ctoTL l site q)).length <= (ttL l).length /\ (ctoTL l site q).length = l.length
 | [], _, _, _ => ⟨fun t ht => by simp [ctoTL] at ht, by simp [ctoTL], rfl⟩
 | t :: r, site, q, h => by
  obtain ⟨a1, a2⟩ := cto_okL t 1 site q (h t (by simp))
  obtain ⟨b1, b2, b3⟩ := cto_okTL (l := r) (site := site) (q := q + ctL t) (fun x hx => h x (by simp [hx]))
  simp only [ctoTL]
  refine ⟨fun x hx => ?_, by simp only [ttL, List.length_append, List.length_cons]; omega, by simp [b3]⟩
  rcases List.mem_cons.1 hx with rfl | hx
  ·exact a1
  ·exact b1 x hx
section
variable {TS : List Tok} {n : Nat}
theorem encR_fits (t : Tok) : fits [.int .i64, .str, .int .i64, .int .i64] (encR t) = true := rfl
theorem tok_atR {r : List Tok} {t : Tok} (h : Suf TS (t :: r)) : idx true [.int .i64, .str, .int .i64, .int .i64] (TS.map encR) (ix TS (t :: r)) = some (encR t) := by
 obtain ⟨p, rfl⟩ := h
 have e : ix (p ++ t :: r) (t :: r) = (p.length : Int) := by simp [ix]
 rw [e]
 unfold idx
 rw [cond_true, decide_eq_true (Int.natCast_nonneg _), cond_true, Int.toNat_natCast]
 simp [encR_fits]
theorem encR0 (t : Tok) : ((encR t).cell 0).int = t.kind := rfl
theorem encR1 (t : Tok) : ((encR t).cell 1).str = B t.text := rfl
theorem encR2 (t : Tok) : ((encR t).cell 2).int = (t.num : Int) := rfl
theorem encR3 (t : Tok) : ((encR t).cell 3).int = (t.pos : Int) := rfl
theorem ix_dn {r : List Tok} {t : Tok} (h : Suf TS (t :: r)) (hl : TS.length <= 6001) : IntKind.wrap .i64 (ix TS r - 1) = ix TS (t :: r) := by
 have := h.len
 simp only [List.length_cons] at this
 have e : ix TS r - 1 = ix TS (t :: r) := by simp only [ix, List.length_cons]; omega
 rw [e]
 exact wrap_id (by unfold ix; omega) (by unfold ix; omega)
theorem r_sign {r : List Tok} {t : Tok} (h : Suf TS (t :: r)) (q : ByteArray) (b : Int) : m___sutureref1_Reader__sign n q (TS.map encR) (ix TS (t :: r)) false b = some (t.kind == 3 && t.text == L q, TS.map encR, ix TS (t :: r), false, b) := by
 unfold m___sutureref1_Reader__sign
 simp only [Bool.not_false, tok_atR h, Option.bind_some, cond_true, encR0, encR1]
 cases hk : ((t.kind : Int) == 3) with
 | true => simp only [tok_atR h, Option.bind_some, cond_true, Bool.true_and, encR1, bytes_eq, L_B]
 | false => simp only [idx_false, Option.bind_some, cond_false, Bool.false_and]
theorem r_sign_bad (q : ByteArray) (i b : Int) : m___sutureref1_Reader__sign n q (TS.map encR) i true b = some (false, TS.map encR, i, true, b) := by
 unfold m___sutureref1_Reader__sign
 simp only [Bool.not_true, idx_false, Option.bind_some, cond_false]
theorem r_word {r : List Tok} {t : Tok} (h : Suf TS (t :: r)) (q : ByteArray) (b : Int) : m___sutureref1_Reader__word n q (TS.map encR) (ix TS (t :: r)) false b = some (isWord (L q) t.bare, TS.map encR, ix TS (t :: r), false, b) := by
 unfold m___sutureref1_Reader__word isWord Tok.bare
 simp only [Bool.not_false, tok_atR h, Option.bind_some, cond_true, encR0, encR1]
 cases hk : ((t.kind : Int) == 1) with
 | true => simp only [tok_atR h, Option.bind_some, cond_true, Bool.true_and, encR1, bytes_eq, L_B]
 | false => simp only [idx_false, Option.bind_some, cond_false, Bool.false_and]
theorem r_word_bad (q : ByteArray) (i b : Int) : m___sutureref1_Reader__word n q (TS.map encR) i true b = some (false, TS.map encR, i, true, b) := by
 unfold m___sutureref1_Reader__word
 simp only [Bool.not_true, idx_false, Option.bind_some, cond_false]
theorem r_fail (A : List T) (i b : Int) : m___sutureref1_Reader__fail n A i false b = some (A, i, true, i) := rfl
theorem r_fail_bad (A : List T) (i b : Int) : m___sutureref1_Reader__fail n A i true b = some (A, i, true, b) := rfl
theorem r_sg (t : Tok) (c : UInt8) : (t.kind == 3 && t.text == [c]) = isSign c t.bare := rfl
theorem r_must (hT : Tks TS) {r : List Tok} {t : Tok} (h : Suf TS (t :: r)) (c : UInt8) (b : Int) : m___sutureref1_Reader__must n (⟨#[c]⟩ : ByteArray) (TS.map encR) (ix TS (t :: r)) false b = some (if isSign c t.bare then (TS.map encR, ix TS r, false, b) else (TS.map encR, ix TS (t :: r), true, ix TS (t :: r))) := by
 unfold m___sutureref1_Reader__must
 rw [r_sign h, Option.bind_some, show L (⟨#[c]⟩ : ByteArray) = [c] from rfl, r_sg]
 cases isSign c t.bare with
 | true => simp only [Bool.not_true, cond_false, if_true, ix_up h hT.len]
 | false => rfl
theorem r_must_bad (q : ByteArray) (i b : Int) : m___sutureref1_Reader__must n q (TS.map encR) i true b = some (TS.map encR, i, true, b) := by
 unfold m___sutureref1_Reader__must
 rw [r_sign_bad]
 rfl
theorem r_nm (hn : 100000 < n) (t : Tok) : (bif ((t.kind : Int) == 1) then m_sutureref1_Keyword n (B t.text) else some false) = some (t.kind == 1 && kwd t.text) := by
 cases hk : ((t.kind : Int) == 1) with
 | true => rw [cond_true, keywordR n (by omega), kw_eq, Bool.true_and]
 | false => rfl
theorem r_name (hT : Tks TS) (hn : 100000 < n) {r : List Tok} {t : Tok} (h : Suf TS (t :: r)) (b : Int) : m___sutureref1_Reader__name n (TS.map encR) (ix TS (t :: r)) false b = some (if isNm kwd t.bare then (B t.text, TS.map encR, ix TS r, false, b) else ((⟨#[]⟩ : ByteArray), TS.map encR, ix TS (t :: r), true, ix TS (t :: r))) := by
 unfold m___sutureref1_Reader__name
 rw [show (!false) = true from rfl, tok_atR h]
 simp only [Option.bind_some, encR0, cond_false]
 unfold isNm Tok.bare bne
 have hr := r_nm hn t
 cases hk : ((t.kind : Int) == 1) with
 | true =>
  rw [hk] at hr
  rw [show (!(!true)) = true from rfl, tok_atR h]
  simp only [Option.bind_some, encR1, cond_true, Bool.not_true, cond_false, Bool.true_and] at hr ⊢
  rw [hr]
  simp only [Option.bind_some]
  cases kwd t.text with
  | true => rfl
  | false =>
   simp only [cond_false, Bool.not_false, if_true]
   rw [ix_up h hT.len, ix_dn h hT.len, tok_atR h]
   rfl
 | false => rfl
theorem r_name_bad (i b : Int) : m___sutureref1_Reader__name n (TS.map encR) i true b = some ((⟨#[]⟩ : ByteArray), TS.map encR, i, true, b) := rfl
theorem r_num (hT : Tks TS) {r : List Tok} {t : Tok} (h : Suf TS (t :: r)) (q : Nat) (b : Int) : m___sutureref1_Reader__number n (q : Int) (TS.map encR) (ix TS (t :: r)) false b = some (if t.kind = 2 /\ t.num <= q then ((t.num : Int), TS.map encR, ix TS r, false, b) else (0, TS.map encR, ix TS (t :: r), true, ix TS (t :: r))) := by
 unfold m___sutureref1_Reader__number
 rw [show (!false) = true from rfl, tok_atR h]
 simp only [Option.bind_some, encR0, cond_false]
 by_cases hk : t.kind = 2
 ·rw [show (t.kind != 2) = false by rw [hk]; rfl, show (!false) = true from rfl, tok_atR h, Option.bind_some, encR2, cond_false]
  by_cases hq : t.num <= q
  ·rw [if_pos ⟨hk, hq⟩, decide_eq_false (show ¬ ((t.num : Nat) : Int) > (q : Int) by omega), cond_false, ix_up h hT.len, ix_dn h hT.len, tok_atR h]
   rfl
  ·rw [if_neg (fun h => hq h.2), decide_eq_true (show ((t.num : Nat) : Int) > (q : Int) by omega)]; rfl
 ·rw [if_neg (fun h => hk h.1), show (t.kind != 2) = true by simp [bne, hk]]; rfl
theorem r_num_bad (q i b : Int) : m___sutureref1_Reader__number n q (TS.map encR) i true b = some (0, TS.map encR, i, true, b) := rfl
abbrev Ex8 := Int × Int × ByteArray × (List T) × (List T) × Int × Bool × Int
def ResR (TS : List Tok) (b : Int) (q : Option Ex8) : RE -> Prop
 | .ok e r => q = some (kE e, nE e, wE e, oE e, TS.map encR, ix TS r, false, b)
 | .bad r => ∃ k m w o, q = some (k, m, w, o, TS.map encR, ix TS r, true, ix TS r)
structure RrOk (TS : List Tok) (c : B___sutureref1_Reader__expr) (m : Nat) : Prop where
 ex : ∀ (d : Nat) (r : List Tok) (b : Int), d <= 8 -> Suf TS r -> Ended r -> 16 * r.length + 7 < m -> ResR TS b (c.__sutureref1_Reader__expr (d : Int) (TS.map encR) (ix TS r) false b) (lv kwd 0 d r)
 su : ∀ (d : Nat) (r : List Tok) (b : Int), d <= 8 -> Suf TS r -> Ended r -> 16 * r.length + 5 < m -> ResR TS b (c.__sutureref1_Reader__sum (d : Int) (TS.map encR) (ix TS r) false b) (lv kwd 1 d r)
 te : ∀ (d : Nat) (r : List Tok) (b : Int), d <= 8 -> Suf TS r -> Ended r -> 16 * r.length + 3 < m -> ResR TS b (c.__sutureref1_Reader__term (d : Int) (TS.map encR) (ix TS r) false b) (lv kwd 2 d r)
 fa : ∀ (d : Nat) (r : List Tok) (b : Int), d <= 8 -> Suf TS r -> Ended r -> 16 * r.length + 1 < m -> ResR TS b (c.__sutureref1_Reader__factor (d : Int) (TS.map encR) (ix TS r) false b) (lv kwd 3 d r)
theorem r_lt8 (d : Nat) : decide ((d : Int) < 8) = decide (d < 8) := by
 by_cases h : d < 8
 ·rw [decide_eq_true h, decide_eq_true]; omega
 ·rw [decide_eq_false h, decide_eq_false]; omega
theorem r_factor (hT : Tks TS) (hn : 100000 < n) {c : B___sutureref1_Reader__expr} {m : Nat} (hc : RrOk TS c m) {d : Nat} {r : List Tok} (b : Int) (hd : d <= 8) (hs : Suf TS r) (he : Ended r) (hm : 16 * r.length <= m) :
  ResR TS b (f___sutureref1_Reader__factor c n (d : Int) (TS.map encR) (ix TS r) false b) (lv kwd 3 d r) := by
 obtain ⟨t, r, rfl⟩ := he.ne
 simp only [List.length_cons] at hm
 rw [lv_fac, fac]
 unfold f___sutureref1_Reader__factor
 simp only [cond_false]
 rw [tok_atR hs, Option.bind_some]
 simp only [encR0, encR1, encR2]
 rw [r_nm hn t, ix_up hs hT.len]
 by_cases h2 : t.kind = 2
 ·rw [if_pos h2, show ((t.kind : Int) == 2) = true from beq_iff_eq.2 h2]; rfl
 rw [if_neg h2, show ((t.kind : Int) == 2) = false from beq_eq_false_iff_ne.2 h2, cond_false, Option.bind_some]
 have hnm : (bif ((t.kind : Int) == 1) then (!(t.kind == 1 && kwd t.text)) else false) = isNm kwd t.bare := by
  unfold isNm Tok.bare
  cases ((t.kind : Int) == 1) <;> rfl
 rw [hnm]
 by_cases hk : isNm kwd t.bare = true
 ·rw [hk, if_pos rfl]; rfl
 rw [(Bool.not_eq_true _).mp hk, cond_false, if_neg (by simp), r_sign hs, Option.bind_some, show L (⟨#[45]⟩ : ByteArray) = [45] from rfl, r_sg]
 simp only [r_lt8]
 by_cases h45 : (isSign 45 t.bare && decide (d < 8)) = true
 ·have h45' := h45
  simp only [Bool.and_eq_true, decide_eq_true_eq] at h45'
  have her := he.cons (by rw [isSign_kind h45'.1]; decide)
  rw [if_pos h45, h45'.1, decide_eq_true h45'.2]
  simp only [cond_true]
  rw [cast_up d (by omega), ix_up hs hT.len]
  have hr := hc.fa (d + 1) r b (by omega) hs.cons her (by omega)
  rw [lv_fac] at hr
  cases hq : fac kwd (d + 1) r with
  | bad r' =>
   rw [hq] at hr
   obtain ⟨k, q, w, o, hr⟩ := hr
   rw [hr]
   exact ⟨_, _, _, _, rfl⟩
  | ok e r' =>
   rw [hq] at hr
   rw [show c.__sutureref1_Reader__factor ((d + 1 : Nat) : Int) (TS.map encR) (ix TS r) false b = _ from hr]
   simp only [Option.bind_some, ResR, kE, nE, wE, oE, encE_eq e]
 rw [if_neg h45]
 have e45 : (bif isSign 45 t.bare then decide (d < 8) else false) = false := by
  rw [Bool.not_eq_true] at h45
  rw [<- h45]
  cases isSign 45 t.bare <;> rfl
 rw [e45, cond_false, r_sign hs, Option.bind_some, show L (⟨#[40]⟩ : ByteArray) = [40] from rfl, r_sg]
 simp only
 by_cases h40 : (isSign 40 t.bare && decide (d < 8)) = true
 ·have h40' := h40
  simp only [Bool.and_eq_true, decide_eq_true_eq] at h40'
  have her := he.cons (by rw [isSign_kind h40'.1]; decide)
  rw [if_pos h40, h40'.1, decide_eq_true h40'.2]
  simp only [cond_true]
  rw [cast_up d (by omega), ix_up hs hT.len]
  have hr := hc.ex (d + 1) r b (by omega) hs.cons her (by omega)
  cases hq : lv kwd 0 (d + 1) r with
  | bad r' =>
   rw [hq] at hr
   obtain ⟨k, q, w, o, hr⟩ := hr
   rw [hr]
   simp only [Option.bind_some]
   rw [r_must_bad]
   exact ⟨_, _, _, _, rfl⟩
  | ok e r' =>
   have hkp := lv_keeps kwd (l := 0) (d := d + 1) (by omega) her
   rw [hq] at hr hkp
   obtain ⟨k1, k2⟩ := hkp
   obtain ⟨t', r', rfl⟩ := k2.ne
   have hs' := hs.cons.trans k1
   rw [show c.__sutureref1_Reader__expr ((d + 1 : Nat) : Int) (TS.map encR) (ix TS r) false b = _ from hr]
   simp only [Option.bind_some]
   rw [r_must hT hs', Option.bind_some]
   by_cases h41 : isSign 41 t'.bare = true
   ·rw [if_pos h41, if_pos h41]; rfl
   ·rw [if_neg h41, if_neg h41]; exact ⟨_, _, _, _, rfl⟩
 rw [if_neg h40]
 have e40 : (bif isSign 40 t.bare then decide (d < 8) else false) = false := by
  rw [Bool.not_eq_true] at h40
  rw [<- h40]
  cases isSign 40 t.bare <;> rfl
 rw [e40, cond_false, r_fail, Option.bind_some]
 exact ⟨_, _, _, _, rfl⟩
abbrev Lp12 := (List T) × Int × Bool × Int × Int × Int × ByteArray × (List T) × Int × Int × ByteArray × (List T)
abbrev St13 := Int × (List T) × Int × Bool × Int × Int × Int × ByteArray × (List T) × Int × Int × ByteArray × (List T)
def ResLR (TS : List Tok) (b : Int) (q : Option Lp12) : RE -> Prop
 | .ok e r => ∃ a c f o, q = some (TS.map encR, ix TS r, false, b, a, c, f, o, kE e, nE e, wE e, oE e)
 | .bad r => ∃ a c f o k m w p, q = some (TS.map encR, ix TS r, true, ix TS r, a, c, f, o, k, m, w, p)
theorem go_op {l d : Nat} (h0 : l ≠ 0) (hl : l < 3) {t : Tok} {r : List Tok} (hs : Suf TS (t :: r)) (he : Ended (t :: r)) {b : Int} {g : Int -> List T -> Int -> Bool -> Int -> Option Ex8}
  (hg : Ended r -> ResR TS b (g (d : Int) (TS.map encR) (ix TS r) false b) (lv kwd (l + 1) d r)) {K : St13 -> Option Lp12} {a1 a2 : Int} {a3 : ByteArray} {a4 : List T} {e : E}
  (hK : ∀ e' r', r'.length < r.length -> Suf TS r' -> Ended r' -> ResLR TS b (K ((d : Int), TS.map encR, ix TS r', false, b, a1, a2, a3, a4, kE e', nE e', wE e', oE e')) (lp kwd l d e' r'))
  (hB : r.length ≠ 0 -> ∀ i j k m w o, K ((d : Int), TS.map encR, i, true, j, a1, a2, a3, a4, k, m, w, o) = some (TS.map encR, i, true, j, a1, a2, a3, a4, k, m, w, o)) {x : Int} (ho : opAt t.bare l = some x) :
  ResLR TS b (Option.bind (g (d : Int) (TS.map encR) (ix TS r) false b) fun r2 => Option.bind (m_sutureref1_binary n x (kE e) (nE e) (wE e) (oE e) r2.1 r2.2.1 r2.2.2.1 r2.2.2.2.1) fun r3 =>
   K ((d : Int), r2.2.2.2.2.1, r2.2.2.2.2.2.1, r2.2.2.2.2.2.2.1, r2.2.2.2.2.2.2.2, a1, a2, a3, a4, r3.1, r3.2.1, r3.2.2.1, r3.2.2.2)) (lp kwd l d e (t :: r)) := by
 have her := he.cons (opAt_kind ho)
 have hr := hg her
 cases hc : lv kwd (l + 1) d r with
 | bad r' =>
  rw [hc] at hr
  obtain ⟨u1, u2, u3, u4, hr⟩ := hr
  rw [lp_step_bad kwd ho hc, hr]
  simp only [Option.bind_some, m_sutureref1_binary]
  obtain ⟨t1, r1, rfl⟩ := her.ne
  rw [hB (by simp)]
  exact ⟨_, _, _, _, _, _, _, _, rfl⟩
 | ok y r' =>
  have hkp := lv_keeps kwd (l := l + 1) (d := d) (by omega) her
  rw [hc] at hr hkp
  have hlt := lv_shorter kwd (by omega) hc
  rw [show g (d : Int) (TS.map encR) (ix TS r) false b = _ from hr]
  simp only [Option.bind_some, m_sutureref1_binary]
  have hE : [(T.agg [(T.sc (.int .i64 (kE e))), (T.sc (.int .i64 (nE e))), (T.sc (.string (wE e))), (T.list (oE e))]), (T.agg [(T.sc (.int .i64 (kE y))), (T.sc (.int .i64 (nE y))), (T.sc (.string (wE y))), (T.list (oE y))])] = oE (.bin x e y) := by
   rw [<- encE_eq, <- encE_eq]; rfl
  rw [hE, lp_step kwd h0 hl ho hc]
  exact hK (.bin x e y) r' hlt (hs.cons.trans hkp.1) hkp.2
theorem op_none {t : Tok} {l : Nat} (h : t.kind ≠ 3) : opAt t.bare l = none := by
 unfold opAt Tok.bare
 rw [if_neg h]
theorem r_term_loop (hT : Tks TS) {c : B___sutureref1_Reader__expr} {m : Nat} (hc : RrOk TS c m) {d : Nat} (hd : d <= 8) (b : Int) : ∀ (k : Nat) (e : E) (r : List Tok) (a1 a2 : Int) (a3 : ByteArray) (a4 : List T), r.length < k -> Suf TS r -> Ended r -> 16 * r.length <= m →
  ResLR TS b (l___sutureref1_Reader__term_2 c n k ((d : Int), TS.map encR, ix TS r, false, b, a1, a2, a3, a4, kE e, nE e, wE e, oE e)) (lp kwd 2 d e r) := by
 intro k
 induction k with
 | zero => intro e r a1 a2 a3 a4 h; omega
 | succ k ih =>
  intro e r a1 a2 a3 a4 hk hs he hm
  obtain ⟨t, r, rfl⟩ := he.ne
  simp only [List.length_cons] at hm hk
  show ResLR TS b (l___sutureref1_Reader__term_2_B c n (l___sutureref1_Reader__term_2 c n k) ((d : Int), TS.map encR, ix TS (t :: r), false, b, a1, a2, a3, a4, kE e, nE e, wE e, oE e)) _
  unfold l___sutureref1_Reader__term_2_B
  simp only [Bool.not_false, cond_true]
  have go : ∀ x, opAt t.bare 2 = some x -> _ := fun x hx => go_op (n := n) (TS := TS) (b := b) (K := l___sutureref1_Reader__term_2 c n k) (g := c.__sutureref1_Reader__factor) (e := e) (a1 := a1) (a2 := a2) (a3 := a3) (a4 := a4) (l := 2) (d := d) (by omega) (by omega) hs he (fun her => hc.fa d r b hd hs.cons her (by omega)) (fun e' r' h1 h2 h3 => ih e' r' a1 a2 a3 a4 (by omega) h2 h3 (by omega)) (fun hr0 i j k' m' w o => by
   obtain ⟨k2, rfl⟩ : ∃ k2, k = k2 + 1 := ⟨k - 1, by omega⟩
   rfl) hx
  rw [r_sign hs, Option.bind_some, show L (⟨#[42]⟩ : ByteArray) = [42] from rfl]
  simp only
  rw [r_sign hs, show L (⟨#[47]⟩ : ByteArray) = [47] from rfl]
  simp only [Option.bind_some]
  rw [r_sign hs, show L (⟨#[37]⟩ : ByteArray) = [37] from rfl]
  simp only [Option.bind_some, ix_up hs hT.len]
  by_cases h3 : t.kind = 3
  ·have hb : ((t.kind : Int) == 3) = true := beq_iff_eq.2 h3
   simp only [hb, Bool.true_and]
   by_cases q1 : t.text = [42]
   ·rw [show (t.text == [42]) = true from beq_iff_eq.2 q1]
    exact go 6 (by simp only [opAt, Tok.bare, h3, q1, if_true])
   rw [show (t.text == [42]) = false from beq_eq_false_iff_ne.2 q1]
   by_cases q2 : t.text = [47]
   ·rw [show (t.text == [47]) = true from beq_iff_eq.2 q2]
    exact go 7 (by simp only [opAt, Tok.bare, h3, if_true, q2]; rfl)
   rw [show (t.text == [47]) = false from beq_eq_false_iff_ne.2 q2]
   by_cases q3 : t.text = [37]
   ·rw [show (t.text == [37]) = true from beq_iff_eq.2 q3]
    exact go 8 (by simp only [opAt, Tok.bare, h3, if_true, q3]; rfl)
   rw [show (t.text == [37]) = false from beq_eq_false_iff_ne.2 q3]
   rw [lp_stop kwd (show opAt t.bare 2 = none by simp only [opAt, Tok.bare, h3, if_true, q1, q2, q3, if_false])]
   exact ⟨_, _, _, _, rfl⟩
  ·have hb : ((t.kind : Int) == 3) = false := beq_eq_false_iff_ne.2 h3
   simp only [hb, Bool.false_and]
   rw [lp_stop kwd (op_none h3)]
   exact ⟨_, _, _, _, rfl⟩
theorem r_sum_loop (hT : Tks TS) {c : B___sutureref1_Reader__expr} {m : Nat} (hc : RrOk TS c m) {d : Nat} (hd : d <= 8) (b : Int) : ∀ (k : Nat) (e : E) (r : List Tok) (a1 a2 : Int) (a3 : ByteArray) (a4 : List T), r.length < k -> Suf TS r -> Ended r -> 16 * r.length <= m →
  ResLR TS b (l___sutureref1_Reader__sum_2 c n k ((d : Int), TS.map encR, ix TS r, false, b, a1, a2, a3, a4, kE e, nE e, wE e, oE e)) (lp kwd 1 d e r) := by
 intro k
 induction k with
 | zero => intro e r a1 a2 a3 a4 h; omega
 | succ k ih =>
  intro e r a1 a2 a3 a4 hk hs he hm
  obtain ⟨t, r, rfl⟩ := he.ne
  simp only [List.length_cons] at hm hk
  show ResLR TS b (l___sutureref1_Reader__sum_2_B c n (l___sutureref1_Reader__sum_2 c n k) ((d : Int), TS.map encR, ix TS (t :: r), false, b, a1, a2, a3, a4, kE e, nE e, wE e, oE e)) _
  unfold l___sutureref1_Reader__sum_2_B
  simp only [Bool.not_false, cond_true]
  have go : ∀ x, opAt t.bare 1 = some x -> _ := fun x hx => go_op (n := n) (TS := TS) (b := b) (K := l___sutureref1_Reader__sum_2 c n k) (g := c.__sutureref1_Reader__term) (e := e) (a1 := a1) (a2 := a2) (a3 := a3) (a4 := a4) (l := 1) (d := d) (by omega) (by omega) hs he (fun her => hc.te d r b hd hs.cons her (by omega)) (fun e' r' h1 h2 h3 => ih e' r' a1 a2 a3 a4 (by omega) h2 h3 (by omega)) (fun hr0 i j k' m' w o => by
   obtain ⟨k2, rfl⟩ : ∃ k2, k = k2 + 1 := ⟨k - 1, by omega⟩
   rfl) hx
  rw [r_sign hs, Option.bind_some, show L (⟨#[43]⟩ : ByteArray) = [43] from rfl]
  simp only
  rw [r_sign hs, show L (⟨#[45]⟩ : ByteArray) = [45] from rfl]
  simp only [Option.bind_some, ix_up hs hT.len]
  by_cases h3 : t.kind = 3
  ·have hb : ((t.kind : Int) == 3) = true := beq_iff_eq.2 h3
   simp only [hb, Bool.true_and]
   by_cases q1 : t.text = [43]
   ·rw [show (t.text == [43]) = true from beq_iff_eq.2 q1]
    exact go 4 (by simp only [opAt, Tok.bare, h3, q1, if_true])
   rw [show (t.text == [43]) = false from beq_eq_false_iff_ne.2 q1]
   by_cases q2 : t.text = [45]
   ·rw [show (t.text == [45]) = true from beq_iff_eq.2 q2]
    exact go 5 (by simp only [opAt, Tok.bare, h3, if_true, q2]; rfl)
   rw [show (t.text == [45]) = false from beq_eq_false_iff_ne.2 q2]
   rw [lp_stop kwd (show opAt t.bare 1 = none by simp only [opAt, Tok.bare, h3, if_true, q1, q2, if_false])]
   exact ⟨_, _, _, _, rfl⟩
  ·have hb : ((t.kind : Int) == 3) = false := beq_eq_false_iff_ne.2 h3
   simp only [hb, Bool.false_and]
   rw [lp_stop kwd (op_none h3)]
   exact ⟨_, _, _, _, rfl⟩
theorem r_level {l d : Nat} (h0 : l ≠ 0) (hl : l < 3) {r : List Tok} (hs : Suf TS r) (he : Ended r) {b : Int} {q : Option Ex8} (hq : ResR TS b q (lv kwd (l + 1) d r)) {K : St13 -> Option Lp12}
  (hK : ∀ e' r', r'.length < r.length -> Suf TS r' -> Ended r' -> ResLR TS b (K ((d : Int), TS.map encR, ix TS r', false, b, 0, 0, (⟨#[]⟩ : ByteArray), [], kE e', nE e', wE e', oE e')) (lp kwd l d e' r'))
  (hB : ∀ i j k m w o, K ((d : Int), TS.map encR, i, true, j, 0, 0, (⟨#[]⟩ : ByteArray), [], k, m, w, o) = some (TS.map encR, i, true, j, 0, 0, (⟨#[]⟩ : ByteArray), [], k, m, w, o)) :
  ResR TS b (Option.bind q fun r0 => Option.bind (K ((d : Int), r0.2.2.2.2.1, r0.2.2.2.2.2.1, r0.2.2.2.2.2.2.1, r0.2.2.2.2.2.2.2, 0, 0, (⟨#[]⟩ : ByteArray), ([] : List T), r0.1, r0.2.1, r0.2.2.1, r0.2.2.2.1)) fun p13 =>
   some (p13.2.2.2.2.2.2.2.2.1, p13.2.2.2.2.2.2.2.2.2.1, p13.2.2.2.2.2.2.2.2.2.2.1, p13.2.2.2.2.2.2.2.2.2.2.2, p13.1, p13.2.1, p13.2.2.1, p13.2.2.2.1)) (lv kwd l d r) := by
 cases hc : lv kwd (l + 1) d r with
 | bad r' =>
  rw [hc] at hq
  obtain ⟨u1, u2, u3, u4, hq⟩ := hq
  rw [lv_step_bad kwd hl hc, hq]
  simp only [Option.bind_some]
  rw [hB]
  exact ⟨_, _, _, _, rfl⟩
 | ok y r' =>
  have hkp := lv_keeps kwd (l := l + 1) (d := d) (by omega) he
  rw [hc] at hq hkp
  have hlt := lv_shorter kwd (by omega) hc
  rw [lv_step kwd hl hc, show q = _ from hq]
  simp only [Option.bind_some]
  have h := hK y r' hlt (hs.trans hkp.1) hkp.2
  cases hd : lp kwd l d y r' with
  | ok e2 r2 =>
   rw [hd] at h
   obtain ⟨a, c, f, o, h⟩ := h
   rw [h]
   rfl
  | bad r2 =>
   rw [hd] at h
   obtain ⟨a, c, f, o, k, m, w, p, h⟩ := h
   rw [h]
   exact ⟨_, _, _, _, rfl⟩
theorem r_expr (hT : Tks TS) {c : B___sutureref1_Reader__expr} {m : Nat} (hc : RrOk TS c m) {d : Nat} {r : List Tok} (b : Int) (hd : d <= 8) (hs : Suf TS r) (he : Ended r) (hm : 16 * r.length + 5 < m) :
  ResR TS b (f___sutureref1_Reader__expr c n (d : Int) (TS.map encR) (ix TS r) false b) (lv kwd 0 d r) := by
 unfold f___sutureref1_Reader__expr
 have h := hc.su d r b hd hs he hm
 cases hq : lv kwd 1 d r with
 | bad r' =>
  rw [hq] at h
  obtain ⟨u1, u2, u3, u4, h⟩ := h
  rw [lv_step_bad kwd (by omega) hq, h]
  simp only [Option.bind_some]
  rw [r_sign_bad]
  simp only [Option.bind_some, cond_false]
  rw [r_sign_bad]
  exact ⟨_, _, _, _, rfl⟩
 | ok y r' =>
  have hkp := lv_keeps kwd (l := 1) (d := d) (by omega) he
  rw [hq] at h hkp
  have hlt := lv_shorter kwd (by omega) hq
  rw [lv_step kwd (by omega) hq, show c.__sutureref1_Reader__sum (d : Int) (TS.map encR) (ix TS r) false b = _ from h]
  obtain ⟨k1, k2⟩ := hkp
  obtain ⟨t, r', rfl⟩ := k2.ne
  have hs' := hs.trans k1
  simp only [Option.bind_some]
  rw [r_sign hs', Option.bind_some, show L (⟨#[60]⟩ : ByteArray) = [60] from rfl]
  simp only
  rw [r_sign hs', show L (⟨#[61, 61]⟩ : ByteArray) = [61, 61] from rfl]
  simp only [Option.bind_some, ix_up hs' hT.len]
  have go : ∀ x, opAt t.bare 0 = some x -> ResR TS b (Option.bind (c.__sutureref1_Reader__sum (d : Int) (TS.map encR) (ix TS r') false b) fun r2 => Option.bind (m_sutureref1_binary n x (kE y) (nE y) (wE y) (oE y) r2.1 r2.2.1 r2.2.2.1 r2.2.2.2.1) fun r3 =>
    some (r3.1, r3.2.1, r3.2.2.1, r3.2.2.2, r2.2.2.2.2.1, r2.2.2.2.2.2.1, r2.2.2.2.2.2.2.1, r2.2.2.2.2.2.2.2)) (lp kwd 0 d y (t :: r')) := by
   intro x hx
   have her := k2.cons (opAt_kind hx)
   simp only [List.length_cons] at hlt
   have h2 := hc.su d r' b hd hs'.cons her (by omega)
   cases hq2 : lv kwd 1 d r' with
   | bad r2 =>
    rw [hq2] at h2
    obtain ⟨u1, u2, u3, u4, h2⟩ := h2
    rw [lp_step_bad kwd hx hq2, h2]
    exact ⟨_, _, _, _, rfl⟩
   | ok z r2 =>
    rw [hq2] at h2
    rw [lp_step0 kwd hx hq2, show c.__sutureref1_Reader__sum (d : Int) (TS.map encR) (ix TS r') false b = _ from h2]
    simp only [Option.bind_some, m_sutureref1_binary]
    have hE : [(T.agg [(T.sc (.int .i64 (kE y))), (T.sc (.int .i64 (nE y))), (T.sc (.string (wE y))), (T.list (oE y))]), (T.agg [(T.sc (.int .i64 (kE z))), (T.sc (.int .i64 (nE z))), (T.sc (.string (wE z))), (T.list (oE z))])] = oE (.bin x y z) := by
     rw [<- encE_eq, <- encE_eq]; rfl
    rw [hE]
    rfl
  by_cases h3 : t.kind = 3
  ·have hb : ((t.kind : Int) == 3) = true := beq_iff_eq.2 h3
   simp only [hb, Bool.true_and]
   by_cases q1 : t.text = [60]
   ·rw [show (t.text == [60]) = true from beq_iff_eq.2 q1]
    exact go 9 (by simp only [opAt, Tok.bare, h3, q1, if_true])
   rw [show (t.text == [60]) = false from beq_eq_false_iff_ne.2 q1]
   by_cases q2 : t.text = [61, 61]
   ·rw [show (t.text == [61, 61]) = true from beq_iff_eq.2 q2]
    exact go 10 (by simp only [opAt, Tok.bare, h3, if_true, q2]; rfl)
   rw [show (t.text == [61, 61]) = false from beq_eq_false_iff_ne.2 q2]
   rw [lp_stop kwd (show opAt t.bare 0 = none by simp only [opAt, Tok.bare, h3, if_true, q1, q2, if_false])]
   rfl
  ·have hb : ((t.kind : Int) == 3) = false := beq_eq_false_iff_ne.2 h3
   simp only [hb, Bool.false_and]
   rw [lp_stop kwd (op_none h3)]
   rfl
theorem rr_ok (hT : Tks TS) (hn : 100000 < n) : ∀ m, RrOk TS (unB___sutureref1_Reader__expr n m) m
 | 0 => ⟨fun d r b _ _ _ h => by omega, fun d r b _ _ _ h => by omega, fun d r b _ _ _ h => by omega, fun d r b _ _ _ h => by omega⟩
 | m + 1 => by
  have ih := rr_ok hT hn m
  obtain ⟨n', hn'⟩ : ∃ n', n = n' + 1 := ⟨n - 1, by omega⟩
  refine ⟨fun d r b hd hs he hm => r_expr hT ih b hd hs he (by omega), fun d r b hd hs he hm => ?_, fun d r b hd hs he hm => ?_, fun d r b hd hs he hm => r_factor hT hn ih b hd hs he (by omega)⟩
  ·refine r_level (l := 1) (by omega) (by omega) hs he (ih.te d r b hd hs he (by omega)) (K := l___sutureref1_Reader__sum_2 (unB___sutureref1_Reader__expr n m) n n) (fun e' r' h1 h2 h3 => r_sum_loop hT ih hd b n e' r' _ _ _ _ (by have := h2.len; have := hT.len; omega) h2 h3 (by omega)) (fun i j k m' w o => ?_)
   rw [hn']; rfl
  ·refine r_level (l := 2) (by omega) (by omega) hs he (ih.fa d r b hd hs he (by omega)) (K := l___sutureref1_Reader__term_2 (unB___sutureref1_Reader__expr n m) n n) (fun e' r' h1 h2 h3 => r_term_loop hT ih hd b n e' r' _ _ _ _ (by have := h2.len; have := hT.len; omega) h2 h3 (by omega)) (fun i j k m' w o => ?_)
   rw [hn']; rfl
theorem r_whole (hT : Tks TS) (hn : 100000 < n) (s : ByteArray) {r : List Tok} (b : Int) (hs : Suf TS r) (he : Ended r) : ResR TS b (m___sutureref1_Reader__whole n s (TS.map encR) (ix TS r) false b) (lv kwd 0 0 r) := by
 have hlen := hs.len
 have hlen2 := hT.len
 have h := (rr_ok hT hn n).ex 0 r b (by omega) hs he (by omega)
 unfold m___sutureref1_Reader__whole m___sutureref1_Reader__expr
 simp only [Bool.not_false, cond_true]
 cases hc : lv kwd 0 0 r with
 | bad r' =>
  rw [hc] at h
  obtain ⟨k, m, w, o, h⟩ := h
  rw [show (unB___sutureref1_Reader__expr n n).__sutureref1_Reader__expr 0 (TS.map encR) (ix TS r) false b = _ from h]
  exact ⟨_, _, _, _, rfl⟩
 | ok e r' =>
  rw [hc] at h
  rw [show (unB___sutureref1_Reader__expr n n).__sutureref1_Reader__expr 0 (TS.map encR) (ix TS r) false b = _ from h]
  rfl
theorem r_whole_bad (s : ByteArray) (i b : Int) : m___sutureref1_Reader__whole n s (TS.map encR) i true b = some (0, 0, (⟨#[]⟩ : ByteArray), [], TS.map encR, i, true, b) := rfl
end
structure TkR (s : ByteArray) (TS : List Tok) : Prop where
 tkp : TkP TS
 pos : ∀ t ∈ TS, t.pos <= (L s).length
 size : (L s).length <= 6000
section
variable {s : ByteArray} {TS : List Tok} {n : Nat}
abbrev Q15 := Int × ByteArray × ByteArray × Int × Int × Int × ByteArray × (List T) × (List T) × (List T) × (Nat × Nat) × (List T) × Int × Bool × Int
abbrev Q5 := (List T) × (List T) × Int × Bool × Int
def RsS (s : ByteArray) (TS : List Tok) (b : Int) (q : Option Q15) (len : Nat) : RS -> Prop
 | .ok (.mk k nm o m e body els p) r => q = some (k, B nm, B o, (m : Int), kO e, nO e, wO e, oO e, encSL (P s) body, encSL (P s) els, P s p, TS.map encR, ix TS r, false, b) /\ Suf TS r /\ Ended r /\ r.length < len
 | .bad r => (∃ k nm o m a b c d e f g i, q = some (k, nm, o, m, a, b, c, d, e, f, g, TS.map encR, i, true, ix TS r)) /\ Suf TS r /\ Ended r
def RsB (s : ByteArray) (TS : List Tok) (b : Int) (q : Option Q5) (len : Nat) : RB -> Prop
 | .ok l r => q = some (encSL (P s) l, TS.map encR, ix TS r, false, b) /\ Suf TS r /\ Ended r /\ r.length < len
 | .bad r => (∃ l i, q = some (l, TS.map encR, i, true, ix TS r)) /\ Suf TS r /\ Ended r
structure RkOk (s : ByteArray) (TS : List Tok) (c : B___sutureref1_Reader__block) (m : Nat) : Prop where
 blk : ∀ (d : Nat) (r : List Tok) (b : Int), d <= 8 -> Suf TS r -> Ended r -> 4 * r.length + 2 < m -> RsB s TS b (c.__sutureref1_Reader__block s ((d + 1 : Nat) : Int) (TS.map encR) (ix TS r) false b) r.length (blk d r)
 bad : ∀ (d i b : Int), 0 < m -> c.__sutureref1_Reader__block s d (TS.map encR) i true b = some ([], TS.map encR, i, true, b)
 stm : ∀ (d : Nat) (r : List Tok) (b : Int), d <= 8 -> Suf TS r -> Ended r -> 4 * r.length < m -> RsS s TS b (c.__sutureref1_Reader__stmt s (d : Int) (TS.map encR) (ix TS r) false b) r.length (stm d r)
theorem r_one (hT : Tks TS) (hn : 100000 < n) {t : Tok} {r : List Tok} (b : Int) (hs : Suf TS r) (he : Ended r) (k : Int) {f : ByteArray × (List T) × Int × Bool × Int -> Option Q15} (hf : ∀ x, f x = some (k, x.1, (⟨#[]⟩ : ByteArray), 0, 0, 0, (⟨#[]⟩ : ByteArray), [], [], [], P s t.pos, x.2.1, x.2.2.1, x.2.2.2.1, x.2.2.2.2)) :
  RsS s TS b (Option.bind (m___sutureref1_Reader__name n (TS.map encR) (ix TS r) false b) f) (t :: r).length (one1 k t.pos r) := by
 obtain ⟨t1, r1, rfl⟩ := he.ne
 rw [r_name hT hn hs, Option.bind_some, hf, one1]
 by_cases hb : isNm kwd t1.bare = true
 ·rw [if_pos hb, if_pos hb]
  exact ⟨rfl, hs.cons, he.cons (by rw [isNm_kind hb]; decide), by simp only [List.length_cons]; omega⟩
 ·rw [if_neg hb, if_neg hb]
  exact ⟨⟨_, _, _, _, _, _, _, _, _, _, _, _, rfl⟩, hs, he⟩
theorem kwd_ne {w q : List UInt8} (h : kwd w = false) (hq : kwd q = true) : ¬ w = q := by
 intro e
 rw [e, hq] at h
 cases h
theorem r_stmt (hR : TkR s TS) (hn : 100000 < n) {c : B___sutureref1_Reader__block} {m : Nat} (hc : RkOk s TS c m) {d : Nat} {r : List Tok} (b : Int) (hd : d <= 8) (hs : Suf TS r) (he : Ended r) (hm : 4 * r.length <= m) :
  RsS s TS b (f___sutureref1_Reader__stmt c n s (d : Int) (TS.map encR) (ix TS r) false b) r.length (stm d r) := by
 have hP := hR.tkp
 have hT := hP.tks
 obtain ⟨l1, l2, l3, l4, l5, l6, l7, l8, l9, l10, l11⟩ := lits
 obtain ⟨t, r, rfl⟩ := he.ne
 simp only [List.length_cons] at hm
 unfold f___sutureref1_Reader__stmt
 rw [tok_atR hs, Option.bind_some, stm_cons, encR3, place_eq (by have := hR.size; omega) (hR.pos t hs.mem) (by have := hR.pos t hs.mem; have := hR.size; omega), Option.bind_some]
 rw [encR0, encR1, ix_up hs hT.len, ix_dn hs hT.len]
 by_cases h1 : t.kind ≠ 1
 ·rw [show (t.kind != 1) = true by simp [bne, h1], cond_true, if_pos h1, r_fail, Option.bind_some]
  exact ⟨⟨_, _, _, _, _, _, _, _, _, _, _, _, rfl⟩, hs, he⟩
 have h1 : t.kind = 1 := by omega
 rw [show (t.kind != 1) = false by rw [h1]; rfl, cond_false, if_neg (by simpa using h1)]
 have her := he.cons (by rw [h1]; decide)
 simp only [txt_dec, l1, l2, l3, l4, l5, l6, l7, l8, l9, Bool.cond_decide]
 by_cases hk : kwd t.text = false
 ·have n1 : ¬ t.text = wLock := kwd_ne hk (by decide)
  have n2 : ¬ t.text = wUnlock := kwd_ne hk (by decide)
  have n3 : ¬ t.text = wSend := kwd_ne hk (by decide)
  have n4 : ¬ t.text = wRecv := kwd_ne hk (by decide)
  have n5 : ¬ t.text = wPrint := kwd_ne hk (by decide)
  have n6 : ¬ t.text = wIf := kwd_ne hk (by decide)
  have n7 : ¬ t.text = wRepeat := kwd_ne hk (by decide)
  have n8 : ¬ t.text = wGoto := kwd_ne hk (by decide)
  have n9 : ¬ t.text = wLabel := kwd_ne hk (by decide)
  simp only [n1, n2, n3, n4, n5, n6, n7, n8, n9, if_false]
  rw [if_pos hk, keywordR n (by omega), kw_eq, hk, Option.bind_some, cond_false]
  obtain ⟨t1, r1, rfl⟩ := her.ne
  simp only
  rw [r_must hT hs.cons 61, Option.bind_some]
  by_cases h61 : isSign 61 t1.bare = true
  ·rw [if_pos h61, if_pos h61]
   simp only
   have he1 := her.cons (by rw [isSign_kind h61]; decide)
   have hk1 := lv_keeps kwd (l := 0) (d := 0) (by omega) he1
   have hw := r_whole hT hn s b hs.cons.cons he1
   cases hl : lv kwd 0 0 r1 with
   | bad r2 =>
    rw [hl] at hk1 hw
    obtain ⟨_, _, _, _, hw⟩ := hw
    rw [hw]
    exact ⟨⟨_, _, _, _, _, _, _, _, _, _, _, _, rfl⟩, hs.cons.cons.trans hk1.1, hk1.2⟩
   | ok x r2 =>
    rw [hl] at hk1 hw
    have := lv_shorter kwd (by omega) hl
    rw [show m___sutureref1_Reader__whole n s (TS.map encR) (ix TS r1) false b = _ from hw]
    exact ⟨rfl, hs.cons.cons.trans hk1.1, hk1.2, by simp only [List.length_cons]; omega⟩
  ·rw [if_neg h61, if_neg h61]
   simp only
   rw [r_whole_bad, Option.bind_some]
   exact ⟨⟨_, _, _, _, _, _, _, _, _, _, _, _, rfl⟩, hs.cons, her⟩
 have hk' : kwd t.text = true := by simpa using hk
 rw [if_neg hk]
 by_cases c1 : t.text = wLock
 ·simp (config := {decide := true}) only [c1, if_true, if_false]
  exact r_one hT hn b hs.cons her 2 (fun x => rfl)
 by_cases c2 : t.text = wUnlock
 ·simp (config := {decide := true}) only [c2, if_true, if_false]
  exact r_one hT hn b hs.cons her 3 (fun x => rfl)
 by_cases c8 : t.text = wGoto
 ·simp (config := {decide := true}) only [c8, if_true, if_false]
  exact r_one hT hn b hs.cons her 9 (fun x => rfl)
 by_cases c9 : t.text = wLabel
 ·simp (config := {decide := true}) only [c9, if_true, if_false]
  exact r_one hT hn b hs.cons her 10 (fun x => rfl)
 simp only [c1, c2, c8, c9, if_false]
 by_cases c3 : t.text = wSend
 ·rw [if_pos c3, if_pos c3]
  obtain ⟨t1, r1, rfl⟩ := her.ne
  rw [r_name hT hn hs.cons, Option.bind_some]
  simp only
  by_cases hb1 : isNm kwd t1.bare = true
  ·rw [if_pos hb1, if_pos hb1]
   simp only
   have he1 := her.cons (by rw [isNm_kind hb1]; decide)
   have hk1 := lv_keeps kwd (l := 0) (d := 0) (by omega) he1
   have hw := r_whole hT hn s b hs.cons.cons he1
   cases hl : lv kwd 0 0 r1 with
   | bad r2 =>
    rw [hl] at hk1 hw
    obtain ⟨_, _, _, _, hw⟩ := hw
    rw [hw]
    exact ⟨⟨_, _, _, _, _, _, _, _, _, _, _, _, rfl⟩, hs.cons.cons.trans hk1.1, hk1.2⟩
   | ok x r2 =>
    rw [hl] at hk1 hw
    have := lv_shorter kwd (by omega) hl
    rw [show m___sutureref1_Reader__whole n s (TS.map encR) (ix TS r1) false b = _ from hw]
    exact ⟨rfl, hs.cons.cons.trans hk1.1, hk1.2, by simp only [List.length_cons]; omega⟩
  ·rw [if_neg hb1, if_neg hb1]
   simp only
   rw [r_whole_bad, Option.bind_some]
   exact ⟨⟨_, _, _, _, _, _, _, _, _, _, _, _, rfl⟩, hs.cons, her⟩
 rw [if_neg c3, if_neg c3]
 by_cases c4 : t.text = wRecv
 ·rw [if_pos c4, if_pos c4]
  obtain ⟨t1, r1, rfl⟩ := her.ne
  rw [r_name hT hn hs.cons, Option.bind_some]
  simp only
  by_cases hb1 : isNm kwd t1.bare = true
  ·rw [if_pos hb1, if_pos hb1]
   simp only
   have he1 := her.cons (by rw [isNm_kind hb1]; decide)
   obtain ⟨t2, r2, rfl⟩ := he1.ne
   rw [r_name hT hn hs.cons.cons, Option.bind_some]
   simp only
   by_cases hb2 : isNm kwd t2.bare = true
   ·rw [if_pos hb2, if_pos hb2]
    exact ⟨rfl, hs.cons.cons.cons, he1.cons (by rw [isNm_kind hb2]; decide), by simp only [List.length_cons]; omega⟩
   ·rw [if_neg hb2, if_neg hb2]
    exact ⟨⟨_, _, _, _, _, _, _, _, _, _, _, _, rfl⟩, hs.cons.cons, he1⟩
  ·rw [if_neg hb1, if_neg hb1]
   simp only
   rw [r_name_bad, Option.bind_some]
   exact ⟨⟨_, _, _, _, _, _, _, _, _, _, _, _, rfl⟩, hs.cons, her⟩
 rw [if_neg c4, if_neg c4]
 by_cases c5 : t.text = wPrint
 ·rw [if_pos c5, if_pos c5]
  have hk1 := lv_keeps kwd (l := 0) (d := 0) (by omega) her
  have hw := r_whole hT hn s b hs.cons her
  cases hl : lv kwd 0 0 r with
  | bad r2 =>
   rw [hl] at hk1 hw
   obtain ⟨_, _, _, _, hw⟩ := hw
   rw [hw]
   exact ⟨⟨_, _, _, _, _, _, _, _, _, _, _, _, rfl⟩, hs.cons.trans hk1.1, hk1.2⟩
  | ok x r2 =>
   rw [hl] at hk1 hw
   have := lv_shorter kwd (by omega) hl
   rw [show m___sutureref1_Reader__whole n s (TS.map encR) (ix TS r) false b = _ from hw]
   exact ⟨rfl, hs.cons.trans hk1.1, hk1.2, by simp only [List.length_cons]; omega⟩
 rw [if_neg c5, if_neg c5]
 by_cases c6 : t.text = wIf
 ·rw [if_pos c6, if_pos c6]
  have hk1 := lv_keeps kwd (l := 0) (d := 0) (by omega) her
  have hw := r_whole hT hn s b hs.cons her
  cases hl : lv kwd 0 0 r with
  | bad r2 =>
   rw [hl] at hk1 hw
   obtain ⟨k1, k2⟩ := hk1
   obtain ⟨_, _, _, _, hw⟩ := hw
   rw [hw, Option.bind_some]
   simp only
   rw [hc.bad _ _ _ (by omega), Option.bind_some]
   simp only
   rw [r_word_bad, Option.bind_some]
   exact ⟨⟨_, _, _, _, _, _, _, _, _, _, _, _, rfl⟩, hs.cons.trans k1, k2⟩
  | ok x r2 =>
   rw [hl] at hk1 hw
   obtain ⟨k1, k2⟩ := hk1
   have hlt := lv_shorter kwd (by omega) hl
   rw [show m___sutureref1_Reader__whole n s (TS.map encR) (ix TS r) false b = _ from hw, Option.bind_some]
   simp only
   rw [if_pos (by omega), cast_up d (by omega)]
   have hB := hc.blk d r2 b hd (hs.cons.trans k1) k2 (by omega)
   cases hbl : blk d r2 with
   | bad r3 =>
    rw [hbl] at hB
    obtain ⟨⟨l, i, hq⟩, k3, k4⟩ := hB
    rw [hq, Option.bind_some]
    simp only
    rw [r_word_bad, Option.bind_some]
    exact ⟨⟨_, _, _, _, _, _, _, _, _, _, _, _, rfl⟩, k3, k4⟩
   | ok body r3 =>
    rw [hbl] at hB
    obtain ⟨hq, k3, k4, hlt3⟩ := hB
    obtain ⟨t4, r4, rfl⟩ := k4.ne
    simp only [List.length_cons] at hlt3
    rw [hq, Option.bind_some]
    simp only
    rw [r_word k3, l10, Option.bind_some]
    by_cases hel : isWord wElse t4.bare = true
    ·rw [hel, if_pos rfl, if_pos (by omega)]
     simp only [cond_true]
     have ke := k4.cons (by rw [isWord_kind hel]; decide)
     rw [ix_up k3 hT.len]
     have hF := hc.blk d r4 b hd k3.cons ke (by omega)
     cases hbf : blk d r4 with
     | bad r5 =>
      rw [hbf] at hF
      obtain ⟨⟨l, i, hq2⟩, k5, k6⟩ := hF
      rw [hq2, Option.bind_some]
      exact ⟨⟨_, _, _, _, _, _, _, _, _, _, _, _, rfl⟩, k5, k6⟩
     | ok els r5 =>
      rw [hbf] at hF
      obtain ⟨hq2, k5, k6, hlt5⟩ := hF
      rw [hq2, Option.bind_some]
      exact ⟨rfl, k5, k6, by simp only [List.length_cons]; omega⟩
    ·have hel' : isWord wElse t4.bare = false := by simpa using hel
     rw [hel', if_neg (by simp)]
     simp only [cond_false]
     exact ⟨by simp only [encSL]; rfl, k3, k4, by simp only [List.length_cons]; omega⟩
 rw [if_neg c6, if_neg c6]
 by_cases c7 : t.text = wRepeat
 ·rw [if_pos c7, if_pos c7]
  obtain ⟨t1, r1, rfl⟩ := her.ne
  rw [show ((9 : Int)) = ((9 : Nat) : Int) from rfl, r_num hT hs.cons, Option.bind_some]
  simp only
  simp only [List.length_cons] at hm
  by_cases hnm : t1.kind = 2 /\ t1.num <= 9
  ·rw [if_pos hnm, if_pos hnm]
   simp only
   have he1 := her.cons (by omega)
   rw [cast_up d (by omega)]
   have hB := hc.blk d r1 b hd hs.cons.cons he1 (by omega)
   cases hbl : blk d r1 with
   | bad r3 =>
    rw [hbl] at hB
    obtain ⟨⟨l, i, hq⟩, k3, k4⟩ := hB
    rw [hq, Option.bind_some]
    exact ⟨⟨_, _, _, _, _, _, _, _, _, _, _, _, rfl⟩, k3, k4⟩
   | ok body r3 =>
    rw [hbl] at hB
    obtain ⟨hq, k3, k4, hlt3⟩ := hB
    rw [hq, Option.bind_some]
    exact ⟨by simp only [encSL]; rfl, k3, k4, by simp only [List.length_cons]; omega⟩
  ·rw [if_neg hnm, if_neg hnm]
   simp only
   rw [hc.bad _ _ _ (by omega), Option.bind_some]
   exact ⟨⟨_, _, _, _, _, _, _, _, _, _, _, _, rfl⟩, hs.cons, her⟩
 rw [if_neg c7, if_neg c7]
 rw [keywordR n (by omega), kw_eq, hk', Option.bind_some, cond_true]
 exact ⟨⟨_, _, _, _, _, _, _, _, _, _, _, _, rfl⟩, hs, he⟩
theorem r_loop_bad {c : B___sutureref1_Reader__block} (d : Int) (acc : List T) (i b : Int) (k : Nat) : l___sutureref1_Reader__block_5 c n (k + 1) (s, d, acc, TS.map encR, i, true, b) = some (acc, TS.map encR, i, true, b) := rfl
def RsL (s : ByteArray) (TS : List Tok) (b : Int) (q : Option Q5) (len : Nat) : RB -> Prop
 | .ok l r => ∃ t, isSign 125 t.bare = true /\ q = some (encSL (P s) l, TS.map encR, ix TS (t :: r), false, b) /\ Suf TS (t :: r) /\ Ended (t :: r) /\ r.length < len
 | .bad r => (∃ l i, q = some (l, TS.map encR, i, true, ix TS r)) /\ Suf TS r /\ Ended r
theorem r_blk_loop (hR : TkR s TS) {c : B___sutureref1_Reader__block} {m : Nat} (hc : RkOk s TS c m) {d : Nat} (hd : d < 8) (b : Int) : ∀ (k : Nat) (acc : List St) (r : List Tok), r.length < k -> acc.length + r.length <= 6001 -> Suf TS r -> Ended r -> 4 * r.length < m →
  RsL s TS b (l___sutureref1_Reader__block_5 c n k (s, ((d + 1 : Nat) : Int), encSL (P s) acc, TS.map encR, ix TS r, false, b)) r.length (sts d acc r) := by
 have hT := hR.tkp.tks
 intro k
 induction k with
 | zero => intro acc r h; omega
 | succ k ih =>
  intro acc r hk ha hs he hm
  obtain ⟨t, r, rfl⟩ := he.ne
  simp only [List.length_cons] at hm hk ha
  show RsL s TS b (l___sutureref1_Reader__block_5_B c n (l___sutureref1_Reader__block_5 c n k) (s, ((d + 1 : Nat) : Int), encSL (P s) acc, TS.map encR, ix TS (t :: r), false, b)) _ _
  unfold l___sutureref1_Reader__block_5_B
  simp only [Bool.not_false, cond_true]
  rw [r_sign hs, show L (⟨#[125]⟩ : ByteArray) = [125] from rfl, r_sg, Option.bind_some, sts_cons]
  by_cases h1 : isSign 125 t.bare = true
  ·rw [h1, if_pos rfl]
   exact ⟨t, h1, rfl, hs, he, by simp only [List.length_cons]; omega⟩
  ·have h1' : isSign 125 t.bare = false := by simpa using h1
   rw [h1', if_neg (by simp)]
   simp only [Bool.not_false, cond_true]
   have hS := hc.stm (d + 1) (t :: r) b (by omega) hs he (by simp only [List.length_cons]; omega)
   cases hst : stm (d + 1) (t :: r) with
   | bad r2 =>
    rw [hst] at hS
    obtain ⟨⟨_, _, _, _, _, _, _, _, _, _, _, _, hq⟩, k3, k4⟩ := hS
    obtain ⟨t2, r2, rfl⟩ := k4.ne
    obtain ⟨k, rfl⟩ : ∃ j, k = j + 1 := ⟨k - 1, by omega⟩
    rw [hq, Option.bind_some]
    simp only [Bool.not_true, cond_false]
    rw [r_loop_bad]
    exact ⟨⟨_, _, rfl⟩, k3, k4⟩
   | ok x r2 =>
    obtain ⟨kd, nm, o, mm, e, body, els, p⟩ := x
    rw [hst] at hS
    obtain ⟨hq, k3, k4, hlt⟩ := hS
    simp only [List.length_cons] at hlt
    rw [hq, Option.bind_some]
    simp only [Bool.not_false, cond_true]
    rw [if_pos (by simp only [List.length_cons]; omega)]
    have hl : (encSL (P s) acc).length = acc.length := by rw [encSL_map, List.length_map]
    have e1 : ∀ x : Option Q5, must true ((Nat.beq 11 11 || Nat.beq 11 0) && (decide ((encSL (P s) acc).length + [T.agg [(T.sc (.int .i64 kd)), (T.sc (.string (B nm))), (T.sc (.string (B o))), (T.sc (.int .i64 (mm : Int))), (T.sc (.int .i64 (kO e))), (T.sc (.int .i64 (nO e))), (T.sc (.string (wO e))), (T.list (oO e)), (T.list (encSL (P s) body)), (T.list (encSL (P s) els)), (T.sc (.complex .f64 (P s p).1 (P s p).2))]].length <= 1073741824) && sized 11 [T.agg [(T.sc (.int .i64 kd)), (T.sc (.string (B nm))), (T.sc (.string (B o))), (T.sc (.int .i64 (mm : Int))), (T.sc (.int .i64 (kO e))), (T.sc (.int .i64 (nO e))), (T.sc (.string (wO e))), (T.list (oO e)), (T.list (encSL (P s) body)), (T.list (encSL (P s) els)), (T.sc (.complex .f64 (P s p).1 (P s p).2))]])) x = x := by
     intro x
     rw [hl, List.length_singleton, decide_eq_true (show acc.length + 1 <= 1073741824 by omega)]
     rfl
    rw [e1]
    have hr := ih (acc ++ [.mk kd nm o mm e body els p]) r2 (by omega) (by simp only [List.length_append, List.length_singleton]; omega) k3 k4 (by omega)
    rw [encSL_app] at hr
    simp only [encSL, encS] at hr
    revert hr
    generalize sts d (acc ++ [.mk kd nm o mm e body els p]) r2 = z
    cases z with
    | bad r3 => exact fun hr => hr
    | ok l r3 =>
     rintro ⟨t3, g1, g2, g3, g4, g5⟩
     exact ⟨t3, g1, g2, g3, g4, by simp only [List.length_cons]; omega⟩
theorem r_block (hR : TkR s TS) (hn : 100000 < n) {c : B___sutureref1_Reader__block} {m : Nat} (hc : RkOk s TS c m) {d : Nat} {r : List Tok} (b : Int) (hd : d <= 8) (hs : Suf TS r) (he : Ended r) (hm : 4 * r.length + 2 <= m) :
  RsB s TS b (f___sutureref1_Reader__block c n s ((d + 1 : Nat) : Int) (TS.map encR) (ix TS r) false b) r.length (blk d r) := by
 have hT := hR.tkp.tks
 obtain ⟨t, r, rfl⟩ := he.ne
 simp only [List.length_cons] at hm
 obtain ⟨k, hk⟩ : ∃ j, n = j + 1 := ⟨n - 1, by omega⟩
 have lb : ∀ (acc : List T) (i b : Int), l___sutureref1_Reader__block_5 c n n (s, ((d + 1 : Nat) : Int), acc, TS.map encR, i, true, b) = some (acc, TS.map encR, i, true, b) := by
  intro acc i b
  rw [show l___sutureref1_Reader__block_5 c n n = l___sutureref1_Reader__block_5 c n (k + 1) by rw [<- hk]]
  exact r_loop_bad _ _ _ _ _
 unfold f___sutureref1_Reader__block
 by_cases h8 : d = 8
 ·rw [decide_eq_true (show ((d + 1 : Nat) : Int) > 8 by omega), cond_true, blk.eq_def, if_pos h8, r_fail, Option.bind_some]
  simp only
  rw [r_must_bad, Option.bind_some]
  simp only
  rw [lb, Option.bind_some]
  simp only
  rw [r_must_bad, Option.bind_some]
  exact ⟨⟨_, _, rfl⟩, hs, he⟩
 rw [decide_eq_false (show ¬ ((d + 1 : Nat) : Int) > 8 by omega), cond_false, blk_cons _ _ _ h8, r_must hT hs 123, Option.bind_some]
 by_cases h1 : isSign 123 t.bare = true
 ·rw [if_pos h1, if_pos h1]
  simp only
  have her := he.cons (by rw [isSign_kind h1]; decide)
  have hlen := hs.len
  have hlen2 := hT.len
  simp only [List.length_cons] at hlen
  have hL := r_blk_loop (n := n) hR hc (d := d) (by omega) b n [] r (by omega) (by simp only [List.length_nil]; omega) hs.cons her (by omega)
  simp only [encSL] at hL
  cases hst : sts d [] r with
  | bad r2 =>
   rw [hst] at hL
   obtain ⟨⟨l, i, hq⟩, k3, k4⟩ := hL
   rw [hq, Option.bind_some]
   simp only
   rw [r_must_bad, Option.bind_some]
   exact ⟨⟨_, _, rfl⟩, k3, k4⟩
  | ok l r2 =>
   rw [hst] at hL
   obtain ⟨t2, g1, hq, k3, k4, hlt⟩ := hL
   rw [hq, Option.bind_some]
   simp only
   rw [r_must hT k3 125, if_pos g1, Option.bind_some]
   exact ⟨rfl, k3.cons, k4.cons (by rw [isSign_kind g1]; decide), by simp only [List.length_cons]; omega⟩
 ·rw [if_neg h1, if_neg h1]
  simp only
  rw [lb, Option.bind_some]
  simp only
  rw [r_must_bad, Option.bind_some]
  exact ⟨⟨_, _, rfl⟩, hs, he⟩
theorem r_block_bad (hn : 100000 < n) {c : B___sutureref1_Reader__block} (d i b : Int) : f___sutureref1_Reader__block c n s d (TS.map encR) i true b = some ([], TS.map encR, i, true, b) := by
 obtain ⟨k, hk⟩ : ∃ j, n = j + 1 := ⟨n - 1, by omega⟩
 have lb : ∀ (acc : List T) (i b : Int), l___sutureref1_Reader__block_5 c n n (s, d, acc, TS.map encR, i, true, b) = some (acc, TS.map encR, i, true, b) := by
  intro acc i b
  rw [show l___sutureref1_Reader__block_5 c n n = l___sutureref1_Reader__block_5 c n (k + 1) by rw [<- hk]]
  exact r_loop_bad _ _ _ _ _
 unfold f___sutureref1_Reader__block
 cases decide ((d : Int) > 8) with
 | true =>
  rw [cond_true, r_fail_bad, Option.bind_some]
  simp only
  rw [r_must_bad, Option.bind_some]
  simp only
  rw [lb, Option.bind_some]
  simp only
  rw [r_must_bad, Option.bind_some]
 | false =>
  rw [cond_false, r_must_bad, Option.bind_some]
  simp only
  rw [lb, Option.bind_some]
  simp only
  rw [r_must_bad, Option.bind_some]
theorem rk_ok (hR : TkR s TS) (hn : 100000 < n) : ∀ m, RkOk s TS (unB___sutureref1_Reader__block n m) m
 | 0 => ⟨fun d r b _ _ _ h => by omega, fun d i b h => by omega, fun d r b _ _ _ h => by omega⟩
 | m + 1 => by
  have ih := rk_ok hR hn m
  exact ⟨fun d r b hd hs he hm => r_block hR hn ih b hd hs he (by omega), fun d i b _ => r_block_bad hn d i b, fun d r b hd hs he hm => r_stmt hR hn ih b hd hs he (by omega)⟩
end
abbrev dkL (n k : Nat) (a : ByteArray) (i : Int) : Option (Int ⊕ Unit) := l_sutureref1_declKind_2 n k (a, (⟨#[118, 97, 114]⟩ : ByteArray), (⟨#[119, 105, 100, 101]⟩ : ByteArray), (⟨#[97, 116, 111, 109, 105, 99]⟩ : ByteArray), (⟨#[108, 111, 99, 97, 108]⟩ : ByteArray), (⟨#[109, 117, 116, 101, 120]⟩ : ByteArray), (⟨#[99, 104, 97, 110]⟩ : ByteArray), i)
theorem dk0 (n k : Nat) (a : ByteArray) : dkL n (k + 1) a 0 = bif (ByteArray.toList a == ByteArray.toList (⟨#[118, 97, 114]⟩ : ByteArray)) then some (.inl 1) else dkL n k a 1 := rfl
theorem dk1 (n k : Nat) (a : ByteArray) : dkL n (k + 1) a 1 = bif (ByteArray.toList a == ByteArray.toList (⟨#[119, 105, 100, 101]⟩ : ByteArray)) then some (.inl 2) else dkL n k a 2 := rfl
theorem dk2 (n k : Nat) (a : ByteArray) : dkL n (k + 1) a 2 = bif (ByteArray.toList a == ByteArray.toList (⟨#[97, 116, 111, 109, 105, 99]⟩ : ByteArray)) then some (.inl 3) else dkL n k a 3 := rfl
theorem dk3 (n k : Nat) (a : ByteArray) : dkL n (k + 1) a 3 = bif (ByteArray.toList a == ByteArray.toList (⟨#[108, 111, 99, 97, 108]⟩ : ByteArray)) then some (.inl 4) else dkL n k a 4 := rfl
theorem dk4 (n k : Nat) (a : ByteArray) : dkL n (k + 1) a 4 = bif (ByteArray.toList a == ByteArray.toList (⟨#[109, 117, 116, 101, 120]⟩ : ByteArray)) then some (.inl 5) else dkL n k a 5 := rfl
theorem dk5 (n k : Nat) (a : ByteArray) : dkL n (k + 1) a 5 = bif (ByteArray.toList a == ByteArray.toList (⟨#[99, 104, 97, 110]⟩ : ByteArray)) then some (.inl 6) else dkL n k a 6 := rfl
theorem dk6 (n k : Nat) (a : ByteArray) : dkL n (k + 1) a 6 = some (.inr ()) := rfl
theorem r_declKind {n : Nat} (hn : 100000 < n) (w : List UInt8) : m_sutureref1_declKind n (B w) = some (declK w) := by
 obtain ⟨k, hk⟩ : ∃ k, n = k + 7 := ⟨n - 7, by omega⟩
 have hl : ∀ q : ByteArray, (ByteArray.toList (B w) == ByteArray.toList q) = decide (w = L q) := by
  intro q
  rw [bytes_eq, L_B]
  by_cases h : w = L q
  ·rw [decide_eq_true h, beq_iff_eq]; exact h
  ·rw [decide_eq_false h, beq_eq_false_iff_ne]; exact h
 have e : m_sutureref1_declKind n (B w) = Option.bind (dkL n n (B w) 0) fun x1 => Sum.elim (fun p2 => some p2) (fun x1' => some 0) x1 := rfl
 rw [e]
 rw [show dkL n n (B w) 0 = dkL n (k + 7) (B w) 0 by rw [<- hk], dk0, dk1, dk2, dk3, dk4, dk5, dk6]
 have m1 : L (⟨#[118, 97, 114]⟩ : ByteArray) = wVar := rfl
 have m2 : L (⟨#[119, 105, 100, 101]⟩ : ByteArray) = wWide := rfl
 have m3 : L (⟨#[97, 116, 111, 109, 105, 99]⟩ : ByteArray) = wAtomic := rfl
 have m4 : L (⟨#[108, 111, 99, 97, 108]⟩ : ByteArray) = wLocal := rfl
 have m5 : L (⟨#[109, 117, 116, 101, 120]⟩ : ByteArray) = wMutex := rfl
 have m6 : L (⟨#[99, 104, 97, 110]⟩ : ByteArray) = wChan := rfl
 simp only [hl, Bool.cond_decide, m1, m2, m3, m4, m5, m6]
 unfold declK
 by_cases c1 : w = wVar
 ·rw [if_pos c1, if_pos c1]; rfl
 rw [if_neg c1, if_neg c1]
 by_cases c2 : w = wWide
 ·rw [if_pos c2, if_pos c2]; rfl
 rw [if_neg c2, if_neg c2]
 by_cases c3 : w = wAtomic
 ·rw [if_pos c3, if_pos c3]; rfl
 rw [if_neg c3, if_neg c3]
 by_cases c4 : w = wLocal
 ·rw [if_pos c4, if_pos c4]; rfl
 rw [if_neg c4, if_neg c4]
 by_cases c5 : w = wMutex
 ·rw [if_pos c5, if_pos c5]; rfl
 rw [if_neg c5, if_neg c5]
 by_cases c6 : w = wChan
 ·rw [if_pos c6, if_pos c6]; rfl
 rw [if_neg c6, if_neg c6]
 rfl
theorem declK_pos (w : List UInt8) : decide ((declK w : Int) > 0) = decide (declK w ≠ 0) := by
 have h : declK w = 0 \/ declK w > 0 := by
  unfold declK
  repeat' split
  all_goals first | exact .inl rfl | exact .inr (by decide)
 rcases h with h | h
 ·rw [h]; rfl
 ·rw [decide_eq_true h, decide_eq_true]; omega
section
variable {s : ByteArray} {TS : List Tok} {n : Nat}
abbrev Q10 := ByteArray × (List T) × (List T) × (List T) × (List T) × Int × Bool × Int × (List T) × (List T)
def RsD (s : ByteArray) (TS : List Tok) (b : Int) (x1 x2 x3 x9 : List T) (q : Option Q10) : RD -> Prop
 | .ok l r => q = some (s, x1, x2, x3, TS.map encR, ix TS r, false, b, l.map (encD (P s)), x9) /\ Suf TS r /\ Ended r
 | .bad r => (∃ l i, q = some (s, x1, x2, x3, TS.map encR, i, true, ix TS r, l, x9)) /\ Suf TS r /\ Ended r
theorem r_dcl_bad (x1 x2 x3 x9 l : List T) (i b : Int) (k : Nat) : l_sutureref1_Parse_6 n (k + 1) (s, x1, x2, x3, TS.map encR, i, true, b, l, x9) = some (s, x1, x2, x3, TS.map encR, i, true, b, l, x9) := rfl
theorem r_decls (hR : TkR s TS) (hn : 100000 < n) (b : Int) (x1 x2 x3 x9 : List T) : ∀ (k : Nat) (acc : List Dc) (r : List Tok), r.length < k -> acc.length + r.length <= 6001 -> Suf TS r -> Ended r →
  RsD s TS b x1 x2 x3 x9 (l_sutureref1_Parse_6 n k (s, x1, x2, x3, TS.map encR, ix TS r, false, b, acc.map (encD (P s)), x9)) (dcl acc r) := by
 have hT := hR.tkp.tks
 intro k
 induction k with
 | zero => intro acc r h; omega
 | succ k ih =>
  intro acc r hk ha hs he
  obtain ⟨t, r, rfl⟩ := he.ne
  simp only [List.length_cons] at hk ha
  have hl : (acc.map (encD (P s))).length = acc.length := List.length_map _
  show RsD s TS b x1 x2 x3 x9 (l_sutureref1_Parse_6_B n (l_sutureref1_Parse_6 n k) (s, x1, x2, x3, TS.map encR, ix TS (t :: r), false, b, acc.map (encD (P s)), x9)) _
  unfold l_sutureref1_Parse_6_B
  simp only [Bool.not_false, cond_true]
  rw [tok_atR hs]
  simp only [Option.bind_some, encR0]
  rw [dcl_eq]
  by_cases h1 : t.kind ≠ 1
  ·rw [show (t.kind == 1) = false from beq_eq_false_iff_ne.2 h1, if_neg (fun h => h1 h.1)]
   exact ⟨rfl, hs, he⟩
  have h1 : t.kind = 1 := by omega
  have her := he.cons (by rw [h1]; decide)
  obtain ⟨t1, r1, rfl⟩ := her.ne
  simp only [List.length_cons] at hk ha
  rw [beq_iff_eq.2 h1]
  simp only [cond_true]
  rw [tok_atR hs]
  simp only [Option.bind_some, encR1, encR3]
  rw [r_declKind hn, Option.bind_some, declK_pos]
  by_cases h0 : declK t.text = 0
  ·rw [decide_eq_false (by simpa using h0), if_neg (fun h => h.2 h0)]
   exact ⟨rfl, hs, he⟩
  rw [decide_eq_true h0, if_pos ⟨h1, h0⟩, hl, cond_true]
  by_cases h24 : acc.length = 24
  ·rw [show ((((acc.length : Nat) : Int) : Int) == 24) = true by rw [h24]; rfl, cond_true, if_pos h24, r_fail, Option.bind_some]
   exact ⟨⟨_, _, rfl⟩, hs, he⟩
  rw [show ((((acc.length : Nat) : Int) : Int) == 24) = false by rw [beq_eq_false_iff_ne]; omega, cond_false, if_neg h24]
  rw [place_eq (by have := hR.size; omega) (hR.pos t hs.mem) (by have := hR.pos t hs.mem; have := hR.size; omega), Option.bind_some, Option.bind_some, ix_up hs hT.len, r_name hT hn hs.cons, Option.bind_some]
  try simp only
  have hz : ∀ (kd : Int) (nm : ByteArray) (m : Int), sized 4 [T.agg [(T.sc (.int .i64 kd)), (T.sc (.string nm)), (T.sc (.int .i64 m)), T.sc (.complex .f64 (P s t.pos).1 (P s t.pos).2)]] = true := fun _ _ _ => rfl
  have ha' : (acc.map (encD (P s))).length <= 6001 := by rw [hl]; omega
  obtain ⟨j, rfl⟩ : ∃ j, k = j + 1 := ⟨k - 1, by omega⟩
  by_cases hb1 : isNm kwd t1.bare = true
  ·rw [if_pos hb1, if_pos hb1]
   simp only
   have he1 := her.cons (by rw [isNm_kind hb1]; decide)
   obtain ⟨t2, r2, rfl⟩ := he1.ne
   simp only [List.length_cons] at hk ha
   by_cases h6 : declK t.text = 6
   ·rw [h6, if_pos rfl, show (((6 : Int)) == 6) = true from rfl, cond_true, show ((3 : Int)) = ((3 : Nat) : Int) from rfl, r_num hT hs.cons.cons, Option.bind_some]
    simp only
    by_cases hnm : t2.kind = 2 /\ t2.num <= 3
    ·rw [if_pos hnm, if_pos hnm]
     simp only
     rw [<- hl, fitD 0 _ _ (hz _ _ _) ha']
     have := ih (acc ++ [⟨6, t1.text, t2.num, t.pos⟩]) r2 (by omega) (by simp only [List.length_append, List.length_singleton]; omega) hs.cons.cons.cons (he1.cons (by omega))
     rw [List.map_append] at this
     exact this
    ·rw [if_neg hnm, if_neg hnm]
     simp only
     rw [<- hl, fitD 0 _ _ (hz _ _ _) ha', r_dcl_bad]
     exact ⟨⟨_, _, rfl⟩, hs.cons.cons, he1⟩
   ·rw [if_neg h6, show (declK t.text == 6) = false from beq_eq_false_iff_ne.2 h6, cond_false, <- hl, fitD 0 _ _ (hz _ _ _) ha']
    have := ih (acc ++ [⟨declK t.text, t1.text, 0, t.pos⟩]) (t2 :: r2) (by simp only [List.length_cons]; omega) (by simp only [List.length_append, List.length_cons, List.length_nil]; omega) hs.cons.cons he1
    rw [List.map_append] at this
    exact this
  ·rw [if_neg hb1, if_neg hb1]
   simp only
   rw [r_num_bad, Option.bind_some]
   simp only
   rw [<- hl, fitD 0 _ _ (hz _ _ _) ha', r_dcl_bad]
   cases (declK t.text == 6)
   ·exact ⟨⟨_, _, rfl⟩, hs.cons, her⟩
   ·exact ⟨⟨_, _, rfl⟩, hs.cons, her⟩
abbrev Q9 := (List T) × (List T) × (List T) × (List T) × Int × Bool × Int × (List T) × (List T)
def RsT (s : ByteArray) (TS : List Tok) (b : Int) (x1 x2 x3 x8 : List T) (q : Option Q9) : RT -> Prop
 | .ok l r => q = some (x1, x2, x3, TS.map encR, ix TS r, false, b, x8, l.map (encT (P s))) /\ Suf TS r /\ Ended r
 | .bad r => (∃ l i, q = some (x1, x2, x3, TS.map encR, i, true, ix TS r, x8, l)) /\ Suf TS r /\ Ended r
theorem r_thr_bad (x1 x2 x3 x8 l : List T) (i b : Int) (k : Nat) : l_sutureref1_Parse_15 n (k + 1) (s, x1, x2, x3, TS.map encR, i, true, b, x8, l) = some (x1, x2, x3, TS.map encR, i, true, b, x8, l) := rfl
theorem r_threads (hR : TkR s TS) (hn : 100000 < n) (b : Int) (x1 x2 x3 x8 : List T) : ∀ (k : Nat) (acc : List (List St)) (r : List Tok), r.length < k -> acc.length + r.length <= 6001 -> Suf TS r -> Ended r →
  RsT s TS b x1 x2 x3 x8 (l_sutureref1_Parse_15 n k (s, x1, x2, x3, TS.map encR, ix TS r, false, b, x8, acc.map (encT (P s)))) (thr acc r) := by
 have hT := hR.tkp.tks
 have hb := rk_ok hR hn n
 intro k
 induction k with
 | zero => intro acc r h; omega
 | succ k ih =>
  intro acc r hk ha hs he
  obtain ⟨t, r, rfl⟩ := he.ne
  simp only [List.length_cons] at hk ha
  have hlen := hs.len
  have hlen2 := hT.len
  simp only [List.length_cons] at hlen
  have hl : (acc.map (encT (P s))).length = acc.length := List.length_map _
  have ha' : (acc.map (encT (P s))).length <= 6001 := by rw [hl]; omega
  obtain ⟨j, rfl⟩ : ∃ j, k = j + 1 := ⟨k - 1, by omega⟩
  show RsT s TS b x1 x2 x3 x8 (l_sutureref1_Parse_15_B n (l_sutureref1_Parse_15 n (j + 1)) (s, x1, x2, x3, TS.map encR, ix TS (t :: r), false, b, x8, acc.map (encT (P s)))) _
  unfold l_sutureref1_Parse_15_B
  simp only [Bool.not_false, cond_true]
  rw [thr_eq, tok_atR hs, Option.bind_some, encR0, hl]
  by_cases hz : acc ≠ [] /\ t.kind = 4
  ·have hzl : acc.length ≠ 0 := fun h => hz.1 (List.eq_nil_of_length_eq_zero h)
   rw [if_pos hz, show (t.kind != 4) = false by rw [hz.2]; rfl, show ((((acc.length : Nat) : Int) : Int) == 0) = false by rw [beq_eq_false_iff_ne]; omega]
   exact ⟨rfl, hs, he⟩
  rw [if_neg hz]
  have hgo : (bif (t.kind != 4) then true else ((((acc.length : Nat) : Int) : Int) == 0)) = true := by
   by_cases h4 : t.kind = 4
   ·have h0 : acc = [] := by
     cases acc with
     | nil => rfl
     | cons a l => exact absurd ⟨by simp, h4⟩ hz
    subst h0
    cases (t.kind != 4) <;> rfl
   ·rw [show (t.kind != 4) = true by simp [bne, h4]]; rfl
  rw [hgo, cond_true, r_word hs, lits.2.2.2.2.2.2.2.2.2.2, Option.bind_some]
  simp only
  by_cases h4 : acc.length = 4
  ·rw [show ((((acc.length : Nat) : Int) : Int) == 4) = true by rw [h4]; rfl, if_pos h4]
   have e : (bif (!isWord wGo t.bare) then true else true) = true := by cases isWord wGo t.bare <;> rfl
   rw [e, cond_true, r_fail, Option.bind_some]
   exact ⟨⟨_, _, rfl⟩, hs, he⟩
  rw [show ((((acc.length : Nat) : Int) : Int) == 4) = false by rw [beq_eq_false_iff_ne]; omega, if_neg h4]
  by_cases hg : isWord wGo t.bare = true
  ·rw [hg, if_pos rfl]
   simp only [Bool.not_true, cond_false]
   have her := he.cons (by rw [isWord_kind hg]; decide)
   rw [ix_up hs hT.len]
   have hB : RsB s TS b (m___sutureref1_Reader__block n s 1 (TS.map encR) (ix TS r) false b) r.length (blk 0 r) := hb.blk 0 r b (by omega) hs.cons her (by omega)
   cases hbl : blk 0 r with
   | bad r3 =>
    rw [hbl] at hB
    obtain ⟨⟨l, i, hq⟩, k3, k4⟩ := hB
    rw [hq, Option.bind_some]
    simp only
    rw [<- hl, fitT _ _ ha', r_thr_bad]
    exact ⟨⟨_, _, rfl⟩, k3, k4⟩
   | ok l r3 =>
    rw [hbl] at hB
    obtain ⟨hq, k3, k4, hlt⟩ := hB
    rw [hq, Option.bind_some]
    simp only
    rw [if_pos (by omega), <- hl, fitT _ _ ha']
    have := ih (acc ++ [l]) r3 (by omega) (by simp only [List.length_append, List.length_singleton]; omega) k3 k4
    rw [List.map_append] at this
    exact this
  ·have hg' : isWord wGo t.bare = false := by simpa using hg
   rw [hg', if_neg (by simp)]
   simp only [Bool.not_false, cond_true]
   rw [r_fail, Option.bind_some]
   exact ⟨⟨_, _, rfl⟩, hs, he⟩
end
theorem tkR_of {u : List UInt8} (hu : u.length <= 6000) {l : List Tok} (hl : lexR u 0 [] = .ok l) : TkR (B u) (l ++ [endT u]) := by
 refine ⟨tkp_of hu hl, fun t ht => ?_, by rw [L_B]; exact hu⟩
 rw [L_B]
 rcases List.mem_append.1 ht with ht | ht
 ·have := lexR_pos u.length u 0 [] l (Nat.le_refl _) (by simp) hl t ht
  omega
 ·simp only [List.mem_singleton] at ht; subst ht; exact Nat.le_refl _
theorem r_parse {n : Nat} (hn : 100000 < n) {u : List UInt8} (hu : u.length <= 6000) {l : List Tok} (hl : lexR u 0 [] = .ok l) :
  (∃ d th, prg (l ++ [endT u]) = .ok d th /\ m_sutureref1_Parse n (B u) = some (d.map (encD (P (B u))), th.map (encT (P (B u))), 0, 0)) ∨
  (∃ t r, prg (l ++ [endT u]) = .bad (t :: r) /\ t.pos <= u.length /\ m_sutureref1_Parse n (B u) = some ([], [], (t.pos : Int), 2)) := by
 have hR := tkR_of hu hl
 have hlen2 := hR.tkp.tks.len
 have he := hR.tkp.tks.ended
 obtain ⟨j, hj⟩ : ∃ j, n = j + 1 := ⟨n - 1, by omega⟩
 unfold m_sutureref1_Parse prg
 rw [tokensR_eq (by omega)]
 unfold toksR
 rw [if_neg (by rw [L_B]; omega), L_B, hl]
 simp only [Option.bind_some]
 rw [show ((((0 : Int)) : Int) != 0) = false from rfl, cond_false]
 have e : ∀ X : List Tok, X = l ++ [endT u] -> X.map encR = (l ++ [endT u]).map encR := fun X h => by rw [h]
 rw [show (⟨4, [], 0, u.length⟩ : Tok) = endT u from rfl]
 have hD := r_decls hR hn 0 ((l ++ [endT u]).map encR) [] [] [] n [] (l ++ [endT u]) (by omega) (by simp only [List.length_nil]; omega) (Suf.refl _) he
 rw [ix_all] at hD
 simp only [List.map_nil] at hD
 cases hd : dcl [] (l ++ [endT u]) with
 | bad r =>
  rw [hd] at hD
  obtain ⟨⟨dl, i, hq⟩, k3, k4⟩ := hD
  obtain ⟨t, r, rfl⟩ := k4.ne
  right
  rw [hq, Option.bind_some]
  simp only
  rw [show l_sutureref1_Parse_15 n n = l_sutureref1_Parse_15 n (j + 1) by rw [<- hj], r_thr_bad, Option.bind_some]
  simp only [cond_true]
  rw [tok_atR k3, Option.bind_some, encR3]
  exact ⟨t, r, rfl, by have := hR.pos t k3.mem; rw [L_B] at this; exact this, rfl⟩
 | ok d r =>
  rw [hd] at hD
  obtain ⟨hq, k3, k4⟩ := hD
  have hlen := k3.len
  rw [hq, Option.bind_some]
  simp only
  have hT := r_threads hR hn 0 ((l ++ [endT u]).map encR) [] [] (d.map (encD (P (B u)))) n [] r (by omega) (by simp only [List.length_nil]; omega) k3 k4
  simp only [List.map_nil] at hT
  cases ht : thr [] r with
  | bad r2 =>
   rw [ht] at hT
   obtain ⟨⟨tl, i, hq2⟩, k5, k6⟩ := hT
   obtain ⟨t, r2, rfl⟩ := k6.ne
   right
   rw [hq2, Option.bind_some]
   simp only [cond_true]
   rw [tok_atR k5, Option.bind_some, encR3]
   exact ⟨t, r2, rfl, by have := hR.pos t k5.mem; rw [L_B] at this; exact this, rfl⟩
  | ok tl r2 =>
   rw [ht] at hT
   obtain ⟨hq2, k5, k6⟩ := hT
   left
   rw [hq2, Option.bind_some]
   exact ⟨d, tl, rfl, rfl⟩
end Go.Proofs.Ytgpokdaacbjimab.W
