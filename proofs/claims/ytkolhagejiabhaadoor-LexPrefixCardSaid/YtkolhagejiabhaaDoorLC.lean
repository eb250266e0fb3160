/- Chapter 2, plain: the document's tokens are those that are said over lists of bytes. -/
import Derived.Test.YtkolhagejiabhaaDoorLB
namespace Go.Proofs.YtkolhagejiabhaaDoor.W
open Go Go.Eng Go.Eng.Fl
set_option linter.unusedVariables false
set_option linter.unusedSimpArgs false

theorem scanG {S O : Type} {Ls : List UInt8} {f : UInt8 → Bool} {l : Nat → S → Option O} (st : Nat → S) (out : Nat → O)
    (h : ∀ (m i : Nat), i ≤ Ls.length → l (m + 1) (st i) = if (Ls[i]?).any f = true then l m (st (i + 1)) else some (out i)) :
    ∀ (m i : Nat), i ≤ Ls.length → Ls.length - i < m → l m (st i) = some (out (i + ((Ls.drop i).takeWhile f).length))
  | 0, i, _, hm => by omega
  | m + 1, i, hi, hm => by
    rw [h m i hi]
    by_cases hlt : i < Ls.length
    · rw [List.drop_eq_getElem_cons hlt, List.getElem?_eq_getElem hlt]
      simp only [Option.any_some]
      by_cases hf : f Ls[i] = true
      · rw [if_pos hf, scanG st out h m (i + 1) (by omega) (by omega), List.takeWhile_cons_of_pos hf]
        congr 2
        simp only [List.length_cons]; omega
      · rw [if_neg hf, List.takeWhile_cons_of_neg hf]
        rfl
    · rw [List.getElem?_eq_none (by omega), List.drop_eq_nil_of_le (by omega)]
      rfl

abbrev B (l : List UInt8) : ByteArray := ⟨l.toArray⟩
theorem L_B (l : List UInt8) : L (B l) = l := by simp [L, B]
theorem B_L (s : ByteArray) : B (L s) = s := by simp [L, B]
theorem ext_B (s : ByteArray) (i k : Nat) : s.extract i k = B (((L s).drop i).take (k - i)) := by
  rw [← B_L (s.extract i k)]
  congr 1
  exact extract_list s i k

section
variable {s : ByteArray} {n : Nat} (hs : (L s).length ≤ 6000)
include hs

theorem one4_body (k : ByteArray × Int × Int × Int × ByteArray × Int × Int → Option (ByteArray × Int × Int × Int × ByteArray × Int × Int)) {i : Nat} (hi : i ≤ (L s).length) (s1 s3 s5 s6 : Int) (s4 : ByteArray) :
    l_sutureref1_one_4_B n k (s, s1, ((i : Nat) : Int), s3, s4, s5, s6) = if ((L s)[i]?).any isLD = true then k (s, s1, ((i + 1 : Nat) : Int), s3, s4, s5, s6) else some (s, s1, (i : Int), s3, s4, s5, s6) := by
  unfold l_sutureref1_one_4_B
  simp only
  by_cases hlt : i < (L s).length
  · have h1 : decide ((i : Int) < ((ByteArray.size s : Nat) : Int)) = true := by rw [decide_eq_true_eq, size_L]; omega
    simp only [h1, bidx_at hlt, List.getElem?_eq_getElem hlt, Option.bind_some, cond_true, rletter_eq, Option.any_some, wrap_up (show i ≤ 281474976710656 by omega), Bool.true_and]
    cases hl : isL (L s)[i] with
    | true => simp only [Bool.not_true, cond_false, Option.bind_some, bidx_no, cond_true]; rw [if_pos (isLD_L hl)]
    | false =>
      simp only [Bool.not_false, bidx_at hlt, Option.bind_some, cond_true, rdigit_eq, cond_false]
      by_cases hd : isD (L s)[i] = true
      · rw [hd, if_pos (isLD_D hd)]; rfl
      · rw [(Bool.not_eq_true _).mp hd, if_neg (by rw [isLD_no hl ((Bool.not_eq_true _).mp hd)]; simp)]; rfl
  · have h1 : decide ((i : Int) < ((ByteArray.size s : Nat) : Int)) = false := by rw [decide_eq_false_iff_not, size_L]; omega
    simp only [h1, bidx_no, Option.bind_some, cond_false, Bool.false_and]
    rw [List.getElem?_eq_none (by omega)]
    rfl

theorem one10_body (k : ByteArray × Int × Int × Int × ByteArray × Int × Int → Option (ByteArray × Int × Int × Int × ByteArray × Int × Int)) {i : Nat} (hi : i ≤ (L s).length) (s1 s3 s5 s6 : Int) (s4 : ByteArray) :
    l_sutureref1_one_10_B n k (s, s1, ((i : Nat) : Int), s3, s4, s5, s6) = if ((L s)[i]?).any isD = true then k (s, s1, ((i + 1 : Nat) : Int), s3, s4, s5, s6) else some (s, s1, (i : Int), s3, s4, s5, s6) := by
  unfold l_sutureref1_one_10_B
  simp only
  by_cases hlt : i < (L s).length
  · have h1 : decide ((i : Int) < ((ByteArray.size s : Nat) : Int)) = true := by rw [decide_eq_true_eq, size_L]; omega
    simp only [h1, bidx_at hlt, List.getElem?_eq_getElem hlt, Option.bind_some, cond_true, rdigit_eq, Option.any_some, wrap_up (show i ≤ 281474976710656 by omega)]
    by_cases hd : isD (L s)[i] = true
    · rw [hd, if_pos rfl]; rfl
    · rw [(Bool.not_eq_true _).mp hd, if_neg (by simp)]; rfl
  · have h1 : decide ((i : Int) < ((ByteArray.size s : Nat) : Int)) = false := by rw [decide_eq_false_iff_not, size_L]; omega
    simp only [h1, bidx_no, Option.bind_some, cond_false]
    rw [List.getElem?_eq_none (by omega)]
    rfl

theorem one4 (hn : 6001 < n) {i : Nat} (hi : i ≤ (L s).length) (s1 s3 s5 s6 : Int) (s4 : ByteArray) :
    l_sutureref1_one_4 n n (s, s1, (i : Int), s3, s4, s5, s6) = some (s, s1, ((i + (((L s).drop i).takeWhile isLD).length : Nat) : Int), s3, s4, s5, s6) :=
  scanG (l := l_sutureref1_one_4 n) (fun i => (s, s1, ((i : Nat) : Int), s3, s4, s5, s6)) (fun i => (s, s1, ((i : Nat) : Int), s3, s4, s5, s6)) (fun m i hi => one4_body hs (l_sutureref1_one_4 n m) hi s1 s3 s5 s6 s4) n i hi (by omega)
theorem one10 (hn : 6001 < n) {i : Nat} (hi : i ≤ (L s).length) (s1 s3 s5 s6 : Int) (s4 : ByteArray) :
    l_sutureref1_one_10 n n (s, s1, (i : Int), s3, s4, s5, s6) = some (s, s1, ((i + (((L s).drop i).takeWhile isD).length : Nat) : Int), s3, s4, s5, s6) :=
  scanG (l := l_sutureref1_one_10 n) (fun i => (s, s1, ((i : Nat) : Int), s3, s4, s5, s6)) (fun i => (s, s1, ((i : Nat) : Int), s3, s4, s5, s6)) (fun m i hi => one10_body hs (l_sutureref1_one_10 n m) hi s1 s3 s5 s6 s4) n i hi (by omega)

end

theorem num_digit {c : UInt8} (h : isD c = true) : IntKind.wrap .i64 (IntKind.wrap .u8 (((UInt8.toNat c : Nat) : Int) - 48)) = ((c.toNat - 48 : Nat) : Int) := by
  have h1 := isD_iff.1 h
  have e : IntKind.wrap .u8 (((UInt8.toNat c : Nat) : Int) - 48) = ((c.toNat - 48 : Nat) : Int) := by
    have : ∀ x : Int, IntKind.wrap .u8 x = x % 256 := by
      intro x
      show (if (false && decide (x % (2 ^ 8 : Int) ≥ (2 ^ 7 : Int))) = true then x % (2 ^ 8 : Int) - (2 ^ 8 : Int) else x % (2 ^ 8 : Int)) = _
      simp
    rw [this]; omega
  rw [e, wrap_id (by omega) (by omega)]

theorem num_loop {s : ByteArray} {n : Nat} (hs : (L s).length ≤ 6000) (hd : ∀ c ∈ L s, isD c = true) : ∀ (m i a : Nat), i ≤ (L s).length → (L s).length - i < m → a ≤ 9223372036854775807 →
    l_sutureref1_number_3 n m (s, (a : Int), (i : Int)) = if valF a ((L s).drop i) ≤ 9223372036854775807 then some (.inr (s, ((valF a ((L s).drop i) : Nat) : Int))) else some (.inl (0, false))
  | 0, i, a, _, hm, _ => by omega
  | m + 1, i, a, hi, hm, ha => by
    rw [l_sutureref1_number_3]
    unfold l_sutureref1_number_3_B
    simp only
    by_cases hlt : i < (L s).length
    · have h1 : decide ((i : Int) < ((ByteArray.size s : Nat) : Int)) = true := by rw [decide_eq_true_eq, size_L]; omega
      have hc := hd _ (List.getElem_mem hlt)
      have hc1 := isD_iff.1 hc
      have hle := valF_le ((L s).drop (i + 1)) (10 * a + ((L s)[i].toNat - 48))
      have hw : IntKind.wrap .i64 (9223372036854775807 - (((L s)[i].toNat - 48 : Nat) : Int)) = 9223372036854775807 - (((L s)[i].toNat - 48 : Nat) : Int) := wrap_id (by omega) (by omega)
      have hq : Int.tdiv (9223372036854775807 - (((L s)[i].toNat - 48 : Nat) : Int)) 10 = (9223372036854775807 - (((L s)[i].toNat - 48 : Nat) : Int)) / 10 := Int.tdiv_eq_ediv_of_nonneg (by omega)
      simp only [h1, cond_true, bidx_at hlt, Option.bind_some, num_digit hc, hw, hq, must]
      rw [wrap_id (show -9223372036854775808 ≤ (9223372036854775807 - (((L s)[i].toNat - 48 : Nat) : Int)) / 10 by omega) (by omega)]
      rw [List.drop_eq_getElem_cons hlt, valF_cons]
      by_cases hov : (a : Int) > (9223372036854775807 - (((L s)[i].toNat - 48 : Nat) : Int)) / 10
      · rw [decide_eq_true hov, if_neg (by omega)]
        rfl
      · rw [decide_eq_false hov]
        simp only [Bool.not_false, Bool.not_true, Bool.and_false, cond_false, show (decide ((10 : Int) = 0)) = false from rfl]
        rw [wrap_id (show -9223372036854775808 ≤ 10 * (a : Int) by omega) (by omega)]
        rw [wrap_id (show -9223372036854775808 ≤ 10 * (a : Int) + (((L s)[i].toNat - 48 : Nat) : Int) by omega) (by omega), wrap_up (show i ≤ 281474976710656 by omega)]
        rw [show 10 * (a : Int) + (((L s)[i].toNat - 48 : Nat) : Int) = ((10 * a + ((L s)[i].toNat - 48) : Nat) : Int) by omega]
        exact num_loop hs hd m (i + 1) _ (by omega) (by omega) (by omega)
    · have h1 : decide ((i : Int) < ((ByteArray.size s : Nat) : Int)) = false := by rw [decide_eq_false_iff_not, size_L]; omega
      simp only [h1, cond_false]
      rw [List.drop_eq_nil_of_le (by omega), valF_nil, if_pos ha]

theorem number_eq {s : ByteArray} {n : Nat} (hs : (L s).length ≤ 6000) (hn : 6001 < n) (hd : ∀ c ∈ L s, isD c = true) (h0 : L s ≠ []) :
    m_sutureref1_number n s = if val (L s) < 9223372036854775808 then some ((val (L s) : Int), plainNum (L s)) else some (0, false) := by
  unfold m_sutureref1_number
  have h := num_loop (n := n) hs hd n 0 0 (by omega) (by omega) (by omega)
  rw [show (((0 : Nat) : Nat) : Int) = 0 from rfl] at h
  rw [h]
  simp only [List.drop_zero]
  show Option.bind (if val (L s) ≤ 9223372036854775807 then _ else _) _ = _
  by_cases hv : val (L s) < 9223372036854775808
  · rw [if_pos (by omega), if_pos hv]
    simp only [Option.bind_some, Sum.elim_inr, bytes_eq]
    have e0 : L (⟨#[]⟩ : ByteArray) = [] := rfl
    have e1 : L (⟨#[48]⟩ : ByteArray) = [48] := rfl
    rw [e0, e1]
    cases hl : L s with
    | nil => exact absurd hl h0
    | cons c r =>
      have hne : (c :: r == ([] : List UInt8)) = false := rfl
      have hb : bidx true s 0 = some c := by
        have := bidx_at (s := s) (i := 0) (by rw [hl]; simp)
        simpa [hl] using this
      simp only [hne, Bool.not_false, hb, Option.bind_some, cond_true, bne, beq_byte c 48 48 rfl]
      have : (valF 0 (c :: r) : Int) = (val (c :: r) : Int) := rfl
      rw [this]
      congr 2
      unfold plainNum
      simp only [List.head?_cons, Option.any_some, bne]
      cases (c == 48) <;> cases (c :: r == [48]) <;> rfl
  · rw [if_neg (by omega), if_neg hv]
    rfl

theorem L_signs : L (⟨#[61, 60, 43, 45, 42, 47, 37, 40, 41, 123, 125]⟩ : ByteArray) = signs := rfl

theorem sign_loop {s : ByteArray} {n : Nat} {p : Nat} (hp : p < (L s).length) (hs : (L s).length ≤ 6000) (c : UInt8) (s5 s7 s8 : Int) (s6 : ByteArray) : ∀ (m i : Nat), i ≤ 11 → 11 - i < m →
    l_sutureref1_one_19 n m (s, (p : Int), ((UInt8.toNat c : Nat) : Int), ((p + 1 : Nat) : Int), (i : Int), s5, s6, s7, s8) =
      if (signs.drop i).contains c then some (.inl (1, 3, B (((L s).drop p).take 1), 0, (p : Int))) else some (.inr (s5, s6, s7, s8))
  | 0, i, _, hm => by omega
  | m + 1, i, hi, hm => by
    rw [l_sutureref1_one_19]
    unfold l_sutureref1_one_19_B
    simp only
    by_cases hlt : i < 11
    · rw [decide_eq_true (show ((i : Nat) : Int) < 11 by omega)]
      have hl : i < (L (⟨#[61, 60, 43, 45, 42, 47, 37, 40, 41, 123, 125]⟩ : ByteArray)).length := by rw [L_signs]; exact hlt
      have hl2 : i < signs.length := hlt
      rw [List.drop_eq_getElem_cons hl2, List.contains_cons]
      simp only [cond_true, bidx_at hl, Option.bind_some]
      rw [beq_byte (L (⟨#[61, 60, 43, 45, 42, 47, 37, 40, 41, 123, 125]⟩ : ByteArray))[i] c _ rfl]
      have hsame : (L (⟨#[61, 60, 43, 45, 42, 47, 37, 40, 41, 123, 125]⟩ : ByteArray))[i] = signs[i] := rfl
      rw [hsame]
      by_cases hc : signs[i] = c
      · rw [beq_iff_eq.2 hc, beq_iff_eq.2 hc.symm]
        simp only [cond_true, Bool.true_or, if_true, Int.toNat_natCast]
        rw [must_eq (by simp only [Bool.and_eq_true, decide_eq_true_eq, size_L]; omega), ext_B]
        rw [show p + 1 - p = 1 by omega]
      · rw [beq_eq_false_iff_ne.2 hc, beq_eq_false_iff_ne.2 (Ne.symm hc)]
        simp only [cond_false, Bool.false_or]
        rw [wrap_up (show i ≤ 281474976710656 by omega)]
        exact sign_loop hp hs c s5 s7 s8 s6 m (i + 1) (by omega) (by omega)
    · rw [decide_eq_false (show ¬ ((i : Nat) : Int) < 11 by omega)]
      have : signs.drop i = [] := List.drop_eq_nil_of_le (by show 11 ≤ i; omega)
      rw [this]
      rfl

/-- One token, as the document's function tells it. -/
def oneR (p : Nat) : Option Tok → Int × ByteArray × Int × Int × Int
  | none => (0, ⟨#[]⟩, 0, 0, 0)
  | some t => (t.kind, B t.text, (t.num : Int), (p : Int), (t.text.length : Int))

theorem one_eq {s : ByteArray} {n p : Nat} (hp : p < (L s).length) (hs : (L s).length ≤ 6000) (hn : 6001 < n) : m_sutureref1_one n s (p : Int) = some (oneR p (tokAt ((L s).drop p) p)) := by
  unfold m_sutureref1_one
  simp only [bidx_at hp, Option.bind_some, rletter_eq, rdigit_eq, wrap_up (show p ≤ 281474976710656 by omega)]
  have hdrop := List.drop_eq_getElem_cons hp
  have htw : ∀ (f : UInt8 → Bool), f (L s)[p] = true → (((L s).drop p).takeWhile f) = (L s)[p] :: (((L s).drop (p + 1)).takeWhile f) := by
    intro f hf
    rw [hdrop, List.takeWhile_cons_of_pos hf]
  have hlen : ∀ (f : UInt8 → Bool), (((L s).drop (p + 1)).takeWhile f).length ≤ (L s).length - (p + 1) := by
    intro f
    have := (List.takeWhile_prefix f (l := (L s).drop (p + 1))).length_le
    rw [List.length_drop] at this
    exact this
  have hext : ∀ (f : UInt8 → Bool), f (L s)[p] = true → s.extract p (p + 1 + (((L s).drop (p + 1)).takeWhile f).length) = B (((L s).drop p).takeWhile f) := by
    intro f hf
    rw [ext_B, show p + 1 + (((L s).drop (p + 1)).takeWhile f).length - p = (((L s).drop p).takeWhile f).length by rw [htw f hf, List.length_cons]; omega, take_takeWhile]
  cases hl : isL (L s)[p] with
  | true =>
    have hLD : isLD (L s)[p] = true := isLD_L hl
    have h1 := hlen isLD
    simp only [cond_true, one4 hs hn (show p + 1 ≤ (L s).length by omega), Option.bind_some]
    rw [show ((p + 1 + (((L s).drop (p + 1)).takeWhile isLD).length : Nat) : Int) - (p : Int) = (((((L s).drop p).takeWhile isLD).length : Nat) : Int) by rw [htw _ hLD, List.length_cons]; omega]
    rw [wrap_id (by omega) (by rw [htw _ hLD, List.length_cons]; omega)]
    rw [hdrop]
    simp only [tokAt, hl, if_true]
    rw [← hdrop]
    by_cases h12 : (((L s).drop p).takeWhile isLD).length ≤ 12
    · rw [decide_eq_false (by omega), if_pos h12]
      simp only [cond_false, Int.toNat_natCast]
      rw [must_eq (by simp only [Bool.and_eq_true, decide_eq_true_eq, size_L]; omega), hext _ hLD]
      rfl
    · rw [decide_eq_true (by omega), if_neg h12]
      rfl
  | false =>
    simp only [cond_false]
    cases hd : isD (L s)[p] with
    | true =>
      have h1 := hlen isD
      simp only [cond_true, one10 hs hn (show p + 1 ≤ (L s).length by omega), Option.bind_some, Int.toNat_natCast]
      rw [must_eq (by simp only [Bool.and_eq_true, decide_eq_true_eq, size_L]; omega), hext _ hd]
      have hLw : L (B (((L s).drop p).takeWhile isD)) = ((L s).drop p).takeWhile isD := L_B _
      have hne : ((L s).drop p).takeWhile isD ≠ [] := by rw [htw _ hd]; simp
      have hall : ∀ c ∈ ((L s).drop p).takeWhile isD, isD c = true := fun c hc => List.all_eq_true.1 (List.all_takeWhile (p := isD) (l := (L s).drop p)) c hc
      rw [number_eq (by rw [hLw, htw _ hd, List.length_cons]; omega) hn (by rw [hLw]; exact hall) (by rw [hLw]; exact hne), hLw]
      have htok : tokAt ((L s).drop p) p = if numOk (((L s).drop p).takeWhile isD) then some ⟨2, ((L s).drop p).takeWhile isD, val (((L s).drop p).takeWhile isD), p⟩ else none := by
        conv => lhs; rw [hdrop]
        simp only [tokAt, hl, hd, if_true, Bool.false_eq_true, if_false]
        rw [← hdrop]
      rw [htok]
      unfold numOk
      by_cases hv : val (((L s).drop p).takeWhile isD) < 9223372036854775808
      · rw [if_pos hv, decide_eq_true hv, Bool.and_true]
        simp only [Option.bind_some]
        cases hpn : plainNum (((L s).drop p).takeWhile isD) with
        | false => rfl
        | true =>
          simp only [Bool.not_true, cond_false, if_true]
          rw [must_eq (by simp only [Bool.and_eq_true, decide_eq_true_eq, size_L]; omega)]
          rw [show ((p + 1 + (((L s).drop (p + 1)).takeWhile isD).length : Nat) : Int) - (p : Int) = (((((L s).drop p).takeWhile isD).length : Nat) : Int) by rw [htw _ hd, List.length_cons]; omega]
          rw [wrap_id (by omega) (by rw [htw _ hd, List.length_cons]; omega)]
          rfl
      · rw [if_neg hv, decide_eq_false hv, Bool.and_false]
        rfl
    | false =>
      simp only [cond_false, beq_byte (L s)[p] 61 61 rfl]
      have htok : tokAt ((L s).drop p) p = if signs.contains (L s)[p] then (if (L s)[p] = 61 ∧ ((L s).drop (p + 1)).head? = some 61 then some ⟨3, [61, 61], 0, p⟩ else some ⟨3, [(L s)[p]], 0, p⟩) else none := by
        conv => lhs; rw [hdrop]
        simp only [tokAt, hl, hd, Bool.false_eq_true, if_false]
      have hsl := sign_loop (n := n) hp hs (L s)[p] 0 0 0 ⟨#[]⟩ n 0 (by omega) (by omega)
      have htake : ((L s).drop p).take 1 = [(L s)[p]] := by rw [hdrop]; rfl
      rw [htake] at hsl
      rw [show (((0 : Nat) : Nat) : Int) = 0 from rfl] at hsl
      simp only [List.drop_zero] at hsl
      have hrest : ∀ hq : ¬ ((L s)[p] = 61 ∧ ((L s).drop (p + 1)).head? = some 61), (Option.bind (l_sutureref1_one_19 n n (s, (p : Int), ((UInt8.toNat (L s)[p] : Nat) : Int), ((p + 1 : Nat) : Int), 0, 0, (⟨#[]⟩ : ByteArray), 0, 0)) fun x16 =>
          Sum.elim (fun p17 => some (p17.2.1, p17.2.2.1, p17.2.2.2.1, p17.2.2.2.2, p17.1)) (fun x16' => (fun p18 => some (0, (⟨#[]⟩ : ByteArray), 0, 0, 0)) x16') x16) = some (oneR p (tokAt ((L s).drop p) p)) := by
        intro hq
        rw [hsl, htok]
        cases hcon : signs.contains (L s)[p] with
        | false => rfl
        | true => rw [if_pos rfl, if_neg hq]; rfl
      by_cases h61 : (L s)[p] = 61
      · rw [beq_iff_eq.2 h61]
        simp only [cond_true]
        by_cases hlt : p + 1 < (L s).length
        · rw [decide_eq_true (show ((p + 1 : Nat) : Int) < ((ByteArray.size s : Nat) : Int) by rw [size_L]; omega)]
          simp only [bidx_at hlt, Option.bind_some, cond_true, beq_byte (L s)[p + 1] 61 61 rfl]
          by_cases h2 : (L s)[p + 1] = 61
          · rw [beq_iff_eq.2 h2, htok, h61]
            rw [if_pos (by decide), if_pos ⟨rfl, by rw [List.drop_eq_getElem_cons hlt]; simp [h2]⟩]
            rfl
          · rw [beq_eq_false_iff_ne.2 h2]
            simp only [cond_false]
            exact hrest (by rintro ⟨_, h3⟩; rw [List.drop_eq_getElem_cons hlt] at h3; simp at h3; rw [List.getElem?_eq_getElem hlt] at h3; exact h2 (Option.some.inj h3))
        · rw [decide_eq_false (show ¬ ((p + 1 : Nat) : Int) < ((ByteArray.size s : Nat) : Int) by rw [size_L]; omega)]
          simp only [bidx_no, Option.bind_some, cond_false]
          exact hrest (by rintro ⟨_, h3⟩; rw [List.drop_eq_nil_of_le (by omega)] at h3; simp at h3)
      · rw [beq_eq_false_iff_ne.2 h61]
        simp only [cond_false, bidx_no, Option.bind_some]
        exact hrest (fun h => h61 h.1)
end Go.Proofs.YtkolhagejiabhaaDoor.W
