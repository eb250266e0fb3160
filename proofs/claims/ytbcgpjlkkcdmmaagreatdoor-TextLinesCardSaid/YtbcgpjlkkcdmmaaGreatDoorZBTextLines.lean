/- Own texts, several in one. No conditions. -/
import Derived.Test.YtbcgpjlkkcdmmaaGreatDoorZATextLines
namespace Go.Proofs.YtbcgpjlkkcdmmaaGreatDoor.W
open Go Go.Eng Go.Eng.Fl
set_option linter.unusedVariables false
set_option linter.unusedSimpArgs false
set_option linter.unusedSectionVars false
def kO (e : Option E) : Int := match e with | some x => kE x | none => 0
def nO (e : Option E) : Int := match e with | some x => nE x | none => 0
def wO (e : Option E) : ByteArray := match e with | some x => wE x | none => (⟨#[]⟩ : ByteArray)
def oO (e : Option E) : List T := match e with | some x => oE x | none => []
mutual
def encS (pl : Nat -> Nat × Nat) : St -> T
 | .mk k n o m e body els p => T.agg [(T.sc (.int .i64 k)), (T.sc (.string (B n))), (T.sc (.string (B o))), (T.sc (.int .i64 (m : Int))), (T.sc (.int .i64 (kO e))), (T.sc (.int .i64 (nO e))), (T.sc (.string (wO e))), (T.list (oO e)), (T.list (encSL pl body)), (T.list (encSL pl els)), (T.sc (.complex .f64 (pl p).1 (pl p).2))]
def encSL (pl : Nat -> Nat × Nat) : List St -> List T
 | [] => []
 | x :: r => encS pl x :: encSL pl r
end
theorem encSL_map (pl : Nat -> Nat × Nat) : ∀ l : List St, encSL pl l = l.map (encS pl)
 | [] => by simp only [encSL, List.map_nil]
 | x :: l => by simp only [encSL, List.map_cons, encSL_map pl l]
theorem encSL_app (pl : Nat -> Nat × Nat) (l k : List St) : encSL pl (l ++ k) = encSL pl l ++ encSL pl k := by simp only [encSL_map, List.map_append]
theorem sized_S (pl : Nat -> Nat × Nat) (l : List St) : sized 11 (encSL pl l) = true := by
 rw [encSL_map]
 unfold sized
 rw [List.all_eq_true]
 intro y hy
 obtain ⟨t, _, rfl⟩ := List.mem_map.1 hy
 cases t
 simp only [encS]
 rfl
structure TkP (TS : List Tok) : Prop where
 tks : Tks TS
 sgn : ∀ t ∈ TS, t.kind = 3 -> wordB t.text = false
section
variable {s : ByteArray} {TS : List Tok} {n : Nat}
theorem txt_dec (t : Tok) (q : ByteArray) : (ByteArray.toList (B t.text) == ByteArray.toList q) = decide (t.text = L q) := by
 rw [bytes_eq, L_B]
 by_cases h : t.text = L q
 ·rw [decide_eq_true h, beq_iff_eq]; exact h
 ·rw [decide_eq_false h, beq_eq_false_iff_ne]; exact h
theorem isW_eq {r : List Tok} {t : Tok} (h : Suf TS (t :: r)) (q : ByteArray) : m___parse_reader__is n q (TS.map (encL s)) (ix TS (t :: r)) false = some ((t.kind == 1 || t.kind == 3) && (t.text == L q), TS.map (encL s), ix TS (t :: r), false) := by
 unfold m___parse_reader__is
 rw [tok_at h, Option.bind_some]
 have e0 : ((encL s t).cell 0).int = t.kind := rfl
 have e1 : ((encL s t).cell 1).str = B t.text := rfl
 rw [e0, e1, bytes_eq, L_B]
 cases (t.kind == 1) <;> cases (t.kind == 3) <;> rfl
theorem isW_bad {r : List Tok} {t : Tok} (h : Suf TS (t :: r)) (q : ByteArray) : m___parse_reader__is n q (TS.map (encL s)) (ix TS (t :: r)) true = some (false, TS.map (encL s), ix TS (t :: r), true) := by
 unfold m___parse_reader__is
 rw [tok_at h, Option.bind_some]
 rfl
theorem sgn_is (hT : Tks TS) {r : List Tok} {t : Tok} (h : Suf TS (t :: r)) (c : UInt8) (hc : isL c = false) : ((t.kind == 1 || t.kind == 3) && (t.text == [c])) = isSign c t.bare := by
 unfold isSign Tok.bare
 simp only
 by_cases h1 : t.kind = 1
 ·have hw := hT.word t h.mem h1
  have : (t.text == [c]) = false := by
   rw [beq_eq_false_iff_ne]
   intro hh
   rw [hh] at hw
   simp [wordB, hc] at hw
  rw [this, Bool.and_false, Bool.and_false]
 ·rw [show (t.kind == 1) = false from beq_eq_false_iff_ne.2 h1, Bool.false_or]
theorem mustS (hT : Tks TS) {r : List Tok} {t : Tok} (h : Suf TS (t :: r)) (c : UInt8) (hc : isL c = false) : m___parse_reader__must n (⟨#[c]⟩ : ByteArray) (TS.map (encL s)) (ix TS (t :: r)) false = some (if isSign c t.bare then (TS.map (encL s), ix TS r, false) else (TS.map (encL s), ix TS (t :: r), true)) := by
 unfold m___parse_reader__must
 rw [isW_eq h, Option.bind_some, show L (⟨#[c]⟩ : ByteArray) = [c] from rfl, sgn_is hT h c hc]
 cases isSign c t.bare with
 | true => simp only [Bool.not_true, cond_false, if_true, ix_up h hT.len]
 | false => rfl
theorem must_bad {r : List Tok} {t : Tok} (h : Suf TS (t :: r)) (q : ByteArray) : m___parse_reader__must n q (TS.map (encL s)) (ix TS (t :: r)) true = some (TS.map (encL s), ix TS (t :: r), true) := by
 unfold m___parse_reader__must
 rw [isW_bad h]
 rfl
theorem name_bad {r : List Tok} {t : Tok} (h : Suf TS (t :: r)) : m___parse_reader__name n (TS.map (encL s)) (ix TS (t :: r)) true = some ((⟨#[]⟩ : ByteArray), TS.map (encL s), ix TS (t :: r), true) := by
 unfold m___parse_reader__name
 rw [tok_at h, Option.bind_some]
 rfl
theorem name_eq (hT : Tks TS) (hn : 100000 < n) {r : List Tok} {t : Tok} (h : Suf TS (t :: r)) : m___parse_reader__name n (TS.map (encL s)) (ix TS (t :: r)) false = some (if isNm kwd t.bare then (B t.text, TS.map (encL s), ix TS r, false) else ((⟨#[]⟩ : ByteArray), TS.map (encL s), ix TS (t :: r), true)) := by
 unfold m___parse_reader__name
 rw [tok_at h, Option.bind_some]
 have e0 : ((encL s t).cell 0).int = t.kind := rfl
 have e1 : ((encL s t).cell 1).str = B t.text := rfl
 rw [e0, e1]
 have e2 : (bif !(bif false then true else (t.kind != 1)) then m_lex_IsName n (B t.text) else some false) = some (isNm kwd t.bare) := by
  rw [<- nm_eq hT hn h]
  unfold bne
  cases (t.kind == 1) <;> rfl
 rw [e2, Option.bind_some, ix_up h hT.len]
 cases hb : isNm kwd t.bare with
 | true =>
  have hk := isNm_kind hb
  rw [show (t.kind != 1) = false by rw [hk]; rfl]
  rfl
 | false => cases (t.kind != 1) <;> rfl
theorem num_bad {r : List Tok} {t : Tok} (h : Suf TS (t :: r)) (q : Int) : m___parse_reader__number n q (TS.map (encL s)) (ix TS (t :: r)) true = some (0, TS.map (encL s), ix TS (t :: r), true) := by
 unfold m___parse_reader__number
 rw [tok_at h, Option.bind_some]
 rfl
theorem num_eq (hT : Tks TS) {r : List Tok} {t : Tok} (h : Suf TS (t :: r)) (q : Nat) : m___parse_reader__number n (q : Int) (TS.map (encL s)) (ix TS (t :: r)) false = some (if t.kind = 2 /\ t.num <= q then ((t.num : Int), TS.map (encL s), ix TS r, false) else (0, TS.map (encL s), ix TS (t :: r), true)) := by
 unfold m___parse_reader__number
 rw [tok_at h, Option.bind_some]
 have e0 : ((encL s t).cell 0).int = t.kind := rfl
 have e2 : ((encL s t).cell 2).int = (t.num : Int) := rfl
 rw [e0, e2, ix_up h hT.len]
 by_cases hk : t.kind = 2
 ·rw [show (t.kind != 2) = false by rw [hk]; rfl]
  by_cases hq : t.num <= q
  ·rw [if_pos ⟨hk, hq⟩, decide_eq_false (show ¬ ((t.num : Nat) : Int) > (q : Int) by omega)]; rfl
  ·rw [if_neg (fun h => hq h.2), decide_eq_true (show ((t.num : Nat) : Int) > (q : Int) by omega)]; rfl
 ·rw [if_neg (fun h => hk h.1), show (t.kind != 2) = true by simp [bne, hk]]; rfl
theorem expr_bad (i : Int) : m___parse_reader__expr n (TS.map (encL s)) i true = some (0, 0, (⟨#[]⟩ : ByteArray), [], TS.map (encL s), i, true) := rfl
theorem expr_eq' (hT : Tks TS) (hn : 100000 < n) {r : List Tok} (hs : Suf TS r) (he : Ended r) : m___parse_reader__expr n (TS.map (encL s)) (ix TS r) false = some (match lv kwd 0 0 r with
  | .ok e r' => (kE e, nE e, wE e, oE e, TS.map (encL s), ix TS r', false)
  | .bad r' => (0, 0, (⟨#[]⟩ : ByteArray), [], TS.map (encL s), ix TS r', true)) := by
 unfold m___parse_reader__expr
 rw [cond_false, read_eq hT hn hs he, Option.bind_some]
 cases lv kwd 0 0 r <;> rfl
abbrev Q14 := Int × ByteArray × ByteArray × Int × Int × Int × ByteArray × (List T) × (List T) × (List T) × (Nat × Nat) × (List T) × Int × Bool
abbrev Q4 := (List T) × (List T) × Int × Bool
def ResS (s : ByteArray) (TS : List Tok) (q : Option Q14) (len : Nat) : RS -> Prop
 | .ok (.mk k nm o m e body els p) r => q = some (k, B nm, B o, (m : Int), kO e, nO e, wO e, oO e, encSL (P s) body, encSL (P s) els, P s p, TS.map (encL s), ix TS r, false) /\ Suf TS r /\ Ended r /\ r.length < len
 | .bad r => (∃ k nm o m a b c d e f g, q = some (k, nm, o, m, a, b, c, d, e, f, g, TS.map (encL s), ix TS r, true)) /\ Suf TS r /\ Ended r
def ResB (s : ByteArray) (TS : List Tok) (q : Option Q4) (len : Nat) : RB -> Prop
 | .ok l r => q = some (encSL (P s) l, TS.map (encL s), ix TS r, false) /\ Suf TS r /\ Ended r /\ r.length < len
 | .bad r => (∃ l, q = some (l, TS.map (encL s), ix TS r, true)) /\ Suf TS r /\ Ended r
structure PkOk (s : ByteArray) (TS : List Tok) (b : B___parse_reader__block) (m : Nat) : Prop where
 blk : ∀ (d : Nat) (r : List Tok), d <= 8 -> Suf TS r -> Ended r -> 4 * r.length + 2 < m -> ResB s TS (b.__parse_reader__block (d : Int) (TS.map (encL s)) (ix TS r) false) r.length (blk d r)
 bad : ∀ (d : Int) (t : Tok) (r : List Tok), Suf TS (t :: r) -> 0 < m -> b.__parse_reader__block d (TS.map (encL s)) (ix TS (t :: r)) true = some ([], TS.map (encL s), ix TS (t :: r), true)
 stm : ∀ (d : Nat) (r : List Tok), d <= 8 -> Suf TS r -> Ended r -> 4 * r.length < m -> ResS s TS (b.__parse_reader__stmt (d : Int) (TS.map (encL s)) (ix TS r) false) r.length (stm d r)
theorem lits : L (⟨#[108, 111, 99, 107]⟩ : ByteArray) = wLock /\ L (⟨#[117, 110, 108, 111, 99, 107]⟩ : ByteArray) = wUnlock /\ L (⟨#[115, 101, 110, 100]⟩ : ByteArray) = wSend /\ L (⟨#[114, 101, 99, 118]⟩ : ByteArray) = wRecv /\ L (⟨#[112, 114, 105, 110, 116]⟩ : ByteArray) = wPrint /\ L (⟨#[105, 102]⟩ : ByteArray) = wIf /\ L (⟨#[114, 101, 112, 101, 97, 116]⟩ : ByteArray) = wRepeat /\ L (⟨#[103, 111, 116, 111]⟩ : ByteArray) = wGoto /\ L (⟨#[108, 97, 98, 101, 108]⟩ : ByteArray) = wLabel /\ L (⟨#[101, 108, 115, 101]⟩ : ByteArray) = wElse /\ L (⟨#[103, 111]⟩ : ByteArray) = wGo := ⟨rfl, rfl, rfl, rfl, rfl, rfl, rfl, rfl, rfl, rfl, rfl⟩
theorem one_step (hT : Tks TS) (hn : 100000 < n) {t : Tok} {r : List Tok} (hs : Suf TS r) (he : Ended r) (k : Int) {f : ByteArray × (List T) × Int × Bool -> Option Q14} (hf : ∀ x, f x = some (k, x.1, (⟨#[]⟩ : ByteArray), 0, 0, 0, (⟨#[]⟩ : ByteArray), [], [], [], P s t.pos, x.2.1, x.2.2.1, x.2.2.2)) :
  ResS s TS (Option.bind (m___parse_reader__name n (TS.map (encL s)) (ix TS r) false) f) (t :: r).length (one1 k t.pos r) := by
 obtain ⟨t1, r1, rfl⟩ := he.ne
 rw [name_eq hT hn hs, Option.bind_some, hf, one1]
 by_cases hb : isNm kwd t1.bare = true
 ·rw [if_pos hb, if_pos hb]
  exact ⟨rfl, hs.cons, he.cons (by rw [isNm_kind hb]; decide), by simp only [List.length_cons]; omega⟩
 ·rw [if_neg hb, if_neg hb]
  exact ⟨⟨_, _, _, _, _, _, _, _, _, _, _, rfl⟩, hs, he⟩
theorem word_is (hP : TkP TS) {r : List Tok} {t : Tok} (h : Suf TS (t :: r)) (w : List UInt8) (hw : wordB w = true) : ((t.kind == 1 || t.kind == 3) && (t.text == w)) = isWord w t.bare := by
 unfold isWord Tok.bare
 simp only
 by_cases h3 : t.kind = 3
 ·have hq := hP.sgn t h.mem h3
  have : (t.text == w) = false := by
   rw [beq_eq_false_iff_ne]
   intro hh
   rw [hh, hw] at hq
   cases hq
  rw [this, Bool.and_false, Bool.and_false]
 ·rw [show (t.kind == 3) = false from beq_eq_false_iff_ne.2 h3, Bool.or_false]
theorem mustW (hP : TkP TS) {r : List Tok} {t : Tok} (h : Suf TS (t :: r)) (q : ByteArray) (hw : wordB (L q) = true) : m___parse_reader__must n q (TS.map (encL s)) (ix TS (t :: r)) false = some (if isWord (L q) t.bare then (TS.map (encL s), ix TS r, false) else (TS.map (encL s), ix TS (t :: r), true)) := by
 unfold m___parse_reader__must
 rw [isW_eq h, Option.bind_some, word_is hP h _ hw]
 cases isWord (L q) t.bare with
 | true => simp only [Bool.not_true, cond_false, if_true, ix_up h hP.tks.len]
 | false => rfl
theorem isWord_kind {w : List UInt8} {t : Tok} (h : isWord w t.bare = true) : t.kind = 1 := by
 simp only [isWord, Tok.bare, Bool.and_eq_true, beq_iff_eq] at h
 exact h.1
theorem stm_step (hP : TkP TS) (hn : 100000 < n) {b : B___parse_reader__block} {m : Nat} (hb : PkOk s TS b m) {d : Nat} {r : List Tok} (hd : d <= 8) (hs : Suf TS r) (he : Ended r) (hm : 4 * r.length <= m) :
  ResS s TS (f___parse_reader__stmt b n (d : Int) (TS.map (encL s)) (ix TS r) false) r.length (stm d r) := by
 have hT := hP.tks
 obtain ⟨l1, l2, l3, l4, l5, l6, l7, l8, l9, l10, l11⟩ := lits
 obtain ⟨t, r, rfl⟩ := he.ne
 simp only [List.length_cons] at hm
 unfold f___parse_reader__stmt
 rw [tok_at hs, Option.bind_some, stm_cons]
 have e0 : ((encL s t).cell 0).int = t.kind := rfl
 have e1 : ((encL s t).cell 1).str = B t.text := rfl
 have e3 : (((encL s t).cell 3).re, ((encL s t).cell 3).im) = P s t.pos := rfl
 rw [e0, e1, e3, ix_up hs hT.len]
 by_cases h1 : t.kind ≠ 1
 ·rw [show (t.kind != 1) = true by simp [bne, h1], cond_true, if_pos h1]
  exact ⟨⟨_, _, _, _, _, _, _, _, _, _, _, rfl⟩, hs, he⟩
 have h1 : t.kind = 1 := by omega
 rw [show (t.kind != 1) = false by rw [h1]; rfl, cond_false, if_neg (by simpa using h1)]
 have her := he.cons (by rw [h1]; decide)
 have hw := hT.word t hs.mem h1
 have hsh := hT.short t hs.mem
 rw [nameL (by rw [L_B]; omega) (by rw [L_B]; omega), L_B, hw, kw_eq, Bool.true_and, Option.bind_some]
 by_cases hk : kwd t.text = false
 ·rw [hk, if_pos rfl, Bool.not_false, cond_true]
  rw [name_eq hT hn hs, if_pos (by simp [isNm, Tok.bare, h1, hk]), Option.bind_some]
  obtain ⟨t1, r1, rfl⟩ := her.ne
  simp only
  rw [mustS hT hs.cons 61 (by decide), Option.bind_some]
  by_cases h61 : isSign 61 t1.bare = true
  ·rw [if_pos h61, if_pos h61]
   simp only
   have he1 := her.cons (by rw [isSign_kind h61]; decide)
   have hk1 := lv_keeps kwd (l := 0) (d := 0) (by omega) he1
   rw [expr_eq' hT hn hs.cons.cons he1, Option.bind_some]
   cases hl : lv kwd 0 0 r1 with
   | bad r2 => rw [hl] at hk1; exact ⟨⟨_, _, _, _, _, _, _, _, _, _, _, rfl⟩, hs.cons.cons.trans hk1.1, hk1.2⟩
   | ok x r2 =>
    rw [hl] at hk1
    have := lv_shorter kwd (by omega) hl
    exact ⟨rfl, hs.cons.cons.trans hk1.1, hk1.2, by simp only [List.length_cons]; omega⟩
  ·rw [if_neg h61, if_neg h61]
   simp only
   rw [expr_bad, Option.bind_some]
   exact ⟨⟨_, _, _, _, _, _, _, _, _, _, _, rfl⟩, hs.cons, her⟩
 have hk' : kwd t.text = true := by simpa using hk
 rw [if_neg hk, hk', Bool.not_true, cond_false]
 simp only [txt_dec, l1, l2, l3, l4, l5, l6, l7, l8, l9, Bool.cond_decide]
 by_cases c1 : t.text = wLock
 ·rw [if_pos c1, if_pos c1]; exact one_step hT hn hs.cons her 2 (fun x => rfl)
 rw [if_neg c1, if_neg c1]
 by_cases c2 : t.text = wUnlock
 ·rw [if_pos c2, if_pos c2]; exact one_step hT hn hs.cons her 3 (fun x => rfl)
 rw [if_neg c2, if_neg c2]
 by_cases c3 : t.text = wSend
 ·rw [if_pos c3, if_pos c3]
  obtain ⟨t1, r1, rfl⟩ := her.ne
  rw [name_eq hT hn hs.cons, Option.bind_some]
  simp only
  by_cases hb1 : isNm kwd t1.bare = true
  ·rw [if_pos hb1, if_pos hb1]
   simp only
   have he1 := her.cons (by rw [isNm_kind hb1]; decide)
   have hk1 := lv_keeps kwd (l := 0) (d := 0) (by omega) he1
   rw [expr_eq' hT hn hs.cons.cons he1, Option.bind_some]
   cases hl : lv kwd 0 0 r1 with
   | bad r2 => rw [hl] at hk1; exact ⟨⟨_, _, _, _, _, _, _, _, _, _, _, rfl⟩, hs.cons.cons.trans hk1.1, hk1.2⟩
   | ok x r2 =>
    rw [hl] at hk1
    have := lv_shorter kwd (by omega) hl
    exact ⟨rfl, hs.cons.cons.trans hk1.1, hk1.2, by simp only [List.length_cons]; omega⟩
  ·rw [if_neg hb1, if_neg hb1]
   simp only
   rw [expr_bad, Option.bind_some]
   exact ⟨⟨_, _, _, _, _, _, _, _, _, _, _, rfl⟩, hs.cons, her⟩
 rw [if_neg c3, if_neg c3]
 by_cases c4 : t.text = wRecv
 ·rw [if_pos c4, if_pos c4]
  obtain ⟨t1, r1, rfl⟩ := her.ne
  rw [name_eq hT hn hs.cons, Option.bind_some]
  simp only
  by_cases hb1 : isNm kwd t1.bare = true
  ·rw [if_pos hb1, if_pos hb1]
   simp only
   have he1 := her.cons (by rw [isNm_kind hb1]; decide)
   obtain ⟨t2, r2, rfl⟩ := he1.ne
   rw [name_eq hT hn hs.cons.cons, Option.bind_some]
   simp only
   by_cases hb2 : isNm kwd t2.bare = true
   ·rw [if_pos hb2, if_pos hb2]
    exact ⟨rfl, hs.cons.cons.cons, he1.cons (by rw [isNm_kind hb2]; decide), by simp only [List.length_cons]; omega⟩
   ·rw [if_neg hb2, if_neg hb2]
    exact ⟨⟨_, _, _, _, _, _, _, _, _, _, _, rfl⟩, hs.cons.cons, he1⟩
  ·rw [if_neg hb1, if_neg hb1]
   simp only
   rw [name_bad hs.cons, Option.bind_some]
   exact ⟨⟨_, _, _, _, _, _, _, _, _, _, _, rfl⟩, hs.cons, her⟩
 rw [if_neg c4, if_neg c4]
 by_cases c5 : t.text = wPrint
 ·rw [if_pos c5, if_pos c5]
  have hk1 := lv_keeps kwd (l := 0) (d := 0) (by omega) her
  rw [expr_eq' hT hn hs.cons her, Option.bind_some]
  cases hl : lv kwd 0 0 r with
  | bad r2 => rw [hl] at hk1; exact ⟨⟨_, _, _, _, _, _, _, _, _, _, _, rfl⟩, hs.cons.trans hk1.1, hk1.2⟩
  | ok x r2 =>
   rw [hl] at hk1
   have := lv_shorter kwd (by omega) hl
   exact ⟨rfl, hs.cons.trans hk1.1, hk1.2, by simp only [List.length_cons]; omega⟩
 rw [if_neg c5, if_neg c5]
 by_cases c6 : t.text = wIf
 ·rw [if_pos c6, if_pos c6]
  have hk1 := lv_keeps kwd (l := 0) (d := 0) (by omega) her
  rw [expr_eq' hT hn hs.cons her, Option.bind_some]
  cases hl : lv kwd 0 0 r with
  | bad r2 =>
   rw [hl] at hk1
   obtain ⟨k1, k2⟩ := hk1
   obtain ⟨t2, r2, rfl⟩ := k2.ne
   simp only
   rw [hb.bad _ t2 r2 (hs.cons.trans k1) (by omega), Option.bind_some]
   simp only
   rw [isW_bad (hs.cons.trans k1), Option.bind_some]
   exact ⟨⟨_, _, _, _, _, _, _, _, _, _, _, rfl⟩, hs.cons.trans k1, k2⟩
  | ok x r2 =>
   rw [hl] at hk1
   obtain ⟨k1, k2⟩ := hk1
   have hlt := lv_shorter kwd (by omega) hl
   simp only
   rw [if_pos (by omega)]
   have hB := hb.blk d r2 hd (hs.cons.trans k1) k2 (by omega)
   cases hbl : blk d r2 with
   | bad r3 =>
    rw [hbl] at hB
    obtain ⟨⟨l, hq⟩, k3, k4⟩ := hB
    obtain ⟨t3, r3, rfl⟩ := k4.ne
    rw [hq, Option.bind_some]
    simp only
    rw [isW_bad k3, Option.bind_some]
    exact ⟨⟨_, _, _, _, _, _, _, _, _, _, _, rfl⟩, k3, k4⟩
   | ok body r3 =>
    rw [hbl] at hB
    obtain ⟨hq, k3, k4, hlt3⟩ := hB
    obtain ⟨t4, r4, rfl⟩ := k4.ne
    simp only [List.length_cons] at hlt3
    rw [hq, Option.bind_some]
    simp only
    rw [isW_eq k3, l10, word_is hP k3 _ (by decide), Option.bind_some]
    by_cases hel : isWord wElse t4.bare = true
    ·rw [hel, if_pos rfl, if_pos (by omega)]
     simp only [cond_true]
     have ke := k4.cons (by rw [isWord_kind hel]; decide)
     rw [ix_up k3 hT.len]
     have hF := hb.blk d r4 hd k3.cons ke (by omega)
     cases hbf : blk d r4 with
     | bad r5 =>
      rw [hbf] at hF
      obtain ⟨⟨l, hq2⟩, k5, k6⟩ := hF
      rw [hq2, Option.bind_some]
      exact ⟨⟨_, _, _, _, _, _, _, _, _, _, _, rfl⟩, k5, k6⟩
     | ok els r5 =>
      rw [hbf] at hF
      obtain ⟨hq2, k5, k6, hlt5⟩ := hF
      rw [hq2, Option.bind_some]
      exact ⟨rfl, k5, k6, by simp only [List.length_cons]; omega⟩
    ·have hel' : isWord wElse t4.bare = false := by simpa using hel
     rw [hel', if_neg (by simp)]
     simp only [cond_false]
     exact ⟨by simp only [encSL]; rfl, k3, k4, by simp only [List.length_cons]; omega⟩
 rw [if_neg c6, if_neg c6]
 by_cases c7 : t.text = wRepeat
 ·rw [if_pos c7, if_pos c7]
  obtain ⟨t1, r1, rfl⟩ := her.ne
  rw [show ((9 : Int)) = ((9 : Nat) : Int) from rfl, num_eq hT hs.cons, Option.bind_some]
  simp only
  simp only [List.length_cons] at hm
  by_cases hnm : t1.kind = 2 /\ t1.num <= 9
  ·rw [if_pos hnm, if_pos hnm]
   simp only
   have he1 := her.cons (by omega)
   have hB := hb.blk d r1 hd hs.cons.cons he1 (by omega)
   cases hbl : blk d r1 with
   | bad r3 =>
    rw [hbl] at hB
    obtain ⟨⟨l, hq⟩, k3, k4⟩ := hB
    rw [hq, Option.bind_some]
    exact ⟨⟨_, _, _, _, _, _, _, _, _, _, _, rfl⟩, k3, k4⟩
   | ok body r3 =>
    rw [hbl] at hB
    obtain ⟨hq, k3, k4, hlt3⟩ := hB
    rw [hq, Option.bind_some]
    exact ⟨by simp only [encSL]; rfl, k3, k4, by simp only [List.length_cons]; omega⟩
  ·rw [if_neg hnm, if_neg hnm]
   simp only
   rw [hb.bad _ t1 r1 hs.cons (by omega), Option.bind_some]
   exact ⟨⟨_, _, _, _, _, _, _, _, _, _, _, rfl⟩, hs.cons, her⟩
 rw [if_neg c7, if_neg c7]
 by_cases c8 : t.text = wGoto
 ·rw [if_pos c8, if_pos c8]; exact one_step hT hn hs.cons her 9 (fun x => rfl)
 rw [if_neg c8, if_neg c8]
 by_cases c9 : t.text = wLabel
 ·rw [if_pos c9, if_pos c9]; exact one_step hT hn hs.cons her 10 (fun x => rfl)
 rw [if_neg c9, if_neg c9]
 have hlen := hs.len
 have hl2 := hT.len
 simp only [List.length_cons] at hlen
 have hx : IntKind.wrap .i64 (ix TS r - 1) = ix TS (t :: r) := by
  have e : ix TS r - 1 = ix TS (t :: r) := by simp only [ix, List.length_cons]; omega
  rw [e]
  exact wrap_id (by unfold ix; omega) (by unfold ix; omega)
 rw [hx]
 exact ⟨⟨_, _, _, _, _, _, _, _, _, _, _, rfl⟩, hs, he⟩
theorem clip_S {es : List T} (h : sized 11 es = true) : m_slices_Clip___api_Stmt_api_Stmt_ n es = some es := by
 unfold m_slices_Clip___api_Stmt_api_Stmt_
 simp [must, h]
theorem loop_bad {b : B___parse_reader__block} (d : Int) (acc : List T) {t : Tok} {r : List Tok} (k : Nat) : l___parse_reader__block_5 b n (k + 1) (d, acc, TS.map (encL s), ix TS (t :: r), true) = some (acc, TS.map (encL s), ix TS (t :: r), true) := by
 show l___parse_reader__block_5_B b n (l___parse_reader__block_5 b n k) (d, acc, TS.map (encL s), ix TS (t :: r), true) = _
 unfold l___parse_reader__block_5_B
 rfl
def ResL' (s : ByteArray) (TS : List Tok) (q : Option Q4) (len : Nat) : RB -> Prop
 | .ok l r => ∃ t, isSign 125 t.bare = true /\ q = some (encSL (P s) l, TS.map (encL s), ix TS (t :: r), false) /\ Suf TS (t :: r) /\ Ended (t :: r) /\ r.length < len
 | .bad r => (∃ l, sized 11 l = true /\ q = some (l, TS.map (encL s), ix TS r, true)) /\ Suf TS r /\ Ended r
theorem blk_loop (hP : TkP TS) {b : B___parse_reader__block} {m : Nat} (hb : PkOk s TS b m) {d : Nat} (hd : d < 8) : ∀ (k : Nat) (acc : List St) (r : List Tok), r.length < k -> acc.length + r.length <= 6001 -> Suf TS r -> Ended r -> 4 * r.length < m →
  ResL' s TS (l___parse_reader__block_5 b n k ((d : Int), encSL (P s) acc, TS.map (encL s), ix TS r, false)) r.length (sts d acc r) := by
 have hT := hP.tks
 intro k
 induction k with
 | zero => intro acc r h; omega
 | succ k ih =>
  intro acc r hk ha hs he hm
  obtain ⟨t, r, rfl⟩ := he.ne
  simp only [List.length_cons] at hm hk ha
  show ResL' s TS (l___parse_reader__block_5_B b n (l___parse_reader__block_5 b n k) ((d : Int), encSL (P s) acc, TS.map (encL s), ix TS (t :: r), false)) _ _
  unfold l___parse_reader__block_5_B
  simp only [Bool.not_false, cond_true]
  rw [isW_eq hs, show L (⟨#[125]⟩ : ByteArray) = [125] from rfl, sgn_is hT hs 125 (by decide), Option.bind_some, sts_cons]
  by_cases h1 : isSign 125 t.bare = true
  ·rw [h1, if_pos rfl]
   exact ⟨t, h1, rfl, hs, he, by simp only [List.length_cons]; omega⟩
  ·have h1' : isSign 125 t.bare = false := by simpa using h1
   rw [h1', if_neg (by simp)]
   simp only [Bool.not_false, cond_true]
   rw [cast_up d (by omega)]
   have hS := hb.stm (d + 1) (t :: r) (by omega) hs he (by simp only [List.length_cons]; omega)
   cases hst : stm (d + 1) (t :: r) with
   | bad r2 =>
    rw [hst] at hS
    obtain ⟨⟨_, _, _, _, _, _, _, _, _, _, _, hq⟩, k3, k4⟩ := hS
    obtain ⟨t2, r2, rfl⟩ := k4.ne
    obtain ⟨k, rfl⟩ : ∃ j, k = j + 1 := ⟨k - 1, by omega⟩
    rw [hq, Option.bind_some]
    simp only
    rw [loop_bad]
    have hl : (encSL (P s) acc).length = acc.length := by rw [encSL_map, List.length_map]
    simp only [List.length_singleton, hl]
    rw [decide_eq_true (show acc.length + 1 <= 1073741824 by omega)]
    refine ⟨⟨_, ?_, rfl⟩, k3, k4⟩
    have := sized_S (P s) acc
    unfold sized at this ⊢
    rw [List.all_append, this]
    rfl
   | ok x r2 =>
    obtain ⟨kd, nm, o, mm, e, body, els, p⟩ := x
    rw [hst] at hS
    obtain ⟨hq, k3, k4, hlt⟩ := hS
    simp only [List.length_cons] at hlt
    rw [hq, Option.bind_some]
    simp only
    rw [if_pos (by simp only [List.length_cons]; omega)]
    have hl : (encSL (P s) acc).length = acc.length := by rw [encSL_map, List.length_map]
    have e1 : ∀ x : Option Q4, must true ((Nat.beq 11 11 || Nat.beq 11 0) && (decide ((encSL (P s) acc).length + [T.agg [(T.sc (.int .i64 kd)), (T.sc (.string (B nm))), (T.sc (.string (B o))), (T.sc (.int .i64 (mm : Int))), (T.sc (.int .i64 (kO e))), (T.sc (.int .i64 (nO e))), (T.sc (.string (wO e))), (T.list (oO e)), (T.list (encSL (P s) body)), (T.list (encSL (P s) els)), (T.sc (.complex .f64 (P s p).1 (P s p).2))]].length <= 1073741824) && sized 11 [T.agg [(T.sc (.int .i64 kd)), (T.sc (.string (B nm))), (T.sc (.string (B o))), (T.sc (.int .i64 (mm : Int))), (T.sc (.int .i64 (kO e))), (T.sc (.int .i64 (nO e))), (T.sc (.string (wO e))), (T.list (oO e)), (T.list (encSL (P s) body)), (T.list (encSL (P s) els)), (T.sc (.complex .f64 (P s p).1 (P s p).2))]])) x = x := by
     intro x
     rw [hl, List.length_singleton, decide_eq_true (show acc.length + 1 <= 1073741824 by omega)]
     rfl
    rw [e1]
    have hr := ih (acc ++ [.mk kd nm o mm e body els p]) r2 (by omega) (by simp only [List.length_append, List.length_singleton]; omega) k3 k4 (by omega)
    rw [encSL_app] at hr
    simp only [encSL, encS] at hr
    revert hr
    generalize sts d (acc ++ [.mk kd nm o mm e body els p]) r2 = z
    cases z with
    | bad r3 => exact fun hr => hr
    | ok l r3 =>
     rintro ⟨t3, g1, g2, g3, g4, g5⟩
     exact ⟨t3, g1, g2, g3, g4, by simp only [List.length_cons]; omega⟩
theorem blk_step (hP : TkP TS) (hn : 100000 < n) {b : B___parse_reader__block} {m : Nat} (hb : PkOk s TS b m) {d : Nat} {r : List Tok} (hd : d <= 8) (hs : Suf TS r) (he : Ended r) (hm : 4 * r.length + 2 <= m) :
  ResB s TS (f___parse_reader__block b n (d : Int) (TS.map (encL s)) (ix TS r) false) r.length (blk d r) := by
 have hT := hP.tks
 have hsn : sized 11 ([] : List T) = true := rfl
 obtain ⟨t, r, rfl⟩ := he.ne
 simp only [List.length_cons] at hm
 obtain ⟨k, hk⟩ : ∃ j, n = j + 1 := ⟨n - 1, by omega⟩
 unfold f___parse_reader__block
 have hd8 : (((d : Nat) : Int) == 8) = decide (d = 8) := by
  by_cases h : d = 8
  ·rw [decide_eq_true h, beq_iff_eq]; omega
  ·rw [decide_eq_false h, beq_eq_false_iff_ne]; omega
 rw [hd8]
 have lb : ∀ acc : List T, l___parse_reader__block_5 b n n ((d : Int), acc, TS.map (encL s), ix TS (t :: r), true) = some (acc, TS.map (encL s), ix TS (t :: r), true) := by
  intro acc
  rw [show l___parse_reader__block_5 b n n = l___parse_reader__block_5 b n (k + 1) by rw [<- hk]]
  exact loop_bad _ _ _
 by_cases h8 : d = 8
 ·rw [decide_eq_true h8, cond_true, blk.eq_def, if_pos h8]
  simp only [m___parse_reader__fail, Option.bind_some]
  rw [must_bad hs, Option.bind_some]
  simp only
  rw [lb, Option.bind_some]
  simp only
  rw [must_bad hs, Option.bind_some, clip_S hsn]
  exact ⟨⟨_, rfl⟩, hs, he⟩
 rw [decide_eq_false h8, cond_false, blk_cons _ _ _ h8, mustS hT hs 123 (by decide), Option.bind_some]
 by_cases h1 : isSign 123 t.bare = true
 ·rw [if_pos h1, if_pos h1]
  simp only
  have her := he.cons (by rw [isSign_kind h1]; decide)
  have hlen := hs.len
  have hlen2 := hT.len
  simp only [List.length_cons] at hlen
  have hL := blk_loop (n := n) hP hb (d := d) (by omega) n [] r (by omega) (by simp only [List.length_nil]; omega) hs.cons her (by omega)
  simp only [encSL] at hL
  cases hst : sts d [] r with
  | bad r2 =>
   rw [hst] at hL
   obtain ⟨⟨l, hz, hq⟩, k3, k4⟩ := hL
   obtain ⟨t2, r2, rfl⟩ := k4.ne
   rw [hq, Option.bind_some]
   simp only
   rw [must_bad k3, Option.bind_some, clip_S hz]
   exact ⟨⟨_, rfl⟩, k3, k4⟩
  | ok l r2 =>
   rw [hst] at hL
   obtain ⟨t2, g1, hq, k3, k4, hlt⟩ := hL
   rw [hq, Option.bind_some]
   simp only
   rw [mustS hT k3 125 (by decide), if_pos g1, Option.bind_some, clip_S (sized_S (P s) l)]
   exact ⟨rfl, k3.cons, k4.cons (by rw [isSign_kind g1]; decide), by simp only [List.length_cons]; omega⟩
 ·rw [if_neg h1, if_neg h1]
  simp only
  rw [lb, Option.bind_some]
  simp only
  rw [must_bad hs, Option.bind_some, clip_S hsn]
  exact ⟨⟨_, rfl⟩, hs, he⟩
theorem blk_stepB (hn : 100000 < n) {b : B___parse_reader__block} (d : Int) {t : Tok} {r : List Tok} (hs : Suf TS (t :: r)) :
  f___parse_reader__block b n d (TS.map (encL s)) (ix TS (t :: r)) true = some ([], TS.map (encL s), ix TS (t :: r), true) := by
 have hsn : sized 11 ([] : List T) = true := rfl
 obtain ⟨k, hk⟩ : ∃ j, n = j + 1 := ⟨n - 1, by omega⟩
 unfold f___parse_reader__block
 have lb : ∀ acc : List T, l___parse_reader__block_5 b n n (d, acc, TS.map (encL s), ix TS (t :: r), true) = some (acc, TS.map (encL s), ix TS (t :: r), true) := by
  intro acc
  rw [show l___parse_reader__block_5 b n n = l___parse_reader__block_5 b n (k + 1) by rw [<- hk]]
  exact loop_bad _ _ _
 cases ((d : Int) == 8) with
 | true =>
  rw [cond_true]
  simp only [m___parse_reader__fail, Option.bind_some]
  rw [must_bad hs, Option.bind_some]
  simp only
  rw [lb, Option.bind_some]
  simp only
  rw [must_bad hs, Option.bind_some, clip_S hsn]
  rfl
 | false =>
  rw [cond_false, must_bad hs, Option.bind_some]
  simp only
  rw [lb, Option.bind_some]
  simp only
  rw [must_bad hs, Option.bind_some, clip_S hsn]
  rfl
theorem pk_ok (hP : TkP TS) (hn : 100000 < n) : ∀ m, PkOk s TS (unB___parse_reader__block n m) m
 | 0 => ⟨fun d r _ _ _ h => by omega, fun d t r _ h => by omega, fun d r _ _ _ h => by omega⟩
 | m + 1 => by
  have ih := pk_ok hP hn m
  exact ⟨fun d r hd hs he hm => blk_step hP hn ih hd hs he (by omega), fun d t r hs _ => blk_stepB hn d hs, fun d r hd hs he hm => stm_step hP hn ih hd hs he (by omega)⟩
end
end Go.Proofs.YtbcgpjlkkcdmmaaGreatDoor.W
namespace Go.Proofs.YtbcgpjlkkcdmmaaGreatDoor.W
open Go Go.Eng Go.Eng.Fl
set_option linter.unusedVariables false
set_option linter.unusedSimpArgs false
theorem B_append (u v : List UInt8) : B u ++ B v = B (u ++ v) := by
 have h : (B u ++ B v).data = (B (u ++ v)).data := by
  simp [B, ByteArray.data_append]
 cases hx : B u ++ B v with
 | mk d => rw [hx] at h; cases hy : B (u ++ v) with
  | mk d' => rw [hy] at h; simp only at h; rw [h]
theorem size_B (u : List UInt8) : (B u).size = u.length := by rw [size_L, L_B]
theorem must_cat {R : Type} {u v : List UInt8} {r : Option R} (h : u.length + v.length <= 4611686018427387904) : must true (decide (((ByteArray.size (B u) + ByteArray.size (B v) : Nat) : Int) <= IntKind.i64.max)) r = r := by
 refine must_eq ?_
 rw [decide_eq_true_eq, size_B, size_B, maxI]
 omega
theorem eB1 (c : UInt8) : (⟨#[c]⟩ : ByteArray) = B [c] := rfl
theorem fitsE_enc (e : E) : fits [.int .i64, .int .i64, .str, .list] (encE e) = true := by cases e <;> rfl
theorem idx_E {es : List E} {i : Nat} (h : i < es.length) : idx true [.int .i64, .int .i64, .str, .list] (es.map encE) (i : Int) = some (encE es[i]) := by
 unfold idx
 rw [cond_true, decide_eq_true (Int.natCast_nonneg _), cond_true, Int.toNat_natCast, List.getElem?_map, List.getElem?_eq_getElem h]
 simp [fitsE_enc]
theorem cellE (e : E) : ((encE e).cell 0).int = kE e /\ ((encE e).cell 1).int = nE e /\ ((encE e).cell 2).str = wE e /\ ((encE e).cell 3).lst = oE e := by cases e <;> exact ⟨rfl, rfl, rfl, rfl⟩
theorem len_ne {α : Type} {a b : List α} : (((((List.length a : Nat) : Int) : Int) != ((List.length b : Nat) : Int))) = !decide (a.length = b.length) := by
 by_cases h : a.length = b.length
 ·rw [decide_eq_true h, h]; simp
 ·rw [decide_eq_false h]; simp only [bne, Bool.not_false, Bool.not_eq_true', beq_eq_false_iff_ne]; omega
theorem heads (a c : E) : (bif (bif ((kE a : Int) == kE c) then ((nE a : Int) == nE c) else false) then (ByteArray.toList (wE a) == ByteArray.toList (wE c)) else false) = (((kE a == kE c) && (nE a == nE c)) && (L (wE a) == L (wE c))) := by
 rw [bytes_eq]
 cases (kE a == kE c) <;> cases (nE a == nE c) <;> rfl
section
variable {n : Nat}
theorem eqf_loop {b : B_tree_SameExpr} {la lb : List E} (hlen : la.length = lb.length) (h2 : la.length <= 2) (hb : ∀ x ∈ la, ∀ y, b.tree_SameExpr (kE x) (nE x) (wE x) (oE x) (kE y) (nE y) (wE y) (oE y) = some (decide (x = y))) :
  ∀ (k i : Nat), i <= la.length -> la.length - i < k -> l_slices_EqualFunc___api_Expr___api_Expr_api_Expr_api_Expr__4 b n k (lb.map encE, la.map encE, ((la.length : Nat) : Int), (i : Int)) = some (if la.drop i = lb.drop i then Sum.inl () else Sum.inr false) := by
 intro k
 induction k with
 | zero => intro i _ h; omega
 | succ k ih =>
  intro i hi hk
  show l_slices_EqualFunc___api_Expr___api_Expr_api_Expr_api_Expr__4_B b n (l_slices_EqualFunc___api_Expr___api_Expr_api_Expr_api_Expr__4 b n k) (lb.map encE, la.map encE, ((la.length : Nat) : Int), (i : Int)) = _
  unfold l_slices_EqualFunc___api_Expr___api_Expr_api_Expr_api_Expr__4_B
  simp only
  by_cases h : i < la.length
  ·rw [decide_eq_true (show (i : Int) < ((la.length : Nat) : Int) by omega), cond_true, idx_E h, Option.bind_some, idx_E (show i < lb.length by omega), Option.bind_some]
   obtain ⟨a1, a2, a3, a4⟩ := cellE la[i]
   obtain ⟨c1, c2, c3, c4⟩ := cellE lb[i]
   rw [a1, a2, a3, a4, c1, c2, c3, c4, hb _ (List.getElem_mem h), Option.bind_some, List.drop_eq_getElem_cons h, List.drop_eq_getElem_cons (show i < lb.length by omega)]
   by_cases he : la[i] = lb[i]
   ·have hiff : (la[i] :: la.drop (i + 1) = lb[i] :: lb.drop (i + 1)) ↔ la.drop (i + 1) = lb.drop (i + 1) := ⟨fun h => (List.cons.inj h).2, fun h => by rw [h, he]⟩
    rw [decide_eq_true he, Bool.not_true, cond_false, wrap_up (by omega), ih (i + 1) (by omega) (by omega)]
    by_cases hX : la.drop (i + 1) = lb.drop (i + 1)
    ·rw [if_pos hX, if_pos (hiff.2 hX)]
    ·rw [if_neg hX, if_neg (fun h => hX (hiff.1 h))]
   ·rw [decide_eq_false he, Bool.not_false, cond_true, if_neg (fun h => he (List.cons.inj h).1)]
  ·have hie : i = la.length := by omega
   subst hie
   rw [decide_eq_false (by omega), cond_false, List.drop_length, hlen, List.drop_length, if_pos rfl]
theorem sameL_all (hn : 10 < n) : ∀ (m : Nat), (∀ a c : E, 2 * (ht a + 1) <= m -> (unB_tree_SameExpr n m).tree_SameExpr (kE a) (nE a) (wE a) (oE a) (kE c) (nE c) (wE c) (oE c) = some (decide (a = c))) ∧
  (∀ la lb : List E, la.length <= 2 -> (∀ x ∈ la, 2 * (ht x + 1) + 1 <= m) -> 1 <= m -> (unB_tree_SameExpr n m).slices_EqualFunc___api_Expr___api_Expr_api_Expr_api_Expr_ (la.map encE) (lb.map encE) = some (decide (la = lb)))
 | 0 => ⟨fun a c h => by omega, fun la lb _ _ h => by omega⟩
 | m + 1 => by
  obtain ⟨ih1, ih2⟩ := sameL_all hn m
  refine ⟨fun a c h => ?_, fun la lb h2 hx _ => ?_⟩
  ·show f_tree_SameExpr (unB_tree_SameExpr n m) n _ _ _ _ _ _ _ _ = _
   unfold f_tree_SameExpr
   rw [heads]
   have hE := E_same a c
   cases hh : (((kE a == kE c) && (nE a == nE c)) && (L (wE a) == L (wE c))) with
   | false =>
    rw [hh] at hE
    rw [cond_false, Option.bind_some, cond_false, decide_eq_false (fun h => by have := hE.2 h; simp at this)]
   | true =>
    rw [hh] at hE
    rw [cond_true, oE_subs, oE_subs, ih2 _ _ (subs_len a) (fun x hx => by have := ht_subs hx; omega) (by omega), Option.bind_some, cond_true]
    congr 1
    rw [decide_eq_decide]
    exact ⟨fun h => hE.1 ⟨rfl, h⟩, fun h => by rw [h]⟩
  ·show f_slices_EqualFunc___api_Expr___api_Expr_api_Expr_api_Expr_ (unB_tree_SameExpr n m) n _ _ = _
   unfold f_slices_EqualFunc___api_Expr___api_Expr_api_Expr_api_Expr_
   rw [len_ne, List.length_map, List.length_map]
   by_cases hl : la.length = lb.length
   ·have := eqf_loop (n := n) (b := unB_tree_SameExpr n m) hl h2 (fun x hx' y => ih1 x y (by have := hx x hx'; omega)) n 0 (by omega) (by omega)
    rw [decide_eq_true hl, Bool.not_true, cond_false]
    rw [show ((0 : Nat) : Int) = 0 from rfl] at this
    rw [this, Option.bind_some, List.drop_zero, List.drop_zero]
    by_cases he : la = lb
    ·rw [if_pos he, decide_eq_true he]; rfl
    ·rw [if_neg he, decide_eq_false he]; rfl
   ·rw [decide_eq_false hl, Bool.not_false, cond_true, decide_eq_false (fun h => hl (by rw [h]))]
theorem sameL (a c : E) (hn : 2 * ht a + 20 < n) : m_tree_SameExpr n (kE a) (nE a) (wE a) (oE a) (kE c) (nE c) (wE c) (oE c) = some (decide (a = c)) :=
 (sameL_all (by omega) n).1 a c (by omega)
theorem heads_ne (a c : E) : (bif (bif (bif ((kE a : Int) != kE c) then true else ((nE a : Int) != nE c)) then true else (!(ByteArray.toList (wE a) == ByteArray.toList (wE c)))) then true else ((((List.length (oE a) : Nat) : Int) : Int) != ((List.length (oE c) : Nat) : Int))) = !((((kE a == kE c) && (nE a == nE c)) && (L (wE a) == L (wE c))) && decide ((subs a).length = (subs c).length)) := by
 rw [bytes_eq, len_ne, oE_subs, oE_subs, List.length_map, List.length_map]
 simp only [bne]
 cases (kE a == kE c) <;> cases (nE a == nE c) <;> cases (L (wE a) == L (wE c)) <;> rfl
theorem sign_op {k : Int} (h : isOp k = true) : m_expr_sign n k = some (B (sgn k), ((lvl k : Nat) : Int)) := by
 rcases op_cases h with rfl | rfl | rfl | rfl | rfl | rfl | rfl <;> rfl
theorem op_tests {k : Int} (h : isOp k = true) : ((k : Int) == 1) = false /\ ((k : Int) == 2) = false /\ ((k : Int) == 3) = false /\ decide ((k : Int) < 4) = false /\ decide ((k : Int) > 10) = false := by
 rcases op_cases h with rfl | rfl | rfl | rfl | rfl | rfl | rfl <;> decide
theorem pr_num (b : B_expr_printed) (k l : Nat) (hs : k < 9223372036854775808) : f_expr_printed b n 1 (k : Int) (⟨#[]⟩ : ByteArray) [] (l : Int) = some (B (Lib.decDigits k)) := by
 unfold f_expr_printed m_strconv_Itoa
 rw [itoa_nat (by omega)]
 rfl
theorem pr_name (b : B_expr_printed) (w : List UInt8) (l : Nat) : f_expr_printed b n 2 0 (B w) [] (l : Int) = some (B w) := rfl
theorem pr_neg (b : B_expr_printed) (e : E) (l : Nat) (hr : b.expr_printed (kE e) (nE e) (wE e) (oE e) 3 = some (B (bs e 3))) (hb : (bs e 3).length <= 1000000000) : f_expr_printed b n 3 0 (⟨#[]⟩ : ByteArray) [encE e] (l : Int) = some (B (45 :: bs e 3)) := by
 unfold f_expr_printed
 rw [show (((3 : Int)) == 1) = false from rfl, show (((3 : Int)) == 2) = false from rfl, show (((3 : Int)) == 3) = true from rfl, cond_false, cond_false, cond_true, show ((((List.length [encE e] : Nat) : Int) : Int) == 1) = true from rfl, cond_true]
 have hi := idx_E (es := [e]) (i := 0) (by simp)
 simp only [List.map_cons, List.map_nil, List.getElem_cons_zero] at hi
 obtain ⟨c1, c2, c3, c4⟩ := cellE e
 rw [show ((0 : Nat) : Int) = 0 from rfl] at hi
 rw [hi, Option.bind_some, c1, c2, c3, c4, hr, Option.bind_some, eB1, must_cat (by simp only [List.length_cons, List.length_nil]; omega), B_append]
 rfl
theorem pr_bin (bb : B_expr_printed) (k : Int) (a b : E) (l : Nat) (hk : isOp k = true) (ha : bb.expr_printed (kE a) (nE a) (wE a) (oE a) ((left k : Nat) : Int) = some (B (bs a (left k)))) (hb' : bb.expr_printed (kE b) (nE b) (wE b) (oE b) ((lvl k + 1 : Nat) : Int) = some (B (bs b (lvl k + 1))))
  (hb : (bs (.bin k a b) l).length <= 1000000000) (hlen : (bs a (left k)).length + (sgn k).length + (bs b (lvl k + 1)).length + 2 <= (bs (.bin k a b) l).length) : f_expr_printed bb n k 0 (⟨#[]⟩ : ByteArray) [encE a, encE b] (l : Int) = some (B (bs (.bin k a b) l)) := by
 obtain ⟨k1, k2, k3, k4, k5⟩ := op_tests hk
 have hlk := lvl_le k
 have hL := left_le k
 unfold f_expr_printed
 rw [k1, k2, k3, k4, k5, cond_false, cond_false, cond_false, cond_false, cond_false, cond_false, show ((((List.length [encE a, encE b] : Nat) : Int) : Int) != 2) = false from rfl, cond_false, sign_op hk, Option.bind_some]
 simp only
 have hi := idx_E (es := [a, b]) (i := 0) (by simp)
 have hj := idx_E (es := [a, b]) (i := 1) (by simp)
 simp only [List.map_cons, List.map_nil, List.getElem_cons_zero, List.getElem_cons_succ] at hi hj
 rw [show ((0 : Nat) : Int) = 0 from rfl] at hi
 rw [show ((1 : Nat) : Int) = 1 from rfl] at hj
 obtain ⟨c1, c2, c3, c4⟩ := cellE a
 obtain ⟨d1, d2, d3, d4⟩ := cellE b
 have hl0 : (((lvl k : Nat) : Int) == 0) = decide (lvl k = 0) := by
  by_cases h : lvl k = 0
  ·rw [decide_eq_true h, h]; rfl
  ·rw [decide_eq_false h, beq_eq_false_iff_ne]; omega
 have hlt : decide (((lvl k : Nat) : Int) < ((l : Nat) : Int)) = decide (lvl k < l) := by rw [decide_eq_decide]; omega
 have e2 : ∀ u v : List UInt8, (B u ++ (⟨#[32]⟩ : ByteArray)) = B (u ++ [32]) := fun u _ => by rw [eB1, B_append]
 rw [hl0, hi, hj, hlt]
 simp only [Option.bind_some, c1, c2, c3, c4, d1, d2, d3, d4]
 rw [cast_up (lvl k) (by omega), hb']
 have fin : ∀ (r : Option ByteArray), r = some (B (bs a (left k))) -> (Option.bind r fun r5 =>
   must true (decide (((ByteArray.size r5 + ByteArray.size (⟨#[32]⟩ : ByteArray) : Nat) : Int) <= IntKind.i64.max)) (must true (decide (((ByteArray.size (r5 ++ (⟨#[32]⟩ : ByteArray)) + ByteArray.size (B (sgn k)) : Nat) : Int) <= IntKind.i64.max)) (must true (decide (((ByteArray.size ((r5 ++ (⟨#[32]⟩ : ByteArray)) ++ (B (sgn k))) + ByteArray.size (⟨#[32]⟩ : ByteArray) : Nat) : Int) <= IntKind.i64.max)) (Option.bind (some (B (bs b (lvl k + 1)))) fun r7 =>
   must true (decide (((ByteArray.size (((r5 ++ (⟨#[32]⟩ : ByteArray)) ++ (B (sgn k))) ++ (⟨#[32]⟩ : ByteArray)) + ByteArray.size r7 : Nat) : Int) <= IntKind.i64.max)) (bif (decide (lvl k < l)) then (
   must true (decide (((ByteArray.size (⟨#[40]⟩ : ByteArray) + ByteArray.size ((((r5 ++ (⟨#[32]⟩ : ByteArray)) ++ (B (sgn k))) ++ (⟨#[32]⟩ : ByteArray)) ++ r7) : Nat) : Int) <= IntKind.i64.max)) (must true (decide (((ByteArray.size ((⟨#[40]⟩ : ByteArray) ++ ((((r5 ++ (⟨#[32]⟩ : ByteArray)) ++ (B (sgn k))) ++ (⟨#[32]⟩ : ByteArray)) ++ r7)) + ByteArray.size (⟨#[41]⟩ : ByteArray) : Nat) : Int) <= IntKind.i64.max)) (some (((⟨#[40]⟩ : ByteArray) ++ ((((r5 ++ (⟨#[32]⟩ : ByteArray)) ++ (B (sgn k))) ++ (⟨#[32]⟩ : ByteArray)) ++ r7)) ++ (⟨#[41]⟩ : ByteArray)))))
   else (some ((((r5 ++ (⟨#[32]⟩ : ByteArray)) ++ (B (sgn k))) ++ (⟨#[32]⟩ : ByteArray)) ++ r7))))))) = some (B (bs (.bin k a b) l)) := by
  rintro r rfl
  rw [Option.bind_some, Option.bind_some, eB1 32, eB1 40, eB1 41, must_cat (by simp only [List.length_cons, List.length_nil]; omega), B_append, must_cat (by simp only [List.length_append, List.length_cons, List.length_nil]; omega), B_append, must_cat (by simp only [List.length_append, List.length_cons, List.length_nil]; omega), B_append, must_cat (by simp only [List.length_append, List.length_cons, List.length_nil]; omega), B_append]
  by_cases hq : lvl k < l
  ·rw [decide_eq_true hq, cond_true, must_cat (by simp only [List.length_append, List.length_cons, List.length_nil]; omega), B_append, must_cat (by simp only [List.length_append, List.length_cons, List.length_nil]; omega), B_append, bs, if_pos hq]
   simp [List.append_assoc]
  ·rw [decide_eq_false hq, cond_false, bs, if_neg hq]
   simp [List.append_assoc]
 by_cases h0 : lvl k = 0
 ·rw [decide_eq_true h0, cond_true]
  rw [hL.2.2.1 h0] at ha fin
  rw [show ((1 : Nat) : Int) = 1 from rfl] at ha
  exact fin _ ha
 ·rw [decide_eq_false h0, cond_false]
  have hleq := hL.2.2.2 h0
  rw [hleq] at ha fin
  exact fin _ ha
theorem printed_eq : ∀ (m : Nat) (e : E) (l : Nat), ht e < m -> saneE e -> (bs e l).length <= 1000000000 -> l <= 3 -> (unB_expr_printed n m).expr_printed (kE e) (nE e) (wE e) (oE e) (l : Int) = some (B (bs e l)) := by
 intro m
 induction m with
 | zero => intro e l h; omega
 | succ m ih =>
  intro e l h hs hb hl
  have hun : (unB_expr_printed n (m + 1)).expr_printed = f_expr_printed (unB_expr_printed n m) n := rfl
  rw [hun]
  generalize unB_expr_printed n m = b at *
  cases e with
  | num k => exact pr_num b k l hs
  | name w => exact pr_name b w l
  | neg e =>
   have hht : ht e < m := by simp only [ht] at h; omega
   simp only [bs, List.length_cons] at hb
   exact pr_neg b e l (ih e 3 hht hs (by omega) (by omega)) (by omega)
  | bin k x y =>
   obtain ⟨hk, hsa, hsb⟩ := hs
   simp only [ht] at h
   have hlk := lvl_le k
   have hL := left_le k
   have hlen : (bs x (left k)).length + (sgn k).length + (bs y (lvl k + 1)).length + 2 <= (bs (.bin k x y) l).length := by
    rw [bs]
    split
    ·simp only [List.length_cons, List.length_append, List.length_nil]; omega
    ·simp only [List.length_cons, List.length_append]; omega
   exact pr_bin b k x y l hk (ih x (left k) (by omega) hsa (by omega) (by omega)) (ih y (lvl k + 1) (by omega) hsb (by omega) (by omega)) hb hlen
end
theorem lexR_short : ∀ (k : Nat) (r : List UInt8) (p : Nat) (acc l : List Tok) (K : Nat), r.length <= k -> r.length <= K -> (∀ t ∈ acc, t.text.length <= K) -> lexR r p acc = .ok l -> ∀ t ∈ l, t.text.length <= K := by
 intro k
 induction k with
 | zero =>
  intro r p acc l K hr _ ha h
  obtain rfl := List.eq_nil_of_length_eq_zero (Nat.le_zero.1 hr)
  rw [lexR_nil] at h
  simp only [LR.ok.injEq] at h
  subst h
  exact ha
 | succ k ih =>
  intro r p acc l K hr hK ha h
  cases r with
  | nil =>
   rw [lexR_nil] at h
   simp only [LR.ok.injEq] at h
   subst h
   exact ha
  | cons c r =>
   simp only [List.length_cons] at hr hK
   cases hb : W.blank c with
   | true => rw [lexR_blank hb] at h; exact ih r _ acc l K (by omega) (by omega) ha h
   | false =>
    by_cases h35 : c = 35
    ·subst h35
     rw [lexR_note] at h
     have := dropWhile_le (· != 10) r
     exact ih _ _ acc l K (by omega) (by omega) ha h
    ·cases ht : tokAt (c :: r) p with
     | none => rw [lexR_bad hb h35 ht] at h; cases h
     | some t =>
      rw [lexR_tok hb h35 ht] at h
      have hp := tokAt_pos ht
      simp only [List.length_cons] at hp
      refine ih _ _ (acc ++ [t]) l K (by simp only [List.length_drop]; omega) (by simp only [List.length_drop]; omega) ?_ h
      intro x hx
      rcases List.mem_append.1 hx with hx | hx
      ·exact ha x hx
      ·simp only [List.mem_singleton] at hx; subst hx; omega
def endT (u : List UInt8) : Tok := ⟨4, [], 0, u.length⟩
theorem tks_of {u : List UInt8} (hu : u.length <= 6000) {l : List Tok} (hl : lexR u 0 [] = .ok l) : Tks (l ++ [endT u]) := by
 have hs := lexR_sane u.length u 0 [] l (Nat.le_refl _) (by simp) hl
 have hlen := lexR_len u.length u 0 [] l (Nat.le_refl _) hl
 have hsh := lexR_short u.length u 0 [] l 6000 (Nat.le_refl _) hu (by simp) hl
 refine ⟨⟨l, endT u, rfl, rfl, fun t ht => ?_⟩, by simp at hlen ⊢; omega, fun t ht hk => ?_, fun t ht => ?_⟩
 ·have := (hs t ht).2.2.1
  simp only [Tok.bare] at this
  omega
 ·rcases List.mem_append.1 ht with ht | ht
  ·exact (hs t ht).1 hk
  ·simp only [List.mem_singleton] at ht; subst ht; simp [endT] at hk
 ·rcases List.mem_append.1 ht with ht | ht
  ·exact hsh t ht
  ·simp only [List.mem_singleton] at ht; subst ht; simp [endT]
section
variable {n : Nat}
theorem toks_ok (hn : 100000 < n) {u : List UInt8} (hu : u.length <= 6000) {l : List Tok} (hl : lexR u 0 [] = .ok l) : m_lex_Tokens n (B u) = some ((l ++ [endT u]).map (encL (B u)), (0, 0), 0) := by
 rw [tokens_eq (by rw [L_B]; omega) (by omega)]
 unfold toksL
 rw [if_neg (by rw [L_B]; omega), L_B, hl]
 simp only [outL, L_B, endT]
theorem toks_bad (hn : 100000 < n) {u : List UInt8} (hu : u.length <= 281474976710656) (h : 6000 < u.length \/ ∃ q, lexR u 0 [] = .bad q) : ∃ p, m_lex_Tokens n (B u) = some ([], p, 2) := by
 rw [tokens_eq (by rw [L_B]; omega) (by omega)]
 unfold toksL
 rw [L_B]
 by_cases h6 : 6000 < u.length
 ·rw [if_pos h6]; exact ⟨_, rfl⟩
 ·rw [if_neg h6]
  rcases h with h | ⟨q, hq⟩
  ·exact absurd h h6
  ·rw [hq]; exact ⟨_, rfl⟩
theorem toks_cases {u : List UInt8} : (∃ l, u.length <= 6000 /\ lexR u 0 [] = .ok l) \/ (6000 < u.length \/ ∃ q, lexR u 0 [] = .bad q) := by
 by_cases h6 : 6000 < u.length
 ·exact .inr (.inl h6)
 ·cases hc : lexR u 0 [] with
  | ok l => exact .inl ⟨l, by omega, rfl⟩
  | bad q => exact .inr (.inr ⟨q, rfl⟩)
theorem ix_all (ts : List Tok) : ix ts ts = 0 := by simp [ix]
theorem exprRead_eq (hn : 100000 < n) {u : List UInt8} (hu : u.length <= 6000) {l : List Tok} (hl : lexR u 0 [] = .ok l) : m_expr_Read n ((l ++ [endT u]).map (encL (B u))) 0 = some (match lv kwd 0 0 (l ++ [endT u]) with
  | .ok e r' => (kE e, nE e, wE e, oE e, ix (l ++ [endT u]) r', true)
  | .bad r' => (0, 0, (⟨#[]⟩ : ByteArray), [], ix (l ++ [endT u]) r', false)) := by
 have hT := tks_of hu hl
 have h := read_eq (s := B u) (n := n) hT hn (Suf.refl _) hT.ended
 rw [ix_all] at h
 exact h
theorem ht_le : ∀ (e : E) (l : Nat), ht e <= (bs e l).length
 | .num k, l => Nat.zero_le _
 | .name w, l => Nat.zero_le _
 | .neg e, l => by have := ht_le e 3; simp only [ht, bs, List.length_cons]; omega
 | .bin k a b, l => by
  have h1 := ht_le a (left k)
  have h2 := ht_le b (lvl k + 1)
  rw [bs]
  split <;> (simp only [ht, List.length_cons, List.length_append]; omega)
theorem spelt_self {e : E} (hs : saneE e) {l : List Tok} (hl : lexR (bs e 0) 0 [] = .ok l) : l.map Tok.bare = pr e 0 := by
 obtain ⟨ts, h1, h2⟩ := (Lx.expr (l := 0) hs).all
 rw [hl] at h2
 simp only [LR.ok.injEq] at h2
 subst h2
 exact h1
theorem lex_self {e : E} (hs : saneE e) : ∃ l, lexR (bs e 0) 0 [] = .ok l /\ l.map Tok.bare = pr e 0 := by
 obtain ⟨ts, h1, h2⟩ := (Lx.expr (l := 0) hs).all
 exact ⟨ts, h2, h1⟩
theorem stop_end (u : List UInt8) : stop 0 [endT u] := stop_kind (by simp [endT])
theorem read_self {e : E} (hf : fitsE kwd e 0 0) {u : List UInt8} {l : List Tok} (h : l.map Tok.bare = pr e 0) : lv kwd 0 0 (l ++ [endT u]) = .ok e [endT u] := read_E hf h (stop_end u)
theorem tok_end {s : ByteArray} {TS r : List Tok} {t : Tok} (h : Suf TS (t :: r)) : ((encL s t).cell 0).int = t.kind := rfl
theorem print_eq (hn : 100000 < n) {e : E} (hs : saneE e) (hb : (bs e 0).length <= 1000000) (hn2 : 2 * (bs e 0).length + 100 < n) :
  ((bs e 0).length <= 6000 /\ fitsE kwd e 0 0 -> m_expr_Print n (kE e) (nE e) (wE e) (oE e) = some (B (bs e 0))) ∧
  (¬ ((bs e 0).length <= 6000 /\ fitsE kwd e 0 0) -> m_expr_Print n (kE e) (nE e) (wE e) (oE e) = some (⟨#[]⟩ : ByteArray)) := by
 have hht := ht_le e 0
 have hp : m_expr_printed n (kE e) (nE e) (wE e) (oE e) 0 = some (B (bs e 0)) := printed_eq n e 0 (by omega) hs (by omega) (by omega)
 unfold m_expr_Print
 rw [hp, Option.bind_some]
 obtain ⟨l, hl, hbare⟩ := lex_self hs
 by_cases h6 : (bs e 0).length <= 6000
 ·rw [toks_ok hn h6 hl, Option.bind_some, show (((0 : Int)) != 0) = false from rfl, cond_false, exprRead_eq hn h6 hl, Option.bind_some]
  have hT := tks_of h6 hl
  refine ⟨fun ⟨_, hf⟩ => ?_, fun hno => ?_⟩
  ·rw [read_self hf hbare]
   have hsuf : Suf (l ++ [endT (bs e 0)]) ([endT (bs e 0)]) := ⟨l, rfl⟩
   simp only [Bool.not_true, Bool.not_false]
   rw [tok_at hsuf, Option.bind_some, show ((encL (B (bs e 0)) (endT (bs e 0))).cell 0).int = 4 from rfl, show (((4 : Int)) != 4) = false from rfl]
   simp only [cond_false, Bool.not_false, cond_true]
   rw [sameL e e (by omega), Option.bind_some, decide_eq_true rfl]
   rfl
  ·have hnf : ¬ fitsE kwd e 0 0 := fun h => hno ⟨h6, h⟩
   cases hc : lv kwd 0 0 (l ++ [endT (bs e 0)]) with
   | bad r =>
    simp only [Bool.not_false, Bool.not_true, idx_false, Option.bind_some, cond_true, cond_false]
   | ok y r =>
    obtain ⟨k1, k2⟩ := (by have := lv_keeps kwd (l := 0) (d := 0) (by omega) hT.ended; rw [hc] at this; exact this : Suf (l ++ [endT (bs e 0)]) r /\ Ended r)
    obtain ⟨t, r', rfl⟩ := k2.ne
    simp only [Bool.not_true, Bool.not_false]
    rw [tok_at k1, Option.bind_some, show ((encL (B (bs e 0)) t).cell 0).int = t.kind from rfl]
    by_cases hk : t.kind = 4
    ·have hk4 : (((t.kind : Int)) != 4) = false := by rw [hk]; rfl
     have hyne : e ≠ y := by
      rintro rfl
      obtain ⟨t1, _, hg⟩ := spelt kwd (by omega) hc
      exact hnf (G_fits kwd hg)
     rw [hk4]
     simp only [cond_false, Bool.not_false, cond_true]
     rw [sameL e y (by omega), Option.bind_some, decide_eq_false hyne]
     rfl
    ·have hk4 : (((t.kind : Int)) != 4) = true := by simp [bne, hk]
     rw [hk4]
     simp only [cond_false, Bool.not_true, cond_true, Option.bind_some]
 ·obtain ⟨p, hp⟩ := toks_bad hn (u := bs e 0) (by omega) (.inl (by omega))
  rw [hp, Option.bind_some, show (((2 : Int)) != 0) = true from rfl, cond_true]
  exact ⟨fun h => absurd h.1 h6, fun _ => rfl⟩
theorem print_yes (hn : 100000 < n) {e : E} (hs : saneE e) (hb : (bs e 0).length <= 6000) (hf : fitsE kwd e 0 0) : m_expr_Print n (kE e) (nE e) (wE e) (oE e) = some (B (bs e 0)) :=
 (print_eq hn hs (by omega) (by omega)).1 ⟨hb, hf⟩
theorem print_zero (hn : 100000 < n) : m_expr_Print n 0 0 (⟨#[]⟩ : ByteArray) [] = some (⟨#[]⟩ : ByteArray) := by
 obtain ⟨k, rfl⟩ : ∃ k, n = k + 1 := ⟨n - 1, by omega⟩
 have hp : m_expr_printed (k + 1) 0 0 (⟨#[]⟩ : ByteArray) [] 0 = some (B [63]) := rfl
 unfold m_expr_Print
 rw [hp, Option.bind_some]
 obtain ⟨p, hp⟩ := toks_bad (n := k + 1) hn (u := [63]) (by decide) (.inr ⟨0, lexR_bad (by decide) (by decide) (by decide)⟩)
 rw [hp, Option.bind_some, show (((2 : Int)) != 0) = true from rfl, cond_true]
theorem bs_ne {e : E} (hs : saneE e) : bs e 0 ≠ [] := by
 intro h
 obtain ⟨l, hl, hbare⟩ := lex_self hs
 rw [h, lexR_nil] at hl
 simp only [LR.ok.injEq] at hl
 subst hl
 have : (pr e 0).length = 0 := by rw [<- hbare]; rfl
 cases e with
 | num k => simp [pr] at this
 | name w => simp [pr] at this
 | neg e => simp [pr] at this
 | bin k a b => rw [pr] at this; split at this <;> simp at this
theorem empty_test (u : List UInt8) : (ByteArray.toList (B u) == ByteArray.toList (⟨#[]⟩ : ByteArray)) = decide (u = []) := by
 rw [bytes_eq, L_B, show L (⟨#[]⟩ : ByteArray) = [] from rfl]
 cases u <;> rfl
end
section
variable {n : Nat}
theorem len_end (l : List Tok) (s : ByteArray) (u : List UInt8) : (((List.length ((l ++ [endT u]).map (encL s)) : Nat) : Int) : Int) = ((l.length + 1 : Nat) : Int) := by simp
def pieces : List (List UInt8) := [[120], [121], [97], [55], [48], [49, 50], [43], [45], [42], [47], [37], [60], [61, 61], [40], [41], [120], [51], [45], [40], [41], [103, 111], [61], [123], [57]]
def Piece (p : List UInt8) : Prop := p.length <= 2 /\ ∃ b : Bk, Lx0 (p ++ [32]) [b] /\ b.2.1 = p
theorem piece_word {p : List UInt8} (h2 : p.length <= 2) (h : wordB p = true) : Piece p := ⟨h2, (1, p, 0), (Lx.word h).append0 (c := 32) (v := []) (by decide) (Lx0.blank (by decide)), rfl⟩
theorem piece_num {p : List UInt8} (k : Nat) (h2 : p.length <= 2) (hk : k < 9223372036854775808) (h : Lib.decDigits k = p) : Piece p := by
 subst h
 exact ⟨h2, (2, Lib.decDigits k, k), (Lx.num hk).append0 (c := 32) (v := []) (by decide) (Lx0.blank (by decide)), rfl⟩
theorem piece_sign {c : UInt8} (h : signs.contains c = true) (h61 : c ≠ 61) : Piece [c] := ⟨by simp, (3, [c], 0), (Lx0.sign h h61).append0 (Lx0.blank (by decide)), rfl⟩
theorem digits1 {k : Nat} (h : k < 10) : Lib.decDigits k = [UInt8.ofNat (48 + k)] := Lib.decDigits_one h
theorem pieces_ok : ∀ p ∈ pieces, Piece p := by
 intro p hp
 simp only [pieces, List.mem_cons, List.not_mem_nil, or_false] at hp
 rcases hp with rfl | rfl | rfl | rfl | rfl | rfl | rfl | rfl | rfl | rfl | rfl | rfl | rfl | rfl | rfl | rfl | rfl | rfl | rfl | rfl | rfl | rfl | rfl | rfl
 ·exact piece_word (by decide) (by decide)
 ·exact piece_word (by decide) (by decide)
 ·exact piece_word (by decide) (by decide)
 ·exact piece_num 7 (by decide) (by omega) (digits1 (by omega))
 ·exact piece_num 0 (by decide) (by omega) (digits1 (by omega))
 ·exact piece_num 12 (by decide) (by omega) (by rw [Lib.decDigits, dif_neg (by omega), digits1 (by omega)]; rfl)
 ·exact piece_sign (by decide) (by decide)
 ·exact piece_sign (by decide) (by decide)
 ·exact piece_sign (by decide) (by decide)
 ·exact piece_sign (by decide) (by decide)
 ·exact piece_sign (by decide) (by decide)
 ·exact piece_sign (by decide) (by decide)
 ·exact ⟨by decide, (3, [61, 61], 0), Lx0.eqeq.append0 (Lx0.blank (by decide)), rfl⟩
 ·exact piece_sign (by decide) (by decide)
 ·exact piece_sign (by decide) (by decide)
 ·exact piece_word (by decide) (by decide)
 ·exact piece_num 3 (by decide) (by omega) (digits1 (by omega))
 ·exact piece_sign (by decide) (by decide)
 ·exact piece_sign (by decide) (by decide)
 ·exact piece_sign (by decide) (by decide)
 ·exact piece_word (by decide) (by decide)
 ·exact ⟨by decide, (3, [61], 0), Lx.eq.append0 (c := 32) (v := []) (by decide) (Lx0.blank (by decide)), rfl⟩
 ·exact piece_sign (by decide) (by decide)
 ·exact piece_num 9 (by decide) (by omega) (digits1 (by omega))
def Spaced (u : List UInt8) (us : List Bk) : Prop := Lx0 u us /\ u.length = wid us + us.length
theorem ints_length (z : List Int) : (ints .i64 z).length = z.length := by simp [ints]
theorem back_short {u : List UInt8} {us : List Bk} (hu : Spaced u us) (h6 : u.length <= 6000) {l : List Tok} (hl : lexR u 0 [] = .ok l) {e : E} {r : List Tok} (he : lv kwd 0 0 (l ++ [endT u]) = .ok e r) :
  saneE e /\ fitsE kwd e 0 0 /\ (bs e 0).length <= 6000 /\ ∃ t r', r = t :: r' /\ Suf (l ++ [endT u]) (t :: r') := by
 have hT := tks_of h6 hl
 obtain ⟨t1, e1, hg⟩ := spelt kwd (by omega) he
 have hkp := lv_keeps kwd (l := 0) (d := 0) (by omega) hT.ended
 rw [he] at hkp
 obtain ⟨k1, k2⟩ := hkp
 obtain ⟨t, r', rfl⟩ := k2.ne
 have hpre : ∃ l2, l = t1 ++ l2 := by
  rcases List.append_eq_append_iff.1 e1 with ⟨a, ha, hb⟩ | ⟨a, ha, hb⟩
  ·cases a with
   | nil => exact ⟨[], by simpa using ha.symm⟩
   | cons x a => simp at hb
  ·exact ⟨a, ha⟩
 obtain ⟨l2, rfl⟩ := hpre
 obtain ⟨ts, h1, h2⟩ := hu.1.to.all
 rw [hl] at h2
 simp only [LR.ok.injEq] at h2
 subst h2
 rw [List.map_append] at h1
 have hsane := lexR_sane u.length u 0 [] _ (Nat.le_refl _) (by simp) hl
 have hs1 : ∀ x ∈ t1.map Tok.bare, saneT x := by
  intro x hx
  obtain ⟨y, hy, rfl⟩ := List.mem_map.1 hx
  exact hsane y (by simp [hy])
 have hsp := pr_short kwd hg (sane_nums hs1)
 have hw := hu.2
 rw [<- h1, wid_append, List.length_append] at hw
 refine ⟨G_sane hg hs1, G_fits kwd hg, ?_, t, r', rfl, k1⟩
 rw [bs_len]
 omega
theorem end_ix (l : List Tok) (u : List UInt8) (h : l.length <= 9223372036854775807) : ((ix (l ++ [endT u]) [endT u] : Int) == IntKind.wrap .i64 (((l.length + 1 : Nat) : Int) - 1)) = true := by
 have e : ((l.length + 1 : Nat) : Int) - 1 = (l.length : Int) := by omega
 rw [e, wrap_id (by omega) (by omega), beq_iff_eq]
 simp [ix]
end
def names8 : List (List UInt8) := [[120], [120], [121], [122], [97], [116], [120], [121]]
theorem names8_ok : ∀ p ∈ names8, wordB p = true /\ kwd p = false /\ p.length = 1 := by decide
def RawE (d : Nat) (e : E) : Prop := saneE e /\ (∀ l D, D + 6 <= 8 + d -> fitsE kwd e l D) /\ ∀ l, (bs e l).length + 6 <= 7 * 2 ^ (6 - d)
section
variable {n : Nat}
theorem plain_eq (x : Int) : ∃ p ∈ names8, m_suturehand_plain n x = some (B p) := by
 unfold m_suturehand_plain
 obtain ⟨q, hq, hq8⟩ := pick_eq n x 8 (by omega) (by omega)
 rw [hq, Option.bind_some]
 have hqn : q < names8.length := by show q < 8; omega
 have hix := idx1_str (v := names8.map B) (i := q) (by rw [List.length_map]; exact hqn)
 rw [List.getElem_map] at hix
 refine ⟨names8[q], List.getElem_mem hqn, ?_⟩
 have hlist : (names8.map B).map str1 = [(T.sc (.string (⟨#[120]⟩ : ByteArray))), (T.sc (.string (⟨#[120]⟩ : ByteArray))), (T.sc (.string (⟨#[121]⟩ : ByteArray))), (T.sc (.string (⟨#[122]⟩ : ByteArray))), (T.sc (.string (⟨#[97]⟩ : ByteArray))), (T.sc (.string (⟨#[116]⟩ : ByteArray))), (T.sc (.string (⟨#[120]⟩ : ByteArray))), (T.sc (.string (⟨#[121]⟩ : ByteArray)))] := rfl
 rw [hlist] at hix
 rw [hix]
 rfl
theorem raw_name {p : List UInt8} (hp : p ∈ names8) {d : Nat} : RawE d (.name p) := by
 obtain ⟨h1, h2, h3⟩ := names8_ok p hp
 refine ⟨h1, fun _ _ _ => h2, fun l => ?_⟩
 have : 1 <= 2 ^ (6 - d) := Nat.one_le_two_pow
 simp only [bs, h3]
 omega
theorem raw_num {k : Nat} (hk : k < 10) {d : Nat} : RawE d (.num k) := by
 refine ⟨(show k < 9223372036854775808 by omega), fun _ _ _ => trivial, fun l => ?_⟩
 have : 1 <= 2 ^ (6 - d) := Nat.one_le_two_pow
 simp only [bs, digits1 hk, List.length_cons, List.length_nil]
 omega
theorem pow_up {d : Nat} (hd : d <= 5) : 2 ^ (6 - d) = 2 * 2 ^ (6 - (d + 1)) := by
 rw [show 6 - d = (6 - (d + 1)) + 1 by omega, Nat.pow_succ]; omega
theorem raw_neg {e : E} {d : Nat} (hd : d <= 5) (h : RawE (d + 1) e) : RawE d (.neg e) := by
 obtain ⟨h1, h2, h3⟩ := h
 have hp := pow_up hd
 refine ⟨h1, fun l D hD => ⟨by omega, h2 3 (D + 1) (by omega)⟩, fun l => ?_⟩
 have := h3 3
 simp only [bs, List.length_cons]
 omega
theorem sgn_len (k : Int) : (sgn k).length <= 2 := by
 unfold sgn
 repeat' split
 all_goals simp
theorem raw_bin {a b : E} {k : Int} {d : Nat} (hk : isOp k = true) (hd : d <= 5) (ha : RawE (d + 1) a) (hb : RawE (d + 1) b) : RawE d (.bin k a b) := by
 obtain ⟨a1, a2, a3⟩ := ha
 obtain ⟨b1, b2, b3⟩ := hb
 have hp := pow_up hd
 refine ⟨⟨hk, a1, b1⟩, fun l D hD => ⟨hk, ?_⟩, fun l => ?_⟩
 ·split
  ·exact ⟨by omega, a2 _ _ (by omega), b2 _ _ (by omega)⟩
  ·exact ⟨a2 _ _ (by omega), b2 _ _ (by omega)⟩
 ·have := a3 (left k)
  have := b3 (lvl k + 1)
  have := sgn_len k
  rw [bs]
  split <;> (simp only [List.length_cons, List.length_append, List.length_nil]; omega)
theorem sized_ints (z : List Int) : sized 1 (ints .i64 z) = true := by
 unfold sized ints
 rw [List.all_map]
 exact List.all_eq_true.2 (fun x _ => rfl)
theorem take_ints (z : List Int) (k : Nat) : (ints .i64 z).take k = ints .i64 (z.take k) := by simp [ints, List.map_take]
theorem drop_ints (z : List Int) (k : Nat) : (ints .i64 z).drop k = ints .i64 (z.drop k) := by simp [ints, List.map_drop]
theorem expr_all : ∀ (m : Nat) (z : List Int) (d : Nat), z.length <= 17592186044416 -> d <= 6 -> 7 - d <= m →
  ∃ e, (unB_suturehand_Expr n m).suturehand_Expr (ints .i64 z) (d : Int) = some (kE e, nE e, wE e, oE e) /\ RawE d e /\ ∀ l, (bs e l).length <= 7 * z.length + 1 := by
 intro m
 induction m with
 | zero => intro z d _ hd h; omega
 | succ m ih =>
  intro z d hz hd hm
  have hun : (unB_suturehand_Expr n (m + 1)).suturehand_Expr = f_suturehand_Expr (unB_suturehand_Expr n m) n := rfl
  rw [hun]
  generalize unB_suturehand_Expr n m = b at *
  unfold f_suturehand_Expr
  rw [ints_length]
  cases z with
  | nil => exact ⟨.num 1, rfl, raw_num (by omega), fun l => by simp [bs, digits1]⟩
  | cons x z =>
   have hne : (((((x :: z).length : Nat) : Int) : Int) == 0) = false := by rw [beq_eq_false_iff_ne]; simp; omega
   have hi := idx_ints (v := x :: z) (i := 0) (by simp)
   rw [show ((0 : Nat) : Int) = 0 from rfl] at hi
   rw [hne, cond_false, hi, Option.bind_some]
   obtain ⟨q, hq, hq16⟩ := pick_eq n ((int1 (x :: z)[0]).cell 0).int 16 (by omega) (by omega)
   rw [hq, Option.bind_some]
   have e16 : (!decide ((16 : Nat) = 0)) = true := by decide
   have e2 : (!decide ((2 : Nat) = 0)) = true := by decide
   by_cases h5 : q < 5 \/ d > 5
   ·have ht : (bif (decide (((q : Nat) : Int) < 5)) then true else (decide (((d : Nat) : Int) > 5))) = true := by
     by_cases h : q < 5
     ·rw [decide_eq_true (by omega)]; rfl
     ·rw [decide_eq_false (by omega), cond_false, decide_eq_true_eq]; omega
    rw [ht, cond_true, must_eq e16]
    obtain ⟨p, hp, hpl⟩ := plain_eq (n := n) (IntKind.wrap .i64 (Int.tdiv ((int1 (x :: z)[0]).cell 0).int 16))
    rw [hpl, Option.bind_some]
    exact ⟨.name p, rfl, raw_name hp, fun l => by simp only [bs, (names8_ok p hp).2.2]; omega⟩
   have hf : (bif (decide (((q : Nat) : Int) < 5)) then true else (decide (((d : Nat) : Int) > 5))) = false := by
    rw [decide_eq_false (by omega), cond_false, decide_eq_false_iff_not]; omega
   have hd5 : d <= 5 := by omega
   rw [hf, cond_false]
   by_cases h8 : q < 8
   ·rw [decide_eq_true (by omega), cond_true, must_eq e16]
    obtain ⟨y, hy, hy5⟩ := pick_eq n (IntKind.wrap .i64 (Int.tdiv ((int1 (x :: z)[0]).cell 0).int 16)) 5 (by omega) (by omega)
    rw [hy, Option.bind_some]
    exact ⟨.num y, rfl, raw_num (by omega), fun l => by simp only [bs, digits1 (show y < 10 by omega), List.length_cons, List.length_nil]; omega⟩
   rw [decide_eq_false (by omega), cond_false, cast_up d (by omega)]
   have hlen : (((x :: z).length : Nat) : Int).toNat = (x :: z).length := Int.toNat_natCast _
   simp only [List.length_cons] at hz
   by_cases hq8 : q = 8
   ·rw [hq8, show (((8 : Nat) : Int) == 8) = true from rfl, cond_true, must_eq (by simp only [Bool.and_eq_true, decide_eq_true_eq]; exact ⟨⟨⟨by omega, by simp only [List.length_cons]; omega⟩, Int.le_refl _⟩, sized_ints _⟩)]
    rw [hlen, take_ints, show Int.toNat 1 = 1 from rfl, drop_ints]
    obtain ⟨e, he, hr, hlb⟩ := ih ((x :: z).take (x :: z).length |>.drop 1) (d + 1) (by simp; omega) (by omega) (by omega)
    rw [he, Option.bind_some]
    refine ⟨.neg e, ?_, raw_neg hd5 hr, fun l => ?_⟩
    ·simp only [kE, nE, wE, oE, encE_eq e]
    ·have := hlb 3
     simp only [List.length_drop, List.length_take, List.length_cons] at this
     simp only [bs, List.length_cons]
     omega
   ·have hqb : (((q : Nat) : Int) == 8) = false := by rw [beq_eq_false_iff_ne]; omega
    rw [hqb, cond_false, must_eq e16]
    obtain ⟨y, hy, hy7⟩ := pick_eq n (IntKind.wrap .i64 (Int.tdiv ((int1 (x :: z)[0]).cell 0).int 16)) 7 (by omega) (by omega)
    have ht0 : Int.tdiv (((x :: z).length : Nat) : Int) 2 = (((x :: z).length / 2 : Nat) : Int) := by first | exact Int.ofNat_tdiv _ 2 | exact (Int.ofNat_tdiv _ 2).symm
    have hm0 : IntKind.wrap .i64 (Int.tdiv (((x :: z).length : Nat) : Int) 2) = (((x :: z).length / 2 : Nat) : Int) := by
     rw [ht0]
     exact wrap_id (by omega) (by simp only [List.length_cons]; omega)
    have hm1 : IntKind.wrap .i64 (1 + IntKind.wrap .i64 (Int.tdiv (((x :: z).length : Nat) : Int) 2)) = ((1 + (x :: z).length / 2 : Nat) : Int) := by
     rw [hm0, wrap_id (by omega) (by simp only [List.length_cons]; omega)]; omega
    have hle : 1 + (x :: z).length / 2 <= (x :: z).length := by simp only [List.length_cons]; omega
    rw [hy, Option.bind_some, must_eq e2, hm1, must_eq (by simp only [Bool.and_eq_true, decide_eq_true_eq]; exact ⟨⟨⟨by omega, by omega⟩, by omega⟩, sized_ints _⟩)]
    rw [hlen, Int.toNat_natCast, take_ints, show Int.toNat 1 = 1 from rfl, drop_ints]
    obtain ⟨e1, he1, hr1, hl1⟩ := ih ((x :: z).take (1 + (x :: z).length / 2) |>.drop 1) (d + 1) (by simp; omega) (by omega) (by omega)
    rw [he1, Option.bind_some, must_eq (by simp only [Bool.and_eq_true, decide_eq_true_eq]; exact ⟨⟨⟨by omega, by omega⟩, Int.le_refl _⟩, sized_ints _⟩), take_ints, drop_ints]
    obtain ⟨e2', he2, hr2, hl2⟩ := ih ((x :: z).take (x :: z).length |>.drop (1 + (x :: z).length / 2)) (d + 1) (by simp; omega) (by omega) (by omega)
    rw [he2, Option.bind_some]
    have hk : IntKind.wrap .i64 (4 + (y : Int)) = 4 + (y : Int) := wrap_id (by omega) (by omega)
    have hop : isOp (4 + (y : Int)) = true := by simp only [isOp, Bool.and_eq_true, decide_eq_true_eq]; omega
    refine ⟨.bin (4 + (y : Int)) e1 e2', ?_, raw_bin hop hd5 hr1 hr2, fun l => ?_⟩
    ·simp only [kE, nE, wE, oE, encE_eq e1, encE_eq e2', hk]
    ·have h1 := hl1 (left (4 + (y : Int)))
     have h2 := hl2 (lvl (4 + (y : Int)) + 1)
     have h3 := sgn_len (4 + (y : Int))
     simp only [List.length_drop, List.length_take, List.length_cons] at h1 h2
     rw [bs]
     split <;> (simp only [List.length_cons, List.length_append, List.length_nil]; omega)
theorem expr_eq (z : List Int) (hz : z.length <= 17592186044416) (hn : 100 < n) : ∃ e, m_suturehand_Expr n (ints .i64 z) 0 = some (kE e, nE e, wE e, oE e) /\ RawE 0 e := by
 obtain ⟨e, h1, h2, _⟩ := expr_all n z 0 hz (by omega) (by omega)
 exact ⟨e, h1, h2⟩
theorem expr_eqL (z : List Int) (hz : z.length <= 17592186044416) (hn : 100 < n) : ∃ e, m_suturehand_Expr n (ints .i64 z) 0 = some (kE e, nE e, wE e, oE e) /\ RawE 0 e /\ ∀ l, (bs e l).length <= 7 * z.length + 1 :=
 expr_all n z 0 hz (by omega) (by omega)
end
theorem lx_paren {e : E} (hs : saneE e) : Lx0 (40 :: (bs e 0 ++ [41])) ((3, [40], 0) :: (pr e 0 ++ [(3, [41], 0)])) := by
 have close : Lx0 [41] [(3, [41], 0)] := Lx0.sign (by decide) (by decide)
 exact (Lx0.sign (c := 40) (by decide) (by decide)).append0 ((Lx.expr (l := 0) hs).append0 (c := 41) (v := []) (by decide) close)
theorem bare_sign {t : Tok} {c : UInt8} (h : t.bare = (3, [c], 0)) : t.bare = (3, [c], t.num) := by
 have : t.num = 0 := by simp only [Tok.bare, Prod.mk.injEq] at h; exact h.2.2
 rw [this]; exact h
theorem paren_read {e : E} (hf : fitsE kwd e 0 0) {ts rest : List Tok} (hts : ts.map Tok.bare = (3, [40], 0) :: (pr e 0 ++ [(3, [41], 0)])) {d : Nat} (hd : d < 8) {y : E} {r : List Tok} (h : fac kwd d (ts ++ rest) = .ok y r) :
  G kwd 3 d e (ts.map Tok.bare) := by
 have hq := map_cons' hts
 obtain ⟨to1, ts1, rfl, h1, h2⟩ := hq
 have hq := map_split h2
 obtain ⟨tx, tc', rfl, h3, h4⟩ := hq
 have hq := map_one' h4
 obtain ⟨tc, rfl, h5⟩ := hq
 rw [List.cons_append] at h
 obtain ⟨e', r', hin⟩ := paren_inner kwd (bare_sign h1) hd h
 rw [List.append_assoc, List.singleton_append] at hin
 obtain ⟨hg, _, _⟩ := inner_G kwd hf h3 (bare_sign h5) hin
 have := G.paren d e (pr e 0) 0 0 hd hg
 rw [List.map_cons, List.map_append, List.map_singleton, h1, h3, h5]
 simpa using this
section
variable {n : Nat}
theorem B_cons1 (c : UInt8) (u : List UInt8) : (⟨#[c]⟩ : ByteArray) ++ B u = B (c :: u) := by rw [eB1, B_append]; rfl
def ops5 : List UInt8 := [43, 45, 42, 47, 37]
def ks5 : List Int := [4, 5, 6, 7, 8]
theorem ops5_ok : ∀ q, q < 5 -> signs.contains (ops5.getD q 0) = true /\ ops5.getD q 0 ≠ 61 /\ (lvl (ks5.getD q 0) = 1 \/ lvl (ks5.getD q 0) = 2) /\ opAt (3, [ops5.getD q 0], 0) (lvl (ks5.getD q 0)) = some (ks5.getD q 0) /\ isOp (ks5.getD q 0) = true := by decide
theorem dig (k : Nat) (h : k < 10) : Lx [UInt8.ofNat (48 + k)] [(2, [UInt8.ofNat (48 + k)], k)] := by
 have := Lx.num (n := k) (by omega)
 rw [digits1 h] at this
 exact this
theorem lx_left {e : E} (hs : saneE e) {c : UInt8} (hc : signs.contains c = true) (h61 : c ≠ 61) : Lx ((((40 :: bs e 0) ++ [41, 32]) ++ [c]) ++ [32, 51, 32, 45, 32, 52]) (((3, [40], 0) :: (pr e 0 ++ [(3, [41], 0)])) ++ [(3, [c], 0), (2, [51], 3), (3, [45], 0), (2, [52], 4)]) := by
 have b : Lx0 [32] [] := Lx0.blank (by decide)
 have t1 : Lx ([45] ++ ([32] ++ [52])) ([(3, [45], 0)] ++ ([] ++ [(2, [52], 4)])) := (Lx0.sign (c := 45) (by decide) (by decide)).append (b.append (dig 4 (by omega)))
 have t2 : Lx ([51] ++ 32 :: ([45] ++ ([32] ++ [52]))) ([(2, [51], 3)] ++ ([] ++ ([(3, [45], 0)] ++ ([] ++ [(2, [52], 4)])))) := (dig 3 (by omega)).append (c := 32) (by decide) (b.append t1)
 have t3 := (lx_paren hs).append (b.append ((Lx0.sign hc h61).append (b.append t2)))
 simpa [List.append_assoc] using t3
end
end Go.Proofs.YtbcgpjlkkcdmmaaGreatDoor.W
namespace Go.Proofs.YtbcgpjlkkcdmmaaGreatDoor.W
open Go Go.Eng Go.Eng.Fl
set_option linter.unusedVariables false
set_option linter.unusedSimpArgs false
set_option linter.unusedSectionVars false
def encD (pl : Nat -> Nat × Nat) (d : Dc) : T := T.agg [(T.sc (.int .i64 d.kind)), (T.sc (.string (B d.name))), (T.sc (.int .i64 (d.num : Int))), (T.sc (.complex .f64 (pl d.pos).1 (pl d.pos).2))]
def encT (pl : Nat -> Nat × Nat) (l : List St) : T := T.list (encSL pl l)
theorem sized_D (pl : Nat -> Nat × Nat) (l : List Dc) : sized 4 (l.map (encD pl)) = true := by
 unfold sized
 rw [List.all_eq_true]
 intro y hy
 obtain ⟨t, _, rfl⟩ := List.mem_map.1 hy
 rfl
theorem sized_T (pl : Nat -> Nat × Nat) (l : List (List St)) : sized 1 (l.map (encT pl)) = true := by
 unfold sized
 rw [List.all_eq_true]
 intro y hy
 obtain ⟨t, _, rfl⟩ := List.mem_map.1 hy
 rfl
theorem kind_eq (n : Nat) (w : List UInt8) : m_parse_kindOf n (B w) = some (declK w) := by
 unfold m_parse_kindOf declK
 have d : ∀ q : ByteArray, (ByteArray.toList (B w) == ByteArray.toList q) = decide (w = L q) := by
  intro q
  rw [bytes_eq, L_B]
  by_cases h : w = L q
  ·rw [decide_eq_true h, beq_iff_eq]; exact h
  ·rw [decide_eq_false h, beq_eq_false_iff_ne]; exact h
 simp only [d, Bool.cond_decide]
 rw [show L (⟨#[118, 97, 114]⟩ : ByteArray) = wVar from rfl, show L (⟨#[119, 105, 100, 101]⟩ : ByteArray) = wWide from rfl, show L (⟨#[97, 116, 111, 109, 105, 99]⟩ : ByteArray) = wAtomic from rfl, show L (⟨#[108, 111, 99, 97, 108]⟩ : ByteArray) = wLocal from rfl, show L (⟨#[109, 117, 116, 101, 120]⟩ : ByteArray) = wMutex from rfl, show L (⟨#[99, 104, 97, 110]⟩ : ByteArray) = wChan from rfl]
 repeat' split
 all_goals rfl
section
variable {s : ByteArray} {TS : List Tok} {n : Nat}
theorem clip_D {es : List T} (h : sized 4 es = true) : m_slices_Clip___api_Decl_api_Decl_ n es = some es := by
 unfold m_slices_Clip___api_Decl_api_Decl_
 simp [must, h]
theorem clip_T {es : List T} (h : sized 1 es = true) : m_slices_Clip_____api_Stmt___api_Stmt_ n es = some es := by
 unfold m_slices_Clip_____api_Stmt___api_Stmt_
 simp [must, h]
def ResD (s : ByteArray) (TS : List Tok) (q : Option Q4) : RD -> Prop
 | .ok l r => q = some (l.map (encD (P s)), TS.map (encL s), ix TS r, false) /\ Suf TS r /\ Ended r
 | .bad r => (∃ l, sized 4 l = true /\ q = some (l, TS.map (encL s), ix TS r, true)) /\ Suf TS r /\ Ended r
theorem dcl_bad (acc : List T) {t : Tok} {r : List Tok} (k : Nat) : l___parse_reader__decls_2 n (k + 1) (acc, TS.map (encL s), ix TS (t :: r), true) = some (acc, TS.map (encL s), ix TS (t :: r), true) := by
 show l___parse_reader__decls_2_B n (l___parse_reader__decls_2 n k) (acc, TS.map (encL s), ix TS (t :: r), true) = _
 unfold l___parse_reader__decls_2_B
 simp only [Bool.not_true, idx_false, Option.bind_some, cond_false]
theorem dcl_eq (acc : List Dc) (t : Tok) (r : List Tok) : dcl acc (t :: r) = (if t.kind = 1 /\ declK t.text ≠ 0 then (if acc.length = 24 then .bad (t :: r) else (match r with
   | [] => .bad []
   | t1 :: r1 => if isNm kwd t1.bare then (if declK t.text = 6 then (match r1 with
     | [] => .bad []
     | t2 :: r2 => if t2.kind = 2 /\ t2.num <= 3 then dcl (acc ++ [⟨6, t1.text, t2.num, t.pos⟩]) r2 else .bad (t2 :: r2)) else dcl (acc ++ [⟨declK t.text, t1.text, 0, t.pos⟩]) r1) else .bad (t1 :: r1)))
  else .ok acc (t :: r)) := by rw [dcl.eq_def]; rfl
theorem fitD (k : Nat) (x : T) (acc : List T) (hx : sized 4 [x] = true) (ha : acc.length <= 6001) {R : Type} (q : Option R) : must true ((Nat.beq 4 4 || Nat.beq 4 0) && (decide (List.length acc + List.length [x] <= 1073741824) && sized 4 [x])) q = q := by
 rw [List.length_singleton, decide_eq_true (show acc.length + 1 <= 1073741824 by omega), hx]
 rfl
theorem sized_add {es : List T} {x : T} (h : sized 4 es = true) (hx : sized 4 [x] = true) : sized 4 (es ++ [x]) = true := by
 unfold sized at *
 rw [List.all_append, h, hx]
 rfl
theorem dcl_loop (hP : TkP TS) (hn : 100000 < n) : ∀ (k : Nat) (acc : List Dc) (r : List Tok), r.length < k -> acc.length + r.length <= 6001 -> Suf TS r -> Ended r →
  ResD s TS (l___parse_reader__decls_2 n k (acc.map (encD (P s)), TS.map (encL s), ix TS r, false)) (dcl acc r) := by
 have hT := hP.tks
 intro k
 induction k with
 | zero => intro acc r h; omega
 | succ k ih =>
  intro acc r hk ha hs he
  obtain ⟨t, r, rfl⟩ := he.ne
  simp only [List.length_cons] at hk ha
  have hl : (acc.map (encD (P s))).length = acc.length := List.length_map _
  show ResD s TS (l___parse_reader__decls_2_B n (l___parse_reader__decls_2 n k) (acc.map (encD (P s)), TS.map (encL s), ix TS (t :: r), false)) _
  unfold l___parse_reader__decls_2_B
  simp only [Bool.not_false, cond_true]
  rw [tok_at hs]
  simp only [Option.bind_some]
  have e0 : ((encL s t).cell 0).int = t.kind := rfl
  have e1 : ((encL s t).cell 1).str = B t.text := rfl
  have e3 : T.sc (.complex .f64 ((encL s t).cell 3).re ((encL s t).cell 3).im) = T.sc (.complex .f64 (P s t.pos).1 (P s t.pos).2) := rfl
  rw [e0, e1, dcl_eq]
  by_cases h1 : t.kind ≠ 1
  ·rw [show (t.kind == 1) = false from beq_eq_false_iff_ne.2 h1, cond_false, if_neg (fun h => h1 h.1)]
   exact ⟨rfl, hs, he⟩
  have h1 : t.kind = 1 := by omega
  have her := he.cons (by rw [h1]; decide)
  obtain ⟨t1, r1, rfl⟩ := her.ne
  simp only [List.length_cons] at hk ha
  rw [beq_iff_eq.2 h1, cond_true, kind_eq, Option.bind_some]
  by_cases h0 : declK t.text = 0
  ·rw [h0, if_neg (fun h => h.2 rfl)]
   exact ⟨rfl, hs, he⟩
  rw [show (declK t.text == 0) = false from beq_eq_false_iff_ne.2 h0, cond_false, if_pos ⟨h1, h0⟩, hl]
  by_cases h24 : acc.length = 24
  ·rw [show ((((acc.length : Nat) : Int) : Int) == 24) = true by rw [h24]; rfl, cond_true, if_pos h24]
   exact ⟨⟨_, sized_D (P s) acc, rfl⟩, hs, he⟩
  rw [show ((((acc.length : Nat) : Int) : Int) == 24) = false by rw [beq_eq_false_iff_ne]; omega, cond_false, if_neg h24, ix_up hs hT.len, name_eq hT hn hs.cons, Option.bind_some, e3]
  simp only
  have hz : ∀ (kd : Int) (nm : ByteArray) (m : Int), sized 4 [T.agg [(T.sc (.int .i64 kd)), (T.sc (.string nm)), (T.sc (.int .i64 m)), T.sc (.complex .f64 (P s t.pos).1 (P s t.pos).2)]] = true := fun _ _ _ => rfl
  have ha' : (acc.map (encD (P s))).length <= 6001 := by rw [hl]; omega
  obtain ⟨j, rfl⟩ : ∃ j, k = j + 1 := ⟨k - 1, by omega⟩
  by_cases hb1 : isNm kwd t1.bare = true
  ·rw [if_pos hb1, if_pos hb1]
   simp only
   have he1 := her.cons (by rw [isNm_kind hb1]; decide)
   obtain ⟨t2, r2, rfl⟩ := he1.ne
   simp only [List.length_cons] at hk ha
   by_cases h6 : declK t.text = 6
   ·rw [h6, if_pos rfl, show (((6 : Int)) == 6) = true from rfl, cond_true, show ((3 : Int)) = ((3 : Nat) : Int) from rfl, num_eq hT hs.cons.cons, Option.bind_some]
    simp only
    by_cases hnm : t2.kind = 2 /\ t2.num <= 3
    ·rw [if_pos hnm, if_pos hnm]
     simp only
     rw [<- hl, fitD 0 _ _ (hz _ _ _) ha']
     have := ih (acc ++ [⟨6, t1.text, t2.num, t.pos⟩]) r2 (by omega) (by simp only [List.length_append, List.length_singleton]; omega) hs.cons.cons.cons (he1.cons (by omega))
     rw [List.map_append] at this
     exact this
    ·rw [if_neg hnm, if_neg hnm]
     simp only
     rw [<- hl, fitD 0 _ _ (hz _ _ _) ha', dcl_bad]
     exact ⟨⟨_, sized_add (sized_D (P s) acc) (hz _ _ _), rfl⟩, hs.cons.cons, he1⟩
   ·rw [if_neg h6, show (declK t.text == 6) = false from beq_eq_false_iff_ne.2 h6, cond_false, <- hl, fitD 0 _ _ (hz _ _ _) ha']
    have := ih (acc ++ [⟨declK t.text, t1.text, 0, t.pos⟩]) (t2 :: r2) (by simp only [List.length_cons]; omega) (by simp only [List.length_append, List.length_cons, List.length_nil]; omega) hs.cons.cons he1
    rw [List.map_append] at this
    exact this
  ·rw [if_neg hb1, if_neg hb1]
   simp only
   rw [num_bad hs.cons, Option.bind_some]
   simp only
   rw [<- hl, fitD 0 _ _ (hz _ _ _) ha', dcl_bad]
   have hx : ∀ (bb : Bool) (x y : Option Q4), ResD s TS x (.bad (t1 :: r1)) -> ResD s TS y (.bad (t1 :: r1)) -> ResD s TS (bif bb then x else y) (.bad (t1 :: r1)) := by intro bb x y h1 h2; cases bb; exact h2; exact h1
   exact hx _ _ _ ⟨⟨_, sized_add (sized_D (P s) acc) (hz _ _ _), rfl⟩, hs.cons, her⟩ ⟨⟨_, sized_add (sized_D (P s) acc) (hz _ _ _), rfl⟩, hs.cons, her⟩
abbrev Q7 := (List T) × Int × Bool × (List T) × (List T) × (List T) × (List T)
def ResT (s : ByteArray) (TS : List Tok) (x y z : List T) (q : Option Q7) : RT -> Prop
 | .ok l r => q = some (TS.map (encL s), ix TS r, false, x, y, z, l.map (encT (P s))) /\ Suf TS r /\ Ended r
 | .bad r => (∃ l, sized 1 l = true /\ q = some (TS.map (encL s), ix TS r, true, x, y, z, l)) /\ Suf TS r /\ Ended r
theorem thr_bad (x y z acc : List T) {t : Tok} {r : List Tok} (k : Nat) : l___parse_reader__prog_2 n (k + 1) (TS.map (encL s), ix TS (t :: r), true, x, y, z, acc) = some (TS.map (encL s), ix TS (t :: r), true, x, y, z, acc) := by
 show l___parse_reader__prog_2_B n (l___parse_reader__prog_2 n k) (TS.map (encL s), ix TS (t :: r), true, x, y, z, acc) = _
 unfold l___parse_reader__prog_2_B
 simp only [Bool.not_true, Bool.false_and, idx_false, Option.bind_some, cond_false]
theorem thr_eq (acc : List (List St)) (t : Tok) (r : List Tok) : thr acc (t :: r) = (if acc ≠ [] /\ t.kind = 4 then .ok acc (t :: r)
  else if acc.length = 4 then .bad (t :: r)
  else if isWord wGo t.bare then (match blk 0 r with
   | .bad r' => .bad r'
   | .ok l r' => if r'.length <= r.length then thr (acc ++ [l]) r' else .bad r')
  else .bad (t :: r)) := by rw [thr.eq_def]; rfl
theorem fitT (x : List T) (acc : List T) (ha : acc.length <= 6001) {R : Type} (q : Option R) : must true ((Nat.beq 1 1 || Nat.beq 1 0) && (decide (List.length acc + List.length [T.list x] <= 1073741824) && sized 1 [T.list x])) q = q := by
 rw [List.length_singleton, decide_eq_true (show acc.length + 1 <= 1073741824 by omega)]
 rfl
theorem sized_addT {es : List T} {x : List T} (h : sized 1 es = true) : sized 1 (es ++ [T.list x]) = true := by
 unfold sized at *
 rw [List.all_append, h]
 rfl
theorem thr_inner (hP : TkP TS) (hn : 100000 < n) (x y z : List T) {k : Nat} {acc : List (List St)} {t : Tok} {r : List Tok} (hk : r.length + 1 < k + 1) (ha : acc.length + (r.length + 1) <= 6001) (hs : Suf TS (t :: r)) (he : Ended (t :: r))
  (ih : ∀ (acc : List (List St)) (r : List Tok), r.length < k -> acc.length + r.length <= 6001 -> Suf TS r -> Ended r -> ResT s TS x y z (l___parse_reader__prog_2 n k (TS.map (encL s), ix TS r, false, x, y, z, acc.map (encT (P s)))) (thr acc r)) :
  ResT s TS x y z (bif ((((List.length (acc.map (encT (P s))) : Nat) : Int) : Int) == 4) then (
Option.bind (m___parse_reader__fail n (TS.map (encL s)) (ix TS (t :: r)) false) fun r2 =>
Option.bind (m___parse_reader__must n (⟨#[103, 111]⟩ : ByteArray) r2.1 r2.2.1 r2.2.2) fun r3 =>
Option.bind (m___parse_reader__block n 0 r3.1 r3.2.1 r3.2.2) fun r4 =>
must true ((Nat.beq 1 1 || Nat.beq 1 0) && (decide (List.length (acc.map (encT (P s))) + List.length [(T.list r4.1)] <= 1073741824) && sized 1 [(T.list r4.1)])) (l___parse_reader__prog_2 n k (r4.2.1, r4.2.2.1, r4.2.2.2, x, y, z, ((acc.map (encT (P s))) ++ [(T.list r4.1)]))))
else (
Option.bind (m___parse_reader__must n (⟨#[103, 111]⟩ : ByteArray) (TS.map (encL s)) (ix TS (t :: r)) false) fun r5 =>
Option.bind (m___parse_reader__block n 0 r5.1 r5.2.1 r5.2.2) fun r6 =>
must true ((Nat.beq 1 1 || Nat.beq 1 0) && (decide (List.length (acc.map (encT (P s))) + List.length [(T.list r6.1)] <= 1073741824) && sized 1 [(T.list r6.1)])) (l___parse_reader__prog_2 n k (r6.2.1, r6.2.2.1, r6.2.2.2, x, y, z, ((acc.map (encT (P s))) ++ [(T.list r6.1)])))))
  (if acc.length = 4 then .bad (t :: r)
  else if isWord wGo t.bare then (match blk 0 r with
   | .bad r' => .bad r'
   | .ok l r' => if r'.length <= r.length then thr (acc ++ [l]) r' else .bad r')
  else .bad (t :: r)) := by
 have hT := hP.tks
 have hb := pk_ok (s := s) hP hn n
 have hlen := hs.len
 have hlen2 := hT.len
 simp only [List.length_cons] at hlen
 have hl : (acc.map (encT (P s))).length = acc.length := List.length_map _
 have ha' : (acc.map (encT (P s))).length <= 6001 := by rw [hl]; omega
 obtain ⟨j, rfl⟩ : ∃ j, k = j + 1 := ⟨k - 1, by omega⟩
 have blkB : m___parse_reader__block n 0 (TS.map (encL s)) (ix TS (t :: r)) true = some ([], TS.map (encL s), ix TS (t :: r), true) := hb.bad 0 t r hs (by omega)
 by_cases h4 : acc.length = 4
 ·rw [hl, show ((((acc.length : Nat) : Int) : Int) == 4) = true by rw [h4]; rfl, cond_true, if_pos h4]
  simp only [m___parse_reader__fail, Option.bind_some]
  rw [must_bad hs, Option.bind_some]
  simp only
  rw [blkB, Option.bind_some]
  simp only
  rw [<- hl, fitT _ _ ha', thr_bad]
  exact ⟨⟨_, sized_addT (sized_T (P s) acc), rfl⟩, hs, he⟩
 rw [hl, show ((((acc.length : Nat) : Int) : Int) == 4) = false by rw [beq_eq_false_iff_ne]; omega, cond_false, if_neg h4]
 rw [mustW hP hs _ (by decide), lits.2.2.2.2.2.2.2.2.2.2, Option.bind_some]
 by_cases hg : isWord wGo t.bare = true
 ·rw [if_pos hg, if_pos hg]
  simp only
  have her := he.cons (by rw [isWord_kind hg]; decide)
  have hB := hb.blk 0 r (by omega) hs.cons her (by omega)
  have hB' : ResB s TS (m___parse_reader__block n 0 (TS.map (encL s)) (ix TS r) false) r.length (blk 0 r) := hB
  cases hbl : blk 0 r with
  | bad r3 =>
   rw [hbl] at hB'
   obtain ⟨⟨l, hq⟩, k3, k4⟩ := hB'
   obtain ⟨t3, r3, rfl⟩ := k4.ne
   rw [hq, Option.bind_some]
   simp only
   rw [<- hl, fitT _ _ ha', thr_bad]
   exact ⟨⟨_, sized_addT (sized_T (P s) acc), rfl⟩, k3, k4⟩
  | ok l r3 =>
   rw [hbl] at hB'
   obtain ⟨hq, k3, k4, hlt⟩ := hB'
   rw [hq, Option.bind_some]
   simp only
   rw [if_pos (by omega), <- hl, fitT _ _ ha']
   have := ih (acc ++ [l]) r3 (by omega) (by simp only [List.length_append, List.length_singleton]; omega) k3 k4
   rw [List.map_append] at this
   exact this
 ·rw [if_neg hg, if_neg hg]
  simp only
  rw [blkB, Option.bind_some]
  simp only
  rw [<- hl, fitT _ _ ha', thr_bad]
  exact ⟨⟨_, sized_addT (sized_T (P s) acc), rfl⟩, hs, he⟩
theorem thr_loop (hP : TkP TS) (hn : 100000 < n) (x y z : List T) : ∀ (k : Nat) (acc : List (List St)) (r : List Tok), r.length < k -> acc.length + r.length <= 6001 -> Suf TS r -> Ended r →
  ResT s TS x y z (l___parse_reader__prog_2 n k (TS.map (encL s), ix TS r, false, x, y, z, acc.map (encT (P s)))) (thr acc r) := by
 intro k
 induction k with
 | zero => intro acc r h; omega
 | succ k ih =>
  intro acc r hk ha hs he
  obtain ⟨t, r, rfl⟩ := he.ne
  simp only [List.length_cons] at hk ha
  have hl : (acc.map (encT (P s))).length = acc.length := List.length_map _
  show ResT s TS x y z (l___parse_reader__prog_2_B n (l___parse_reader__prog_2 n k) (TS.map (encL s), ix TS (t :: r), false, x, y, z, acc.map (encT (P s)))) _
  unfold l___parse_reader__prog_2_B
  simp only [Bool.not_false, Bool.true_and, cond_true]
  rw [thr_eq]
  have e0 : ((encL s t).cell 0).int = t.kind := rfl
  have hin := thr_inner (s := s) hP hn x y z hk ha hs he ih
  by_cases hz : acc = []
  ·rw [if_neg (fun h => h.1 hz)]
   rw [show ((((List.length (acc.map (encT (P s))) : Nat) : Int) : Int) == 0) = true by rw [hz]; rfl]
   simp only [Bool.not_true, idx_false, Option.bind_some, cond_true]
   exact hin
  ·have hzl : acc.length ≠ 0 := fun h => hz (List.eq_nil_of_length_eq_zero h)
   rw [show ((((List.length (acc.map (encT (P s))) : Nat) : Int) : Int) == 0) = false by rw [hl, beq_eq_false_iff_ne]; omega]
   simp only [Bool.not_false]
   rw [tok_at hs, Option.bind_some, cond_false, e0]
   by_cases h4 : t.kind = 4
   ·rw [if_pos ⟨hz, h4⟩, show (t.kind != 4) = false by rw [h4]; rfl, cond_false]
    exact ⟨rfl, hs, he⟩
   ·rw [if_neg (fun h => h4 h.2), show (t.kind != 4) = true by simp [bne, h4], cond_true]
    exact hin
theorem prog_eq (hP : TkP TS) (hn : 100000 < n) (he : Ended TS) : (∃ d l r, prg TS = .ok d l /\ m___parse_reader__prog n (TS.map (encL s)) 0 false = some (d.map (encD (P s)), l.map (encT (P s)), TS.map (encL s), ix TS r, false)) ∨
  (∃ t r a b, prg TS = .bad (t :: r) /\ Suf TS (t :: r) /\ m___parse_reader__prog n (TS.map (encL s)) 0 false = some (a, b, TS.map (encL s), ix TS (t :: r), true)) := by
 have hlen2 := hP.tks.len
 obtain ⟨j, hj⟩ : ∃ j, n = j + 1 := ⟨n - 1, by omega⟩
 have hD := dcl_loop (s := s) hP hn n [] TS (by omega) (by simp only [List.length_nil]; omega) (Suf.refl _) he
 rw [ix_all] at hD
 unfold m___parse_reader__prog m___parse_reader__decls prg
 cases hd : dcl [] TS with
 | bad r =>
  rw [hd] at hD
  obtain ⟨⟨l, hz, hq⟩, k3, k4⟩ := hD
  obtain ⟨t, r, rfl⟩ := k4.ne
  right
  rw [show l___parse_reader__decls_2 n n ([], TS.map (encL s), 0, false) = _ from hq, Option.bind_some, clip_D hz, Option.bind_some, Option.bind_some]
  simp only
  rw [show l___parse_reader__prog_2 n n = l___parse_reader__prog_2 n (j + 1) by rw [<- hj], thr_bad, Option.bind_some]
  simp only
  rw [clip_T rfl, Option.bind_some]
  exact ⟨t, r, _, _, rfl, k3, rfl⟩
 | ok d r =>
  rw [hd] at hD
  obtain ⟨hq, k3, k4⟩ := hD
  have hlen := k3.len
  rw [show l___parse_reader__decls_2 n n ([], TS.map (encL s), 0, false) = _ from hq, Option.bind_some, clip_D (sized_D (P s) d), Option.bind_some, Option.bind_some]
  simp only
  have hT := thr_loop (s := s) hP hn [] [] (d.map (encD (P s))) n [] r (by omega) (by simp only [List.length_nil]; omega) k3 k4
  cases ht : thr [] r with
  | bad r2 =>
   rw [ht] at hT
   obtain ⟨⟨l, hz, hq2⟩, k5, k6⟩ := hT
   obtain ⟨t, r2, rfl⟩ := k6.ne
   right
   rw [show l___parse_reader__prog_2 n n (TS.map (encL s), ix TS r, false, [], [], d.map (encD (P s)), []) = _ from hq2, Option.bind_some]
   simp only
   rw [clip_T hz, Option.bind_some]
   exact ⟨t, r2, _, _, rfl, k5, rfl⟩
  | ok l r2 =>
   rw [ht] at hT
   obtain ⟨hq2, k5, k6⟩ := hT
   left
   rw [show l___parse_reader__prog_2 n n (TS.map (encL s), ix TS r, false, [], [], d.map (encD (P s)), []) = _ from hq2, Option.bind_some]
   simp only
   rw [clip_T (sized_T (P s) l), Option.bind_some]
   exact ⟨d, l, r2, rfl, rfl⟩
end
theorem lexR_mem {Q : Tok -> Prop} (hQ : ∀ r p t, tokAt r p = some t -> Q t) : ∀ (k : Nat) (r : List UInt8) (p : Nat) (acc l : List Tok), r.length <= k -> (∀ t ∈ acc, Q t) -> lexR r p acc = .ok l -> ∀ t ∈ l, Q t := by
 intro k
 induction k with
 | zero =>
  intro r p acc l hr ha h
  obtain rfl := List.eq_nil_of_length_eq_zero (Nat.le_zero.1 hr)
  rw [lexR_nil] at h
  simp only [LR.ok.injEq] at h
  subst h
  exact ha
 | succ k ih =>
  intro r p acc l hr ha h
  cases r with
  | nil =>
   rw [lexR_nil] at h
   simp only [LR.ok.injEq] at h
   subst h
   exact ha
  | cons c r =>
   simp only [List.length_cons] at hr
   cases hb : W.blank c with
   | true => rw [lexR_blank hb] at h; exact ih r _ acc l (by omega) ha h
   | false =>
    by_cases h35 : c = 35
    ·subst h35
     rw [lexR_note] at h
     exact ih _ _ acc l (by have := dropWhile_le (· != 10) r; omega) ha h
    ·cases ht : tokAt (c :: r) p with
     | none => rw [lexR_bad hb h35 ht] at h; cases h
     | some t =>
      rw [lexR_tok hb h35 ht] at h
      refine ih _ _ (acc ++ [t]) l (by simp only [List.length_drop]; omega) ?_ h
      intro x hx
      rcases List.mem_append.1 hx with hx | hx
      ·exact ha x hx
      ·simp only [List.mem_singleton] at hx; subst hx; exact hQ _ _ _ ht
theorem tokAt_sign {r : List UInt8} {p : Nat} {t : Tok} (h : tokAt r p = some t) : t.kind = 3 -> wordB t.text = false := by
 unfold tokAt at h
 cases r with
 | nil => cases h
 | cons c r' =>
  simp only at h
  split at h
  ·split at h
   ·simp only [Option.some.injEq] at h; subst h; intro h; simp at h
   ·cases h
  ·split at h
   ·split at h
    ·simp only [Option.some.injEq] at h; subst h; intro h; simp at h
    ·cases h
   ·split at h
    ·rename_i hs
     have hf := sign_facts c (by simpa using hs)
     split at h <;> (simp only [Option.some.injEq] at h; subst h; intro _)
     ·rfl
     ·simp [wordB, hf.2.2.1]
    ·cases h
theorem tkp_of {u : List UInt8} (hu : u.length <= 6000) {l : List Tok} (hl : lexR u 0 [] = .ok l) : TkP (l ++ [endT u]) := by
 refine ⟨tks_of hu hl, fun t ht h3 => ?_⟩
 rcases List.mem_append.1 ht with ht | ht
 ·exact lexR_mem (Q := fun t => t.kind = 3 -> wordB t.text = false) (fun r p t h => tokAt_sign h) u.length u 0 [] l (Nat.le_refl _) (by simp) hl t ht h3
 ·simp only [List.mem_singleton] at ht; subst ht; cases h3
theorem read_ok {n : Nat} (hn : 100000 < n) {u : List UInt8} (hu : u.length <= 6000) {l : List Tok} (hl : lexR u 0 [] = .ok l) {d : List Dc} {th : List (List St)} (h : prg (l ++ [endT u]) = .ok d th) :
  m_parse_Read n (B u) = some (d.map (encD (P (B u))), th.map (encT (P (B u))), (0, 0), 0) := by
 have hP := tkp_of hu hl
 unfold m_parse_Read
 rw [toks_ok hn hu hl, Option.bind_some, show ((((0 : Int)) : Int) != 0) = false from rfl, cond_false]
 rcases prog_eq (s := B u) hP hn hP.tks.ended with ⟨d', l', r, h1, h2⟩ | ⟨t, r, a, b, h1, _, _⟩
 ·rw [h2, Option.bind_some, cond_false]
  rw [h] at h1
  cases h1
  rfl
 ·rw [h] at h1; cases h1
theorem read_no {n : Nat} (hn : 100000 < n) {u : List UInt8} (hu : u.length <= 6000) {l : List Tok} (hl : lexR u 0 [] = .ok l) {t : Tok} {r : List Tok} (h : prg (l ++ [endT u]) = .bad (t :: r)) :
  m_parse_Read n (B u) = some ([], [], P (B u) t.pos, 2) := by
 have hP := tkp_of hu hl
 unfold m_parse_Read
 rw [toks_ok hn hu hl, Option.bind_some, show ((((0 : Int)) : Int) != 0) = false from rfl, cond_false]
 rcases prog_eq (s := B u) hP hn hP.tks.ended with ⟨d', l', r', h1, h2⟩ | ⟨t', r', a, b, h1, hsf, h2⟩
 ·rw [h] at h1; cases h1
 ·rw [h2, Option.bind_some]
  simp only
  rw [cond_true, tok_at hsf, Option.bind_some]
  rw [h] at h1
  cases h1
  rfl
end Go.Proofs.YtbcgpjlkkcdmmaaGreatDoor.W
namespace Go.Proofs.YtbcgpjlkkcdmmaaGreatDoor.W
open Go Go.Eng Go.Eng.Fl Go.RowKit
set_option linter.unusedVariables false
set_option linter.unusedSimpArgs false
def tabsL (d : Nat) : List UInt8 := List.replicate d 9
def bsO (e : Option E) : List UInt8 := match e with | some x => bs x 0 | none => []
mutual
def tx : St -> Nat -> List UInt8
 | .mk k n o m e body els p, d =>
  if k = 1 then n ++ 32 :: 61 :: 32 :: bsO e
  else if k = 2 then wLock ++ 32 :: n
  else if k = 3 then wUnlock ++ 32 :: n
  else if k = 4 then wSend ++ 32 :: (n ++ 32 :: bsO e)
  else if k = 5 then wRecv ++ 32 :: (n ++ 32 :: o)
  else if k = 6 then wPrint ++ 32 :: bsO e
  else if k = 9 then wGoto ++ 32 :: n
  else if k = 10 then wLabel ++ 32 :: n
  else if k = 7 then wIf ++ (32 : UInt8) :: (bsO e ++ (32 : UInt8) :: (123 : UInt8) :: (10 : UInt8) :: (txL body (d + 1) ++ (tabsL d ++ (125 : UInt8) :: (match els with
   | [] => ([] : List UInt8)
   | _ :: _ => (32 : UInt8) :: (wElse ++ (32 : UInt8) :: (123 : UInt8) :: (10 : UInt8) :: (txL els (d + 1) ++ (tabsL d ++ [125])))))))
  else if k = 8 then wRepeat ++ (32 : UInt8) :: (Lib.decDigits m ++ (32 : UInt8) :: (123 : UInt8) :: (10 : UInt8) :: (txL body (d + 1) ++ (tabsL d ++ [125])))
  else [63]
def txL : List St -> Nat -> List UInt8
 | [], _ => []
 | s :: r, d => tabsL d ++ (tx s d ++ 10 :: txL r d)
end
theorem sp {v : List UInt8} {vs : List Bk} (k : Lx v vs) : Lx (32 :: v) vs := (Lx0.blank (c := 32) (by decide)).append k
theorem bl {c : UInt8} {v : List UInt8} {vs : List Bk} (h : blank c = true) (k : Lx0 v vs) : Lx0 (c :: v) vs := (Lx0.blank h).append0 k
theorem sg {c : UInt8} {v : List UInt8} {vs : List Bk} (h : signs.contains c = true) (h61 : c ≠ 61) (k : Lx0 v vs) : Lx0 (c :: v) (sgT c :: vs) := (Lx0.sign h h61).append0 k
theorem wd {w v : List UInt8} {vs : List Bk} (hw : wordB w = true) (k : Lx v vs) : Lx (w ++ 32 :: v) (nmT w :: vs) := (Lx.word hw).append (c := 32) (by decide) (sp k)
theorem wd0 {w v : List UInt8} {vs : List Bk} (hw : wordB w = true) (k : Lx0 v vs) : Lx0 (w ++ 32 :: v) (nmT w :: vs) := (Lx.word hw).append0 (c := 32) (by decide) (bl (by decide) k)
theorem tabs0 {v : List UInt8} {vs : List Bk} (k : Lx0 v vs) : ∀ d, Lx0 (tabsL d ++ v) vs
 | 0 => k
 | d + 1 => bl (by decide) (tabs0 k d)
theorem eO {e : Option E} (h : okE e) : Lx (bsO e) (prO e) := by
 cases e with
 | none => exact h.elim
 | some x => exact Lx.expr h.1
theorem brace {v : List UInt8} {vs : List Bk} (k : Lx0 v vs) : Lx0 (32 :: 123 :: 10 :: v) (sgT 123 :: vs) := bl (by decide) (sg (by decide) (by decide) (bl (by decide) k))
mutual
theorem lx_S : ∀ (s : St) {d : Nat} (D : Nat), okS s d -> Lx (tx s D) (tkS s)
 | .mk k n o m e body els p, d, D, h => by
  unfold okS at h
  unfold tx tkS
  split at h
  ·rename_i hk
   subst hk
   rw [if_pos rfl, if_pos rfl]
   exact (Lx.word h.1.1).append (c := 32) (by decide) (sp (Lx.append (Lx.eq) (c := 32) (by decide) (sp (eO h.2.2.2.1))))
  rename_i h1
  rw [if_neg h1, if_neg h1]
  split at h
  ·rename_i hk
   rcases hk with rfl | rfl | rfl | rfl
   ·rw [if_pos rfl, if_pos rfl]; exact wd (by decide) (Lx.word h.1.1)
   ·simp only [Int.reduceEq, if_false, if_true]; exact wd (by decide) (Lx.word h.1.1)
   ·simp only [Int.reduceEq, if_false, if_true]; exact wd (by decide) (Lx.word h.1.1)
   ·simp only [Int.reduceEq, if_false, if_true]; exact wd (by decide) (Lx.word h.1.1)
  split at h
  ·rename_i hk
   subst hk
   simp only [Int.reduceEq, if_false, if_true]
   exact wd (by decide) (wd h.1.1 (eO h.2.2.2.1))
  split at h
  ·rename_i hk
   subst hk
   simp only [Int.reduceEq, if_false, if_true]
   exact wd (by decide) (wd h.1.1 (Lx.word h.2.1.1))
  split at h
  ·rename_i hk
   subst hk
   simp only [Int.reduceEq, if_false, if_true]
   exact wd (by decide) (eO h.2.2.2.1)
  split at h
  ·rename_i hk
   subst hk
   simp only [Int.reduceEq, if_false, if_true]
   obtain ⟨_, _, _, he, _, hB, hF⟩ := h
   refine wd (by decide) (Lx0.to ((eO he).append0 (c := 32) (by decide) (brace ((lx_L body (D + 1) hB).append0 (tabs0 (sg (by decide) (by decide) ?_) D)))))
   cases els with
   | nil => exact Lx0.nil
   | cons x r =>
    have hL := lx_L (x :: r) (D + 1) hF
    simp only [tkL] at hL
    exact bl (by decide) (wd0 (w := wElse) (by decide) (sg (by decide) (by decide) (bl (by decide) (hL.append0 (tabs0 (Lx0.sign (by decide) (by decide)) D)))))
  split at h
  ·rename_i hk
   subst hk
   simp only [Int.reduceEq, if_false, if_true]
   obtain ⟨_, _, hm, _, _, hB, _⟩ := h
   exact wd (by decide) (Lx0.to ((Lx.num (by omega)).append0 (c := 32) (by decide) (brace ((lx_L body (D + 1) hB).append0 (tabs0 (Lx0.sign (by decide) (by decide)) D)))))
  ·exact h.elim
theorem lx_L : ∀ (l : List St) {d : Nat} (D : Nat), okL l d -> Lx0 (txL l D) (tkL l)
 | [], d, D, _ => by simp only [txL, tkL]; exact Lx0.nil
 | s :: r, d, D, h => by
  simp only [okL] at h
  simp only [txL, tkL]
  exact tabs0 ((lx_S s D h.1).append0 (c := 10) (by decide) (bl (by decide) (lx_L r D h.2))) D
end
section
variable {n : Nat}
theorem wrap8 {x : Int} (h1 : 0 <= x) (h2 : x <= 255) : IntKind.wrap .u8 x = x := by
 have e : IntKind.wrap .u8 x = x % 256 := by
  show (if (false && decide (x % (2 ^ 8 : Int) ≥ (2 ^ 7 : Int))) = true then x % (2 ^ 8 : Int) - (2 ^ 8 : Int) else x % (2 ^ 8 : Int)) = _
  simp only [Bool.false_and, Bool.false_eq_true, if_false]
  rfl
 rw [e]; omega
theorem digit1 (d : Int) (h1 : 0 <= d) (h2 : d < 10) : bytesIf true [(T.sc (.int .u8 (IntKind.wrap .u8 (IntKind.wrap .i64 (48 + d)))))] = some [UInt8.ofNat (48 + d.toNat)] := by
 rw [wrap_id (x := 48 + d) (by omega) (by omega), wrap8 (by omega) (by omega)]
 have : (48 + d).toNat = 48 + d.toNat := by omega
 simp only [bytesIf, cond_true, bytesL, Option.map_some, this]
theorem digs_len : ∀ (k u : Nat), u < 10 ^ k -> 0 < k -> (Lib.decDigits u).length <= k
 | 0, _, _, h => absurd h (Nat.lt_irrefl _)
 | k + 1, u, h, _ => by
  rw [Lib.decDigits]
  by_cases h10 : u < 10
  ·rw [dif_pos h10]; simp
  ·rw [dif_neg h10]
   have hk : 0 < k := by
    rcases Nat.eq_zero_or_pos k with rfl | h0
    ·simp at h; omega
    ·exact h0
   have := digs_len k (u / 10) (by rw [Nat.pow_succ] at h; exact Nat.div_lt_of_lt_mul (by omega)) hk
   simp only [List.length_append, List.length_singleton]
   omega
def lev : E -> Nat
 | .num _ => 5
 | .name _ => 5
 | .neg _ => 4
 | .bin k _ _ => lvl k + 1
theorem bs_side {e : E} (hs : saneE e) (l : Nat) (hl : l <= 3) : bs e l = if lev e < l + 1 then 40 :: (bs e 0 ++ [41]) else bs e 0 := by
 cases e with
 | num k => rw [if_neg (by simp only [lev]; omega)]; simp only [bs]
 | name w => rw [if_neg (by simp only [lev]; omega)]; simp only [bs]
 | neg e => rw [if_neg (by simp only [lev]; omega)]; simp only [bs]
 | bin k a b =>
  have e0 : bs (.bin k a b) 0 = bs a (left k) ++ 32 :: (sgn k ++ 32 :: bs b (lvl k + 1)) := by rw [bs, if_neg (by omega)]
  rw [e0]
  by_cases h : lvl k < l
  ·rw [bs, if_pos h, if_pos (show lev (.bin k a b) < l + 1 by simp only [lev]; omega)]
  ·rw [bs, if_neg h, if_neg (show ¬ lev (.bin k a b) < l + 1 by simp only [lev]; omega)]
end
section
variable {n : Nat}
def St.e : St -> Option E | .mk _ _ _ _ e _ _ _ => e
theorem fit_S (pl : Nat -> Nat × Nat) (s : St) : fits [.int .i64, .str, .str, .int .i64, .int .i64, .int .i64, .str, .list, .list, .list, .cplx .f64] (encS pl s) = true := by
 cases s
 simp only [encS]
 rfl
theorem idx_S (pl : Nat -> Nat × Nat) {l : List St} {i : Nat} (h : i < l.length) : idx true [.int .i64, .str, .str, .int .i64, .int .i64, .int .i64, .str, .list, .list, .list, .cplx .f64] (encSL pl l) (i : Int) = some (encS pl l[i]) := by
 rw [encSL_map]
 unfold idx
 rw [cond_true, decide_eq_true (Int.natCast_nonneg _), cond_true, Int.toNat_natCast]
 simp [h, fit_S]
theorem encSL_len (pl : Nat -> Nat × Nat) (l : List St) : (encSL pl l).length = l.length := by rw [encSL_map, List.length_map]
theorem wlens : wLock.length = 4 /\ wUnlock.length = 6 /\ wSend.length = 4 /\ wRecv.length = 4 /\ wPrint.length = 5 /\ wIf.length = 2 /\ wElse.length = 4 /\ wRepeat.length = 6 /\ wGoto.length = 4 /\ wLabel.length = 5 := ⟨rfl, rfl, rfl, rfl, rfl, rfl, rfl, rfl, rfl, rfl⟩
end
def declW (k : Int) : List UInt8 := if k = 1 then wVar else if k = 2 then wWide else if k = 3 then wAtomic else if k = 4 then wLocal else if k = 5 then wMutex else wChan
def okD (d : Dc) : Prop := (1 <= d.kind /\ d.kind <= 6) /\ okN d.name /\ (d.kind ≠ 6 -> d.num = 0) /\ d.num <= 3
def dtx (d : Dc) : List UInt8 := declW d.kind ++ 32 :: (d.name ++ (if d.kind = 6 then 32 :: Lib.decDigits d.num else []))
def dtL : List Dc -> List UInt8
 | [] => []
 | d :: r => dtx d ++ 10 :: dtL r
def ttL : List (List St) -> List UInt8
 | [] => []
 | l :: r => wGo ++ 32 :: 123 :: 10 :: (txL l 1 ++ 125 :: 10 :: ttL r)
def tkD (d : Dc) : List Bk := nmT (declW d.kind) :: nmT d.name :: (if d.kind = 6 then [(2, Lib.decDigits d.num, d.num)] else [])
def tkDL : List Dc -> List Bk
 | [] => []
 | d :: r => tkD d ++ tkDL r
def tkTL : List (List St) -> List Bk
 | [] => []
 | l :: r => nmT wGo :: sgT 123 :: (tkL l ++ sgT 125 :: tkTL r)
def Dc.strip (d : Dc) : Dc := ⟨d.kind, d.name, d.num, 0⟩
def okDL (l : List Dc) : Prop := ∀ d ∈ l, okD d
def okTL (l : List (List St)) : Prop := ∀ t ∈ l, okL t 1
theorem kinds {k : Int} (h : 1 <= k /\ k <= 6) : k = 1 \/ k = 2 \/ k = 3 \/ k = 4 \/ k = 5 \/ k = 6 := by omega
theorem declW_word {k : Int} (h : 1 <= k /\ k <= 6) : wordB (declW k) = true /\ declK (declW k) = k := by
 rcases kinds h with rfl | rfl | rfl | rfl | rfl | rfl <;> exact ⟨by decide, by decide⟩
theorem lx_D {d : Dc} (h : okD d) : Lx (dtx d) (tkD d) := by
 unfold dtx tkD
 refine wd (declW_word h.1).1 ?_
 by_cases h6 : d.kind = 6
 ·rw [if_pos h6, if_pos h6]
  have := h.2.2.2
  exact wd h.2.1.1 (Lx.num (by omega))
 ·rw [if_neg h6, if_neg h6, List.append_nil]
  exact Lx.word h.2.1.1
theorem lx_DL : ∀ {l : List Dc}, okDL l -> Lx0 (dtL l) (tkDL l)
 | [], _ => Lx0.nil
 | d :: r, h => (lx_D (h d (by simp))).append0 (c := 10) (by decide) (bl (by decide) (lx_DL (l := r) (fun x hx => h x (by simp [hx]))))
theorem lx_TL : ∀ {l : List (List St)}, okTL l -> Lx0 (ttL l) (tkTL l)
 | [], _ => Lx0.nil
 | t :: r, h => wd0' (lx_TL (l := r) (fun x hx => h x (by simp [hx]))) (lx_L t 1 (h t (by simp)))
where
 wd0' {t : List St} {v : List UInt8} {vs : List Bk} (k : Lx0 v vs) (hL : Lx0 (txL t 1) (tkL t)) : Lx0 (wGo ++ 32 :: 123 :: 10 :: (txL t 1 ++ 125 :: 10 :: v)) (nmT wGo :: sgT 123 :: (tkL t ++ sgT 125 :: vs)) :=
  wd0 (w := wGo) (by decide) (sg (by decide) (by decide) (bl (by decide) (hL.append0 (sg (by decide) (by decide) (bl (by decide) k)))))
def endD (rest : List Tok) : Prop := ∃ t r, rest = t :: r /\ ¬ (t.kind = 1 /\ declK t.text ≠ 0)
theorem read_D : ∀ (ds acc : List Dc) (ts rest : List Tok), okDL ds -> acc.length + ds.length <= 24 -> ts.map Tok.bare = tkDL ds -> endD rest -> ∃ ds', dcl acc (ts ++ rest) = .ok (acc ++ ds') rest /\ ds'.map Dc.strip = ds.map Dc.strip
 | [], acc, ts, rest, _, _, ht, ⟨t, r, hr, hn⟩ => by
  obtain rfl := map_nil' ht
  subst hr
  exact ⟨[], by rw [List.nil_append, dcl_eq, if_neg hn, List.append_nil], rfl⟩
 | d :: ds, acc, ts, rest, hok, hl, ht, hr => by
  have hd := hok d (by simp)
  simp only [List.length_cons] at hl
  simp only [tkDL, tkD, List.cons_append] at ht
  have hq := map_cons' ht
  clear ht
  obtain ⟨t, ts, rfl, h1, ht⟩ := hq
  have hq := map_cons' ht
  clear ht
  obtain ⟨t1, ts, rfl, h2, ht⟩ := hq
  have hb := bare_nm h1
  have hw := declW_word hd.1
  have hk : declK t.text = d.kind := by rw [hb.2]; exact hw.2
  rw [List.cons_append, List.cons_append, dcl_eq, if_pos ⟨hb.1, by rw [hk]; have := hd.1; omega⟩, if_neg (by omega), hk]
  simp only
  rw [if_pos (isNm_kw h2 hd.2.1.2), (bare_nm h2).2]
  by_cases h6 : d.kind = 6
  ·rw [if_pos h6] at ht ⊢
   have hq := map_cons' ht
   clear ht
   obtain ⟨t2, ts, rfl, h3, ht⟩ := hq
   have h3' : t2.kind = 2 /\ t2.num = d.num := by simp only [Tok.bare, Prod.mk.injEq] at h3; exact ⟨h3.1, h3.2.2⟩
   obtain ⟨ds', e1, e2⟩ := read_D ds (acc ++ [⟨6, d.name, t2.num, t.pos⟩]) ts rest (fun x hx => hok x (by simp [hx])) (by simp only [List.length_append, List.length_cons, List.length_nil]; omega) (by simpa using ht) hr
   refine ⟨⟨6, d.name, t2.num, t.pos⟩ :: ds', ?_, ?_⟩
   ·rw [List.cons_append]
    simp only
    rw [if_pos ⟨h3'.1, by rw [h3'.2]; exact hd.2.2.2⟩, e1, List.append_assoc]
    rfl
   ·rw [List.map_cons, List.map_cons, e2, h3'.2]
    simp only [Dc.strip, h6]
  ·rw [if_neg h6] at ht ⊢
   obtain ⟨ds', e1, e2⟩ := read_D ds (acc ++ [⟨d.kind, d.name, 0, t.pos⟩]) ts rest (fun x hx => hok x (by simp [hx])) (by simp only [List.length_append, List.length_cons, List.length_nil]; omega) (by simpa using ht) hr
   refine ⟨⟨d.kind, d.name, 0, t.pos⟩ :: ds', ?_, ?_⟩
   ·rw [e1, List.append_assoc]; rfl
   ·rw [List.map_cons, List.map_cons, e2]
    simp only [Dc.strip, hd.2.2.1 h6]
theorem read_T : ∀ (tl acc : List (List St)) (ts : List Tok) (e : Tok), okTL tl -> acc.length + tl.length <= 4 -> acc ++ tl ≠ [] -> ts.map Tok.bare = tkTL tl -> e.kind = 4 -> ∃ tl', thr acc (ts ++ [e]) = .ok (acc ++ tl') [e] /\ tl'.map stripL = tl.map stripL
 | [], acc, ts, e, _, _, hne, ht, he => by
  obtain rfl := map_nil' ht
  rw [List.append_nil] at hne
  exact ⟨[], by rw [List.nil_append, thr_eq, if_pos ⟨hne, he⟩, List.append_nil], rfl⟩
 | l :: tl, acc, ts, e, hok, hl, hne, ht, he => by
  simp only [List.length_cons] at hl
  simp only [tkTL] at ht
  have hq := map_cons' ht
  clear ht
  obtain ⟨t, ts, rfl, h1, ht⟩ := hq
  have hq := map_cons' ht
  clear ht
  obtain ⟨t1, ts, rfl, h2, ht⟩ := hq
  have hq := map_split ht
  clear ht
  obtain ⟨tb, ts, rfl, h3, ht⟩ := hq
  have hq := map_cons' ht
  clear ht
  obtain ⟨t2, ts, rfl, h4, ht⟩ := hq
  have hb := bare_nm h1
  obtain ⟨l', e1, e2⟩ := read_L l (d := 0) (hok l (by simp)) (ts := tb) (rest := ts ++ [e]) [] h3 h4
  have eB : blk 0 (t1 :: (tb ++ t2 :: ts) ++ [e]) = .ok l' (ts ++ [e]) := by
   rw [List.cons_append, blk_cons _ _ _ (by omega), if_pos (isSign_sg h2)]
   simpa [List.append_assoc] using e1
  obtain ⟨tl', f1, f2⟩ := read_T tl (acc ++ [l']) ts e (fun x hx => hok x (by simp [hx])) (by simp only [List.length_append, List.length_cons, List.length_nil]; omega) (by simp) ht he
  refine ⟨l' :: tl', ?_, ?_⟩
  ·rw [List.cons_append, thr_eq, if_neg (fun h => by rw [hb.1] at h; exact absurd h.2 (by decide)), if_neg (by omega), if_pos (by rw [h1]; rfl), eB]
   simp only
   rw [if_pos (by simp only [List.length_append, List.length_cons]; omega), f1, List.append_assoc]
   rfl
  ·rw [List.map_cons, List.map_cons, f2]
   rw [List.nil_append] at e2
   rw [e2]
theorem read_P {ds : List Dc} {tl : List (List St)} (hd : okDL ds) (h24 : ds.length <= 24) (ht : okTL tl) (h4 : tl.length <= 4) (hne : tl ≠ []) : ∃ l ds' tl', lexR (dtL ds ++ ttL tl) 0 [] = .ok l /\ prg (l ++ [endT (dtL ds ++ ttL tl)]) = .ok ds' tl' /\ ds'.map Dc.strip = ds.map Dc.strip /\ tl'.map stripL = tl.map stripL := by
 obtain ⟨l, h1, h2⟩ := ((lx_DL hd).append0 (lx_TL ht)).to.all
 have hq := map_split h1
 obtain ⟨t1, t2, rfl, g1, g2⟩ := hq
 have hend : endD (t2 ++ [endT (dtL ds ++ ttL tl)]) := by
  cases tl with
  | nil => exact absurd rfl hne
  | cons x tl =>
   simp only [tkTL] at g2
   have hq := map_cons' g2
   obtain ⟨t, ts, rfl, h3, _⟩ := hq
   have hb := bare_nm h3
   exact ⟨t, _, rfl, fun h => h.2 (by rw [hb.2]; decide)⟩
 obtain ⟨ds', e1, e2⟩ := read_D ds [] t1 (t2 ++ [endT (dtL ds ++ ttL tl)]) hd (by simpa using h24) g1 hend
 obtain ⟨tl', f1, f2⟩ := read_T tl [] t2 (endT (dtL ds ++ ttL tl)) ht (by simpa using h4) (by simpa using hne) g2 rfl
 refine ⟨t1 ++ t2, ds', tl', h2, ?_, e2, f2⟩
 unfold prg
 rw [List.append_assoc, e1]
 simp only
 rw [f1]
 rfl
section
variable {n : Nat}
theorem fit_D (pl : Nat -> Nat × Nat) (d : Dc) : fits [.int .i64, .str, .int .i64, .cplx .f64] (encD pl d) = true := rfl
theorem idx_D (pl : Nat -> Nat × Nat) {l : List Dc} {i : Nat} (h : i < l.length) : idx true [.int .i64, .str, .int .i64, .cplx .f64] (l.map (encD pl)) (i : Int) = some (encD pl l[i]) := by
 unfold idx
 rw [cond_true, decide_eq_true (Int.natCast_nonneg _), cond_true, Int.toNat_natCast]
 simp [h, fit_D]
theorem idx_T (pl : Nat -> Nat × Nat) {l : List (List St)} {i : Nat} (h : i < l.length) : idx true [.list] (l.map (encT pl)) (i : Int) = some (encT pl l[i]) := by
 unfold idx
 rw [cond_true, decide_eq_true (Int.natCast_nonneg _), cond_true, Int.toNat_natCast]
 have : ∀ x : List St, fits [.list] (encT pl x) = true := fun _ => rfl
 simp [h, this]
end
section
variable {n : Nat}
theorem tx_sub {k : Int} {nm o : List UInt8} {m : Nat} {e : Option E} {body els : List St} {p d : Nat} (h : okS (.mk k nm o m e body els p) d) :
  (txL body (d + 1)).length <= (tx (.mk k nm o m e body els p) d).length /\ (txL els (d + 1)).length <= (tx (.mk k nm o m e body els p) d).length /\ okL body (d + 1) /\ okL els (d + 1) /\ (d < 8 \/ (body = [] /\ els = [])) /\ (bsO e).length <= (tx (.mk k nm o m e body els p) d).length := by
 unfold okS at h
 have nl : (txL [] (d + 1)).length = 0 := by simp only [txL, List.length_nil]
 split at h
 ·rename_i hk; subst hk
  obtain ⟨_, _, _, he, rfl, rfl⟩ := h
  refine ⟨by omega, by omega, by simp only [okL], by simp only [okL], .inr ⟨rfl, rfl⟩, ?_⟩
  simp only [tx, if_true, List.length_append, List.length_cons]; omega
 split at h
 ·obtain ⟨_, _, _, rfl, rfl, rfl⟩ := h
  exact ⟨by omega, by omega, by simp only [okL], by simp only [okL], .inr ⟨rfl, rfl⟩, by simp only [bsO, List.length_nil]; omega⟩
 split at h
 ·rename_i hk; subst hk
  obtain ⟨_, _, _, he, rfl, rfl⟩ := h
  refine ⟨by omega, by omega, by simp only [okL], by simp only [okL], .inr ⟨rfl, rfl⟩, ?_⟩
  simp only [tx, Int.reduceEq, if_false, if_true, List.length_append, List.length_cons]; omega
 split at h
 ·obtain ⟨_, _, _, rfl, rfl, rfl⟩ := h
  exact ⟨by omega, by omega, by simp only [okL], by simp only [okL], .inr ⟨rfl, rfl⟩, by simp only [bsO, List.length_nil]; omega⟩
 split at h
 ·rename_i hk; subst hk
  obtain ⟨_, _, _, he, rfl, rfl⟩ := h
  refine ⟨by omega, by omega, by simp only [okL], by simp only [okL], .inr ⟨rfl, rfl⟩, ?_⟩
  simp only [tx, Int.reduceEq, if_false, if_true, List.length_append, List.length_cons]; omega
 split at h
 ·rename_i hk; subst hk
  obtain ⟨_, _, _, he, hd, hB, hF⟩ := h
  refine ⟨?_, ?_, hB, hF, .inl hd, ?_⟩
  ·simp only [tx, Int.reduceEq, if_false, if_true, List.length_append, List.length_cons]; omega
  ·cases els with
   | nil => omega
   | cons y els =>
    simp only [tx, Int.reduceEq, if_false, if_true, List.length_append, List.length_cons]; omega
  ·simp only [tx, Int.reduceEq, if_false, if_true, List.length_append, List.length_cons]; omega
 split at h
 ·rename_i hk; subst hk
  obtain ⟨_, _, _, rfl, hd, hB, rfl⟩ := h
  refine ⟨?_, by omega, hB, by simp only [okL], .inl hd, by simp only [bsO, List.length_nil]; omega⟩
  simp only [tx, Int.reduceEq, if_false, if_true, List.length_append, List.length_cons]; omega
 ·exact h.elim
theorem stripL_map : ∀ l : List St, stripL l = l.map St.strip
 | [] => rfl
 | x :: l => by simp only [stripL, List.map_cons, stripL_map l]
theorem okL_at {l : List St} {d i : Nat} (h : okL l d) (hi : i < l.length) : okS l[i] d := by
 have e := List.take_append_drop i l
 rw [<- e] at h
 have h2 := (okL_append.1 h).2
 rw [List.drop_eq_getElem_cons hi] at h2
 simp only [okL] at h2
 exact h2.1
theorem txL_at : ∀ {l : List St} {d i : Nat} (hi : i < l.length), (tx l[i] d).length <= (txL l d).length
 | x :: l, d, 0, _ => by simp only [txL, List.length_append, List.length_cons, List.getElem_cons_zero]; omega
 | x :: l, d, i + 1, hi => by
  have := txL_at (l := l) (d := d) (i := i) (by simpa using hi)
  simp only [txL, List.length_append, List.length_cons, List.getElem_cons_succ]
  omega
theorem txL_len : ∀ (l : List St) (d : Nat), l.length <= (txL l d).length
 | [], d => by simp
 | x :: l, d => by simp only [txL, List.length_append, List.length_cons]; have := txL_len l d; omega
end
def pl0 : Nat -> Nat × Nat := fun _ => (0, 0)
section
variable {n : Nat}
theorem act_cell (x : Act5) : (x.t.cell 0).int = x.w /\ (x.t.cell 1).int = x.a /\ (x.t.cell 2).int = x.b /\ (x.t.cell 3).int = x.n /\ (x.t.cell 4).lst = ints .i64 x.e := ⟨rfl, rfl, rfl, rfl, rfl⟩
theorem sized_act (l : List Act5) : sized 5 (l.map Act5.t) = true := by
 unfold sized
 rw [List.all_map]
 exact List.all_eq_true.2 (fun x _ => rfl)
theorem idx_act {x : Act5} {l : List Act5} : idx true [.int .i64, .int .i64, .int .i64, .int .i64, .list] ((x :: l).map Act5.t) 0 = some x.t := rfl
theorem drop_act (x : Act5) (l : List Act5) : List.drop (Int.toNat 1) (List.take (Int.toNat ((List.length ((x :: l).map Act5.t) : Nat) : Int)) ((x :: l).map Act5.t)) = l.map Act5.t := by
 rw [Int.toNat_natCast, List.take_length]
 rfl
theorem short_eq (hn : 100000 < n) (a b c d : Int) (z : List Int) : ∃ x, m_suturehand_short n a b c d (ints .i64 z) = some (kE x, nE x, wE x, oE x) /\ saneE x /\ fitsE kwd x 0 0 /\ (bs x 0).length <= 22 := by
 unfold m_suturehand_short
 rw [ints_length]
 by_cases h : 3 < z.length
 ·rw [decide_eq_true (show (((z.length : Nat) : Int) : Int) > 3 by omega), cond_true, must_eq (by simp only [Bool.and_eq_true, decide_eq_true_eq]; exact ⟨⟨⟨by omega, by omega⟩, by omega⟩, sized_ints _⟩), show Int.toNat 3 = 3 from rfl, show Int.toNat 0 = 0 from rfl, take_ints, List.drop_zero]
  obtain ⟨x, h1, h2, h3⟩ := expr_eqL (n := n) (z.take 3) (by simp; omega) (by omega)
  rw [h1, Option.bind_some]
  refine ⟨x, rfl, h2.1, h2.2.1 0 0 (by omega), ?_⟩
  have := h3 0
  simp only [List.length_take] at this
  omega
 ·rw [decide_eq_false (show ¬ (((z.length : Nat) : Int) : Int) > 3 by omega), cond_false]
  obtain ⟨x, h1, h2, h3⟩ := expr_eqL (n := n) z (by omega) (by omega)
  rw [h1, Option.bind_some]
  refine ⟨x, rfl, h2.1, h2.2.1 0 0 (by omega), ?_⟩
  have := h3 0
  omega
theorem two_eq (a b : UInt8) (x : Int) : ∃ p, (p = a \/ p = b) /\ (∀ {R : Type} (f : T -> Option R), (Option.bind (m_suturehand_Pick n x 2) fun r => Option.bind (idx1 true (.str) [(T.sc (.string (⟨#[a]⟩ : ByteArray))), (T.sc (.string (⟨#[b]⟩ : ByteArray)))] r) f) = f (T.sc (.string (B [p])))) := by
 obtain ⟨q, hq, hq2⟩ := pick_eq n x 2 (by omega) (by omega)
 have : q = 0 \/ q = 1 := by omega
 rcases this with rfl | rfl
 ·exact ⟨a, .inl rfl, fun f => by rw [hq]; rfl⟩
 ·exact ⟨b, .inr rfl, fun f => by rw [hq]; rfl⟩
theorem fit11 (es : List T) (y : T) (h : es.length <= 100000) (hy : sized 11 [y] = true) {R : Type} (q : Option R) : must true ((Nat.beq 11 11 || Nat.beq 11 0) && (decide (List.length es + List.length [y] <= 1073741824) && sized 11 [y])) q = q := by
 rw [List.length_singleton, decide_eq_true (show es.length + 1 <= 1073741824 by omega), hy]
 rfl
structure StOk (n : Nat) (b : B_suturehand_stmts) (m : Nat) : Prop where
 st : ∀ (l : List Act5) (most : Int) (d : Nat), l.length <= 16 -> d <= 3 -> 3 < m + d -> ∃ (out : List St) (r : List Act5), b.suturehand_stmts (l.map Act5.t) most (d : Int) = some (encSL pl0 out, r.map Act5.t) /\ okL out d /\ (∀ x ∈ r, x ∈ l) /\ r.length <= l.length /\ (txL out d).length + 60 * r.length <= 60 * l.length
theorem txL_app (l : List St) (s : St) (d : Nat) : (txL (l ++ [s]) d).length = (txL l d).length + (d + (tx s d).length + 1) := by
 induction l with
 | nil => simp only [List.nil_append, txL, List.length_append, List.length_cons, List.length_nil, tabsL, List.length_replicate]; omega
 | cons x l ih => simp only [List.cons_append, txL, List.length_append, List.length_cons, ih]; omega
theorem tx7_len {e : E} {bd el : List St} {p d : Nat} : (tx (.mk 7 [] [] 0 (some e) bd el p) d).length <= (bs e 0).length + (txL bd (d + 1)).length + (txL el (d + 1)).length + 2 * d + 20 := by
 have w6 : wIf.length = 2 := rfl
 have w7 : wElse.length = 4 := rfl
 have tb : (tabsL d).length = d := List.length_replicate
 cases el with
 | nil => simp only [tx, bsO, Int.reduceEq, if_false, if_true, List.length_append, List.length_cons, List.length_nil]; omega
 | cons y el => simp only [tx, bsO, Int.reduceEq, if_false, if_true, List.length_append, List.length_cons, List.length_nil]; omega
theorem st_loop' (hn : 100000 < n) {b : B_suturehand_stmts} {m : Nat} (hb : StOk n b m) {d : Nat} (hd : d <= 3) (hm : 3 < m + 1 + d) (most : Int) : ∀ (k : Nat) (l : List Act5) (out : List St), l.length < k -> l.length <= 16 -> okL out d -> (txL out d).length + 60 * l.length <= 2000 →
  ∃ (out' : List St) (r : List Act5), l_suturehand_stmts_2 b n k (l.map Act5.t, most, (d : Int), encSL pl0 out) = some (r.map Act5.t, encSL pl0 out') /\ okL out' d /\ (∀ x ∈ r, x ∈ l) /\ r.length <= l.length /\ (txL out' d).length + 60 * r.length <= (txL out d).length + 60 * l.length := by
 intro k
 induction k with
 | zero => intro l out h; omega
 | succ k ih =>
  intro l out hk h16 hok h2000
  show ∃ (out' : List St) (r : List Act5), l_suturehand_stmts_2_B b n (l_suturehand_stmts_2 b n k) (l.map Act5.t, most, (d : Int), encSL pl0 out) = _ /\ _
  unfold l_suturehand_stmts_2_B
  simp only
  cases l with
  | nil =>
   have : (bif (decide ((((List.length (encSL pl0 out) : Nat) : Int) : Int) < most)) then (decide ((((List.length (([] : List Act5).map Act5.t) : Nat) : Int) : Int) > 0)) else false) = false := by
    cases (decide ((((List.length (encSL pl0 out) : Nat) : Int) : Int) < most)) <;> rfl
   rw [this, cond_false]
   exact ⟨out, [], rfl, hok, fun x hx => hx, Nat.le_refl _, Nat.le_refl _⟩
  | cons x l =>
  simp only [List.length_cons] at hk h16 h2000
  by_cases hmost : ¬ (((List.length (encSL pl0 out) : Nat) : Int) < most)
  ·rw [decide_eq_false hmost, cond_false, cond_false]
   exact ⟨out, x :: l, rfl, hok, fun x hx => hx, Nat.le_refl _, Nat.le_refl _⟩
  rw [decide_eq_true (Decidable.not_not.1 hmost), decide_eq_true (show ((((List.length ((x :: l).map Act5.t) : Nat) : Int) : Int) > 0) by simp only [List.length_map, List.length_cons]; omega), cond_true, cond_true, idx_act, Option.bind_some]
  rw [must_eq (by simp only [Bool.and_eq_true, decide_eq_true_eq]; exact ⟨⟨⟨by omega, by simp only [List.length_map, List.length_cons]; omega⟩, Int.le_refl _⟩, sized_act _⟩), drop_act]
  obtain ⟨v0, v1, v2, v3, v4⟩ := act_cell x
  rw [v0, v1, v2, v3, v4]
  have hol : (encSL pl0 out).length <= 2000 := by rw [encSL_len]; have := txL_len out d; omega
  have push : ∀ (S : St) (y : T) (l2 : List Act5), y = encS pl0 S -> okS S d -> l2.length <= l.length -> (∀ z ∈ l2, z ∈ l) -> (d + (tx S d).length + 1) + 60 * l2.length <= 60 * (l.length + 1) →
    ∃ (out' : List St) (r : List Act5), must true ((Nat.beq 11 11 || Nat.beq 11 0) && (decide (List.length (encSL pl0 out) + List.length [y] <= 1073741824) && sized 11 [y])) (l_suturehand_stmts_2 b n k (l2.map Act5.t, most, (d : Int), encSL pl0 out ++ [y])) = some (r.map Act5.t, encSL pl0 out') /\ okL out' d /\ (∀ z ∈ r, z ∈ x :: l) /\ r.length <= (x :: l).length /\ (txL out' d).length + 60 * r.length <= (txL out d).length + 60 * (x :: l).length := by
   rintro S y l2 rfl hS h2 hmem hlen
   rw [fit11 _ _ (by omega) (by cases S; simp only [encS]; rfl)]
   have e1 : encSL pl0 out ++ [encS pl0 S] = encSL pl0 (out ++ [S]) := by rw [encSL_app]; simp only [encSL]
   rw [e1]
   have hap := txL_app out S d
   obtain ⟨out', r, g1, g2, g3, g4, g5⟩ := ih l2 (out ++ [S]) (by omega) (by omega) (okL_append.2 ⟨hok, by simp only [okL]; exact ⟨hS, trivial⟩⟩) (by omega)
   exact ⟨out', r, g1, g2, fun z hz2 => by simp [hmem z (g3 z hz2)], by simp only [List.length_cons]; omega, by simp only [List.length_cons]; omega⟩
  have hup : IntKind.wrap .i64 ((d : Int) + 1) = ((d + 1 : Nat) : Int) := by rw [wrap_id (by omega) (by omega)]; omega
  rw [hup]
  obtain ⟨w1, w2, w3, w4, w5, w6, w7, w8, w9, w10⟩ := wlens
  obtain ⟨q, hq, hq24⟩ := pick_eq n x.w 24 (by omega) (by omega)
  obtain ⟨ex, hex, hxs, hxf, hxl⟩ := short_eq (n := n) hn x.w x.a x.b x.n x.e
  rw [hq, Option.bind_some, hex]
  by_cases k9 : q < 9
  ·rw [decide_eq_true (show ((q : Nat) : Int) < 9 by omega), cond_true]
   obtain ⟨p, hp, hpl⟩ := plain_eq (n := n) x.a
   obtain ⟨n1, n2, n3⟩ := names8_ok p hp
   rw [hpl, Option.bind_some, Option.bind_some]
   exact push (.mk 1 p [] 0 (some ex) [] [] 0) _ l (by simp only [encS, encSL]; first | done | rfl) (by unfold okS; rw [if_pos rfl]; exact ⟨⟨n1, n2⟩, rfl, rfl, ⟨hxs, hxf⟩, rfl, rfl⟩) (Nat.le_refl _) (fun z hz => hz) (by simp only [tx, bsO, if_true, List.length_append, List.length_cons]; omega)
  rw [decide_eq_false (show ¬ ((q : Nat) : Int) < 9 by omega), cond_false]
  by_cases k11 : q < 11
  ·rw [decide_eq_true (show ((q : Nat) : Int) < 11 by omega), cond_true]
   exact push (.mk 2 [109] [] 0 none [] [] 0) _ l (by simp only [encS, encSL]; first | done | rfl) (by unfold okS; rw [if_neg (by decide), if_pos (by decide)]; exact ⟨⟨by decide, by decide⟩, rfl, rfl, rfl, rfl, rfl⟩) (Nat.le_refl _) (fun z hz => hz) (by simp only [tx, Int.reduceEq, if_false, if_true, List.length_append, List.length_cons, List.length_nil]; omega)
  rw [decide_eq_false (show ¬ ((q : Nat) : Int) < 11 by omega), cond_false]
  by_cases k13 : q < 13
  ·rw [decide_eq_true (show ((q : Nat) : Int) < 13 by omega), cond_true]
   exact push (.mk 3 [109] [] 0 none [] [] 0) _ l (by simp only [encS, encSL]; first | done | rfl) (by unfold okS; rw [if_neg (by decide), if_pos (by decide)]; exact ⟨⟨by decide, by decide⟩, rfl, rfl, rfl, rfl, rfl⟩) (Nat.le_refl _) (fun z hz => hz) (by simp only [tx, Int.reduceEq, if_false, if_true, List.length_append, List.length_cons, List.length_nil]; omega)
  rw [decide_eq_false (show ¬ ((q : Nat) : Int) < 13 by omega), cond_false]
  obtain ⟨pc, hpc, hpcf⟩ := two_eq (n := n) 99 100 x.a
  obtain ⟨pk, hpk, hpkf⟩ := two_eq (n := n) 108 107 x.a
  have okc : okN [pc] := by rcases hpc with rfl | rfl <;> exact ⟨by decide, by decide⟩
  have okk : okN [pk] := by rcases hpk with rfl | rfl <;> exact ⟨by decide, by decide⟩
  by_cases k15 : q < 15
  ·rw [decide_eq_true (show ((q : Nat) : Int) < 15 by omega), cond_true, hpcf, Option.bind_some]
   exact push (.mk 4 [pc] [] 0 (some ex) [] [] 0) _ l (by simp only [encS, encSL]; first | done | rfl) (by unfold okS; rw [if_neg (by decide), if_neg (by decide), if_pos rfl]; exact ⟨okc, rfl, rfl, ⟨hxs, hxf⟩, rfl, rfl⟩) (Nat.le_refl _) (fun z hz => hz) (by simp only [tx, bsO, Int.reduceEq, if_false, if_true, List.length_append, List.length_cons, List.length_nil]; omega)
  rw [decide_eq_false (show ¬ ((q : Nat) : Int) < 15 by omega), cond_false]
  by_cases k17 : q < 17
  ·rw [decide_eq_true (show ((q : Nat) : Int) < 17 by omega), cond_true, hpcf]
   obtain ⟨p, hp, hpl⟩ := plain_eq (n := n) x.b
   obtain ⟨n1, n2, n3⟩ := names8_ok p hp
   rw [hpl, Option.bind_some]
   exact push (.mk 5 [pc] p 0 none [] [] 0) _ l (by simp only [encS, encSL]; first | done | rfl) (by unfold okS; rw [if_neg (by decide), if_neg (by decide), if_neg (by decide), if_pos rfl]; exact ⟨okc, ⟨n1, n2⟩, rfl, rfl, rfl, rfl⟩) (Nat.le_refl _) (fun z hz => hz) (by simp only [tx, bsO, Int.reduceEq, if_false, if_true, List.length_append, List.length_cons, List.length_nil]; omega)
  rw [decide_eq_false (show ¬ ((q : Nat) : Int) < 17 by omega), cond_false]
  by_cases k18 : q < 18
  ·rw [decide_eq_true (show ((q : Nat) : Int) < 18 by omega), cond_true, Option.bind_some]
   exact push (.mk 6 [] [] 0 (some ex) [] [] 0) _ l (by simp only [encS, encSL]; first | done | rfl) (by unfold okS; rw [if_neg (by decide), if_neg (by decide), if_neg (by decide), if_neg (by decide), if_pos rfl]; exact ⟨rfl, rfl, rfl, ⟨hxs, hxf⟩, rfl, rfl⟩) (Nat.le_refl _) (fun z hz => hz) (by simp only [tx, bsO, Int.reduceEq, if_false, if_true, List.length_append, List.length_cons, List.length_nil]; omega)
  rw [decide_eq_false (show ¬ ((q : Nat) : Int) < 18 by omega), cond_false]
  by_cases k20 : q < 20 /\ d < 3
  ·rw [decide_eq_true (show ((q : Nat) : Int) < 20 by omega), decide_eq_true (show ((d : Nat) : Int) < 3 by omega), cond_true, cond_true, Option.bind_some]
   obtain ⟨y, hy, hy2⟩ := pick_eq n x.a 2 (by omega) (by omega)
   rw [hy, Option.bind_some]
   obtain ⟨o1, r1, f1, f2, f3, f4, f5⟩ := hb.st l (IntKind.wrap .i64 (1 + (y : Int))) (d + 1) (by omega) (by omega) (by omega)
   rw [f1, Option.bind_some, must_eq (by decide)]
   cases ((Int.tmod x.b 3 : Int) == 0) with
   | true =>
    rw [cond_true]
    obtain ⟨y', hy', _⟩ := pick_eq n x.n 2 (by omega) (by omega)
    rw [hy', Option.bind_some]
    obtain ⟨o2, r2, g1, g2, g3, g4, g5⟩ := hb.st r1 (IntKind.wrap .i64 (1 + (y' : Int))) (d + 1) (by omega) (by omega) (by omega)
    rw [g1, Option.bind_some]
    have ht := tx7_len (e := ex) (bd := o1) (el := o2) (p := 0) (d := d)
    exact push (.mk 7 [] [] 0 (some ex) o1 o2 0) _ r2 (by simp only [encS]; first | done | rfl) (by unfold okS; rw [if_neg (by decide), if_neg (by decide), if_neg (by decide), if_neg (by decide), if_neg (by decide), if_pos rfl]; exact ⟨rfl, rfl, rfl, ⟨hxs, hxf⟩, by omega, f2, g2⟩) (by omega) (fun z hz => f3 z (g3 z hz)) (by omega)
   | false =>
    rw [cond_false]
    have ht := tx7_len (e := ex) (bd := o1) (el := []) (p := 0) (d := d)
    have hnil : (txL [] (d + 1)).length = 0 := by simp only [txL, List.length_nil]
    exact push (.mk 7 [] [] 0 (some ex) o1 [] 0) _ r1 (by simp only [encS, encSL]; first | done | rfl) (by unfold okS; rw [if_neg (by decide), if_neg (by decide), if_neg (by decide), if_neg (by decide), if_neg (by decide), if_pos rfl]; exact ⟨rfl, rfl, rfl, ⟨hxs, hxf⟩, by omega, f2, by simp only [okL]⟩) (by omega) f3 (by omega)
  have c20 : (bif (decide (((q : Nat) : Int) < 20)) then (decide (((d : Nat) : Int) < 3)) else false) = false := by
   by_cases h : q < 20
   ·rw [decide_eq_true (show ((q : Nat) : Int) < 20 by omega), cond_true, decide_eq_false_iff_not]; omega
   ·rw [decide_eq_false (show ¬ ((q : Nat) : Int) < 20 by omega), cond_false]
  rw [c20, cond_false]
  by_cases k21 : q < 21 /\ d < 3
  ·rw [decide_eq_true (show ((q : Nat) : Int) < 21 by omega), decide_eq_true (show ((d : Nat) : Int) < 3 by omega), cond_true, cond_true]
   obtain ⟨y0, hy0, hy03⟩ := pick_eq n x.n 3 (by omega) (by omega)
   obtain ⟨y, hy, hy2⟩ := pick_eq n x.a 2 (by omega) (by omega)
   rw [hy0, Option.bind_some, hy, Option.bind_some]
   obtain ⟨o1, r1, f1, f2, f3, f4, f5⟩ := hb.st l (IntKind.wrap .i64 (1 + (y : Int))) (d + 1) (by omega) (by omega) (by omega)
   rw [f1, Option.bind_some]
   have tb : (tabsL d).length = d := List.length_replicate
   have hdg : (Lib.decDigits y0).length = 1 := by rw [digits1 (show y0 < 10 by omega)]; rfl
   exact push (.mk 8 [] [] y0 none o1 [] 0) _ r1 (by simp only [encS, encSL]; first | done | rfl) (by unfold okS; rw [if_neg (by decide), if_neg (by decide), if_neg (by decide), if_neg (by decide), if_neg (by decide), if_neg (by decide), if_pos rfl]; exact ⟨rfl, rfl, by omega, rfl, by omega, f2, rfl⟩) (by omega) f3 (by simp only [tx, Int.reduceEq, if_false, if_true, List.length_append, List.length_cons, List.length_nil]; omega)
  have c21 : (bif (decide (((q : Nat) : Int) < 21)) then (decide (((d : Nat) : Int) < 3)) else false) = false := by
   by_cases h : q < 21
   ·rw [decide_eq_true (show ((q : Nat) : Int) < 21 by omega), cond_true, decide_eq_false_iff_not]; omega
   ·rw [decide_eq_false (show ¬ ((q : Nat) : Int) < 21 by omega), cond_false]
  rw [c21, cond_false]
  by_cases k22 : q < 22
  ·rw [decide_eq_true (show ((q : Nat) : Int) < 22 by omega), cond_true, hpkf]
   exact push (.mk 9 [pk] [] 0 none [] [] 0) _ l (by simp only [encS, encSL]; first | done | rfl) (by unfold okS; rw [if_neg (by decide), if_pos (by decide)]; exact ⟨okk, rfl, rfl, rfl, rfl, rfl⟩) (Nat.le_refl _) (fun z hz => hz) (by simp only [tx, Int.reduceEq, if_false, if_true, List.length_append, List.length_cons, List.length_nil]; omega)
  rw [decide_eq_false (show ¬ ((q : Nat) : Int) < 22 by omega), cond_false]
  by_cases k23 : q < 23
  ·rw [decide_eq_true (show ((q : Nat) : Int) < 23 by omega), cond_true, hpkf]
   exact push (.mk 10 [pk] [] 0 none [] [] 0) _ l (by simp only [encS, encSL]; first | done | rfl) (by unfold okS; rw [if_neg (by decide), if_pos (by decide)]; exact ⟨okk, rfl, rfl, rfl, rfl, rfl⟩) (Nat.le_refl _) (fun z hz => hz) (by simp only [tx, Int.reduceEq, if_false, if_true, List.length_append, List.length_cons, List.length_nil]; omega)
  rw [decide_eq_false (show ¬ ((q : Nat) : Int) < 23 by omega), cond_false, Option.bind_some]
  exact push (.mk 1 [116] [] 0 (some ex) [] [] 0) _ l (by simp only [encS, encSL]; first | done | rfl) (by unfold okS; rw [if_pos rfl]; exact ⟨⟨by decide, by decide⟩, rfl, rfl, ⟨hxs, hxf⟩, rfl, rfl⟩) (Nat.le_refl _) (fun z hz => hz) (by simp only [tx, bsO, if_true, List.length_append, List.length_cons, List.length_nil]; omega)
theorem st_ok (hn : 100000 < n) : ∀ m, StOk n (unB_suturehand_stmts n m) m
 | 0 => ⟨fun l most d _ h1 h2 => by omega⟩
 | m + 1 => by
  have ih := st_ok hn m
  refine ⟨fun l most d h16 hd hm => ?_⟩
  have hnil : (txL [] d).length = 0 := by simp only [txL, List.length_nil]
  obtain ⟨out, r, g1, g2, g3, g4, g5⟩ := st_loop' hn ih hd (by omega) most n l [] (by omega) h16 (by simp only [okL]) (by omega)
  refine ⟨out, r, ?_, g2, g3, g4, by omega⟩
  show f_suturehand_stmts (unB_suturehand_stmts n m) n (l.map Act5.t) most (d : Int) = _
  unfold f_suturehand_stmts
  simp only [encSL] at g1
  rw [g1, Option.bind_some]
end
section
variable {n : Nat}
theorem pickW_nat (x m : Int) (h1 : 0 < m) (h2 : m <= 1000) : ∃ q : Nat, pickW x m = (q : Int) /\ (q : Int) < m := by
 have a1 : Int.tmod x m < m := Int.tmod_lt_of_pos x h1
 have a2 : -m < Int.tmod x m := by
  have := Int.tmod_lt_of_pos (-x) h1
  rw [Int.neg_tmod] at this
  omega
 unfold pickW
 by_cases h : Int.tmod x m < 0
 ·rw [if_pos h]
  refine ⟨(Int.tmod x m + m).toNat, ?_, by omega⟩
  unfold wrap64
  omega
 ·rw [if_neg h]
  exact ⟨(Int.tmod x m).toNat, by omega, by omega⟩
def dsOf (k0 k1 : Int) (q : Nat) : List Dc := [⟨k0, [120], 0, 0⟩, ⟨k1, [121], 0, 0⟩, ⟨2, [122], 0, 0⟩, ⟨3, [97], 0, 0⟩, ⟨4, [116], 0, 0⟩, ⟨5, [109], 0, 0⟩, ⟨6, [99], q, 0⟩, ⟨6, [100], 0, 0⟩]
theorem declW_len (k : Int) : (declW k).length <= 6 := by
 unfold declW
 repeat' split
 all_goals decide
theorem decls_eq (how : Int) : ∃ ds, m_suturehand_Decls n how = some (ds.map (encD pl0)) /\ okDL ds /\ ds.length = 8 /\ (dtL ds).length <= 100 := by
 obtain ⟨q, hq, hq3⟩ := pickW_nat how 3 (by omega) (by omega)
 unfold m_suturehand_Decls declsM declsK
 rw [hq]
 generalize hk0 : (if pickW (wrap64 (Int.tdiv how 3)) 7 = 4 then (2 : Int) else if pickW (wrap64 (Int.tdiv how 3)) 7 = 6 then 3 else 1) = k0
 generalize hk1 : (if pickW (wrap64 (Int.tdiv how 3)) 7 = 5 then (2 : Int) else 1) = k1
 have b0 : 1 <= k0 /\ k0 <= 3 := by subst hk0; split <;> (try split) <;> omega
 have b1 : 1 <= k1 /\ k1 <= 2 := by subst hk1; split <;> omega
 refine ⟨dsOf k0 k1 q, by rfl, ?_, rfl, ?_⟩
 ·intro d hd
  simp only [dsOf, List.mem_cons, List.not_mem_nil, or_false] at hd
  have m0 : okN [120] := ⟨by decide, by decide⟩
  have m1 : okN [121] := ⟨by decide, by decide⟩
  have m2 : okN [99] := ⟨by decide, by decide⟩
  rcases hd with rfl | rfl | rfl | rfl | rfl | rfl | rfl | rfl
  ·exact ⟨by simp only; omega, m0, fun _ => rfl, by simp only; omega⟩
  ·exact ⟨by simp only; omega, m1, fun _ => rfl, by simp only; omega⟩
  ·exact ⟨by decide, ⟨by decide, by decide⟩, fun _ => rfl, by decide⟩
  ·exact ⟨by decide, ⟨by decide, by decide⟩, fun _ => rfl, by decide⟩
  ·exact ⟨by decide, ⟨by decide, by decide⟩, fun _ => rfl, by decide⟩
  ·exact ⟨by decide, ⟨by decide, by decide⟩, fun _ => rfl, by decide⟩
  ·exact ⟨by simp only; omega, m2, fun h => absurd rfl h, by simp only; omega⟩
  ·exact ⟨by decide, ⟨by decide, by decide⟩, fun _ => rfl, by decide⟩
 ·have l0 := declW_len k0
  have l1 := declW_len k1
  have l2 := declW_len 2
  have l3 := declW_len 3
  have l4 := declW_len 4
  have l5 := declW_len 5
  have l6 := declW_len 6
  have hdg : (Lib.decDigits q).length = 1 := by rw [digits1 (show q < 10 by omega)]; rfl
  have hd0 : (Lib.decDigits 0).length = 1 := by rw [digits1 (show 0 < 10 by omega)]; rfl
  have n0 : ¬ k0 = 6 := by omega
  have n1 : ¬ k1 = 6 := by omega
  simp only [dsOf, dtL, dtx, n0, n1, if_false, if_true, Int.reduceEq, List.length_append, List.length_cons, List.length_nil]
  omega
theorem acts_eq (l : List Act5) : m_suturehand_acts n (l.map Act5.t) = some ((l.take 16).map Act5.t) := by
 unfold m_suturehand_acts
 rw [List.length_map]
 by_cases h : 16 < l.length
 ·rw [decide_eq_true (show (((l.length : Nat) : Int) : Int) > 16 by omega), cond_true, must_eq (by simp only [Bool.and_eq_true, decide_eq_true_eq]; exact ⟨⟨⟨by omega, by omega⟩, by omega⟩, sized_act _⟩), show Int.toNat 16 = 16 from rfl, show Int.toNat 0 = 0 from rfl, List.drop_zero, List.map_take]
 ·rw [decide_eq_false (show ¬ (((l.length : Nat) : Int) : Int) > 16 by omega), cond_false, List.take_of_length_le (by omega)]
theorem stmts_eq (hn : 100000 < n) (l : List Act5) (most : Int) : ∃ out x, m_suturehand_stmts n ((l.take 16).map Act5.t) most 1 = some (encSL pl0 out, x) /\ okL out 1 /\ (txL out 1).length <= 960 := by
 have hl : (l.take 16).length <= 16 := by simp only [List.length_take]; omega
 obtain ⟨out, r, h1, h2, _, _, h3⟩ := (st_ok hn n).st (l.take 16) most 1 hl (by omega) (by omega)
 exact ⟨out, _, h1, h2, by omega⟩
theorem prog_step (hn : 100000 < n) (k : (List T) × Int × (List T) × (List T) × (List T) × Int × (List T) × (List T) × (List T) × (List T) -> Option ((List T) × (List T) × (List T) × (List T))) (a b c : List Act5) (most : Int) (i : Nat) (hi : i = 0 \/ i = 1 \/ (i = 2 /\ c ≠ [] /\ most <= 4)) (x y z : List T) (acc : List (List St)) (ha : acc.length <= 10) :
  ∃ out, l_suturehand_Prog_3_B n k (c.map Act5.t, most, a.map Act5.t, b.map Act5.t, c.map Act5.t, (i : Int), x, y, z, acc.map (encT pl0)) = k (c.map Act5.t, most, a.map Act5.t, b.map Act5.t, c.map Act5.t, ((i + 1 : Nat) : Int), x, y, z, (acc ++ [out]).map (encT pl0)) /\ okL out 1 /\ (txL out 1).length <= 960 := by
 have hl : (acc.map (encT pl0)).length <= 6001 := by rw [List.length_map]; omega
 unfold l_suturehand_Prog_3_B
 simp only
 rcases hi with rfl | rfl | ⟨rfl, hc, hm⟩
 ·obtain ⟨out, r, h1, h2, h3⟩ := stmts_eq (n := n) hn a most
  refine ⟨out, ?_, h2, h3⟩
  rw [show (decide ((((0 : Nat) : Int) : Int) < 3)) = true from rfl, cond_true, show idx1 true (.list) [(T.list (a.map Act5.t)), (T.list (b.map Act5.t)), (T.list (c.map Act5.t))] ((0 : Nat) : Int) = some (T.list (a.map Act5.t)) from rfl, Option.bind_some, show ((((0 : Nat) : Int) : Int) == 2) = false from rfl, cond_false, cond_false, show (T.list (a.map Act5.t)).lst = a.map Act5.t from rfl, acts_eq, Option.bind_some, h1, Option.bind_some, fitT _ _ hl, List.map_append]
  rfl
 ·obtain ⟨out, r, h1, h2, h3⟩ := stmts_eq (n := n) hn b most
  refine ⟨out, ?_, h2, h3⟩
  rw [show (decide ((((1 : Nat) : Int) : Int) < 3)) = true from rfl, cond_true, show idx1 true (.list) [(T.list (a.map Act5.t)), (T.list (b.map Act5.t)), (T.list (c.map Act5.t))] ((1 : Nat) : Int) = some (T.list (b.map Act5.t)) from rfl, Option.bind_some, show ((((1 : Nat) : Int) : Int) == 2) = false from rfl, cond_false, cond_false, show (T.list (b.map Act5.t)).lst = b.map Act5.t from rfl, acts_eq, Option.bind_some, h1, Option.bind_some, fitT _ _ hl, List.map_append]
  rfl
 ·obtain ⟨out, r, h1, h2, h3⟩ := stmts_eq (n := n) hn c most
  refine ⟨out, ?_, h2, h3⟩
  have hcl : ((((List.length (c.map Act5.t) : Nat) : Int) : Int) == 0) = false := by
   rw [beq_eq_false_iff_ne, List.length_map]
   intro h
   exact hc (List.eq_nil_of_length_eq_zero (by omega))
  rw [show (decide ((((2 : Nat) : Int) : Int) < 3)) = true from rfl, cond_true, show idx1 true (.list) [(T.list (a.map Act5.t)), (T.list (b.map Act5.t)), (T.list (c.map Act5.t))] ((2 : Nat) : Int) = some (T.list (c.map Act5.t)) from rfl, Option.bind_some, show ((((2 : Nat) : Int) : Int) == 2) = true from rfl, cond_true, hcl, cond_false, decide_eq_false (show ¬ most > 4 by omega), cond_false, show (T.list (c.map Act5.t)).lst = c.map Act5.t from rfl, acts_eq, Option.bind_some, h1, Option.bind_some, fitT _ _ hl, List.map_append]
  rfl
theorem make_eq (hn : 100000 < n) (how : Int) (a b c : List Act5) (most : Int) : ∃ ds tl, m_suturehand_Prog n how (a.map Act5.t) (b.map Act5.t) (c.map Act5.t) most = some (ds.map (encD pl0), tl.map (encT pl0)) /\ okDL ds /\ ds.length = 8 /\ (dtL ds).length <= 100 /\ okTL tl /\ (tl.length = 2 \/ (tl.length = 3 /\ c ≠ [] /\ most <= 4)) /\ (ttL tl).length <= 3000 := by
 obtain ⟨ds, h1, h2, h3, h4⟩ := decls_eq (n := n) how
 unfold m_suturehand_Prog
 rw [h1, Option.bind_some]
 obtain ⟨j, hj⟩ : ∃ j, n = j + 4 := ⟨n - 4, by omega⟩
 have wg : wGo.length = 2 := rfl
 obtain ⟨o1, e1, f1, g1⟩ := prog_step hn (l_suturehand_Prog_3 n (j + 3)) a b c most 0 (.inl rfl) [] [] (ds.map (encD pl0)) [] (by simp)
 obtain ⟨o2, e2, f2, g2⟩ := prog_step hn (l_suturehand_Prog_3 n (j + 2)) a b c most 1 (.inr (.inl rfl)) [] [] (ds.map (encD pl0)) [o1] (by simp)
 have hst : l_suturehand_Prog_3 n n (c.map Act5.t, most, a.map Act5.t, b.map Act5.t, c.map Act5.t, 0, [], [], ds.map (encD pl0), []) = l_suturehand_Prog_3_B n (l_suturehand_Prog_3 n (j + 1)) (c.map Act5.t, most, a.map Act5.t, b.map Act5.t, c.map Act5.t, ((2 : Nat) : Int), [], [], ds.map (encD pl0), [o1, o2].map (encT pl0)) := by
  rw [show l_suturehand_Prog_3 n n = l_suturehand_Prog_3 n (j + 4) by rw [<- hj]]
  refine Eq.trans (show _ = l_suturehand_Prog_3_B n (l_suturehand_Prog_3 n (j + 3)) _ from rfl) (e1.trans ?_)
  refine Eq.trans (show _ = l_suturehand_Prog_3_B n (l_suturehand_Prog_3 n (j + 2)) _ from rfl) (e2.trans ?_)
  rfl
 rw [hst]
 by_cases hc : c ≠ [] /\ most <= 4
 ·obtain ⟨o3, e3, f3, g3⟩ := prog_step hn (l_suturehand_Prog_3 n (j + 1)) a b c most 2 (.inr (.inr ⟨rfl, hc⟩)) [] [] (ds.map (encD pl0)) [o1, o2] (by simp)
  have e4 : l_suturehand_Prog_3 n (j + 1) (c.map Act5.t, most, a.map Act5.t, b.map Act5.t, c.map Act5.t, ((2 + 1 : Nat) : Int), [], [], ds.map (encD pl0), ([o1, o2] ++ [o3]).map (encT pl0)) = some ([], [], ds.map (encD pl0), ([o1, o2] ++ [o3]).map (encT pl0)) := rfl
  rw [e3, e4, Option.bind_some]
  refine ⟨ds, [o1, o2] ++ [o3], rfl, h2, h3, h4, ?_, .inr ⟨rfl, hc⟩, ?_⟩
  ·intro t ht
   simp only [List.cons_append, List.nil_append, List.mem_cons, List.not_mem_nil, or_false] at ht
   rcases ht with rfl | rfl | rfl
   ·exact f1
   ·exact f2
   ·exact f3
  ·simp only [List.cons_append, List.nil_append, ttL, List.length_append, List.length_cons, List.length_nil]; omega
 ·have e3 : l_suturehand_Prog_3_B n (l_suturehand_Prog_3 n (j + 1)) (c.map Act5.t, most, a.map Act5.t, b.map Act5.t, c.map Act5.t, ((2 : Nat) : Int), [], [], ds.map (encD pl0), [o1, o2].map (encT pl0)) = some ([], [], ds.map (encD pl0), [o1, o2].map (encT pl0)) := by
   unfold l_suturehand_Prog_3_B
   simp only
   have hq : (bif ((((List.length (c.map Act5.t) : Nat) : Int) : Int) == 0) then true else (decide ((most : Int) > 4))) = true := by
    by_cases hz : c = []
    ·rw [hz]; rfl
    ·have : most > 4 := by
      refine Classical.byContradiction fun h => hc ⟨hz, by omega⟩
     rw [decide_eq_true this]
     cases ((((List.length (c.map Act5.t) : Nat) : Int) : Int) == 0) <;> rfl
   rw [show (decide ((((2 : Nat) : Int) : Int) < 3)) = true from rfl, cond_true, show idx1 true (.list) [(T.list (a.map Act5.t)), (T.list (b.map Act5.t)), (T.list (c.map Act5.t))] ((2 : Nat) : Int) = some (T.list (c.map Act5.t)) from rfl, Option.bind_some, show ((((2 : Nat) : Int) : Int) == 2) = true from rfl, cond_true, hq, cond_true]
  rw [e3, Option.bind_some]
  refine ⟨ds, [o1, o2], rfl, h2, h3, h4, ?_, .inl rfl, ?_⟩
  ·intro t ht
   simp only [List.mem_cons, List.not_mem_nil, or_false] at ht
   rcases ht with rfl | rfl
   ·exact f1
   ·exact f2
  ·simp only [ttL, List.length_append, List.length_cons, List.length_nil]; omega
end
theorem stripL_nil {l : List St} : stripL l = [] ↔ l = [] := by
 cases l with
 | nil => simp [stripL]
 | cons x l => simp [stripL]
mutual
theorem okS_strip : ∀ (s : St) (d : Nat), okS s.strip d ↔ okS s d
 | .mk k n o m e body els p, d => by simp only [St.strip, okS, okL_strip body (d + 1), okL_strip els (d + 1), stripL_nil]
theorem okL_strip : ∀ (l : List St) (d : Nat), okL (stripL l) d ↔ okL l d
 | [], d => by simp only [stripL]
 | s :: l, d => by simp only [stripL, okL, okS_strip s d, okL_strip l d]
end
mutual
theorem tx_strip : ∀ (s : St) (d : Nat), tx s.strip d = tx s d
 | .mk k n o m e body els p, d => by
  have hb := txL_strip body (d + 1)
  have he := txL_strip els (d + 1)
  cases els with
  | nil => simp only [St.strip, stripL, tx, hb]
  | cons y els =>
   simp only [stripL] at he
   simp only [St.strip, stripL, tx, hb, he]
theorem txL_strip : ∀ (l : List St) (d : Nat), txL (stripL l) d = txL l d
 | [], d => by simp only [stripL]
 | s :: l, d => by simp only [stripL, txL, tx_strip s d, txL_strip l d]
end
theorem ok_same {a b : List St} (h : stripL a = stripL b) {d : Nat} (hb : okL b d) : okL a d /\ (txL a d).length = (txL b d).length := by
 refine ⟨(okL_strip a d).1 (by rw [h]; exact (okL_strip b d).2 hb), ?_⟩
 rw [<- txL_strip a d, h, txL_strip b d]
abbrev Pc := List UInt8 × List Bk
def ptx (l : List Pc) : List UInt8 := (l.map Prod.fst).flatten
def ptk (l : List Pc) : List Bk := (l.map Prod.snd).flatten
def lnT (u : List UInt8) : Prop := ∃ w, u = w ++ [10] /\ (10 : UInt8) ∉ w
def okP (p : Pc) : Prop := Lx0 p.1 p.2 /\ lnT p.1
theorem ptx_cons (p : Pc) (l : List Pc) : ptx (p :: l) = p.1 ++ ptx l := by simp [ptx]
theorem ptk_cons (p : Pc) (l : List Pc) : ptk (p :: l) = p.2 ++ ptk l := by simp [ptk]
theorem ptx_append (l k : List Pc) : ptx (l ++ k) = ptx l ++ ptx k := by simp [ptx]
theorem ptk_append (l k : List Pc) : ptk (l ++ k) = ptk l ++ ptk k := by simp [ptk]
theorem isLD_ne {c : UInt8} (h : isLD c = true) : c ≠ 10 := by rintro rfl; exact absurd h (by decide)
theorem word_no {w : List UInt8} (h : wordB w = true) : (10 : UInt8) ∉ w := by
 cases w with
 | nil => simp
 | cons c w =>
  simp only [wordB, Bool.and_eq_true] at h
  intro hm
  exact isLD_ne (List.all_eq_true.1 h.1.2 10 hm) rfl
theorem dec_no (n : Nat) : (10 : UInt8) ∉ Lib.decDigits n := by
 intro h
 exact isLD_ne (isLD_D ((val_dec n).2.1 10 h)) rfl
theorem sgn_no {k : Int} (h : isOp k = true) : (10 : UInt8) ∉ sgn k := by
 rcases op_cases h with rfl | rfl | rfl | rfl | rfl | rfl | rfl <;> decide
theorem bs_no : ∀ {e : E} {l : Nat}, saneE e -> (10 : UInt8) ∉ bs e l
 | .num n, l, h => dec_no n
 | .name w, l, h => word_no h
 | .neg e, l, h => by
  have := bs_no (e := e) (l := 3) h
  simp only [bs, List.mem_cons, not_or]
  exact ⟨by decide, this⟩
 | .bin k a b, l, h => by
  obtain ⟨hk, ha, hb⟩ := h
  have h1 := bs_no (e := a) (l := left k) ha
  have h2 := bs_no (e := b) (l := lvl k + 1) hb
  have h3 := sgn_no hk
  have e1 : ¬ ((10 : UInt8) = 32) := by decide
  have e2 : ¬ ((10 : UInt8) = 40) := by decide
  have e3 : ¬ ((10 : UInt8) = 41) := by decide
  unfold bs
  split
  ·simp only [List.mem_cons, List.mem_append, List.not_mem_nil, h1, h2, h3, e1, e2, e3, or_self, or_false, not_false_eq_true]
  ·simp only [List.mem_cons, List.mem_append, h1, h2, h3, e1, or_self, not_false_eq_true]
theorem bsO_no {e : Option E} (h : okE e) : (10 : UInt8) ∉ bsO e := by
 cases e with
 | none => exact h.elim
 | some x => exact bs_no h.1
theorem tabs_no (d : Nat) : (10 : UInt8) ∉ tabsL d := by
 intro h
 exact absurd (List.eq_of_mem_replicate h) (by decide)
theorem one_line {u : List UInt8} {us : List Bk} (h : Lx u us) (hn : (10 : UInt8) ∉ u) (d : Nat) : okP (tabsL d ++ (u ++ [10]), us) := by
 refine ⟨?_, tabsL d ++ u, by simp, ?_⟩
 ·have h2 := h.append0 (c := 10) (v := []) (by decide) (bl (by decide) Lx0.nil)
  rw [List.append_nil] at h2
  exact tabs0 h2 d
 ·simp only [List.mem_append, tabs_no d, hn, or_self, not_false_eq_true]
theorem bra_line {u : List UInt8} {us : List Bk} (h : Lx u us) (hn : (10 : UInt8) ∉ u) (d : Nat) : okP (tabsL d ++ (u ++ [32, 123, 10]), us ++ [sgT 123]) := by
 have h2 : Lx (u ++ [32, 123]) (us ++ [sgT 123]) := (h.append0 (c := 32) (by decide) (bl (by decide) (sg (by decide) (by decide) Lx0.nil))).to
 have := one_line h2 (by simp only [List.mem_append, List.mem_cons, List.not_mem_nil, hn, show ¬ ((10 : UInt8) = 32) by decide, show ¬ ((10 : UInt8) = 123) by decide, or_self, or_false, not_false_eq_true]) d
 simpa [List.append_assoc] using this
theorem end_line (d : Nat) : okP (tabsL d ++ [125, 10], [sgT 125]) := by
 have := one_line (u := [125]) (us := [sgT 125]) (Lx0.sign (c := 125) (by decide) (by decide)).to (by decide) d
 rwa [List.singleton_append] at this
mutual
theorem ln_S : ∀ (s : St) {d : Nat} (D : Nat), okS s d -> ∃ ps, (∀ p ∈ ps, okP p) /\ ptx ps = tabsL D ++ (tx s D ++ [10]) /\ ptk ps = tkS s
 | .mk k n o m e body els p, d, D, h => by
  have hx := lx_S (.mk k n o m e body els p) D h
  unfold okS at h
  have e1 : ¬ ((10 : UInt8) = 32) := by decide
  have e2 : ¬ ((10 : UInt8) = 61) := by decide
  have simple : (10 : UInt8) ∉ tx (.mk k n o m e body els p) D -> ∃ ps, (∀ p ∈ ps, okP p) /\ ptx ps = tabsL D ++ (tx (.mk k n o m e body els p) D ++ [10]) /\ ptk ps = tkS (.mk k n o m e body els p) := fun hn =>
   ⟨[(tabsL D ++ (tx (.mk k n o m e body els p) D ++ [10]), tkS (.mk k n o m e body els p))], by intro q hq; simp only [List.mem_singleton] at hq; subst hq; exact one_line hx hn D, by simp [ptx], by simp [ptk]⟩
  split at h
  ·rename_i hk
   subst hk
   refine simple ?_
   simp only [tx, if_true, List.mem_append, List.mem_cons, word_no h.1.1, bsO_no h.2.2.2.1, e1, e2, or_self, not_false_eq_true]
  rename_i h1
  split at h
  ·rename_i hk
   refine simple ?_
   rcases hk with rfl | rfl | rfl | rfl
   ·simp only [tx, Int.reduceEq, if_false, if_true, List.mem_append, List.mem_cons, word_no h.1.1, word_no (show wordB wLock = true by decide), e1, or_self, not_false_eq_true]
   ·simp only [tx, Int.reduceEq, if_false, if_true, List.mem_append, List.mem_cons, word_no h.1.1, word_no (show wordB wUnlock = true by decide), e1, or_self, not_false_eq_true]
   ·simp only [tx, Int.reduceEq, if_false, if_true, List.mem_append, List.mem_cons, word_no h.1.1, word_no (show wordB wGoto = true by decide), e1, or_self, not_false_eq_true]
   ·simp only [tx, Int.reduceEq, if_false, if_true, List.mem_append, List.mem_cons, word_no h.1.1, word_no (show wordB wLabel = true by decide), e1, or_self, not_false_eq_true]
  split at h
  ·rename_i hk
   subst hk
   refine simple ?_
   simp only [tx, Int.reduceEq, if_false, if_true, List.mem_append, List.mem_cons, word_no h.1.1, bsO_no h.2.2.2.1, word_no (show wordB wSend = true by decide), e1, or_self, not_false_eq_true]
  split at h
  ·rename_i hk
   subst hk
   refine simple ?_
   simp only [tx, Int.reduceEq, if_false, if_true, List.mem_append, List.mem_cons, word_no h.1.1, word_no h.2.1.1, word_no (show wordB wRecv = true by decide), e1, or_self, not_false_eq_true]
  split at h
  ·rename_i hk
   subst hk
   refine simple ?_
   simp only [tx, Int.reduceEq, if_false, if_true, List.mem_append, List.mem_cons, bsO_no h.2.2.2.1, word_no (show wordB wPrint = true by decide), e1, or_self, not_false_eq_true]
  split at h
  ·rename_i hk
   subst hk
   obtain ⟨_, _, _, he, _, hB, hF⟩ := h
   obtain ⟨pb, b1, b2, b3⟩ := ln_L body (D + 1) hB
   have hl := bra_line (wd (w := wIf) (by decide) (eO he)) (by simp only [List.mem_append, List.mem_cons, bsO_no he, word_no (show wordB wIf = true by decide), e1, or_self, not_false_eq_true]) D
   cases els with
   | nil =>
    refine ⟨(tabsL D ++ (wIf ++ 32 :: bsO e ++ [32, 123, 10]), nmT wIf :: prO e ++ [sgT 123]) :: (pb ++ [(tabsL D ++ [125, 10], [sgT 125])]), ?_, ?_, ?_⟩
    ·intro q hq
     simp only [List.mem_cons, List.mem_append, List.not_mem_nil, or_false] at hq
     rcases hq with rfl | hq | rfl
     ·exact hl
     ·exact b1 q hq
     ·exact end_line D
    ·rw [ptx_cons, ptx_append, b2]
     simp [ptx, tx]
    ·rw [ptk_cons, ptk_append, b3]
     simp [ptk, tkS]
   | cons y els =>
    obtain ⟨pf, f1, f2, f3⟩ := ln_L (y :: els) (D + 1) hF
    have hm : okP (tabsL D ++ ((125 : UInt8) :: 32 :: wElse ++ [32, 123, 10]), [sgT 125, nmT wElse] ++ [sgT 123]) :=
     bra_line (sg (c := 125) (by decide) (by decide) (bl (c := 32) (by decide) Lx0.nil) |>.append (Lx.word (w := wElse) (by decide))) (by decide) D
    refine ⟨(tabsL D ++ (wIf ++ 32 :: bsO e ++ [32, 123, 10]), nmT wIf :: prO e ++ [sgT 123]) :: (pb ++ (tabsL D ++ ((125 : UInt8) :: 32 :: wElse ++ [32, 123, 10]), [sgT 125, nmT wElse] ++ [sgT 123]) :: (pf ++ [(tabsL D ++ [125, 10], [sgT 125])])), ?_, ?_, ?_⟩
    ·intro q hq
     simp only [List.mem_cons, List.mem_append, List.not_mem_nil, or_false] at hq
     rcases hq with rfl | hq | rfl | hq | rfl
     ·exact hl
     ·exact b1 q hq
     ·exact hm
     ·exact f1 q hq
     ·exact end_line D
    ·rw [ptx_cons, ptx_append, b2, ptx_cons, ptx_append, f2]
     simp [ptx, tx]
    ·rw [ptk_cons, ptk_append, b3, ptk_cons, ptk_append, f3]
     simp [ptk, tkS, tkL]
  split at h
  ·rename_i hk
   subst hk
   obtain ⟨_, _, hm, _, _, hB, _⟩ := h
   obtain ⟨pb, b1, b2, b3⟩ := ln_L body (D + 1) hB
   have hl := bra_line (wd (w := wRepeat) (by decide) (Lx.num (n := m) (by omega))) (by simp only [List.mem_append, List.mem_cons, dec_no m, word_no (show wordB wRepeat = true by decide), e1, or_self, not_false_eq_true]) D
   refine ⟨(tabsL D ++ (wRepeat ++ 32 :: Lib.decDigits m ++ [32, 123, 10]), [nmT wRepeat, (2, Lib.decDigits m, m)] ++ [sgT 123]) :: (pb ++ [(tabsL D ++ [125, 10], [sgT 125])]), ?_, ?_, ?_⟩
   ·intro q hq
    simp only [List.mem_cons, List.mem_append, List.not_mem_nil, or_false] at hq
    rcases hq with rfl | hq | rfl
    ·exact hl
    ·exact b1 q hq
    ·exact end_line D
   ·rw [ptx_cons, ptx_append, b2]
    simp [ptx, tx]
   ·rw [ptk_cons, ptk_append, b3]
    rw [show ptk [((tabsL D ++ [125, 10], [sgT 125]) : Pc)] = [sgT 125] from rfl]
    unfold tkS
    simp only [Int.reduceEq, if_false, if_true, List.cons_append, List.nil_append]
  ·exact h.elim
theorem ln_L : ∀ (l : List St) {d : Nat} (D : Nat), okL l d -> ∃ ps, (∀ p ∈ ps, okP p) /\ ptx ps = txL l D /\ ptk ps = tkL l
 | [], d, D, _ => ⟨[], by simp, by simp [ptx, txL], by simp [ptk, tkL]⟩
 | s :: r, d, D, h => by
  simp only [okL] at h
  obtain ⟨p1, a1, a2, a3⟩ := ln_S s D h.1
  obtain ⟨p2, b1, b2, b3⟩ := ln_L r D h.2
  refine ⟨p1 ++ p2, ?_, ?_, ?_⟩
  ·intro q hq
   rcases List.mem_append.1 hq with hq | hq
   ·exact a1 q hq
   ·exact b1 q hq
  ·rw [ptx_append, a2, b2]
   simp [txL]
  ·rw [ptk_append, a3, b3]
   simp [tkL]
end
theorem ln_DL : ∀ {l : List Dc}, okDL l -> ∃ ps, (∀ p ∈ ps, okP p) /\ ptx ps = dtL l /\ ptk ps = tkDL l
 | [], _ => ⟨[], by simp, by simp [ptx, dtL], by simp [ptk, tkDL]⟩
 | d :: r, h => by
  obtain ⟨p2, b1, b2, b3⟩ := ln_DL (l := r) (fun x hx => h x (by simp [hx]))
  have hd := h d (by simp)
  have hn : (10 : UInt8) ∉ dtx d := by
   unfold dtx
   split
   ·simp only [List.mem_append, List.mem_cons, word_no (declW_word hd.1).1, word_no hd.2.1.1, dec_no, show ¬ ((10 : UInt8) = 32) by decide, or_self, not_false_eq_true]
   ·simp only [List.mem_append, List.mem_cons, List.not_mem_nil, word_no (declW_word hd.1).1, word_no hd.2.1.1, show ¬ ((10 : UInt8) = 32) by decide, or_self, not_false_eq_true]
  have h1 := one_line (lx_D hd) hn 0
  rw [show tabsL 0 = [] from rfl, List.nil_append] at h1
  refine ⟨(dtx d ++ [10], tkD d) :: p2, ?_, ?_, ?_⟩
  ·intro q hq
   rcases List.mem_cons.1 hq with rfl | hq
   ·exact h1
   ·exact b1 q hq
  ·rw [ptx_cons, b2]; simp [dtL]
  ·rw [ptk_cons, b3]; simp [tkDL]
theorem ln_TL : ∀ {l : List (List St)}, okTL l -> ∃ ps, (∀ p ∈ ps, okP p) /\ ptx ps = ttL l /\ ptk ps = tkTL l
 | [], _ => ⟨[], by simp, by simp [ptx, ttL], by simp [ptk, tkTL]⟩
 | t :: r, h => by
  obtain ⟨p2, b1, b2, b3⟩ := ln_TL (l := r) (fun x hx => h x (by simp [hx]))
  obtain ⟨p1, a1, a2, a3⟩ := ln_L t 1 (h t (by simp))
  have h0 := bra_line (u := wGo) (Lx.word (by decide)) (by decide) 0
  rw [show tabsL 0 = [] from rfl, List.nil_append] at h0
  have h9 := end_line 0
  rw [show tabsL 0 = [] from rfl, List.nil_append] at h9
  refine ⟨(wGo ++ [32, 123, 10], [nmT wGo] ++ [sgT 123]) :: (p1 ++ ([125, 10], [sgT 125]) :: p2), ?_, ?_, ?_⟩
  ·intro q hq
   simp only [List.mem_cons, List.mem_append] at hq
   rcases hq with rfl | hq | rfl | hq
   ·exact h0
   ·exact a1 q hq
   ·exact h9
   ·exact b1 q hq
  ·rw [ptx_cons, ptx_append, a2, ptx_cons, b2]; simp [ttL]
  ·rw [ptk_cons, ptk_append, a3, ptk_cons, b3]; simp [tkTL]
theorem ln_P {ds : List Dc} {tl : List (List St)} (hd : okDL ds) (ht : okTL tl) : ∃ ps, (∀ p ∈ ps, okP p) /\ ptx ps = dtL ds ++ ttL tl /\ ptk ps = tkDL ds ++ tkTL tl := by
 obtain ⟨p1, a1, a2, a3⟩ := ln_DL hd
 obtain ⟨p2, b1, b2, b3⟩ := ln_TL ht
 refine ⟨p1 ++ p2, ?_, by rw [ptx_append, a2, b2], by rw [ptk_append, a3, b3]⟩
 intro q hq
 rcases List.mem_append.1 hq with hq | hq
 ·exact a1 q hq
 ·exact b1 q hq
def gapB (q : Int) : List UInt8 := if q = 0 then [] else if q = 1 then [10] else if q = 2 then [35, 32, 103, 111, 32, 123, 10] else [9, 32, 10, 35, 10]
theorem Lx0.note {w : List UInt8} (h : (10 : UInt8) ∉ w) : Lx0 (35 :: (w ++ [10])) [] := by
 intro rest p acc
 refine ⟨[], rfl, by simp, ?_⟩
 have ht : ((w ++ [10]) ++ rest).dropWhile (· != 10) = 10 :: rest := by
  rw [List.append_assoc]
  clear acc p
  induction w with
  | nil => simp
  | cons c w ih =>
   simp only [List.mem_cons, not_or] at h
   rw [List.cons_append, List.dropWhile_cons_of_pos (by simp only [bne_iff_ne]; exact fun e => h.1 e.symm), ih h.2]
 have htk : ((w ++ [10]) ++ rest).takeWhile (· != 10) = w := by
  rw [List.append_assoc]
  clear acc p ht
  induction w with
  | nil => simp
  | cons c w ih =>
   simp only [List.mem_cons, not_or] at h
   rw [List.cons_append, List.takeWhile_cons_of_pos (by simp only [bne_iff_ne]; exact fun e => h.1 e.symm), ih h.2]
 rw [List.cons_append, lexR_note, ht, htk, lexR_blank (by decide), List.append_nil]
 congr 1
 simp only [List.length_cons, List.length_append, List.length_nil]
 omega
theorem gap_lx (q : Int) : Lx0 (gapB q) [] := by
 unfold gapB
 split
 ·exact Lx0.nil
 ·split
  ·exact Lx0.blank (by decide)
  ·split
   ·exact Lx0.note (w := [32, 103, 111, 32, 123]) (by decide)
   ·exact bl (by decide) (bl (by decide) (bl (by decide) (Lx0.note (w := []) (by decide))))
theorem read_Tg : ∀ (tl acc : List (List St)) (ts rest : List Tok), okTL tl -> acc.length + tl.length <= 4 -> ts.map Tok.bare = tkTL tl -> ∃ tl', thr acc (ts ++ rest) = thr (acc ++ tl') rest /\ tl'.map stripL = tl.map stripL
 | [], acc, ts, rest, _, _, ht => by
  obtain rfl := map_nil' ht
  exact ⟨[], by rw [List.nil_append, List.append_nil], rfl⟩
 | l :: tl, acc, ts, rest, hok, hl, ht => by
  simp only [List.length_cons] at hl
  simp only [tkTL] at ht
  have hq := map_cons' ht
  clear ht
  obtain ⟨t, ts, rfl, h1, ht⟩ := hq
  have hq := map_cons' ht
  clear ht
  obtain ⟨t1, ts, rfl, h2, ht⟩ := hq
  have hq := map_split ht
  clear ht
  obtain ⟨tb, ts, rfl, h3, ht⟩ := hq
  have hq := map_cons' ht
  clear ht
  obtain ⟨t2, ts, rfl, h4, ht⟩ := hq
  have hb := bare_nm h1
  obtain ⟨l', e1, e2⟩ := read_L l (d := 0) (hok l (by simp)) (ts := tb) (rest := ts ++ rest) [] h3 h4
  have eB : blk 0 (t1 :: (tb ++ t2 :: ts) ++ rest) = .ok l' (ts ++ rest) := by
   rw [List.cons_append, blk_cons _ _ _ (by omega), if_pos (isSign_sg h2)]
   simpa [List.append_assoc] using e1
  obtain ⟨tl', f1, f2⟩ := read_Tg tl (acc ++ [l']) ts rest (fun x hx => hok x (by simp [hx])) (by simp only [List.length_append, List.length_cons, List.length_nil]; omega) ht
  refine ⟨l' :: tl', ?_, ?_⟩
  ·rw [List.cons_append, thr_eq, if_neg (fun h => by rw [hb.1] at h; exact absurd h.2 (by decide)), if_neg (by omega), if_pos (by rw [h1]; rfl), eB]
   simp only
   rw [if_pos (by simp only [List.length_append, List.length_cons]; omega), f1, List.append_assoc]
   rfl
  ·rw [List.map_cons, List.map_cons, f2]
   rw [List.nil_append] at e2
   rw [e2]
theorem endD_T {tl : List (List St)} (hne : tl ≠ []) {t2 rest : List Tok} (g2 : t2.map Tok.bare = tkTL tl) : endD (t2 ++ rest) := by
 cases tl with
 | nil => exact absurd rfl hne
 | cons x tl =>
  simp only [tkTL] at g2
  have hq := map_cons' g2
  obtain ⟨t, ts, rfl, h3, _⟩ := hq
  have hb := bare_nm h3
  exact ⟨t, _, rfl, fun h => h.2 (by rw [hb.2]; decide)⟩
theorem read_Pg {u : List UInt8} {ds : List Dc} {tl : List (List St)} (hx : Lx0 u (tkDL ds ++ tkTL tl)) (hd : okDL ds) (h24 : ds.length <= 24) (ht : okTL tl) (h4 : tl.length <= 4) (hne : tl ≠ []) :
  ∃ l ds' tl', lexR u 0 [] = .ok l /\ prg (l ++ [endT u]) = .ok ds' tl' /\ ds'.map Dc.strip = ds.map Dc.strip /\ tl'.map stripL = tl.map stripL := by
 obtain ⟨l, h1, h2⟩ := hx.to.all
 have hq := map_split h1
 obtain ⟨t1, t2, rfl, g1, g2⟩ := hq
 obtain ⟨ds', e1, e2⟩ := read_D ds [] t1 (t2 ++ [endT u]) hd (by simpa using h24) g1 (endD_T hne g2)
 obtain ⟨tl', f1, f2⟩ := read_T tl [] t2 (endT u) ht (by simpa using h4) (by simpa using hne) g2 rfl
 refine ⟨t1 ++ t2, ds', tl', h2, ?_, e2, f2⟩
 unfold prg
 rw [List.append_assoc, e1]
 simp only
 rw [f1]
 rfl
theorem read_Pw {u w : List UInt8} {t : Tok} {ds : List Dc} {tl : List (List St)} (hx : Lx0 u (tkDL ds ++ tkTL tl)) (hd : okDL ds) (h24 : ds.length <= 24) (ht : okTL tl) (h4 : tl.length <= 4) (hne : tl ≠ [])
  (hw : ∀ acc, lexR w u.length acc = .ok (acc ++ [t])) (hk : t.kind ≠ 4) (hg : isWord wGo t.bare = false) :
  ∃ l, lexR (u ++ w) 0 [] = .ok l /\ prg (l ++ [endT (u ++ w)]) = .bad (t :: [endT (u ++ w)]) := by
 obtain ⟨l, h1, _, h2⟩ := hx w 0 []
 rw [Nat.zero_add, List.nil_append, hw] at h2
 have hq := map_split h1
 obtain ⟨t1, t2, rfl, g1, g2⟩ := hq
 refine ⟨_, h2, ?_⟩
 obtain ⟨ds', e1, e2⟩ := read_D ds [] t1 (t2 ++ t :: [endT (u ++ w)]) hd (by simpa using h24) g1 (endD_T hne g2)
 obtain ⟨tl', f1, f2⟩ := read_Tg tl [] t2 (t :: [endT (u ++ w)]) ht (by simpa using h4) g2
 have hl : tl'.length = tl.length := by have := congrArg List.length f2; simpa using this
 unfold prg
 rw [show t1 ++ t2 ++ [t] ++ [endT (u ++ w)] = t1 ++ (t2 ++ t :: [endT (u ++ w)]) by simp, e1]
 simp only
 rw [f1, List.nil_append, thr_eq, if_neg (fun h => hk h.2)]
 by_cases h : tl'.length = 4
 ·rw [if_pos h]
 ·rw [if_neg h, if_neg (by rw [hg]; simp)]
theorem okTL_same : ∀ {a b : List (List St)}, a.map stripL = b.map stripL -> okTL b -> okTL a /\ (ttL a).length = (ttL b).length
 | [], [], _, _ => ⟨fun t ht => by simp at ht, rfl⟩
 | [], _ :: _, h, _ => by simp at h
 | _ :: _, [], h, _ => by simp at h
 | x :: a, y :: b, h, hb => by
  simp only [List.map_cons, List.cons.injEq] at h
  obtain ⟨h1, h2⟩ := okTL_same h.2 (fun t ht => hb t (by simp [ht]))
  obtain ⟨k1, k2⟩ := ok_same h.1 (hb y (by simp))
  refine ⟨fun t ht => ?_, ?_⟩
  ·rcases List.mem_cons.1 ht with rfl | ht
   ·exact k1
   ·exact h1 t ht
  ·simp only [ttL, List.length_append, List.length_cons]; omega
section
variable {n : Nat}
def lineT (p : Pc) : T := T.sc (.string (B p.1))
theorem ln_within (s : List UInt8) (acc : List T) (f : Int) : ∀ (w pre rest : List UInt8) (k : Nat), s = pre ++ (w ++ rest) -> (10 : UInt8) ∉ w -> s.length <= 100000 →
  l_sutureref1_Lines_4 n (k + w.length) (B s, acc, f, (pre.length : Int)) = l_sutureref1_Lines_4 n k (B s, acc, f, ((pre.length + w.length : Nat) : Int))
 | [], pre, rest, k, h, _, _ => rfl
 | c :: w, pre, rest, k, h, hn, hl => by
  simp only [List.mem_cons, not_or] at hn
  have hlen : s.length = pre.length + (w.length + 1 + rest.length) := by rw [h]; simp only [List.length_append, List.length_cons]
  have ih := ln_within s acc f w (pre ++ [c]) rest k (by rw [h]; simp) hn.2 hl
  rw [show k + (c :: w).length = (k + w.length) + 1 by simp only [List.length_cons]; omega]
  show l_sutureref1_Lines_4_B n (l_sutureref1_Lines_4 n (k + w.length)) (B s, acc, f, (pre.length : Int)) = _
  unfold l_sutureref1_Lines_4_B
  simp only
  have hb : bidx true (B s) (pre.length : Int) = some c := by
   rw [bidx_at (by rw [L_B]; omega)]
   simp only [L_B, h]
   simp
  rw [size_B, decide_eq_true (show (pre.length : Int) < ((s.length : Nat) : Int) by omega), cond_true, hb, Option.bind_some, beq_byte c 10 10 rfl, show (c == 10) = false from beq_eq_false_iff_ne.2 (fun e => hn.1 e.symm), cond_false, wrap_up (by omega)]
  rw [List.length_append, List.length_cons, List.length_nil] at ih
  rw [show pre.length + 1 = pre.length + (0 + 1) by omega, ih]
  congr 1
  simp only [List.length_cons]
  rw [show pre.length + (0 + 1) + w.length = pre.length + (w.length + 1) by omega]
theorem ln_piece (s : List UInt8) (acc : List T) {p pre rest : List UInt8} (hp : lnT p) (h : s = pre ++ (p ++ rest)) (hl : s.length <= 100000) (ha : acc.length <= 100000) (k : Nat) :
  l_sutureref1_Lines_4 n (k + p.length) (B s, acc, (pre.length : Int), (pre.length : Int)) = l_sutureref1_Lines_4 n k (B s, acc ++ [T.sc (.string (B p))], ((pre.length + p.length : Nat) : Int), ((pre.length + p.length : Nat) : Int)) := by
 obtain ⟨w, rfl, hn⟩ := hp
 have hlen : s.length = pre.length + (w.length + 1 + rest.length) := by rw [h]; simp only [List.length_append, List.length_cons, List.length_nil]
 rw [show k + (w ++ [(10 : UInt8)]).length = (k + 1) + w.length by simp only [List.length_append, List.length_cons, List.length_nil]; omega]
 rw [ln_within s acc _ w pre ([10] ++ rest) (k + 1) (by rw [h]; simp) hn hl]
 show l_sutureref1_Lines_4_B n (l_sutureref1_Lines_4 n k) (B s, acc, (pre.length : Int), ((pre.length + w.length : Nat) : Int)) = _
 unfold l_sutureref1_Lines_4_B
 simp only
 have hb : bidx true (B s) ((pre.length + w.length : Nat) : Int) = some 10 := by
  rw [bidx_at (by rw [L_B]; omega)]
  simp only [L_B, h]
  rw [List.getElem_append_right (by omega)]
  simp
 have hx : ByteArray.extract (B s) (Int.toNat ((pre.length : Nat) : Int)) (Int.toNat ((pre.length + w.length + 1 : Nat) : Int)) = B (w ++ [10]) := by
  rw [Int.toNat_natCast, Int.toNat_natCast, ext_B, L_B, h, List.drop_left, show pre.length + w.length + 1 - pre.length = (w ++ [10]).length by simp only [List.length_append, List.length_cons, List.length_nil]; omega, List.take_left]
 rw [size_B, decide_eq_true (show ((pre.length + w.length : Nat) : Int) < ((s.length : Nat) : Int) by omega), cond_true, hb, Option.bind_some, show ((((UInt8.toNat 10 : Nat) : Int) : Int) == 10) = true from rfl, cond_true, wrap_up (by omega)]
 rw [hx, must_eq (by simp only [Bool.and_eq_true, decide_eq_true_eq]; exact ⟨⟨by omega, by omega⟩, by omega⟩), must_eq (by rw [List.length_singleton, decide_eq_true (show acc.length + 1 <= 1073741824 by omega)]; rfl)]
 rw [show (w ++ [(10 : UInt8)]).length = w.length + 1 by simp, show pre.length + (w.length + 1) = pre.length + w.length + 1 by omega]
theorem ln_pieces (s : List UInt8) (hl : s.length <= 100000) : ∀ (ps : List Pc) (pre rest : List UInt8) (acc : List T) (k : Nat), (∀ p ∈ ps, lnT p.1) -> s = pre ++ (ptx ps ++ rest) -> acc.length + ps.length <= 100000 →
  l_sutureref1_Lines_4 n (k + (ptx ps).length) (B s, acc, (pre.length : Int), (pre.length : Int)) = l_sutureref1_Lines_4 n k (B s, acc ++ ps.map lineT, ((pre.length + (ptx ps).length : Nat) : Int), ((pre.length + (ptx ps).length : Nat) : Int))
 | [], pre, rest, acc, k, _, h, _ => by rw [List.map_nil, List.append_nil]; rfl
 | p :: ps, pre, rest, acc, k, hp, h, ha => by
  rw [ptx_cons] at h ⊢
  simp only [List.length_cons] at ha
  have h1 := ln_piece (n := n) s acc (hp p (by simp)) (pre := pre) (rest := ptx ps ++ rest) (by rw [h]; simp) hl (by omega) (k + (ptx ps).length)
  rw [List.length_append, show k + (p.1.length + (ptx ps).length) = k + (ptx ps).length + p.1.length by omega, h1]
  have ih := ln_pieces s hl ps (pre ++ p.1) rest (acc ++ [T.sc (.string (B p.1))]) k (fun q hq => hp q (by simp [hq])) (by rw [h]; simp) (by simp only [List.length_append, List.length_cons, List.length_nil]; omega)
  rw [List.length_append] at ih
  rw [ih, List.append_assoc, show pre.length + (p.1.length + (ptx ps).length) = pre.length + p.1.length + (ptx ps).length by omega]
  rfl
theorem ptx_len : ∀ {ps : List Pc}, (∀ p ∈ ps, lnT p.1) -> ps.length <= (ptx ps).length
 | [], _ => by simp
 | p :: ps, h => by
  have := ptx_len (ps := ps) (fun q hq => h q (by simp [hq]))
  obtain ⟨w, hw, _⟩ := h p (by simp)
  rw [ptx_cons, List.length_append, hw]
  simp only [List.length_cons, List.length_append, List.length_nil]
  omega
theorem linesR_eq (hn : 100000 < n) {ps : List Pc} (hp : ∀ p ∈ ps, lnT p.1) (hl : (ptx ps).length <= 90000) : m_sutureref1_Lines n (B (ptx ps)) = some (ps.map lineT) := by
 have h0 := ln_pieces (n := n) (ptx ps) (by omega) ps [] [] [] (n - (ptx ps).length) hp (by simp) (by have := ptx_len hp; simp only [List.length_nil]; omega)
 rw [show n - (ptx ps).length + (ptx ps).length = n by omega, List.nil_append, List.length_nil, Nat.zero_add] at h0
 have h1 : l_sutureref1_Lines_4 n n (B (ptx ps), [], 0, 0) = some (B (ptx ps), ps.map lineT, (((ptx ps).length : Nat) : Int)) := by
  refine h0.trans ?_
  obtain ⟨j, hj⟩ : ∃ j, n - (ptx ps).length = j + 1 := ⟨n - (ptx ps).length - 1, by omega⟩
  rw [hj]
  show l_sutureref1_Lines_4_B n (l_sutureref1_Lines_4 n j) (B (ptx ps), ps.map lineT, (((ptx ps).length : Nat) : Int), (((ptx ps).length : Nat) : Int)) = _
  unfold l_sutureref1_Lines_4_B
  simp only
  rw [size_B, decide_eq_false (by omega), cond_false]
 unfold m_sutureref1_Lines
 rw [h1, Option.bind_some]
 simp only
 rw [size_B, decide_eq_false (by omega), cond_false]
theorem gap_eq (x : Int) : ∃ q, (gapB q).length <= 7 /\ ∀ {R : Type} (f : T -> Option R), (Option.bind (m_suturehand_Pick n x 4) fun r5 => Option.bind (idx1 true (.str) [(T.sc (.string (⟨#[]⟩ : ByteArray))), (T.sc (.string (⟨#[10]⟩ : ByteArray))), (T.sc (.string (⟨#[35, 32, 103, 111, 32, 123, 10]⟩ : ByteArray))), (T.sc (.string (⟨#[9, 32, 10, 35, 10]⟩ : ByteArray)))] r5) f) = f (T.sc (.string (B (gapB q)))) := by
 obtain ⟨q, hq, hq2⟩ := pick_eq n x 4 (by omega) (by omega)
 have : q = 0 \/ q = 1 \/ q = 2 \/ q = 3 := by omega
 rcases this with rfl | rfl | rfl | rfl
 ·exact ⟨0, by decide, fun f => by rw [hq]; rfl⟩
 ·exact ⟨1, by decide, fun f => by rw [hq]; rfl⟩
 ·exact ⟨2, by decide, fun f => by rw [hq]; rfl⟩
 ·exact ⟨3, by decide, fun f => by rw [hq]; rfl⟩
theorem wordM_eq (x : Int) (p : Nat) : ∃ w t, w.length <= 4 /\ (∀ {R : Type} (f : T -> Option R), (Option.bind (m_suturehand_Pick n x 5) fun r13 => Option.bind (idx1 true (.str) [(T.sc (.string (⟨#[120]⟩ : ByteArray))), (T.sc (.string (⟨#[125]⟩ : ByteArray))), (T.sc (.string (⟨#[118, 97, 114]⟩ : ByteArray))), (T.sc (.string (⟨#[55]⟩ : ByteArray))), (T.sc (.string (⟨#[108, 111, 99, 107]⟩ : ByteArray)))] r13) f) = f (T.sc (.string (B w)))) ∧
  (∀ acc, lexR w p acc = .ok (acc ++ [t])) /\ t.kind ≠ 4 /\ isWord wGo t.bare = false /\ t.pos = p := by
 have lx : ∀ {c : UInt8} {w : List UInt8} {t : Tok}, W.blank c = false -> c ≠ 35 -> tokAt (c :: w) p = some t -> t.text.length = w.length + 1 -> ∀ acc, lexR (c :: w) p acc = .ok (acc ++ [t]) := by
  intro c w t hb h35 ht hl acc
  rw [lexR_tok hb h35 ht, hl, Nat.add_sub_cancel, List.drop_length, lexR_nil]
 obtain ⟨q, hq, hq2⟩ := pick_eq n x 5 (by omega) (by omega)
 have : q = 0 \/ q = 1 \/ q = 2 \/ q = 3 \/ q = 4 := by omega
 rcases this with rfl | rfl | rfl | rfl | rfl
 ·exact ⟨[120], ⟨1, [120], 0, p⟩, by decide, fun f => by rw [hq]; rfl, lx (by decide) (by decide) rfl rfl, by simp, by rfl, rfl⟩
 ·exact ⟨[125], ⟨3, [125], 0, p⟩, by decide, fun f => by rw [hq]; rfl, lx (by decide) (by decide) rfl rfl, by simp, by rfl, rfl⟩
 ·exact ⟨[118, 97, 114], ⟨1, [118, 97, 114], 0, p⟩, by decide, fun f => by rw [hq]; rfl, lx (by decide) (by decide) rfl rfl, by simp, by rfl, rfl⟩
 ·exact ⟨[55], ⟨2, [55], 7, p⟩, by decide, fun f => by rw [hq]; rfl, lx (by decide) (by decide) rfl rfl, by simp, by rfl, rfl⟩
 ·exact ⟨[108, 111, 99, 107], ⟨1, [108, 111, 99, 107], 0, p⟩, by decide, fun f => by rw [hq]; rfl, lx (by decide) (by decide) rfl rfl, by simp, by rfl, rfl⟩
theorem P_pre (u w : List UInt8) : P (B (u ++ w)) u.length = P (B u) u.length := by
 unfold P
 rw [L_B, L_B, List.take_left, List.take_length]
end
end Go.Proofs.YtbcgpjlkkcdmmaaGreatDoor.W
namespace Go.Proofs.YtbcgpjlkkcdmmaaGreatDoor.W
open Go Go.Eng Go.Eng.Fl Go.RowKit
set_option linter.unusedVariables false
set_option linter.unusedSimpArgs false
set_option linter.unusedSectionVars false
section
variable {n : Nat}
def jn : List (List UInt8) -> List UInt8
 | [] => []
 | [w] => w
 | w :: v :: r => w ++ 32 :: jn (v :: r)
theorem jn_join : ∀ ws : List (List UInt8), Lib.join ws [32] = jn ws
 | [] => rfl
 | [w] => Lib.join_one w [32]
 | w :: v :: r => by
  have ih := jn_join (v :: r)
  rw [Lib.join_cons] at ih ⊢
  simp only [jn, Lib.joinTail, List.map_cons, List.flatten_cons] at ih ⊢
  rw [<- ih]
  simp
def wT (w : List UInt8) : T := T.sc (.string (B w))
theorem strsOf_ws : ∀ ws : List (List UInt8), strsOf (ws.map wT) = some (ws.map B)
 | [] => rfl
 | w :: r => by simp only [List.map_cons, wT, strsOf, strsOf_ws r, Option.map_some]
theorem repeat_tab : ∀ d : Nat, Lib.repeatL [9] d = tabsL d
 | 0 => rfl
 | d + 1 => by
  have := repeat_tab d
  simp only [Lib.repeatL, this]
  rfl
theorem tabs_len (d : Nat) : (tabsL d).length = d := List.length_replicate
theorem line_eq (d : Nat) (ws : List (List UInt8)) (hd : d <= 1000) (hw : ws.length <= 100) (hj : (jn ws).length <= 100000) : m_text_line n (d : Int) (ws.map wT) = some (B (tabsL d ++ (jn ws ++ [10]))) := by
 unfold m_text_line m_strings_Repeat m_strings_Join repeatM joinM
 have e1 : (⟨#[9]⟩ : ByteArray).data.toList = [9] := rfl
 have e2 : (⟨#[32]⟩ : ByteArray).data.toList = [32] := rfl
 have e3 : joinL (ws.map B) (⟨#[32]⟩ : ByteArray) = jn ws := by
  unfold joinL
  rw [e2, List.map_map, show ((fun x : ByteArray => x.data.toList) ∘ B) = id from funext fun w => by simp [B], List.map_id, jn_join]
 rw [show (decide ((0 : Int) <= (d : Int)) && decide ((d : Int) <= 9223372036854775807) && decide ((⟨#[9]⟩ : ByteArray).size * (d : Int).toNat <= 140737488355328)) = true by
  simp only [Bool.and_eq_true, decide_eq_true_eq, Int.toNat_natCast]
  refine ⟨⟨by omega, by omega⟩, ?_⟩
  show 1 * d <= _
  omega]
 rw [cond_true, e1, Int.toNat_natCast, repeat_tab, Option.bind_some, strsOf_ws]
 simp only
 rw [e3, List.length_map, decide_eq_true (show ws.length <= 140737488355328 by omega), decide_eq_true (show (jn ws).length <= 140737488355328 by omega), Bool.and_self, cond_true, Option.bind_some]
 rw [show (⟨(tabsL d).toArray⟩ : ByteArray) = B (tabsL d) from rfl, show (⟨(jn ws).toArray⟩ : ByteArray) = B (jn ws) from rfl, show (⟨#[10]⟩ : ByteArray) = B [10] from rfl]
 have hl := tabs_len d
 rw [must_cat (by omega), B_append, must_cat (by simp only [List.length_append, List.length_cons, List.length_nil]; omega), B_append, List.append_assoc]
mutual
def exS : St -> Prop
 | .mk k n o m e body els p => (bsO e).length <= 6000 /\ exL body /\ exL els
def exL : List St -> Prop
 | [] => True
 | s :: r => exS s /\ exL r
end
theorem exL_at : ∀ {l : List St} {i : Nat}, exL l -> ∀ hi : i < l.length, exS l[i]
 | s :: r, 0, h, _ => by simp only [exL] at h; exact h.1
 | s :: r, i + 1, h, hi => by simp only [exL] at h; exact exL_at (i := i) h.2 (by simpa using hi)
structure TxOk (n : Nat) (b : B_text_block) (m : Nat) : Prop where
 bl : ∀ (pl : Nat -> Nat × Nat) (l : List St) (d : Nat), okL l d -> exL l -> d <= 8 -> 20 < m + 2 * d -> (txL l d).length <= 40000 -> b.text_block (encSL pl l) (d : Int) = some (B (txL l d))
 nil : 0 < m -> ∀ d : Int, b.text_block [] d = some (B [])
 st : ∀ (pl : Nat -> Nat × Nat) (k : Int) (nm o : List UInt8) (mm : Nat) (e : Option E) (body els : List St) (p : Nat) (pp : Nat × Nat) (d : Nat), okS (.mk k nm o mm e body els p) d -> exS (.mk k nm o mm e body els p) -> d <= 8 -> 19 < m + 2 * d -> (tx (.mk k nm o mm e body els p) d).length <= 40000 →
  b.text_stmt k (B nm) (B o) (mm : Int) (kO e) (nO e) (wO e) (oO e) (encSL pl body) (encSL pl els) pp (d : Int) = some (B (tabsL d ++ (tx (.mk k nm o mm e body els p) d ++ [10])))
theorem printO (hn : 100000 < n) {x : E} (h : saneE x /\ fitsE kwd x 0 0) (hl : (bs x 0).length <= 6000) : m_expr_Print n (kO (some x)) (nO (some x)) (wO (some x)) (oO (some x)) = some (B (bs x 0)) := print_yes hn h.1 (by omega) h.2
theorem tb_loop {b : B_text_block} {m : Nat} (hb : TxOk n b m) (pl : Nat -> Nat × Nat) {l : List St} {d : Nat} (hok : okL l d) (hex : exL l) (hd : d <= 8) (hm : 20 < m + 1 + 2 * d) (hl4 : l.length <= 40000) : ∀ (k i : Nat) (u : List UInt8), l.length - i < k -> i <= l.length -> u.length + (txL (l.drop i) d).length <= 40000 →
  l_text_block_3 b n k ((d : Int), B u, encSL pl l, ((List.length (encSL pl l) : Nat) : Int), (i : Int)) = some (B (u ++ txL (l.drop i) d)) := by
 intro k
 induction k with
 | zero => intro i u h; omega
 | succ k ih =>
  intro i u hk hi hu
  show l_text_block_3_B b n (l_text_block_3 b n k) _ = _
  unfold l_text_block_3_B
  simp only
  by_cases h : ¬ i < l.length
  ·rw [encSL_len, decide_eq_false (by omega), cond_false, List.drop_eq_nil_of_le (by omega)]
   simp only [txL, List.append_nil]
  have h : i < l.length := by omega
  have hdrop : l.drop i = l[i] :: l.drop (i + 1) := List.drop_eq_getElem_cons h
  have hoS := okL_at hok h
  have heS := exL_at hex h
  have hup : IntKind.wrap .i64 ((i : Int) + 1) = ((i + 1 : Nat) : Int) := by rw [wrap_id (by omega) (by omega)]; omega
  have ih' := ih (i + 1)
  rw [encSL_len] at ih'
  rw [encSL_len, decide_eq_true (show (i : Int) < ((l.length : Nat) : Int) by omega), cond_true, idx_S pl h, Option.bind_some, hup]
  rw [hdrop] at hu ⊢
  generalize l[i] = s at *
  obtain ⟨kd, nm, o, mm, e, body, els, p⟩ := s
  simp only [txL, List.length_append, List.length_cons] at hu ⊢
  have cc : ∀ (pl : Nat -> Nat × Nat) (bd el : List St) (q : Nat), ((encS pl (.mk kd nm o mm e bd el q)).cell 0).int = kd /\ ((encS pl (.mk kd nm o mm e bd el q)).cell 1).str = B nm /\ ((encS pl (.mk kd nm o mm e bd el q)).cell 2).str = B o /\ ((encS pl (.mk kd nm o mm e bd el q)).cell 3).int = (mm : Int) /\ ((encS pl (.mk kd nm o mm e bd el q)).cell 4).int = kO e /\ ((encS pl (.mk kd nm o mm e bd el q)).cell 5).int = nO e /\ ((encS pl (.mk kd nm o mm e bd el q)).cell 6).str = wO e /\ ((encS pl (.mk kd nm o mm e bd el q)).cell 7).lst = oO e /\ ((encS pl (.mk kd nm o mm e bd el q)).cell 8).lst = encSL pl bd /\ ((encS pl (.mk kd nm o mm e bd el q)).cell 9).lst = encSL pl el := by
   intro pl bd el q
   simp only [encS]
   exact ⟨rfl, rfl, rfl, rfl, rfl, rfl, rfl, rfl, rfl, rfl⟩
  obtain ⟨a0, a1, a2, a3, a4, a5, a6, a7, a8, a9⟩ := cc pl body els p
  rw [a0, a1, a2, a3, a4, a5, a6, a7, a8, a9, hb.st pl kd nm o mm e body els p _ d hoS heS hd (by omega) (by omega), Option.bind_some]
  rw [must_cat (by simp only [List.length_append, List.length_cons, List.length_nil]; omega), B_append]
  rw [ih' _ (by omega) (by omega) (by simp only [List.length_append, List.length_cons, List.length_nil]; omega)]
  simp
theorem jn2 (a b : List UInt8) : jn [a, b] = a ++ 32 :: b := rfl
theorem jn3 (a b c : List UInt8) : jn [a, b, c] = a ++ 32 :: (b ++ 32 :: c) := rfl
theorem jn1 (a : List UInt8) : jn [a] = a := rfl
theorem l1 (d : Nat) (a : List UInt8) (hd : d <= 1000) (h : a.length <= 50000) : m_text_line n (d : Int) [T.sc (.string (B a))] = some (B (tabsL d ++ (a ++ [10]))) := line_eq d [a] hd (by simp) (by rw [jn1]; omega)
theorem l2 (d : Nat) (a b : List UInt8) (hd : d <= 1000) (h : a.length + b.length <= 50000) : m_text_line n (d : Int) [T.sc (.string (B a)), T.sc (.string (B b))] = some (B (tabsL d ++ (a ++ 32 :: b ++ [10]))) := line_eq d [a, b] hd (by simp) (by rw [jn2]; simp only [List.length_append, List.length_cons]; omega)
theorem l3 (d : Nat) (a b c : List UInt8) (hd : d <= 1000) (h : a.length + b.length + c.length <= 50000) : m_text_line n (d : Int) [T.sc (.string (B a)), T.sc (.string (B b)), T.sc (.string (B c))] = some (B (tabsL d ++ (a ++ 32 :: (b ++ 32 :: c) ++ [10]))) := line_eq d [a, b, c] hd (by simp) (by rw [jn3]; simp only [List.length_append, List.length_cons]; omega)
theorem itoa_ok {u : Nat} (hu : u < 9223372036854775808) : m_strconv_Itoa n (u : Int) = some (B (Lib.decDigits u)) := itoa_nat (by omega)
theorem st_step (hn : 100000 < n) {b : B_text_block} {m : Nat} (hb : TxOk n b m) (pl : Nat -> Nat × Nat) (k : Int) (nm o : List UInt8) (mm : Nat) (e : Option E) (body els : List St) (p : Nat) (pp : Nat × Nat) (d : Nat) (hS : okS (.mk k nm o mm e body els p) d) (hex : exS (.mk k nm o mm e body els p)) (hd : d <= 8) (hm : 19 < m + 1 + 2 * d) (hlen : (tx (.mk k nm o mm e body els p) d).length <= 40000) :
  f_text_stmt b n k (B nm) (B o) (mm : Int) (kO e) (nO e) (wO e) (oO e) (encSL pl body) (encSL pl els) pp (d : Int) = some (B (tabsL d ++ (tx (.mk k nm o mm e body els p) d ++ [10]))) := by
 obtain ⟨t1, t2, t3, t4, t5, t6⟩ := tx_sub hS
 simp only [exS] at hex
 have wl := wlens
 have hdn : IntKind.wrap .i64 ((d : Int) + 1) = ((d + 1 : Nat) : Int) := by rw [wrap_id (by omega) (by omega)]; omega
 have hbody : (txL body (d + 1)).length <= 40000 -> b.text_block (encSL pl body) ((d + 1 : Nat) : Int) = some (B (txL body (d + 1))) := by
  intro hl
  rcases t5 with h8 | ⟨rfl, rfl⟩
  ·exact hb.bl pl body (d + 1) t3 hex.2.1 (by omega) (by omega) hl
  ·simp only [encSL, txL]; exact hb.nil (by omega) _
 have hels : (txL els (d + 1)).length <= 40000 -> b.text_block (encSL pl els) ((d + 1 : Nat) : Int) = some (B (txL els (d + 1))) := by
  intro hl
  rcases t5 with h8 | ⟨rfl, rfl⟩
  ·exact hb.bl pl els (d + 1) t4 hex.2.2 (by omega) (by omega) hl
  ·simp only [encSL, txL]; exact hb.nil (by omega) _
 unfold f_text_stmt
 unfold okS at hS
 split at hS
 ·rename_i hkd
  subst hkd
  obtain ⟨hn1, rfl, rfl, he, rfl, rfl⟩ := hS
  cases e with
  | none => exact he.elim
  | some x =>
   have htx : tx (.mk 1 nm [] 0 (some x) [] [] p) d = nm ++ 32 :: 61 :: 32 :: bs x 0 := by simp only [tx, bsO, if_true]
   rw [htx] at hlen ⊢
   simp only [List.length_append, List.length_cons] at hlen
   have h : m_text_line n (d : Int) [T.sc (.string (B nm)), T.sc (.string (⟨#[61]⟩ : ByteArray)), T.sc (.string (B (bs x 0)))] = _ := l3 d nm [61] (bs x 0) (by omega) (by simp only [List.length_cons, List.length_nil]; omega)
   rw [show (((1 : Int)) == 1) = true from rfl, cond_true]
   rw [printO hn he hex.1, Option.bind_some, h, Option.bind_some]
   simp
 split at hS
 ·rename_i hkd
  obtain ⟨hn1, rfl, rfl, rfl, rfl, rfl⟩ := hS
  rcases hkd with rfl | rfl | rfl | rfl
  ·have htx : tx (.mk 2 nm [] 0 none [] [] p) d = wLock ++ 32 :: nm := by simp only [tx, Int.reduceEq, if_false, if_true]
   rw [htx] at hlen ⊢
   simp only [List.length_append, List.length_cons] at hlen
   have h : m_text_line n (d : Int) [T.sc (.string (⟨#[108, 111, 99, 107]⟩ : ByteArray)), T.sc (.string (B nm))] = _ := l2 d wLock nm (by omega) (by omega)
   rw [show (((2 : Int)) == 1) = false from rfl, cond_false, show (((2 : Int)) == 2) = true from rfl, cond_true]
   rw [h, Option.bind_some]
  ·have htx : tx (.mk 3 nm [] 0 none [] [] p) d = wUnlock ++ 32 :: nm := by simp only [tx, Int.reduceEq, if_false, if_true]
   rw [htx] at hlen ⊢
   simp only [List.length_append, List.length_cons] at hlen
   have h : m_text_line n (d : Int) [T.sc (.string (⟨#[117, 110, 108, 111, 99, 107]⟩ : ByteArray)), T.sc (.string (B nm))] = _ := l2 d wUnlock nm (by omega) (by omega)
   rw [show (((3 : Int)) == 1) = false from rfl, cond_false, show (((3 : Int)) == 2) = false from rfl, cond_false, show (((3 : Int)) == 3) = true from rfl, cond_true]
   rw [h, Option.bind_some]
  ·have htx : tx (.mk 9 nm [] 0 none [] [] p) d = wGoto ++ 32 :: nm := by simp only [tx, Int.reduceEq, if_false, if_true]
   rw [htx] at hlen ⊢
   simp only [List.length_append, List.length_cons] at hlen
   have h : m_text_line n (d : Int) [T.sc (.string (⟨#[103, 111, 116, 111]⟩ : ByteArray)), T.sc (.string (B nm))] = _ := l2 d wGoto nm (by omega) (by omega)
   rw [show (((9 : Int)) == 1) = false from rfl, cond_false, show (((9 : Int)) == 2) = false from rfl, cond_false, show (((9 : Int)) == 3) = false from rfl, cond_false, show (((9 : Int)) == 4) = false from rfl, cond_false, show (((9 : Int)) == 5) = false from rfl, cond_false, show (((9 : Int)) == 6) = false from rfl, cond_false, show (((9 : Int)) == 7) = false from rfl, cond_false, show (((9 : Int)) == 8) = false from rfl, cond_false, show (((9 : Int)) == 9) = true from rfl, cond_true]
   rw [h, Option.bind_some]
  ·have htx : tx (.mk 10 nm [] 0 none [] [] p) d = wLabel ++ 32 :: nm := by simp only [tx, Int.reduceEq, if_false, if_true]
   rw [htx] at hlen ⊢
   simp only [List.length_append, List.length_cons] at hlen
   have h : m_text_line n (d : Int) [T.sc (.string (⟨#[108, 97, 98, 101, 108]⟩ : ByteArray)), T.sc (.string (B nm))] = _ := l2 d wLabel nm (by omega) (by omega)
   rw [show (((10 : Int)) == 1) = false from rfl, cond_false, show (((10 : Int)) == 2) = false from rfl, cond_false, show (((10 : Int)) == 3) = false from rfl, cond_false, show (((10 : Int)) == 4) = false from rfl, cond_false, show (((10 : Int)) == 5) = false from rfl, cond_false, show (((10 : Int)) == 6) = false from rfl, cond_false, show (((10 : Int)) == 7) = false from rfl, cond_false, show (((10 : Int)) == 8) = false from rfl, cond_false, show (((10 : Int)) == 9) = false from rfl, cond_false, show (((10 : Int)) == 10) = true from rfl, cond_true]
   rw [h, Option.bind_some]
 split at hS
 ·rename_i hkd
  subst hkd
  obtain ⟨hn1, rfl, rfl, he, rfl, rfl⟩ := hS
  cases e with
  | none => exact he.elim
  | some x =>
   have htx : tx (.mk 4 nm [] 0 (some x) [] [] p) d = wSend ++ 32 :: (nm ++ 32 :: bs x 0) := by simp only [tx, bsO, Int.reduceEq, if_false, if_true]
   rw [htx] at hlen ⊢
   simp only [List.length_append, List.length_cons] at hlen
   have h : m_text_line n (d : Int) [T.sc (.string (⟨#[115, 101, 110, 100]⟩ : ByteArray)), T.sc (.string (B nm)), T.sc (.string (B (bs x 0)))] = _ := l3 d wSend nm (bs x 0) (by omega) (by omega)
   rw [show (((4 : Int)) == 1) = false from rfl, cond_false, show (((4 : Int)) == 2) = false from rfl, cond_false, show (((4 : Int)) == 3) = false from rfl, cond_false, show (((4 : Int)) == 4) = true from rfl, cond_true]
   rw [printO hn he hex.1, Option.bind_some, h, Option.bind_some]
 split at hS
 ·rename_i hkd
  subst hkd
  obtain ⟨hn1, hn2, rfl, rfl, rfl, rfl⟩ := hS
  have htx : tx (.mk 5 nm o 0 none [] [] p) d = wRecv ++ 32 :: (nm ++ 32 :: o) := by simp only [tx, Int.reduceEq, if_false, if_true]
  rw [htx] at hlen ⊢
  simp only [List.length_append, List.length_cons] at hlen
  have h : m_text_line n (d : Int) [T.sc (.string (⟨#[114, 101, 99, 118]⟩ : ByteArray)), T.sc (.string (B nm)), T.sc (.string (B o))] = _ := l3 d wRecv nm o (by omega) (by omega)
  rw [show (((5 : Int)) == 1) = false from rfl, cond_false, show (((5 : Int)) == 2) = false from rfl, cond_false, show (((5 : Int)) == 3) = false from rfl, cond_false, show (((5 : Int)) == 4) = false from rfl, cond_false, show (((5 : Int)) == 5) = true from rfl, cond_true]
  rw [h, Option.bind_some]
 split at hS
 ·rename_i hkd
  subst hkd
  obtain ⟨rfl, rfl, rfl, he, rfl, rfl⟩ := hS
  cases e with
  | none => exact he.elim
  | some x =>
   have htx : tx (.mk 6 [] [] 0 (some x) [] [] p) d = wPrint ++ 32 :: bs x 0 := by simp only [tx, bsO, Int.reduceEq, if_false, if_true]
   rw [htx] at hlen ⊢
   simp only [List.length_append, List.length_cons] at hlen
   have h : m_text_line n (d : Int) [T.sc (.string (⟨#[112, 114, 105, 110, 116]⟩ : ByteArray)), T.sc (.string (B (bs x 0)))] = _ := l2 d wPrint (bs x 0) (by omega) (by omega)
   rw [show (((6 : Int)) == 1) = false from rfl, cond_false, show (((6 : Int)) == 2) = false from rfl, cond_false, show (((6 : Int)) == 3) = false from rfl, cond_false, show (((6 : Int)) == 4) = false from rfl, cond_false, show (((6 : Int)) == 5) = false from rfl, cond_false, show (((6 : Int)) == 6) = true from rfl, cond_true]
   rw [printO hn he hex.1, Option.bind_some, h, Option.bind_some]
 split at hS
 ·rename_i hkd
  subst hkd
  obtain ⟨rfl, rfl, rfl, he, _, hB, hF⟩ := hS
  cases e with
  | none => exact he.elim
  | some x =>
   have hx6 : (bs x 0).length <= 6000 := hex.1
   have htl := tabs_len d
   have h : m_text_line n (d : Int) [T.sc (.string (⟨#[105, 102]⟩ : ByteArray)), T.sc (.string (B (bs x 0))), T.sc (.string (⟨#[123]⟩ : ByteArray))] = _ := l3 d wIf (bs x 0) [123] (by omega) (by simp only [List.length_cons, List.length_nil]; omega)
   have h2 : m_text_line n (d : Int) [T.sc (.string (⟨#[125]⟩ : ByteArray))] = _ := l1 d [125] (by omega) (by simp)
   rw [show (((7 : Int)) == 1) = false from rfl, cond_false, show (((7 : Int)) == 2) = false from rfl, cond_false, show (((7 : Int)) == 3) = false from rfl, cond_false, show (((7 : Int)) == 4) = false from rfl, cond_false, show (((7 : Int)) == 5) = false from rfl, cond_false, show (((7 : Int)) == 6) = false from rfl, cond_false, show (((7 : Int)) == 7) = true from rfl, cond_true]
   rw [printO hn he hex.1, Option.bind_some, h, Option.bind_some, hdn, hbody (by omega), Option.bind_some]
   have hb1 : (txL body (d + 1)).length <= 40000 := by omega
   rw [must_cat (by simp only [List.length_append, List.length_cons, List.length_nil]; omega), B_append, encSL_len]
   cases els with
   | nil =>
    rw [decide_eq_false (by simp), cond_false, h2, Option.bind_some, must_cat (by simp only [List.length_append, List.length_cons, List.length_nil]; omega), B_append]
    simp [tx, bsO]
   | cons y els =>
    have h3 : m_text_line n (d : Int) [T.sc (.string (⟨#[125]⟩ : ByteArray)), T.sc (.string (⟨#[101, 108, 115, 101]⟩ : ByteArray)), T.sc (.string (⟨#[123]⟩ : ByteArray))] = _ := l3 d [125] wElse [123] (by omega) (by simp only [List.length_cons, List.length_nil]; omega)
    have he1 : (txL (y :: els) (d + 1)).length <= 40000 := by omega
    rw [decide_eq_true (show ((((y :: els).length : Nat) : Int) : Int) > 0 by simp only [List.length_cons]; omega), cond_true, h3, Option.bind_some, hels he1, Option.bind_some]
    rw [must_cat (by simp only [List.length_append, List.length_cons, List.length_nil]; omega), B_append, must_cat (by simp only [List.length_append, List.length_cons, List.length_nil]; omega), B_append, h2, Option.bind_some, must_cat (by simp only [List.length_append, List.length_cons, List.length_nil]; omega), B_append]
    simp [tx, bsO]
 split at hS
 ·rename_i hkd
  subst hkd
  obtain ⟨rfl, rfl, hmm, rfl, _, hB, rfl⟩ := hS
  have htl := tabs_len d
  have hdl : (Lib.decDigits mm).length <= 3 := digs_len 3 mm (by omega) (by omega)
  have h : m_text_line n (d : Int) [T.sc (.string (⟨#[114, 101, 112, 101, 97, 116]⟩ : ByteArray)), T.sc (.string (B (Lib.decDigits mm))), T.sc (.string (⟨#[123]⟩ : ByteArray))] = _ := l3 d wRepeat (Lib.decDigits mm) [123] (by omega) (by simp only [List.length_cons, List.length_nil]; omega)
  have h2 : m_text_line n (d : Int) [T.sc (.string (⟨#[125]⟩ : ByteArray))] = _ := l1 d [125] (by omega) (by simp)
  rw [show (((8 : Int)) == 1) = false from rfl, cond_false, show (((8 : Int)) == 2) = false from rfl, cond_false, show (((8 : Int)) == 3) = false from rfl, cond_false, show (((8 : Int)) == 4) = false from rfl, cond_false, show (((8 : Int)) == 5) = false from rfl, cond_false, show (((8 : Int)) == 6) = false from rfl, cond_false, show (((8 : Int)) == 7) = false from rfl, cond_false, show (((8 : Int)) == 8) = true from rfl, cond_true]
  rw [itoa_ok (by omega), Option.bind_some, h, Option.bind_some, hdn, hbody (by omega), Option.bind_some]
  rw [must_cat (by simp only [List.length_append, List.length_cons, List.length_nil]; omega), B_append, h2, Option.bind_some, must_cat (by simp only [List.length_append, List.length_cons, List.length_nil]; omega), B_append]
  unfold tx
  simp
 ·exact hS.elim
theorem tx_ok (hn : 100000 < n) : ∀ m, TxOk n (unB_text_block n m) m
 | 0 => ⟨fun pl l d _ _ h1 h2 => by omega, fun h => by omega, fun pl k nm o mm e body els p pp d _ _ h1 h2 => by omega⟩
 | m + 1 => by
  have ih := tx_ok hn m
  refine ⟨fun pl l d hok hex hd hm hlen => ?_, fun _ d => ?_, fun pl k nm o mm e body els p pp d hS hex hd hm hlen => ?_⟩
  ·have hl := txL_len l d
   show f_text_block (unB_text_block n m) n (encSL pl l) (d : Int) = _
   unfold f_text_block
   have h := tb_loop ih pl hok hex hd (by omega) (by omega) n 0 [] (by omega) (by omega) (by simp only [List.drop_zero, List.length_nil]; omega)
   rw [List.drop_zero, List.nil_append] at h
   rw [show l_text_block_3 (unB_text_block n m) n n ((d : Int), (⟨#[]⟩ : ByteArray), encSL pl l, ((List.length (encSL pl l) : Nat) : Int), 0) = _ from h, Option.bind_some]
  ·show f_text_block (unB_text_block n m) n [] d = _
   obtain ⟨j, rfl⟩ : ∃ j, n = j + 1 := ⟨n - 1, by omega⟩
   rfl
  ·exact st_step hn ih pl k nm o mm e body els p pp d hS hex hd hm hlen
theorem textB_eq (hn : 100000 < n) (pl : Nat -> Nat × Nat) {l : List St} (hok : okL l 1) (hex : exL l) (hlen : (txL l 1).length <= 40000) : m_text_block n (encSL pl l) 1 = some (B (txL l 1)) :=
 (tx_ok hn n).bl pl l 1 hok hex (by omega) (by omega) hlen
end
end Go.Proofs.YtbcgpjlkkcdmmaaGreatDoor.W
namespace Go.Proofs.YtbcgpjlkkcdmmaaGreatDoor.W
open Go Go.Eng Go.Eng.Fl Go.RowKit
set_option linter.unusedVariables false
set_option linter.unusedSimpArgs false
set_option linter.unusedSectionVars false
section
variable {n : Nat}
theorem sameOL (hn : 100000 < n) {e : Option E} (he : match e with | some x => (bs x 0).length <= 40000 | none => True) : m_tree_SameExpr n (kO e) (nO e) (wO e) (oO e) (kO e) (nO e) (wO e) (oO e) = some true := by
 cases e with
 | some x =>
  have h1 := ht_le x 0
  have : m_tree_SameExpr n (kE x) (nE x) (wE x) (oE x) (kE x) (nE x) (wE x) (oE x) = some true := by rw [sameL x x (by simp only at he; omega), decide_eq_true rfl]
  exact this
 | none =>
  obtain ⟨j, hj⟩ : ∃ j, n = j + 3 := ⟨n - 3, by omega⟩
  show (unB_tree_SameExpr n n).tree_SameExpr 0 0 (⟨#[]⟩ : ByteArray) [] 0 0 (⟨#[]⟩ : ByteArray) [] = some true
  rw [show (unB_tree_SameExpr n n) = unB_tree_SameExpr n (j + 3) by rw [<- hj]]
  show f_tree_SameExpr (unB_tree_SameExpr n (j + 2)) n 0 0 (⟨#[]⟩ : ByteArray) [] 0 0 (⟨#[]⟩ : ByteArray) [] = some true
  unfold f_tree_SameExpr
  have h : (unB_tree_SameExpr n (j + 2)).slices_EqualFunc___api_Expr___api_Expr_api_Expr_api_Expr_ [] [] = some true := by
   show f_slices_EqualFunc___api_Expr___api_Expr_api_Expr_api_Expr_ (unB_tree_SameExpr n (j + 1)) n [] [] = some true
   unfold f_slices_EqualFunc___api_Expr___api_Expr_api_Expr_api_Expr_
   have h2 : ∀ k, 0 < k -> ∃ x, l_slices_EqualFunc___api_Expr___api_Expr_api_Expr_api_Expr__4 (unB_tree_SameExpr n (j + 1)) n k ([], [], ((List.length ([] : List T) : Nat) : Int), 0) = some x /\ Sum.elim (fun p4 => some true) (fun x3' => (fun p5 => some p5) x3') x = some true := by
    intro k hk
    obtain ⟨i, rfl⟩ : ∃ i, k = i + 1 := ⟨k - 1, by omega⟩
    exact ⟨_, rfl, rfl⟩
   obtain ⟨x, q1, q2⟩ := h2 n (by omega)
   rw [show ((((List.length ([] : List T) : Nat) : Int) : Int) != ((List.length ([] : List T) : Nat) : Int)) = false from rfl, cond_false, q1, Option.bind_some]
   exact q2
  have k0 : (ByteArray.toList (⟨#[]⟩ : ByteArray) == ByteArray.toList (⟨#[]⟩ : ByteArray)) = true := beq_self_eq_true _
  rw [k0, show (bif (bif ((0 : Int) == 0) then ((0 : Int) == 0) else false) then true else false) = true from rfl, cond_true, h]
  rfl
structure TsOk (b : B_tree_sameBlock) (m : Nat) : Prop where
 eq : ∀ (p1 p2 : Nat -> Nat × Nat) (la lb : List St) (d : Nat), okL la d -> d <= 8 -> 30 < m + 3 * d -> (txL la d).length <= 40000 -> stripL la = stripL lb -> b.slices_EqualFunc___api_Stmt___api_Stmt_api_Stmt_api_Stmt_ (encSL p1 la) (encSL p2 lb) = some true
 bl : ∀ (p1 p2 : Nat -> Nat × Nat) (la lb : List St) (d : Nat), okL la d -> d <= 8 -> 31 < m + 3 * d -> (txL la d).length <= 40000 -> stripL la = stripL lb -> b.tree_sameBlock (encSL p1 la) (encSL p2 lb) = some true
 nil : 1 < m -> b.tree_sameBlock [] [] = some true
 nilE : 0 < m -> b.slices_EqualFunc___api_Stmt___api_Stmt_api_Stmt_api_Stmt_ [] [] = some true
 st : ∀ (p1 p2 : Nat -> Nat × Nat) (s t : St) (d : Nat), okS s d -> d <= 8 -> 29 < m + 3 * d -> (tx s d).length <= 40000 -> s.strip = t.strip →
  b.tree_sameStmt ((encS p1 s).cell 0).int ((encS p1 s).cell 1).str ((encS p1 s).cell 2).str ((encS p1 s).cell 3).int ((encS p1 s).cell 4).int ((encS p1 s).cell 5).int ((encS p1 s).cell 6).str ((encS p1 s).cell 7).lst ((encS p1 s).cell 8).lst ((encS p1 s).cell 9).lst (((encS p1 s).cell 10).re, ((encS p1 s).cell 10).im)
   ((encS p2 t).cell 0).int ((encS p2 t).cell 1).str ((encS p2 t).cell 2).str ((encS p2 t).cell 3).int ((encS p2 t).cell 4).int ((encS p2 t).cell 5).int ((encS p2 t).cell 6).str ((encS p2 t).cell 7).lst ((encS p2 t).cell 8).lst ((encS p2 t).cell 9).lst (((encS p2 t).cell 10).re, ((encS p2 t).cell 10).im) = some true
theorem strip_len {la lb : List St} (h : stripL la = stripL lb) : la.length = lb.length := by
 have := congrArg List.length h
 rwa [stripL_map, stripL_map, List.length_map, List.length_map] at this
theorem ts_loop {b : B_tree_sameBlock} {m : Nat} (hb : TsOk b m) (p1 p2 : Nat -> Nat × Nat) {la lb : List St} {d : Nat} (hok : okL la d) (hd : d <= 8) (hm : 29 < m + 3 * d) (hlen : (txL la d).length <= 40000) (hst : stripL la = stripL lb) : ∀ (k i : Nat), la.length - i < k -> i <= la.length →
  ∃ x, l_slices_EqualFunc___api_Stmt___api_Stmt_api_Stmt_api_Stmt__4 b n k (encSL p2 lb, encSL p1 la, ((List.length (encSL p1 la) : Nat) : Int), (i : Int)) = some x /\ Sum.elim (fun p4 => some true) (fun x3' => (fun p5 => some p5) x3') x = some true := by
 have hll := strip_len hst
 have hl := txL_len la d
 intro k
 induction k with
 | zero => intro i h; omega
 | succ k ih =>
  intro i hk hi
  show ∃ x, l_slices_EqualFunc___api_Stmt___api_Stmt_api_Stmt_api_Stmt__4_B b n (l_slices_EqualFunc___api_Stmt___api_Stmt_api_Stmt_api_Stmt__4 b n k) _ = some x /\ _
  unfold l_slices_EqualFunc___api_Stmt___api_Stmt_api_Stmt_api_Stmt__4_B
  simp only
  have ih' := ih (i + 1)
  rw [encSL_len] at ih' ⊢
  by_cases h : ¬ i < la.length
  ·rw [decide_eq_false (by omega), cond_false]
   exact ⟨_, rfl, rfl⟩
  have h : i < la.length := by omega
  have h2 : i < lb.length := by omega
  have hup : IntKind.wrap .i64 ((i : Int) + 1) = ((i + 1 : Nat) : Int) := by rw [wrap_id (by omega) (by omega)]; omega
  have hs : la[i].strip = lb[i].strip := by
   have e : (stripL la)[i]? = (stripL lb)[i]? := by rw [hst]
   rw [stripL_map, stripL_map, List.getElem?_map, List.getElem?_map, List.getElem?_eq_getElem h, List.getElem?_eq_getElem h2] at e
   simpa using e
  have hT := txL_at (d := d) h
  rw [decide_eq_true (show (i : Int) < ((la.length : Nat) : Int) by omega), cond_true, idx_S p1 h, Option.bind_some, idx_S p2 h2, Option.bind_some, hup, hb.st p1 p2 la[i] lb[i] d (okL_at hok h) hd (by omega) (by omega) hs, Option.bind_some, Bool.not_true, cond_false]
  exact ih' (by omega) (by omega)
theorem ts_ok (hn : 100000 < n) : ∀ m, TsOk (unB_tree_sameBlock n m) m
 | 0 => ⟨fun p1 p2 la lb d _ h1 h2 => by omega, fun p1 p2 la lb d _ h1 h2 => by omega, fun h => by omega, fun h => by omega, fun p1 p2 s t d _ h1 h2 => by omega⟩
 | m + 1 => by
  have ih := ts_ok hn m
  refine ⟨fun p1 p2 la lb d hok hd hm hlen hst => ?_, fun p1 p2 la lb d hok hd hm hlen hst => ?_, fun hm => ?_, fun hm => ?_, fun p1 p2 s t d hS hd hm hlen hst => ?_⟩
  ·have hl := txL_len la d
   show f_slices_EqualFunc___api_Stmt___api_Stmt_api_Stmt_api_Stmt_ (unB_tree_sameBlock n m) n (encSL p1 la) (encSL p2 lb) = _
   unfold f_slices_EqualFunc___api_Stmt___api_Stmt_api_Stmt_api_Stmt_
   obtain ⟨x, q1, q2⟩ := ts_loop (n := n) ih p1 p2 hok hd (by omega) hlen hst n 0 (by omega) (by omega)
   have q1' : l_slices_EqualFunc___api_Stmt___api_Stmt_api_Stmt_api_Stmt__4 (unB_tree_sameBlock n m) n n (encSL p2 lb, encSL p1 la, ((List.length (encSL p1 la) : Nat) : Int), 0) = some x := q1
   rw [q1', encSL_len, encSL_len, strip_len hst, bne_self_eq_false, cond_false, Option.bind_some]
   exact q2
  ·show f_tree_sameBlock (unB_tree_sameBlock n m) n (encSL p1 la) (encSL p2 lb) = _
   unfold f_tree_sameBlock
   rw [ih.eq p1 p2 la lb d hok hd (by omega) hlen hst, Option.bind_some]
  ·show f_tree_sameBlock (unB_tree_sameBlock n m) n [] [] = _
   unfold f_tree_sameBlock
   rw [ih.nilE (by omega), Option.bind_some]
  ·show f_slices_EqualFunc___api_Stmt___api_Stmt_api_Stmt_api_Stmt_ (unB_tree_sameBlock n m) n [] [] = _
   obtain ⟨j, rfl⟩ : ∃ j, n = j + 1 := ⟨n - 1, by omega⟩
   rfl
  ·obtain ⟨kd, nm, o, mm, e, body, els, p⟩ := s
   obtain ⟨kd', nm', o', mm', e', body', els', p'⟩ := t
   simp only [St.strip, St.mk.injEq] at hst
   obtain ⟨rfl, rfl, rfl, rfl, rfl, hbody, hels, _⟩ := hst
   obtain ⟨t1, t2, t3, t4, t5, t6⟩ := tx_sub hS
   have cc : ∀ (pl : Nat -> Nat × Nat) (bd el : List St) (q : Nat), ((encS pl (.mk kd nm o mm e bd el q)).cell 0).int = kd /\ ((encS pl (.mk kd nm o mm e bd el q)).cell 1).str = B nm /\ ((encS pl (.mk kd nm o mm e bd el q)).cell 2).str = B o /\ ((encS pl (.mk kd nm o mm e bd el q)).cell 3).int = (mm : Int) /\ ((encS pl (.mk kd nm o mm e bd el q)).cell 4).int = kO e /\ ((encS pl (.mk kd nm o mm e bd el q)).cell 5).int = nO e /\ ((encS pl (.mk kd nm o mm e bd el q)).cell 6).str = wO e /\ ((encS pl (.mk kd nm o mm e bd el q)).cell 7).lst = oO e /\ ((encS pl (.mk kd nm o mm e bd el q)).cell 8).lst = encSL pl bd /\ ((encS pl (.mk kd nm o mm e bd el q)).cell 9).lst = encSL pl el := by
    intro pl bd el q
    simp only [encS]
    exact ⟨rfl, rfl, rfl, rfl, rfl, rfl, rfl, rfl, rfl, rfl⟩
   obtain ⟨a0, a1, a2, a3, a4, a5, a6, a7, a8, a9⟩ := cc p1 body els p
   obtain ⟨b0, b1, b2, b3, b4, b5, b6, b7, b8, b9⟩ := cc p2 body' els' p'
   rw [a0, a1, a2, a3, a4, a5, a6, a7, a8, a9, b0, b1, b2, b3, b4, b5, b6, b7, b8, b9]
   rw [show (unB_tree_sameBlock n (m + 1)).tree_sameStmt = f_tree_sameStmt (unB_tree_sameBlock n m) n from rfl]
   unfold f_tree_sameStmt
   have he : m_tree_SameExpr n (kO e) (nO e) (wO e) (oO e) (kO e) (nO e) (wO e) (oO e) = some true := by
    refine sameOL hn ?_
    cases e with
    | none => trivial
    | some x => simp only [bsO] at t6; show (bs x 0).length <= 40000; omega
   have nl : ∀ {x y : List St}, stripL x = stripL y -> x = [] -> y = [] := by
    intro x y h hx
    subst hx
    cases y with
    | nil => rfl
    | cons => simp [stripL] at h
   have hbo : (unB_tree_sameBlock n m).tree_sameBlock (encSL p1 body) (encSL p2 body') = some true := by
    rcases t5 with h8 | ⟨rfl, rfl⟩
    ·exact ih.bl p1 p2 body body' (d + 1) t3 (by omega) (by omega) (by omega) hbody
    ·obtain rfl := nl hbody rfl
     simp only [encSL]
     exact ih.nil (by omega)
   have hel : (unB_tree_sameBlock n m).tree_sameBlock (encSL p1 els) (encSL p2 els') = some true := by
    rcases t5 with h8 | ⟨rfl, rfl⟩
    ·exact ih.bl p1 p2 els els' (d + 1) t4 (by omega) (by omega) (by omega) hels
    ·obtain rfl := nl hels rfl
     simp only [encSL]
     exact ih.nil (by omega)
   rw [he, hbo, hel]
   have k1 : ((kd : Int) == kd) = true := beq_self_eq_true _
   have k2 : ((((mm : Nat) : Int) : Int) == ((mm : Nat) : Int)) = true := beq_self_eq_true _
   have k3 : ∀ q : ByteArray, (ByteArray.toList q == ByteArray.toList q) = true := fun q => beq_self_eq_true _
   rw [k1, k2, k3, k3]
   rfl
theorem td_loop (p1 p2 : Nat -> Nat × Nat) {la lb : List Dc} (hst : la.map Dc.strip = lb.map Dc.strip) (hl : la.length <= 40000) : ∀ (k i : Nat), la.length - i < k -> i <= la.length →
  ∃ x, l_slices_EqualFunc___api_Decl___api_Decl_api_Decl_api_Decl__4 n k (lb.map (encD p2), la.map (encD p1), ((List.length (la.map (encD p1)) : Nat) : Int), (i : Int)) = some x /\ Sum.elim (fun p4 => some p4) (fun x3' => (fun p5 => some true) x3') x = some true := by
 have hll : la.length = lb.length := by
  have := congrArg List.length hst
  rwa [List.length_map, List.length_map] at this
 intro k
 induction k with
 | zero => intro i h; omega
 | succ k ih =>
  intro i hk hi
  show ∃ x, l_slices_EqualFunc___api_Decl___api_Decl_api_Decl_api_Decl__4_B n (l_slices_EqualFunc___api_Decl___api_Decl_api_Decl_api_Decl__4 n k) _ = some x /\ _
  unfold l_slices_EqualFunc___api_Decl___api_Decl_api_Decl_api_Decl__4_B
  simp only
  have ih' := ih (i + 1)
  rw [List.length_map] at ih' ⊢
  by_cases h : ¬ i < la.length
  ·rw [decide_eq_false (by omega), cond_false]
   exact ⟨_, rfl, rfl⟩
  have h : i < la.length := by omega
  have h2 : i < lb.length := by omega
  have hup : IntKind.wrap .i64 ((i : Int) + 1) = ((i + 1 : Nat) : Int) := by rw [wrap_id (by omega) (by omega)]; omega
  have hs : la[i].strip = lb[i].strip := by
   have e : (la.map Dc.strip)[i]? = (lb.map Dc.strip)[i]? := by rw [hst]
   rw [List.getElem?_map, List.getElem?_map, List.getElem?_eq_getElem h, List.getElem?_eq_getElem h2] at e
   simpa using e
  rw [decide_eq_true (show (i : Int) < ((la.length : Nat) : Int) by omega), cond_true, idx_D p1 h, Option.bind_some, idx_D p2 h2, Option.bind_some, hup]
  generalize la[i] = x at *
  generalize lb[i] = y at *
  obtain ⟨kd, nm, mm, p⟩ := x
  obtain ⟨kd', nm', mm', p'⟩ := y
  simp only [Dc.strip, Dc.mk.injEq, and_true] at hs
  obtain ⟨rfl, rfl, rfl⟩ := hs
  have cc : ∀ (pl : Nat -> Nat × Nat) (q : Nat), ((encD pl ⟨kd, nm, mm, q⟩).cell 0).int = kd /\ ((encD pl ⟨kd, nm, mm, q⟩).cell 1).str = B nm /\ ((encD pl ⟨kd, nm, mm, q⟩).cell 2).int = (mm : Int) := fun _ _ => ⟨rfl, rfl, rfl⟩
  obtain ⟨a0, a1, a2⟩ := cc p1 p
  obtain ⟨b0, b1, b2⟩ := cc p2 p'
  have k1 : ((kd : Int) == kd) = true := beq_self_eq_true _
  have k2 : ((((mm : Nat) : Int) : Int) == ((mm : Nat) : Int)) = true := beq_self_eq_true _
  have k3 : ∀ q : ByteArray, (ByteArray.toList q == ByteArray.toList q) = true := fun q => beq_self_eq_true _
  unfold m_tree_Same_1
  rw [a0, b0, a1, b1, a2, b2, k1, k2, k3]
  exact ih' (by omega) (by omega)
theorem tt2_loop (hn : 100000 < n) (p1 p2 : Nat -> Nat × Nat) {la lb : List (List St)} (hok : okTL la) (hlen : (ttL la).length <= 40000) (hst : la.map stripL = lb.map stripL) (hl : la.length <= 40000) : ∀ (k i : Nat), la.length - i < k -> i <= la.length →
  ∃ x, l_slices_EqualFunc_____api_Stmt_____api_Stmt___api_Stmt___api_Stmt__4 n k (lb.map (encT p2), la.map (encT p1), ((List.length (la.map (encT p1)) : Nat) : Int), (i : Int)) = some x /\ Sum.elim (fun p4 => some p4) (fun x3' => (fun p5 => some true) x3') x = some true := by
 have hll : la.length = lb.length := by
  have := congrArg List.length hst
  rwa [List.length_map, List.length_map] at this
 have hsub : ∀ {l : List (List St)} {i : Nat} (hi : i < l.length), (txL l[i] 1).length <= (ttL l).length := by
  intro l
  induction l with
  | nil => intro i hi; simp at hi
  | cons q l ih =>
   intro i hi
   cases i with
   | zero => simp only [ttL, List.length_append, List.length_cons, List.getElem_cons_zero]; omega
   | succ i =>
    have := ih (i := i) (by simpa using hi)
    simp only [ttL, List.length_append, List.length_cons, List.getElem_cons_succ]
    omega
 intro k
 induction k with
 | zero => intro i h; omega
 | succ k ih =>
  intro i hk hi
  show ∃ x, l_slices_EqualFunc_____api_Stmt_____api_Stmt___api_Stmt___api_Stmt__4_B n (l_slices_EqualFunc_____api_Stmt_____api_Stmt___api_Stmt___api_Stmt__4 n k) _ = some x /\ _
  unfold l_slices_EqualFunc_____api_Stmt_____api_Stmt___api_Stmt___api_Stmt__4_B
  simp only
  have ih' := ih (i + 1)
  rw [List.length_map] at ih' ⊢
  by_cases h : ¬ i < la.length
  ·rw [decide_eq_false (by omega), cond_false]
   exact ⟨_, rfl, rfl⟩
  have h : i < la.length := by omega
  have h2 : i < lb.length := by omega
  have hup : IntKind.wrap .i64 ((i : Int) + 1) = ((i + 1 : Nat) : Int) := by rw [wrap_id (by omega) (by omega)]; omega
  have hs : stripL la[i] = stripL lb[i] := by
   have e : (la.map stripL)[i]? = (lb.map stripL)[i]? := by rw [hst]
   rw [List.getElem?_map, List.getElem?_map, List.getElem?_eq_getElem h, List.getElem?_eq_getElem h2] at e
   simpa using e
  have hq := hsub h
  rw [decide_eq_true (show (i : Int) < ((la.length : Nat) : Int) by omega), cond_true, idx_T p1 h, Option.bind_some, idx_T p2 h2, Option.bind_some, hup]
  rw [show ((encT p1 la[i]).cell 0).lst = encSL p1 la[i] from rfl, show ((encT p2 lb[i]).cell 0).lst = encSL p2 lb[i] from rfl, show m_tree_sameBlock n (encSL p1 la[i]) (encSL p2 lb[i]) = some true from (ts_ok hn n).bl p1 p2 la[i] lb[i] 1 (hok _ (List.getElem_mem h)) (by omega) (by omega) (by omega) hs, Option.bind_some, Bool.not_true, cond_false]
  exact ih' (by omega) (by omega)
theorem treeSame_eq (hn : 100000 < n) (p1 p2 : Nat -> Nat × Nat) {da db : List Dc} {la lb : List (List St)} (hd : da.map Dc.strip = db.map Dc.strip) (hdl : da.length <= 40000) (hok : okTL la) (hlen : (ttL la).length <= 40000) (hst : la.map stripL = lb.map stripL) (hl : la.length <= 40000) :
  m_tree_Same n (da.map (encD p1)) (la.map (encT p1)) (db.map (encD p2)) (lb.map (encT p2)) = some true := by
 have hll : la.length = lb.length := by
  have := congrArg List.length hst
  rwa [List.length_map, List.length_map] at this
 have hdd : da.length = db.length := by
  have := congrArg List.length hd
  rwa [List.length_map, List.length_map] at this
 unfold m_tree_Same
 obtain ⟨x, q1, q2⟩ := td_loop (n := n) p1 p2 hd hdl n 0 (by omega) (by omega)
 obtain ⟨y, r1, r2⟩ := tt2_loop (n := n) hn p1 p2 hok hlen hst hl n 0 (by omega) (by omega)
 have hD : m_slices_EqualFunc___api_Decl___api_Decl_api_Decl_api_Decl_ n (da.map (encD p1)) (db.map (encD p2)) = some true := by
  unfold m_slices_EqualFunc___api_Decl___api_Decl_api_Decl_api_Decl_
  have q1' : l_slices_EqualFunc___api_Decl___api_Decl_api_Decl_api_Decl__4 n n (db.map (encD p2), da.map (encD p1), ((List.length (da.map (encD p1)) : Nat) : Int), 0) = some x := q1
  rw [q1', List.length_map, List.length_map, hdd, bne_self_eq_false, cond_false, Option.bind_some]
  exact q2
 have hT : m_slices_EqualFunc_____api_Stmt_____api_Stmt___api_Stmt___api_Stmt_ n (la.map (encT p1)) (lb.map (encT p2)) = some true := by
  unfold m_slices_EqualFunc_____api_Stmt_____api_Stmt___api_Stmt___api_Stmt_
  have r1' : l_slices_EqualFunc_____api_Stmt_____api_Stmt___api_Stmt___api_Stmt__4 n n (lb.map (encT p2), la.map (encT p1), ((List.length (la.map (encT p1)) : Nat) : Int), 0) = some y := r1
  rw [r1', List.length_map, List.length_map, hll, bne_self_eq_false, cond_false, Option.bind_some]
  exact r2
 rw [hD, Option.bind_some, cond_true, hT, Option.bind_some, cond_true]
theorem kindOf_eq {k : Int} (h : 1 <= k /\ k <= 6) : m_text_kindOf n k = some (B (declW k)) := by
 rcases kinds h with rfl | rfl | rfl | rfl | rfl | rfl <;> rfl
theorem pd_loop (pl : Nat -> Nat × Nat) {l : List Dc} (hok : okDL l) (hl : l.length <= 1000) (x y : List T) : ∀ (k i : Nat) (u : List UInt8), l.length - i < k -> i <= l.length -> u.length + (dtL (l.drop i)).length <= 40000 →
  l_text_Print_3 n k (B u, l.map (encD pl), ((List.length (l.map (encD pl)) : Nat) : Int), (i : Int), x, y) = some (B (u ++ dtL (l.drop i)), x, y) := by
 intro k
 induction k with
 | zero => intro i u h; omega
 | succ k ih =>
  intro i u hk hi hlen
  show l_text_Print_3_B n (l_text_Print_3 n k) _ = _
  unfold l_text_Print_3_B
  simp only
  have ih' := ih (i + 1)
  rw [List.length_map] at ih' ⊢
  by_cases h : ¬ i < l.length
  ·rw [decide_eq_false (by omega), cond_false, List.drop_eq_nil_of_le (by omega)]
   simp only [dtL, List.append_nil]
  have h : i < l.length := by omega
  have hdrop : l.drop i = l[i] :: l.drop (i + 1) := List.drop_eq_getElem_cons h
  have hd : okD l[i] := hok _ (List.getElem_mem h)
  have hup : IntKind.wrap .i64 ((i : Int) + 1) = ((i + 1 : Nat) : Int) := by rw [wrap_id (by omega) (by omega)]; omega
  rw [decide_eq_true (show (i : Int) < ((l.length : Nat) : Int) by omega), cond_true, idx_D pl h, Option.bind_some, hup]
  rw [hdrop] at hlen ⊢
  generalize l[i] = s at *
  simp only [dtL] at hlen ⊢
  simp only [List.length_append, List.length_cons] at hlen
  obtain ⟨kd, nm, num, p⟩ := s
  obtain ⟨hk6, hN, h0, h3⟩ := hd
  simp only at hk6 hN h0 h3
  have c0 : ((encD pl ⟨kd, nm, num, p⟩).cell 0).int = kd := rfl
  have c1 : ((encD pl ⟨kd, nm, num, p⟩).cell 1).str = B nm := rfl
  have c2 : ((encD pl ⟨kd, nm, num, p⟩).cell 2).int = (num : Int) := rfl
  have hwl : (declW kd).length <= 6 := by rcases kinds hk6 with rfl | rfl | rfl | rfl | rfl | rfl <;> decide
  rw [c0, c1, c2, kindOf_eq hk6]
  by_cases h6 : kd = 6
  ·have htx : dtx ⟨kd, nm, num, p⟩ = declW kd ++ 32 :: (nm ++ 32 :: Lib.decDigits num) := by simp only [dtx, h6, if_true]
   rw [htx] at hlen ⊢
   simp only [List.length_append, List.length_cons] at hlen
   have hln : m_text_line n 0 [T.sc (.string (B (declW kd))), T.sc (.string (B nm)), T.sc (.string (B (Lib.decDigits num)))] = some (B (tabsL 0 ++ (declW kd ++ 32 :: (nm ++ 32 :: Lib.decDigits num) ++ [10]))) := l3 0 (declW kd) nm (Lib.decDigits num) (by omega) (by omega)
   rw [show ((kd : Int) == 6) = true by rw [h6]; rfl, cond_true, Option.bind_some, itoa_ok (by omega), Option.bind_some, hln, Option.bind_some, must_cat (by simp only [tabsL, List.replicate, List.length_append, List.length_cons, List.length_nil]; omega), B_append]
   rw [ih' _ (by omega) (by omega) (by simp only [tabsL, List.replicate, List.length_append, List.length_cons, List.length_nil]; omega)]
   simp [tabsL]
  ·have htx : dtx ⟨kd, nm, num, p⟩ = declW kd ++ 32 :: nm := by simp only [dtx, h6, if_false, List.append_nil]
   rw [htx] at hlen ⊢
   simp only [List.length_append, List.length_cons] at hlen
   have hln : m_text_line n 0 [T.sc (.string (B (declW kd))), T.sc (.string (B nm))] = some (B (tabsL 0 ++ (declW kd ++ 32 :: nm ++ [10]))) := l2 0 (declW kd) nm (by omega) (by omega)
   rw [show ((kd : Int) == 6) = false from beq_eq_false_iff_ne.2 h6, cond_false, Option.bind_some, hln, Option.bind_some, must_cat (by simp only [tabsL, List.replicate, List.length_append, List.length_cons, List.length_nil]; omega), B_append]
   rw [ih' _ (by omega) (by omega) (by simp only [tabsL, List.replicate, List.length_append, List.length_cons, List.length_nil]; omega)]
   simp [tabsL]
def exTL (l : List (List St)) : Prop := ∀ t ∈ l, exL t
theorem pt_loop (hn : 100000 < n) (pl : Nat -> Nat × Nat) {l : List (List St)} (hok : okTL l) (hex : exTL l) (hl : l.length <= 1000) (x y : List T) : ∀ (k i : Nat) (u : List UInt8), l.length - i < k -> i <= l.length -> u.length + (ttL (l.drop i)).length <= 40000 →
  l_text_Print_10 n k (B u, l.map (encT pl), ((List.length (l.map (encT pl)) : Nat) : Int), (i : Int), x, y) = some (B (u ++ ttL (l.drop i)), x, y) := by
 intro k
 induction k with
 | zero => intro i u h; omega
 | succ k ih =>
  intro i u hk hi hlen
  show l_text_Print_10_B n (l_text_Print_10 n k) _ = _
  unfold l_text_Print_10_B
  simp only
  have ih' := ih (i + 1)
  rw [List.length_map] at ih' ⊢
  by_cases h : ¬ i < l.length
  ·rw [decide_eq_false (by omega), cond_false, List.drop_eq_nil_of_le (by omega)]
   simp only [ttL, List.append_nil]
  have h : i < l.length := by omega
  have hdrop : l.drop i = l[i] :: l.drop (i + 1) := List.drop_eq_getElem_cons h
  have hd : okL l[i] 1 := hok _ (List.getElem_mem h)
  have he : exL l[i] := hex _ (List.getElem_mem h)
  have hup : IntKind.wrap .i64 ((i : Int) + 1) = ((i + 1 : Nat) : Int) := by rw [wrap_id (by omega) (by omega)]; omega
  rw [decide_eq_true (show (i : Int) < ((l.length : Nat) : Int) by omega), cond_true, idx_T pl h, Option.bind_some, hup]
  rw [hdrop] at hlen ⊢
  generalize l[i] = s at *
  simp only [ttL] at hlen ⊢
  simp only [List.length_append, List.length_cons] at hlen
  have wg : wGo.length = 2 := rfl
  have h1 : m_text_line n 0 [T.sc (.string (⟨#[103, 111]⟩ : ByteArray)), T.sc (.string (⟨#[123]⟩ : ByteArray))] = some (B (tabsL 0 ++ (wGo ++ 32 :: [123] ++ [10]))) := l2 0 wGo [123] (by omega) (by simp only [List.length_cons, List.length_nil]; omega)
  have h2 : m_text_line n 0 [T.sc (.string (⟨#[125]⟩ : ByteArray))] = some (B (tabsL 0 ++ ([125] ++ [10]))) := l1 0 [125] (by omega) (by simp)
  rw [show ((encT pl s).cell 0).lst = encSL pl s from rfl, h1, Option.bind_some, textB_eq hn pl hd he (by omega), Option.bind_some]
  rw [must_cat (by simp only [tabsL, List.replicate, List.length_append, List.length_cons, List.length_nil]; omega), B_append, h2, Option.bind_some, must_cat (by simp only [tabsL, List.replicate, List.length_append, List.length_cons, List.length_nil]; omega), B_append, must_cat (by simp only [tabsL, List.replicate, List.length_append, List.length_cons, List.length_nil]; omega), B_append]
  rw [ih' _ (by omega) (by omega) (by simp only [tabsL, List.replicate, List.length_append, List.length_cons, List.length_nil]; omega)]
  simp [tabsL]
mutual
theorem exS_of : ∀ (s : St) (d : Nat), okS s d -> (tx s d).length <= 6000 -> exS s
 | .mk k nm o mm e body els p, d, h, hl => by
  obtain ⟨t1, t2, t3, t4, t5, t6⟩ := tx_sub h
  simp only [exS]
  exact ⟨by omega, exL_of body (d + 1) t3 (by omega), exL_of els (d + 1) t4 (by omega)⟩
theorem exL_of : ∀ (l : List St) (d : Nat), okL l d -> (txL l d).length <= 6000 -> exL l
 | [], d, _, _ => by simp only [exL]
 | s :: l, d, h, hl => by
  simp only [okL] at h
  simp only [txL, List.length_append, List.length_cons] at hl
  simp only [exL]
  exact ⟨exS_of s d h.1 (by omega), exL_of l d h.2 (by omega)⟩
end
theorem exTL_of : ∀ {l : List (List St)}, okTL l -> (ttL l).length <= 6000 -> exTL l
 | [], _, _ => fun t ht => by simp at ht
 | x :: l, h, hl => by
  simp only [ttL, List.length_append, List.length_cons] at hl
  intro t ht
  rcases List.mem_cons.1 ht with rfl | ht
  ·exact exL_of _ 1 (h _ (by simp)) (by omega)
  ·exact exTL_of (fun x hx => h x (by simp [hx])) (by omega) t ht
theorem printP_eq (hn : 100000 < n) (pl : Nat -> Nat × Nat) {ds : List Dc} {tl : List (List St)} (hd : okDL ds) (h24 : ds.length <= 24) (ht : okTL tl) (h4 : tl.length <= 4) (hne : tl ≠ []) (hlen : (dtL ds ++ ttL tl).length <= 6000) :
  m_text_Print n (ds.map (encD pl)) (tl.map (encT pl)) = some (B (dtL ds ++ ttL tl)) := by
 have hlen' := hlen
 rw [List.length_append] at hlen'
 have hx : Lx0 (dtL ds ++ ttL tl) (tkDL ds ++ tkTL tl) := (lx_DL hd).append0 (lx_TL ht)
 obtain ⟨la, da, ta, a1, a2, a3, a4⟩ := read_Pg hx hd h24 ht h4 hne
 obtain ⟨k1, k2⟩ := okTL_same a4 ht
 have hda : da.length = ds.length := by have := congrArg List.length a3; simpa using this
 have hta : ta.length = tl.length := by have := congrArg List.length a4; simpa using this
 unfold m_text_Print
 have e1 := pd_loop (n := n) pl hd (by omega) (ds.map (encD pl)) (tl.map (encT pl)) n 0 [] (by omega) (by omega) (by simp only [List.drop_zero, List.length_nil]; omega)
 rw [List.drop_zero, List.nil_append] at e1
 have e2 := pt_loop (n := n) hn pl ht (exTL_of ht (by omega)) (by omega) (ds.map (encD pl)) (tl.map (encT pl)) n 0 (dtL ds) (by omega) (by omega) (by simp only [List.drop_zero]; omega)
 rw [List.drop_zero] at e2
 have e1' : l_text_Print_3 n n ((⟨#[]⟩ : ByteArray), ds.map (encD pl), ((List.length (ds.map (encD pl)) : Nat) : Int), 0, ds.map (encD pl), tl.map (encT pl)) = some (B (dtL ds), ds.map (encD pl), tl.map (encT pl)) := e1
 have e2' : l_text_Print_10 n n (B (dtL ds), tl.map (encT pl), ((List.length (tl.map (encT pl)) : Nat) : Int), 0, ds.map (encD pl), tl.map (encT pl)) = some (B (dtL ds ++ ttL tl), ds.map (encD pl), tl.map (encT pl)) := e2
 rw [e1', Option.bind_some]
 simp only
 rw [e2', Option.bind_some]
 simp only
 rw [read_ok hn hlen a1 a2, Option.bind_some]
 simp only
 rw [show (!((0 : Int) != 0)) = true from rfl, cond_true, treeSame_eq hn _ _ a3 (by omega) k1 (by omega) a4 (by omega), Option.bind_some]
 rfl
theorem text_ne {ds : List Dc} {tl : List (List St)} (hne : tl ≠ []) : dtL ds ++ ttL tl ≠ [] := by
 cases tl with
 | nil => exact absurd rfl hne
 | cons x l => intro h; have := congrArg List.length h; simp [ttL] at this
theorem right_eq (hn : 100000 < n) (pl : Nat -> Nat × Nat) {ds : List Dc} {tl : List (List St)} (hd : okDL ds) (h24 : ds.length <= 24) (ht : okTL tl) (h4 : tl.length <= 4) (hne : tl ≠ []) (hlen : (dtL ds ++ ttL tl).length <= 6000) :
  m_text_Right n (ds.map (encD pl)) (tl.map (encT pl)) = some true := by
 unfold m_text_Right
 rw [printP_eq hn pl hd h24 ht h4 hne hlen, Option.bind_some, empty_test, decide_eq_false (text_ne hne)]
 rfl
theorem kn6 (n : Nat) : m_suturelaw6_known n = some true := rfl
end
theorem textJoins_law (how : Int) (a b : List Act5) : ∃ n, m_suturelaw6_TextJoins n how (a.map Act5.t) (b.map Act5.t) = some true := by
 refine ⟨200000, ?_⟩
 generalize hn : 200000 = n
 have hn1 : 100000 < n := by omega
 clear hn
 unfold m_suturelaw6_TextJoins
 obtain ⟨ds, tl, h1, h2, h3, h4, h5, h6, h7⟩ := make_eq hn1 how a b [] 4
 have h1' : m_suturehand_Prog n how (a.map Act5.t) (b.map Act5.t) [] 4 = some (ds.map (encD pl0), tl.map (encT pl0)) := h1
 rw [h1', Option.bind_some]
 have h22 : tl.length = 2 := by rcases h6 with h | ⟨_, h, _⟩; exact h; exact absurd rfl h
 match tl, h22 with
 | [t1, t2], _ =>
 have ho1 : okTL [t1] := fun t ht => h5 t (by simp at ht; simp [ht])
 have ho2 : okTL [t2] := fun t ht => h5 t (by simp at ht; simp [ht])
 have wg : wGo.length = 2 := rfl
 simp only [ttL, List.length_append, List.length_cons, List.length_nil] at h7
 have hd0 : okDL [] := fun d hd => by simp at hd
 have x1 := printP_eq (n := n) hn1 pl0 h2 (by omega) h5 (by simp) (by simp) (by simp only [ttL, List.length_append, List.length_cons, List.length_nil]; omega)
 have x2 := printP_eq (n := n) hn1 pl0 h2 (by omega) ho1 (by simp) (by simp) (by simp only [ttL, List.length_append, List.length_cons, List.length_nil]; omega)
 have x3 : m_text_Print n [] ([t2].map (encT pl0)) = some (B (dtL [] ++ ttL [t2])) := printP_eq (n := n) hn1 pl0 hd0 (by simp) ho2 (by simp) (by simp) (by simp only [dtL, ttL, List.length_append, List.length_cons, List.length_nil]; omega)
 have x4 := right_eq (n := n) hn1 pl0 h2 (by omega) h5 (by simp) (by simp) (by simp only [ttL, List.length_append, List.length_cons, List.length_nil]; omega)
 have s1 : List.drop (Int.toNat 0) (List.take (Int.toNat 1) ([t1, t2].map (encT pl0))) = [t1].map (encT pl0) := rfl
 have s2 : List.drop (Int.toNat 1) (List.take (Int.toNat ((List.length ([t1, t2].map (encT pl0)) : Nat) : Int)) ([t1, t2].map (encT pl0))) = [t2].map (encT pl0) := rfl
 simp only
 rw [show ((((List.length ([t1, t2].map (encT pl0)) : Nat) : Int) : Int) != 2) = false from rfl, cond_false, s1, s2]
 rw [must_eq (by rfl), must_eq (by rfl), kn6, Option.bind_some, cond_true, x4, Option.bind_some]
 rw [show (bif true then true else false) = true from rfl, cond_true, cond_true, cond_true, x1, Option.bind_some, x2, Option.bind_some, x3, Option.bind_some, must_cat (by simp only [dtL, ttL, List.length_append, List.length_cons, List.length_nil]; omega), B_append]
 rw [show dtL ds ++ ttL [t1, t2] = dtL ds ++ ttL [t1] ++ (dtL [] ++ ttL [t2]) by simp [dtL, ttL], cond_true]
 exact congrArg some (beq_self_eq_true _)
end Go.Proofs.YtbcgpjlkkcdmmaaGreatDoor.W
namespace Go.Proofs.YtbcgpjlkkcdmmaaGreatDoor.W
open Go Go.Eng Go.Eng.Fl Go.RowKit
set_option linter.unusedVariables false
set_option linter.unusedSimpArgs false
set_option linter.unusedSectionVars false
mutual
def preS : St -> List St
 | .mk k n o m e body els p => .mk k n o m e body els p :: (preL body ++ preL els)
def preL : List St -> List St
 | [] => []
 | s :: r => preS s ++ preL r
end
def preTL : List (List St) -> List St
 | [] => []
 | l :: r => preL l ++ preTL r
theorem tx_sum {k : Int} {nm o : List UInt8} {m : Nat} {e : Option E} {body els : List St} {p d : Nat} (h : okS (.mk k nm o m e body els p) d) : (txL body (d + 1)).length + (txL els (d + 1)).length <= (tx (.mk k nm o m e body els p) d).length := by
 have nl : (txL [] (d + 1)).length = 0 := by simp only [txL, List.length_nil]
 unfold okS at h
 split at h
 ·obtain ⟨_, _, _, he, rfl, rfl⟩ := h; omega
 split at h
 ·obtain ⟨_, _, _, rfl, rfl, rfl⟩ := h; omega
 split at h
 ·obtain ⟨_, _, _, he, rfl, rfl⟩ := h; omega
 split at h
 ·obtain ⟨_, _, _, rfl, rfl, rfl⟩ := h; omega
 split at h
 ·obtain ⟨_, _, _, he, rfl, rfl⟩ := h; omega
 split at h
 ·rename_i hk; subst hk
  cases els with
  | nil => simp only [tx, Int.reduceEq, if_false, if_true, List.length_append, List.length_cons]; omega
  | cons y els => simp only [tx, Int.reduceEq, if_false, if_true, List.length_append, List.length_cons]; omega
 split at h
 ·rename_i hk; subst hk
  obtain ⟨_, _, _, rfl, hd, hB, rfl⟩ := h
  unfold tx
  simp only [Int.reduceEq, if_false, if_true, List.length_append, List.length_cons]; omega
 ·exact h.elim
mutual
theorem preS_len : ∀ (s : St) (d : Nat), okS s d -> (preS s).length <= (tx s d).length + 1
 | .mk k n o m e body els p, d, h => by
  have h0 := tx_sum h
  obtain ⟨_, _, t3, t4, _⟩ := tx_sub h
  have h1 := preL_len body (d + 1) t3
  have h2 := preL_len els (d + 1) t4
  simp only [preS, List.length_cons, List.length_append]
  omega
theorem preL_len : ∀ (l : List St) (d : Nat), okL l d -> (preL l).length <= (txL l d).length
 | [], d, _ => by simp [preL]
 | s :: l, d, h => by
  simp only [okL] at h
  have h1 := preS_len s d h.1
  have h2 := preL_len l d h.2
  simp only [preL, txL, List.length_append, List.length_cons]
  omega
end
section
variable {n : Nat}
theorem sizedS11 (pl : Nat -> Nat × Nat) (l : List St) : sized 11 (l.map (encS pl)) = true := by
 unfold sized
 rw [List.all_map, List.all_eq_true]
 intro x _
 cases x
 simp only [Function.comp, encS]
 rfl
structure BkOk (b : B_sutureref1_block) (m : Nat) : Prop where
 bl : ∀ (pl : Nat -> Nat × Nat) (l : List St) (d : Nat), okL l d -> d <= 8 -> 9 < m + d -> (txL l d).length <= 40000 -> b.sutureref1_block (encSL pl l) = some ((preL l).map (encS pl))
 nil : 0 < m -> b.sutureref1_block [] = some []
theorem bk_loop {b : B_sutureref1_block} {m : Nat} (hb : BkOk b m) (pl : Nat -> Nat × Nat) {l : List St} {d : Nat} (hok : okL l d) (hd : d <= 8) (hm : 9 < m + 1 + d) (hl4 : (txL l d).length <= 40000) : ∀ (k i : Nat) (acc : List St), l.length - i < k -> i <= l.length -> acc.length + (txL (l.drop i) d).length <= 40000 →
  l_sutureref1_block_3 b n k (encSL pl l, acc.map (encS pl), (i : Int)) = some ((acc ++ preL (l.drop i)).map (encS pl)) := by
 intro k
 induction k with
 | zero => intro i u h; omega
 | succ k ih =>
  intro i acc hk hi hu
  show l_sutureref1_block_3_B b n (l_sutureref1_block_3 b n k) _ = _
  unfold l_sutureref1_block_3_B
  simp only
  by_cases h : ¬ i < l.length
  ·rw [encSL_len, decide_eq_false (by omega), cond_false, List.drop_eq_nil_of_le (by omega)]
   simp only [preL, List.append_nil]
  have h : i < l.length := by omega
  have hdrop : l.drop i = l[i] :: l.drop (i + 1) := List.drop_eq_getElem_cons h
  have hoS := okL_at hok h
  have hll := txL_len l d
  have hup : IntKind.wrap .i64 ((i : Int) + 1) = ((i + 1 : Nat) : Int) := by rw [wrap_id (by omega) (by omega)]; omega
  rw [encSL_len, decide_eq_true (show (i : Int) < ((l.length : Nat) : Int) by omega), cond_true, idx_S pl h]
  simp only [Option.bind_some]
  rw [hup]
  rw [hdrop] at hu ⊢
  generalize l[i] = s at *
  obtain ⟨kd, nm, o, mm, e, body, els, p⟩ := s
  simp only [txL, List.length_append, List.length_cons] at hu
  obtain ⟨t1, t2, t3, t4, t5, t6⟩ := tx_sub hoS
  have hsum := tx_sum hoS
  have e1 : (T.agg [(T.sc (.int .i64 ((encS pl (.mk kd nm o mm e body els p)).cell 0).int)), (T.sc (.string ((encS pl (.mk kd nm o mm e body els p)).cell 1).str)), (T.sc (.string ((encS pl (.mk kd nm o mm e body els p)).cell 2).str)), (T.sc (.int .i64 ((encS pl (.mk kd nm o mm e body els p)).cell 3).int)), (T.sc (.int .i64 ((encS pl (.mk kd nm o mm e body els p)).cell 4).int)), (T.sc (.int .i64 ((encS pl (.mk kd nm o mm e body els p)).cell 5).int)), (T.sc (.string ((encS pl (.mk kd nm o mm e body els p)).cell 6).str)), (T.list ((encS pl (.mk kd nm o mm e body els p)).cell 7).lst), (T.list ((encS pl (.mk kd nm o mm e body els p)).cell 8).lst), (T.list ((encS pl (.mk kd nm o mm e body els p)).cell 9).lst), (T.sc (.complex .f64 ((encS pl (.mk kd nm o mm e body els p)).cell 10).re ((encS pl (.mk kd nm o mm e body els p)).cell 10).im))]) = encS pl (.mk kd nm o mm e body els p) := by
   simp only [encS]
   rfl
  have c8 : ((encS pl (.mk kd nm o mm e body els p)).cell 8).lst = encSL pl body := by simp only [encS]; rfl
  have c9 : ((encS pl (.mk kd nm o mm e body els p)).cell 9).lst = encSL pl els := by simp only [encS]; rfl
  rw [e1, c8, c9]
  have hbo : b.sutureref1_block (encSL pl body) = some ((preL body).map (encS pl)) := by
   rcases t5 with h8 | ⟨rfl, rfl⟩
   ·exact hb.bl pl body (d + 1) t3 (by omega) (by omega) (by omega)
   ·simp only [encSL, preL]; exact hb.nil (by omega)
  have hel : b.sutureref1_block (encSL pl els) = some ((preL els).map (encS pl)) := by
   rcases t5 with h8 | ⟨rfl, rfl⟩
   ·exact hb.bl pl els (d + 1) t4 (by omega) (by omega) (by omega)
   ·simp only [encSL, preL]; exact hb.nil (by omega)
  have n1 := preL_len body (d + 1) t3
  have n2 := preL_len els (d + 1) t4
  have y1 : sized 11 [encS pl (.mk kd nm o mm e body els p)] = true := sizedS11 pl [St.mk kd nm o mm e body els p]
  rw [hbo, hel]
  simp only [Option.bind_some]
  have x1 : acc.map (encS pl) ++ [encS pl (.mk kd nm o mm e body els p)] = (acc ++ [St.mk kd nm o mm e body els p]).map (encS pl) := by simp
  rw [fit11 _ _ (by rw [List.length_map]; omega) y1, x1]
  rw [must_eq (by rw [sizedS11, Bool.and_true, List.length_map, List.length_map, decide_eq_true (by simp only [List.length_append, List.length_cons, List.length_nil]; omega)]; rfl), <- List.map_append]
  rw [must_eq (by rw [sizedS11, Bool.and_true, List.length_map, List.length_map, decide_eq_true (by simp only [List.length_append, List.length_cons, List.length_nil]; omega)]; rfl), <- List.map_append]
  rw [ih (i + 1) _ (by omega) (by omega) (by simp only [List.length_append, List.length_cons, List.length_nil]; omega)]
  simp [preL, preS]
theorem bk_ok (hn : 100000 < n) : ∀ m, BkOk (unB_sutureref1_block n m) m
 | 0 => ⟨fun pl l d _ h1 h2 => by omega, fun h => by omega⟩
 | m + 1 => by
  have ih := bk_ok hn m
  refine ⟨fun pl l d hok hd hm hlen => ?_, fun _ => ?_⟩
  ·have hl := txL_len l d
   show f_sutureref1_block (unB_sutureref1_block n m) n (encSL pl l) = _
   unfold f_sutureref1_block
   have h := bk_loop (n := n) ih pl hok hd (by omega) hlen n 0 [] (by omega) (by omega) (by simp only [List.drop_zero, List.length_nil]; omega)
   rw [List.drop_zero, List.nil_append] at h
   rw [show l_sutureref1_block_3 (unB_sutureref1_block n m) n n (encSL pl l, ([] : List T), 0) = _ from h, Option.bind_some]
  ·show f_sutureref1_block (unB_sutureref1_block n m) n [] = _
   obtain ⟨j, rfl⟩ : ∃ j, n = j + 1 := ⟨n - 1, by omega⟩
   rfl
theorem ls_loop (hn : 100000 < n) (pl : Nat -> Nat × Nat) {l : List (List St)} (hok : okTL l) (hl : l.length <= 1000) (x : List T) : ∀ (k i : Nat) (acc : List St), l.length - i < k -> i <= l.length -> acc.length + (ttL (l.drop i)).length <= 40000 →
  l_sutureref1_List_3 n k (acc.map (encS pl), (i : Int), x, l.map (encT pl)) = some ((acc ++ preTL (l.drop i)).map (encS pl), x, l.map (encT pl)) := by
 intro k
 induction k with
 | zero => intro i u h; omega
 | succ k ih =>
  intro i acc hk hi hlen
  show l_sutureref1_List_3_B n (l_sutureref1_List_3 n k) _ = _
  unfold l_sutureref1_List_3_B
  simp only
  rw [List.length_map]
  by_cases h : ¬ i < l.length
  ·rw [decide_eq_false (by omega), cond_false, List.drop_eq_nil_of_le (by omega)]
   simp only [preTL, List.append_nil]
  have h : i < l.length := by omega
  have hdrop : l.drop i = l[i] :: l.drop (i + 1) := List.drop_eq_getElem_cons h
  have hd : okL l[i] 1 := hok _ (List.getElem_mem h)
  have hup : IntKind.wrap .i64 ((i : Int) + 1) = ((i + 1 : Nat) : Int) := by rw [wrap_id (by omega) (by omega)]; omega
  rw [decide_eq_true (show (i : Int) < ((l.length : Nat) : Int) by omega), cond_true, hup, idx_T pl h, Option.bind_some]
  rw [hdrop] at hlen ⊢
  generalize l[i] = s at *
  simp only [ttL, List.length_append, List.length_cons] at hlen
  have hn2 := preL_len s 1 hd
  rw [show ((encT pl s).cell 0).lst = encSL pl s from rfl, show m_sutureref1_block n (encSL pl s) = some ((preL s).map (encS pl)) from (bk_ok hn n).bl pl s 1 hd (by omega) (by omega) (by omega), Option.bind_some]
  rw [must_eq (by rw [sizedS11, Bool.and_true, List.length_map, List.length_map, decide_eq_true (by omega)]; rfl), <- List.map_append]
  rw [ih (i + 1) _ (by omega) (by omega) (by simp only [List.length_append]; omega)]
  simp [preTL]
theorem listP_eq (hn : 100000 < n) (pl : Nat -> Nat × Nat) (x : List T) {l : List (List St)} (hok : okTL l) (hl : l.length <= 1000) (hlen : (ttL l).length <= 40000) : m_sutureref1_List n x (l.map (encT pl)) = some ((preTL l).map (encS pl)) := by
 unfold m_sutureref1_List
 have h := ls_loop hn pl hok hl x n 0 [] (by omega) (by omega) (by simp only [List.drop_zero, List.length_nil]; omega)
 rw [List.drop_zero, List.nil_append] at h
 rw [show l_sutureref1_List_3 n n (([] : List T), 0, x, l.map (encT pl)) = _ from h, Option.bind_some]
def cn1 : St -> Nat
 | .mk k n o m e body els p => 1 + (if k = 7 \/ k = 8 then 1 else 0) + (if els = [] then 0 else 1)
def cn (l : List St) : Nat := (l.map cn1).sum
theorem cn_append (l k : List St) : cn (l ++ k) = cn l + cn k := by simp [cn]
theorem cn_cons (s : St) (l : List St) : cn (s :: l) = cn1 s + cn l := by simp [cn]
theorem cn1_le (s : St) : cn1 s <= 3 := by
 obtain ⟨k, n, o, m, e, body, els, p⟩ := s
 simp only [cn1]
 by_cases h : k = 7 \/ k = 8
 ·rw [if_pos h]; split <;> omega
 ·rw [if_neg h]; split <;> omega
theorem want_loop (pl : Nat -> Nat × Nat) (u : ByteArray) (x y : List T) {l : List St} (hl : l.length <= 40000) : ∀ (k i : Nat) (w : Nat), l.length - i < k -> i <= l.length -> w <= 1000 + 3 * i →
  l_suturelaw6_TextLines_6 n k (u, (w : Int), l.map (encS pl), ((List.length (l.map (encS pl)) : Nat) : Int), (i : Int), x, y) = some (u, ((w + cn (l.drop i) : Nat) : Int), x, y) := by
 intro k
 induction k with
 | zero => intro i u h; omega
 | succ k ih =>
  intro i w hk hi hw
  show l_suturelaw6_TextLines_6_B n (l_suturelaw6_TextLines_6 n k) _ = _
  unfold l_suturelaw6_TextLines_6_B
  simp only
  have ih' := ih (i + 1)
  rw [List.length_map] at ih' ⊢
  by_cases h : ¬ i < l.length
  ·rw [decide_eq_false (by omega), cond_false, List.drop_eq_nil_of_le (by omega)]
   simp [cn]
  have h : i < l.length := by omega
  have hdrop : l.drop i = l[i] :: l.drop (i + 1) := List.drop_eq_getElem_cons h
  have hup : IntKind.wrap .i64 ((i : Int) + 1) = ((i + 1 : Nat) : Int) := by rw [wrap_id (by omega) (by omega)]; omega
  have w1 : IntKind.wrap .i64 ((w : Int) + 1) = ((w + 1 : Nat) : Int) := by rw [wrap_id (by omega) (by omega)]; omega
  have w2 : IntKind.wrap .i64 (((w + 1 : Nat) : Int) + 1) = ((w + 2 : Nat) : Int) := by rw [wrap_id (by omega) (by omega)]; omega
  have w3 : IntKind.wrap .i64 (((w + 2 : Nat) : Int) + 1) = ((w + 3 : Nat) : Int) := by rw [wrap_id (by omega) (by omega)]; omega
  have hi2 := idx_S pl h
  rw [encSL_map] at hi2
  rw [decide_eq_true (show (i : Int) < ((l.length : Nat) : Int) by omega), cond_true, hi2, Option.bind_some, hup, w1, w2, w3]
  rw [hdrop, cn_cons]
  generalize l[i] = s at *
  obtain ⟨kd, nm, o, mm, e, body, els, p⟩ := s
  have c0 : ((encS pl (.mk kd nm o mm e body els p)).cell 0).int = kd := by simp only [encS]; rfl
  have c9 : ((encS pl (.mk kd nm o mm e body els p)).cell 9).lst = encSL pl els := by simp only [encS]; rfl
  rw [c0, c9, encSL_len]
  have hq : (bif ((kd : Int) == 7) then true else ((kd : Int) == 8)) = decide (kd = 7 \/ kd = 8) := by
   by_cases h7 : kd = 7
   ·subst h7; rfl
   ·rw [show ((kd : Int) == 7) = false from beq_eq_false_iff_ne.2 h7, cond_false]
    by_cases h8 : kd = 8
    ·subst h8; rfl
    ·rw [show ((kd : Int) == 8) = false from beq_eq_false_iff_ne.2 h8, decide_eq_false (by omega)]
  have he : decide ((((els.length : Nat) : Int) : Int) > 0) = decide (els ≠ []) := by
   cases els with
   | nil => rfl
   | cons y els => rw [decide_eq_true (by simp only [List.length_cons]; omega), decide_eq_true (by simp)]
  rw [hq, he]
  simp only [cn1]
  by_cases h7 : kd = 7 \/ kd = 8
  ·rw [decide_eq_true h7, cond_true, if_pos h7]
   by_cases h9 : els = []
   ·rw [decide_eq_false (by simp [h9]), cond_false, if_pos h9, ih' (w + 2) (by omega) (by omega) (by omega)]
    congr 3; omega
   ·rw [decide_eq_true h9, cond_true, if_neg h9, ih' (w + 3) (by omega) (by omega) (by omega)]
    congr 3; omega
  ·rw [decide_eq_false h7, cond_false, if_neg h7]
   by_cases h9 : els = []
   ·rw [decide_eq_false (by simp [h9]), cond_false, if_pos h9, ih' (w + 1) (by omega) (by omega) (by omega)]
    congr 3; omega
   ·rw [decide_eq_true h9, cond_true, if_neg h9, ih' (w + 2) (by omega) (by omega) (by omega)]
    congr 3; omega
end
end Go.Proofs.YtbcgpjlkkcdmmaaGreatDoor.W
namespace Go.Proofs.YtbcgpjlkkcdmmaaGreatDoor.W
open Go Go.Eng Go.Eng.Fl Go.RowKit
set_option linter.unusedVariables false
set_option linter.unusedSimpArgs false
set_option linter.unusedSectionVars false
abbrev Ln := Nat × List UInt8
def lnx (q : Ln) : List UInt8 := tabsL q.1 ++ (q.2 ++ [10])
def okQ (q : Ln) : Prop := (∃ c w, q.2 = c :: w /\ c ≠ 9) /\ (10 : UInt8) ∉ q.2
def opn (w : List UInt8) : Nat := if w.getLast? = some 123 then 1 else 0
def lstep (d : Nat) (q : Ln) (d' : Nat) : Prop := (if q.2.head? = some 125 then d = q.1 + 1 else d = q.1) /\ d' = q.1 + opn q.2
def runs : Nat -> List Ln -> Nat -> Prop
 | d, [], d' => d = d'
 | d, q :: r, d' => ∃ m, lstep d q m /\ runs m r d'
theorem runs_append : ∀ {l k : List Ln} {a b c : Nat}, runs a l b -> runs b k c -> runs a (l ++ k) c
 | [], k, a, b, c, h, hk => by
  simp only [runs] at h
  subst h
  exact hk
 | q :: l, k, a, b, c, ⟨m, h1, h2⟩, hk => ⟨m, h1, runs_append h2 hk⟩
theorem runs_one {q : Ln} {a b : Nat} (h : lstep a q b) : runs a [q] b := ⟨b, h, rfl⟩
theorem isLD_nb {c : UInt8} (h : isLD c = true) : c ≠ 123 := by rintro rfl; exact absurd h (by decide)
theorem word_nb {w : List UInt8} (h : wordB w = true) : (123 : UInt8) ∉ w := by
 cases w with
 | nil => simp
 | cons c w =>
  simp only [wordB, Bool.and_eq_true] at h
  intro hm
  exact isLD_nb (List.all_eq_true.1 h.1.2 123 hm) rfl
theorem dec_nb (n : Nat) : (123 : UInt8) ∉ Lib.decDigits n := by
 intro h
 exact isLD_nb (isLD_D ((val_dec n).2.1 123 h)) rfl
theorem sgn_nb {k : Int} (h : isOp k = true) : (123 : UInt8) ∉ sgn k := by
 rcases op_cases h with rfl | rfl | rfl | rfl | rfl | rfl | rfl <;> decide
theorem bs_nb : ∀ {e : E} {l : Nat}, saneE e -> (123 : UInt8) ∉ bs e l
 | .num n, l, h => dec_nb n
 | .name w, l, h => word_nb h
 | .neg e, l, h => by
  have := bs_nb (e := e) (l := 3) h
  simp only [bs, List.mem_cons, not_or]
  exact ⟨by decide, this⟩
 | .bin k a b, l, h => by
  obtain ⟨hk, ha, hb⟩ := h
  have h1 := bs_nb (e := a) (l := left k) ha
  have h2 := bs_nb (e := b) (l := lvl k + 1) hb
  have h3 := sgn_nb hk
  have e1 : ¬ ((123 : UInt8) = 32) := by decide
  have e2 : ¬ ((123 : UInt8) = 40) := by decide
  have e3 : ¬ ((123 : UInt8) = 41) := by decide
  unfold bs
  split
  ·simp only [List.mem_cons, List.mem_append, List.not_mem_nil, h1, h2, h3, e1, e2, e3, or_self, or_false, not_false_eq_true]
  ·simp only [List.mem_cons, List.mem_append, h1, h2, h3, e1, or_self, not_false_eq_true]
theorem bsO_nb {e : Option E} (h : okE e) : (123 : UInt8) ∉ bsO e := by
 cases e with
 | none => exact h.elim
 | some x => exact bs_nb h.1
theorem opn_no {w : List UInt8} (h : (123 : UInt8) ∉ w) : opn w = 0 := by
 unfold opn
 rw [if_neg]
 intro hl
 exact h (List.mem_of_getLast? hl)
theorem word_head {w : List UInt8} (h : wordB w = true) (v : List UInt8) : ∃ c u, w ++ v = c :: u /\ c ≠ 9 /\ c ≠ 125 := by
 cases w with
 | nil => simp [wordB] at h
 | cons c w =>
  simp only [wordB, Bool.and_eq_true] at h
  refine ⟨c, w ++ v, rfl, ?_, ?_⟩
  ·rintro rfl; exact absurd h.1.1 (by decide)
  ·rintro rfl; exact absurd h.1.1 (by decide)
theorem q_simple {w v : List UInt8} {D : Nat} (hw : wordB w = true) (h10 : (10 : UInt8) ∉ w ++ v) (h123 : (123 : UInt8) ∉ w ++ v) : okQ (D, w ++ v) /\ lstep D (D, w ++ v) D := by
 obtain ⟨c, u, e1, e2, e3⟩ := word_head hw v
 refine ⟨⟨⟨c, u, e1, e2⟩, h10⟩, ?_, ?_⟩
 ·simp only [e1, List.head?_cons, Option.some.injEq, e3, if_false]
 ·simp only [opn_no h123, Nat.add_zero]
theorem q_open {w v : List UInt8} {D : Nat} (hw : wordB w = true) (h10 : (10 : UInt8) ∉ w ++ v) : okQ (D, w ++ v ++ [32, 123]) /\ lstep D (D, w ++ v ++ [32, 123]) (D + 1) := by
 obtain ⟨c, u, e1, e2, e3⟩ := word_head hw v
 refine ⟨⟨⟨c, u ++ [32, 123], by rw [e1]; rfl, e2⟩, ?_⟩, ?_, ?_⟩
 ·simp only [List.mem_append, List.mem_cons, List.not_mem_nil, or_false] at h10 ⊢
  rintro (h | h | h)
  ·exact h10 h
  ·exact absurd h (by decide)
  ·exact absurd h (by decide)
 ·simp only [e1, List.cons_append, List.head?_cons, Option.some.injEq, e3, if_false]
 ·have : opn (w ++ v ++ [32, 123]) = 1 := by
   unfold opn
   rw [if_pos (by simp)]
  simp only [this]
theorem q_close (D : Nat) : okQ (D, [125]) /\ lstep (D + 1) (D, [125]) D := ⟨⟨⟨125, [], rfl, by decide⟩, by show (10 : UInt8) ∉ [(125 : UInt8)]; decide⟩, by simp, by show D = D + opn [125]; rfl⟩
theorem q_else (D : Nat) : okQ (D, 125 :: 32 :: (wElse ++ [32, 123])) /\ lstep (D + 1) (D, 125 :: 32 :: (wElse ++ [32, 123])) (D + 1) := ⟨⟨⟨125, _, rfl, by decide⟩, by show (10 : UInt8) ∉ (125 : UInt8) :: 32 :: (wElse ++ [32, 123]); decide⟩, by simp, by show D + 1 = D + opn (125 :: 32 :: (wElse ++ [32, 123])); rfl⟩
def lnxs (l : List Ln) : List UInt8 := (l.map lnx).flatten
theorem lnxs_cons (q : Ln) (l : List Ln) : lnxs (q :: l) = lnx q ++ lnxs l := by simp [lnxs]
theorem lnxs_append (l k : List Ln) : lnxs (l ++ k) = lnxs l ++ lnxs k := by simp [lnxs]
theorem cn_nil : cn [] = 0 := rfl
mutual
theorem sh_S : ∀ (s : St) {d : Nat} (D : Nat), okS s d -> ∃ qs, (∀ q ∈ qs, okQ q) /\ lnxs qs = tabsL D ++ (tx s D ++ [10]) /\ qs.length = cn (preS s) /\ runs D qs D
 | .mk k n o m e body els p, d, D, h => by
  unfold okS at h
  have e1 : ¬ ((10 : UInt8) = 32) := by decide
  have e2 : ¬ ((10 : UInt8) = 61) := by decide
  have f1 : ¬ ((123 : UInt8) = 32) := by decide
  have f2 : ¬ ((123 : UInt8) = 61) := by decide
  have simple : ∀ {w v : List UInt8}, tx (.mk k n o m e body els p) D = w ++ v -> wordB w = true -> (10 : UInt8) ∉ w ++ v -> (123 : UInt8) ∉ w ++ v -> body = [] -> els = [] -> k ≠ 7 -> k ≠ 8 →
    ∃ qs, (∀ q ∈ qs, okQ q) /\ lnxs qs = tabsL D ++ (tx (.mk k n o m e body els p) D ++ [10]) /\ qs.length = cn (preS (.mk k n o m e body els p)) /\ runs D qs D := by
   intro w v ht hw h10 h123 hb hf h7 h8
   obtain ⟨a1, a2⟩ := q_simple (D := D) hw h10 h123
   refine ⟨[(D, w ++ v)], fun q hq => by simp only [List.mem_singleton] at hq; subst hq; exact a1, ?_, ?_, runs_one a2⟩
   ·rw [ht]; simp [lnxs, lnx]
   ·subst hb; subst hf
    simp only [preS, preL, List.append_nil, List.nil_append, cn_cons, cn_nil, cn1, List.length_singleton, if_true]
    rw [if_neg (by omega)]
  split at h
  ·rename_i hk
   subst hk
   obtain ⟨h1, h2, h3, he, h5, h6⟩ := h
   refine simple (w := n) (v := 32 :: 61 :: 32 :: bsO e) (by simp only [tx, if_true]) h1.1 ?_ ?_ h5 h6 (by decide) (by decide)
   ·simp only [List.mem_append, List.mem_cons, word_no h1.1, bsO_no he, e1, e2, or_self, not_false_eq_true]
   ·simp only [List.mem_append, List.mem_cons, word_nb h1.1, bsO_nb he, f1, f2, or_self, not_false_eq_true]
  split at h
  ·rename_i hk
   obtain ⟨h1, h2, h3, h4, h5, h6⟩ := h
   have ww : ∀ {w : List UInt8}, wordB w = true -> (10 : UInt8) ∉ w ++ 32 :: n /\ (123 : UInt8) ∉ w ++ 32 :: n := fun hw => by
    simp only [List.mem_append, List.mem_cons, word_no h1.1, word_nb h1.1, word_no hw, word_nb hw, e1, f1, or_self, not_false_eq_true, and_self]
   rcases hk with rfl | rfl | rfl | rfl
   ·exact simple (w := wLock) (v := 32 :: n) (by simp only [tx, Int.reduceEq, if_false, if_true]) (by decide) (ww (by decide)).1 (ww (by decide)).2 h5 h6 (by decide) (by decide)
   ·exact simple (w := wUnlock) (v := 32 :: n) (by simp only [tx, Int.reduceEq, if_false, if_true]) (by decide) (ww (by decide)).1 (ww (by decide)).2 h5 h6 (by decide) (by decide)
   ·exact simple (w := wGoto) (v := 32 :: n) (by simp only [tx, Int.reduceEq, if_false, if_true]) (by decide) (ww (by decide)).1 (ww (by decide)).2 h5 h6 (by decide) (by decide)
   ·exact simple (w := wLabel) (v := 32 :: n) (by simp only [tx, Int.reduceEq, if_false, if_true]) (by decide) (ww (by decide)).1 (ww (by decide)).2 h5 h6 (by decide) (by decide)
  split at h
  ·rename_i hk
   subst hk
   obtain ⟨h1, h2, h3, he, h5, h6⟩ := h
   refine simple (w := wSend) (v := 32 :: (n ++ 32 :: bsO e)) (by simp only [tx, Int.reduceEq, if_false, if_true]) (by decide) ?_ ?_ h5 h6 (by decide) (by decide)
   ·simp only [List.mem_append, List.mem_cons, word_no h1.1, bsO_no he, word_no (show wordB wSend = true by decide), e1, or_self, not_false_eq_true]
   ·simp only [List.mem_append, List.mem_cons, word_nb h1.1, bsO_nb he, word_nb (show wordB wSend = true by decide), f1, or_self, not_false_eq_true]
  split at h
  ·rename_i hk
   subst hk
   obtain ⟨h1, h2, h3, h4, h5, h6⟩ := h
   refine simple (w := wRecv) (v := 32 :: (n ++ 32 :: o)) (by simp only [tx, Int.reduceEq, if_false, if_true]) (by decide) ?_ ?_ h5 h6 (by decide) (by decide)
   ·simp only [List.mem_append, List.mem_cons, word_no h1.1, word_no h2.1, word_no (show wordB wRecv = true by decide), e1, or_self, not_false_eq_true]
   ·simp only [List.mem_append, List.mem_cons, word_nb h1.1, word_nb h2.1, word_nb (show wordB wRecv = true by decide), f1, or_self, not_false_eq_true]
  split at h
  ·rename_i hk
   subst hk
   obtain ⟨h1, h2, h3, he, h5, h6⟩ := h
   refine simple (w := wPrint) (v := 32 :: bsO e) (by simp only [tx, Int.reduceEq, if_false, if_true]) (by decide) ?_ ?_ h5 h6 (by decide) (by decide)
   ·simp only [List.mem_append, List.mem_cons, bsO_no he, word_no (show wordB wPrint = true by decide), e1, or_self, not_false_eq_true]
   ·simp only [List.mem_append, List.mem_cons, bsO_nb he, word_nb (show wordB wPrint = true by decide), f1, or_self, not_false_eq_true]
  split at h
  ·rename_i hk
   subst hk
   obtain ⟨_, _, _, he, _, hB, hF⟩ := h
   obtain ⟨pb, b1, b2, b3, b4⟩ := sh_L body (D + 1) hB
   obtain ⟨a1, a2⟩ := q_open (D := D) (w := wIf) (v := 32 :: bsO e) (by decide) (by simp only [List.mem_append, List.mem_cons, bsO_no he, word_no (show wordB wIf = true by decide), e1, or_self, not_false_eq_true])
   obtain ⟨c1, c2⟩ := q_close D
   cases els with
   | nil =>
    refine ⟨(D, wIf ++ 32 :: bsO e ++ [32, 123]) :: (pb ++ [(D, [125])]), ?_, ?_, ?_, ⟨D + 1, a2, runs_append b4 (runs_one c2)⟩⟩
    ·intro q hq
     simp only [List.mem_cons, List.mem_append, List.not_mem_nil, or_false] at hq
     rcases hq with rfl | hq | rfl
     ·exact a1
     ·exact b1 q hq
     ·exact c1
    ·rw [lnxs_cons, lnxs_append, b2]
     simp [lnxs, lnx, tx]
    ·simp only [List.length_cons, List.length_append, b3, preS, preL, List.append_nil, cn_cons, cn1, List.length_nil, if_true]
     simp
     omega
   | cons y els =>
    obtain ⟨pf, f1, f2, f3, f4⟩ := sh_L (y :: els) (D + 1) hF
    obtain ⟨g1, g2⟩ := q_else D
    refine ⟨(D, wIf ++ 32 :: bsO e ++ [32, 123]) :: (pb ++ (D, 125 :: 32 :: (wElse ++ [32, 123])) :: (pf ++ [(D, [125])])), ?_, ?_, ?_, ⟨D + 1, a2, runs_append b4 ⟨D + 1, g2, runs_append f4 (runs_one c2)⟩⟩⟩
    ·intro q hq
     simp only [List.mem_cons, List.mem_append, List.not_mem_nil, or_false] at hq
     rcases hq with rfl | hq | rfl | hq | rfl
     ·exact a1
     ·exact b1 q hq
     ·exact g1
     ·exact f1 q hq
     ·exact c1
    ·rw [lnxs_cons, lnxs_append, b2, lnxs_cons, lnxs_append, f2]
     simp [lnxs, lnx, tx]
    ·simp only [List.length_cons, List.length_append, b3, f3, preS, cn_cons, cn_append, cn1, List.length_nil, reduceCtorEq, if_false]
     simp
     omega
  split at h
  ·rename_i hk
   subst hk
   obtain ⟨_, _, hm, _, _, hB, rfl⟩ := h
   obtain ⟨pb, b1, b2, b3, b4⟩ := sh_L body (D + 1) hB
   obtain ⟨a1, a2⟩ := q_open (D := D) (w := wRepeat) (v := 32 :: Lib.decDigits m) (by decide) (by simp only [List.mem_append, List.mem_cons, dec_no m, word_no (show wordB wRepeat = true by decide), e1, or_self, not_false_eq_true])
   obtain ⟨c1, c2⟩ := q_close D
   refine ⟨(D, wRepeat ++ 32 :: Lib.decDigits m ++ [32, 123]) :: (pb ++ [(D, [125])]), ?_, ?_, ?_, ⟨D + 1, a2, runs_append b4 (runs_one c2)⟩⟩
   ·intro q hq
    simp only [List.mem_cons, List.mem_append, List.not_mem_nil, or_false] at hq
    rcases hq with rfl | hq | rfl
    ·exact a1
    ·exact b1 q hq
    ·exact c1
   ·rw [lnxs_cons, lnxs_append, b2]
    unfold tx
    simp [lnxs, lnx]
   ·simp only [List.length_cons, List.length_append, b3, preS, preL, List.append_nil, cn_cons, cn1, List.length_nil, if_true]
    simp
    omega
  ·exact h.elim
theorem sh_L : ∀ (l : List St) {d : Nat} (D : Nat), okL l d -> ∃ qs, (∀ q ∈ qs, okQ q) /\ lnxs qs = txL l D /\ qs.length = cn (preL l) /\ runs D qs D
 | [], d, D, _ => ⟨[], by simp, by simp [lnxs, txL], rfl, rfl⟩
 | s :: r, d, D, h => by
  simp only [okL] at h
  obtain ⟨p1, a1, a2, a3, a4⟩ := sh_S s D h.1
  obtain ⟨p2, b1, b2, b3, b4⟩ := sh_L r D h.2
  refine ⟨p1 ++ p2, ?_, ?_, ?_, runs_append a4 b4⟩
  ·intro q hq
   rcases List.mem_append.1 hq with hq | hq
   ·exact a1 q hq
   ·exact b1 q hq
  ·rw [lnxs_append, a2, b2]
   simp [txL]
  ·rw [List.length_append, a3, b3, preL, cn_append]
end
theorem sh_DL : ∀ {l : List Dc}, okDL l -> ∃ qs, (∀ q ∈ qs, okQ q) /\ lnxs qs = dtL l /\ qs.length = l.length /\ runs 0 qs 0
 | [], _ => ⟨[], by simp, by simp [lnxs, dtL], rfl, rfl⟩
 | d :: r, h => by
  obtain ⟨p2, b1, b2, b3, b4⟩ := sh_DL (l := r) (fun x hx => h x (by simp [hx]))
  have hd := h d (by simp)
  have hW := (declW_word hd.1).1
  have hn : (10 : UInt8) ∉ dtx d /\ (123 : UInt8) ∉ dtx d := by
   unfold dtx
   split
   ·simp only [List.mem_append, List.mem_cons, word_no hW, word_no hd.2.1.1, dec_no, word_nb hW, word_nb hd.2.1.1, dec_nb, show ¬ ((10 : UInt8) = 32) by decide, show ¬ ((123 : UInt8) = 32) by decide, or_self, not_false_eq_true, and_self]
   ·simp only [List.mem_append, List.mem_cons, List.not_mem_nil, word_no hW, word_no hd.2.1.1, word_nb hW, word_nb hd.2.1.1, show ¬ ((10 : UInt8) = 32) by decide, show ¬ ((123 : UInt8) = 32) by decide, or_self, not_false_eq_true, and_self]
  unfold dtx at hn
  obtain ⟨a1, a2⟩ := q_simple (D := 0) hW hn.1 hn.2
  refine ⟨(0, dtx d) :: p2, ?_, ?_, by simp [b3], ⟨0, a2, b4⟩⟩
  ·intro q hq
   rcases List.mem_cons.1 hq with rfl | hq
   ·exact a1
   ·exact b1 q hq
  ·rw [lnxs_cons, b2]; simp [dtL, lnx, tabsL]
theorem sh_TL : ∀ {l : List (List St)}, okTL l -> ∃ qs, (∀ q ∈ qs, okQ q) /\ lnxs qs = ttL l /\ qs.length = 2 * l.length + cn (preTL l) /\ runs 0 qs 0
 | [], _ => ⟨[], by simp, by simp [lnxs, ttL], rfl, rfl⟩
 | t :: r, h => by
  obtain ⟨p2, b1, b2, b3, b4⟩ := sh_TL (l := r) (fun x hx => h x (by simp [hx]))
  obtain ⟨p1, a1, a2, a3, a4⟩ := sh_L t 1 (h t (by simp))
  obtain ⟨o1, o2⟩ := q_open (D := 0) (w := wGo) (v := []) (by decide) (by decide)
  rw [List.append_nil] at o1 o2
  obtain ⟨c1, c2⟩ := q_close 0
  refine ⟨(0, wGo ++ [32, 123]) :: (p1 ++ (0, [125]) :: p2), ?_, ?_, ?_, ⟨1, o2, runs_append a4 ⟨0, c2, b4⟩⟩⟩
  ·intro q hq
   simp only [List.mem_cons, List.mem_append] at hq
   rcases hq with rfl | hq | rfl | hq
   ·exact o1
   ·exact a1 q hq
   ·exact c1
   ·exact b1 q hq
  ·rw [lnxs_cons, lnxs_append, a2, lnxs_cons, b2]; simp [ttL, lnx, tabsL]
  ·simp only [List.length_cons, List.length_append, a3, b3, preTL, cn_append]; omega
section
variable {n : Nat}
theorem tab_loop (W dp : Int) (LS lines x y : List T) (len i : Int) (k : Nat) (c : UInt8) (v : List UInt8) (hc : c ≠ 9) (hk : k <= 100000) : ∀ (m j : Nat), k - j < m -> j <= k →
  l_suturelaw6_TextLines_20 n m (W, dp, LS, B (tabsL k ++ c :: v), (j : Int), lines, len, i, x, y) = some (W, dp, LS, B (tabsL k ++ c :: v), (k : Int), lines, len, i, x, y) := by
 have htl : (tabsL k).length = k := tabs_len k
 intro m
 induction m with
 | zero => intro j h; omega
 | succ m ih =>
  intro j hm hj
  show l_suturelaw6_TextLines_20_B n (l_suturelaw6_TextLines_20 n m) _ = _
  unfold l_suturelaw6_TextLines_20_B
  simp only
  rw [size_B, decide_eq_true (show (j : Int) < (((tabsL k ++ c :: v).length : Nat) : Int) by simp only [List.length_append, List.length_cons]; omega)]
  have hlt : j < (L (B (tabsL k ++ c :: v))).length := by rw [L_B]; simp only [List.length_append, List.length_cons]; omega
  by_cases h : j < k
  ·have hb : bidx true (B (tabsL k ++ c :: v)) (j : Int) = some 9 := by
    rw [bidx_at hlt]
    simp only [L_B]
    rw [List.getElem_append_left (by omega)]
    simp [tabsL]
   rw [hb, Option.bind_some, cond_true, show ((((UInt8.toNat 9 : Nat) : Int) : Int) == 9) = true from rfl, cond_true, wrap_up (by omega)]
   exact ih (j + 1) (by omega) (by omega)
  ·have hjk : j = k := by omega
   subst hjk
   have hb : bidx true (B (tabsL j ++ c :: v)) (j : Int) = some c := by
    rw [bidx_at hlt]
    simp only [L_B]
    rw [List.getElem_append_right (by omega)]
    simp [htl]
   rw [hb, Option.bind_some, cond_true, beq_byte c 9 9 rfl, show (c == 9) = false from beq_eq_false_iff_ne.2 hc, cond_false]
theorem line_step (kk : Int × Int × (List T) × (List T) × Int × Int × (List T) × (List T) -> Option (((Bool × (List T) × (List T)) ⊕ Int × Int × (List T) × (List T) × (List T)))) (hn : 100000 < n) (W : Int) {deep deep' : Nat} (LS lines x y : List T) {len i : Nat} {q : Ln} (hq : okQ q) (hs : lstep deep q deep') (hl : (lnx q).length <= 90000)
  (hi : idx true [.str] lines (i : Int) = some (T.sc (.string (B (lnx q))))) (hlt : i < len) (hi6 : i <= 100000) :
  l_suturelaw6_TextLines_17_B n kk (W, (deep : Int), LS, lines, (len : Int), (i : Int), x, y) = kk (W, (deep' : Int), LS, lines, (len : Int), ((i + 1 : Nat) : Int), x, y) := by
 obtain ⟨k, w⟩ := q
 obtain ⟨⟨c, v, rfl, hc9⟩, h10⟩ := hq
 simp only at hc9 h10
 have htl : (tabsL k).length = k := tabs_len k
 simp only [lnx, List.length_append, List.length_cons, List.length_nil] at hl
 obtain ⟨hs1, hs2⟩ := hs
 simp only [List.head?_cons, Option.some.injEq] at hs1 hs2
 unfold l_suturelaw6_TextLines_17_B
 simp only
 rw [decide_eq_true (show (i : Int) < (len : Int) by omega), cond_true, hi, Option.bind_some]
 have e0 : ((T.sc (.string (B (lnx (k, c :: v))))).cell 0).str = B (tabsL k ++ c :: (v ++ [10])) := rfl
 have ht := tab_loop (n := n) W (deep : Int) LS lines x y (len : Int) (i : Int) k c (v ++ [10]) hc9 (by omega) n 0 (by omega) (by omega)
 have ht' : l_suturelaw6_TextLines_20 n n (W, (deep : Int), LS, B (tabsL k ++ c :: (v ++ [10])), 0, lines, (len : Int), (i : Int), x, y) = some (W, (deep : Int), LS, B (tabsL k ++ c :: (v ++ [10])), (k : Int), lines, (len : Int), (i : Int), x, y) := ht
 rw [e0, ht', Option.bind_some]
 simp only
 have hx : ByteArray.extract (B (tabsL k ++ c :: (v ++ [10]))) (Int.toNat ((k : Nat) : Int)) (Int.toNat ((ByteArray.size (B (tabsL k ++ c :: (v ++ [10]))) : Nat) : Int)) = B (c :: (v ++ [10])) := by
  rw [Int.toNat_natCast, Int.toNat_natCast, ext_drop, L_B, List.drop_append_of_le_length (by omega), List.drop_of_length_le (by omega), List.nil_append]
 rw [hx, must_eq (by rw [size_B]; simp only [Bool.and_eq_true, decide_eq_true_eq, List.length_append, List.length_cons, List.length_nil]; exact ⟨⟨by omega, by omega⟩, by omega⟩)]
 rw [empty_test, decide_eq_false (by simp), cond_false]
 have hb0 : bidx true (B (c :: (v ++ [10]))) 0 = some c := by
  have := bidx_at (s := B (c :: (v ++ [10]))) (i := 0) (by rw [L_B]; simp)
  rw [show ((0 : Nat) : Int) = 0 from rfl] at this
  rw [this]
  simp only [L_B]
  rfl
 have hsz : ByteArray.size (B (c :: (v ++ [10]))) = v.length + 2 := by rw [size_B]; simp only [List.length_append, List.length_cons, List.length_nil]
 have w1 : IntKind.wrap .i64 (((v.length + 2 : Nat) : Int) - 1) = ((v.length + 1 : Nat) : Int) := by rw [wrap_id (by omega) (by omega)]; omega
 have w2 : IntKind.wrap .i64 (((v.length + 2 : Nat) : Int) - 2) = ((v.length : Nat) : Int) := by rw [wrap_id (by omega) (by omega)]; omega
 have hb1 : bidx true (B (c :: (v ++ [10]))) ((v.length + 1 : Nat) : Int) = some 10 := by
  rw [bidx_at (by rw [L_B]; simp)]
  simp [L_B]
 obtain ⟨z, hz, hzo⟩ : ∃ z, (c :: v).getLast? = some z /\ opn (c :: v) = if z = 123 then 1 else 0 := by
  cases hg : (c :: v).getLast? with
  | none => simp at hg
  | some z => exact ⟨z, rfl, by unfold opn; rw [hg]; simp⟩
 have hb2 : bidx true (B (c :: (v ++ [10]))) ((v.length : Nat) : Int) = some z := by
  rw [bidx_at (by rw [L_B]; simp; omega)]
  simp only [L_B]
  have h1 : (c :: (v ++ [10]))[v.length]? = some z := by
   rw [<- List.cons_append, List.getElem?_append_left (by simp), <- hz, List.getLast?_eq_getElem?]
   simp
  rw [List.getElem?_eq_getElem (by simp; omega)] at h1
  exact h1
 have hup : IntKind.wrap .i64 ((i : Int) + 1) = ((i + 1 : Nat) : Int) := by rw [wrap_id (by omega) (by omega)]; omega
 rw [hb0, Option.bind_some, hsz, w1, w2, hup, beq_byte c 125 125 rfl]
 have hgt : decide ((((v.length + 2 : Nat) : Int) : Int) > 1) = true := decide_eq_true (by omega)
 have fin : ∀ d : Nat, d <= 200000 -> (bif (bif true then ((((UInt8.toNat z : Nat) : Int) : Int) == 123) else false) then kk (W, IntKind.wrap .i64 ((d : Int) + 1), LS, lines, (len : Int), ((i + 1 : Nat) : Int), x, y) else kk (W, (d : Int), LS, lines, (len : Int), ((i + 1 : Nat) : Int), x, y)) = kk (W, ((d + (if z = 123 then 1 else 0) : Nat) : Int), LS, lines, (len : Int), ((i + 1 : Nat) : Int), x, y) := by
  intro d hd
  rw [cond_true, beq_byte z 123 123 rfl]
  by_cases hz3 : z = 123
  ·rw [show (z == 123) = true by rw [hz3]; rfl, cond_true, if_pos hz3, wrap_up (by omega)]
  ·rw [show (z == 123) = false from beq_eq_false_iff_ne.2 hz3, cond_false, if_neg hz3]; rfl
 by_cases hc : c = 125
 ·subst hc
  simp only [if_true] at hs1
  subst hs1
  have w3 : IntKind.wrap .i64 (((k + 1 : Nat) : Int) - 1) = ((k : Nat) : Int) := by rw [wrap_id (by omega) (by omega)]; omega
  rw [show ((125 : UInt8) == 125) = true from rfl, cond_true, w3, bne_self_eq_false, show (!false) = true from rfl, hb1, Option.bind_some, show (bif false then true else ((((UInt8.toNat 10 : Nat) : Int) : Int) != 10)) = false from rfl, cond_false, hgt]
  rw [hb2, Option.bind_some, fin k (by omega), hs2, hzo]
 ·rw [if_neg hc] at hs1
  subst hs1
  rw [show (c == 125) = false from beq_eq_false_iff_ne.2 hc, cond_false, bne_self_eq_false, show (!false) = true from rfl, hb1, Option.bind_some, show (bif false then true else ((((UInt8.toNat 10 : Nat) : Int) : Int) != 10)) = false from rfl, cond_false, hgt]
  rw [hb2, Option.bind_some, fin deep (by omega), hs2, hzo]
theorem lines_loop (hn : 100000 < n) (W : Int) (LS x y : List T) (all : List Ln) (hall : ∀ q ∈ all, okQ q) (hlen : (lnxs all).length <= 90000) (hcnt : all.length <= 100000) : ∀ (qs done : List Ln) (k deep deep' : Nat), all = done ++ qs -> qs.length < k -> runs deep qs deep' →
  l_suturelaw6_TextLines_17 n k (W, (deep : Int), LS, all.map (fun q => T.sc (.string (B (lnx q)))), ((all.length : Nat) : Int), ((done.length : Nat) : Int), x, y) = some (Sum.inr (W, (deep' : Int), LS, x, y))
 | [], done, 0, deep, deep', h, hk, _ => by simp at hk
 | [], done, k + 1, deep, deep', h, hk, hr => by
  simp only [runs] at hr
  subst hr
  show l_suturelaw6_TextLines_17_B n (l_suturelaw6_TextLines_17 n k) _ = _
  unfold l_suturelaw6_TextLines_17_B
  simp only
  rw [List.append_nil] at h
  rw [h, decide_eq_false (by omega), cond_false]
 | q :: qs, done, 0, deep, deep', h, hk, _ => by simp at hk
 | q :: qs, done, k + 1, deep, deep', h, hk, ⟨m, h1, h2⟩ => by
  simp only [List.length_cons] at hk
  have hle : all.length = done.length + (qs.length + 1) := by rw [h]; simp
  have hi : idx true [.str] (all.map (fun q => T.sc (.string (B (lnx q))))) ((done.length : Nat) : Int) = some (T.sc (.string (B (lnx q)))) := by
   unfold idx
   rw [cond_true, decide_eq_true (Int.natCast_nonneg _), cond_true, Int.toNat_natCast, List.getElem?_map, h, List.getElem?_append_right (Nat.le_refl _), Nat.sub_self]
   rfl
  have hq : (lnx q).length <= 90000 := by
   have : (lnxs all).length = (lnxs done).length + ((lnx q).length + (lnxs qs).length) := by rw [h, lnxs_append, lnxs_cons]; simp
   omega
  show l_suturelaw6_TextLines_17_B n (l_suturelaw6_TextLines_17 n k) _ = _
  rw [line_step (l_suturelaw6_TextLines_17 n k) hn W LS _ x y (hall q (by rw [h]; simp)) h1 hq hi (by omega) (by omega)]
  have ih := lines_loop hn W LS x y all hall hlen hcnt qs (done ++ [q]) k m deep' (by rw [h]; simp) (by omega) h2
  rw [List.length_append, List.length_cons, List.length_nil] at ih
  rw [show done.length + 1 = done.length + (0 + 1) by omega, ih]
end
theorem textLines_law (how : Int) (a b : List Act5) : ∃ n, m_suturelaw6_TextLines n how (a.map Act5.t) (b.map Act5.t) = some true := by
 refine ⟨200000, ?_⟩
 generalize hn : 200000 = n
 have hn1 : 100000 < n := by omega
 clear hn
 unfold m_suturelaw6_TextLines
 obtain ⟨ds, tl, h1, h2, h3, h4, h5, h6, h7⟩ := make_eq hn1 how a b [] 6
 have h1' : m_suturehand_Prog n how (a.map Act5.t) (b.map Act5.t) [] 6 = some (ds.map (encD pl0), tl.map (encT pl0)) := h1
 rw [h1', Option.bind_some]
 have h22 : tl.length = 2 := by rcases h6 with h | ⟨_, h, _⟩; exact h; exact absurd rfl h
 have hne : tl ≠ [] := by intro h; rw [h] at h22; cases h22
 simp only
 rw [printP_eq hn1 pl0 h2 (by omega) h5 (by omega) hne (by rw [List.length_append]; omega), Option.bind_some, listP_eq hn1 pl0 _ h5 (by omega) (by omega), Option.bind_some]
 have hpt : ∀ {l : List (List St)}, okTL l -> (preTL l).length <= (ttL l).length := by
  intro l
  induction l with
  | nil => intro _; simp [preTL]
  | cons t r ih =>
   intro h
   have i1 := preL_len t 1 (h t (by simp))
   have i2 := ih (fun x hx => h x (by simp [hx]))
   simp only [preTL, ttL, List.length_append, List.length_cons]
   omega
 have hpl := hpt h5
 have e1 : IntKind.wrap .i64 ((((List.map (encD pl0) ds).length : Nat) : Int) + (IntKind.wrap .i64 (2 * (((List.map (encT pl0) tl).length : Nat) : Int)))) = ((12 : Nat) : Int) := by
  rw [List.length_map, List.length_map, h3, h22]; rfl
 rw [e1]
 have hw := want_loop (n := n) pl0 (B (dtL ds ++ ttL tl)) (ds.map (encD pl0)) (tl.map (encT pl0)) (l := preTL tl) (by omega) n 0 12 (by omega) (by omega) (by omega)
 rw [List.drop_zero] at hw
 have hw' : l_suturelaw6_TextLines_6 n n (B (dtL ds ++ ttL tl), ((12 : Nat) : Int), (preTL tl).map (encS pl0), ((List.length ((preTL tl).map (encS pl0)) : Nat) : Int), 0, ds.map (encD pl0), tl.map (encT pl0)) = some (B (dtL ds ++ ttL tl), ((12 + cn (preTL tl) : Nat) : Int), ds.map (encD pl0), tl.map (encT pl0)) := hw
 rw [hw', Option.bind_some]
 simp only
 obtain ⟨q1, a1, a2, a3, a4⟩ := sh_DL h2
 obtain ⟨q2, b1, b2, b3, b4⟩ := sh_TL h5
 have hall : ∀ q ∈ q1 ++ q2, okQ q := fun q hq => by
  rcases List.mem_append.1 hq with hq | hq
  ·exact a1 q hq
  ·exact b1 q hq
 have htx : lnxs (q1 ++ q2) = dtL ds ++ ttL tl := by rw [lnxs_append, a2, b2]
 have hlt : (lnxs (q1 ++ q2)).length <= 3100 := by rw [htx, List.length_append]; omega
 have hps : ptx ((q1 ++ q2).map fun q => ((lnx q, []) : Pc)) = lnxs (q1 ++ q2) := by simp [ptx, lnxs, Function.comp_def]
 have hlines : m_sutureref1_Lines n (B (dtL ds ++ ttL tl)) = some ((q1 ++ q2).map fun q => T.sc (.string (B (lnx q)))) := by
  have h0 := linesR_eq (n := n) hn1 (ps := (q1 ++ q2).map fun q => ((lnx q, []) : Pc)) (fun p hp => by
   obtain ⟨q, hq, rfl⟩ := List.mem_map.1 hp
   refine ⟨tabsL q.1 ++ q.2, by simp [lnx], ?_⟩
   simp only [List.mem_append, tabs_no, (hall q hq).2, or_self, not_false_eq_true]) (by rw [hps]; omega)
  rw [hps, htx, List.map_map] at h0
  exact h0
 have hcnt : (q1 ++ q2).length = 12 + cn (preTL tl) := by rw [List.length_append, a3, b3, h3, h22]; omega
 have hc2 : (q1 ++ q2).length <= (lnxs (q1 ++ q2)).length := by
  have : ∀ {l : List Ln}, l.length <= (lnxs l).length := by
   intro l
   induction l with
   | nil => simp
   | cons q l ih => rw [lnxs_cons]; simp only [lnx, List.length_append, List.length_cons, List.length_nil]; omega
  exact this
 rw [hlines, Option.bind_some, List.length_map]
 have hloop := lines_loop (n := n) hn1 ((12 + cn (preTL tl) : Nat) : Int) ((q1 ++ q2).map fun q => T.sc (.string (B (lnx q)))) (ds.map (encD pl0)) (tl.map (encT pl0)) (q1 ++ q2) hall (by omega) (by omega) (q1 ++ q2) [] n 0 0 rfl (by omega) (runs_append a4 b4)
 have hloop' : l_suturelaw6_TextLines_17 n n (((12 + cn (preTL tl) : Nat) : Int), 0, (q1 ++ q2).map (fun q => T.sc (.string (B (lnx q)))), (q1 ++ q2).map (fun q => T.sc (.string (B (lnx q)))), (((q1 ++ q2).length : Nat) : Int), 0, ds.map (encD pl0), tl.map (encT pl0)) = some (Sum.inr (((12 + cn (preTL tl) : Nat) : Int), 0, (q1 ++ q2).map (fun q => T.sc (.string (B (lnx q)))), ds.map (encD pl0), tl.map (encT pl0))) := hloop
 rw [hloop', Option.bind_some, Sum.elim_inr]
 simp only
 rw [kn6, Option.bind_some, cond_true, List.length_map, hcnt, beq_self_eq_true, cond_true]
 rfl
end Go.Proofs.YtbcgpjlkkcdmmaaGreatDoor.W
