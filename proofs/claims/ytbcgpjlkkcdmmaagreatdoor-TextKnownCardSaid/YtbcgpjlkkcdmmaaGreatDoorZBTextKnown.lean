/- Own texts, several in one. No conditions. -/
import Derived.Test.YtbcgpjlkkcdmmaaGreatDoorZATextKnown
namespace Go.Proofs.YtbcgpjlkkcdmmaaGreatDoor.W
open Go Go.Eng Go.Eng.Fl Go.RowKit
set_option linter.unusedVariables false
set_option linter.unusedSimpArgs false
def tabsL (d : Nat) : List UInt8 := List.replicate d 9
def bsO (e : Option E) : List UInt8 := match e with | some x => bs x 0 | none => []
mutual
def tx : St -> Nat -> List UInt8
 | .mk k n o m e body els p, d =>
  if k = 1 then n ++ 32 :: 61 :: 32 :: bsO e
  else if k = 2 then wLock ++ 32 :: n
  else if k = 3 then wUnlock ++ 32 :: n
  else if k = 4 then wSend ++ 32 :: (n ++ 32 :: bsO e)
  else if k = 5 then wRecv ++ 32 :: (n ++ 32 :: o)
  else if k = 6 then wPrint ++ 32 :: bsO e
  else if k = 9 then wGoto ++ 32 :: n
  else if k = 10 then wLabel ++ 32 :: n
  else if k = 7 then wIf ++ (32 : UInt8) :: (bsO e ++ (32 : UInt8) :: (123 : UInt8) :: (10 : UInt8) :: (txL body (d + 1) ++ (tabsL d ++ (125 : UInt8) :: (match els with
   | [] => ([] : List UInt8)
   | _ :: _ => (32 : UInt8) :: (wElse ++ (32 : UInt8) :: (123 : UInt8) :: (10 : UInt8) :: (txL els (d + 1) ++ (tabsL d ++ [125])))))))
  else if k = 8 then wRepeat ++ (32 : UInt8) :: (Lib.decDigits m ++ (32 : UInt8) :: (123 : UInt8) :: (10 : UInt8) :: (txL body (d + 1) ++ (tabsL d ++ [125])))
  else [63]
def txL : List St -> Nat -> List UInt8
 | [], _ => []
 | s :: r, d => tabsL d ++ (tx s d ++ 10 :: txL r d)
end
theorem sp {v : List UInt8} {vs : List Bk} (k : Lx v vs) : Lx (32 :: v) vs := (Lx0.blank (c := 32) (by decide)).append k
theorem bl {c : UInt8} {v : List UInt8} {vs : List Bk} (h : blank c = true) (k : Lx0 v vs) : Lx0 (c :: v) vs := (Lx0.blank h).append0 k
theorem sg {c : UInt8} {v : List UInt8} {vs : List Bk} (h : signs.contains c = true) (h61 : c ≠ 61) (k : Lx0 v vs) : Lx0 (c :: v) (sgT c :: vs) := (Lx0.sign h h61).append0 k
theorem wd {w v : List UInt8} {vs : List Bk} (hw : wordB w = true) (k : Lx v vs) : Lx (w ++ 32 :: v) (nmT w :: vs) := (Lx.word hw).append (c := 32) (by decide) (sp k)
theorem wd0 {w v : List UInt8} {vs : List Bk} (hw : wordB w = true) (k : Lx0 v vs) : Lx0 (w ++ 32 :: v) (nmT w :: vs) := (Lx.word hw).append0 (c := 32) (by decide) (bl (by decide) k)
theorem tabs0 {v : List UInt8} {vs : List Bk} (k : Lx0 v vs) : ∀ d, Lx0 (tabsL d ++ v) vs
 | 0 => k
 | d + 1 => bl (by decide) (tabs0 k d)
theorem eO {e : Option E} (h : okE e) : Lx (bsO e) (prO e) := by
 cases e with
 | none => exact h.elim
 | some x => exact Lx.expr h.1
theorem brace {v : List UInt8} {vs : List Bk} (k : Lx0 v vs) : Lx0 (32 :: 123 :: 10 :: v) (sgT 123 :: vs) := bl (by decide) (sg (by decide) (by decide) (bl (by decide) k))
mutual
theorem lx_S : ∀ (s : St) {d : Nat} (D : Nat), okS s d -> Lx (tx s D) (tkS s)
 | .mk k n o m e body els p, d, D, h => by
  unfold okS at h
  unfold tx tkS
  split at h
  ·rename_i hk
   subst hk
   rw [if_pos rfl, if_pos rfl]
   exact (Lx.word h.1.1).append (c := 32) (by decide) (sp (Lx.append (Lx.eq) (c := 32) (by decide) (sp (eO h.2.2.2.1))))
  rename_i h1
  rw [if_neg h1, if_neg h1]
  split at h
  ·rename_i hk
   rcases hk with rfl | rfl | rfl | rfl
   ·rw [if_pos rfl, if_pos rfl]; exact wd (by decide) (Lx.word h.1.1)
   ·simp only [Int.reduceEq, if_false, if_true]; exact wd (by decide) (Lx.word h.1.1)
   ·simp only [Int.reduceEq, if_false, if_true]; exact wd (by decide) (Lx.word h.1.1)
   ·simp only [Int.reduceEq, if_false, if_true]; exact wd (by decide) (Lx.word h.1.1)
  split at h
  ·rename_i hk
   subst hk
   simp only [Int.reduceEq, if_false, if_true]
   exact wd (by decide) (wd h.1.1 (eO h.2.2.2.1))
  split at h
  ·rename_i hk
   subst hk
   simp only [Int.reduceEq, if_false, if_true]
   exact wd (by decide) (wd h.1.1 (Lx.word h.2.1.1))
  split at h
  ·rename_i hk
   subst hk
   simp only [Int.reduceEq, if_false, if_true]
   exact wd (by decide) (eO h.2.2.2.1)
  split at h
  ·rename_i hk
   subst hk
   simp only [Int.reduceEq, if_false, if_true]
   obtain ⟨_, _, _, he, _, hB, hF⟩ := h
   refine wd (by decide) (Lx0.to ((eO he).append0 (c := 32) (by decide) (brace ((lx_L body (D + 1) hB).append0 (tabs0 (sg (by decide) (by decide) ?_) D)))))
   cases els with
   | nil => exact Lx0.nil
   | cons x r =>
    have hL := lx_L (x :: r) (D + 1) hF
    simp only [tkL] at hL
    exact bl (by decide) (wd0 (w := wElse) (by decide) (sg (by decide) (by decide) (bl (by decide) (hL.append0 (tabs0 (Lx0.sign (by decide) (by decide)) D)))))
  split at h
  ·rename_i hk
   subst hk
   simp only [Int.reduceEq, if_false, if_true]
   obtain ⟨_, _, hm, _, _, hB, _⟩ := h
   exact wd (by decide) (Lx0.to ((Lx.num (by omega)).append0 (c := 32) (by decide) (brace ((lx_L body (D + 1) hB).append0 (tabs0 (Lx0.sign (by decide) (by decide)) D)))))
  ·exact h.elim
theorem lx_L : ∀ (l : List St) {d : Nat} (D : Nat), okL l d -> Lx0 (txL l D) (tkL l)
 | [], d, D, _ => by simp only [txL, tkL]; exact Lx0.nil
 | s :: r, d, D, h => by
  simp only [okL] at h
  simp only [txL, tkL]
  exact tabs0 ((lx_S s D h.1).append0 (c := 10) (by decide) (bl (by decide) (lx_L r D h.2))) D
end
section
variable {n : Nat}
theorem wrap8 {x : Int} (h1 : 0 <= x) (h2 : x <= 255) : IntKind.wrap .u8 x = x := by
 have e : IntKind.wrap .u8 x = x % 256 := by
  show (if (false && decide (x % (2 ^ 8 : Int) ≥ (2 ^ 7 : Int))) = true then x % (2 ^ 8 : Int) - (2 ^ 8 : Int) else x % (2 ^ 8 : Int)) = _
  simp only [Bool.false_and, Bool.false_eq_true, if_false]
  rfl
 rw [e]; omega
theorem digit1 (d : Int) (h1 : 0 <= d) (h2 : d < 10) : bytesIf true [(T.sc (.int .u8 (IntKind.wrap .u8 (IntKind.wrap .i64 (48 + d)))))] = some [UInt8.ofNat (48 + d.toNat)] := by
 rw [wrap_id (x := 48 + d) (by omega) (by omega), wrap8 (by omega) (by omega)]
 have : (48 + d).toNat = 48 + d.toNat := by omega
 simp only [bytesIf, cond_true, bytesL, Option.map_some, this]
theorem digs_len : ∀ (k u : Nat), u < 10 ^ k -> 0 < k -> (Lib.decDigits u).length <= k
 | 0, _, _, h => absurd h (Nat.lt_irrefl _)
 | k + 1, u, h, _ => by
  rw [Lib.decDigits]
  by_cases h10 : u < 10
  ·rw [dif_pos h10]; simp
  ·rw [dif_neg h10]
   have hk : 0 < k := by
    rcases Nat.eq_zero_or_pos k with rfl | h0
    ·simp at h; omega
    ·exact h0
   have := digs_len k (u / 10) (by rw [Nat.pow_succ] at h; exact Nat.div_lt_of_lt_mul (by omega)) hk
   simp only [List.length_append, List.length_singleton]
   omega
def lev : E -> Nat
 | .num _ => 5
 | .name _ => 5
 | .neg _ => 4
 | .bin k _ _ => lvl k + 1
theorem bs_side {e : E} (hs : saneE e) (l : Nat) (hl : l <= 3) : bs e l = if lev e < l + 1 then 40 :: (bs e 0 ++ [41]) else bs e 0 := by
 cases e with
 | num k => rw [if_neg (by simp only [lev]; omega)]; simp only [bs]
 | name w => rw [if_neg (by simp only [lev]; omega)]; simp only [bs]
 | neg e => rw [if_neg (by simp only [lev]; omega)]; simp only [bs]
 | bin k a b =>
  have e0 : bs (.bin k a b) 0 = bs a (left k) ++ 32 :: (sgn k ++ 32 :: bs b (lvl k + 1)) := by rw [bs, if_neg (by omega)]
  rw [e0]
  by_cases h : lvl k < l
  ·rw [bs, if_pos h, if_pos (show lev (.bin k a b) < l + 1 by simp only [lev]; omega)]
  ·rw [bs, if_neg h, if_neg (show ¬ lev (.bin k a b) < l + 1 by simp only [lev]; omega)]
end
section
variable {n : Nat}
def St.e : St -> Option E | .mk _ _ _ _ e _ _ _ => e
theorem fit_S (pl : Nat -> Nat × Nat) (s : St) : fits [.int .i64, .str, .str, .int .i64, .int .i64, .int .i64, .str, .list, .list, .list, .cplx .f64] (encS pl s) = true := by
 cases s
 simp only [encS]
 rfl
theorem idx_S (pl : Nat -> Nat × Nat) {l : List St} {i : Nat} (h : i < l.length) : idx true [.int .i64, .str, .str, .int .i64, .int .i64, .int .i64, .str, .list, .list, .list, .cplx .f64] (encSL pl l) (i : Int) = some (encS pl l[i]) := by
 rw [encSL_map]
 unfold idx
 rw [cond_true, decide_eq_true (Int.natCast_nonneg _), cond_true, Int.toNat_natCast]
 simp [h, fit_S]
theorem encSL_len (pl : Nat -> Nat × Nat) (l : List St) : (encSL pl l).length = l.length := by rw [encSL_map, List.length_map]
theorem wlens : wLock.length = 4 /\ wUnlock.length = 6 /\ wSend.length = 4 /\ wRecv.length = 4 /\ wPrint.length = 5 /\ wIf.length = 2 /\ wElse.length = 4 /\ wRepeat.length = 6 /\ wGoto.length = 4 /\ wLabel.length = 5 := ⟨rfl, rfl, rfl, rfl, rfl, rfl, rfl, rfl, rfl, rfl⟩
end
def declW (k : Int) : List UInt8 := if k = 1 then wVar else if k = 2 then wWide else if k = 3 then wAtomic else if k = 4 then wLocal else if k = 5 then wMutex else wChan
def okD (d : Dc) : Prop := (1 <= d.kind /\ d.kind <= 6) /\ okN d.name /\ (d.kind ≠ 6 -> d.num = 0) /\ d.num <= 3
def dtx (d : Dc) : List UInt8 := declW d.kind ++ 32 :: (d.name ++ (if d.kind = 6 then 32 :: Lib.decDigits d.num else []))
def dtL : List Dc -> List UInt8
 | [] => []
 | d :: r => dtx d ++ 10 :: dtL r
def ttL : List (List St) -> List UInt8
 | [] => []
 | l :: r => wGo ++ 32 :: 123 :: 10 :: (txL l 1 ++ 125 :: 10 :: ttL r)
def tkD (d : Dc) : List Bk := nmT (declW d.kind) :: nmT d.name :: (if d.kind = 6 then [(2, Lib.decDigits d.num, d.num)] else [])
def tkDL : List Dc -> List Bk
 | [] => []
 | d :: r => tkD d ++ tkDL r
def tkTL : List (List St) -> List Bk
 | [] => []
 | l :: r => nmT wGo :: sgT 123 :: (tkL l ++ sgT 125 :: tkTL r)
def Dc.strip (d : Dc) : Dc := ⟨d.kind, d.name, d.num, 0⟩
def okDL (l : List Dc) : Prop := ∀ d ∈ l, okD d
def okTL (l : List (List St)) : Prop := ∀ t ∈ l, okL t 1
theorem kinds {k : Int} (h : 1 <= k /\ k <= 6) : k = 1 \/ k = 2 \/ k = 3 \/ k = 4 \/ k = 5 \/ k = 6 := by omega
theorem declW_word {k : Int} (h : 1 <= k /\ k <= 6) : wordB (declW k) = true /\ declK (declW k) = k := by
 rcases kinds h with rfl | rfl | rfl | rfl | rfl | rfl <;> exact ⟨by decide, by decide⟩
theorem lx_D {d : Dc} (h : okD d) : Lx (dtx d) (tkD d) := by
 unfold dtx tkD
 refine wd (declW_word h.1).1 ?_
 by_cases h6 : d.kind = 6
 ·rw [if_pos h6, if_pos h6]
  have := h.2.2.2
  exact wd h.2.1.1 (Lx.num (by omega))
 ·rw [if_neg h6, if_neg h6, List.append_nil]
  exact Lx.word h.2.1.1
theorem lx_DL : ∀ {l : List Dc}, okDL l -> Lx0 (dtL l) (tkDL l)
 | [], _ => Lx0.nil
 | d :: r, h => (lx_D (h d (by simp))).append0 (c := 10) (by decide) (bl (by decide) (lx_DL (l := r) (fun x hx => h x (by simp [hx]))))
theorem lx_TL : ∀ {l : List (List St)}, okTL l -> Lx0 (ttL l) (tkTL l)
 | [], _ => Lx0.nil
 | t :: r, h => wd0' (lx_TL (l := r) (fun x hx => h x (by simp [hx]))) (lx_L t 1 (h t (by simp)))
where
 wd0' {t : List St} {v : List UInt8} {vs : List Bk} (k : Lx0 v vs) (hL : Lx0 (txL t 1) (tkL t)) : Lx0 (wGo ++ 32 :: 123 :: 10 :: (txL t 1 ++ 125 :: 10 :: v)) (nmT wGo :: sgT 123 :: (tkL t ++ sgT 125 :: vs)) :=
  wd0 (w := wGo) (by decide) (sg (by decide) (by decide) (bl (by decide) (hL.append0 (sg (by decide) (by decide) (bl (by decide) k)))))
def endD (rest : List Tok) : Prop := ∃ t r, rest = t :: r /\ ¬ (t.kind = 1 /\ declK t.text ≠ 0)
theorem read_D : ∀ (ds acc : List Dc) (ts rest : List Tok), okDL ds -> acc.length + ds.length <= 24 -> ts.map Tok.bare = tkDL ds -> endD rest -> ∃ ds', dcl acc (ts ++ rest) = .ok (acc ++ ds') rest /\ ds'.map Dc.strip = ds.map Dc.strip
 | [], acc, ts, rest, _, _, ht, ⟨t, r, hr, hn⟩ => by
  obtain rfl := map_nil' ht
  subst hr
  exact ⟨[], by rw [List.nil_append, dcl_eq, if_neg hn, List.append_nil], rfl⟩
 | d :: ds, acc, ts, rest, hok, hl, ht, hr => by
  have hd := hok d (by simp)
  simp only [List.length_cons] at hl
  simp only [tkDL, tkD, List.cons_append] at ht
  have hq := map_cons' ht
  clear ht
  obtain ⟨t, ts, rfl, h1, ht⟩ := hq
  have hq := map_cons' ht
  clear ht
  obtain ⟨t1, ts, rfl, h2, ht⟩ := hq
  have hb := bare_nm h1
  have hw := declW_word hd.1
  have hk : declK t.text = d.kind := by rw [hb.2]; exact hw.2
  rw [List.cons_append, List.cons_append, dcl_eq, if_pos ⟨hb.1, by rw [hk]; have := hd.1; omega⟩, if_neg (by omega), hk]
  simp only
  rw [if_pos (isNm_kw h2 hd.2.1.2), (bare_nm h2).2]
  by_cases h6 : d.kind = 6
  ·rw [if_pos h6] at ht ⊢
   have hq := map_cons' ht
   clear ht
   obtain ⟨t2, ts, rfl, h3, ht⟩ := hq
   have h3' : t2.kind = 2 /\ t2.num = d.num := by simp only [Tok.bare, Prod.mk.injEq] at h3; exact ⟨h3.1, h3.2.2⟩
   obtain ⟨ds', e1, e2⟩ := read_D ds (acc ++ [⟨6, d.name, t2.num, t.pos⟩]) ts rest (fun x hx => hok x (by simp [hx])) (by simp only [List.length_append, List.length_cons, List.length_nil]; omega) (by simpa using ht) hr
   refine ⟨⟨6, d.name, t2.num, t.pos⟩ :: ds', ?_, ?_⟩
   ·rw [List.cons_append]
    simp only
    rw [if_pos ⟨h3'.1, by rw [h3'.2]; exact hd.2.2.2⟩, e1, List.append_assoc]
    rfl
   ·rw [List.map_cons, List.map_cons, e2, h3'.2]
    simp only [Dc.strip, h6]
  ·rw [if_neg h6] at ht ⊢
   obtain ⟨ds', e1, e2⟩ := read_D ds (acc ++ [⟨d.kind, d.name, 0, t.pos⟩]) ts rest (fun x hx => hok x (by simp [hx])) (by simp only [List.length_append, List.length_cons, List.length_nil]; omega) (by simpa using ht) hr
   refine ⟨⟨d.kind, d.name, 0, t.pos⟩ :: ds', ?_, ?_⟩
   ·rw [e1, List.append_assoc]; rfl
   ·rw [List.map_cons, List.map_cons, e2]
    simp only [Dc.strip, hd.2.2.1 h6]
theorem read_T : ∀ (tl acc : List (List St)) (ts : List Tok) (e : Tok), okTL tl -> acc.length + tl.length <= 4 -> acc ++ tl ≠ [] -> ts.map Tok.bare = tkTL tl -> e.kind = 4 -> ∃ tl', thr acc (ts ++ [e]) = .ok (acc ++ tl') [e] /\ tl'.map stripL = tl.map stripL
 | [], acc, ts, e, _, _, hne, ht, he => by
  obtain rfl := map_nil' ht
  rw [List.append_nil] at hne
  exact ⟨[], by rw [List.nil_append, thr_eq, if_pos ⟨hne, he⟩, List.append_nil], rfl⟩
 | l :: tl, acc, ts, e, hok, hl, hne, ht, he => by
  simp only [List.length_cons] at hl
  simp only [tkTL] at ht
  have hq := map_cons' ht
  clear ht
  obtain ⟨t, ts, rfl, h1, ht⟩ := hq
  have hq := map_cons' ht
  clear ht
  obtain ⟨t1, ts, rfl, h2, ht⟩ := hq
  have hq := map_split ht
  clear ht
  obtain ⟨tb, ts, rfl, h3, ht⟩ := hq
  have hq := map_cons' ht
  clear ht
  obtain ⟨t2, ts, rfl, h4, ht⟩ := hq
  have hb := bare_nm h1
  obtain ⟨l', e1, e2⟩ := read_L l (d := 0) (hok l (by simp)) (ts := tb) (rest := ts ++ [e]) [] h3 h4
  have eB : blk 0 (t1 :: (tb ++ t2 :: ts) ++ [e]) = .ok l' (ts ++ [e]) := by
   rw [List.cons_append, blk_cons _ _ _ (by omega), if_pos (isSign_sg h2)]
   simpa [List.append_assoc] using e1
  obtain ⟨tl', f1, f2⟩ := read_T tl (acc ++ [l']) ts e (fun x hx => hok x (by simp [hx])) (by simp only [List.length_append, List.length_cons, List.length_nil]; omega) (by simp) ht he
  refine ⟨l' :: tl', ?_, ?_⟩
  ·rw [List.cons_append, thr_eq, if_neg (fun h => by rw [hb.1] at h; exact absurd h.2 (by decide)), if_neg (by omega), if_pos (by rw [h1]; rfl), eB]
   simp only
   rw [if_pos (by simp only [List.length_append, List.length_cons]; omega), f1, List.append_assoc]
   rfl
  ·rw [List.map_cons, List.map_cons, f2]
   rw [List.nil_append] at e2
   rw [e2]
theorem read_P {ds : List Dc} {tl : List (List St)} (hd : okDL ds) (h24 : ds.length <= 24) (ht : okTL tl) (h4 : tl.length <= 4) (hne : tl ≠ []) : ∃ l ds' tl', lexR (dtL ds ++ ttL tl) 0 [] = .ok l /\ prg (l ++ [endT (dtL ds ++ ttL tl)]) = .ok ds' tl' /\ ds'.map Dc.strip = ds.map Dc.strip /\ tl'.map stripL = tl.map stripL := by
 obtain ⟨l, h1, h2⟩ := ((lx_DL hd).append0 (lx_TL ht)).to.all
 have hq := map_split h1
 obtain ⟨t1, t2, rfl, g1, g2⟩ := hq
 have hend : endD (t2 ++ [endT (dtL ds ++ ttL tl)]) := by
  cases tl with
  | nil => exact absurd rfl hne
  | cons x tl =>
   simp only [tkTL] at g2
   have hq := map_cons' g2
   obtain ⟨t, ts, rfl, h3, _⟩ := hq
   have hb := bare_nm h3
   exact ⟨t, _, rfl, fun h => h.2 (by rw [hb.2]; decide)⟩
 obtain ⟨ds', e1, e2⟩ := read_D ds [] t1 (t2 ++ [endT (dtL ds ++ ttL tl)]) hd (by simpa using h24) g1 hend
 obtain ⟨tl', f1, f2⟩ := read_T tl [] t2 (endT (dtL ds ++ ttL tl)) ht (by simpa using h4) (by simpa using hne) g2 rfl
 refine ⟨t1 ++ t2, ds', tl', h2, ?_, e2, f2⟩
 unfold prg
 rw [List.append_assoc, e1]
 simp only
 rw [f1]
 rfl
section
variable {n : Nat}
theorem fit_D (pl : Nat -> Nat × Nat) (d : Dc) : fits [.int .i64, .str, .int .i64, .cplx .f64] (encD pl d) = true := rfl
theorem idx_D (pl : Nat -> Nat × Nat) {l : List Dc} {i : Nat} (h : i < l.length) : idx true [.int .i64, .str, .int .i64, .cplx .f64] (l.map (encD pl)) (i : Int) = some (encD pl l[i]) := by
 unfold idx
 rw [cond_true, decide_eq_true (Int.natCast_nonneg _), cond_true, Int.toNat_natCast]
 simp [h, fit_D]
theorem idx_T (pl : Nat -> Nat × Nat) {l : List (List St)} {i : Nat} (h : i < l.length) : idx true [.list] (l.map (encT pl)) (i : Int) = some (encT pl l[i]) := by
 unfold idx
 rw [cond_true, decide_eq_true (Int.natCast_nonneg _), cond_true, Int.toNat_natCast]
 have : ∀ x : List St, fits [.list] (encT pl x) = true := fun _ => rfl
 simp [h, this]
end
section
variable {n : Nat}
theorem tx_sub {k : Int} {nm o : List UInt8} {m : Nat} {e : Option E} {body els : List St} {p d : Nat} (h : okS (.mk k nm o m e body els p) d) :
  (txL body (d + 1)).length <= (tx (.mk k nm o m e body els p) d).length /\ (txL els (d + 1)).length <= (tx (.mk k nm o m e body els p) d).length /\ okL body (d + 1) /\ okL els (d + 1) /\ (d < 8 \/ (body = [] /\ els = [])) /\ (bsO e).length <= (tx (.mk k nm o m e body els p) d).length := by
 unfold okS at h
 have nl : (txL [] (d + 1)).length = 0 := by simp only [txL, List.length_nil]
 split at h
 ·rename_i hk; subst hk
  obtain ⟨_, _, _, he, rfl, rfl⟩ := h
  refine ⟨by omega, by omega, by simp only [okL], by simp only [okL], .inr ⟨rfl, rfl⟩, ?_⟩
  simp only [tx, if_true, List.length_append, List.length_cons]; omega
 split at h
 ·obtain ⟨_, _, _, rfl, rfl, rfl⟩ := h
  exact ⟨by omega, by omega, by simp only [okL], by simp only [okL], .inr ⟨rfl, rfl⟩, by simp only [bsO, List.length_nil]; omega⟩
 split at h
 ·rename_i hk; subst hk
  obtain ⟨_, _, _, he, rfl, rfl⟩ := h
  refine ⟨by omega, by omega, by simp only [okL], by simp only [okL], .inr ⟨rfl, rfl⟩, ?_⟩
  simp only [tx, Int.reduceEq, if_false, if_true, List.length_append, List.length_cons]; omega
 split at h
 ·obtain ⟨_, _, _, rfl, rfl, rfl⟩ := h
  exact ⟨by omega, by omega, by simp only [okL], by simp only [okL], .inr ⟨rfl, rfl⟩, by simp only [bsO, List.length_nil]; omega⟩
 split at h
 ·rename_i hk; subst hk
  obtain ⟨_, _, _, he, rfl, rfl⟩ := h
  refine ⟨by omega, by omega, by simp only [okL], by simp only [okL], .inr ⟨rfl, rfl⟩, ?_⟩
  simp only [tx, Int.reduceEq, if_false, if_true, List.length_append, List.length_cons]; omega
 split at h
 ·rename_i hk; subst hk
  obtain ⟨_, _, _, he, hd, hB, hF⟩ := h
  refine ⟨?_, ?_, hB, hF, .inl hd, ?_⟩
  ·simp only [tx, Int.reduceEq, if_false, if_true, List.length_append, List.length_cons]; omega
  ·cases els with
   | nil => omega
   | cons y els =>
    simp only [tx, Int.reduceEq, if_false, if_true, List.length_append, List.length_cons]; omega
  ·simp only [tx, Int.reduceEq, if_false, if_true, List.length_append, List.length_cons]; omega
 split at h
 ·rename_i hk; subst hk
  obtain ⟨_, _, _, rfl, hd, hB, rfl⟩ := h
  refine ⟨?_, by omega, hB, by simp only [okL], .inl hd, by simp only [bsO, List.length_nil]; omega⟩
  simp only [tx, Int.reduceEq, if_false, if_true, List.length_append, List.length_cons]; omega
 ·exact h.elim
theorem stripL_map : ∀ l : List St, stripL l = l.map St.strip
 | [] => rfl
 | x :: l => by simp only [stripL, List.map_cons, stripL_map l]
theorem okL_at {l : List St} {d i : Nat} (h : okL l d) (hi : i < l.length) : okS l[i] d := by
 have e := List.take_append_drop i l
 rw [<- e] at h
 have h2 := (okL_append.1 h).2
 rw [List.drop_eq_getElem_cons hi] at h2
 simp only [okL] at h2
 exact h2.1
theorem txL_at : ∀ {l : List St} {d i : Nat} (hi : i < l.length), (tx l[i] d).length <= (txL l d).length
 | x :: l, d, 0, _ => by simp only [txL, List.length_append, List.length_cons, List.getElem_cons_zero]; omega
 | x :: l, d, i + 1, hi => by
  have := txL_at (l := l) (d := d) (i := i) (by simpa using hi)
  simp only [txL, List.length_append, List.length_cons, List.getElem_cons_succ]
  omega
theorem txL_len : ∀ (l : List St) (d : Nat), l.length <= (txL l d).length
 | [], d => by simp
 | x :: l, d => by simp only [txL, List.length_append, List.length_cons]; have := txL_len l d; omega
end
def pl0 : Nat -> Nat × Nat := fun _ => (0, 0)
section
variable {n : Nat}
theorem act_cell (x : Act5) : (x.t.cell 0).int = x.w /\ (x.t.cell 1).int = x.a /\ (x.t.cell 2).int = x.b /\ (x.t.cell 3).int = x.n /\ (x.t.cell 4).lst = ints .i64 x.e := ⟨rfl, rfl, rfl, rfl, rfl⟩
theorem sized_act (l : List Act5) : sized 5 (l.map Act5.t) = true := by
 unfold sized
 rw [List.all_map]
 exact List.all_eq_true.2 (fun x _ => rfl)
theorem idx_act {x : Act5} {l : List Act5} : idx true [.int .i64, .int .i64, .int .i64, .int .i64, .list] ((x :: l).map Act5.t) 0 = some x.t := rfl
theorem drop_act (x : Act5) (l : List Act5) : List.drop (Int.toNat 1) (List.take (Int.toNat ((List.length ((x :: l).map Act5.t) : Nat) : Int)) ((x :: l).map Act5.t)) = l.map Act5.t := by
 rw [Int.toNat_natCast, List.take_length]
 rfl
theorem fit11 (es : List T) (y : T) (h : es.length <= 100000) (hy : sized 11 [y] = true) {R : Type} (q : Option R) : must true ((Nat.beq 11 11 || Nat.beq 11 0) && (decide (List.length es + List.length [y] <= 1073741824) && sized 11 [y])) q = q := by
 rw [List.length_singleton, decide_eq_true (show es.length + 1 <= 1073741824 by omega), hy]
 rfl
theorem txL_app (l : List St) (s : St) (d : Nat) : (txL (l ++ [s]) d).length = (txL l d).length + (d + (tx s d).length + 1) := by
 induction l with
 | nil => simp only [List.nil_append, txL, List.length_append, List.length_cons, List.length_nil, tabsL, List.length_replicate]; omega
 | cons x l ih => simp only [List.cons_append, txL, List.length_append, List.length_cons, ih]; omega
theorem tx7_len {e : E} {bd el : List St} {p d : Nat} : (tx (.mk 7 [] [] 0 (some e) bd el p) d).length <= (bs e 0).length + (txL bd (d + 1)).length + (txL el (d + 1)).length + 2 * d + 20 := by
 have w6 : wIf.length = 2 := rfl
 have w7 : wElse.length = 4 := rfl
 have tb : (tabsL d).length = d := List.length_replicate
 cases el with
 | nil => simp only [tx, bsO, Int.reduceEq, if_false, if_true, List.length_append, List.length_cons, List.length_nil]; omega
 | cons y el => simp only [tx, bsO, Int.reduceEq, if_false, if_true, List.length_append, List.length_cons, List.length_nil]; omega
end
section
variable {n : Nat}
theorem pickW_nat (x m : Int) (h1 : 0 < m) (h2 : m <= 1000) : ∃ q : Nat, pickW x m = (q : Int) /\ (q : Int) < m := by
 have a1 : Int.tmod x m < m := Int.tmod_lt_of_pos x h1
 have a2 : -m < Int.tmod x m := by
  have := Int.tmod_lt_of_pos (-x) h1
  rw [Int.neg_tmod] at this
  omega
 unfold pickW
 by_cases h : Int.tmod x m < 0
 ·rw [if_pos h]
  refine ⟨(Int.tmod x m + m).toNat, ?_, by omega⟩
  unfold wrap64
  omega
 ·rw [if_neg h]
  exact ⟨(Int.tmod x m).toNat, by omega, by omega⟩
def dsOf (k0 k1 : Int) (q : Nat) : List Dc := [⟨k0, [120], 0, 0⟩, ⟨k1, [121], 0, 0⟩, ⟨2, [122], 0, 0⟩, ⟨3, [97], 0, 0⟩, ⟨4, [116], 0, 0⟩, ⟨5, [109], 0, 0⟩, ⟨6, [99], q, 0⟩, ⟨6, [100], 0, 0⟩]
theorem declW_len (k : Int) : (declW k).length <= 6 := by
 unfold declW
 repeat' split
 all_goals decide
end
theorem stripL_nil {l : List St} : stripL l = [] ↔ l = [] := by
 cases l with
 | nil => simp [stripL]
 | cons x l => simp [stripL]
mutual
theorem okS_strip : ∀ (s : St) (d : Nat), okS s.strip d ↔ okS s d
 | .mk k n o m e body els p, d => by simp only [St.strip, okS, okL_strip body (d + 1), okL_strip els (d + 1), stripL_nil]
theorem okL_strip : ∀ (l : List St) (d : Nat), okL (stripL l) d ↔ okL l d
 | [], d => by simp only [stripL]
 | s :: l, d => by simp only [stripL, okL, okS_strip s d, okL_strip l d]
end
mutual
theorem tx_strip : ∀ (s : St) (d : Nat), tx s.strip d = tx s d
 | .mk k n o m e body els p, d => by
  have hb := txL_strip body (d + 1)
  have he := txL_strip els (d + 1)
  cases els with
  | nil => simp only [St.strip, stripL, tx, hb]
  | cons y els =>
   simp only [stripL] at he
   simp only [St.strip, stripL, tx, hb, he]
theorem txL_strip : ∀ (l : List St) (d : Nat), txL (stripL l) d = txL l d
 | [], d => by simp only [stripL]
 | s :: l, d => by simp only [stripL, txL, tx_strip s d, txL_strip l d]
end
theorem ok_same {a b : List St} (h : stripL a = stripL b) {d : Nat} (hb : okL b d) : okL a d /\ (txL a d).length = (txL b d).length := by
 refine ⟨(okL_strip a d).1 (by rw [h]; exact (okL_strip b d).2 hb), ?_⟩
 rw [<- txL_strip a d, h, txL_strip b d]
abbrev Pc := List UInt8 × List Bk
def ptx (l : List Pc) : List UInt8 := (l.map Prod.fst).flatten
def ptk (l : List Pc) : List Bk := (l.map Prod.snd).flatten
def lnT (u : List UInt8) : Prop := ∃ w, u = w ++ [10] /\ (10 : UInt8) ∉ w
def okP (p : Pc) : Prop := Lx0 p.1 p.2 /\ lnT p.1
theorem ptx_cons (p : Pc) (l : List Pc) : ptx (p :: l) = p.1 ++ ptx l := by simp [ptx]
theorem ptk_cons (p : Pc) (l : List Pc) : ptk (p :: l) = p.2 ++ ptk l := by simp [ptk]
theorem ptx_append (l k : List Pc) : ptx (l ++ k) = ptx l ++ ptx k := by simp [ptx]
theorem ptk_append (l k : List Pc) : ptk (l ++ k) = ptk l ++ ptk k := by simp [ptk]
theorem isLD_ne {c : UInt8} (h : isLD c = true) : c ≠ 10 := by rintro rfl; exact absurd h (by decide)
theorem word_no {w : List UInt8} (h : wordB w = true) : (10 : UInt8) ∉ w := by
 cases w with
 | nil => simp
 | cons c w =>
  simp only [wordB, Bool.and_eq_true] at h
  intro hm
  exact isLD_ne (List.all_eq_true.1 h.1.2 10 hm) rfl
theorem dec_no (n : Nat) : (10 : UInt8) ∉ Lib.decDigits n := by
 intro h
 exact isLD_ne (isLD_D ((val_dec n).2.1 10 h)) rfl
theorem sgn_no {k : Int} (h : isOp k = true) : (10 : UInt8) ∉ sgn k := by
 rcases op_cases h with rfl | rfl | rfl | rfl | rfl | rfl | rfl <;> decide
theorem bs_no : ∀ {e : E} {l : Nat}, saneE e -> (10 : UInt8) ∉ bs e l
 | .num n, l, h => dec_no n
 | .name w, l, h => word_no h
 | .neg e, l, h => by
  have := bs_no (e := e) (l := 3) h
  simp only [bs, List.mem_cons, not_or]
  exact ⟨by decide, this⟩
 | .bin k a b, l, h => by
  obtain ⟨hk, ha, hb⟩ := h
  have h1 := bs_no (e := a) (l := left k) ha
  have h2 := bs_no (e := b) (l := lvl k + 1) hb
  have h3 := sgn_no hk
  have e1 : ¬ ((10 : UInt8) = 32) := by decide
  have e2 : ¬ ((10 : UInt8) = 40) := by decide
  have e3 : ¬ ((10 : UInt8) = 41) := by decide
  unfold bs
  split
  ·simp only [List.mem_cons, List.mem_append, List.not_mem_nil, h1, h2, h3, e1, e2, e3, or_self, or_false, not_false_eq_true]
  ·simp only [List.mem_cons, List.mem_append, h1, h2, h3, e1, or_self, not_false_eq_true]
theorem bsO_no {e : Option E} (h : okE e) : (10 : UInt8) ∉ bsO e := by
 cases e with
 | none => exact h.elim
 | some x => exact bs_no h.1
theorem tabs_no (d : Nat) : (10 : UInt8) ∉ tabsL d := by
 intro h
 exact absurd (List.eq_of_mem_replicate h) (by decide)
theorem one_line {u : List UInt8} {us : List Bk} (h : Lx u us) (hn : (10 : UInt8) ∉ u) (d : Nat) : okP (tabsL d ++ (u ++ [10]), us) := by
 refine ⟨?_, tabsL d ++ u, by simp, ?_⟩
 ·have h2 := h.append0 (c := 10) (v := []) (by decide) (bl (by decide) Lx0.nil)
  rw [List.append_nil] at h2
  exact tabs0 h2 d
 ·simp only [List.mem_append, tabs_no d, hn, or_self, not_false_eq_true]
theorem bra_line {u : List UInt8} {us : List Bk} (h : Lx u us) (hn : (10 : UInt8) ∉ u) (d : Nat) : okP (tabsL d ++ (u ++ [32, 123, 10]), us ++ [sgT 123]) := by
 have h2 : Lx (u ++ [32, 123]) (us ++ [sgT 123]) := (h.append0 (c := 32) (by decide) (bl (by decide) (sg (by decide) (by decide) Lx0.nil))).to
 have := one_line h2 (by simp only [List.mem_append, List.mem_cons, List.not_mem_nil, hn, show ¬ ((10 : UInt8) = 32) by decide, show ¬ ((10 : UInt8) = 123) by decide, or_self, or_false, not_false_eq_true]) d
 simpa [List.append_assoc] using this
theorem end_line (d : Nat) : okP (tabsL d ++ [125, 10], [sgT 125]) := by
 have := one_line (u := [125]) (us := [sgT 125]) (Lx0.sign (c := 125) (by decide) (by decide)).to (by decide) d
 rwa [List.singleton_append] at this
mutual
theorem ln_S : ∀ (s : St) {d : Nat} (D : Nat), okS s d -> ∃ ps, (∀ p ∈ ps, okP p) /\ ptx ps = tabsL D ++ (tx s D ++ [10]) /\ ptk ps = tkS s
 | .mk k n o m e body els p, d, D, h => by
  have hx := lx_S (.mk k n o m e body els p) D h
  unfold okS at h
  have e1 : ¬ ((10 : UInt8) = 32) := by decide
  have e2 : ¬ ((10 : UInt8) = 61) := by decide
  have simple : (10 : UInt8) ∉ tx (.mk k n o m e body els p) D -> ∃ ps, (∀ p ∈ ps, okP p) /\ ptx ps = tabsL D ++ (tx (.mk k n o m e body els p) D ++ [10]) /\ ptk ps = tkS (.mk k n o m e body els p) := fun hn =>
   ⟨[(tabsL D ++ (tx (.mk k n o m e body els p) D ++ [10]), tkS (.mk k n o m e body els p))], by intro q hq; simp only [List.mem_singleton] at hq; subst hq; exact one_line hx hn D, by simp [ptx], by simp [ptk]⟩
  split at h
  ·rename_i hk
   subst hk
   refine simple ?_
   simp only [tx, if_true, List.mem_append, List.mem_cons, word_no h.1.1, bsO_no h.2.2.2.1, e1, e2, or_self, not_false_eq_true]
  rename_i h1
  split at h
  ·rename_i hk
   refine simple ?_
   rcases hk with rfl | rfl | rfl | rfl
   ·simp only [tx, Int.reduceEq, if_false, if_true, List.mem_append, List.mem_cons, word_no h.1.1, word_no (show wordB wLock = true by decide), e1, or_self, not_false_eq_true]
   ·simp only [tx, Int.reduceEq, if_false, if_true, List.mem_append, List.mem_cons, word_no h.1.1, word_no (show wordB wUnlock = true by decide), e1, or_self, not_false_eq_true]
   ·simp only [tx, Int.reduceEq, if_false, if_true, List.mem_append, List.mem_cons, word_no h.1.1, word_no (show wordB wGoto = true by decide), e1, or_self, not_false_eq_true]
   ·simp only [tx, Int.reduceEq, if_false, if_true, List.mem_append, List.mem_cons, word_no h.1.1, word_no (show wordB wLabel = true by decide), e1, or_self, not_false_eq_true]
  split at h
  ·rename_i hk
   subst hk
   refine simple ?_
   simp only [tx, Int.reduceEq, if_false, if_true, List.mem_append, List.mem_cons, word_no h.1.1, bsO_no h.2.2.2.1, word_no (show wordB wSend = true by decide), e1, or_self, not_false_eq_true]
  split at h
  ·rename_i hk
   subst hk
   refine simple ?_
   simp only [tx, Int.reduceEq, if_false, if_true, List.mem_append, List.mem_cons, word_no h.1.1, word_no h.2.1.1, word_no (show wordB wRecv = true by decide), e1, or_self, not_false_eq_true]
  split at h
  ·rename_i hk
   subst hk
   refine simple ?_
   simp only [tx, Int.reduceEq, if_false, if_true, List.mem_append, List.mem_cons, bsO_no h.2.2.2.1, word_no (show wordB wPrint = true by decide), e1, or_self, not_false_eq_true]
  split at h
  ·rename_i hk
   subst hk
   obtain ⟨_, _, _, he, _, hB, hF⟩ := h
   obtain ⟨pb, b1, b2, b3⟩ := ln_L body (D + 1) hB
   have hl := bra_line (wd (w := wIf) (by decide) (eO he)) (by simp only [List.mem_append, List.mem_cons, bsO_no he, word_no (show wordB wIf = true by decide), e1, or_self, not_false_eq_true]) D
   cases els with
   | nil =>
    refine ⟨(tabsL D ++ (wIf ++ 32 :: bsO e ++ [32, 123, 10]), nmT wIf :: prO e ++ [sgT 123]) :: (pb ++ [(tabsL D ++ [125, 10], [sgT 125])]), ?_, ?_, ?_⟩
    ·intro q hq
     simp only [List.mem_cons, List.mem_append, List.not_mem_nil, or_false] at hq
     rcases hq with rfl | hq | rfl
     ·exact hl
     ·exact b1 q hq
     ·exact end_line D
    ·rw [ptx_cons, ptx_append, b2]
     simp [ptx, tx]
    ·rw [ptk_cons, ptk_append, b3]
     simp [ptk, tkS]
   | cons y els =>
    obtain ⟨pf, f1, f2, f3⟩ := ln_L (y :: els) (D + 1) hF
    have hm : okP (tabsL D ++ ((125 : UInt8) :: 32 :: wElse ++ [32, 123, 10]), [sgT 125, nmT wElse] ++ [sgT 123]) :=
     bra_line (sg (c := 125) (by decide) (by decide) (bl (c := 32) (by decide) Lx0.nil) |>.append (Lx.word (w := wElse) (by decide))) (by decide) D
    refine ⟨(tabsL D ++ (wIf ++ 32 :: bsO e ++ [32, 123, 10]), nmT wIf :: prO e ++ [sgT 123]) :: (pb ++ (tabsL D ++ ((125 : UInt8) :: 32 :: wElse ++ [32, 123, 10]), [sgT 125, nmT wElse] ++ [sgT 123]) :: (pf ++ [(tabsL D ++ [125, 10], [sgT 125])])), ?_, ?_, ?_⟩
    ·intro q hq
     simp only [List.mem_cons, List.mem_append, List.not_mem_nil, or_false] at hq
     rcases hq with rfl | hq | rfl | hq | rfl
     ·exact hl
     ·exact b1 q hq
     ·exact hm
     ·exact f1 q hq
     ·exact end_line D
    ·rw [ptx_cons, ptx_append, b2, ptx_cons, ptx_append, f2]
     simp [ptx, tx]
    ·rw [ptk_cons, ptk_append, b3, ptk_cons, ptk_append, f3]
     simp [ptk, tkS, tkL]
  split at h
  ·rename_i hk
   subst hk
   obtain ⟨_, _, hm, _, _, hB, _⟩ := h
   obtain ⟨pb, b1, b2, b3⟩ := ln_L body (D + 1) hB
   have hl := bra_line (wd (w := wRepeat) (by decide) (Lx.num (n := m) (by omega))) (by simp only [List.mem_append, List.mem_cons, dec_no m, word_no (show wordB wRepeat = true by decide), e1, or_self, not_false_eq_true]) D
   refine ⟨(tabsL D ++ (wRepeat ++ 32 :: Lib.decDigits m ++ [32, 123, 10]), [nmT wRepeat, (2, Lib.decDigits m, m)] ++ [sgT 123]) :: (pb ++ [(tabsL D ++ [125, 10], [sgT 125])]), ?_, ?_, ?_⟩
   ·intro q hq
    simp only [List.mem_cons, List.mem_append, List.not_mem_nil, or_false] at hq
    rcases hq with rfl | hq | rfl
    ·exact hl
    ·exact b1 q hq
    ·exact end_line D
   ·rw [ptx_cons, ptx_append, b2]
    simp [ptx, tx]
   ·rw [ptk_cons, ptk_append, b3]
    rw [show ptk [((tabsL D ++ [125, 10], [sgT 125]) : Pc)] = [sgT 125] from rfl]
    unfold tkS
    simp only [Int.reduceEq, if_false, if_true, List.cons_append, List.nil_append]
  ·exact h.elim
theorem ln_L : ∀ (l : List St) {d : Nat} (D : Nat), okL l d -> ∃ ps, (∀ p ∈ ps, okP p) /\ ptx ps = txL l D /\ ptk ps = tkL l
 | [], d, D, _ => ⟨[], by simp, by simp [ptx, txL], by simp [ptk, tkL]⟩
 | s :: r, d, D, h => by
  simp only [okL] at h
  obtain ⟨p1, a1, a2, a3⟩ := ln_S s D h.1
  obtain ⟨p2, b1, b2, b3⟩ := ln_L r D h.2
  refine ⟨p1 ++ p2, ?_, ?_, ?_⟩
  ·intro q hq
   rcases List.mem_append.1 hq with hq | hq
   ·exact a1 q hq
   ·exact b1 q hq
  ·rw [ptx_append, a2, b2]
   simp [txL]
  ·rw [ptk_append, a3, b3]
   simp [tkL]
end
theorem ln_DL : ∀ {l : List Dc}, okDL l -> ∃ ps, (∀ p ∈ ps, okP p) /\ ptx ps = dtL l /\ ptk ps = tkDL l
 | [], _ => ⟨[], by simp, by simp [ptx, dtL], by simp [ptk, tkDL]⟩
 | d :: r, h => by
  obtain ⟨p2, b1, b2, b3⟩ := ln_DL (l := r) (fun x hx => h x (by simp [hx]))
  have hd := h d (by simp)
  have hn : (10 : UInt8) ∉ dtx d := by
   unfold dtx
   split
   ·simp only [List.mem_append, List.mem_cons, word_no (declW_word hd.1).1, word_no hd.2.1.1, dec_no, show ¬ ((10 : UInt8) = 32) by decide, or_self, not_false_eq_true]
   ·simp only [List.mem_append, List.mem_cons, List.not_mem_nil, word_no (declW_word hd.1).1, word_no hd.2.1.1, show ¬ ((10 : UInt8) = 32) by decide, or_self, not_false_eq_true]
  have h1 := one_line (lx_D hd) hn 0
  rw [show tabsL 0 = [] from rfl, List.nil_append] at h1
  refine ⟨(dtx d ++ [10], tkD d) :: p2, ?_, ?_, ?_⟩
  ·intro q hq
   rcases List.mem_cons.1 hq with rfl | hq
   ·exact h1
   ·exact b1 q hq
  ·rw [ptx_cons, b2]; simp [dtL]
  ·rw [ptk_cons, b3]; simp [tkDL]
theorem ln_TL : ∀ {l : List (List St)}, okTL l -> ∃ ps, (∀ p ∈ ps, okP p) /\ ptx ps = ttL l /\ ptk ps = tkTL l
 | [], _ => ⟨[], by simp, by simp [ptx, ttL], by simp [ptk, tkTL]⟩
 | t :: r, h => by
  obtain ⟨p2, b1, b2, b3⟩ := ln_TL (l := r) (fun x hx => h x (by simp [hx]))
  obtain ⟨p1, a1, a2, a3⟩ := ln_L t 1 (h t (by simp))
  have h0 := bra_line (u := wGo) (Lx.word (by decide)) (by decide) 0
  rw [show tabsL 0 = [] from rfl, List.nil_append] at h0
  have h9 := end_line 0
  rw [show tabsL 0 = [] from rfl, List.nil_append] at h9
  refine ⟨(wGo ++ [32, 123, 10], [nmT wGo] ++ [sgT 123]) :: (p1 ++ ([125, 10], [sgT 125]) :: p2), ?_, ?_, ?_⟩
  ·intro q hq
   simp only [List.mem_cons, List.mem_append] at hq
   rcases hq with rfl | hq | rfl | hq
   ·exact h0
   ·exact a1 q hq
   ·exact h9
   ·exact b1 q hq
  ·rw [ptx_cons, ptx_append, a2, ptx_cons, b2]; simp [ttL]
  ·rw [ptk_cons, ptk_append, a3, ptk_cons, b3]; simp [tkTL]
theorem ln_P {ds : List Dc} {tl : List (List St)} (hd : okDL ds) (ht : okTL tl) : ∃ ps, (∀ p ∈ ps, okP p) /\ ptx ps = dtL ds ++ ttL tl /\ ptk ps = tkDL ds ++ tkTL tl := by
 obtain ⟨p1, a1, a2, a3⟩ := ln_DL hd
 obtain ⟨p2, b1, b2, b3⟩ := ln_TL ht
 refine ⟨p1 ++ p2, ?_, by rw [ptx_append, a2, b2], by rw [ptk_append, a3, b3]⟩
 intro q hq
 rcases List.mem_append.1 hq with hq | hq
 ·exact a1 q hq
 ·exact b1 q hq
def gapB (q : Int) : List UInt8 := if q = 0 then [] else if q = 1 then [10] else if q = 2 then [35, 32, 103, 111, 32, 123, 10] else [9, 32, 10, 35, 10]
theorem Lx0.note {w : List UInt8} (h : (10 : UInt8) ∉ w) : Lx0 (35 :: (w ++ [10])) [] := by
 intro rest p acc
 refine ⟨[], rfl, by simp, ?_⟩
 have ht : ((w ++ [10]) ++ rest).dropWhile (· != 10) = 10 :: rest := by
  rw [List.append_assoc]
  clear acc p
  induction w with
  | nil => simp
  | cons c w ih =>
   simp only [List.mem_cons, not_or] at h
   rw [List.cons_append, List.dropWhile_cons_of_pos (by simp only [bne_iff_ne]; exact fun e => h.1 e.symm), ih h.2]
 have htk : ((w ++ [10]) ++ rest).takeWhile (· != 10) = w := by
  rw [List.append_assoc]
  clear acc p ht
  induction w with
  | nil => simp
  | cons c w ih =>
   simp only [List.mem_cons, not_or] at h
   rw [List.cons_append, List.takeWhile_cons_of_pos (by simp only [bne_iff_ne]; exact fun e => h.1 e.symm), ih h.2]
 rw [List.cons_append, lexR_note, ht, htk, lexR_blank (by decide), List.append_nil]
 congr 1
 simp only [List.length_cons, List.length_append, List.length_nil]
 omega
theorem gap_lx (q : Int) : Lx0 (gapB q) [] := by
 unfold gapB
 split
 ·exact Lx0.nil
 ·split
  ·exact Lx0.blank (by decide)
  ·split
   ·exact Lx0.note (w := [32, 103, 111, 32, 123]) (by decide)
   ·exact bl (by decide) (bl (by decide) (bl (by decide) (Lx0.note (w := []) (by decide))))
theorem read_Tg : ∀ (tl acc : List (List St)) (ts rest : List Tok), okTL tl -> acc.length + tl.length <= 4 -> ts.map Tok.bare = tkTL tl -> ∃ tl', thr acc (ts ++ rest) = thr (acc ++ tl') rest /\ tl'.map stripL = tl.map stripL
 | [], acc, ts, rest, _, _, ht => by
  obtain rfl := map_nil' ht
  exact ⟨[], by rw [List.nil_append, List.append_nil], rfl⟩
 | l :: tl, acc, ts, rest, hok, hl, ht => by
  simp only [List.length_cons] at hl
  simp only [tkTL] at ht
  have hq := map_cons' ht
  clear ht
  obtain ⟨t, ts, rfl, h1, ht⟩ := hq
  have hq := map_cons' ht
  clear ht
  obtain ⟨t1, ts, rfl, h2, ht⟩ := hq
  have hq := map_split ht
  clear ht
  obtain ⟨tb, ts, rfl, h3, ht⟩ := hq
  have hq := map_cons' ht
  clear ht
  obtain ⟨t2, ts, rfl, h4, ht⟩ := hq
  have hb := bare_nm h1
  obtain ⟨l', e1, e2⟩ := read_L l (d := 0) (hok l (by simp)) (ts := tb) (rest := ts ++ rest) [] h3 h4
  have eB : blk 0 (t1 :: (tb ++ t2 :: ts) ++ rest) = .ok l' (ts ++ rest) := by
   rw [List.cons_append, blk_cons _ _ _ (by omega), if_pos (isSign_sg h2)]
   simpa [List.append_assoc] using e1
  obtain ⟨tl', f1, f2⟩ := read_Tg tl (acc ++ [l']) ts rest (fun x hx => hok x (by simp [hx])) (by simp only [List.length_append, List.length_cons, List.length_nil]; omega) ht
  refine ⟨l' :: tl', ?_, ?_⟩
  ·rw [List.cons_append, thr_eq, if_neg (fun h => by rw [hb.1] at h; exact absurd h.2 (by decide)), if_neg (by omega), if_pos (by rw [h1]; rfl), eB]
   simp only
   rw [if_pos (by simp only [List.length_append, List.length_cons]; omega), f1, List.append_assoc]
   rfl
  ·rw [List.map_cons, List.map_cons, f2]
   rw [List.nil_append] at e2
   rw [e2]
theorem endD_T {tl : List (List St)} (hne : tl ≠ []) {t2 rest : List Tok} (g2 : t2.map Tok.bare = tkTL tl) : endD (t2 ++ rest) := by
 cases tl with
 | nil => exact absurd rfl hne
 | cons x tl =>
  simp only [tkTL] at g2
  have hq := map_cons' g2
  obtain ⟨t, ts, rfl, h3, _⟩ := hq
  have hb := bare_nm h3
  exact ⟨t, _, rfl, fun h => h.2 (by rw [hb.2]; decide)⟩
theorem read_Pg {u : List UInt8} {ds : List Dc} {tl : List (List St)} (hx : Lx0 u (tkDL ds ++ tkTL tl)) (hd : okDL ds) (h24 : ds.length <= 24) (ht : okTL tl) (h4 : tl.length <= 4) (hne : tl ≠ []) :
  ∃ l ds' tl', lexR u 0 [] = .ok l /\ prg (l ++ [endT u]) = .ok ds' tl' /\ ds'.map Dc.strip = ds.map Dc.strip /\ tl'.map stripL = tl.map stripL := by
 obtain ⟨l, h1, h2⟩ := hx.to.all
 have hq := map_split h1
 obtain ⟨t1, t2, rfl, g1, g2⟩ := hq
 obtain ⟨ds', e1, e2⟩ := read_D ds [] t1 (t2 ++ [endT u]) hd (by simpa using h24) g1 (endD_T hne g2)
 obtain ⟨tl', f1, f2⟩ := read_T tl [] t2 (endT u) ht (by simpa using h4) (by simpa using hne) g2 rfl
 refine ⟨t1 ++ t2, ds', tl', h2, ?_, e2, f2⟩
 unfold prg
 rw [List.append_assoc, e1]
 simp only
 rw [f1]
 rfl
theorem read_Pw {u w : List UInt8} {t : Tok} {ds : List Dc} {tl : List (List St)} (hx : Lx0 u (tkDL ds ++ tkTL tl)) (hd : okDL ds) (h24 : ds.length <= 24) (ht : okTL tl) (h4 : tl.length <= 4) (hne : tl ≠ [])
  (hw : ∀ acc, lexR w u.length acc = .ok (acc ++ [t])) (hk : t.kind ≠ 4) (hg : isWord wGo t.bare = false) :
  ∃ l, lexR (u ++ w) 0 [] = .ok l /\ prg (l ++ [endT (u ++ w)]) = .bad (t :: [endT (u ++ w)]) := by
 obtain ⟨l, h1, _, h2⟩ := hx w 0 []
 rw [Nat.zero_add, List.nil_append, hw] at h2
 have hq := map_split h1
 obtain ⟨t1, t2, rfl, g1, g2⟩ := hq
 refine ⟨_, h2, ?_⟩
 obtain ⟨ds', e1, e2⟩ := read_D ds [] t1 (t2 ++ t :: [endT (u ++ w)]) hd (by simpa using h24) g1 (endD_T hne g2)
 obtain ⟨tl', f1, f2⟩ := read_Tg tl [] t2 (t :: [endT (u ++ w)]) ht (by simpa using h4) g2
 have hl : tl'.length = tl.length := by have := congrArg List.length f2; simpa using this
 unfold prg
 rw [show t1 ++ t2 ++ [t] ++ [endT (u ++ w)] = t1 ++ (t2 ++ t :: [endT (u ++ w)]) by simp, e1]
 simp only
 rw [f1, List.nil_append, thr_eq, if_neg (fun h => hk h.2)]
 by_cases h : tl'.length = 4
 ·rw [if_pos h]
 ·rw [if_neg h, if_neg (by rw [hg]; simp)]
theorem okTL_same : ∀ {a b : List (List St)}, a.map stripL = b.map stripL -> okTL b -> okTL a /\ (ttL a).length = (ttL b).length
 | [], [], _, _ => ⟨fun t ht => by simp at ht, rfl⟩
 | [], _ :: _, h, _ => by simp at h
 | _ :: _, [], h, _ => by simp at h
 | x :: a, y :: b, h, hb => by
  simp only [List.map_cons, List.cons.injEq] at h
  obtain ⟨h1, h2⟩ := okTL_same h.2 (fun t ht => hb t (by simp [ht]))
  obtain ⟨k1, k2⟩ := ok_same h.1 (hb y (by simp))
  refine ⟨fun t ht => ?_, ?_⟩
  ·rcases List.mem_cons.1 ht with rfl | ht
   ·exact k1
   ·exact h1 t ht
  ·simp only [ttL, List.length_append, List.length_cons]; omega
section
variable {n : Nat}
def lineT (p : Pc) : T := T.sc (.string (B p.1))
theorem ptx_len : ∀ {ps : List Pc}, (∀ p ∈ ps, lnT p.1) -> ps.length <= (ptx ps).length
 | [], _ => by simp
 | p :: ps, h => by
  have := ptx_len (ps := ps) (fun q hq => h q (by simp [hq]))
  obtain ⟨w, hw, _⟩ := h p (by simp)
  rw [ptx_cons, List.length_append, hw]
  simp only [List.length_cons, List.length_append, List.length_nil]
  omega
theorem P_pre (u w : List UInt8) : P (B (u ++ w)) u.length = P (B u) u.length := by
 unfold P
 rw [L_B, L_B, List.take_left, List.take_length]
end
end Go.Proofs.YtbcgpjlkkcdmmaaGreatDoor.W
namespace Go.Proofs.YtbcgpjlkkcdmmaaGreatDoor.W
open Go Go.Eng Go.Eng.Fl Go.RowKit
set_option linter.unusedVariables false
set_option linter.unusedSimpArgs false
set_option linter.unusedSectionVars false
section
variable {n : Nat}
def jn : List (List UInt8) -> List UInt8
 | [] => []
 | [w] => w
 | w :: v :: r => w ++ 32 :: jn (v :: r)
theorem jn_join : ∀ ws : List (List UInt8), Lib.join ws [32] = jn ws
 | [] => rfl
 | [w] => Lib.join_one w [32]
 | w :: v :: r => by
  have ih := jn_join (v :: r)
  rw [Lib.join_cons] at ih ⊢
  simp only [jn, Lib.joinTail, List.map_cons, List.flatten_cons] at ih ⊢
  rw [<- ih]
  simp
def wT (w : List UInt8) : T := T.sc (.string (B w))
theorem strsOf_ws : ∀ ws : List (List UInt8), strsOf (ws.map wT) = some (ws.map B)
 | [] => rfl
 | w :: r => by simp only [List.map_cons, wT, strsOf, strsOf_ws r, Option.map_some]
theorem repeat_tab : ∀ d : Nat, Lib.repeatL [9] d = tabsL d
 | 0 => rfl
 | d + 1 => by
  have := repeat_tab d
  simp only [Lib.repeatL, this]
  rfl
theorem tabs_len (d : Nat) : (tabsL d).length = d := List.length_replicate
theorem line_eq (d : Nat) (ws : List (List UInt8)) (hd : d <= 1000) (hw : ws.length <= 100) (hj : (jn ws).length <= 100000) : m_text_line n (d : Int) (ws.map wT) = some (B (tabsL d ++ (jn ws ++ [10]))) := by
 unfold m_text_line m_strings_Repeat m_strings_Join repeatM joinM
 have e1 : (⟨#[9]⟩ : ByteArray).data.toList = [9] := rfl
 have e2 : (⟨#[32]⟩ : ByteArray).data.toList = [32] := rfl
 have e3 : joinL (ws.map B) (⟨#[32]⟩ : ByteArray) = jn ws := by
  unfold joinL
  rw [e2, List.map_map, show ((fun x : ByteArray => x.data.toList) ∘ B) = id from funext fun w => by simp [B], List.map_id, jn_join]
 rw [show (decide ((0 : Int) <= (d : Int)) && decide ((d : Int) <= 9223372036854775807) && decide ((⟨#[9]⟩ : ByteArray).size * (d : Int).toNat <= 140737488355328)) = true by
  simp only [Bool.and_eq_true, decide_eq_true_eq, Int.toNat_natCast]
  refine ⟨⟨by omega, by omega⟩, ?_⟩
  show 1 * d <= _
  omega]
 rw [cond_true, e1, Int.toNat_natCast, repeat_tab, Option.bind_some, strsOf_ws]
 simp only
 rw [e3, List.length_map, decide_eq_true (show ws.length <= 140737488355328 by omega), decide_eq_true (show (jn ws).length <= 140737488355328 by omega), Bool.and_self, cond_true, Option.bind_some]
 rw [show (⟨(tabsL d).toArray⟩ : ByteArray) = B (tabsL d) from rfl, show (⟨(jn ws).toArray⟩ : ByteArray) = B (jn ws) from rfl, show (⟨#[10]⟩ : ByteArray) = B [10] from rfl]
 have hl := tabs_len d
 rw [must_cat (by omega), B_append, must_cat (by simp only [List.length_append, List.length_cons, List.length_nil]; omega), B_append, List.append_assoc]
mutual
def exS : St -> Prop
 | .mk k n o m e body els p => (bsO e).length <= 6000 /\ exL body /\ exL els
def exL : List St -> Prop
 | [] => True
 | s :: r => exS s /\ exL r
end
theorem exL_at : ∀ {l : List St} {i : Nat}, exL l -> ∀ hi : i < l.length, exS l[i]
 | s :: r, 0, h, _ => by simp only [exL] at h; exact h.1
 | s :: r, i + 1, h, hi => by simp only [exL] at h; exact exL_at (i := i) h.2 (by simpa using hi)
structure TxOk (n : Nat) (b : B_text_block) (m : Nat) : Prop where
 bl : ∀ (pl : Nat -> Nat × Nat) (l : List St) (d : Nat), okL l d -> exL l -> d <= 8 -> 20 < m + 2 * d -> (txL l d).length <= 40000 -> b.text_block (encSL pl l) (d : Int) = some (B (txL l d))
 nil : 0 < m -> ∀ d : Int, b.text_block [] d = some (B [])
 st : ∀ (pl : Nat -> Nat × Nat) (k : Int) (nm o : List UInt8) (mm : Nat) (e : Option E) (body els : List St) (p : Nat) (pp : Nat × Nat) (d : Nat), okS (.mk k nm o mm e body els p) d -> exS (.mk k nm o mm e body els p) -> d <= 8 -> 19 < m + 2 * d -> (tx (.mk k nm o mm e body els p) d).length <= 40000 →
  b.text_stmt k (B nm) (B o) (mm : Int) (kO e) (nO e) (wO e) (oO e) (encSL pl body) (encSL pl els) pp (d : Int) = some (B (tabsL d ++ (tx (.mk k nm o mm e body els p) d ++ [10])))
theorem printO (hn : 100000 < n) {x : E} (h : saneE x /\ fitsE kwd x 0 0) (hl : (bs x 0).length <= 6000) : m_expr_Print n (kO (some x)) (nO (some x)) (wO (some x)) (oO (some x)) = some (B (bs x 0)) := print_yes hn h.1 (by omega) h.2
theorem tb_loop {b : B_text_block} {m : Nat} (hb : TxOk n b m) (pl : Nat -> Nat × Nat) {l : List St} {d : Nat} (hok : okL l d) (hex : exL l) (hd : d <= 8) (hm : 20 < m + 1 + 2 * d) (hl4 : l.length <= 40000) : ∀ (k i : Nat) (u : List UInt8), l.length - i < k -> i <= l.length -> u.length + (txL (l.drop i) d).length <= 40000 →
  l_text_block_3 b n k ((d : Int), B u, encSL pl l, ((List.length (encSL pl l) : Nat) : Int), (i : Int)) = some (B (u ++ txL (l.drop i) d)) := by
 intro k
 induction k with
 | zero => intro i u h; omega
 | succ k ih =>
  intro i u hk hi hu
  show l_text_block_3_B b n (l_text_block_3 b n k) _ = _
  unfold l_text_block_3_B
  simp only
  by_cases h : ¬ i < l.length
  ·rw [encSL_len, decide_eq_false (by omega), cond_false, List.drop_eq_nil_of_le (by omega)]
   simp only [txL, List.append_nil]
  have h : i < l.length := by omega
  have hdrop : l.drop i = l[i] :: l.drop (i + 1) := List.drop_eq_getElem_cons h
  have hoS := okL_at hok h
  have heS := exL_at hex h
  have hup : IntKind.wrap .i64 ((i : Int) + 1) = ((i + 1 : Nat) : Int) := by rw [wrap_id (by omega) (by omega)]; omega
  have ih' := ih (i + 1)
  rw [encSL_len] at ih'
  rw [encSL_len, decide_eq_true (show (i : Int) < ((l.length : Nat) : Int) by omega), cond_true, idx_S pl h, Option.bind_some, hup]
  rw [hdrop] at hu ⊢
  generalize l[i] = s at *
  obtain ⟨kd, nm, o, mm, e, body, els, p⟩ := s
  simp only [txL, List.length_append, List.length_cons] at hu ⊢
  have cc : ∀ (pl : Nat -> Nat × Nat) (bd el : List St) (q : Nat), ((encS pl (.mk kd nm o mm e bd el q)).cell 0).int = kd /\ ((encS pl (.mk kd nm o mm e bd el q)).cell 1).str = B nm /\ ((encS pl (.mk kd nm o mm e bd el q)).cell 2).str = B o /\ ((encS pl (.mk kd nm o mm e bd el q)).cell 3).int = (mm : Int) /\ ((encS pl (.mk kd nm o mm e bd el q)).cell 4).int = kO e /\ ((encS pl (.mk kd nm o mm e bd el q)).cell 5).int = nO e /\ ((encS pl (.mk kd nm o mm e bd el q)).cell 6).str = wO e /\ ((encS pl (.mk kd nm o mm e bd el q)).cell 7).lst = oO e /\ ((encS pl (.mk kd nm o mm e bd el q)).cell 8).lst = encSL pl bd /\ ((encS pl (.mk kd nm o mm e bd el q)).cell 9).lst = encSL pl el := by
   intro pl bd el q
   simp only [encS]
   exact ⟨rfl, rfl, rfl, rfl, rfl, rfl, rfl, rfl, rfl, rfl⟩
  obtain ⟨a0, a1, a2, a3, a4, a5, a6, a7, a8, a9⟩ := cc pl body els p
  rw [a0, a1, a2, a3, a4, a5, a6, a7, a8, a9, hb.st pl kd nm o mm e body els p _ d hoS heS hd (by omega) (by omega), Option.bind_some]
  rw [must_cat (by simp only [List.length_append, List.length_cons, List.length_nil]; omega), B_append]
  rw [ih' _ (by omega) (by omega) (by simp only [List.length_append, List.length_cons, List.length_nil]; omega)]
  simp
theorem jn2 (a b : List UInt8) : jn [a, b] = a ++ 32 :: b := rfl
theorem jn3 (a b c : List UInt8) : jn [a, b, c] = a ++ 32 :: (b ++ 32 :: c) := rfl
theorem jn1 (a : List UInt8) : jn [a] = a := rfl
theorem l1 (d : Nat) (a : List UInt8) (hd : d <= 1000) (h : a.length <= 50000) : m_text_line n (d : Int) [T.sc (.string (B a))] = some (B (tabsL d ++ (a ++ [10]))) := line_eq d [a] hd (by simp) (by rw [jn1]; omega)
theorem l2 (d : Nat) (a b : List UInt8) (hd : d <= 1000) (h : a.length + b.length <= 50000) : m_text_line n (d : Int) [T.sc (.string (B a)), T.sc (.string (B b))] = some (B (tabsL d ++ (a ++ 32 :: b ++ [10]))) := line_eq d [a, b] hd (by simp) (by rw [jn2]; simp only [List.length_append, List.length_cons]; omega)
theorem l3 (d : Nat) (a b c : List UInt8) (hd : d <= 1000) (h : a.length + b.length + c.length <= 50000) : m_text_line n (d : Int) [T.sc (.string (B a)), T.sc (.string (B b)), T.sc (.string (B c))] = some (B (tabsL d ++ (a ++ 32 :: (b ++ 32 :: c) ++ [10]))) := line_eq d [a, b, c] hd (by simp) (by rw [jn3]; simp only [List.length_append, List.length_cons]; omega)
theorem itoa_ok {u : Nat} (hu : u < 9223372036854775808) : m_strconv_Itoa n (u : Int) = some (B (Lib.decDigits u)) := itoa_nat (by omega)
theorem st_step (hn : 100000 < n) {b : B_text_block} {m : Nat} (hb : TxOk n b m) (pl : Nat -> Nat × Nat) (k : Int) (nm o : List UInt8) (mm : Nat) (e : Option E) (body els : List St) (p : Nat) (pp : Nat × Nat) (d : Nat) (hS : okS (.mk k nm o mm e body els p) d) (hex : exS (.mk k nm o mm e body els p)) (hd : d <= 8) (hm : 19 < m + 1 + 2 * d) (hlen : (tx (.mk k nm o mm e body els p) d).length <= 40000) :
  f_text_stmt b n k (B nm) (B o) (mm : Int) (kO e) (nO e) (wO e) (oO e) (encSL pl body) (encSL pl els) pp (d : Int) = some (B (tabsL d ++ (tx (.mk k nm o mm e body els p) d ++ [10]))) := by
 obtain ⟨t1, t2, t3, t4, t5, t6⟩ := tx_sub hS
 simp only [exS] at hex
 have wl := wlens
 have hdn : IntKind.wrap .i64 ((d : Int) + 1) = ((d + 1 : Nat) : Int) := by rw [wrap_id (by omega) (by omega)]; omega
 have hbody : (txL body (d + 1)).length <= 40000 -> b.text_block (encSL pl body) ((d + 1 : Nat) : Int) = some (B (txL body (d + 1))) := by
  intro hl
  rcases t5 with h8 | ⟨rfl, rfl⟩
  ·exact hb.bl pl body (d + 1) t3 hex.2.1 (by omega) (by omega) hl
  ·simp only [encSL, txL]; exact hb.nil (by omega) _
 have hels : (txL els (d + 1)).length <= 40000 -> b.text_block (encSL pl els) ((d + 1 : Nat) : Int) = some (B (txL els (d + 1))) := by
  intro hl
  rcases t5 with h8 | ⟨rfl, rfl⟩
  ·exact hb.bl pl els (d + 1) t4 hex.2.2 (by omega) (by omega) hl
  ·simp only [encSL, txL]; exact hb.nil (by omega) _
 unfold f_text_stmt
 unfold okS at hS
 split at hS
 ·rename_i hkd
  subst hkd
  obtain ⟨hn1, rfl, rfl, he, rfl, rfl⟩ := hS
  cases e with
  | none => exact he.elim
  | some x =>
   have htx : tx (.mk 1 nm [] 0 (some x) [] [] p) d = nm ++ 32 :: 61 :: 32 :: bs x 0 := by simp only [tx, bsO, if_true]
   rw [htx] at hlen ⊢
   simp only [List.length_append, List.length_cons] at hlen
   have h : m_text_line n (d : Int) [T.sc (.string (B nm)), T.sc (.string (⟨#[61]⟩ : ByteArray)), T.sc (.string (B (bs x 0)))] = _ := l3 d nm [61] (bs x 0) (by omega) (by simp only [List.length_cons, List.length_nil]; omega)
   rw [show (((1 : Int)) == 1) = true from rfl, cond_true]
   rw [printO hn he hex.1, Option.bind_some, h, Option.bind_some]
   simp
 split at hS
 ·rename_i hkd
  obtain ⟨hn1, rfl, rfl, rfl, rfl, rfl⟩ := hS
  rcases hkd with rfl | rfl | rfl | rfl
  ·have htx : tx (.mk 2 nm [] 0 none [] [] p) d = wLock ++ 32 :: nm := by simp only [tx, Int.reduceEq, if_false, if_true]
   rw [htx] at hlen ⊢
   simp only [List.length_append, List.length_cons] at hlen
   have h : m_text_line n (d : Int) [T.sc (.string (⟨#[108, 111, 99, 107]⟩ : ByteArray)), T.sc (.string (B nm))] = _ := l2 d wLock nm (by omega) (by omega)
   rw [show (((2 : Int)) == 1) = false from rfl, cond_false, show (((2 : Int)) == 2) = true from rfl, cond_true]
   rw [h, Option.bind_some]
  ·have htx : tx (.mk 3 nm [] 0 none [] [] p) d = wUnlock ++ 32 :: nm := by simp only [tx, Int.reduceEq, if_false, if_true]
   rw [htx] at hlen ⊢
   simp only [List.length_append, List.length_cons] at hlen
   have h : m_text_line n (d : Int) [T.sc (.string (⟨#[117, 110, 108, 111, 99, 107]⟩ : ByteArray)), T.sc (.string (B nm))] = _ := l2 d wUnlock nm (by omega) (by omega)
   rw [show (((3 : Int)) == 1) = false from rfl, cond_false, show (((3 : Int)) == 2) = false from rfl, cond_false, show (((3 : Int)) == 3) = true from rfl, cond_true]
   rw [h, Option.bind_some]
  ·have htx : tx (.mk 9 nm [] 0 none [] [] p) d = wGoto ++ 32 :: nm := by simp only [tx, Int.reduceEq, if_false, if_true]
   rw [htx] at hlen ⊢
   simp only [List.length_append, List.length_cons] at hlen
   have h : m_text_line n (d : Int) [T.sc (.string (⟨#[103, 111, 116, 111]⟩ : ByteArray)), T.sc (.string (B nm))] = _ := l2 d wGoto nm (by omega) (by omega)
   rw [show (((9 : Int)) == 1) = false from rfl, cond_false, show (((9 : Int)) == 2) = false from rfl, cond_false, show (((9 : Int)) == 3) = false from rfl, cond_false, show (((9 : Int)) == 4) = false from rfl, cond_false, show (((9 : Int)) == 5) = false from rfl, cond_false, show (((9 : Int)) == 6) = false from rfl, cond_false, show (((9 : Int)) == 7) = false from rfl, cond_false, show (((9 : Int)) == 8) = false from rfl, cond_false, show (((9 : Int)) == 9) = true from rfl, cond_true]
   rw [h, Option.bind_some]
  ·have htx : tx (.mk 10 nm [] 0 none [] [] p) d = wLabel ++ 32 :: nm := by simp only [tx, Int.reduceEq, if_false, if_true]
   rw [htx] at hlen ⊢
   simp only [List.length_append, List.length_cons] at hlen
   have h : m_text_line n (d : Int) [T.sc (.string (⟨#[108, 97, 98, 101, 108]⟩ : ByteArray)), T.sc (.string (B nm))] = _ := l2 d wLabel nm (by omega) (by omega)
   rw [show (((10 : Int)) == 1) = false from rfl, cond_false, show (((10 : Int)) == 2) = false from rfl, cond_false, show (((10 : Int)) == 3) = false from rfl, cond_false, show (((10 : Int)) == 4) = false from rfl, cond_false, show (((10 : Int)) == 5) = false from rfl, cond_false, show (((10 : Int)) == 6) = false from rfl, cond_false, show (((10 : Int)) == 7) = false from rfl, cond_false, show (((10 : Int)) == 8) = false from rfl, cond_false, show (((10 : Int)) == 9) = false from rfl, cond_false, show (((10 : Int)) == 10) = true from rfl, cond_true]
   rw [h, Option.bind_some]
 split at hS
 ·rename_i hkd
  subst hkd
  obtain ⟨hn1, rfl, rfl, he, rfl, rfl⟩ := hS
  cases e with
  | none => exact he.elim
  | some x =>
   have htx : tx (.mk 4 nm [] 0 (some x) [] [] p) d = wSend ++ 32 :: (nm ++ 32 :: bs x 0) := by simp only [tx, bsO, Int.reduceEq, if_false, if_true]
   rw [htx] at hlen ⊢
   simp only [List.length_append, List.length_cons] at hlen
   have h : m_text_line n (d : Int) [T.sc (.string (⟨#[115, 101, 110, 100]⟩ : ByteArray)), T.sc (.string (B nm)), T.sc (.string (B (bs x 0)))] = _ := l3 d wSend nm (bs x 0) (by omega) (by omega)
   rw [show (((4 : Int)) == 1) = false from rfl, cond_false, show (((4 : Int)) == 2) = false from rfl, cond_false, show (((4 : Int)) == 3) = false from rfl, cond_false, show (((4 : Int)) == 4) = true from rfl, cond_true]
   rw [printO hn he hex.1, Option.bind_some, h, Option.bind_some]
 split at hS
 ·rename_i hkd
  subst hkd
  obtain ⟨hn1, hn2, rfl, rfl, rfl, rfl⟩ := hS
  have htx : tx (.mk 5 nm o 0 none [] [] p) d = wRecv ++ 32 :: (nm ++ 32 :: o) := by simp only [tx, Int.reduceEq, if_false, if_true]
  rw [htx] at hlen ⊢
  simp only [List.length_append, List.length_cons] at hlen
  have h : m_text_line n (d : Int) [T.sc (.string (⟨#[114, 101, 99, 118]⟩ : ByteArray)), T.sc (.string (B nm)), T.sc (.string (B o))] = _ := l3 d wRecv nm o (by omega) (by omega)
  rw [show (((5 : Int)) == 1) = false from rfl, cond_false, show (((5 : Int)) == 2) = false from rfl, cond_false, show (((5 : Int)) == 3) = false from rfl, cond_false, show (((5 : Int)) == 4) = false from rfl, cond_false, show (((5 : Int)) == 5) = true from rfl, cond_true]
  rw [h, Option.bind_some]
 split at hS
 ·rename_i hkd
  subst hkd
  obtain ⟨rfl, rfl, rfl, he, rfl, rfl⟩ := hS
  cases e with
  | none => exact he.elim
  | some x =>
   have htx : tx (.mk 6 [] [] 0 (some x) [] [] p) d = wPrint ++ 32 :: bs x 0 := by simp only [tx, bsO, Int.reduceEq, if_false, if_true]
   rw [htx] at hlen ⊢
   simp only [List.length_append, List.length_cons] at hlen
   have h : m_text_line n (d : Int) [T.sc (.string (⟨#[112, 114, 105, 110, 116]⟩ : ByteArray)), T.sc (.string (B (bs x 0)))] = _ := l2 d wPrint (bs x 0) (by omega) (by omega)
   rw [show (((6 : Int)) == 1) = false from rfl, cond_false, show (((6 : Int)) == 2) = false from rfl, cond_false, show (((6 : Int)) == 3) = false from rfl, cond_false, show (((6 : Int)) == 4) = false from rfl, cond_false, show (((6 : Int)) == 5) = false from rfl, cond_false, show (((6 : Int)) == 6) = true from rfl, cond_true]
   rw [printO hn he hex.1, Option.bind_some, h, Option.bind_some]
 split at hS
 ·rename_i hkd
  subst hkd
  obtain ⟨rfl, rfl, rfl, he, _, hB, hF⟩ := hS
  cases e with
  | none => exact he.elim
  | some x =>
   have hx6 : (bs x 0).length <= 6000 := hex.1
   have htl := tabs_len d
   have h : m_text_line n (d : Int) [T.sc (.string (⟨#[105, 102]⟩ : ByteArray)), T.sc (.string (B (bs x 0))), T.sc (.string (⟨#[123]⟩ : ByteArray))] = _ := l3 d wIf (bs x 0) [123] (by omega) (by simp only [List.length_cons, List.length_nil]; omega)
   have h2 : m_text_line n (d : Int) [T.sc (.string (⟨#[125]⟩ : ByteArray))] = _ := l1 d [125] (by omega) (by simp)
   rw [show (((7 : Int)) == 1) = false from rfl, cond_false, show (((7 : Int)) == 2) = false from rfl, cond_false, show (((7 : Int)) == 3) = false from rfl, cond_false, show (((7 : Int)) == 4) = false from rfl, cond_false, show (((7 : Int)) == 5) = false from rfl, cond_false, show (((7 : Int)) == 6) = false from rfl, cond_false, show (((7 : Int)) == 7) = true from rfl, cond_true]
   rw [printO hn he hex.1, Option.bind_some, h, Option.bind_some, hdn, hbody (by omega), Option.bind_some]
   have hb1 : (txL body (d + 1)).length <= 40000 := by omega
   rw [must_cat (by simp only [List.length_append, List.length_cons, List.length_nil]; omega), B_append, encSL_len]
   cases els with
   | nil =>
    rw [decide_eq_false (by simp), cond_false, h2, Option.bind_some, must_cat (by simp only [List.length_append, List.length_cons, List.length_nil]; omega), B_append]
    simp [tx, bsO]
   | cons y els =>
    have h3 : m_text_line n (d : Int) [T.sc (.string (⟨#[125]⟩ : ByteArray)), T.sc (.string (⟨#[101, 108, 115, 101]⟩ : ByteArray)), T.sc (.string (⟨#[123]⟩ : ByteArray))] = _ := l3 d [125] wElse [123] (by omega) (by simp only [List.length_cons, List.length_nil]; omega)
    have he1 : (txL (y :: els) (d + 1)).length <= 40000 := by omega
    rw [decide_eq_true (show ((((y :: els).length : Nat) : Int) : Int) > 0 by simp only [List.length_cons]; omega), cond_true, h3, Option.bind_some, hels he1, Option.bind_some]
    rw [must_cat (by simp only [List.length_append, List.length_cons, List.length_nil]; omega), B_append, must_cat (by simp only [List.length_append, List.length_cons, List.length_nil]; omega), B_append, h2, Option.bind_some, must_cat (by simp only [List.length_append, List.length_cons, List.length_nil]; omega), B_append]
    simp [tx, bsO]
 split at hS
 ·rename_i hkd
  subst hkd
  obtain ⟨rfl, rfl, hmm, rfl, _, hB, rfl⟩ := hS
  have htl := tabs_len d
  have hdl : (Lib.decDigits mm).length <= 3 := digs_len 3 mm (by omega) (by omega)
  have h : m_text_line n (d : Int) [T.sc (.string (⟨#[114, 101, 112, 101, 97, 116]⟩ : ByteArray)), T.sc (.string (B (Lib.decDigits mm))), T.sc (.string (⟨#[123]⟩ : ByteArray))] = _ := l3 d wRepeat (Lib.decDigits mm) [123] (by omega) (by simp only [List.length_cons, List.length_nil]; omega)
  have h2 : m_text_line n (d : Int) [T.sc (.string (⟨#[125]⟩ : ByteArray))] = _ := l1 d [125] (by omega) (by simp)
  rw [show (((8 : Int)) == 1) = false from rfl, cond_false, show (((8 : Int)) == 2) = false from rfl, cond_false, show (((8 : Int)) == 3) = false from rfl, cond_false, show (((8 : Int)) == 4) = false from rfl, cond_false, show (((8 : Int)) == 5) = false from rfl, cond_false, show (((8 : Int)) == 6) = false from rfl, cond_false, show (((8 : Int)) == 7) = false from rfl, cond_false, show (((8 : Int)) == 8) = true from rfl, cond_true]
  rw [itoa_ok (by omega), Option.bind_some, h, Option.bind_some, hdn, hbody (by omega), Option.bind_some]
  rw [must_cat (by simp only [List.length_append, List.length_cons, List.length_nil]; omega), B_append, h2, Option.bind_some, must_cat (by simp only [List.length_append, List.length_cons, List.length_nil]; omega), B_append]
  unfold tx
  simp
 ·exact hS.elim
theorem tx_ok (hn : 100000 < n) : ∀ m, TxOk n (unB_text_block n m) m
 | 0 => ⟨fun pl l d _ _ h1 h2 => by omega, fun h => by omega, fun pl k nm o mm e body els p pp d _ _ h1 h2 => by omega⟩
 | m + 1 => by
  have ih := tx_ok hn m
  refine ⟨fun pl l d hok hex hd hm hlen => ?_, fun _ d => ?_, fun pl k nm o mm e body els p pp d hS hex hd hm hlen => ?_⟩
  ·have hl := txL_len l d
   show f_text_block (unB_text_block n m) n (encSL pl l) (d : Int) = _
   unfold f_text_block
   have h := tb_loop ih pl hok hex hd (by omega) (by omega) n 0 [] (by omega) (by omega) (by simp only [List.drop_zero, List.length_nil]; omega)
   rw [List.drop_zero, List.nil_append] at h
   rw [show l_text_block_3 (unB_text_block n m) n n ((d : Int), (⟨#[]⟩ : ByteArray), encSL pl l, ((List.length (encSL pl l) : Nat) : Int), 0) = _ from h, Option.bind_some]
  ·show f_text_block (unB_text_block n m) n [] d = _
   obtain ⟨j, rfl⟩ : ∃ j, n = j + 1 := ⟨n - 1, by omega⟩
   rfl
  ·exact st_step hn ih pl k nm o mm e body els p pp d hS hex hd hm hlen
theorem textB_eq (hn : 100000 < n) (pl : Nat -> Nat × Nat) {l : List St} (hok : okL l 1) (hex : exL l) (hlen : (txL l 1).length <= 40000) : m_text_block n (encSL pl l) 1 = some (B (txL l 1)) :=
 (tx_ok hn n).bl pl l 1 hok hex (by omega) (by omega) hlen
end
end Go.Proofs.YtbcgpjlkkcdmmaaGreatDoor.W
namespace Go.Proofs.YtbcgpjlkkcdmmaaGreatDoor.W
open Go Go.Eng Go.Eng.Fl Go.RowKit
set_option linter.unusedVariables false
set_option linter.unusedSimpArgs false
set_option linter.unusedSectionVars false
section
variable {n : Nat}
theorem sameOL (hn : 100000 < n) {e : Option E} (he : match e with | some x => (bs x 0).length <= 40000 | none => True) : m_tree_SameExpr n (kO e) (nO e) (wO e) (oO e) (kO e) (nO e) (wO e) (oO e) = some true := by
 cases e with
 | some x =>
  have h1 := ht_le x 0
  have : m_tree_SameExpr n (kE x) (nE x) (wE x) (oE x) (kE x) (nE x) (wE x) (oE x) = some true := by rw [sameL x x (by simp only at he; omega), decide_eq_true rfl]
  exact this
 | none =>
  obtain ⟨j, hj⟩ : ∃ j, n = j + 3 := ⟨n - 3, by omega⟩
  show (unB_tree_SameExpr n n).tree_SameExpr 0 0 (⟨#[]⟩ : ByteArray) [] 0 0 (⟨#[]⟩ : ByteArray) [] = some true
  rw [show (unB_tree_SameExpr n n) = unB_tree_SameExpr n (j + 3) by rw [<- hj]]
  show f_tree_SameExpr (unB_tree_SameExpr n (j + 2)) n 0 0 (⟨#[]⟩ : ByteArray) [] 0 0 (⟨#[]⟩ : ByteArray) [] = some true
  unfold f_tree_SameExpr
  have h : (unB_tree_SameExpr n (j + 2)).slices_EqualFunc___api_Expr___api_Expr_api_Expr_api_Expr_ [] [] = some true := by
   show f_slices_EqualFunc___api_Expr___api_Expr_api_Expr_api_Expr_ (unB_tree_SameExpr n (j + 1)) n [] [] = some true
   unfold f_slices_EqualFunc___api_Expr___api_Expr_api_Expr_api_Expr_
   have h2 : ∀ k, 0 < k -> ∃ x, l_slices_EqualFunc___api_Expr___api_Expr_api_Expr_api_Expr__4 (unB_tree_SameExpr n (j + 1)) n k ([], [], ((List.length ([] : List T) : Nat) : Int), 0) = some x /\ Sum.elim (fun p4 => some true) (fun x3' => (fun p5 => some p5) x3') x = some true := by
    intro k hk
    obtain ⟨i, rfl⟩ : ∃ i, k = i + 1 := ⟨k - 1, by omega⟩
    exact ⟨_, rfl, rfl⟩
   obtain ⟨x, q1, q2⟩ := h2 n (by omega)
   rw [show ((((List.length ([] : List T) : Nat) : Int) : Int) != ((List.length ([] : List T) : Nat) : Int)) = false from rfl, cond_false, q1, Option.bind_some]
   exact q2
  have k0 : (ByteArray.toList (⟨#[]⟩ : ByteArray) == ByteArray.toList (⟨#[]⟩ : ByteArray)) = true := beq_self_eq_true _
  rw [k0, show (bif (bif ((0 : Int) == 0) then ((0 : Int) == 0) else false) then true else false) = true from rfl, cond_true, h]
  rfl
structure TsOk (b : B_tree_sameBlock) (m : Nat) : Prop where
 eq : ∀ (p1 p2 : Nat -> Nat × Nat) (la lb : List St) (d : Nat), okL la d -> d <= 8 -> 30 < m + 3 * d -> (txL la d).length <= 40000 -> stripL la = stripL lb -> b.slices_EqualFunc___api_Stmt___api_Stmt_api_Stmt_api_Stmt_ (encSL p1 la) (encSL p2 lb) = some true
 bl : ∀ (p1 p2 : Nat -> Nat × Nat) (la lb : List St) (d : Nat), okL la d -> d <= 8 -> 31 < m + 3 * d -> (txL la d).length <= 40000 -> stripL la = stripL lb -> b.tree_sameBlock (encSL p1 la) (encSL p2 lb) = some true
 nil : 1 < m -> b.tree_sameBlock [] [] = some true
 nilE : 0 < m -> b.slices_EqualFunc___api_Stmt___api_Stmt_api_Stmt_api_Stmt_ [] [] = some true
 st : ∀ (p1 p2 : Nat -> Nat × Nat) (s t : St) (d : Nat), okS s d -> d <= 8 -> 29 < m + 3 * d -> (tx s d).length <= 40000 -> s.strip = t.strip →
  b.tree_sameStmt ((encS p1 s).cell 0).int ((encS p1 s).cell 1).str ((encS p1 s).cell 2).str ((encS p1 s).cell 3).int ((encS p1 s).cell 4).int ((encS p1 s).cell 5).int ((encS p1 s).cell 6).str ((encS p1 s).cell 7).lst ((encS p1 s).cell 8).lst ((encS p1 s).cell 9).lst (((encS p1 s).cell 10).re, ((encS p1 s).cell 10).im)
   ((encS p2 t).cell 0).int ((encS p2 t).cell 1).str ((encS p2 t).cell 2).str ((encS p2 t).cell 3).int ((encS p2 t).cell 4).int ((encS p2 t).cell 5).int ((encS p2 t).cell 6).str ((encS p2 t).cell 7).lst ((encS p2 t).cell 8).lst ((encS p2 t).cell 9).lst (((encS p2 t).cell 10).re, ((encS p2 t).cell 10).im) = some true
theorem strip_len {la lb : List St} (h : stripL la = stripL lb) : la.length = lb.length := by
 have := congrArg List.length h
 rwa [stripL_map, stripL_map, List.length_map, List.length_map] at this
theorem ts_loop {b : B_tree_sameBlock} {m : Nat} (hb : TsOk b m) (p1 p2 : Nat -> Nat × Nat) {la lb : List St} {d : Nat} (hok : okL la d) (hd : d <= 8) (hm : 29 < m + 3 * d) (hlen : (txL la d).length <= 40000) (hst : stripL la = stripL lb) : ∀ (k i : Nat), la.length - i < k -> i <= la.length →
  ∃ x, l_slices_EqualFunc___api_Stmt___api_Stmt_api_Stmt_api_Stmt__4 b n k (encSL p2 lb, encSL p1 la, ((List.length (encSL p1 la) : Nat) : Int), (i : Int)) = some x /\ Sum.elim (fun p4 => some true) (fun x3' => (fun p5 => some p5) x3') x = some true := by
 have hll := strip_len hst
 have hl := txL_len la d
 intro k
 induction k with
 | zero => intro i h; omega
 | succ k ih =>
  intro i hk hi
  show ∃ x, l_slices_EqualFunc___api_Stmt___api_Stmt_api_Stmt_api_Stmt__4_B b n (l_slices_EqualFunc___api_Stmt___api_Stmt_api_Stmt_api_Stmt__4 b n k) _ = some x /\ _
  unfold l_slices_EqualFunc___api_Stmt___api_Stmt_api_Stmt_api_Stmt__4_B
  simp only
  have ih' := ih (i + 1)
  rw [encSL_len] at ih' ⊢
  by_cases h : ¬ i < la.length
  ·rw [decide_eq_false (by omega), cond_false]
   exact ⟨_, rfl, rfl⟩
  have h : i < la.length := by omega
  have h2 : i < lb.length := by omega
  have hup : IntKind.wrap .i64 ((i : Int) + 1) = ((i + 1 : Nat) : Int) := by rw [wrap_id (by omega) (by omega)]; omega
  have hs : la[i].strip = lb[i].strip := by
   have e : (stripL la)[i]? = (stripL lb)[i]? := by rw [hst]
   rw [stripL_map, stripL_map, List.getElem?_map, List.getElem?_map, List.getElem?_eq_getElem h, List.getElem?_eq_getElem h2] at e
   simpa using e
  have hT := txL_at (d := d) h
  rw [decide_eq_true (show (i : Int) < ((la.length : Nat) : Int) by omega), cond_true, idx_S p1 h, Option.bind_some, idx_S p2 h2, Option.bind_some, hup, hb.st p1 p2 la[i] lb[i] d (okL_at hok h) hd (by omega) (by omega) hs, Option.bind_some, Bool.not_true, cond_false]
  exact ih' (by omega) (by omega)
theorem ts_ok (hn : 100000 < n) : ∀ m, TsOk (unB_tree_sameBlock n m) m
 | 0 => ⟨fun p1 p2 la lb d _ h1 h2 => by omega, fun p1 p2 la lb d _ h1 h2 => by omega, fun h => by omega, fun h => by omega, fun p1 p2 s t d _ h1 h2 => by omega⟩
 | m + 1 => by
  have ih := ts_ok hn m
  refine ⟨fun p1 p2 la lb d hok hd hm hlen hst => ?_, fun p1 p2 la lb d hok hd hm hlen hst => ?_, fun hm => ?_, fun hm => ?_, fun p1 p2 s t d hS hd hm hlen hst => ?_⟩
  ·have hl := txL_len la d
   show f_slices_EqualFunc___api_Stmt___api_Stmt_api_Stmt_api_Stmt_ (unB_tree_sameBlock n m) n (encSL p1 la) (encSL p2 lb) = _
   unfold f_slices_EqualFunc___api_Stmt___api_Stmt_api_Stmt_api_Stmt_
   obtain ⟨x, q1, q2⟩ := ts_loop (n := n) ih p1 p2 hok hd (by omega) hlen hst n 0 (by omega) (by omega)
   have q1' : l_slices_EqualFunc___api_Stmt___api_Stmt_api_Stmt_api_Stmt__4 (unB_tree_sameBlock n m) n n (encSL p2 lb, encSL p1 la, ((List.length (encSL p1 la) : Nat) : Int), 0) = some x := q1
   rw [q1', encSL_len, encSL_len, strip_len hst, bne_self_eq_false, cond_false, Option.bind_some]
   exact q2
  ·show f_tree_sameBlock (unB_tree_sameBlock n m) n (encSL p1 la) (encSL p2 lb) = _
   unfold f_tree_sameBlock
   rw [ih.eq p1 p2 la lb d hok hd (by omega) hlen hst, Option.bind_some]
  ·show f_tree_sameBlock (unB_tree_sameBlock n m) n [] [] = _
   unfold f_tree_sameBlock
   rw [ih.nilE (by omega), Option.bind_some]
  ·show f_slices_EqualFunc___api_Stmt___api_Stmt_api_Stmt_api_Stmt_ (unB_tree_sameBlock n m) n [] [] = _
   obtain ⟨j, rfl⟩ : ∃ j, n = j + 1 := ⟨n - 1, by omega⟩
   rfl
  ·obtain ⟨kd, nm, o, mm, e, body, els, p⟩ := s
   obtain ⟨kd', nm', o', mm', e', body', els', p'⟩ := t
   simp only [St.strip, St.mk.injEq] at hst
   obtain ⟨rfl, rfl, rfl, rfl, rfl, hbody, hels, _⟩ := hst
   obtain ⟨t1, t2, t3, t4, t5, t6⟩ := tx_sub hS
   have cc : ∀ (pl : Nat -> Nat × Nat) (bd el : List St) (q : Nat), ((encS pl (.mk kd nm o mm e bd el q)).cell 0).int = kd /\ ((encS pl (.mk kd nm o mm e bd el q)).cell 1).str = B nm /\ ((encS pl (.mk kd nm o mm e bd el q)).cell 2).str = B o /\ ((encS pl (.mk kd nm o mm e bd el q)).cell 3).int = (mm : Int) /\ ((encS pl (.mk kd nm o mm e bd el q)).cell 4).int = kO e /\ ((encS pl (.mk kd nm o mm e bd el q)).cell 5).int = nO e /\ ((encS pl (.mk kd nm o mm e bd el q)).cell 6).str = wO e /\ ((encS pl (.mk kd nm o mm e bd el q)).cell 7).lst = oO e /\ ((encS pl (.mk kd nm o mm e bd el q)).cell 8).lst = encSL pl bd /\ ((encS pl (.mk kd nm o mm e bd el q)).cell 9).lst = encSL pl el := by
    intro pl bd el q
    simp only [encS]
    exact ⟨rfl, rfl, rfl, rfl, rfl, rfl, rfl, rfl, rfl, rfl⟩
   obtain ⟨a0, a1, a2, a3, a4, a5, a6, a7, a8, a9⟩ := cc p1 body els p
   obtain ⟨b0, b1, b2, b3, b4, b5, b6, b7, b8, b9⟩ := cc p2 body' els' p'
   rw [a0, a1, a2, a3, a4, a5, a6, a7, a8, a9, b0, b1, b2, b3, b4, b5, b6, b7, b8, b9]
   rw [show (unB_tree_sameBlock n (m + 1)).tree_sameStmt = f_tree_sameStmt (unB_tree_sameBlock n m) n from rfl]
   unfold f_tree_sameStmt
   have he : m_tree_SameExpr n (kO e) (nO e) (wO e) (oO e) (kO e) (nO e) (wO e) (oO e) = some true := by
    refine sameOL hn ?_
    cases e with
    | none => trivial
    | some x => simp only [bsO] at t6; show (bs x 0).length <= 40000; omega
   have nl : ∀ {x y : List St}, stripL x = stripL y -> x = [] -> y = [] := by
    intro x y h hx
    subst hx
    cases y with
    | nil => rfl
    | cons => simp [stripL] at h
   have hbo : (unB_tree_sameBlock n m).tree_sameBlock (encSL p1 body) (encSL p2 body') = some true := by
    rcases t5 with h8 | ⟨rfl, rfl⟩
    ·exact ih.bl p1 p2 body body' (d + 1) t3 (by omega) (by omega) (by omega) hbody
    ·obtain rfl := nl hbody rfl
     simp only [encSL]
     exact ih.nil (by omega)
   have hel : (unB_tree_sameBlock n m).tree_sameBlock (encSL p1 els) (encSL p2 els') = some true := by
    rcases t5 with h8 | ⟨rfl, rfl⟩
    ·exact ih.bl p1 p2 els els' (d + 1) t4 (by omega) (by omega) (by omega) hels
    ·obtain rfl := nl hels rfl
     simp only [encSL]
     exact ih.nil (by omega)
   rw [he, hbo, hel]
   have k1 : ((kd : Int) == kd) = true := beq_self_eq_true _
   have k2 : ((((mm : Nat) : Int) : Int) == ((mm : Nat) : Int)) = true := beq_self_eq_true _
   have k3 : ∀ q : ByteArray, (ByteArray.toList q == ByteArray.toList q) = true := fun q => beq_self_eq_true _
   rw [k1, k2, k3, k3]
   rfl
theorem td_loop (p1 p2 : Nat -> Nat × Nat) {la lb : List Dc} (hst : la.map Dc.strip = lb.map Dc.strip) (hl : la.length <= 40000) : ∀ (k i : Nat), la.length - i < k -> i <= la.length →
  ∃ x, l_slices_EqualFunc___api_Decl___api_Decl_api_Decl_api_Decl__4 n k (lb.map (encD p2), la.map (encD p1), ((List.length (la.map (encD p1)) : Nat) : Int), (i : Int)) = some x /\ Sum.elim (fun p4 => some p4) (fun x3' => (fun p5 => some true) x3') x = some true := by
 have hll : la.length = lb.length := by
  have := congrArg List.length hst
  rwa [List.length_map, List.length_map] at this
 intro k
 induction k with
 | zero => intro i h; omega
 | succ k ih =>
  intro i hk hi
  show ∃ x, l_slices_EqualFunc___api_Decl___api_Decl_api_Decl_api_Decl__4_B n (l_slices_EqualFunc___api_Decl___api_Decl_api_Decl_api_Decl__4 n k) _ = some x /\ _
  unfold l_slices_EqualFunc___api_Decl___api_Decl_api_Decl_api_Decl__4_B
  simp only
  have ih' := ih (i + 1)
  rw [List.length_map] at ih' ⊢
  by_cases h : ¬ i < la.length
  ·rw [decide_eq_false (by omega), cond_false]
   exact ⟨_, rfl, rfl⟩
  have h : i < la.length := by omega
  have h2 : i < lb.length := by omega
  have hup : IntKind.wrap .i64 ((i : Int) + 1) = ((i + 1 : Nat) : Int) := by rw [wrap_id (by omega) (by omega)]; omega
  have hs : la[i].strip = lb[i].strip := by
   have e : (la.map Dc.strip)[i]? = (lb.map Dc.strip)[i]? := by rw [hst]
   rw [List.getElem?_map, List.getElem?_map, List.getElem?_eq_getElem h, List.getElem?_eq_getElem h2] at e
   simpa using e
  rw [decide_eq_true (show (i : Int) < ((la.length : Nat) : Int) by omega), cond_true, idx_D p1 h, Option.bind_some, idx_D p2 h2, Option.bind_some, hup]
  generalize la[i] = x at *
  generalize lb[i] = y at *
  obtain ⟨kd, nm, mm, p⟩ := x
  obtain ⟨kd', nm', mm', p'⟩ := y
  simp only [Dc.strip, Dc.mk.injEq, and_true] at hs
  obtain ⟨rfl, rfl, rfl⟩ := hs
  have cc : ∀ (pl : Nat -> Nat × Nat) (q : Nat), ((encD pl ⟨kd, nm, mm, q⟩).cell 0).int = kd /\ ((encD pl ⟨kd, nm, mm, q⟩).cell 1).str = B nm /\ ((encD pl ⟨kd, nm, mm, q⟩).cell 2).int = (mm : Int) := fun _ _ => ⟨rfl, rfl, rfl⟩
  obtain ⟨a0, a1, a2⟩ := cc p1 p
  obtain ⟨b0, b1, b2⟩ := cc p2 p'
  have k1 : ((kd : Int) == kd) = true := beq_self_eq_true _
  have k2 : ((((mm : Nat) : Int) : Int) == ((mm : Nat) : Int)) = true := beq_self_eq_true _
  have k3 : ∀ q : ByteArray, (ByteArray.toList q == ByteArray.toList q) = true := fun q => beq_self_eq_true _
  unfold m_tree_Same_1
  rw [a0, b0, a1, b1, a2, b2, k1, k2, k3]
  exact ih' (by omega) (by omega)
theorem tt2_loop (hn : 100000 < n) (p1 p2 : Nat -> Nat × Nat) {la lb : List (List St)} (hok : okTL la) (hlen : (ttL la).length <= 40000) (hst : la.map stripL = lb.map stripL) (hl : la.length <= 40000) : ∀ (k i : Nat), la.length - i < k -> i <= la.length →
  ∃ x, l_slices_EqualFunc_____api_Stmt_____api_Stmt___api_Stmt___api_Stmt__4 n k (lb.map (encT p2), la.map (encT p1), ((List.length (la.map (encT p1)) : Nat) : Int), (i : Int)) = some x /\ Sum.elim (fun p4 => some p4) (fun x3' => (fun p5 => some true) x3') x = some true := by
 have hll : la.length = lb.length := by
  have := congrArg List.length hst
  rwa [List.length_map, List.length_map] at this
 have hsub : ∀ {l : List (List St)} {i : Nat} (hi : i < l.length), (txL l[i] 1).length <= (ttL l).length := by
  intro l
  induction l with
  | nil => intro i hi; simp at hi
  | cons q l ih =>
   intro i hi
   cases i with
   | zero => simp only [ttL, List.length_append, List.length_cons, List.getElem_cons_zero]; omega
   | succ i =>
    have := ih (i := i) (by simpa using hi)
    simp only [ttL, List.length_append, List.length_cons, List.getElem_cons_succ]
    omega
 intro k
 induction k with
 | zero => intro i h; omega
 | succ k ih =>
  intro i hk hi
  show ∃ x, l_slices_EqualFunc_____api_Stmt_____api_Stmt___api_Stmt___api_Stmt__4_B n (l_slices_EqualFunc_____api_Stmt_____api_Stmt___api_Stmt___api_Stmt__4 n k) _ = some x /\ _
  unfold l_slices_EqualFunc_____api_Stmt_____api_Stmt___api_Stmt___api_Stmt__4_B
  simp only
  have ih' := ih (i + 1)
  rw [List.length_map] at ih' ⊢
  by_cases h : ¬ i < la.length
  ·rw [decide_eq_false (by omega), cond_false]
   exact ⟨_, rfl, rfl⟩
  have h : i < la.length := by omega
  have h2 : i < lb.length := by omega
  have hup : IntKind.wrap .i64 ((i : Int) + 1) = ((i + 1 : Nat) : Int) := by rw [wrap_id (by omega) (by omega)]; omega
  have hs : stripL la[i] = stripL lb[i] := by
   have e : (la.map stripL)[i]? = (lb.map stripL)[i]? := by rw [hst]
   rw [List.getElem?_map, List.getElem?_map, List.getElem?_eq_getElem h, List.getElem?_eq_getElem h2] at e
   simpa using e
  have hq := hsub h
  rw [decide_eq_true (show (i : Int) < ((la.length : Nat) : Int) by omega), cond_true, idx_T p1 h, Option.bind_some, idx_T p2 h2, Option.bind_some, hup]
  rw [show ((encT p1 la[i]).cell 0).lst = encSL p1 la[i] from rfl, show ((encT p2 lb[i]).cell 0).lst = encSL p2 lb[i] from rfl, show m_tree_sameBlock n (encSL p1 la[i]) (encSL p2 lb[i]) = some true from (ts_ok hn n).bl p1 p2 la[i] lb[i] 1 (hok _ (List.getElem_mem h)) (by omega) (by omega) (by omega) hs, Option.bind_some, Bool.not_true, cond_false]
  exact ih' (by omega) (by omega)
theorem treeSame_eq (hn : 100000 < n) (p1 p2 : Nat -> Nat × Nat) {da db : List Dc} {la lb : List (List St)} (hd : da.map Dc.strip = db.map Dc.strip) (hdl : da.length <= 40000) (hok : okTL la) (hlen : (ttL la).length <= 40000) (hst : la.map stripL = lb.map stripL) (hl : la.length <= 40000) :
  m_tree_Same n (da.map (encD p1)) (la.map (encT p1)) (db.map (encD p2)) (lb.map (encT p2)) = some true := by
 have hll : la.length = lb.length := by
  have := congrArg List.length hst
  rwa [List.length_map, List.length_map] at this
 have hdd : da.length = db.length := by
  have := congrArg List.length hd
  rwa [List.length_map, List.length_map] at this
 unfold m_tree_Same
 obtain ⟨x, q1, q2⟩ := td_loop (n := n) p1 p2 hd hdl n 0 (by omega) (by omega)
 obtain ⟨y, r1, r2⟩ := tt2_loop (n := n) hn p1 p2 hok hlen hst hl n 0 (by omega) (by omega)
 have hD : m_slices_EqualFunc___api_Decl___api_Decl_api_Decl_api_Decl_ n (da.map (encD p1)) (db.map (encD p2)) = some true := by
  unfold m_slices_EqualFunc___api_Decl___api_Decl_api_Decl_api_Decl_
  have q1' : l_slices_EqualFunc___api_Decl___api_Decl_api_Decl_api_Decl__4 n n (db.map (encD p2), da.map (encD p1), ((List.length (da.map (encD p1)) : Nat) : Int), 0) = some x := q1
  rw [q1', List.length_map, List.length_map, hdd, bne_self_eq_false, cond_false, Option.bind_some]
  exact q2
 have hT : m_slices_EqualFunc_____api_Stmt_____api_Stmt___api_Stmt___api_Stmt_ n (la.map (encT p1)) (lb.map (encT p2)) = some true := by
  unfold m_slices_EqualFunc_____api_Stmt_____api_Stmt___api_Stmt___api_Stmt_
  have r1' : l_slices_EqualFunc_____api_Stmt_____api_Stmt___api_Stmt___api_Stmt__4 n n (lb.map (encT p2), la.map (encT p1), ((List.length (la.map (encT p1)) : Nat) : Int), 0) = some y := r1
  rw [r1', List.length_map, List.length_map, hll, bne_self_eq_false, cond_false, Option.bind_some]
  exact r2
 rw [hD, Option.bind_some, cond_true, hT, Option.bind_some, cond_true]
theorem kindOf_eq {k : Int} (h : 1 <= k /\ k <= 6) : m_text_kindOf n k = some (B (declW k)) := by
 rcases kinds h with rfl | rfl | rfl | rfl | rfl | rfl <;> rfl
theorem pd_loop (pl : Nat -> Nat × Nat) {l : List Dc} (hok : okDL l) (hl : l.length <= 1000) (x y : List T) : ∀ (k i : Nat) (u : List UInt8), l.length - i < k -> i <= l.length -> u.length + (dtL (l.drop i)).length <= 40000 →
  l_text_Print_3 n k (B u, l.map (encD pl), ((List.length (l.map (encD pl)) : Nat) : Int), (i : Int), x, y) = some (B (u ++ dtL (l.drop i)), x, y) := by
 intro k
 induction k with
 | zero => intro i u h; omega
 | succ k ih =>
  intro i u hk hi hlen
  show l_text_Print_3_B n (l_text_Print_3 n k) _ = _
  unfold l_text_Print_3_B
  simp only
  have ih' := ih (i + 1)
  rw [List.length_map] at ih' ⊢
  by_cases h : ¬ i < l.length
  ·rw [decide_eq_false (by omega), cond_false, List.drop_eq_nil_of_le (by omega)]
   simp only [dtL, List.append_nil]
  have h : i < l.length := by omega
  have hdrop : l.drop i = l[i] :: l.drop (i + 1) := List.drop_eq_getElem_cons h
  have hd : okD l[i] := hok _ (List.getElem_mem h)
  have hup : IntKind.wrap .i64 ((i : Int) + 1) = ((i + 1 : Nat) : Int) := by rw [wrap_id (by omega) (by omega)]; omega
  rw [decide_eq_true (show (i : Int) < ((l.length : Nat) : Int) by omega), cond_true, idx_D pl h, Option.bind_some, hup]
  rw [hdrop] at hlen ⊢
  generalize l[i] = s at *
  simp only [dtL] at hlen ⊢
  simp only [List.length_append, List.length_cons] at hlen
  obtain ⟨kd, nm, num, p⟩ := s
  obtain ⟨hk6, hN, h0, h3⟩ := hd
  simp only at hk6 hN h0 h3
  have c0 : ((encD pl ⟨kd, nm, num, p⟩).cell 0).int = kd := rfl
  have c1 : ((encD pl ⟨kd, nm, num, p⟩).cell 1).str = B nm := rfl
  have c2 : ((encD pl ⟨kd, nm, num, p⟩).cell 2).int = (num : Int) := rfl
  have hwl : (declW kd).length <= 6 := by rcases kinds hk6 with rfl | rfl | rfl | rfl | rfl | rfl <;> decide
  rw [c0, c1, c2, kindOf_eq hk6]
  by_cases h6 : kd = 6
  ·have htx : dtx ⟨kd, nm, num, p⟩ = declW kd ++ 32 :: (nm ++ 32 :: Lib.decDigits num) := by simp only [dtx, h6, if_true]
   rw [htx] at hlen ⊢
   simp only [List.length_append, List.length_cons] at hlen
   have hln : m_text_line n 0 [T.sc (.string (B (declW kd))), T.sc (.string (B nm)), T.sc (.string (B (Lib.decDigits num)))] = some (B (tabsL 0 ++ (declW kd ++ 32 :: (nm ++ 32 :: Lib.decDigits num) ++ [10]))) := l3 0 (declW kd) nm (Lib.decDigits num) (by omega) (by omega)
   rw [show ((kd : Int) == 6) = true by rw [h6]; rfl, cond_true, Option.bind_some, itoa_ok (by omega), Option.bind_some, hln, Option.bind_some, must_cat (by simp only [tabsL, List.replicate, List.length_append, List.length_cons, List.length_nil]; omega), B_append]
   rw [ih' _ (by omega) (by omega) (by simp only [tabsL, List.replicate, List.length_append, List.length_cons, List.length_nil]; omega)]
   simp [tabsL]
  ·have htx : dtx ⟨kd, nm, num, p⟩ = declW kd ++ 32 :: nm := by simp only [dtx, h6, if_false, List.append_nil]
   rw [htx] at hlen ⊢
   simp only [List.length_append, List.length_cons] at hlen
   have hln : m_text_line n 0 [T.sc (.string (B (declW kd))), T.sc (.string (B nm))] = some (B (tabsL 0 ++ (declW kd ++ 32 :: nm ++ [10]))) := l2 0 (declW kd) nm (by omega) (by omega)
   rw [show ((kd : Int) == 6) = false from beq_eq_false_iff_ne.2 h6, cond_false, Option.bind_some, hln, Option.bind_some, must_cat (by simp only [tabsL, List.replicate, List.length_append, List.length_cons, List.length_nil]; omega), B_append]
   rw [ih' _ (by omega) (by omega) (by simp only [tabsL, List.replicate, List.length_append, List.length_cons, List.length_nil]; omega)]
   simp [tabsL]
def exTL (l : List (List St)) : Prop := ∀ t ∈ l, exL t
theorem pt_loop (hn : 100000 < n) (pl : Nat -> Nat × Nat) {l : List (List St)} (hok : okTL l) (hex : exTL l) (hl : l.length <= 1000) (x y : List T) : ∀ (k i : Nat) (u : List UInt8), l.length - i < k -> i <= l.length -> u.length + (ttL (l.drop i)).length <= 40000 →
  l_text_Print_10 n k (B u, l.map (encT pl), ((List.length (l.map (encT pl)) : Nat) : Int), (i : Int), x, y) = some (B (u ++ ttL (l.drop i)), x, y) := by
 intro k
 induction k with
 | zero => intro i u h; omega
 | succ k ih =>
  intro i u hk hi hlen
  show l_text_Print_10_B n (l_text_Print_10 n k) _ = _
  unfold l_text_Print_10_B
  simp only
  have ih' := ih (i + 1)
  rw [List.length_map] at ih' ⊢
  by_cases h : ¬ i < l.length
  ·rw [decide_eq_false (by omega), cond_false, List.drop_eq_nil_of_le (by omega)]
   simp only [ttL, List.append_nil]
  have h : i < l.length := by omega
  have hdrop : l.drop i = l[i] :: l.drop (i + 1) := List.drop_eq_getElem_cons h
  have hd : okL l[i] 1 := hok _ (List.getElem_mem h)
  have he : exL l[i] := hex _ (List.getElem_mem h)
  have hup : IntKind.wrap .i64 ((i : Int) + 1) = ((i + 1 : Nat) : Int) := by rw [wrap_id (by omega) (by omega)]; omega
  rw [decide_eq_true (show (i : Int) < ((l.length : Nat) : Int) by omega), cond_true, idx_T pl h, Option.bind_some, hup]
  rw [hdrop] at hlen ⊢
  generalize l[i] = s at *
  simp only [ttL] at hlen ⊢
  simp only [List.length_append, List.length_cons] at hlen
  have wg : wGo.length = 2 := rfl
  have h1 : m_text_line n 0 [T.sc (.string (⟨#[103, 111]⟩ : ByteArray)), T.sc (.string (⟨#[123]⟩ : ByteArray))] = some (B (tabsL 0 ++ (wGo ++ 32 :: [123] ++ [10]))) := l2 0 wGo [123] (by omega) (by simp only [List.length_cons, List.length_nil]; omega)
  have h2 : m_text_line n 0 [T.sc (.string (⟨#[125]⟩ : ByteArray))] = some (B (tabsL 0 ++ ([125] ++ [10]))) := l1 0 [125] (by omega) (by simp)
  rw [show ((encT pl s).cell 0).lst = encSL pl s from rfl, h1, Option.bind_some, textB_eq hn pl hd he (by omega), Option.bind_some]
  rw [must_cat (by simp only [tabsL, List.replicate, List.length_append, List.length_cons, List.length_nil]; omega), B_append, h2, Option.bind_some, must_cat (by simp only [tabsL, List.replicate, List.length_append, List.length_cons, List.length_nil]; omega), B_append, must_cat (by simp only [tabsL, List.replicate, List.length_append, List.length_cons, List.length_nil]; omega), B_append]
  rw [ih' _ (by omega) (by omega) (by simp only [tabsL, List.replicate, List.length_append, List.length_cons, List.length_nil]; omega)]
  simp [tabsL]
mutual
theorem exS_of : ∀ (s : St) (d : Nat), okS s d -> (tx s d).length <= 6000 -> exS s
 | .mk k nm o mm e body els p, d, h, hl => by
  obtain ⟨t1, t2, t3, t4, t5, t6⟩ := tx_sub h
  simp only [exS]
  exact ⟨by omega, exL_of body (d + 1) t3 (by omega), exL_of els (d + 1) t4 (by omega)⟩
theorem exL_of : ∀ (l : List St) (d : Nat), okL l d -> (txL l d).length <= 6000 -> exL l
 | [], d, _, _ => by simp only [exL]
 | s :: l, d, h, hl => by
  simp only [okL] at h
  simp only [txL, List.length_append, List.length_cons] at hl
  simp only [exL]
  exact ⟨exS_of s d h.1 (by omega), exL_of l d h.2 (by omega)⟩
end
theorem exTL_of : ∀ {l : List (List St)}, okTL l -> (ttL l).length <= 6000 -> exTL l
 | [], _, _ => fun t ht => by simp at ht
 | x :: l, h, hl => by
  simp only [ttL, List.length_append, List.length_cons] at hl
  intro t ht
  rcases List.mem_cons.1 ht with rfl | ht
  ·exact exL_of _ 1 (h _ (by simp)) (by omega)
  ·exact exTL_of (fun x hx => h x (by simp [hx])) (by omega) t ht
theorem printP_eq (hn : 100000 < n) (pl : Nat -> Nat × Nat) {ds : List Dc} {tl : List (List St)} (hd : okDL ds) (h24 : ds.length <= 24) (ht : okTL tl) (h4 : tl.length <= 4) (hne : tl ≠ []) (hlen : (dtL ds ++ ttL tl).length <= 6000) :
  m_text_Print n (ds.map (encD pl)) (tl.map (encT pl)) = some (B (dtL ds ++ ttL tl)) := by
 have hlen' := hlen
 rw [List.length_append] at hlen'
 have hx : Lx0 (dtL ds ++ ttL tl) (tkDL ds ++ tkTL tl) := (lx_DL hd).append0 (lx_TL ht)
 obtain ⟨la, da, ta, a1, a2, a3, a4⟩ := read_Pg hx hd h24 ht h4 hne
 obtain ⟨k1, k2⟩ := okTL_same a4 ht
 have hda : da.length = ds.length := by have := congrArg List.length a3; simpa using this
 have hta : ta.length = tl.length := by have := congrArg List.length a4; simpa using this
 unfold m_text_Print
 have e1 := pd_loop (n := n) pl hd (by omega) (ds.map (encD pl)) (tl.map (encT pl)) n 0 [] (by omega) (by omega) (by simp only [List.drop_zero, List.length_nil]; omega)
 rw [List.drop_zero, List.nil_append] at e1
 have e2 := pt_loop (n := n) hn pl ht (exTL_of ht (by omega)) (by omega) (ds.map (encD pl)) (tl.map (encT pl)) n 0 (dtL ds) (by omega) (by omega) (by simp only [List.drop_zero]; omega)
 rw [List.drop_zero] at e2
 have e1' : l_text_Print_3 n n ((⟨#[]⟩ : ByteArray), ds.map (encD pl), ((List.length (ds.map (encD pl)) : Nat) : Int), 0, ds.map (encD pl), tl.map (encT pl)) = some (B (dtL ds), ds.map (encD pl), tl.map (encT pl)) := e1
 have e2' : l_text_Print_10 n n (B (dtL ds), tl.map (encT pl), ((List.length (tl.map (encT pl)) : Nat) : Int), 0, ds.map (encD pl), tl.map (encT pl)) = some (B (dtL ds ++ ttL tl), ds.map (encD pl), tl.map (encT pl)) := e2
 rw [e1', Option.bind_some]
 simp only
 rw [e2', Option.bind_some]
 simp only
 rw [read_ok hn hlen a1 a2, Option.bind_some]
 simp only
 rw [show (!((0 : Int) != 0)) = true from rfl, cond_true, treeSame_eq hn _ _ a3 (by omega) k1 (by omega) a4 (by omega), Option.bind_some]
 rfl
theorem text_ne {ds : List Dc} {tl : List (List St)} (hne : tl ≠ []) : dtL ds ++ ttL tl ≠ [] := by
 cases tl with
 | nil => exact absurd rfl hne
 | cons x l => intro h; have := congrArg List.length h; simp [ttL] at this
theorem right_eq (hn : 100000 < n) (pl : Nat -> Nat × Nat) {ds : List Dc} {tl : List (List St)} (hd : okDL ds) (h24 : ds.length <= 24) (ht : okTL tl) (h4 : tl.length <= 4) (hne : tl ≠ []) (hlen : (dtL ds ++ ttL tl).length <= 6000) :
  m_text_Right n (ds.map (encD pl)) (tl.map (encT pl)) = some true := by
 unfold m_text_Right
 rw [printP_eq hn pl hd h24 ht h4 hne hlen, Option.bind_some, empty_test, decide_eq_false (text_ne hne)]
 rfl
theorem kn6 (n : Nat) : m_suturelaw6_known n = some true := rfl
end
end Go.Proofs.YtbcgpjlkkcdmmaaGreatDoor.W
namespace Go.Proofs.YtbcgpjlkkcdmmaaGreatDoor.W
open Go Go.Eng Go.Eng.Fl Go.RowKit
set_option linter.unusedVariables false
set_option linter.unusedSimpArgs false
set_option linter.unusedSectionVars false
set_option maxRecDepth 100000
def kds : List Dc := [⟨1, [120], 0, 0⟩, ⟨2, [121], 0, 0⟩, ⟨3, [97], 0, 0⟩, ⟨4, [116], 0, 0⟩, ⟨5, [109], 0, 0⟩, ⟨6, [99], 2, 0⟩]
def ktl : List (List St) := [[
 .mk 7 [] [] 0 (some (.bin 9 (.name [120]) (.num 1))) [.mk 2 [109] [] 0 none [] [] 0] [.mk 9 [108] [] 0 none [] [] 0] 0,
 .mk 8 [] [] 0 none [.mk 3 [109] [] 0 none [] [] 0] [] 0,
 .mk 4 [99] [] 0 (some (.neg (.name [116]))) [] [] 0,
 .mk 5 [99] [97] 0 none [] [] 0,
 .mk 6 [] [] 0 (some (.bin 6 (.bin 4 (.num 1) (.num 2)) (.num 3))) [] [] 0,
 .mk 10 [108] [] 0 none [] [] 0,
 .mk 7 [] [] 0 (some (.name [121])) [] [] 0], []]
def kwt : List UInt8 := [118, 97, 114, 32, 120, 10, 119, 105, 100, 101, 32, 121, 10, 97, 116, 111, 109, 105, 99, 32, 97, 10, 108, 111, 99, 97, 108, 32, 116, 10, 109, 117, 116, 101, 120, 32, 109, 10, 99, 104, 97, 110, 32, 99, 32, 50, 10, 103, 111, 32, 123, 10, 9, 105, 102, 32, 120, 32, 60, 32, 49, 32, 123, 10, 9, 9, 108, 111, 99, 107, 32, 109, 10, 9, 125, 32, 101, 108, 115, 101, 32, 123, 10, 9, 9, 103, 111, 116, 111, 32, 108, 10, 9, 125, 10, 9, 114, 101, 112, 101, 97, 116, 32, 48, 32, 123, 10, 9, 9, 117, 110, 108, 111, 99, 107, 32, 109, 10, 9, 125, 10, 9, 115, 101, 110, 100, 32, 99, 32, 45, 116, 10, 9, 114, 101, 99, 118, 32, 99, 32, 97, 10, 9, 112, 114, 105, 110, 116, 32, 40, 49, 32, 43, 32, 50, 41, 32, 42, 32, 51, 10, 9, 108, 97, 98, 101, 108, 32, 108, 10, 9, 105, 102, 32, 121, 32, 123, 10, 9, 125, 10, 125, 10, 103, 111, 32, 123, 10, 125, 10]
theorem k_text : dtL kds ++ ttL ktl = kwt := by
 simp [kds, ktl, kwt, dtL, ttL, dtx, txL, tx, bsO, declW, tabsL, wGo, wIf, wElse, wLock, wGoto, wRepeat, wUnlock, wSend, wRecv, wPrint, wLabel, wVar, wWide, wAtomic, wLocal, wMutex, wChan]
 decide +kernel
theorem k_okD : okDL kds := by
 intro d hd
 simp only [kds, List.mem_cons, List.not_mem_nil, or_false] at hd
 rcases hd with rfl | rfl | rfl | rfl | rfl | rfl <;> exact ⟨by decide, ⟨by decide, by decide⟩, by decide, by decide⟩
theorem k_okT : okTL ktl := by
 intro t ht
 simp only [ktl, List.mem_cons, List.not_mem_nil, or_false] at ht
 rcases ht with rfl | rfl
 ·simp (config := {decide := true}) [okL, okS, okE, okN, saneE, fitsE]
 ·simp only [okL]
theorem ktxL_same {a b : List St} (h : stripL a = stripL b) (d : Nat) : txL a d = txL b d := by rw [<- txL_strip a d, h, txL_strip b d]
theorem kttL_same : ∀ {a b : List (List St)}, a.map stripL = b.map stripL -> ttL a = ttL b
 | [], [], _ => rfl
 | [], _ :: _, h => by simp at h
 | _ :: _, [], h => by simp at h
 | x :: a, y :: b, h => by
  simp only [List.map_cons, List.cons.injEq] at h
  simp only [ttL, ktxL_same h.1 1, kttL_same h.2]
theorem kdtL_same : ∀ {a b : List Dc}, a.map Dc.strip = b.map Dc.strip -> okDL b -> okDL a /\ dtL a = dtL b
 | [], [], _, _ => ⟨fun t ht => by simp at ht, rfl⟩
 | [], _ :: _, h, _ => by simp at h
 | _ :: _, [], h, _ => by simp at h
 | x :: a, y :: b, h, hb => by
  simp only [List.map_cons, List.cons.injEq] at h
  obtain ⟨h1, h2⟩ := kdtL_same h.2 (fun t ht => hb t (by simp [ht]))
  obtain ⟨k1, n1, m1, p1⟩ := x
  obtain ⟨k2, n2, m2, p2⟩ := y
  have h0 := h.1
  simp only [Dc.strip, Dc.mk.injEq, and_true] at h0
  obtain ⟨rfl, rfl, rfl⟩ := h0
  refine ⟨fun t ht => ?_, ?_⟩
  ·rcases List.mem_cons.1 ht with rfl | ht
   ·exact hb ⟨k1, n1, m1, p2⟩ (by simp)
   ·exact h1 t ht
  ·simp only [dtL, h2]
   rfl
theorem k_main {n : Nat} (hn : 100000 < n) : ∃ r1 r2, m_parse_Read n (B kwt) = some (r1, r2, (0, 0), 0) /\ m_text_Print n r1 r2 = some (B kwt) := by
 have hx : Lx0 (dtL kds ++ ttL ktl) (tkDL kds ++ tkTL ktl) := (lx_DL k_okD).append0 (lx_TL k_okT)
 obtain ⟨lb, db, tb, b1, b2, b3, b4⟩ := read_Pg hx k_okD (by decide) k_okT (by decide) (by simp [ktl])
 obtain ⟨k1, k2⟩ := okTL_same b4 k_okT
 obtain ⟨d1, d2⟩ := kdtL_same b3 k_okD
 have hdb : db.length = 6 := by have := congrArg List.length b3; simpa [kds] using this
 have htb : tb.length = 2 := by have := congrArg List.length b4; simpa [ktl] using this
 have hnb : tb ≠ [] := by intro h; rw [h] at htb; simp at htb
 have htx : dtL db ++ ttL tb = kwt := by rw [d2, kttL_same b4, k_text]
 rw [k_text] at b1 b2
 exact ⟨_, _, read_ok hn (by decide) b1 b2, by rw [printP_eq hn _ d1 (by omega) k1 (by omega) hnb (by rw [htx]; decide), htx]⟩
theorem k_wt : B kwt = (⟨#[118, 97, 114, 32, 120, 10, 119, 105, 100, 101, 32, 121, 10, 97, 116, 111, 109, 105, 99, 32, 97, 10, 108, 111, 99, 97, 108, 32, 116, 10, 109, 117, 116, 101, 120, 32, 109, 10, 99, 104, 97, 110, 32, 99, 32, 50, 10, 103, 111, 32, 123, 10, 9, 105, 102, 32, 120, 32, 60, 32, 49, 32, 123, 10, 9, 9, 108, 111, 99, 107, 32, 109, 10, 9, 125, 32, 101, 108, 115, 101, 32, 123, 10, 9, 9, 103, 111, 116, 111, 32, 108, 10, 9, 125, 10, 9, 114, 101, 112, 101, 97, 116, 32, 48, 32, 123, 10, 9, 9, 117, 110, 108, 111, 99, 107, 32, 109, 10, 9, 125, 10, 9, 115, 101, 110, 100, 32, 99, 32, 45, 116, 10, 9, 114, 101, 99, 118, 32, 99, 32, 97, 10, 9, 112, 114, 105, 110, 116, 32, 40, 49, 32, 43, 32, 50, 41, 32, 42, 32, 51, 10, 9, 108, 97, 98, 101, 108, 32, 108, 10, 9, 105, 102, 32, 121, 32, 123, 10, 9, 125, 10, 125, 10, 103, 111, 32, 123, 10, 125, 10]⟩ : ByteArray) := rfl
theorem kk0 : m_text_Print 200000 ([] : List T) ([] : List T) = some (⟨#[]⟩ : ByteArray) := by kernel_rfl
theorem kk1 : m_text_Right 200000 ([] : List T) ([] : List T) = some false := by kernel_rfl
theorem kk2 : m_text_Print 200000 ([] : List T) [(T.list [(T.agg [(T.sc (.int .i64 2)), (T.sc (.string (⟨#[109]⟩ : ByteArray))), (T.sc (.string (⟨#[]⟩ : ByteArray))), (T.sc (.int .i64 1)), (T.sc (.int .i64 0)), (T.sc (.int .i64 0)), (T.sc (.string (⟨#[]⟩ : ByteArray))), (T.list ([] : List T)), (T.list ([] : List T)), (T.list ([] : List T)), (T.sc (.complex .f64 0 0))])])] = some (⟨#[]⟩ : ByteArray) := by kernel_rfl
theorem kk3 : m_text_Print 200000 [(T.agg [(T.sc (.int .i64 1)), (T.sc (.string (⟨#[120]⟩ : ByteArray))), (T.sc (.int .i64 1)), (T.sc (.complex .f64 0 0))])] [(T.list ([] : List T))] = some (⟨#[]⟩ : ByteArray) := by kernel_rfl
theorem kk4 : m_text_Print 200000 ([] : List T) [(T.list [(T.agg [(T.sc (.int .i64 2)), (T.sc (.string (⟨#[109, 32, 120, 32, 61, 32, 49]⟩ : ByteArray))), (T.sc (.string (⟨#[]⟩ : ByteArray))), (T.sc (.int .i64 0)), (T.sc (.int .i64 0)), (T.sc (.int .i64 0)), (T.sc (.string (⟨#[]⟩ : ByteArray))), (T.list ([] : List T)), (T.list ([] : List T)), (T.list ([] : List T)), (T.sc (.complex .f64 0 0))])])] = some (⟨#[]⟩ : ByteArray) := by kernel_rfl
theorem kk5 : m_text_Print 200000 ([] : List T) [(T.list ([] : List T))] = some (⟨#[103, 111, 32, 123, 10, 125, 10]⟩ : ByteArray) := by kernel_rfl
theorem textKnown_law : ∃ n, m_suturelaw6_TextKnown n = some true := by
 refine ⟨200000, ?_⟩
 obtain ⟨r1, r2, h1, h2⟩ := k_main (n := 200000) (by decide)
 rw [k_wt] at h1 h2
 unfold m_suturelaw6_TextKnown
 have kn : m_suturelaw6_known 200000 = some true := rfl
 simp only [h1, h2, kn, Option.bind_some, cond_true, beq_self_eq_true, Bool.not_false, kk0, kk1, kk2, kk3, kk4, kk5]
end Go.Proofs.YtbcgpjlkkcdmmaaGreatDoor.W
