/- Own texts, several in one. No conditions. -/
import Derived.Test.YtgpokdaacbjimabZAJumpsEnd
import Derived.Test.YtgpokdaacbjimabZPJumpsEnd
namespace Go.Proofs.Ytgpokdaacbjimab.W
open Go Go.Eng Go.Eng.Fl Go.RowKit
set_option linter.unusedVariables false
set_option linter.unusedSimpArgs false
set_option linter.unusedSectionVars false
theorem th_low : ∀ (P : List (List S)) (t : Nat), ∀ x ∈ thP P t, t <= x
 | [], t, x, hx => by simp [thP] at hx
 | l :: r, t, x, hx => by
  simp only [thP, List.mem_append] at hx
  rcases hx with hx | hx
  ·rw [(List.mem_replicate.1 hx).2]; exact Nat.le_refl _
  ·have := th_low r (t + 1) x hx; omega
theorem th_mono : ∀ (P : List (List S)) (t : Nat), (thP P t).Pairwise (· <= ·)
 | [], t => by simp [thP]
 | l :: r, t => by
  rw [thP, List.pairwise_append]
  refine ⟨List.pairwise_replicate.2 (.inr (Nat.le_refl _)), th_mono r (t + 1), fun a ha b hb => ?_⟩
  rw [(List.mem_replicate.1 ha).2]
  have := th_low r (t + 1) b hb
  omega
theorem ord_of {P : List (List S)} (hP : cntP P <= 6000) (hl : P.length <= 4) : Ord (plP P 0 0).1 := by
 obtain ⟨p1, p2, p3⟩ := plP_len P 0 0
 have hrow := plP_row P 0 0
 refine ⟨by omega, hrow.some_, fun x hx => by have := arP P 0 0 x hx; have := hrow.high x hx; omega, fun i j hi hj hij => ?_⟩
 have h := th_mono P 0
 rw [<- plP_th P 0 0, List.pairwise_iff_getElem] at h
 rcases Nat.lt_or_eq_of_le hij with h' | rfl
 ·have := h i j (by simpa using hi) (by simpa using hj) h'
  simpa using this
 ·exact Nat.le_refl _
mutual
theorem gd_flS : ∀ (s : S), gdS s -> ∀ t ∈ flS s, gdP t.at_
 | .mk kind name other num ek en es eof body els re im, h, t, ht => by
  simp only [gdS] at h
  simp only [flS, List.mem_cons, List.mem_append] at ht
  rcases ht with rfl | ht | ht
  ·exact h.1
  ·exact gd_flL body h.2.1 t ht
  ·exact gd_flL els h.2.2 t ht
theorem gd_flL : ∀ (l : List S), gdL l -> ∀ t ∈ flL l, gdP t.at_
 | [], _, t, ht => by simp [flL] at ht
 | s :: r, h, t, ht => by
  simp only [gdL] at h
  simp only [flL, List.mem_append] at ht
  rcases ht with ht | ht
  ·exact gd_flS s h.1 t ht
  ·exact gd_flL r h.2 t ht
end
theorem gd_flP : ∀ (P : List (List S)), gdPr P -> ∀ t ∈ flP P, gdP t.at_
 | [], _, t, ht => by simp [flP] at ht
 | l :: r, h, t, ht => by
  simp only [flP, List.mem_append] at ht
  rcases ht with ht | ht
  ·exact gd_flL l (h l (by simp)) t ht
  ·exact gd_flP r (fun x hx => h x (by simp [hx])) t ht
theorem gd_zero : gdP (0, 0) := by
 unfold gdP
 decide +kernel
theorem resX_gd {X : List Pl} (h : ∀ x ∈ X, gdP x.s.at_) : gdP (resX X).1 := by
 unfold resX
 split
 ·split
  ·rename_i x hx
   exact h x (List.mem_of_getElem? hx)
  ·exact gd_zero
 ·exact gd_zero
section
variable {n : Nat}
theorem tells_loop9 (hn : 100000 < n) {P : List (List S)} (hP : cntP P <= 6000) (hl : P.length <= 4) (d : List T) (c1 c3 : Nat × Nat) (c2 c4 : Int) : ∀ (m : Nat) (j : Int), -1 <= j -> j <= (cntP P : Int) + 1 -> (cntP P : Int) + 1 - j < m →
  l_suturelaw9_JumpsTells_7 n m (c1, c2, c3, c4, j, d, encP P) = some (Sum.inr (c1, c2, c3, c4, d, encP P)) := by
 have hX := ord_of hP hl
 obtain ⟨p1, p2, p3⟩ := plP_len P 0 0
 intro m
 induction m with
 | zero => intro j h1 h2 h3; omega
 | succ m ih =>
  intro j h1 h2 h3
  rw [l_suturelaw9_JumpsTells_7]
  unfold l_suturelaw9_JumpsTells_7_B
  simp only
  have hFl : (flP P).length = cntP P := by rw [<- plP_s P 0 0, List.length_map, p1]
  rw [list_eq hn P hP hl d, Option.bind_some, encSL_lenJ, hFl, wrap_up (show cntP P <= 281474976710656 by omega)]
  by_cases hlt : j < (cntP P : Int) + 1
  ·rw [decide_eq_true (show j < ((cntP P + 1 : Nat) : Int) by omega), cond_true]
   have key : ∃ t, m_jumps_Target n d (encP P) j = some t /\ m_sutureref8_Target n d (encP P) j = some t := by
    unfold m_jumps_Target m_sutureref8_Target
    rw [all_eq hn P hP hl d, all8 hn P hP hl d]
    simp only [Option.bind_some]
    by_cases hin : 0 <= j /\ j < (cntP P : Int)
    ·obtain ⟨i, rfl⟩ : ∃ i : Nat, j = (i : Int) := ⟨j.toNat, by omega⟩
     have hi : i < (plP P 0 0).1.length := by omega
     rw [target_eq hn hX hi, target8_eq hn hX hi]
     exact ⟨_, rfl, rfl⟩
    ·have ho : j < 0 \/ ((plP P 0 0).1.length : Int) <= j := by omega
     rw [target_out ho, target8_out ho]
     exact ⟨_, rfl, rfl⟩
   obtain ⟨t, k1, k2⟩ := key
   rw [k1, k2, Option.bind_some, Option.bind_some, bne_self_eq_false, cond_false, wrap_id (by omega) (by omega)]
   exact ih (j + 1) (by omega) (by omega) (by omega)
  ·rw [decide_eq_false (show ¬ j < ((cntP P + 1 : Nat) : Int) by omega), cond_false]
theorem tells9 (hn : 100000 < n) (hk : m_suturelaw9_known n = some true) {P : List (List S)} (hP : cntP P <= 6000) (hl : P.length <= 4) (hg : gdPr P) (d : List T) : (
Option.bind (m_jumps_Check n d (encP P)) fun r2 =>
Option.bind (m_sutureref8_Jumps n d (encP P)) fun r3 =>
Option.bind (l_suturelaw9_JumpsTells_7 n n (r2.1, r2.2, r3.1, r3.2, (-1), d, encP P)) fun x7 =>
Sum.elim (fun p8 =>
some p8.1) (fun x7' => (fun p9 =>
Option.bind (m_suturelaw9_known n) fun r10 =>
some (bif (bif r10 then (cplxEq .f64 p9.1.1 p9.1.2 p9.2.2.1.1 p9.2.2.1.2) else false) then ((p9.2.1 : Int) == p9.2.2.2.1) else false)) x7') x7) = some true := by
 have hX := ord_of hP hl
 obtain ⟨p1, p2, p3⟩ := plP_len P 0 0
 have hgX : ∀ x ∈ (plP P 0 0).1, gdP x.s.at_ := by
  intro x hx
  refine gd_flP P hg x.s ?_
  rw [<- plP_s P 0 0]
  exact List.mem_map.2 ⟨x, hx, rfl⟩
 have hr := resX_gd hgX
 rw [check_eq hn hX P hP hl rfl d, jumps8_eq hn hX P hP hl rfl d, Option.bind_some, Option.bind_some, tells_loop9 hn hP hl d _ _ _ _ n (-1) (by omega) (by omega) (by omega), Option.bind_some]
 simp only [Sum.elim_inr]
 rw [hk, Option.bind_some]
 unfold gdP at hr
 rw [hr]
 simp only [cond_true, beq_self_eq_true]
end
mutual
def toS (pl : Nat -> Nat × Nat) : St -> S
 | .mk k n o m e body els p => .mk k (B n) (B o) (m : Int) (kO e) (nO e) (wO e) (oO e) (toSL pl body) (toSL pl els) (pl p).1 (pl p).2
def toSL (pl : Nat -> Nat × Nat) : List St -> List S
 | [] => []
 | s :: r => toS pl s :: toSL pl r
end
mutual
theorem toS_enc (pl : Nat -> Nat × Nat) : ∀ s : St, (toS pl s).enc = encS pl s
 | .mk k n o m e body els p => by simp only [toS, S.enc, encS, toSL_enc pl body, toSL_enc pl els]
theorem toSL_enc (pl : Nat -> Nat × Nat) : ∀ l : List St, encSLJ (toSL pl l) = encSL pl l
 | [] => by simp only [toSL, encSLJ, encSL]
 | s :: r => by simp only [toSL, encSLJ, encSL, toS_enc pl s, toSL_enc pl r]
end
mutual
theorem toS_cnt (pl : Nat -> Nat × Nat) : ∀ s : St, (toS pl s).cnt = ctS s
 | .mk k n o m e body els p => by
  have h1 := toSL_cnt pl body
  have h2 := toSL_cnt pl els
  simp only [toS, S.cnt, ctS]
  omega
theorem toSL_cnt (pl : Nat -> Nat × Nat) : ∀ l : List St, cntL (toSL pl l) = ctL l
 | [] => by simp only [toSL, cntL, ctL]
 | s :: r => by simp only [toSL, cntL, ctL, toS_cnt pl s, toSL_cnt pl r]
end
mutual
theorem toS_gd : ∀ s : St, gdS (toS pl0 s)
 | .mk k n o m e body els p => by simp only [toS, gdS]; exact ⟨gd_zero, toSL_gd body, toSL_gd els⟩
theorem toSL_gd : ∀ l : List St, gdL (toSL pl0 l)
 | [] => by simp only [toSL, gdL]
 | s :: r => by simp only [toSL, gdL]; exact ⟨toS_gd s, toSL_gd r⟩
end
theorem toP_enc : ∀ tl : List (List St), tl.map (encT pl0) = encP (tl.map (toSL pl0))
 | [] => rfl
 | l :: r => by
  have := toP_enc r
  unfold encP at this ⊢
  rw [List.map_cons, this, List.map_cons, List.map_cons, toSL_enc]
  rfl
theorem toP_cnt : ∀ tl : List (List St), cntP (tl.map (toSL pl0)) = ctTL tl
 | [] => by simp only [List.map_nil, cntP, ctTL]
 | l :: r => by simp only [List.map_cons, cntP, ctTL, toSL_cnt, toP_cnt r]
theorem toP_gd (tl : List (List St)) : gdPr (tl.map (toSL pl0)) := by
 intro l hl
 obtain ⟨t, _, rfl⟩ := List.mem_map.1 hl
 exact toSL_gd t
theorem jumpsTells_law (z : List Int) (how : Int) (a b : List Act5) (any : Bool) (lz : z.length <= 17592186044416) : ∃ n, m_suturelaw9_JumpsTells n (ints .i64 z) how (a.map Act5.t) (b.map Act5.t) any = some true := by
 refine ⟨(11 * z.length + 110000) + 200, ?_⟩
 have hkn := known_ok (11 * z.length + 110000)
 generalize hN : (11 * z.length + 110000) + 200 = n at hkn ⊢
 have hn : 100000 < n := by omega
 obtain ⟨r0, hr1, P, hr2, hl, hP, hg⟩ := deep_c (n := n) lz (by omega)
 obtain ⟨d, p⟩ := r0
 simp only at hr2
 subst hr2
 unfold m_suturelaw9_JumpsTells
 rw [hr1, Option.bind_some]
 cases any with
 | true =>
  rw [cond_true]
  obtain ⟨ds, tl, h1, h2, h3, h4, h5, h6, h7⟩ := make_eq hn how a b [] 6
  rw [show ([] : List T) = ([] : List Act5).map Act5.t from rfl, h1, Option.bind_some]
  simp only
  rw [toP_enc]
  have hc := ctTL_len h5
  refine tells9 hn hkn (by rw [toP_cnt]; omega) ?_ (toP_gd tl) _
  rw [List.length_map]
  rcases h6 with h | ⟨h, _⟩ <;> omega
 | false =>
  rw [cond_false]
  exact tells9 hn hkn hP hl hg d
end Go.Proofs.Ytgpokdaacbjimab.W
namespace Go.Proofs.Ytgpokdaacbjimab.W
open Go Go.Eng Go.Eng.Fl Go.RowKit
set_option linter.unusedVariables false
set_option linter.unusedSimpArgs false
set_option linter.unusedSectionVars false
def wa (k : Nat) : List UInt8 := if k = 0 then [97] else if k = 1 then [98] else [101]
theorem wa_word (k : Nat) : wordB (wa k) = true /\ kwd (wa k) = false := by
 unfold wa
 split
 ·decide
 split <;> decide
def gtS (k : Nat) : St := .mk 9 (wa k) [] 0 none [] [] 0
def lbS (k : Nat) : St := .mk 10 (wa k) [] 0 none [] [] 0
def ifS (b : List St) : St := .mk 7 [] [] 0 (some (.num 1)) b [] 0
theorem tk_gt (k : Nat) : tkS (gtS k) = [nmT wGoto, nmT (wa k)] := by simp [gtS, tkS]
theorem tk_lb (k : Nat) : tkS (lbS k) = [nmT wLabel, nmT (wa k)] := by simp [lbS, tkS]
theorem tk_if (b : List St) : tkS (ifS b) = nmT wIf :: ((2, Lib.decDigits 1, 1) :: sgT 123 :: (tkL b ++ [sgT 125])) := by simp [ifS, tkS, prO, pr]
theorem ok_gt (k d : Nat) : okS (gtS k) d := by
 obtain ⟨h1, h2⟩ := wa_word k
 unfold gtS okS
 simp [okN, h1, h2]
theorem ok_lb (k d : Nat) : okS (lbS k) d := by
 obtain ⟨h1, h2⟩ := wa_word k
 unfold lbS okS
 simp [okN, h1, h2]
theorem ok_if {b : List St} {d : Nat} (hd : d < 8) (hb : okL b (d + 1)) : okS (ifS b) d := by
 unfold ifS okS
 simp [okE, saneE, fitsE, hd, hb, okL]
mutual
def knS : St -> List (Int × List UInt8)
 | .mk k n o m e b els p => (k, n) :: (knL b ++ knL els)
def knL : List St -> List (Int × List UInt8)
 | [] => []
 | s :: r => knS s ++ knL r
end
theorem knL_append : ∀ (l k : List St), knL (l ++ k) = knL l ++ knL k
 | [], k => by simp only [knL, List.nil_append]
 | s :: l, k => by simp only [List.cons_append, knL, knL_append l k, List.append_assoc]
mutual
theorem knS_strip : ∀ s : St, knS s.strip = knS s
 | .mk k n o m e b els p => by simp only [St.strip, knS, knL_strip b, knL_strip els]
theorem knL_strip : ∀ l : List St, knL (stripL l) = knL l
 | [] => by simp only [stripL]
 | s :: r => by simp only [stripL, knL, knS_strip s, knL_strip r]
end
def goodK (q : Int × List UInt8) : Prop := q.1 = 7 \/ (q.1 = 9 /\ ∃ j, j < 3 /\ q.2 = wa j)
def goodL (l : List St) : Prop := ∀ q ∈ knL l, goodK q
theorem goodL_append {l k : List St} (h : goodL l) (g : goodL k) : goodL (l ++ k) := by
 intro q hq
 rw [knL_append, List.mem_append] at hq
 exact hq.elim (h q) (g q)
theorem goodL_gt {k : Nat} (h : k < 3) : goodL [gtS k] := by
 intro q hq
 simp only [knL, gtS, knS, List.append_nil, List.mem_cons, List.not_mem_nil, or_false] at hq
 subst hq
 exact .inr ⟨rfl, k, h, rfl⟩
theorem goodL_if {b : List St} (h : goodL b) : goodL [ifS b] := by
 intro q hq
 simp only [knL, ifS, knS, List.append_nil, List.mem_cons] at hq
 rcases hq with rfl | hq
 ·exact .inl rfl
 ·exact h q hq
def pre9 : List (List St) -> List Bk
 | [] => []
 | l :: o => pre9 o ++ (tkL l ++ [nmT wIf, (2, Lib.decDigits 1, 1), sgT 123])
def okO9 : List (List St) -> Prop
 | [] => True
 | l :: o => okL l (o.length + 1) /\ goodL l /\ okO9 o
def ctO9 : List (List St) -> Nat
 | [] => 0
 | l :: o => ctL l + 1 + ctO9 o
theorem ctL_app9 : ∀ (l k : List St), ctL (l ++ k) = ctL l + ctL k
 | [], k => by simp only [List.nil_append, ctL]; omega
 | s :: l, k => by simp only [List.cons_append, ctL, ctL_app9 l k]; omega
theorem ct_gt (k : Nat) : ctL [gtS k] = 1 := by simp only [ctL, gtS, ctS]
theorem ct_if (b : List St) : ctL [ifS b] = 1 + ctL b := by simp only [ctL, ifS, ctS]; omega
structure Inv9 (u : List UInt8) (o : List (List St)) (t : List St) (c : Nat) : Prop where
 lx : Lx u ([nmT wGo, sgT 123] ++ (pre9 o ++ tkL t))
 ok : okL t (o.length + 1)
 good : goodL t
 outs : okO9 o
 six : o.length <= 6
 len : u.length <= c
 cnt : ctO9 o + ctL t <= c
theorem sp_ok : isLD 32 = false /\ (32 : UInt8) ≠ 61 := by decide
theorem cl_ok : isLD 125 = false /\ (125 : UInt8) ≠ 61 := by decide
theorem lx_sp {w : List UInt8} (h : wordB w = true) : Lx (32 :: w) [nmT w] := (Lx0.blank (c := 32) (by decide)).append (Lx.word h)
theorem lx_two {w v : List UInt8} (h : wordB w = true) (g : wordB v = true) : Lx (32 :: (w ++ 32 :: v)) [nmT w, nmT v] := by
 have := (Lx0.blank (c := 32) (by decide)).append ((Lx.word h).append sp_ok (lx_sp g))
 exact this
theorem lx_if9 : Lx0 (32 :: (wIf ++ 32 :: (Lib.decDigits 1 ++ 32 :: [123]))) [nmT wIf, (2, Lib.decDigits 1, 1), sgT 123] := by
 have h123 : Lx0 (32 :: [123]) [sgT 123] := (Lx0.blank (c := 32) (by decide)).append0 (Lx0.sign (c := 123) (by decide) (by decide))
 have h1 : Lx0 (32 :: (Lib.decDigits 1 ++ 32 :: [123])) [(2, Lib.decDigits 1, 1), sgT 123] := (Lx0.blank (c := 32) (by decide)).append0 ((Lx.num (n := 1) (by decide)).append0 sp_ok h123)
 exact (Lx0.blank (c := 32) (by decide)).append0 ((Lx.word (w := wIf) (by decide)).append0 sp_ok h1)
theorem if_bytes : (32 :: (wIf ++ 32 :: (Lib.decDigits 1 ++ 32 :: [123])) : List UInt8) = [32, 105, 102, 32, 49, 32, 123] := by
 rw [show Lib.decDigits 1 = [49] by rw [Lib.decDigits_one (by decide)]; rfl]
 rfl
theorem Inv9.start : Inv9 [103, 111, 123] [] [] 3 := by
 refine ⟨?_, by simp only [okL], fun q hq => by simp [knL] at hq, trivial, by simp, by simp, by simp [ctO9, ctL]⟩
 have := (Lx.word (w := wGo) (by decide)).append0 (c := 123) (by decide) (Lx0.sign (c := 123) (by decide) (by decide))
 simp only [pre9, tkL, List.append_nil]
 exact this.to
theorem Inv9.goto {u : List UInt8} {o : List (List St)} {t : List St} {c : Nat} (h : Inv9 u o t c) {k : Nat} (hk : k < 3) : Inv9 (u ++ (32 :: (wGoto ++ 32 :: wa k))) o (t ++ [gtS k]) (c + 7) := by
 refine ⟨?_, okL_append.2 ⟨h.ok, by simp only [okL]; exact ⟨ok_gt k _, trivial⟩⟩, goodL_append h.good (goodL_gt hk), h.outs, h.six, ?_, by have := h.cnt; rw [ctL_app9, ct_gt]; omega⟩
 ·have := h.lx.append sp_ok (lx_two (w := wGoto) (v := wa k) (by decide) (wa_word k).1)
  rw [tkL_append]
  simp only [tkL, tk_gt, List.append_nil]
  simpa only [List.append_assoc] using this
 ·have := h.len
  have hw : (wa k).length = 1 := by unfold wa; split; rfl; split <;> rfl
  simp only [List.length_append, List.length_cons, hw]
  have : wGoto.length = 4 := rfl
  omega
theorem Inv9.open_ {u : List UInt8} {o : List (List St)} {t : List St} {c : Nat} (h : Inv9 u o t c) (h6 : o.length < 6) : Inv9 (u ++ [32, 105, 102, 32, 49, 32, 123]) (t :: o) [] (c + 7) := by
 refine ⟨?_, by simp only [okL], fun q hq => by simp [knL] at hq, ⟨h.ok, h.good, h.outs⟩, by simp only [List.length_cons]; omega, ?_, by have := h.cnt; simp only [ctO9, ctL]; omega⟩
 ·have := h.lx.append sp_ok lx_if9.to
  rw [if_bytes] at this
  simp only [pre9, tkL, List.append_nil]
  simpa only [List.append_assoc] using this
 ·have := h.len
  simp only [List.length_append, List.length_cons, List.length_nil]
  omega
theorem Inv9.shut {u : List UInt8} {l : List St} {o : List (List St)} {t : List St} {c : Nat} (h : Inv9 u (l :: o) t c) : Inv9 (u ++ [125]) o (l ++ [ifS t]) (c + 1) := by
 obtain ⟨h1, h2, h3⟩ := h.outs
 have h6 := h.six
 simp only [List.length_cons] at h6
 refine ⟨?_, okL_append.2 ⟨h1, by simp only [okL]; exact ⟨ok_if (by omega) h.ok, trivial⟩⟩, goodL_append h2 (goodL_if h.good), h3, by omega, ?_, by have := h.cnt; simp only [ctO9] at this; rw [ctL_app9, ct_if]; omega⟩
 ·have := h.lx.append cl_ok (show Lx0 [125] [sgT 125] from Lx0.sign (c := 125) (by decide) (by decide)).to
  rw [tkL_append]
  simp only [tkL, tk_if, List.append_nil]
  simp only [pre9] at this
  simpa only [List.append_assoc, List.cons_append, List.nil_append, List.singleton_append] using this
 ·have := h.len
  simp only [List.length_append, List.length_cons, List.length_nil]
  omega
section
variable {n : Nat}
theorem name_idx (k : Nat) (hk : k < 3) : idx1 true (.str) [(T.sc (.string (⟨#[97]⟩ : ByteArray))), (T.sc (.string (⟨#[98]⟩ : ByteArray))), (T.sc (.string (⟨#[101]⟩ : ByteArray)))] (k : Int) = some (T.sc (.string (B (wa k)))) := by
 match k, hk with
 | 0, _ => rfl
 | 1, _ => rfl
 | 2, _ => rfl
 | k + 3, h => omega
theorem bl1 : (⟨#[32, 103, 111, 116, 111, 32]⟩ : ByteArray) = B [32, 103, 111, 116, 111, 32] := by unfold B; rfl
theorem bl2 : (⟨#[32, 105, 102, 32, 49, 32, 123]⟩ : ByteArray) = B [32, 105, 102, 32, 49, 32, 123] := by unfold B; rfl
theorem bl3 : (⟨#[125]⟩ : ByteArray) = B [125] := by unfold B; rfl
theorem bl4 : (⟨#[103, 111, 123]⟩ : ByteArray) = B [103, 111, 123] := by unfold B; rfl
theorem end_loop {z : List Int} (hz : z.length <= 17592186044416) : ∀ (m i : Nat) (u : List UInt8) (o : List (List St)) (t : List St), i <= 30 -> i <= z.length -> 31 - i < m -> Inv9 u o t (3 + 7 * i) →
  ∃ u' o' t', l_suturelaw9_JumpsEnd_4 n m (ints .i64 z, B u, (o.length : Int), (i : Int)) = some (B u', (o'.length : Int)) /\ Inv9 u' o' t' 213 := by
 have b1 := bl1
 have b2 := bl2
 have b3 := bl3
 intro m
 induction m with
 | zero => intro i u o t h1 h2 h3; omega
 | succ m ih =>
  intro i u o t h1 h2 h3 hI
  rw [l_suturelaw9_JumpsEnd_4]
  unfold l_suturelaw9_JumpsEnd_4_B
  simp only
  have hlen : (List.length (ints .i64 z) : Nat) = z.length := by simp [ints]
  have hul := hI.len
  have h6 := hI.six
  rw [hlen]
  by_cases hc : i < z.length /\ i < 30
  ·rw [decide_eq_true (show (i : Int) < ((z.length : Nat) : Int) by omega), decide_eq_true (show (i : Int) < 30 by omega)]
   simp only [cond_true]
   rw [idx_intsJ hc.1]
   simp only [Option.bind_some]
   obtain ⟨k, hk1, hk2⟩ := pick_eq n ((int1J z[i]).cell 0).int 8 (by omega) (by omega)
   obtain ⟨k3, h31, h32⟩ := pick_eq n (IntKind.wrap .i64 (Int.tdiv ((int1J z[i]).cell 0).int 8)) 3 (by omega) (by omega)
   rw [hk1, h31, wrap_up (show i <= 281474976710656 by omega), b1, b2, b3]
   simp only [Option.bind_some]
   have e8 : (!decide ((8 : Nat) = 0)) = true := rfl
   by_cases hk4 : (k : Int) < 4
   ·rw [decide_eq_true hk4, cond_true, must_cat (by simp only [List.length_cons, List.length_nil]; omega), must_eq (by rfl), name_idx k3 (by omega), Option.bind_some]
    have es : (T.sc (.string (B (wa k3)))).str = B (wa k3) := rfl
    have hw : (wa k3).length = 1 := by unfold wa; split; rfl; split <;> rfl
    rw [es, B_append, must_cat (by simp only [List.length_append, List.length_cons, List.length_nil, hw]; omega), B_append]
    have eu : (u ++ [32, 103, 111, 116, 111, 32]) ++ wa k3 = u ++ (32 :: (wGoto ++ 32 :: wa k3)) := by simp [wGoto]
    rw [eu]
    exact ih (i + 1) _ o _ (by omega) (by omega) (by omega) (hI.goto (by omega))
   ·rw [decide_eq_false hk4, cond_false]
    by_cases hif : (k : Int) < 6 /\ o.length < 6
    ·rw [decide_eq_true hif.1, decide_eq_true (show (o.length : Int) < 6 by omega), cond_true, cond_true]
     rw [must_cat (by simp only [List.length_cons, List.length_nil]; omega), B_append, wrap_up (show o.length <= 281474976710656 by omega)]
     exact ih (i + 1) _ (t :: o) _ (by omega) (by omega) (by omega) (hI.open_ hif.2)
    ·have e : (bif (decide ((k : Int) < 6)) then (decide ((o.length : Int) < 6)) else false) = false := by
      by_cases h : (k : Int) < 6
      ·rw [decide_eq_true h, decide_eq_false (show ¬ (o.length : Int) < 6 by omega)]; rfl
      ·rw [decide_eq_false h]; rfl
     rw [e, cond_false]
     have hmono : ∀ {u o t}, Inv9 u o t (3 + 7 * i) -> Inv9 u o t (3 + 7 * (i + 1)) := fun h => ⟨h.lx, h.ok, h.good, h.outs, h.six, by have := h.len; omega, by have := h.cnt; omega⟩
     cases o with
     | nil =>
      rw [decide_eq_false (show ¬ ((([] : List (List St)).length : Nat) : Int) > 0 by simp), cond_false]
      exact ih (i + 1) _ [] _ (by omega) (by omega) (by omega) (hmono hI)
     | cons l o =>
      rw [decide_eq_true (show (((l :: o).length : Nat) : Int) > 0 by simp only [List.length_cons]; omega), cond_true, must_cat (by simp only [List.length_cons, List.length_nil]; omega), B_append]
      rw [show IntKind.wrap .i64 ((((l :: o).length : Nat) : Int) - 1) = (o.length : Int) by rw [wrap_id (by simp only [List.length_cons]; omega) (by simp only [List.length_cons] at h6 ⊢; omega)]; simp only [List.length_cons]; omega]
      have hs := hI.shut
      exact ih (i + 1) _ o _ (by omega) (by omega) (by omega) ⟨hs.lx, hs.ok, hs.good, hs.outs, hs.six, by have := hs.len; omega, by have := hs.cnt; omega⟩
  ·have e : (bif (decide ((i : Int) < ((z.length : Nat) : Int))) then (decide ((i : Int) < 30)) else false) = false := by
    by_cases h : i < z.length
    ·rw [decide_eq_true (show (i : Int) < ((z.length : Nat) : Int) by omega), decide_eq_false (show ¬ (i : Int) < 30 by omega)]; rfl
    ·rw [decide_eq_false (show ¬ (i : Int) < ((z.length : Nat) : Int) by omega)]; rfl
   rw [e, cond_false]
   exact ⟨u, o, t, rfl, hI.lx, hI.ok, hI.good, hI.outs, hI.six, by omega, by have := hI.cnt; omega⟩
theorem shut_loop : ∀ (m : Nat) (o : List (List St)) (u : List UInt8) (t : List St) (c : Nat), o.length < m -> c + o.length <= 1000 -> Inv9 u o t c →
  ∃ u' t', l_suturelaw9_JumpsEnd_15 n m (B u, (o.length : Int)) = some (B u') /\ Inv9 u' [] t' (c + o.length) := by
 have b1 := bl1
 have b2 := bl2
 have b3 := bl3
 intro m
 induction m with
 | zero => intro o u t c h; omega
 | succ m ih =>
  intro o u t c h hc hI
  rw [l_suturelaw9_JumpsEnd_15]
  unfold l_suturelaw9_JumpsEnd_15_B
  simp only
  have hul := hI.len
  have h6 := hI.six
  cases o with
  | nil =>
   rw [decide_eq_false (show ¬ ((([] : List (List St)).length : Nat) : Int) > 0 by simp), cond_false]
   exact ⟨u, t, rfl, by simpa using hI⟩
  | cons l o =>
   simp only [List.length_cons] at h hc h6
   rw [decide_eq_true (show (((l :: o).length : Nat) : Int) > 0 by simp only [List.length_cons]; omega), cond_true, b3, must_cat (by simp only [List.length_cons, List.length_nil]; omega), B_append]
   rw [show IntKind.wrap .i64 ((((l :: o).length : Nat) : Int) - 1) = (o.length : Int) by rw [wrap_id (by simp only [List.length_cons]; omega) (by simp only [List.length_cons]; omega)]; simp only [List.length_cons]; omega]
   obtain ⟨u', t', g1, g2⟩ := ih o _ _ (c + 1) (by omega) (by omega) hI.shut
   refine ⟨u', t', g1, ?_⟩
   rw [List.length_cons, show c + (o.length + 1) = c + 1 + o.length by omega]
   exact g2
end
def tailB : List UInt8 := [32, 108, 97, 98, 101, 108, 32, 97, 32, 108, 97, 98, 101, 108, 32, 98, 32, 108, 97, 98, 101, 108, 32, 101, 125]
theorem lx_tail : Lx0 tailB (tkL [lbS 0, lbS 1, lbS 2] ++ [sgT 125]) := by
 have h2 : Lx0 (32 :: (wLabel ++ 32 :: wa 2) ++ 125 :: []) ([nmT wLabel, nmT (wa 2)] ++ [sgT 125]) := (lx_two (w := wLabel) (by decide) (wa_word 2).1).append0 cl_ok (Lx0.sign (c := 125) (by decide) (by decide))
 have h1 : Lx0 (32 :: (wLabel ++ 32 :: wa 1) ++ (32 :: (wLabel ++ 32 :: wa 2) ++ 125 :: [])) ([nmT wLabel, nmT (wa 1)] ++ ([nmT wLabel, nmT (wa 2)] ++ [sgT 125])) := (lx_two (w := wLabel) (by decide) (wa_word 1).1).append0 sp_ok h2
 have h0 : Lx0 (32 :: (wLabel ++ 32 :: wa 0) ++ (32 :: (wLabel ++ 32 :: wa 1) ++ (32 :: (wLabel ++ 32 :: wa 2) ++ 125 :: []))) ([nmT wLabel, nmT (wa 0)] ++ ([nmT wLabel, nmT (wa 1)] ++ ([nmT wLabel, nmT (wa 2)] ++ [sgT 125]))) := (lx_two (w := wLabel) (by decide) (wa_word 0).1).append0 sp_ok h1
 simp only [tkL, tk_lb, List.append_nil]
 exact h0
theorem end_read {n : Nat} (hn : 100000 < n) {u : List UInt8} {t : List St} {c : Nat} (h : Inv9 u [] t c) (hc : c <= 1000) :
  ∃ (pl : Nat -> Nat × Nat) (d : List T) (l' : List St), m_suturelaw9_read n (B (u ++ tailB)) = some (d, [l'].map (encT pl)) /\ stripL l' = stripL (t ++ [lbS 0, lbS 1, lbS 2]) /\ okL (t ++ [lbS 0, lbS 1, lbS 2]) 1 := by
 have hul := h.len
 have htl : tailB.length = 25 := rfl
 have hok : okL (t ++ [lbS 0, lbS 1, lbS 2]) 1 := okL_append.2 ⟨h.ok, by simp only [okL]; exact ⟨ok_lb 0 _, ok_lb 1 _, ok_lb 2 _, trivial⟩⟩
 have hx : Lx0 (u ++ tailB) (tkDL [] ++ tkTL [t ++ [lbS 0, lbS 1, lbS 2]]) := by
  have := h.lx.append0 (c := 32) (v := tailB.tail) sp_ok lx_tail
  rw [show (32 :: tailB.tail) = tailB from rfl] at this
  simp only [tkDL, tkTL, tkL_append, List.nil_append, pre9, List.cons_append, List.append_nil] at this ⊢
  simpa only [List.append_assoc, List.cons_append, List.nil_append, List.singleton_append] using this
 obtain ⟨l, ds', tl', g1, g2, g3, g4⟩ := read_Pg hx (fun d hd => by simp at hd) (by simp) (fun x hx => by simp only [List.mem_singleton] at hx; subst hx; exact hok) (by simp) (by simp)
 have h1 : tl'.length = 1 := by have := congrArg List.length g4; simpa using this
 match tl', h1 with
 | [l'], _ =>
 simp only [List.map_cons, List.map_nil, List.cons.injEq, and_true] at g4
 rcases r_parse hn (u := u ++ tailB) (by rw [List.length_append]; omega) g1 with ⟨d', th', p1, p2⟩ | ⟨t', r', p1, _, _⟩
 ·rw [g2] at p1
  cases p1
  refine ⟨P (B (u ++ tailB)), List.map (encD (P (B (u ++ tailB)))) ds', l', ?_, g4, hok⟩
  unfold m_suturelaw9_read
  rw [p2]
  rfl
 ·rw [g2] at p1; cases p1
end Go.Proofs.Ytgpokdaacbjimab.W
namespace Go.Proofs.Ytgpokdaacbjimab.W
open Go Go.Eng Go.Eng.Fl Go.RowKit
set_option linter.unusedVariables false
set_option linter.unusedSimpArgs false
set_option linter.unusedSectionVars false
theorem plL_append (th : Nat) : ∀ (a b : List S) (ar : List Nat) (k : Nat), (plL th (a ++ b) ar k).1 = (plL th a ar k).1 ++ (plL th b ar (plL th a ar k).2).1
 | [], b, ar, k => by simp only [List.nil_append, plL]
 | s :: a, b, ar, k => by
  simp only [List.cons_append, plL]
  rw [plL_append th a b ar _, List.append_assoc]
theorem mem_ar (th b : Nat) : ∀ (l : List S) (ar : List Nat) (k : Nat), b ∈ ar -> ∀ x ∈ (plL th l ar k).1, b ∈ x.ar /\ x.th = th
 | [], ar, k, h, x, hx => by simp [plL] at hx
 | .mk kind name other num ek en es eof body els re im :: r, ar, k, h, x, hx => by
  simp only [plL, plS, List.mem_append, List.mem_cons] at hx
  rcases hx with (rfl | hx | hx) | hx
  ·exact ⟨h, rfl⟩
  ·exact mem_ar th b body _ _ (by simp [h]) x hx
  ·exact mem_ar th b els _ _ (by simp [h]) x hx
  ·exact mem_ar th b r _ _ h x hx
def kn8 (s : S) : Int × ByteArray := (s.kind, s.name)
mutual
theorem kn_flS (pl : Nat -> Nat × Nat) : ∀ s : St, (flS (toS pl s)).map kn8 = (knS s).map fun q => (q.1, B q.2)
 | .mk k n o m e body els p => by
  simp only [toS, flS, knS, List.map_cons, List.map_append, kn_flL pl body, kn_flL pl els]
  rfl
theorem kn_flL (pl : Nat -> Nat × Nat) : ∀ l : List St, (flL (toSL pl l)).map kn8 = (knL l).map fun q => (q.1, B q.2)
 | [] => by simp only [toSL, flL, knL, List.map_nil]
 | s :: r => by simp only [toSL, flL, knL, List.map_append, kn_flS pl s, kn_flL pl r]
end
theorem toSL_append (pl : Nat -> Nat × Nat) : ∀ a b : List St, toSL pl (a ++ b) = toSL pl a ++ toSL pl b
 | [], b => by simp only [List.nil_append, toSL]
 | s :: a, b => by simp only [List.cons_append, toSL, toSL_append pl a b]
theorem lb_shape {x : St} {j : Nat} (h : x.strip = lbS j) (pl : Nat -> Nat × Nat) : ∃ re im, toS pl x = .mk 10 (B (wa j)) (B []) 0 0 0 (⟨#[]⟩ : ByteArray) [] [] [] re im := by
 obtain ⟨k, n, o, m, e, b, els, p⟩ := x
 simp only [St.strip, lbS, St.mk.injEq] at h
 obtain ⟨rfl, rfl, rfl, rfl, rfl, hb, he, _⟩ := h
 have hb0 : b = [] := by cases b with
  | nil => rfl
  | cons => simp [stripL] at hb
 have he0 : els = [] := by cases els with
  | nil => rfl
  | cons => simp [stripL] at he
 subst hb0
 subst he0
 exact ⟨_, _, by simp only [toS, toSL]; rfl⟩
structure EndX (X : List Pl) (m : Nat) : Prop where
 len : X.length = m + 3
 low : ∀ i x, X[i]? = some x -> i < m -> x.s.kind = 7 \/ (x.s.kind = 9 /\ ∃ j, j < 3 /\ x.s.name = B (wa j))
 high : ∀ j x, j < 3 -> X[m + j]? = some x -> x.s.kind = 10 /\ x.s.name = B (wa j) /\ x.ar = [0]
 zero : ∀ x ∈ X, 0 ∈ x.ar /\ x.th = 0
theorem endX_of {pl : Nat -> Nat × Nat} {l' t : List St} (h : stripL l' = stripL (t ++ [lbS 0, lbS 1, lbS 2])) (hg : goodL t) : ∃ m, EndX (plP [toSL pl l'] 0 0).1 m := by
 rw [stripL_append, stripL_map l'] at h
 obtain ⟨a, b, rfl, h1, h2⟩ := List.map_eq_append_iff.1 h
 have hb3 : b.length = 3 := by have := congrArg List.length h2; simpa [stripL] using this
 match b, hb3 with
 | [x0, x1, x2], _ =>
 simp only [List.map_cons, List.map_nil, stripL, List.cons.injEq, and_true] at h2
 have hs : ∀ j, (lbS j).strip = lbS j := fun j => by simp only [lbS, St.strip, stripL]
 rw [hs, hs, hs] at h2
 obtain ⟨r0, i0, e0⟩ := lb_shape h2.1 pl
 obtain ⟨r1, i1, e1⟩ := lb_shape h2.2.1 pl
 obtain ⟨r2, i2, e2⟩ := lb_shape h2.2.2 pl
 have hX : ∃ c0 c1 c2, (plP [toSL pl (a ++ [x0, x1, x2])] 0 0).1 = (plL 0 (toSL pl a) [0] 1).1 ++ [⟨.mk 10 (B (wa 0)) (B []) 0 0 0 (⟨#[]⟩ : ByteArray) [] [] [] r0 i0, 0, [0], c0⟩, ⟨.mk 10 (B (wa 1)) (B []) 0 0 0 (⟨#[]⟩ : ByteArray) [] [] [] r1 i1, 0, [0], c1⟩, ⟨.mk 10 (B (wa 2)) (B []) 0 0 0 (⟨#[]⟩ : ByteArray) [] [] [] r2 i2, 0, [0], c2⟩] := by
  refine ⟨(plL 0 (toSL pl a) [0] 1).2, (plL 0 (toSL pl a) [0] 1).2 + 2, (plL 0 (toSL pl a) [0] 1).2 + 4, ?_⟩
  simp only [plP, List.append_nil]
  rw [toSL_append, plL_append]
  simp only [toSL, e0, e1, e2, plL, plS, List.nil_append, List.append_nil, List.cons_append]
 obtain ⟨c0, c1, c2, hX⟩ := hX
 refine ⟨(plL 0 (toSL pl a) [0] 1).1.length, ?_⟩
 have hz : ∀ x ∈ (plP [toSL pl (a ++ [x0, x1, x2])] 0 0).1, 0 ∈ x.ar /\ x.th = 0 := by
  intro x hx
  simp only [plP, List.append_nil] at hx
  exact mem_ar 0 0 _ [0] 1 (by simp) x hx
 rw [hX] at hz ⊢
 refine ⟨by simp, ?_, ?_, hz⟩
 ·intro i x hi hlt
  rw [List.getElem?_append_left hlt] at hi
  have hm := List.mem_of_getElem? hi
  have hfl : x.s ∈ flL (toSL pl a) := by rw [<- plL_s 0 _ [0] 1]; exact List.mem_map.2 ⟨x, hm, rfl⟩
  have hk : kn8 x.s ∈ (knL a).map fun q => (q.1, B q.2) := by rw [<- kn_flL pl a]; exact List.mem_map.2 ⟨x.s, hfl, rfl⟩
  obtain ⟨q, hq, hq2⟩ := List.mem_map.1 hk
  have hka : knL a = knL t := by rw [<- knL_strip a, stripL_map, h1, knL_strip]
  rw [hka] at hq
  simp only [kn8, Prod.mk.injEq] at hq2
  rcases hg q hq with h7 | ⟨h9, j, hj, hn⟩
  ·exact .inl (by rw [<- hq2.1]; exact h7)
  ·exact .inr ⟨by rw [<- hq2.1]; exact h9, j, hj, by rw [<- hq2.2, hn]⟩
 ·intro j x hj hi
  rw [List.getElem?_append_right (by omega), Nat.add_sub_cancel_left] at hi
  match j, hj with
  | 0, _ => simp only [List.getElem?_cons_zero, Option.some.injEq] at hi; subst hi; exact ⟨rfl, rfl, rfl⟩
  | 1, _ => simp only [List.getElem?_cons_succ, List.getElem?_cons_zero, Option.some.injEq] at hi; subst hi; exact ⟨rfl, rfl, rfl⟩
  | 2, _ => simp only [List.getElem?_cons_succ, List.getElem?_cons_zero, Option.some.injEq] at hi; subst hi; exact ⟨rfl, rfl, rfl⟩
  | j + 3, h => omega
theorem wa_beq {i j : Nat} (hi : i < 3) (hj : j < 3) : (ByteArray.toList (B (wa i)) == ByteArray.toList (B (wa j))) = (i == j) := by
 rw [bytes_eq, L_B, L_B]
 match i, j, hi, hj with
 | 0, 0, _, _ => rfl
 | 0, 1, _, _ => rfl
 | 0, 2, _, _ => rfl
 | 1, 0, _, _ => rfl
 | 1, 1, _, _ => rfl
 | 1, 2, _, _ => rfl
 | 2, 0, _, _ => rfl
 | 2, 1, _, _ => rfl
 | 2, 2, _, _ => rfl
 | i + 3, _, h, _ => omega
 | _, j + 3, _, h => omega
theorem findF_first {p : Nat -> Bool} : ∀ (f k t : Nat), k <= t -> t < k + f -> (∀ i, k <= i -> i < t -> p i = false) -> p t = true -> findF p f k = some t
 | 0, k, t, h1, h2, _, _ => by omega
 | f + 1, k, t, h1, h2, h3, h4 => by
  rw [findF]
  by_cases h : k = t
  ·subst h; rw [if_pos h4]
  ·rw [h3 k (Nat.le_refl _) (by omega), if_neg (by simp)]
   exact findF_first f (k + 1) t (by omega) (by omega) (fun i a b => h3 i (by omega) b) h4
section
variable {X : List Pl} {m : Nat} (hX : EndX X m)
include hX
theorem end_tgt {i : Nat} (hi : i < X.length) : (X[i].s.kind ≠ 9 /\ tgt X i = -1) \/ (X[i].s.kind = 9 /\ ∃ j, j < 3 /\ X[i].s.name = B (wa j) /\ tgt X i = ((m + j : Nat) : Int)) := by
 have hlen := hX.len
 unfold tgt
 rw [List.getElem?_eq_getElem hi]
 simp only
 by_cases h9 : X[i].s.kind = 9
 ·right
  have him : i < m := by
   rcases Nat.lt_or_ge i m with h | h
   ·exact h
   ·exfalso
    have := (hX.high (i - m) X[i] (by omega) (by rw [show m + (i - m) = i by omega]; exact List.getElem?_eq_getElem hi)).1
    omega
  rcases hX.low i X[i] (List.getElem?_eq_getElem hi) him with h7 | ⟨_, j, hj, hn⟩
  ·omega
  ·refine ⟨h9, j, hj, hn, ?_⟩
   rw [if_pos h9]
   have hf : findF (hit X X[i]) (X.length - (i + 1)) (i + 1) = some (m + j) := by
    refine findF_first _ _ _ (by omega) (by omega) (fun k h1 h2 => ?_) ?_
    ·have hk : k < X.length := by omega
     unfold hit nmEq
     rw [List.getElem?_eq_getElem hk]
     simp only
     by_cases hkm : k < m
     ·have : (X[k].s.kind == 10) = false := by
       rw [beq_eq_false_iff_ne]
       rcases hX.low k X[k] (List.getElem?_eq_getElem hk) hkm with h | ⟨h, _⟩ <;> omega
      rw [this, Bool.false_and, Bool.false_and, Bool.false_and]
     ·obtain ⟨_, hn2, _⟩ := hX.high (k - m) X[k] (by omega) (by rw [show m + (k - m) = k by omega]; exact List.getElem?_eq_getElem hk)
      rw [hn2, hn, wa_beq (by omega) hj, show ((k - m) == j) = false by rw [beq_eq_false_iff_ne]; omega, Bool.and_false, Bool.false_and, Bool.false_and]
    ·have hk : m + j < X.length := by omega
     obtain ⟨q1, q2, q3⟩ := hX.high j X[m + j] hj (List.getElem?_eq_getElem hk)
     obtain ⟨z1, z2⟩ := hX.zero X[i] (List.getElem_mem hi)
     obtain ⟨y1, y2⟩ := hX.zero X[m + j] (List.getElem_mem hk)
     unfold hit nmEq lastIn
     rw [List.getElem?_eq_getElem hk]
     simp only
     rw [q1, q2, q3, hn, wa_beq hj hj, y2, z2]
     simp [z1]
   rw [hf]
 ·exact .inl ⟨h9, by rw [if_neg h9]⟩
theorem end_wrong {i : Nat} (hi : i < X.length) : wrong X i = false := by
 have hlen := hX.len
 rw [wrong_at hi, tw_at hi]
 have ht : ((X[i].s.kind == 9) && decide (tgt X i < 0)) = false := by
  rcases end_tgt hX hi with ⟨h, _⟩ | ⟨_, j, _, _, h⟩
  ·rw [beq_eq_false_iff_ne.2 h, Bool.false_and]
  ·rw [h, decide_eq_false (by omega), Bool.and_false]
 rw [ht, Bool.or_false]
 by_cases him : i < m
 ·have : (X[i].s.kind == 10) = false := by
   rw [beq_eq_false_iff_ne]
   rcases hX.low i X[i] (List.getElem?_eq_getElem hi) him with h | ⟨h, _⟩ <;> omega
  rw [this, Bool.false_and]
 ·obtain ⟨_, hn2, _⟩ := hX.high (i - m) X[i] (by omega) (by rw [show m + (i - m) = i by omega]; exact List.getElem?_eq_getElem hi)
  have : (X.take i).any (lbl X[i]) = false := by
   rw [List.any_eq_false]
   intro y hy
   obtain ⟨k, hk, rfl⟩ := List.mem_iff_getElem.1 hy
   have hk2 : k < i := by rw [List.length_take] at hk; omega
   have hk3 : k < X.length := by omega
   rw [List.getElem_take]
   unfold lbl nmEq
   by_cases hkm : k < m
   ·have : (X[k].s.kind == 10) = false := by
     rw [beq_eq_false_iff_ne]
     rcases hX.low k X[k] (List.getElem?_eq_getElem hk3) hkm with h | ⟨h, _⟩ <;> omega
    rw [this, Bool.and_false, Bool.false_and]
    simp
   ·obtain ⟨_, hn3, _⟩ := hX.high (k - m) X[k] (by omega) (by rw [show m + (k - m) = k by omega]; exact List.getElem?_eq_getElem hk3)
    rw [hn3, hn2, wa_beq (by omega) (by omega), show ((k - m) == (i - m)) = false by rw [beq_eq_false_iff_ne]; omega, Bool.and_false]
    simp
  rw [this, Bool.and_false]
theorem end_res : resX X = ((0, 0), 0) := by
 unfold resX
 rw [findF_none _ _ (fun j h1 h2 => end_wrong hX (by omega))]
end
theorem enc_at : ∀ (l : List S) (i : Nat), (encSLJ l)[i]? = l[i]?.map S.enc
 | [], i => by simp [encSLJ]
 | s :: r, 0 => by simp [encSLJ]
 | s :: r, i + 1 => by simp only [encSLJ, List.getElem?_cons_succ]; exact enc_at r i
theorem getSE (s : S) : ((S.enc s).cell 0).int = s.kind /\ ((S.enc s).cell 1).str = s.name := by
 obtain ⟨kind, name, other, num, ek, en, es, eof, body, els, re, im⟩ := s
 simp only [S.enc]
 exact ⟨rfl, rfl⟩
theorem idx_SE {l : List S} {i : Nat} (h : i < l.length) : idx true [.int .i64, .str, .str, .int .i64, .int .i64, .int .i64, .str, .list, .list, .list, .cplx .f64] (encSLJ l) (i : Int) = some (S.enc l[i]) := by
 have h0 : decide ((0 : Int) <= (i : Int)) = true := by simp
 simp only [idx, cond_true, h0, Int.toNat_natCast, enc_at, List.getElem?_eq_getElem h, Option.map_some]
 generalize l[i] = s
 obtain ⟨kind, name, other, num, ek, en, es, eof, body, els, re, im⟩ := s
 simp only [S.enc]
 rfl
section
variable {n : Nat}
theorem goal_loop (hn : 100000 < n) {P : List (List S)} (hP : cntP P <= 6000) (hl : P.length <= 4) {mm : Nat} (hE : EndX (plP P 0 0).1 mm) (d : List T) (e : Int) : ∀ (m i : Nat), i <= cntP P -> cntP P - i < m →
  l_suturelaw9_JumpsEnd_23 n m (((cntP P : Nat) : Int), e, encSLJ (flP P), ((cntP P : Nat) : Int), (i : Int), d, encP P) = some (.inr (((cntP P : Nat) : Int), e, d, encP P)) := by
 have hX := ord_of hP hl
 obtain ⟨p1, p2, p3⟩ := plP_len P 0 0
 have hFl : (flP P).length = cntP P := by rw [<- plP_s P 0 0, List.length_map, p1]
 have hEl := hE.len
 intro m
 induction m with
 | zero => intro i h1 h2; omega
 | succ m ih =>
  intro i h1 h2
  rw [l_suturelaw9_JumpsEnd_23]
  unfold l_suturelaw9_JumpsEnd_23_B
  simp only
  by_cases hlt : i < cntP P
  ·rw [decide_eq_true (show (i : Int) < ((cntP P : Nat) : Int) by omega), cond_true, idx_SE (by omega), Option.bind_some]
   obtain ⟨g0, g1⟩ := getSE ((flP P)[i]'(by omega))
   rw [g0, g1]
   have hi : i < (plP P 0 0).1.length := by omega
   have hs : (flP P)[i]'(by omega) = ((plP P 0 0).1[i]).s := by
    have : (flP P)[i]? = ((plP P 0 0).1.map (·.s))[i]? := by rw [plP_s]
    rw [List.getElem?_map, List.getElem?_eq_getElem hi, List.getElem?_eq_getElem (by omega)] at this
    simpa using this
   rw [hs]
   have ht : m_jumps_Target n d (encP P) (i : Int) = some (tgt (plP P 0 0).1 i) := by
    unfold m_jumps_Target
    rw [all_eq hn P hP hl d, Option.bind_some, target_eq hn hX hi]
    rfl
   rw [ht, wrap_up (show i <= 281474976710656 by omega)]
   have next := ih (i + 1) (by omega) (by omega)
   have w1 : IntKind.wrap .i64 (((cntP P : Nat) : Int) - 1) = ((mm + 2 : Nat) : Int) := by rw [wrap_id (by omega) (by omega)]; omega
   have w2 : IntKind.wrap .i64 (((cntP P : Nat) : Int) - 2) = ((mm + 1 : Nat) : Int) := by rw [wrap_id (by omega) (by omega)]; omega
   have w3 : IntKind.wrap .i64 (((cntP P : Nat) : Int) - 3) = ((mm + 0 : Nat) : Int) := by rw [wrap_id (by omega) (by omega)]; omega
   rw [w1, w2, w3]
   rcases end_tgt hE hi with ⟨h9, h⟩ | ⟨h9, j, hj, hnm, h⟩
   ·rw [show ((((plP P 0 0).1[i]).s.kind : Int) == 9) = false from beq_eq_false_iff_ne.2 h9, cond_false, h, Option.bind_some, bne_self_eq_false, cond_false]
    exact next
   ·rw [show ((((plP P 0 0).1[i]).s.kind : Int) == 9) = true from beq_iff_eq.2 h9, cond_true, h, hnm]
    have eb : ByteArray.toList (⟨#[98]⟩ : ByteArray) = ByteArray.toList (B (wa 1)) := rfl
    have ee : ByteArray.toList (⟨#[101]⟩ : ByteArray) = ByteArray.toList (B (wa 2)) := rfl
    rw [eb, ee, wa_beq hj (by decide), wa_beq hj (by decide)]
    match j, hj with
    | 0, _ =>
     rw [show ((0 : Nat) == 1) = false from rfl, show ((0 : Nat) == 2) = false from rfl, cond_false, cond_false, Option.bind_some, bne_self_eq_false, cond_false]
     exact next
    | 1, _ =>
     rw [show ((1 : Nat) == 1) = true from rfl, show ((1 : Nat) == 2) = false from rfl, cond_true, cond_false, Option.bind_some, bne_self_eq_false, cond_false]
     exact next
    | 2, _ =>
     rw [show ((2 : Nat) == 1) = false from rfl, show ((2 : Nat) == 2) = true from rfl, cond_false, cond_true, Option.bind_some, bne_self_eq_false, cond_false]
     exact next
    | j + 3, h => omega
  ·rw [decide_eq_false (show ¬ (i : Int) < ((cntP P : Nat) : Int) by omega), cond_false]
end
theorem toP_encG (pl : Nat -> Nat × Nat) : ∀ tl : List (List St), tl.map (encT pl) = encP (tl.map (toSL pl))
 | [] => rfl
 | l :: r => by
  have := toP_encG pl r
  unfold encP at this ⊢
  rw [List.map_cons, this, List.map_cons, List.map_cons, toSL_enc]
  rfl
mutual
theorem ctS_st : ∀ s : St, ctS s.strip = ctS s
 | .mk k n o m e b els p => by simp only [St.strip, ctS, ctL_st b, ctL_st els]
theorem ctL_st : ∀ l : List St, ctL (stripL l) = ctL l
 | [] => by simp only [stripL]
 | s :: r => by simp only [stripL, ctL, ctS_st s, ctL_st r]
end
theorem bl5 : (⟨#[32, 108, 97, 98, 101, 108, 32, 97, 32, 108, 97, 98, 101, 108, 32, 98, 32, 108, 97, 98, 101, 108, 32, 101, 125]⟩ : ByteArray) = B tailB := by unfold B tailB; rfl
theorem jumpsEnd_law (z : List Int) (lz : z.length <= 17592186044416) : ∃ n, m_suturelaw9_JumpsEnd n (ints .i64 z) = some true := by
 refine ⟨110000 + 200, ?_⟩
 have hk := known_ok 110000
 generalize hN : 110000 + 200 = n at hk ⊢
 have hn : 100000 < n := by omega
 clear hN
 obtain ⟨u1, o1, t1, g1, g2⟩ := end_loop (n := n) lz n 0 [103, 111, 123] [] [] (by omega) (by omega) (by omega) Inv9.start
 have h6 := g2.six
 obtain ⟨u2, t2, g3, g4⟩ := shut_loop (n := n) n o1 u1 t1 213 (by omega) (by omega) g2
 have hul := g4.len
 have hct := g4.cnt
 obtain ⟨pl, d, l', g5, g6, g7⟩ := end_read hn g4 (by omega)
 rw [toP_encG] at g5
 simp only [List.map_cons, List.map_nil] at g5
 obtain ⟨mm, hE⟩ := endX_of (pl := pl) g6 g4.good
 have hcnt : cntP [toSL pl l'] <= 6000 := by
  simp only [cntP, toSL_cnt]
  rw [<- ctL_st l', g6, ctL_st, ctL_app9]
  have h3 : ctL [lbS 0, lbS 1, lbS 2] = 3 := by simp only [ctL, lbS, ctS]
  simp only [ctO9] at hct
  omega
 have hl : [toSL pl l'].length <= 4 := by simp
 obtain ⟨p1, p2, p3⟩ := plP_len [toSL pl l'] 0 0
 have hX := ord_of hcnt hl
 have hFl : (flP [toSL pl l']).length = cntP [toSL pl l'] := by rw [<- plP_s [toSL pl l'] 0 0, List.length_map, p1]
 have hEl := hE.len
 unfold m_suturelaw9_JumpsEnd
 rw [bl4, bl5]
 refine bind_eq g1 ?_
 refine bind_eq g3 ?_
 have htl : tailB.length = 25 := rfl
 rw [must_cat (by omega), B_append]
 refine bind_eq g5 ?_
 refine bind_eq (list_eq hn [toSL pl l'] hcnt hl d) ?_
 refine bind_eq (check_eq hn hX [toSL pl l'] hcnt hl rfl d) ?_
 rw [end_res hE, encSL_lenJ, hFl]
 refine bind_eq (goal_loop hn hcnt hl hE d 0 n 0 (by omega) (by omega)) ?_
 simp only [Sum.elim_inr]
 refine bind_eq hk ?_
 rw [decide_eq_true (show ((cntP [toSL pl l'] : Nat) : Int) ≥ 3 by omega)]
 rfl
end Go.Proofs.Ytgpokdaacbjimab.W
