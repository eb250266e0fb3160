/- Own texts, several in one. No conditions. -/
import Derived.Test.YtbcgpjlkkcdmmaaDoorZAParseKnown
namespace Go.Proofs.YtbcgpjlkkcdmmaaDoor.W
open Go Go.Eng Go.Eng.Fl
set_option linter.unusedVariables false
set_option linter.unusedSimpArgs false
set_option linter.unusedSectionVars false
def encD (pl : Nat -> Nat × Nat) (d : Dc) : T := T.agg [(T.sc (.int .i64 d.kind)), (T.sc (.string (B d.name))), (T.sc (.int .i64 (d.num : Int))), (T.sc (.complex .f64 (pl d.pos).1 (pl d.pos).2))]
def encT (pl : Nat -> Nat × Nat) (l : List St) : T := T.list (encSL pl l)
theorem sized_D (pl : Nat -> Nat × Nat) (l : List Dc) : sized 4 (l.map (encD pl)) = true := by
 unfold sized
 rw [List.all_eq_true]
 intro y hy
 obtain ⟨t, _, rfl⟩ := List.mem_map.1 hy
 rfl
theorem sized_T (pl : Nat -> Nat × Nat) (l : List (List St)) : sized 1 (l.map (encT pl)) = true := by
 unfold sized
 rw [List.all_eq_true]
 intro y hy
 obtain ⟨t, _, rfl⟩ := List.mem_map.1 hy
 rfl
theorem kind_eq (n : Nat) (w : List UInt8) : m_parse_kindOf n (B w) = some (declK w) := by
 unfold m_parse_kindOf declK
 have d : ∀ q : ByteArray, (ByteArray.toList (B w) == ByteArray.toList q) = decide (w = L q) := by
  intro q
  rw [bytes_eq, L_B]
  by_cases h : w = L q
  ·rw [decide_eq_true h, beq_iff_eq]; exact h
  ·rw [decide_eq_false h, beq_eq_false_iff_ne]; exact h
 simp only [d, Bool.cond_decide]
 rw [show L (⟨#[118, 97, 114]⟩ : ByteArray) = wVar from rfl, show L (⟨#[119, 105, 100, 101]⟩ : ByteArray) = wWide from rfl, show L (⟨#[97, 116, 111, 109, 105, 99]⟩ : ByteArray) = wAtomic from rfl, show L (⟨#[108, 111, 99, 97, 108]⟩ : ByteArray) = wLocal from rfl, show L (⟨#[109, 117, 116, 101, 120]⟩ : ByteArray) = wMutex from rfl, show L (⟨#[99, 104, 97, 110]⟩ : ByteArray) = wChan from rfl]
 repeat' split
 all_goals rfl
section
variable {s : ByteArray} {TS : List Tok} {n : Nat}
theorem clip_D {es : List T} (h : sized 4 es = true) : m_slices_Clip___api_Decl_api_Decl_ n es = some es := by
 unfold m_slices_Clip___api_Decl_api_Decl_
 simp [must, h]
theorem clip_T {es : List T} (h : sized 1 es = true) : m_slices_Clip_____api_Stmt___api_Stmt_ n es = some es := by
 unfold m_slices_Clip_____api_Stmt___api_Stmt_
 simp [must, h]
def ResD (s : ByteArray) (TS : List Tok) (q : Option Q4) : RD -> Prop
 | .ok l r => q = some (l.map (encD (P s)), TS.map (encL s), ix TS r, false) /\ Suf TS r /\ Ended r
 | .bad r => (∃ l, sized 4 l = true /\ q = some (l, TS.map (encL s), ix TS r, true)) /\ Suf TS r /\ Ended r
theorem dcl_bad (acc : List T) {t : Tok} {r : List Tok} (k : Nat) : l___parse_reader__decls_2 n (k + 1) (acc, TS.map (encL s), ix TS (t :: r), true) = some (acc, TS.map (encL s), ix TS (t :: r), true) := by
 show l___parse_reader__decls_2_B n (l___parse_reader__decls_2 n k) (acc, TS.map (encL s), ix TS (t :: r), true) = _
 unfold l___parse_reader__decls_2_B
 simp only [Bool.not_true, idx_false, Option.bind_some, cond_false]
theorem dcl_eq (acc : List Dc) (t : Tok) (r : List Tok) : dcl acc (t :: r) = (if t.kind = 1 /\ declK t.text ≠ 0 then (if acc.length = 24 then .bad (t :: r) else (match r with
   | [] => .bad []
   | t1 :: r1 => if isNm kwd t1.bare then (if declK t.text = 6 then (match r1 with
     | [] => .bad []
     | t2 :: r2 => if t2.kind = 2 /\ t2.num <= 3 then dcl (acc ++ [⟨6, t1.text, t2.num, t.pos⟩]) r2 else .bad (t2 :: r2)) else dcl (acc ++ [⟨declK t.text, t1.text, 0, t.pos⟩]) r1) else .bad (t1 :: r1)))
  else .ok acc (t :: r)) := by rw [dcl.eq_def] <;> rfl
theorem fitD (k : Nat) (x : T) (acc : List T) (hx : sized 4 [x] = true) (ha : acc.length <= 6001) {R : Type} (q : Option R) : must true ((Nat.beq 4 4 || Nat.beq 4 0) && (decide (List.length acc + List.length [x] <= 1073741824) && sized 4 [x])) q = q := by
 rw [List.length_singleton, decide_eq_true (show acc.length + 1 <= 1073741824 by omega), hx]
 rfl
theorem sized_add {es : List T} {x : T} (h : sized 4 es = true) (hx : sized 4 [x] = true) : sized 4 (es ++ [x]) = true := by
 unfold sized at *
 rw [List.all_append, h, hx]
 rfl
theorem dcl_loop (hP : TkP TS) (hn : 100000 < n) : ∀ (k : Nat) (acc : List Dc) (r : List Tok), r.length < k -> acc.length + r.length <= 6001 -> Suf TS r -> Ended r →
  ResD s TS (l___parse_reader__decls_2 n k (acc.map (encD (P s)), TS.map (encL s), ix TS r, false)) (dcl acc r) := by
 have hT := hP.tks
 intro k
 induction k with
 | zero => intro acc r h; omega
 | succ k ih =>
  intro acc r hk ha hs he
  obtain ⟨t, r, rfl⟩ := he.ne
  simp only [List.length_cons] at hk ha
  have hl : (acc.map (encD (P s))).length = acc.length := List.length_map _
  show ResD s TS (l___parse_reader__decls_2_B n (l___parse_reader__decls_2 n k) (acc.map (encD (P s)), TS.map (encL s), ix TS (t :: r), false)) _
  unfold l___parse_reader__decls_2_B
  simp only [Bool.not_false, cond_true]
  rw [tok_at hs]
  simp only [Option.bind_some]
  have e0 : ((encL s t).cell 0).int = t.kind := rfl
  have e1 : ((encL s t).cell 1).str = B t.text := rfl
  have e3 : T.sc (.complex .f64 ((encL s t).cell 3).re ((encL s t).cell 3).im) = T.sc (.complex .f64 (P s t.pos).1 (P s t.pos).2) := rfl
  rw [e0, e1, dcl_eq]
  by_cases h1 : t.kind ≠ 1
  ·rw [show (t.kind == 1) = false from beq_eq_false_iff_ne.2 h1, cond_false, if_neg (fun h => h1 h.1)]
   exact ⟨rfl, hs, he⟩
  have h1 : t.kind = 1 := by omega
  have her := he.cons (by rw [h1]; decide)
  obtain ⟨t1, r1, rfl⟩ := her.ne
  simp only [List.length_cons] at hk ha
  rw [beq_iff_eq.2 h1, cond_true, kind_eq, Option.bind_some]
  by_cases h0 : declK t.text = 0
  ·rw [h0, if_neg (fun h => h.2 rfl)]
   exact ⟨rfl, hs, he⟩
  rw [show (declK t.text == 0) = false from beq_eq_false_iff_ne.2 h0, cond_false, if_pos ⟨h1, h0⟩, hl]
  by_cases h24 : acc.length = 24
  ·rw [show ((((acc.length : Nat) : Int) : Int) == 24) = true by rw [h24]; rfl, cond_true, if_pos h24]
   exact ⟨⟨_, sized_D (P s) acc, rfl⟩, hs, he⟩
  rw [show ((((acc.length : Nat) : Int) : Int) == 24) = false by rw [beq_eq_false_iff_ne]; omega, cond_false, if_neg h24, ix_up hs hT.len, name_eq hT hn hs.cons, Option.bind_some, e3]
  simp only
  have hz : ∀ (kd : Int) (nm : ByteArray) (m : Int), sized 4 [T.agg [(T.sc (.int .i64 kd)), (T.sc (.string nm)), (T.sc (.int .i64 m)), T.sc (.complex .f64 (P s t.pos).1 (P s t.pos).2)]] = true := fun _ _ _ => rfl
  have ha' : (acc.map (encD (P s))).length <= 6001 := by rw [hl]; omega
  obtain ⟨j, rfl⟩ : ∃ j, k = j + 1 := ⟨k - 1, by omega⟩
  by_cases hb1 : isNm kwd t1.bare = true
  ·rw [if_pos hb1, if_pos hb1]
   simp only
   have he1 := her.cons (by rw [isNm_kind hb1]; decide)
   obtain ⟨t2, r2, rfl⟩ := he1.ne
   simp only [List.length_cons] at hk ha
   by_cases h6 : declK t.text = 6
   ·rw [h6, if_pos rfl, show (((6 : Int)) == 6) = true from rfl, cond_true, show ((3 : Int)) = ((3 : Nat) : Int) from rfl, num_eq hT hs.cons.cons, Option.bind_some]
    simp only
    by_cases hnm : t2.kind = 2 /\ t2.num <= 3
    ·rw [if_pos hnm, if_pos hnm]
     simp only
     rw [<- hl, fitD 0 _ _ (hz _ _ _) ha']
     have := ih (acc ++ [⟨6, t1.text, t2.num, t.pos⟩]) r2 (by omega) (by simp only [List.length_append, List.length_singleton]; omega) hs.cons.cons.cons (he1.cons (by omega))
     rw [List.map_append] at this
     exact this
    ·rw [if_neg hnm, if_neg hnm]
     simp only
     rw [<- hl, fitD 0 _ _ (hz _ _ _) ha', dcl_bad]
     exact ⟨⟨_, sized_add (sized_D (P s) acc) (hz _ _ _), rfl⟩, hs.cons.cons, he1⟩
   ·rw [if_neg h6, show (declK t.text == 6) = false from beq_eq_false_iff_ne.2 h6, cond_false, <- hl, fitD 0 _ _ (hz _ _ _) ha']
    have := ih (acc ++ [⟨declK t.text, t1.text, 0, t.pos⟩]) (t2 :: r2) (by simp only [List.length_cons]; omega) (by simp only [List.length_append, List.length_cons, List.length_nil]; omega) hs.cons.cons he1
    rw [List.map_append] at this
    exact this
  ·rw [if_neg hb1, if_neg hb1]
   simp only
   rw [num_bad hs.cons, Option.bind_some]
   simp only
   rw [<- hl, fitD 0 _ _ (hz _ _ _) ha', dcl_bad]
   have hx : ∀ (bb : Bool) (x y : Option Q4), ResD s TS x (.bad (t1 :: r1)) -> ResD s TS y (.bad (t1 :: r1)) -> ResD s TS (bif bb then x else y) (.bad (t1 :: r1)) := by intro bb x y h1 h2; cases bb; exact h2; exact h1
   exact hx _ _ _ ⟨⟨_, sized_add (sized_D (P s) acc) (hz _ _ _), rfl⟩, hs.cons, her⟩ ⟨⟨_, sized_add (sized_D (P s) acc) (hz _ _ _), rfl⟩, hs.cons, her⟩
abbrev Q7 := (List T) × Int × Bool × (List T) × (List T) × (List T) × (List T)
def ResT (s : ByteArray) (TS : List Tok) (x y z : List T) (q : Option Q7) : RT -> Prop
 | .ok l r => q = some (TS.map (encL s), ix TS r, false, x, y, z, l.map (encT (P s))) /\ Suf TS r /\ Ended r
 | .bad r => (∃ l, sized 1 l = true /\ q = some (TS.map (encL s), ix TS r, true, x, y, z, l)) /\ Suf TS r /\ Ended r
theorem thr_bad (x y z acc : List T) {t : Tok} {r : List Tok} (k : Nat) : l___parse_reader__prog_2 n (k + 1) (TS.map (encL s), ix TS (t :: r), true, x, y, z, acc) = some (TS.map (encL s), ix TS (t :: r), true, x, y, z, acc) := by
 show l___parse_reader__prog_2_B n (l___parse_reader__prog_2 n k) (TS.map (encL s), ix TS (t :: r), true, x, y, z, acc) = _
 unfold l___parse_reader__prog_2_B
 simp only [Bool.not_true, Bool.false_and, idx_false, Option.bind_some, cond_false]
theorem thr_eq (acc : List (List St)) (t : Tok) (r : List Tok) : thr acc (t :: r) = (if acc ≠ [] /\ t.kind = 4 then .ok acc (t :: r)
  else if acc.length = 4 then .bad (t :: r)
  else if isWord wGo t.bare then (match blk 0 r with
   | .bad r' => .bad r'
   | .ok l r' => if r'.length <= r.length then thr (acc ++ [l]) r' else .bad r')
  else .bad (t :: r)) := by rw [thr.eq_def] <;> rfl
theorem fitT (x : List T) (acc : List T) (ha : acc.length <= 6001) {R : Type} (q : Option R) : must true ((Nat.beq 1 1 || Nat.beq 1 0) && (decide (List.length acc + List.length [T.list x] <= 1073741824) && sized 1 [T.list x])) q = q := by
 rw [List.length_singleton, decide_eq_true (show acc.length + 1 <= 1073741824 by omega)]
 rfl
theorem sized_addT {es : List T} {x : List T} (h : sized 1 es = true) : sized 1 (es ++ [T.list x]) = true := by
 unfold sized at *
 rw [List.all_append, h]
 rfl
theorem thr_inner (hP : TkP TS) (hn : 100000 < n) (x y z : List T) {k : Nat} {acc : List (List St)} {t : Tok} {r : List Tok} (hk : r.length + 1 < k + 1) (ha : acc.length + (r.length + 1) <= 6001) (hs : Suf TS (t :: r)) (he : Ended (t :: r))
  (ih : ∀ (acc : List (List St)) (r : List Tok), r.length < k -> acc.length + r.length <= 6001 -> Suf TS r -> Ended r -> ResT s TS x y z (l___parse_reader__prog_2 n k (TS.map (encL s), ix TS r, false, x, y, z, acc.map (encT (P s)))) (thr acc r)) :
  ResT s TS x y z (bif ((((List.length (acc.map (encT (P s))) : Nat) : Int) : Int) == 4) then (
Option.bind (m___parse_reader__fail n (TS.map (encL s)) (ix TS (t :: r)) false) fun r2 =>
Option.bind (m___parse_reader__must n (⟨#[103, 111]⟩ : ByteArray) r2.1 r2.2.1 r2.2.2) fun r3 =>
Option.bind (m___parse_reader__block n 0 r3.1 r3.2.1 r3.2.2) fun r4 =>
must true ((Nat.beq 1 1 || Nat.beq 1 0) && (decide (List.length (acc.map (encT (P s))) + List.length [(T.list r4.1)] <= 1073741824) && sized 1 [(T.list r4.1)])) (l___parse_reader__prog_2 n k (r4.2.1, r4.2.2.1, r4.2.2.2, x, y, z, ((acc.map (encT (P s))) ++ [(T.list r4.1)]))))
else (
Option.bind (m___parse_reader__must n (⟨#[103, 111]⟩ : ByteArray) (TS.map (encL s)) (ix TS (t :: r)) false) fun r5 =>
Option.bind (m___parse_reader__block n 0 r5.1 r5.2.1 r5.2.2) fun r6 =>
must true ((Nat.beq 1 1 || Nat.beq 1 0) && (decide (List.length (acc.map (encT (P s))) + List.length [(T.list r6.1)] <= 1073741824) && sized 1 [(T.list r6.1)])) (l___parse_reader__prog_2 n k (r6.2.1, r6.2.2.1, r6.2.2.2, x, y, z, ((acc.map (encT (P s))) ++ [(T.list r6.1)])))))
  (if acc.length = 4 then .bad (t :: r)
  else if isWord wGo t.bare then (match blk 0 r with
   | .bad r' => .bad r'
   | .ok l r' => if r'.length <= r.length then thr (acc ++ [l]) r' else .bad r')
  else .bad (t :: r)) := by
 have hT := hP.tks
 have hb := pk_ok (s := s) hP hn n
 have hlen := hs.len
 have hlen2 := hT.len
 simp only [List.length_cons] at hlen
 have hl : (acc.map (encT (P s))).length = acc.length := List.length_map _
 have ha' : (acc.map (encT (P s))).length <= 6001 := by rw [hl]; omega
 obtain ⟨j, rfl⟩ : ∃ j, k = j + 1 := ⟨k - 1, by omega⟩
 have blkB : m___parse_reader__block n 0 (TS.map (encL s)) (ix TS (t :: r)) true = some ([], TS.map (encL s), ix TS (t :: r), true) := hb.bad 0 t r hs (by omega)
 by_cases h4 : acc.length = 4
 ·rw [hl, show ((((acc.length : Nat) : Int) : Int) == 4) = true by rw [h4]; rfl, cond_true, if_pos h4]
  simp only [m___parse_reader__fail, Option.bind_some]
  rw [must_bad hs, Option.bind_some]
  simp only
  rw [blkB, Option.bind_some]
  simp only
  rw [<- hl, fitT _ _ ha', thr_bad]
  exact ⟨⟨_, sized_addT (sized_T (P s) acc), rfl⟩, hs, he⟩
 rw [hl, show ((((acc.length : Nat) : Int) : Int) == 4) = false by rw [beq_eq_false_iff_ne]; omega, cond_false, if_neg h4]
 rw [mustW hP hs _ (by decide), lits.2.2.2.2.2.2.2.2.2.2, Option.bind_some]
 by_cases hg : isWord wGo t.bare = true
 ·rw [if_pos hg, if_pos hg]
  simp only
  have her := he.cons (by rw [isWord_kind hg]; decide)
  have hB := hb.blk 0 r (by omega) hs.cons her (by omega)
  have hB' : ResB s TS (m___parse_reader__block n 0 (TS.map (encL s)) (ix TS r) false) r.length (blk 0 r) := hB
  cases hbl : blk 0 r with
  | bad r3 =>
   rw [hbl] at hB'
   obtain ⟨⟨l, hq⟩, k3, k4⟩ := hB'
   obtain ⟨t3, r3, rfl⟩ := k4.ne
   rw [hq, Option.bind_some]
   simp only
   rw [<- hl, fitT _ _ ha', thr_bad]
   exact ⟨⟨_, sized_addT (sized_T (P s) acc), rfl⟩, k3, k4⟩
  | ok l r3 =>
   rw [hbl] at hB'
   obtain ⟨hq, k3, k4, hlt⟩ := hB'
   rw [hq, Option.bind_some]
   simp only
   rw [if_pos (by omega), <- hl, fitT _ _ ha']
   have := ih (acc ++ [l]) r3 (by omega) (by simp only [List.length_append, List.length_singleton]; omega) k3 k4
   rw [List.map_append] at this
   exact this
 ·rw [if_neg hg, if_neg hg]
  simp only
  rw [blkB, Option.bind_some]
  simp only
  rw [<- hl, fitT _ _ ha', thr_bad]
  exact ⟨⟨_, sized_addT (sized_T (P s) acc), rfl⟩, hs, he⟩
theorem thr_loop (hP : TkP TS) (hn : 100000 < n) (x y z : List T) : ∀ (k : Nat) (acc : List (List St)) (r : List Tok), r.length < k -> acc.length + r.length <= 6001 -> Suf TS r -> Ended r →
  ResT s TS x y z (l___parse_reader__prog_2 n k (TS.map (encL s), ix TS r, false, x, y, z, acc.map (encT (P s)))) (thr acc r) := by
 intro k
 induction k with
 | zero => intro acc r h; omega
 | succ k ih =>
  intro acc r hk ha hs he
  obtain ⟨t, r, rfl⟩ := he.ne
  simp only [List.length_cons] at hk ha
  have hl : (acc.map (encT (P s))).length = acc.length := List.length_map _
  show ResT s TS x y z (l___parse_reader__prog_2_B n (l___parse_reader__prog_2 n k) (TS.map (encL s), ix TS (t :: r), false, x, y, z, acc.map (encT (P s)))) _
  unfold l___parse_reader__prog_2_B
  simp only [Bool.not_false, Bool.true_and, cond_true]
  rw [thr_eq]
  have e0 : ((encL s t).cell 0).int = t.kind := rfl
  have hin := thr_inner (s := s) hP hn x y z hk ha hs he ih
  by_cases hz : acc = []
  ·rw [if_neg (fun h => h.1 hz)]
   rw [show ((((List.length (acc.map (encT (P s))) : Nat) : Int) : Int) == 0) = true by rw [hz]; rfl]
   simp only [Bool.not_true, idx_false, Option.bind_some, cond_true]
   exact hin
  ·have hzl : acc.length ≠ 0 := fun h => hz (List.eq_nil_of_length_eq_zero h)
   rw [show ((((List.length (acc.map (encT (P s))) : Nat) : Int) : Int) == 0) = false by rw [hl, beq_eq_false_iff_ne]; omega]
   simp only [Bool.not_false]
   rw [tok_at hs, Option.bind_some, cond_false, e0]
   by_cases h4 : t.kind = 4
   ·rw [if_pos ⟨hz, h4⟩, show (t.kind != 4) = false by rw [h4]; rfl, cond_false]
    exact ⟨rfl, hs, he⟩
   ·rw [if_neg (fun h => h4 h.2), show (t.kind != 4) = true by simp [bne, h4], cond_true]
    exact hin
theorem prog_eq (hP : TkP TS) (hn : 100000 < n) (he : Ended TS) : (∃ d l r, prg TS = .ok d l /\ m___parse_reader__prog n (TS.map (encL s)) 0 false = some (d.map (encD (P s)), l.map (encT (P s)), TS.map (encL s), ix TS r, false)) ∨
  (∃ t r a b, prg TS = .bad (t :: r) /\ Suf TS (t :: r) /\ m___parse_reader__prog n (TS.map (encL s)) 0 false = some (a, b, TS.map (encL s), ix TS (t :: r), true)) := by
 have hlen2 := hP.tks.len
 obtain ⟨j, hj⟩ : ∃ j, n = j + 1 := ⟨n - 1, by omega⟩
 have hD := dcl_loop (s := s) hP hn n [] TS (by omega) (by simp only [List.length_nil]; omega) (Suf.refl _) he
 rw [ix_all] at hD
 unfold m___parse_reader__prog m___parse_reader__decls prg
 cases hd : dcl [] TS with
 | bad r =>
  rw [hd] at hD
  obtain ⟨⟨l, hz, hq⟩, k3, k4⟩ := hD
  obtain ⟨t, r, rfl⟩ := k4.ne
  right
  rw [show l___parse_reader__decls_2 n n ([], TS.map (encL s), 0, false) = _ from hq, Option.bind_some, clip_D hz, Option.bind_some, Option.bind_some]
  simp only
  rw [show l___parse_reader__prog_2 n n = l___parse_reader__prog_2 n (j + 1) by rw [<- hj], thr_bad, Option.bind_some]
  simp only
  rw [clip_T rfl, Option.bind_some]
  exact ⟨t, r, _, _, rfl, k3, rfl⟩
 | ok d r =>
  rw [hd] at hD
  obtain ⟨hq, k3, k4⟩ := hD
  have hlen := k3.len
  rw [show l___parse_reader__decls_2 n n ([], TS.map (encL s), 0, false) = _ from hq, Option.bind_some, clip_D (sized_D (P s) d), Option.bind_some, Option.bind_some]
  simp only
  have hT := thr_loop (s := s) hP hn [] [] (d.map (encD (P s))) n [] r (by omega) (by simp only [List.length_nil]; omega) k3 k4
  cases ht : thr [] r with
  | bad r2 =>
   rw [ht] at hT
   obtain ⟨⟨l, hz, hq2⟩, k5, k6⟩ := hT
   obtain ⟨t, r2, rfl⟩ := k6.ne
   right
   rw [show l___parse_reader__prog_2 n n (TS.map (encL s), ix TS r, false, [], [], d.map (encD (P s)), []) = _ from hq2, Option.bind_some]
   simp only
   rw [clip_T hz, Option.bind_some]
   exact ⟨t, r2, _, _, rfl, k5, rfl⟩
  | ok l r2 =>
   rw [ht] at hT
   obtain ⟨hq2, k5, k6⟩ := hT
   left
   rw [show l___parse_reader__prog_2 n n (TS.map (encL s), ix TS r, false, [], [], d.map (encD (P s)), []) = _ from hq2, Option.bind_some]
   simp only
   rw [clip_T (sized_T (P s) l), Option.bind_some]
   exact ⟨d, l, r2, rfl, rfl⟩
end
theorem lexR_mem {Q : Tok -> Prop} (hQ : ∀ r p t, tokAt r p = some t -> Q t) : ∀ (k : Nat) (r : List UInt8) (p : Nat) (acc l : List Tok), r.length <= k -> (∀ t ∈ acc, Q t) -> lexR r p acc = .ok l -> ∀ t ∈ l, Q t := by
 intro k
 induction k with
 | zero =>
  intro r p acc l hr ha h
  obtain rfl := List.eq_nil_of_length_eq_zero (Nat.le_zero.1 hr)
  rw [lexR_nil] at h
  simp only [LR.ok.injEq] at h
  subst h
  exact ha
 | succ k ih =>
  intro r p acc l hr ha h
  cases r with
  | nil =>
   rw [lexR_nil] at h
   simp only [LR.ok.injEq] at h
   subst h
   exact ha
  | cons c r =>
   simp only [List.length_cons] at hr
   cases hb : W.blank c with
   | true => rw [lexR_blank hb] at h; exact ih r _ acc l (by omega) ha h
   | false =>
    by_cases h35 : c = 35
    ·subst h35
     rw [lexR_note] at h
     exact ih _ _ acc l (by have := dropWhile_le (· != 10) r; omega) ha h
    ·cases ht : tokAt (c :: r) p with
     | none => rw [lexR_bad hb h35 ht] at h; cases h
     | some t =>
      rw [lexR_tok hb h35 ht] at h
      refine ih _ _ (acc ++ [t]) l (by simp only [List.length_drop]; omega) ?_ h
      intro x hx
      rcases List.mem_append.1 hx with hx | hx
      ·exact ha x hx
      ·simp only [List.mem_singleton] at hx; subst hx; exact hQ _ _ _ ht
theorem tokAt_sign {r : List UInt8} {p : Nat} {t : Tok} (h : tokAt r p = some t) : t.kind = 3 -> wordB t.text = false := by
 unfold tokAt at h
 cases r with
 | nil => cases h
 | cons c r' =>
  simp only at h
  split at h
  ·split at h
   ·simp only [Option.some.injEq] at h; subst h; intro h; simp at h
   ·cases h
  ·split at h
   ·split at h
    ·simp only [Option.some.injEq] at h; subst h; intro h; simp at h
    ·cases h
   ·split at h
    ·rename_i hs
     have hf := sign_facts c (by simpa using hs)
     split at h <;> (simp only [Option.some.injEq] at h; subst h; intro _)
     ·rfl
     ·simp [wordB, hf.2.2.1]
    ·cases h
theorem tkp_of {u : List UInt8} (hu : u.length <= 6000) {l : List Tok} (hl : lexR u 0 [] = .ok l) : TkP (l ++ [endT u]) := by
 refine ⟨tks_of hu hl, fun t ht h3 => ?_⟩
 rcases List.mem_append.1 ht with ht | ht
 ·exact lexR_mem (Q := fun t => t.kind = 3 -> wordB t.text = false) (fun r p t h => tokAt_sign h) u.length u 0 [] l (Nat.le_refl _) (by simp) hl t ht h3
 ·simp only [List.mem_singleton] at ht; subst ht; cases h3
theorem read_ok {n : Nat} (hn : 100000 < n) {u : List UInt8} (hu : u.length <= 6000) {l : List Tok} (hl : lexR u 0 [] = .ok l) {d : List Dc} {th : List (List St)} (h : prg (l ++ [endT u]) = .ok d th) :
  m_parse_Read n (B u) = some (d.map (encD (P (B u))), th.map (encT (P (B u))), (0, 0), 0) := by
 have hP := tkp_of hu hl
 unfold m_parse_Read
 rw [toks_ok hn hu hl, Option.bind_some, show ((((0 : Int)) : Int) != 0) = false from rfl, cond_false]
 rcases prog_eq (s := B u) hP hn hP.tks.ended with ⟨d', l', r, h1, h2⟩ | ⟨t, r, a, b, h1, _, _⟩
 ·rw [h2, Option.bind_some, cond_false]
  rw [h] at h1
  cases h1
  rfl
 ·rw [h] at h1; cases h1
theorem read_no {n : Nat} (hn : 100000 < n) {u : List UInt8} (hu : u.length <= 6000) {l : List Tok} (hl : lexR u 0 [] = .ok l) {t : Tok} {r : List Tok} (h : prg (l ++ [endT u]) = .bad (t :: r)) :
  m_parse_Read n (B u) = some ([], [], P (B u) t.pos, 2) := by
 have hP := tkp_of hu hl
 unfold m_parse_Read
 rw [toks_ok hn hu hl, Option.bind_some, show ((((0 : Int)) : Int) != 0) = false from rfl, cond_false]
 rcases prog_eq (s := B u) hP hn hP.tks.ended with ⟨d', l', r', h1, h2⟩ | ⟨t', r', a, b, h1, hsf, h2⟩
 ·rw [h] at h1; cases h1
 ·rw [h2, Option.bind_some]
  simp only
  rw [cond_true, tok_at hsf, Option.bind_some]
  rw [h] at h1
  cases h1
  rfl
end Go.Proofs.YtbcgpjlkkcdmmaaDoor.W
namespace Go.Proofs.YtbcgpjlkkcdmmaaDoor.W
open Go Go.Eng Go.Eng.Fl Go.RowKit
set_option linter.unusedVariables false
set_option linter.unusedSimpArgs false
set_option linter.unusedSectionVars false
set_option maxRecDepth 100000
abbrev RdT := (List T) × (List T) × (Nat × Nat) × Int
def rdV (s : ByteArray) : RdT := match lexR (L s) 0 [] with
 | .bad q => ([], [], P s q, 2)
 | .ok l => match prg (l ++ [endT (L s)]) with
  | .ok d th => (d.map (encD (P s)), th.map (encT (P s)), (0, 0), 0)
  | .bad (t :: r) => ([], [], P s t.pos, 2)
  | .bad [] => ([], [], (0, 0), 0)
theorem read_V {n : Nat} (hn : 100000 < n) {s : ByteArray} (hs : s.size <= 6000) : m_parse_Read n s = some (rdV s) := by
 have hs' : (L s).length <= 6000 := by rw [<- size_L]; exact hs
 unfold rdV
 cases hl : lexR (L s) 0 [] with
 | bad q =>
  unfold m_parse_Read
  rw [tokens_eq (by omega) (by omega)]
  unfold toksL
  rw [if_neg (by omega), hl]
  rfl
 | ok l =>
  have hP := tkp_of hs' hl
  rcases prog_eq (s := B (L s)) (n := n) hP hn hP.tks.ended with ⟨d', l', r', h1, h2⟩ | ⟨t, r', a, b, h1, _, _⟩
  ·have h := read_ok hn hs' hl h1
   rw [B_L] at h
   rw [h]
   simp only [h1]
  ·have h := read_no hn hs' hl h1
   rw [B_L] at h
   rw [h]
   simp only [h1]
def rdR (n : Nat) (s : ByteArray) : Option RdT := if s.size <= 6000 then some (rdV s) else m_parse_Read n s
theorem read_fun {n : Nat} (hn : 100000 < n) : m_parse_Read n = rdR n := by
 funext s
 unfold rdR
 split
 ·rename_i h; exact read_V hn h
 ·rfl
def q8B (R : ByteArray -> Option RdT) (n : Nat) (k : (List T) × ByteArray × ByteArray × ByteArray × ByteArray × ByteArray × ByteArray × ByteArray × ByteArray × ByteArray × ByteArray × ByteArray × ByteArray × ByteArray × ByteArray × ByteArray × ByteArray × ByteArray × ByteArray × Int × (List T) × (List T) × ByteArray × ByteArray × ByteArray × ByteArray × ByteArray × ByteArray × ByteArray × ByteArray × ByteArray × ByteArray × ByteArray × ByteArray × ByteArray × ByteArray × ByteArray × ByteArray × ByteArray × ByteArray × Int × Int × Int × Int × Int × Int × Int × Int × Int × Int × Int × Int × Int × Int × Int × Int × Int × Int -> Option (((Bool × (List T) × (List T) × ByteArray × ByteArray × ByteArray × ByteArray × ByteArray × ByteArray × ByteArray × ByteArray × ByteArray × ByteArray × ByteArray × ByteArray × ByteArray × ByteArray × ByteArray × ByteArray × ByteArray × ByteArray × Int × Int × Int × Int × Int × Int × Int × Int × Int × Int × Int × Int × Int × Int × Int × Int × Int × Int) ⊕ (List T) × (List T) × (List T) × ByteArray × ByteArray × ByteArray × ByteArray × ByteArray × ByteArray × ByteArray × ByteArray × ByteArray × ByteArray × ByteArray × ByteArray × ByteArray × ByteArray × ByteArray × ByteArray × ByteArray × ByteArray × Int × Int × Int × Int × Int × Int × Int × Int × Int × Int × Int × Int × Int × Int × Int × Int × Int × Int))) : (List T) × ByteArray × ByteArray × ByteArray × ByteArray × ByteArray × ByteArray × ByteArray × ByteArray × ByteArray × ByteArray × ByteArray × ByteArray × ByteArray × ByteArray × ByteArray × ByteArray × ByteArray × ByteArray × Int × (List T) × (List T) × ByteArray × ByteArray × ByteArray × ByteArray × ByteArray × ByteArray × ByteArray × ByteArray × ByteArray × ByteArray × ByteArray × ByteArray × ByteArray × ByteArray × ByteArray × ByteArray × ByteArray × ByteArray × Int × Int × Int × Int × Int × Int × Int × Int × Int × Int × Int × Int × Int × Int × Int × Int × Int × Int -> Option (((Bool × (List T) × (List T) × ByteArray × ByteArray × ByteArray × ByteArray × ByteArray × ByteArray × ByteArray × ByteArray × ByteArray × ByteArray × ByteArray × ByteArray × ByteArray × ByteArray × ByteArray × ByteArray × ByteArray × ByteArray × Int × Int × Int × Int × Int × Int × Int × Int × Int × Int × Int × Int × Int × Int × Int × Int × Int × Int) ⊕ (List T) × (List T) × (List T) × ByteArray × ByteArray × ByteArray × ByteArray × ByteArray × ByteArray × ByteArray × ByteArray × ByteArray × ByteArray × ByteArray × ByteArray × ByteArray × ByteArray × ByteArray × ByteArray × ByteArray × ByteArray × Int × Int × Int × Int × Int × Int × Int × Int × Int × Int × Int × Int × Int × Int × Int × Int × Int × Int)) := fun (s0, s1, s2, s3, s4, s5, s6, s7, s8, s9, s10, s11, s12, s13, s14, s15, s16, s17, s18, s19, s20, s21, s22, s23, s24, s25, s26, s27, s28, s29, s30, s31, s32, s33, s34, s35, s36, s37, s38, s39, s40, s41, s42, s43, s44, s45, s46, s47, s48, s49, s50, s51, s52, s53, s54, s55, s56, s57) =>
bif (decide ((s19 : Int) < 18)) then (
Option.bind (idx1 true (.str) [(T.sc (.string s1)), (T.sc (.string s2)), (T.sc (.string s3)), (T.sc (.string s4)), (T.sc (.string s5)), (T.sc (.string s6)), (T.sc (.string s7)), (T.sc (.string s8)), (T.sc (.string s9)), (T.sc (.string s10)), (T.sc (.string s11)), (T.sc (.string s12)), (T.sc (.string s13)), (T.sc (.string s14)), (T.sc (.string s15)), (T.sc (.string s16)), (T.sc (.string s17)), (T.sc (.string s18))] s19) fun y5 =>
Option.bind (R y5.str) fun r6 =>
must (!((r6.2.2.2 : Int) != 2)) (decide (0 <= s19) && decide (s19 < ((18 : Nat) : Int))) (Option.bind (idx1 (!((r6.2.2.2 : Int) != 2)) (.int .i64) [(T.sc (.int .i64 s40)), (T.sc (.int .i64 s41)), (T.sc (.int .i64 s42)), (T.sc (.int .i64 s43)), (T.sc (.int .i64 s44)), (T.sc (.int .i64 s45)), (T.sc (.int .i64 s46)), (T.sc (.int .i64 s47)), (T.sc (.int .i64 s48)), (T.sc (.int .i64 s49)), (T.sc (.int .i64 s50)), (T.sc (.int .i64 s51)), (T.sc (.int .i64 s52)), (T.sc (.int .i64 s53)), (T.sc (.int .i64 s54)), (T.sc (.int .i64 s55)), (T.sc (.int .i64 s56)), (T.sc (.int .i64 s57))] s19) fun y7 =>
Option.bind (bif !((r6.2.2.2 : Int) != 2) then m_sutureref1_Place n y5.str y7.int else some (0, 0)) fun r8 =>
bif (bif ((r6.2.2.2 : Int) != 2) then true else (!(cplxEq .f64 r6.2.2.1.1 r6.2.2.1.2 r8.1 r8.2))) then (
some (Sum.inl (false, s20, s21, s22, s23, s24, s25, s26, s27, s28, s29, s30, s31, s32, s33, s34, s35, s36, s37, s38, s39, s40, s41, s42, s43, s44, s45, s46, s47, s48, s49, s50, s51, s52, s53, s54, s55, s56, s57)))
else (
k (s0, s1, s2, s3, s4, s5, s6, s7, s8, s9, s10, s11, s12, s13, s14, s15, s16, s17, s18, (IntKind.wrap .i64 (s19 + 1)), s20, s21, s22, s23, s24, s25, s26, s27, s28, s29, s30, s31, s32, s33, s34, s35, s36, s37, s38, s39, s40, s41, s42, s43, s44, s45, s46, s47, s48, s49, s50, s51, s52, s53, s54, s55, s56, s57))))
else (
some (Sum.inr (s0, s20, s21, s22, s23, s24, s25, s26, s27, s28, s29, s30, s31, s32, s33, s34, s35, s36, s37, s38, s39, s40, s41, s42, s43, s44, s45, s46, s47, s48, s49, s50, s51, s52, s53, s54, s55, s56, s57)))
def q8 (R : ByteArray -> Option RdT) (n : Nat) : Nat -> (List T) × ByteArray × ByteArray × ByteArray × ByteArray × ByteArray × ByteArray × ByteArray × ByteArray × ByteArray × ByteArray × ByteArray × ByteArray × ByteArray × ByteArray × ByteArray × ByteArray × ByteArray × ByteArray × Int × (List T) × (List T) × ByteArray × ByteArray × ByteArray × ByteArray × ByteArray × ByteArray × ByteArray × ByteArray × ByteArray × ByteArray × ByteArray × ByteArray × ByteArray × ByteArray × ByteArray × ByteArray × ByteArray × ByteArray × Int × Int × Int × Int × Int × Int × Int × Int × Int × Int × Int × Int × Int × Int × Int × Int × Int × Int -> Option (((Bool × (List T) × (List T) × ByteArray × ByteArray × ByteArray × ByteArray × ByteArray × ByteArray × ByteArray × ByteArray × ByteArray × ByteArray × ByteArray × ByteArray × ByteArray × ByteArray × ByteArray × ByteArray × ByteArray × ByteArray × Int × Int × Int × Int × Int × Int × Int × Int × Int × Int × Int × Int × Int × Int × Int × Int × Int × Int) ⊕ (List T) × (List T) × (List T) × ByteArray × ByteArray × ByteArray × ByteArray × ByteArray × ByteArray × ByteArray × ByteArray × ByteArray × ByteArray × ByteArray × ByteArray × ByteArray × ByteArray × ByteArray × ByteArray × ByteArray × ByteArray × Int × Int × Int × Int × Int × Int × Int × Int × Int × Int × Int × Int × Int × Int × Int × Int × Int × Int))
 | 0, _ => none
 | m + 1, s => q8B R n (q8 R n m) s
def qK (R : ByteArray -> Option RdT) (n : Nat) : Option (Bool) :=
Option.bind (R (⟨#[99, 104, 97, 110, 32, 99, 32, 51, 10, 108, 111, 99, 97, 108, 32, 116, 32, 35, 32, 104, 101, 114, 101, 10, 103, 111, 32, 123, 32, 108, 111, 99, 107, 32, 109, 32, 117, 110, 108, 111, 99, 107, 32, 109, 32, 115, 101, 110, 100, 32, 99, 32, 49, 32, 43, 32, 116, 32, 114, 101, 99, 118, 32, 99, 32, 116, 32, 112, 114, 105, 110, 116, 32, 45, 116, 32, 105, 102, 32, 116, 32, 123, 32, 125, 32, 101, 108, 115, 101, 32, 123, 32, 103, 111, 116, 111, 32, 97, 32, 125, 32, 114, 101, 112, 101, 97, 116, 32, 57, 32, 123, 32, 108, 97, 98, 101, 108, 32, 97, 32, 125, 32, 125, 10, 103, 111, 32, 123, 32, 105, 102, 32, 116, 32, 123, 32, 120, 32, 61, 32, 49, 32, 125, 32, 101, 108, 115, 101, 32, 123, 32, 125, 32, 125]⟩ : ByteArray)) fun r0 =>
Option.bind (m_suturelaw5_known n) fun r1 =>
Option.bind (idx (!(bif (bif (bif (!r1) then true else ((r0.2.2.2 : Int) != 0)) then true else ((((List.length r0.1 : Nat) : Int) : Int) != 2)) then true else ((((List.length r0.2.1 : Nat) : Int) : Int) != 2))) [.list] r0.2.1 0) fun y2 =>
Option.bind (idx (!(bif (bif (bif (bif (!r1) then true else ((r0.2.2.2 : Int) != 0)) then true else ((((List.length r0.1 : Nat) : Int) : Int) != 2)) then true else ((((List.length r0.2.1 : Nat) : Int) : Int) != 2)) then true else ((((List.length (y2.cell 0).lst : Nat) : Int) : Int) != 7))) [.list] r0.2.1 1) fun y3 =>
bif (bif (bif (bif (bif (bif (!r1) then true else ((r0.2.2.2 : Int) != 0)) then true else ((((List.length r0.1 : Nat) : Int) : Int) != 2)) then true else ((((List.length r0.2.1 : Nat) : Int) : Int) != 2)) then true else ((((List.length (y2.cell 0).lst : Nat) : Int) : Int) != 7)) then true else ((((List.length (y3.cell 0).lst : Nat) : Int) : Int) != 1)) then (
some false)
else (
Option.bind (idx true [.list] r0.2.1 0) fun y4 =>
Option.bind (q8 R n n ((y4.cell 0).lst, (⟨#[]⟩ : ByteArray), (⟨#[118, 97, 114]⟩ : ByteArray), (⟨#[118, 97, 114, 32, 103, 111]⟩ : ByteArray), (⟨#[99, 104, 97, 110, 32, 99]⟩ : ByteArray), (⟨#[99, 104, 97, 110, 32, 99, 32, 52, 32, 103, 111, 123, 125]⟩ : ByteArray), (⟨#[103, 111]⟩ : ByteArray), (⟨#[103, 111, 123]⟩ : ByteArray), (⟨#[103, 111, 123, 125, 125]⟩ : ByteArray), (⟨#[103, 111, 123, 125, 118, 97, 114, 32, 120]⟩ : ByteArray), (⟨#[103, 111, 123, 101, 108, 115, 101, 123, 125, 125]⟩ : ByteArray), (⟨#[103, 111, 123, 120, 32, 49, 125]⟩ : ByteArray), (⟨#[103, 111, 123, 120, 61, 125]⟩ : ByteArray), (⟨#[103, 111, 123, 114, 101, 112, 101, 97, 116, 32, 49, 48, 32, 123, 125, 125]⟩ : ByteArray), (⟨#[103, 111, 123, 115, 101, 110, 100, 32, 49, 125]⟩ : ByteArray), (⟨#[103, 111, 123, 105, 102, 123, 125, 125]⟩ : ByteArray), (⟨#[103, 111, 123, 125, 103, 111, 123, 125, 103, 111, 123, 125, 103, 111, 123, 125, 103, 111, 123, 125]⟩ : ByteArray), (⟨#[103, 111, 123, 114, 101, 112, 101, 97, 116, 32, 49, 123, 114, 101, 112, 101, 97, 116, 32, 49, 123, 114, 101, 112, 101, 97, 116, 32, 49, 123, 114, 101, 112, 101, 97, 116, 32, 49, 123, 114, 101, 112, 101, 97, 116, 32, 49, 123, 114, 101, 112, 101, 97, 116, 32, 49, 123, 114, 101, 112, 101, 97, 116, 32, 49, 123, 114, 101, 112, 101, 97, 116, 32, 49, 123, 125, 125, 125, 125, 125, 125, 125, 125, 125]⟩ : ByteArray), (⟨#[103, 111, 123, 126, 125]⟩ : ByteArray), 0, r0.1, r0.2.1, (⟨#[]⟩ : ByteArray), (⟨#[118, 97, 114]⟩ : ByteArray), (⟨#[118, 97, 114, 32, 103, 111]⟩ : ByteArray), (⟨#[99, 104, 97, 110, 32, 99]⟩ : ByteArray), (⟨#[99, 104, 97, 110, 32, 99, 32, 52, 32, 103, 111, 123, 125]⟩ : ByteArray), (⟨#[103, 111]⟩ : ByteArray), (⟨#[103, 111, 123]⟩ : ByteArray), (⟨#[103, 111, 123, 125, 125]⟩ : ByteArray), (⟨#[103, 111, 123, 125, 118, 97, 114, 32, 120]⟩ : ByteArray), (⟨#[103, 111, 123, 101, 108, 115, 101, 123, 125, 125]⟩ : ByteArray), (⟨#[103, 111, 123, 120, 32, 49, 125]⟩ : ByteArray), (⟨#[103, 111, 123, 120, 61, 125]⟩ : ByteArray), (⟨#[103, 111, 123, 114, 101, 112, 101, 97, 116, 32, 49, 48, 32, 123, 125, 125]⟩ : ByteArray), (⟨#[103, 111, 123, 115, 101, 110, 100, 32, 49, 125]⟩ : ByteArray), (⟨#[103, 111, 123, 105, 102, 123, 125, 125]⟩ : ByteArray), (⟨#[103, 111, 123, 125, 103, 111, 123, 125, 103, 111, 123, 125, 103, 111, 123, 125, 103, 111, 123, 125]⟩ : ByteArray), (⟨#[103, 111, 123, 114, 101, 112, 101, 97, 116, 32, 49, 123, 114, 101, 112, 101, 97, 116, 32, 49, 123, 114, 101, 112, 101, 97, 116, 32, 49, 123, 114, 101, 112, 101, 97, 116, 32, 49, 123, 114, 101, 112, 101, 97, 116, 32, 49, 123, 114, 101, 112, 101, 97, 116, 32, 49, 123, 114, 101, 112, 101, 97, 116, 32, 49, 123, 114, 101, 112, 101, 97, 116, 32, 49, 123, 125, 125, 125, 125, 125, 125, 125, 125, 125]⟩ : ByteArray), (⟨#[103, 111, 123, 126, 125]⟩ : ByteArray), 0, 3, 4, 6, 7, 2, 3, 4, 4, 3, 5, 5, 10, 8, 5, 16, 74, 3)) fun x9 =>
Sum.elim (fun p10 =>
some p10.1) (fun x9' => (fun p11 =>
Option.bind (l_suturelaw5_ParseKnown_16 n n (p11.1, (⟨#[]⟩ : ByteArray), 0, p11.2.1, p11.2.2.1, p11.2.2.2.1, p11.2.2.2.2.1, p11.2.2.2.2.2.1, p11.2.2.2.2.2.2.1, p11.2.2.2.2.2.2.2.1, p11.2.2.2.2.2.2.2.2.1, p11.2.2.2.2.2.2.2.2.2.1, p11.2.2.2.2.2.2.2.2.2.2.1, p11.2.2.2.2.2.2.2.2.2.2.2.1, p11.2.2.2.2.2.2.2.2.2.2.2.2.1, p11.2.2.2.2.2.2.2.2.2.2.2.2.2.1, p11.2.2.2.2.2.2.2.2.2.2.2.2.2.2.1, p11.2.2.2.2.2.2.2.2.2.2.2.2.2.2.2.1, p11.2.2.2.2.2.2.2.2.2.2.2.2.2.2.2.2.1, p11.2.2.2.2.2.2.2.2.2.2.2.2.2.2.2.2.2.1, p11.2.2.2.2.2.2.2.2.2.2.2.2.2.2.2.2.2.2.1, p11.2.2.2.2.2.2.2.2.2.2.2.2.2.2.2.2.2.2.2.1, p11.2.2.2.2.2.2.2.2.2.2.2.2.2.2.2.2.2.2.2.2.1, p11.2.2.2.2.2.2.2.2.2.2.2.2.2.2.2.2.2.2.2.2.2.1, p11.2.2.2.2.2.2.2.2.2.2.2.2.2.2.2.2.2.2.2.2.2.2.1, p11.2.2.2.2.2.2.2.2.2.2.2.2.2.2.2.2.2.2.2.2.2.2.2.1, p11.2.2.2.2.2.2.2.2.2.2.2.2.2.2.2.2.2.2.2.2.2.2.2.2.1, p11.2.2.2.2.2.2.2.2.2.2.2.2.2.2.2.2.2.2.2.2.2.2.2.2.2.1, p11.2.2.2.2.2.2.2.2.2.2.2.2.2.2.2.2.2.2.2.2.2.2.2.2.2.2.1, p11.2.2.2.2.2.2.2.2.2.2.2.2.2.2.2.2.2.2.2.2.2.2.2.2.2.2.2.1, p11.2.2.2.2.2.2.2.2.2.2.2.2.2.2.2.2.2.2.2.2.2.2.2.2.2.2.2.2.1, p11.2.2.2.2.2.2.2.2.2.2.2.2.2.2.2.2.2.2.2.2.2.2.2.2.2.2.2.2.2.1, p11.2.2.2.2.2.2.2.2.2.2.2.2.2.2.2.2.2.2.2.2.2.2.2.2.2.2.2.2.2.2.1, p11.2.2.2.2.2.2.2.2.2.2.2.2.2.2.2.2.2.2.2.2.2.2.2.2.2.2.2.2.2.2.2.1, p11.2.2.2.2.2.2.2.2.2.2.2.2.2.2.2.2.2.2.2.2.2.2.2.2.2.2.2.2.2.2.2.2.1, p11.2.2.2.2.2.2.2.2.2.2.2.2.2.2.2.2.2.2.2.2.2.2.2.2.2.2.2.2.2.2.2.2.2.1, p11.2.2.2.2.2.2.2.2.2.2.2.2.2.2.2.2.2.2.2.2.2.2.2.2.2.2.2.2.2.2.2.2.2.2.1, p11.2.2.2.2.2.2.2.2.2.2.2.2.2.2.2.2.2.2.2.2.2.2.2.2.2.2.2.2.2.2.2.2.2.2.2.1, p11.2.2.2.2.2.2.2.2.2.2.2.2.2.2.2.2.2.2.2.2.2.2.2.2.2.2.2.2.2.2.2.2.2.2.2.2.1, p11.2.2.2.2.2.2.2.2.2.2.2.2.2.2.2.2.2.2.2.2.2.2.2.2.2.2.2.2.2.2.2.2.2.2.2.2.2.1, p11.2.2.2.2.2.2.2.2.2.2.2.2.2.2.2.2.2.2.2.2.2.2.2.2.2.2.2.2.2.2.2.2.2.2.2.2.2.2)) fun p13 =>
must true (decide (((ByteArray.size p13.2.1 + ByteArray.size (⟨#[103, 111, 123, 125]⟩ : ByteArray) : Nat) : Int) <= IntKind.i64.max)) (Option.bind (R (p13.2.1 ++ (⟨#[103, 111, 123, 125]⟩ : ByteArray))) fun r14 =>
must true (decide (((ByteArray.size p13.2.1 + ByteArray.size (⟨#[118, 97, 114, 32, 121, 32, 103, 111, 123, 125]⟩ : ByteArray) : Nat) : Int) <= IntKind.i64.max)) (Option.bind (R (p13.2.1 ++ (⟨#[118, 97, 114, 32, 121, 32, 103, 111, 123, 125]⟩ : ByteArray))) fun r15 =>
Option.bind (R (⟨#[103, 111, 123, 114, 101, 112, 101, 97, 116, 32, 48, 123, 114, 101, 112, 101, 97, 116, 32, 49, 123, 114, 101, 112, 101, 97, 116, 32, 49, 123, 114, 101, 112, 101, 97, 116, 32, 49, 123, 114, 101, 112, 101, 97, 116, 32, 49, 123, 114, 101, 112, 101, 97, 116, 32, 49, 123, 114, 101, 112, 101, 97, 116, 32, 49, 123, 125, 125, 125, 125, 125, 125, 125, 125]⟩ : ByteArray)) fun r16 =>
Option.bind (idx true [.int .i64, .str, .int .i64, .cplx .f64] p13.2.2.1 0) fun y17 =>
Option.bind (idx ((((y17.cell 2).int : Int) == 3)) [.int .i64, .str, .int .i64, .cplx .f64] p13.2.2.1 1) fun y18 =>
Option.bind (idx ((bif (((y17.cell 2).int : Int) == 3) then (cplxEq .f64 (y18.cell 3).re (y18.cell 3).im 4611686018427387904 4607182418800017408) else false)) [.int .i64, .str, .str, .int .i64, .int .i64, .int .i64, .str, .list, .list, .list, .cplx .f64] p13.1 0) fun y19 =>
Option.bind (idx ((bif (bif (((y17.cell 2).int : Int) == 3) then (cplxEq .f64 (y18.cell 3).re (y18.cell 3).im 4611686018427387904 4607182418800017408) else false) then (((y19.cell 0).int : Int) == 2) else false)) [.int .i64, .str, .str, .int .i64, .int .i64, .int .i64, .str, .list, .list, .list, .cplx .f64] p13.1 1) fun y20 =>
Option.bind (idx ((bif (bif (bif (((y17.cell 2).int : Int) == 3) then (cplxEq .f64 (y18.cell 3).re (y18.cell 3).im 4611686018427387904 4607182418800017408) else false) then (((y19.cell 0).int : Int) == 2) else false) then (((y20.cell 0).int : Int) == 3) else false)) [.int .i64, .str, .str, .int .i64, .int .i64, .int .i64, .str, .list, .list, .list, .cplx .f64] p13.1 2) fun y21 =>
Option.bind (idx ((bif (bif (bif (bif (((y17.cell 2).int : Int) == 3) then (cplxEq .f64 (y18.cell 3).re (y18.cell 3).im 4611686018427387904 4607182418800017408) else false) then (((y19.cell 0).int : Int) == 2) else false) then (((y20.cell 0).int : Int) == 3) else false) then (((y21.cell 0).int : Int) == 4) else false)) [.int .i64, .str, .str, .int .i64, .int .i64, .int .i64, .str, .list, .list, .list, .cplx .f64] p13.1 2) fun y22 =>
Option.bind (idx ((bif (bif (bif (bif (bif (((y17.cell 2).int : Int) == 3) then (cplxEq .f64 (y18.cell 3).re (y18.cell 3).im 4611686018427387904 4607182418800017408) else false) then (((y19.cell 0).int : Int) == 2) else false) then (((y20.cell 0).int : Int) == 3) else false) then (((y21.cell 0).int : Int) == 4) else false) then (ByteArray.toList (y22.cell 1).str == ByteArray.toList (⟨#[99]⟩ : ByteArray)) else false)) [.int .i64, .str, .str, .int .i64, .int .i64, .int .i64, .str, .list, .list, .list, .cplx .f64] p13.1 2) fun y23 =>
Option.bind (idx ((bif (bif (bif (bif (bif (bif (((y17.cell 2).int : Int) == 3) then (cplxEq .f64 (y18.cell 3).re (y18.cell 3).im 4611686018427387904 4607182418800017408) else false) then (((y19.cell 0).int : Int) == 2) else false) then (((y20.cell 0).int : Int) == 3) else false) then (((y21.cell 0).int : Int) == 4) else false) then (ByteArray.toList (y22.cell 1).str == ByteArray.toList (⟨#[99]⟩ : ByteArray)) else false) then (((y23.cell 4).int : Int) == 4) else false)) [.int .i64, .str, .str, .int .i64, .int .i64, .int .i64, .str, .list, .list, .list, .cplx .f64] p13.1 3) fun y24 =>
Option.bind (idx ((bif (bif (bif (bif (bif (bif (bif (((y17.cell 2).int : Int) == 3) then (cplxEq .f64 (y18.cell 3).re (y18.cell 3).im 4611686018427387904 4607182418800017408) else false) then (((y19.cell 0).int : Int) == 2) else false) then (((y20.cell 0).int : Int) == 3) else false) then (((y21.cell 0).int : Int) == 4) else false) then (ByteArray.toList (y22.cell 1).str == ByteArray.toList (⟨#[99]⟩ : ByteArray)) else false) then (((y23.cell 4).int : Int) == 4) else false) then (((y24.cell 0).int : Int) == 5) else false)) [.int .i64, .str, .str, .int .i64, .int .i64, .int .i64, .str, .list, .list, .list, .cplx .f64] p13.1 3) fun y25 =>
Option.bind (idx ((bif (bif (bif (bif (bif (bif (bif (bif (((y17.cell 2).int : Int) == 3) then (cplxEq .f64 (y18.cell 3).re (y18.cell 3).im 4611686018427387904 4607182418800017408) else false) then (((y19.cell 0).int : Int) == 2) else false) then (((y20.cell 0).int : Int) == 3) else false) then (((y21.cell 0).int : Int) == 4) else false) then (ByteArray.toList (y22.cell 1).str == ByteArray.toList (⟨#[99]⟩ : ByteArray)) else false) then (((y23.cell 4).int : Int) == 4) else false) then (((y24.cell 0).int : Int) == 5) else false) then (ByteArray.toList (y25.cell 2).str == ByteArray.toList (⟨#[116]⟩ : ByteArray)) else false)) [.int .i64, .str, .str, .int .i64, .int .i64, .int .i64, .str, .list, .list, .list, .cplx .f64] p13.1 4) fun y26 =>
Option.bind (idx ((bif (bif (bif (bif (bif (bif (bif (bif (bif (((y17.cell 2).int : Int) == 3) then (cplxEq .f64 (y18.cell 3).re (y18.cell 3).im 4611686018427387904 4607182418800017408) else false) then (((y19.cell 0).int : Int) == 2) else false) then (((y20.cell 0).int : Int) == 3) else false) then (((y21.cell 0).int : Int) == 4) else false) then (ByteArray.toList (y22.cell 1).str == ByteArray.toList (⟨#[99]⟩ : ByteArray)) else false) then (((y23.cell 4).int : Int) == 4) else false) then (((y24.cell 0).int : Int) == 5) else false) then (ByteArray.toList (y25.cell 2).str == ByteArray.toList (⟨#[116]⟩ : ByteArray)) else false) then (((y26.cell 4).int : Int) == 3) else false)) [.int .i64, .str, .str, .int .i64, .int .i64, .int .i64, .str, .list, .list, .list, .cplx .f64] p13.1 5) fun y27 =>
Option.bind (idx ((bif (bif (bif (bif (bif (bif (bif (bif (bif (bif (((y17.cell 2).int : Int) == 3) then (cplxEq .f64 (y18.cell 3).re (y18.cell 3).im 4611686018427387904 4607182418800017408) else false) then (((y19.cell 0).int : Int) == 2) else false) then (((y20.cell 0).int : Int) == 3) else false) then (((y21.cell 0).int : Int) == 4) else false) then (ByteArray.toList (y22.cell 1).str == ByteArray.toList (⟨#[99]⟩ : ByteArray)) else false) then (((y23.cell 4).int : Int) == 4) else false) then (((y24.cell 0).int : Int) == 5) else false) then (ByteArray.toList (y25.cell 2).str == ByteArray.toList (⟨#[116]⟩ : ByteArray)) else false) then (((y26.cell 4).int : Int) == 3) else false) then (((y27.cell 0).int : Int) == 7) else false)) [.int .i64, .str, .str, .int .i64, .int .i64, .int .i64, .str, .list, .list, .list, .cplx .f64] p13.1 5) fun y28 =>
Option.bind (idx ((bif (bif (bif (bif (bif (bif (bif (bif (bif (bif (bif (((y17.cell 2).int : Int) == 3) then (cplxEq .f64 (y18.cell 3).re (y18.cell 3).im 4611686018427387904 4607182418800017408) else false) then (((y19.cell 0).int : Int) == 2) else false) then (((y20.cell 0).int : Int) == 3) else false) then (((y21.cell 0).int : Int) == 4) else false) then (ByteArray.toList (y22.cell 1).str == ByteArray.toList (⟨#[99]⟩ : ByteArray)) else false) then (((y23.cell 4).int : Int) == 4) else false) then (((y24.cell 0).int : Int) == 5) else false) then (ByteArray.toList (y25.cell 2).str == ByteArray.toList (⟨#[116]⟩ : ByteArray)) else false) then (((y26.cell 4).int : Int) == 3) else false) then (((y27.cell 0).int : Int) == 7) else false) then ((((List.length (y28.cell 8).lst : Nat) : Int) : Int) == 0) else false)) [.int .i64, .str, .str, .int .i64, .int .i64, .int .i64, .str, .list, .list, .list, .cplx .f64] p13.1 5) fun y29 =>
Option.bind (idx ((bif (bif (bif (bif (bif (bif (bif (bif (bif (bif (bif (bif (((y17.cell 2).int : Int) == 3) then (cplxEq .f64 (y18.cell 3).re (y18.cell 3).im 4611686018427387904 4607182418800017408) else false) then (((y19.cell 0).int : Int) == 2) else false) then (((y20.cell 0).int : Int) == 3) else false) then (((y21.cell 0).int : Int) == 4) else false) then (ByteArray.toList (y22.cell 1).str == ByteArray.toList (⟨#[99]⟩ : ByteArray)) else false) then (((y23.cell 4).int : Int) == 4) else false) then (((y24.cell 0).int : Int) == 5) else false) then (ByteArray.toList (y25.cell 2).str == ByteArray.toList (⟨#[116]⟩ : ByteArray)) else false) then (((y26.cell 4).int : Int) == 3) else false) then (((y27.cell 0).int : Int) == 7) else false) then ((((List.length (y28.cell 8).lst : Nat) : Int) : Int) == 0) else false) then ((((List.length (y29.cell 9).lst : Nat) : Int) : Int) == 1) else false)) [.int .i64, .str, .str, .int .i64, .int .i64, .int .i64, .str, .list, .list, .list, .cplx .f64] p13.1 5) fun y30 =>
Option.bind (idx ((bif (bif (bif (bif (bif (bif (bif (bif (bif (bif (bif (bif (((y17.cell 2).int : Int) == 3) then (cplxEq .f64 (y18.cell 3).re (y18.cell 3).im 4611686018427387904 4607182418800017408) else false) then (((y19.cell 0).int : Int) == 2) else false) then (((y20.cell 0).int : Int) == 3) else false) then (((y21.cell 0).int : Int) == 4) else false) then (ByteArray.toList (y22.cell 1).str == ByteArray.toList (⟨#[99]⟩ : ByteArray)) else false) then (((y23.cell 4).int : Int) == 4) else false) then (((y24.cell 0).int : Int) == 5) else false) then (ByteArray.toList (y25.cell 2).str == ByteArray.toList (⟨#[116]⟩ : ByteArray)) else false) then (((y26.cell 4).int : Int) == 3) else false) then (((y27.cell 0).int : Int) == 7) else false) then ((((List.length (y28.cell 8).lst : Nat) : Int) : Int) == 0) else false) then ((((List.length (y29.cell 9).lst : Nat) : Int) : Int) == 1) else false)) [.int .i64, .str, .str, .int .i64, .int .i64, .int .i64, .str, .list, .list, .list, .cplx .f64] (y30.cell 9).lst 0) fun y31 =>
Option.bind (idx ((bif (bif (bif (bif (bif (bif (bif (bif (bif (bif (bif (bif (bif (((y17.cell 2).int : Int) == 3) then (cplxEq .f64 (y18.cell 3).re (y18.cell 3).im 4611686018427387904 4607182418800017408) else false) then (((y19.cell 0).int : Int) == 2) else false) then (((y20.cell 0).int : Int) == 3) else false) then (((y21.cell 0).int : Int) == 4) else false) then (ByteArray.toList (y22.cell 1).str == ByteArray.toList (⟨#[99]⟩ : ByteArray)) else false) then (((y23.cell 4).int : Int) == 4) else false) then (((y24.cell 0).int : Int) == 5) else false) then (ByteArray.toList (y25.cell 2).str == ByteArray.toList (⟨#[116]⟩ : ByteArray)) else false) then (((y26.cell 4).int : Int) == 3) else false) then (((y27.cell 0).int : Int) == 7) else false) then ((((List.length (y28.cell 8).lst : Nat) : Int) : Int) == 0) else false) then ((((List.length (y29.cell 9).lst : Nat) : Int) : Int) == 1) else false) then (((y31.cell 0).int : Int) == 9) else false)) [.int .i64, .str, .str, .int .i64, .int .i64, .int .i64, .str, .list, .list, .list, .cplx .f64] p13.1 6) fun y32 =>
Option.bind (idx ((bif (bif (bif (bif (bif (bif (bif (bif (bif (bif (bif (bif (bif (bif (((y17.cell 2).int : Int) == 3) then (cplxEq .f64 (y18.cell 3).re (y18.cell 3).im 4611686018427387904 4607182418800017408) else false) then (((y19.cell 0).int : Int) == 2) else false) then (((y20.cell 0).int : Int) == 3) else false) then (((y21.cell 0).int : Int) == 4) else false) then (ByteArray.toList (y22.cell 1).str == ByteArray.toList (⟨#[99]⟩ : ByteArray)) else false) then (((y23.cell 4).int : Int) == 4) else false) then (((y24.cell 0).int : Int) == 5) else false) then (ByteArray.toList (y25.cell 2).str == ByteArray.toList (⟨#[116]⟩ : ByteArray)) else false) then (((y26.cell 4).int : Int) == 3) else false) then (((y27.cell 0).int : Int) == 7) else false) then ((((List.length (y28.cell 8).lst : Nat) : Int) : Int) == 0) else false) then ((((List.length (y29.cell 9).lst : Nat) : Int) : Int) == 1) else false) then (((y31.cell 0).int : Int) == 9) else false) then (((y32.cell 3).int : Int) == 9) else false)) [.int .i64, .str, .str, .int .i64, .int .i64, .int .i64, .str, .list, .list, .list, .cplx .f64] p13.1 6) fun y33 =>
Option.bind (idx ((bif (bif (bif (bif (bif (bif (bif (bif (bif (bif (bif (bif (bif (bif (((y17.cell 2).int : Int) == 3) then (cplxEq .f64 (y18.cell 3).re (y18.cell 3).im 4611686018427387904 4607182418800017408) else false) then (((y19.cell 0).int : Int) == 2) else false) then (((y20.cell 0).int : Int) == 3) else false) then (((y21.cell 0).int : Int) == 4) else false) then (ByteArray.toList (y22.cell 1).str == ByteArray.toList (⟨#[99]⟩ : ByteArray)) else false) then (((y23.cell 4).int : Int) == 4) else false) then (((y24.cell 0).int : Int) == 5) else false) then (ByteArray.toList (y25.cell 2).str == ByteArray.toList (⟨#[116]⟩ : ByteArray)) else false) then (((y26.cell 4).int : Int) == 3) else false) then (((y27.cell 0).int : Int) == 7) else false) then ((((List.length (y28.cell 8).lst : Nat) : Int) : Int) == 0) else false) then ((((List.length (y29.cell 9).lst : Nat) : Int) : Int) == 1) else false) then (((y31.cell 0).int : Int) == 9) else false) then (((y32.cell 3).int : Int) == 9) else false)) [.int .i64, .str, .str, .int .i64, .int .i64, .int .i64, .str, .list, .list, .list, .cplx .f64] (y33.cell 8).lst 0) fun y34 =>
Option.bind (idx ((bif (bif (bif (bif (bif (bif (bif (bif (bif (bif (bif (bif (bif (bif (bif (((y17.cell 2).int : Int) == 3) then (cplxEq .f64 (y18.cell 3).re (y18.cell 3).im 4611686018427387904 4607182418800017408) else false) then (((y19.cell 0).int : Int) == 2) else false) then (((y20.cell 0).int : Int) == 3) else false) then (((y21.cell 0).int : Int) == 4) else false) then (ByteArray.toList (y22.cell 1).str == ByteArray.toList (⟨#[99]⟩ : ByteArray)) else false) then (((y23.cell 4).int : Int) == 4) else false) then (((y24.cell 0).int : Int) == 5) else false) then (ByteArray.toList (y25.cell 2).str == ByteArray.toList (⟨#[116]⟩ : ByteArray)) else false) then (((y26.cell 4).int : Int) == 3) else false) then (((y27.cell 0).int : Int) == 7) else false) then ((((List.length (y28.cell 8).lst : Nat) : Int) : Int) == 0) else false) then ((((List.length (y29.cell 9).lst : Nat) : Int) : Int) == 1) else false) then (((y31.cell 0).int : Int) == 9) else false) then (((y32.cell 3).int : Int) == 9) else false) then (ByteArray.toList (y34.cell 1).str == ByteArray.toList (⟨#[97]⟩ : ByteArray)) else false)) [.list] p13.2.2.2.1 1) fun y35 =>
Option.bind (idx ((bif (bif (bif (bif (bif (bif (bif (bif (bif (bif (bif (bif (bif (bif (bif (((y17.cell 2).int : Int) == 3) then (cplxEq .f64 (y18.cell 3).re (y18.cell 3).im 4611686018427387904 4607182418800017408) else false) then (((y19.cell 0).int : Int) == 2) else false) then (((y20.cell 0).int : Int) == 3) else false) then (((y21.cell 0).int : Int) == 4) else false) then (ByteArray.toList (y22.cell 1).str == ByteArray.toList (⟨#[99]⟩ : ByteArray)) else false) then (((y23.cell 4).int : Int) == 4) else false) then (((y24.cell 0).int : Int) == 5) else false) then (ByteArray.toList (y25.cell 2).str == ByteArray.toList (⟨#[116]⟩ : ByteArray)) else false) then (((y26.cell 4).int : Int) == 3) else false) then (((y27.cell 0).int : Int) == 7) else false) then ((((List.length (y28.cell 8).lst : Nat) : Int) : Int) == 0) else false) then ((((List.length (y29.cell 9).lst : Nat) : Int) : Int) == 1) else false) then (((y31.cell 0).int : Int) == 9) else false) then (((y32.cell 3).int : Int) == 9) else false) then (ByteArray.toList (y34.cell 1).str == ByteArray.toList (⟨#[97]⟩ : ByteArray)) else false)) [.int .i64, .str, .str, .int .i64, .int .i64, .int .i64, .str, .list, .list, .list, .cplx .f64] (y35.cell 0).lst 0) fun y36 =>
Option.bind (idx ((bif (bif (bif (bif (bif (bif (bif (bif (bif (bif (bif (bif (bif (bif (bif (bif (((y17.cell 2).int : Int) == 3) then (cplxEq .f64 (y18.cell 3).re (y18.cell 3).im 4611686018427387904 4607182418800017408) else false) then (((y19.cell 0).int : Int) == 2) else false) then (((y20.cell 0).int : Int) == 3) else false) then (((y21.cell 0).int : Int) == 4) else false) then (ByteArray.toList (y22.cell 1).str == ByteArray.toList (⟨#[99]⟩ : ByteArray)) else false) then (((y23.cell 4).int : Int) == 4) else false) then (((y24.cell 0).int : Int) == 5) else false) then (ByteArray.toList (y25.cell 2).str == ByteArray.toList (⟨#[116]⟩ : ByteArray)) else false) then (((y26.cell 4).int : Int) == 3) else false) then (((y27.cell 0).int : Int) == 7) else false) then ((((List.length (y28.cell 8).lst : Nat) : Int) : Int) == 0) else false) then ((((List.length (y29.cell 9).lst : Nat) : Int) : Int) == 1) else false) then (((y31.cell 0).int : Int) == 9) else false) then (((y32.cell 3).int : Int) == 9) else false) then (ByteArray.toList (y34.cell 1).str == ByteArray.toList (⟨#[97]⟩ : ByteArray)) else false) then ((((List.length (y36.cell 9).lst : Nat) : Int) : Int) == 0) else false)) [.list] p13.2.2.2.1 1) fun y37 =>
Option.bind (idx ((bif (bif (bif (bif (bif (bif (bif (bif (bif (bif (bif (bif (bif (bif (bif (bif (((y17.cell 2).int : Int) == 3) then (cplxEq .f64 (y18.cell 3).re (y18.cell 3).im 4611686018427387904 4607182418800017408) else false) then (((y19.cell 0).int : Int) == 2) else false) then (((y20.cell 0).int : Int) == 3) else false) then (((y21.cell 0).int : Int) == 4) else false) then (ByteArray.toList (y22.cell 1).str == ByteArray.toList (⟨#[99]⟩ : ByteArray)) else false) then (((y23.cell 4).int : Int) == 4) else false) then (((y24.cell 0).int : Int) == 5) else false) then (ByteArray.toList (y25.cell 2).str == ByteArray.toList (⟨#[116]⟩ : ByteArray)) else false) then (((y26.cell 4).int : Int) == 3) else false) then (((y27.cell 0).int : Int) == 7) else false) then ((((List.length (y28.cell 8).lst : Nat) : Int) : Int) == 0) else false) then ((((List.length (y29.cell 9).lst : Nat) : Int) : Int) == 1) else false) then (((y31.cell 0).int : Int) == 9) else false) then (((y32.cell 3).int : Int) == 9) else false) then (ByteArray.toList (y34.cell 1).str == ByteArray.toList (⟨#[97]⟩ : ByteArray)) else false) then ((((List.length (y36.cell 9).lst : Nat) : Int) : Int) == 0) else false)) [.int .i64, .str, .str, .int .i64, .int .i64, .int .i64, .str, .list, .list, .list, .cplx .f64] (y37.cell 0).lst 0) fun y38 =>
some (bif (bif (bif (bif (bif (bif (bif (bif (bif (bif (bif (bif (bif (bif (bif (bif (bif (bif (bif (bif (bif (((y17.cell 2).int : Int) == 3) then (cplxEq .f64 (y18.cell 3).re (y18.cell 3).im 4611686018427387904 4607182418800017408) else false) then (((y19.cell 0).int : Int) == 2) else false) then (((y20.cell 0).int : Int) == 3) else false) then (((y21.cell 0).int : Int) == 4) else false) then (ByteArray.toList (y22.cell 1).str == ByteArray.toList (⟨#[99]⟩ : ByteArray)) else false) then (((y23.cell 4).int : Int) == 4) else false) then (((y24.cell 0).int : Int) == 5) else false) then (ByteArray.toList (y25.cell 2).str == ByteArray.toList (⟨#[116]⟩ : ByteArray)) else false) then (((y26.cell 4).int : Int) == 3) else false) then (((y27.cell 0).int : Int) == 7) else false) then ((((List.length (y28.cell 8).lst : Nat) : Int) : Int) == 0) else false) then ((((List.length (y29.cell 9).lst : Nat) : Int) : Int) == 1) else false) then (((y31.cell 0).int : Int) == 9) else false) then (((y32.cell 3).int : Int) == 9) else false) then (ByteArray.toList (y34.cell 1).str == ByteArray.toList (⟨#[97]⟩ : ByteArray)) else false) then ((((List.length (y36.cell 9).lst : Nat) : Int) : Int) == 0) else false) then ((((List.length (y38.cell 8).lst : Nat) : Int) : Int) == 1) else false) then ((r14.2.2.2 : Int) == 0) else false) then ((r15.2.2.2 : Int) == 2) else false) then (cplxEq .f64 r15.2.2.1.1 r15.2.2.1.2 4627730092099895296 4607182418800017408) else false) then ((r16.2.2.2 : Int) == 0) else false)))) x9') x9)
theorem q8_eq (n : Nat) : ∀ m, l_suturelaw5_ParseKnown_8 n m = q8 (m_parse_Read n) n m
 | 0 => rfl
 | m + 1 => by
  funext s
  show l_suturelaw5_ParseKnown_8_B n (l_suturelaw5_ParseKnown_8 n m) s = q8B (m_parse_Read n) n (q8 (m_parse_Read n) n m) s
  rw [q8_eq n m]
  rfl
theorem qK_eq (n : Nat) : m_suturelaw5_ParseKnown n = qK (m_parse_Read n) n := by
 unfold m_suturelaw5_ParseKnown qK
 rw [q8_eq]
theorem qK_val : qK (rdR 200000) 200000 = some true := by kernel_rfl
theorem parseKnown_law : ∃ n, m_suturelaw5_ParseKnown n = some true := ⟨200000, by rw [qK_eq, read_fun (by decide), qK_val]⟩
end Go.Proofs.YtbcgpjlkkcdmmaaDoor.W
