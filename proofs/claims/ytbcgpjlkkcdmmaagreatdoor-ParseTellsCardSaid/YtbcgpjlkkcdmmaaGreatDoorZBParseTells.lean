/- Own texts, several in one. No conditions. -/
import Derived.Test.YtbcgpjlkkcdmmaaGreatDoorZAParseTells
namespace Go.Proofs.YtbcgpjlkkcdmmaaGreatDoor.W
open Go Go.Eng Go.Eng.Fl Go.RowKit
set_option linter.unusedVariables false
set_option linter.unusedSimpArgs false
def tabsL (d:Nat):List UInt8 := List.replicate d 9
def bsO (e:Option E):List UInt8 := match e with | some x=>bs x 0 | none=>[]
mutual
def tx:St -> Nat -> List UInt8
 | .mk k n o m e body els p,d =>
  if k = 1 then n++32 :: 61 :: 32 :: bsO e
  else if k = 2 then wLock++32 :: n
  else if k = 3 then wUnlock++32 :: n
  else if k = 4 then wSend++32 :: (n++32 :: bsO e)
  else if k = 5 then wRecv++32 :: (n++32 :: o)
  else if k = 6 then wPrint++32 :: bsO e
  else if k = 9 then wGoto++32 :: n
  else if k = 10 then wLabel++32 :: n
  else if k = 7 then wIf++(32:UInt8) :: (bsO e++(32:UInt8) :: (123:UInt8) :: (10:UInt8) :: (txL body (d + 1)++(tabsL d++(125:UInt8) :: (match els with
   | []=>([]:List UInt8)
   | _ :: _=>(32:UInt8) :: (wElse++(32:UInt8) :: (123:UInt8) :: (10:UInt8) :: (txL els (d + 1)++(tabsL d++[125])))))))
  else if k = 8 then wRepeat++(32:UInt8) :: (Lib.decDigits m++(32:UInt8) :: (123:UInt8) :: (10:UInt8) :: (txL body (d + 1)++(tabsL d++[125])))
  else [63]
def txL:List St -> Nat -> List UInt8
 | [],_=>[]
 | s :: r,d=>tabsL d++(tx s d++10 :: txL r d)
end
section
variable {n:Nat}
theorem wrap8 {x:Int} (h1:0 <= x) (h2:x <= 255):IntKind.wrap .u8 x = x := by
 have e:IntKind.wrap .u8 x = x % 256 := by
  show (if (false&&decide (x % (2 ^ 8:Int) ≥ (2 ^ 7:Int))) = true then x % (2 ^ 8:Int) - (2 ^ 8:Int) else x % (2 ^ 8:Int)) = _
  simp only [Bool.false_and,Bool.false_eq_true,if_false]
  rfl
 rw [e]; omega
theorem digit1 (d:Int) (h1:0 <= d) (h2:d < 10):bytesIf true [(T.sc (.int .u8 (IntKind.wrap .u8 (IntKind.wrap .i64 (48 + d)))))] = some [UInt8.ofNat (48 + d.toNat)] := by
 rw [wrap_id (x := 48 + d) (by omega) (by omega),wrap8 (by omega) (by omega)]
 have:(48 + d).toNat = 48 + d.toNat := by omega
 simp only [bytesIf,cond_true,bytesL,Option.map_some,this]
theorem digs_len:∀ (k u:Nat),u < 10 ^ k -> 0 < k -> (Lib.decDigits u).length <= k
 | 0,_,_,h=>absurd h (Nat.lt_irrefl _)
 | k + 1,u,h,_=>by
  rw [Lib.decDigits]
  by_cases h10:u < 10
  ·rw [dif_pos h10]; simp
  ·rw [dif_neg h10]
   have hk:0 < k := by
    rcases Nat.eq_zero_or_pos k with rfl | h0
    ·simp at h; omega
    ·exact h0
   have := digs_len k (u / 10) (by rw [Nat.pow_succ] at h; exact Nat.div_lt_of_lt_mul (by omega)) hk
   simp only [lA,List.length_singleton]
   omega
theorem digs_f:∀ (f u:Nat),u < 10 ^ f -> 0 < f -> u < 9223372036854775808 -> (unB_z41 n f).y15 (u:Int) = some (B (Lib.decDigits u))
 | 0,_,_,h,_=>absurd h (Nat.lt_irrefl _)
 | f + 1,u,h,_,hu=>by
  unfold unB_z41
  simp only
  unfold f_z41
  rw [Lib.decDigits]
  by_cases h10:u < 10
  ·rw [decide_eq_true (show (u:Int) < 10 by omega),dif_pos h10]
   simp only [cond_true]
   rw [digit1 _ (by omega) (by omega)]
   simp only [bS,Int.toNat_natCast]
  ·rw [decide_eq_false (show ¬ (u:Int) < 10 by omega),dif_neg h10]
   simp only [cond_false]
   have hd:IntKind.wrap .i64 (Int.tdiv (u:Int) 10) = ((u / 10:Nat):Int) := by
    have:Int.tdiv (u:Int) 10 = ((u / 10:Nat):Int) := by
     rw [Int.tdiv_eq_ediv_of_nonneg (by omega)]; omega
    rw [this,wrap_id (by omega) (by omega)]
   have hm:Int.tmod (u:Int) 10 = ((u % 10:Nat):Int) := by
    rw [Int.tmod_eq_emod_of_nonneg (by omega)]; omega
   have hf:0 < f := by
    rcases Nat.eq_zero_or_pos f with rfl | h0
    ·simp at h; omega
    ·exact h0
   have ih1 := digs_f f (u / 10) (by rw [Nat.pow_succ] at h; exact Nat.div_lt_of_lt_mul (by omega)) hf (by omega)
   have hlen := digs_len 20 (u / 10) (by have:(10:Nat) ^ 20 = 100000000000000000000 := rfl; omega) (by omega)
   rw [must_eq (by decide),hd,ih1,bS,must_eq (by decide),hm,digit1 _ (by omega) (by omega),bS,Int.toNat_natCast]
   rw [show (ByteArray.mk (List.toArray [UInt8.ofNat (48 + u % 10)])) = B [UInt8.ofNat (48 + u % 10)] from rfl,must_cat (by simp only [lC,lN]; omega),B_append]
theorem digs_ok (hn:100 < n) {u:Nat} (hu:u < 9223372036854775808):m_z41 n (u:Int) = some (B (Lib.decDigits u)) :=
 digs_f n u (by
  have h1:10 ^ 20 <= 10 ^ n := Nat.pow_le_pow_right (by omega) (by omega)
  have h2:(10:Nat) ^ 20 = 100000000000000000000 := rfl
  omega) (by omega) hu
def lev:E -> Nat
 | .num _=>5
 | .name _=>5
 | .neg _=>4
 | .bin k _ _=>lvl k + 1
theorem level_eq {e:E} (h:saneE e):m_z58 n (kE e) = some ((lev e:Nat):Int) := by
 cases e with
 | num k=>rfl
 | name w=>rfl
 | neg e=>rfl
 | bin k a b=>rcases op_cases h.1 with rfl | rfl | rfl | rfl | rfl | rfl | rfl <;> rfl
theorem signR_eq {k:Int} (h:isOp k = true):m_z71 n k = some (B (sgn k)) := by
 rcases op_cases h with rfl | rfl | rfl | rfl | rfl | rfl | rfl <;> rfl
theorem bs_side {e:E} (hs:saneE e) (l:Nat) (hl:l <= 3):bs e l = if lev e < l + 1 then 40 :: (bs e 0++[41]) else bs e 0 := by
 cases e with
 | num k=>rw [if_neg (by simp only [lev]; omega)]; simp only [bs]
 | name w=>rw [if_neg (by simp only [lev]; omega)]; simp only [bs]
 | neg e=>rw [if_neg (by simp only [lev]; omega)]; simp only [bs]
 | bin k a b =>
  have e0:bs (.bin k a b) 0 = bs a (left k)++32 :: (sgn k++32 :: bs b (lvl k + 1)) := by rw [bs,if_neg (by omega)]
  rw [e0]
  by_cases h:lvl k < l
  ·rw [bs,if_pos h,if_pos (show lev (.bin k a b) < l + 1 by simp only [lev]; omega)]
  ·rw [bs,if_neg h,if_neg (show ¬ lev (.bin k a b) < l + 1 by simp only [lev]; omega)]
structure ShOk (b:B_z70) (m:Nat):Prop where
 sh:∀ e,saneE e -> (bs e 0).length <= 1000000000 -> 2 * ht e < m -> b.y19 (kE e) (nE e) (wE e) (oE e) = some (B (bs e 0))
 sd:∀ e l,l <= 3 -> saneE e -> (bs e l).length <= 1000000000 -> 2 * ht e + 1 < m -> b.y20 (kE e) (nE e) (wE e) (oE e) ((l + 1:Nat):Int) = some (B (bs e l))
theorem side_step {b:B_z70} {m:Nat} (hb:ShOk b m) {e:E} {l:Nat} (hl:l <= 3) (hs:saneE e) (hlen:(bs e l).length <= 1000000000) (hm:2 * ht e + 1 <= m):f_sutureref1_side b n (kE e) (nE e) (wE e) (oE e) ((l + 1:Nat):Int) = some (B (bs e l)) := by
 unfold f_sutureref1_side
 rw [level_eq hs,bS]
 rw [bs_side hs l hl] at hlen ⊢
 by_cases h:lev e < l + 1
 ·rw [if_pos h] at hlen ⊢
  simp only [lC,lA,lN] at hlen
  rw [decide_eq_true (by omega),cond_true,hb.sh e hs (by omega) (by omega),bS,eB1,eB1,must_cat (by simp only [lC,lN]; omega),B_append,must_cat (by simp only [lC,lA,lN]; omega),B_append]
  rfl
 ·rw [if_neg h] at hlen ⊢
  rw [decide_eq_false (by omega),cond_false,hb.sh e hs hlen (by omega),bS]
theorem show_step (hn:100 < n) {b:B_z70} {m:Nat} (hb:ShOk b m) {e:E} (hs:saneE e) (hlen:(bs e 0).length <= 1000000000) (hm:2 * ht e <= m):f_z70 b n (kE e) (nE e) (wE e) (oE e) = some (B (bs e 0)) := by
 unfold f_z70
 rw [level_eq hs,bS]
 cases e with
 | num k =>
  rw [show (bif ((kE (.num k):Int) == 1) then (decide ((nE (.num k):Int) ≥ 0)) else false) = true from by simp only [kE,nE]; exact decide_eq_true (by omega),cond_true]
  simp only [nE]
  rw [digs_ok hn hs,bS]
  rfl
 | name w=>rfl
 | neg e =>
  obtain ⟨c1,c2,c3,c4⟩ := cellE e
  simp only [bs,lC] at hlen
  simp only [ht] at hm
  rw [show (bif ((kE (.neg e):Int) == 1) then (decide ((nE (.neg e):Int) ≥ 0)) else false) = false from rfl,show ((kE (.neg e):Int) == 2) = false from rfl,show (bif ((kE (.neg e):Int) == 3) then ((((List.length (oE (.neg e)):Nat):Int):Int) == 1) else false) = true from rfl,show oE (.neg e) = [encE e] from rfl]
  simp only [cond_true,cond_false]
  have hi := idx_E (es := [e]) (i := 0) (by simp)
  simp only [List.map_cons,List.map_nil,List.getElem_cons_zero] at hi
  rw [show ((0:Nat):Int) = 0 from rfl] at hi
  rw [hi,bS,c1,c2,c3,c4,show ((4:Int)) = ((3 + 1:Nat):Int) from rfl,hb.sd e 3 (by omega) hs (by omega) (by omega),bS,eB1,must_cat (by simp only [lC,lN]; omega),B_append]
  rfl
 | bin k x y =>
  obtain ⟨hk,hsx,hsy⟩ := hs
  obtain ⟨c1,c2,c3,c4⟩ := cellE x
  obtain ⟨d1,d2,d3,d4⟩ := cellE y
  have hL := left_le k
  have hlk := lvl_le k
  have ekb:bs (.bin k x y) 0 = bs x (left k)++32 :: (sgn k++32 :: bs y (lvl k + 1)) := by rw [bs,if_neg (by omega)]
  rw [ekb] at hlen ⊢
  simp only [lC,lA] at hlen
  simp only [ht] at hm
  rw [show kE (.bin k x y) = k from rfl,show oE (.bin k x y) = [encE x,encE y] from rfl]
  have k1:((k:Int) == 1) = false := by rcases op_cases hk with rfl | rfl | rfl | rfl | rfl | rfl | rfl <;> rfl
  have k2:((k:Int) == 2) = false := by rcases op_cases hk with rfl | rfl | rfl | rfl | rfl | rfl | rfl <;> rfl
  have k3:((k:Int) == 3) = false := by rcases op_cases hk with rfl | rfl | rfl | rfl | rfl | rfl | rfl <;> rfl
  rw [k1,k2,k3]
  simp only [cond_false]
  have hlv:lev (.bin k x y) = lvl k + 1 := rfl
  rw [hlv,decide_eq_true (show (((lvl k + 1:Nat):Int):Int) ≥ 1 by omega),decide_eq_true (show (((lvl k + 1:Nat):Int):Int) <= 3 by omega),show ((((List.length [encE x,encE y]:Nat):Int):Int) == 2) = true from rfl]
  simp only [cond_true]
  have hi := idx_E (es := [x,y]) (i := 0) (by simp)
  have hj := idx_E (es := [x,y]) (i := 1) (by simp)
  simp only [List.map_cons,List.map_nil,List.getElem_cons_zero,List.getElem_cons_succ] at hi hj
  rw [show ((0:Nat):Int) = 0 from rfl] at hi
  rw [show ((1:Nat):Int) = 1 from rfl] at hj
  have hx := hb.sd x (left k) (by omega) hsx (by omega) (by omega)
  have hy := hb.sd y (lvl k + 1) (by omega) hsy (by omega) (by omega)
  have hup:IntKind.wrap .i64 (((lvl k + 1:Nat):Int) + 1) = ((lvl k + 1 + 1:Nat):Int) := by rw [wrap_id (by omega) (by omega)]; omega
  rw [hi,hj,hup,signR_eq hk]
  simp only [bS,c1,c2,c3,c4,d1,d2,d3,d4]
  rw [hy]
  have fin:∀ (r:Option ByteArray),r = some (B (bs x (left k))) -> (Option.bind r fun r5 =>
must true (decide (((ByteArray.size r5 + ByteArray.size (⟨#[32]⟩:ByteArray):Nat):Int) <= IntKind.i64.max)) (must true (decide (((ByteArray.size (r5++(⟨#[32]⟩:ByteArray)) + ByteArray.size (B (sgn k)):Nat):Int) <= IntKind.i64.max)) (must true (decide (((ByteArray.size ((r5++(⟨#[32]⟩:ByteArray))++(B (sgn k))) + ByteArray.size (⟨#[32]⟩:ByteArray):Nat):Int) <= IntKind.i64.max)) (Option.bind (some (B (bs y (lvl k + 1)))) fun r8 =>
must true (decide (((ByteArray.size (((r5++(⟨#[32]⟩:ByteArray))++(B (sgn k)))++(⟨#[32]⟩:ByteArray)) + ByteArray.size r8:Nat):Int) <= IntKind.i64.max)) (some ((((r5++(⟨#[32]⟩:ByteArray))++(B (sgn k)))++(⟨#[32]⟩:ByteArray))++r8)))))) = some (B (bs x (left k)++32 :: (sgn k++32 :: bs y (lvl k + 1)))) := by
   rintro r rfl
   rw [bS,eB1,must_cat (by simp only [lC,lN]; omega),B_append,must_cat (by simp only [lC,lA,lN]; omega),B_append,must_cat (by simp only [lC,lA,lN]; omega),B_append,bS,must_cat (by simp only [lC,lA,lN]; omega),B_append]
   simp
  by_cases h0:lvl k = 0
  ·rw [show ((((lvl k + 1:Nat):Int):Int) == 1) = true by rw [h0]; rfl,cond_true]
   rw [hL.2.2.1 h0] at hx fin ⊢
   exact fin (b.y20 (kE x) (nE x) (wE x) (oE x) 2) hx
  ·rw [show ((((lvl k + 1:Nat):Int):Int) == 1) = false by rw [beq_eq_false_iff_ne]; omega,cond_false]
   have hleq := hL.2.2.2 h0
   rw [hleq] at hx fin ⊢
   exact fin _ hx
theorem sh_ok (hn:100 < n):∀ m,ShOk (unB_z70 n m) m
 | 0=>⟨fun e _ _ h=>by omega,fun e l _ _ _ h=>by omega⟩
 | m + 1=>by
  have ih := sh_ok hn m
  exact ⟨fun e hs hl hm=>show_step hn ih hs hl (by omega),fun e l h3 hs hl hm=>side_step ih h3 hs hl (by omega)⟩
theorem show_eq (hn:100 < n) {e:E} (hs:saneE e) (hl:(bs e 0).length <= 40000) (h2:100000 < n):m_z70 n (kE e) (nE e) (wE e) (oE e) = some (B (bs e 0)) :=
 (sh_ok hn n).sh e hs (by omega) (by have := ht_le e 0; omega)
theorem tabs_f:∀ (m d:Nat),d < m -> d <= 1000 -> (unB_z72 n m).y21 (d:Int) = some (B (tabsL d))
 | 0,d,h,_=>by omega
 | m + 1,d,h,hd=>by
  unfold unB_z72
  simp only
  unfold f_z72
  cases d with
  | zero=>rfl
  | succ d =>
   rw [decide_eq_false (show ¬ ((d + 1:Nat):Int) <= 0 by omega),cond_false,show IntKind.wrap .i64 (((d + 1:Nat):Int) - 1) = ((d:Nat):Int) by rw [wrap_id (by omega) (by omega)]; omega,tabs_f m d (by omega) (by omega),bS,eB1,must_cat (by simp only [tabsL,lC,lN,List.length_replicate]; omega),B_append]
   rfl
end
section
variable {n:Nat}
structure LnOk (b:B_z59) (m:Nat):Prop where
 ln:∀ (pl:Nat -> Nat × Nat) (l:List St) (d:Nat),okL l d -> d <= 8 -> 9 < m + d -> (txL l d).length <= 30000 -> b.y18 (encSL pl l) (d:Int) = some (B (txL l d))
theorem fit_S (pl:Nat -> Nat × Nat) (s:St):fits [.int .i64,.str,.str,.int .i64,.int .i64,.int .i64,.str,.list,.list,.list,.cplx .f64] (encS pl s) = true := by
 cases s
 simp only [encS]
 rfl
theorem idx_S (pl:Nat -> Nat × Nat) {l:List St} {i:Nat} (h:i < l.length):idx true [.int .i64,.str,.str,.int .i64,.int .i64,.int .i64,.str,.list,.list,.list,.cplx .f64] (encSL pl l) (i:Int) = some (encS pl l[i]) := by
 rw [encSL_map]
 unfold idx
 rw [cond_true,decide_eq_true (Int.natCast_nonneg _),cond_true,Int.toNat_natCast]
 simp [h,fit_S]
theorem encSL_len (pl:Nat -> Nat × Nat) (l:List St):(encSL pl l).length = l.length := by rw [encSL_map,List.length_map]
theorem wlens:wLock.length = 4 /\ wUnlock.length = 6 /\ wSend.length = 4 /\ wRecv.length = 4 /\ wPrint.length = 5 /\ wIf.length = 2 /\ wElse.length = 4 /\ wRepeat.length = 6 /\ wGoto.length = 4 /\ wLabel.length = 5 := ⟨rfl,rfl,rfl,rfl,rfl,rfl,rfl,rfl,rfl,rfl⟩
theorem showO (hn:100000 < n) {x:E} (h:saneE x) (hl:(bs x 0).length <= 40000):m_z70 n (kO (some x)) (nO (some x)) (wO (some x)) (oO (some x)) = some (B (bs x 0)) := show_eq (by omega) h hl (by omega)
theorem ln_loop (hn:100000 < n) {b:B_z59} {m:Nat} (hb:LnOk b m) (pl:Nat -> Nat × Nat) {l:List St} {d:Nat} (hok:okL l d) (hd:d <= 8) (hm:9 < m + 1 + d):∀ (k i:Nat) (u:List UInt8),l.length - i < k -> i <= l.length -> l.length <= 30000 -> u.length + (txL (l.drop i) d).length <= 30000 →
  l_z59_4 b n k (encSL pl l,(d:Int),B u,B (tabsL d),(i:Int)) = some (B (u++txL (l.drop i) d)) := by
 intro k
 induction k with
 | zero=>intro i u h; omega
 | succ k ih =>
  intro i u hk hi hl30 hlen
  show l_z59_4_B b n (l_z59_4 b n k) (encSL pl l,(d:Int),B u,B (tabsL d),(i:Int)) = _
  unfold l_z59_4_B
  simp only
  rw [encSL_len]
  by_cases h:¬ i < l.length
  ·rw [decide_eq_false (by omega),cond_false,List.drop_eq_nil_of_le (by omega)]
   simp only [txL,List.append_nil]
  have h:i < l.length := by omega
  rw [decide_eq_true (show (i:Int) < ((l.length:Nat):Int) by omega),cond_true,idx_S pl h,bS]
  have hdrop:l.drop i = l[i] :: l.drop (i + 1) := List.drop_eq_getElem_cons h
  have hoS:okS l[i] d := by
   have:okL (l.drop i) d := by
    have e := List.take_append_drop i l
    rw [<- e] at hok
    exact (okL_append.1 hok).2
   rw [hdrop] at this
   simp only [okL] at this
   exact this.1
  have hup:IntKind.wrap .i64 ((i:Int) + 1) = ((i + 1:Nat):Int) := by rw [wrap_id (by omega) (by omega)]; omega
  have hdn:IntKind.wrap .i64 ((d:Int) + 1) = ((d + 1:Nat):Int) := by rw [wrap_id (by omega) (by omega)]; omega
  rw [hup,hdn]
  rw [hdrop] at hlen ⊢
  generalize l[i] = s at *
  simp only [txL] at hlen ⊢
  simp only [lA,lC] at hlen
  have fin:∀ w:List UInt8,w = u++(tabsL d++(tx s d++[10])) -> l_z59_4 b n k (encSL pl l,(d:Int),B w,B (tabsL d),((i + 1:Nat):Int)) = some (B (u++(tabsL d++(tx s d++10 :: txL (l.drop (i + 1)) d)))) := by
   rintro w rfl
   rw [ih (i + 1) _ (by omega) (by omega) hl30 (by simp only [lA,lC,lN]; omega)]
   simp
  obtain ⟨w1,w2,w3,w4,w5,w6,w7,w8,w9,w10⟩ := wlens
  obtain ⟨kd,nm,o,mm,e,body,els,p⟩ := s
  have c0:((encS pl (.mk kd nm o mm e body els p)).cell 0).int = kd := by simp only [encS]; rfl
  have c1:((encS pl (.mk kd nm o mm e body els p)).cell 1).str = B nm := by simp only [encS]; rfl
  have c2:((encS pl (.mk kd nm o mm e body els p)).cell 2).str = B o := by simp only [encS]; rfl
  have c3:((encS pl (.mk kd nm o mm e body els p)).cell 3).int = (mm:Int) := by simp only [encS]; rfl
  have c4:((encS pl (.mk kd nm o mm e body els p)).cell 4).int = kO e := by simp only [encS]; rfl
  have c5:((encS pl (.mk kd nm o mm e body els p)).cell 5).int = nO e := by simp only [encS]; rfl
  have c6:((encS pl (.mk kd nm o mm e body els p)).cell 6).str = wO e := by simp only [encS]; rfl
  have c7:((encS pl (.mk kd nm o mm e body els p)).cell 7).lst = oO e := by simp only [encS]; rfl
  have c8:((encS pl (.mk kd nm o mm e body els p)).cell 8).lst = encSL pl body := by simp only [encS]; rfl
  have c9:((encS pl (.mk kd nm o mm e body els p)).cell 9).lst = encSL pl els := by simp only [encS]; rfl
  rw [c0,c1,c2,c3,c4,c5,c6,c7,c8,c9]
  clear c0 c1 c2 c3 c4 c5 c6 c7 c8 c9
  unfold okS at hoS
  split at hoS
  ·rename_i hkd
   subst hkd
   obtain ⟨hn1,rfl,rfl,he,rfl,rfl⟩ := hoS
   cases e with
   | none=>exact he.elim
   | some x =>
   have htx:tx (.mk 1 nm [] 0 (some x) [] [] p) d = nm++32 :: 61 :: 32 :: bs x 0 := by simp only [tx,bsO,if_true]
   rw [htx] at hlen fin ⊢
   simp only [lA,lC] at hlen
   rw [show (((1:Int)) == 1) = true from rfl,cond_true]
   rw [show (⟨#[32,61,32]⟩:ByteArray) = B [32,61,32] from rfl,show (⟨#[10]⟩:ByteArray) = B [10] from rfl]
   rw [must_cat (by (try simp only [lA,lC,lN]); omega),B_append]
   rw [showO hn he.1 (by omega),bS]
   rw [must_cat (by (try simp only [lA,lC,lN]); omega),B_append]
   rw [must_cat (by (try simp only [lA,lC,lN]); omega),B_append]
   rw [must_cat (by (try simp only [lA,lC,lN]); omega),B_append]
   rw [must_cat (by (try simp only [lA,lC,lN]); omega),B_append]
   exact fin _ (by simp)
  split at hoS
  ·rename_i hkd
   obtain ⟨hn1,rfl,rfl,rfl,rfl,rfl⟩ := hoS
   rcases hkd with rfl | rfl | rfl | rfl
   ·have htx:tx (.mk 2 nm [] 0 none [] [] p) d = wLock++32 :: nm := by simp only [tx,Int.reduceEq,if_false,if_true]
    rw [htx] at hlen fin ⊢
    simp only [lA,lC] at hlen
    rw [show (((2:Int)) == 1) = false from rfl,cond_false,show (((2:Int)) == 2) = true from rfl,cond_true]
    rw [show (⟨#[108,111,99,107,32]⟩:ByteArray) = B (wLock++[32]) from rfl,show (⟨#[10]⟩:ByteArray) = B [10] from rfl]
    rw [must_cat (by (try simp only [lA,lC,lN]); omega),B_append]
    rw [must_cat (by (try simp only [lA,lC,lN]); omega),B_append]
    rw [must_cat (by (try simp only [lA,lC,lN]); omega),B_append]
    rw [must_cat (by (try simp only [lA,lC,lN]); omega),B_append]
    exact fin _ (by simp)
   ·have htx:tx (.mk 3 nm [] 0 none [] [] p) d = wUnlock++32 :: nm := by simp only [tx,Int.reduceEq,if_false,if_true]
    rw [htx] at hlen fin ⊢
    simp only [lA,lC] at hlen
    rw [show (((3:Int)) == 1) = false from rfl,cond_false,show (((3:Int)) == 2) = false from rfl,cond_false,show (((3:Int)) == 3) = true from rfl,cond_true]
    rw [show (⟨#[117,110,108,111,99,107,32]⟩:ByteArray) = B (wUnlock++[32]) from rfl,show (⟨#[10]⟩:ByteArray) = B [10] from rfl]
    rw [must_cat (by (try simp only [lA,lC,lN]); omega),B_append]
    rw [must_cat (by (try simp only [lA,lC,lN]); omega),B_append]
    rw [must_cat (by (try simp only [lA,lC,lN]); omega),B_append]
    rw [must_cat (by (try simp only [lA,lC,lN]); omega),B_append]
    exact fin _ (by simp)
   ·have htx:tx (.mk 9 nm [] 0 none [] [] p) d = wGoto++32 :: nm := by simp only [tx,Int.reduceEq,if_false,if_true]
    rw [htx] at hlen fin ⊢
    simp only [lA,lC] at hlen
    rw [show (((9:Int)) == 1) = false from rfl,cond_false,show (((9:Int)) == 2) = false from rfl,cond_false,show (((9:Int)) == 3) = false from rfl,cond_false,show (((9:Int)) == 4) = false from rfl,cond_false,show (((9:Int)) == 5) = false from rfl,cond_false,show (((9:Int)) == 6) = false from rfl,cond_false,show (((9:Int)) == 9) = true from rfl,cond_true]
    rw [show (⟨#[103,111,116,111,32]⟩:ByteArray) = B (wGoto++[32]) from rfl,show (⟨#[10]⟩:ByteArray) = B [10] from rfl]
    rw [must_cat (by (try simp only [lA,lC,lN]); omega),B_append]
    rw [must_cat (by (try simp only [lA,lC,lN]); omega),B_append]
    rw [must_cat (by (try simp only [lA,lC,lN]); omega),B_append]
    rw [must_cat (by (try simp only [lA,lC,lN]); omega),B_append]
    exact fin _ (by simp)
   ·have htx:tx (.mk 10 nm [] 0 none [] [] p) d = wLabel++32 :: nm := by simp only [tx,Int.reduceEq,if_false,if_true]
    rw [htx] at hlen fin ⊢
    simp only [lA,lC] at hlen
    rw [show (((10:Int)) == 1) = false from rfl,cond_false,show (((10:Int)) == 2) = false from rfl,cond_false,show (((10:Int)) == 3) = false from rfl,cond_false,show (((10:Int)) == 4) = false from rfl,cond_false,show (((10:Int)) == 5) = false from rfl,cond_false,show (((10:Int)) == 6) = false from rfl,cond_false,show (((10:Int)) == 9) = false from rfl,cond_false,show (((10:Int)) == 10) = true from rfl,cond_true]
    rw [show (⟨#[108,97,98,101,108,32]⟩:ByteArray) = B (wLabel++[32]) from rfl,show (⟨#[10]⟩:ByteArray) = B [10] from rfl]
    rw [must_cat (by (try simp only [lA,lC,lN]); omega),B_append]
    rw [must_cat (by (try simp only [lA,lC,lN]); omega),B_append]
    rw [must_cat (by (try simp only [lA,lC,lN]); omega),B_append]
    rw [must_cat (by (try simp only [lA,lC,lN]); omega),B_append]
    exact fin _ (by simp)
  split at hoS
  ·rename_i hkd
   subst hkd
   obtain ⟨hn1,rfl,rfl,he,rfl,rfl⟩ := hoS
   cases e with
   | none=>exact he.elim
   | some x =>
   have htx:tx (.mk 4 nm [] 0 (some x) [] [] p) d = wSend++32 :: (nm++32 :: bs x 0) := by simp only [tx,bsO,Int.reduceEq,if_false,if_true]
   rw [htx] at hlen fin ⊢
   simp only [lA,lC] at hlen
   rw [show (((4:Int)) == 1) = false from rfl,cond_false,show (((4:Int)) == 2) = false from rfl,cond_false,show (((4:Int)) == 3) = false from rfl,cond_false,show (((4:Int)) == 4) = true from rfl,cond_true]
   rw [show (⟨#[115,101,110,100,32]⟩:ByteArray) = B (wSend++[32]) from rfl,show (⟨#[32]⟩:ByteArray) = B [32] from rfl,show (⟨#[10]⟩:ByteArray) = B [10] from rfl]
   rw [must_cat (by (try simp only [lA,lC,lN]); omega),B_append]
   rw [must_cat (by (try simp only [lA,lC,lN]); omega),B_append]
   rw [showO hn he.1 (by omega),bS]
   rw [must_cat (by (try simp only [lA,lC,lN]); omega),B_append]
   rw [must_cat (by (try simp only [lA,lC,lN]); omega),B_append]
   rw [must_cat (by (try simp only [lA,lC,lN]); omega),B_append]
   rw [must_cat (by (try simp only [lA,lC,lN]); omega),B_append]
   exact fin _ (by simp)
  split at hoS
  ·rename_i hkd
   subst hkd
   obtain ⟨hn1,ho,rfl,rfl,rfl,rfl⟩ := hoS
   have htx:tx (.mk 5 nm o 0 none [] [] p) d = wRecv++32 :: (nm++32 :: o) := by simp only [tx,Int.reduceEq,if_false,if_true]
   rw [htx] at hlen fin ⊢
   simp only [lA,lC] at hlen
   rw [show (((5:Int)) == 1) = false from rfl,cond_false,show (((5:Int)) == 2) = false from rfl,cond_false,show (((5:Int)) == 3) = false from rfl,cond_false,show (((5:Int)) == 4) = false from rfl,cond_false,show (((5:Int)) == 5) = true from rfl,cond_true]
   rw [show (⟨#[114,101,99,118,32]⟩:ByteArray) = B (wRecv++[32]) from rfl,show (⟨#[32]⟩:ByteArray) = B [32] from rfl,show (⟨#[10]⟩:ByteArray) = B [10] from rfl]
   rw [must_cat (by (try simp only [lA,lC,lN]); omega),B_append]
   rw [must_cat (by (try simp only [lA,lC,lN]); omega),B_append]
   rw [must_cat (by (try simp only [lA,lC,lN]); omega),B_append]
   rw [must_cat (by (try simp only [lA,lC,lN]); omega),B_append]
   rw [must_cat (by (try simp only [lA,lC,lN]); omega),B_append]
   rw [must_cat (by (try simp only [lA,lC,lN]); omega),B_append]
   exact fin _ (by simp)
  split at hoS
  ·rename_i hkd
   subst hkd
   obtain ⟨rfl,rfl,rfl,he,rfl,rfl⟩ := hoS
   cases e with
   | none=>exact he.elim
   | some x =>
   have htx:tx (.mk 6 [] [] 0 (some x) [] [] p) d = wPrint++32 :: bs x 0 := by simp only [tx,bsO,Int.reduceEq,if_false,if_true]
   rw [htx] at hlen fin ⊢
   simp only [lA,lC] at hlen
   rw [show (((6:Int)) == 1) = false from rfl,cond_false,show (((6:Int)) == 2) = false from rfl,cond_false,show (((6:Int)) == 3) = false from rfl,cond_false,show (((6:Int)) == 4) = false from rfl,cond_false,show (((6:Int)) == 5) = false from rfl,cond_false,show (((6:Int)) == 6) = true from rfl,cond_true]
   rw [show (⟨#[112,114,105,110,116,32]⟩:ByteArray) = B (wPrint++[32]) from rfl,show (⟨#[10]⟩:ByteArray) = B [10] from rfl]
   rw [showO hn he.1 (by omega),bS]
   rw [must_cat (by (try simp only [lA,lC,lN]); omega),B_append]
   rw [must_cat (by (try simp only [lA,lC,lN]); omega),B_append]
   rw [must_cat (by (try simp only [lA,lC,lN]); omega),B_append]
   rw [must_cat (by (try simp only [lA,lC,lN]); omega),B_append]
   exact fin _ (by simp)
  split at hoS
  ·rename_i hkd
   subst hkd
   obtain ⟨rfl,rfl,rfl,he,hd8,hB,hF⟩ := hoS
   cases e with
   | none=>exact he.elim
   | some x =>
   rw [show (((7:Int)) == 1) = false from rfl,cond_false,show (((7:Int)) == 2) = false from rfl,cond_false,show (((7:Int)) == 3) = false from rfl,cond_false,show (((7:Int)) == 4) = false from rfl,cond_false,show (((7:Int)) == 5) = false from rfl,cond_false,show (((7:Int)) == 6) = false from rfl,cond_false,show (((7:Int)) == 9) = false from rfl,cond_false,show (((7:Int)) == 10) = false from rfl,cond_false,show (((7:Int)) == 7) = true from rfl,cond_true]
   cases els with
   | nil =>
    have htx:tx (.mk 7 [] [] 0 (some x) body [] p) d = wIf++32 :: (bs x 0++32 :: 123 :: 10 :: (txL body (d + 1)++(tabsL d++[125]))) := by simp only [tx,bsO,Int.reduceEq,if_false,if_true]
    rw [htx] at hlen fin ⊢
    simp only [lA,lC,lN] at hlen
    rw [show encSL pl ([]:List St) = [] by simp only [encSL]]
    rw [show (⟨#[105,102,32]⟩:ByteArray) = B (wIf++[32]) from rfl,show (⟨#[32,123,10]⟩:ByteArray) = B [32,123,10] from rfl,show (⟨#[125]⟩:ByteArray) = B [125] from rfl,show (⟨#[10]⟩:ByteArray) = B [10] from rfl]
    rw [showO hn he.1 (by omega),bS]
    rw [must_cat (by (try simp only [lA,lC,lN]); omega),B_append]
    rw [must_cat (by (try simp only [lA,lC,lN]); omega),B_append]
    rw [hb.ln pl body (d + 1) hB (by omega) (by omega) (by omega),bS]
    rw [must_cat (by (try simp only [lA,lC,lN]); omega),B_append]
    rw [must_cat (by (try simp only [lA,lC,lN]); omega),B_append]
    rw [must_cat (by (try simp only [lA,lC,lN]); omega),B_append]
    rw [show (decide (((((List.length ([]:List T)):Nat):Int):Int) > 0)) = false from rfl,cond_false]
    rw [must_cat (by (try simp only [lA,lC,lN]); omega),B_append]
    rw [must_cat (by (try simp only [lA,lC,lN]); omega),B_append]
    rw [must_cat (by (try simp only [lA,lC,lN]); omega),B_append]
    exact fin _ (by simp)
   | cons y els =>
    have htx:tx (.mk 7 [] [] 0 (some x) body (y :: els) p) d = wIf++32 :: (bs x 0++32 :: 123 :: 10 :: (txL body (d + 1)++(tabsL d++125 :: 32 :: (wElse++32 :: 123 :: 10 :: (txL (y :: els) (d + 1)++(tabsL d++[125])))))) := by simp only [tx,bsO,Int.reduceEq,if_false,if_true]
    rw [htx] at hlen fin ⊢
    clear htx
    generalize hys:y :: els = ys at *
    simp only [lA,lC,lN] at hlen
    have hpos:0 < (encSL pl ys).length := by rw [encSL_len,<- hys]; simp
    rw [show (⟨#[105,102,32]⟩:ByteArray) = B (wIf++[32]) from rfl,show (⟨#[32,123,10]⟩:ByteArray) = B [32,123,10] from rfl,show (⟨#[125]⟩:ByteArray) = B [125] from rfl,show (⟨#[10]⟩:ByteArray) = B [10] from rfl]
    rw [showO hn he.1 (by omega),bS]
    rw [must_cat (by (try simp only [lA,lC,lN]); omega),B_append]
    rw [must_cat (by (try simp only [lA,lC,lN]); omega),B_append]
    rw [hb.ln pl body (d + 1) hB (by omega) (by omega) (by omega),bS]
    rw [must_cat (by (try simp only [lA,lC,lN]); omega),B_append]
    rw [must_cat (by (try simp only [lA,lC,lN]); omega),B_append]
    rw [must_cat (by (try simp only [lA,lC,lN]); omega),B_append]
    rw [decide_eq_true (show ((((List.length (encSL pl ys)):Nat):Int):Int) > 0 by omega),cond_true]
    rw [show (⟨#[32,101,108,115,101,32,123,10]⟩:ByteArray) = B (32 :: (wElse++[32,123,10])) from rfl]
    rw [must_cat (by (try simp only [lA,lC,lN]); omega),B_append]
    rw [hb.ln pl ys (d + 1) hF (by omega) (by omega) (by omega),bS]
    rw [must_cat (by (try simp only [lA,lC,lN]); omega),B_append]
    rw [must_cat (by (try simp only [lA,lC,lN]); omega),B_append]
    rw [must_cat (by (try simp only [lA,lC,lN]); omega),B_append]
    rw [must_cat (by (try simp only [lA,lC,lN]); omega),B_append]
    rw [must_cat (by (try simp only [lA,lC,lN]); omega),B_append]
    rw [must_cat (by (try simp only [lA,lC,lN]); omega),B_append]
    exact fin _ (by simp)
  split at hoS
  ·rename_i hkd
   subst hkd
   obtain ⟨rfl,rfl,hm9,rfl,hd8,hB,rfl⟩ := hoS
   have htx:tx (.mk 8 [] [] mm none body [] p) d = wRepeat++32 :: (Lib.decDigits mm++32 :: 123 :: 10 :: (txL body (d + 1)++(tabsL d++[125]))) := by simp only [tx,Int.reduceEq,if_false,if_true]
   rw [htx] at hlen fin ⊢
   simp only [lA,lC,lN] at hlen
   rw [show (((8:Int)) == 1) = false from rfl,cond_false,show (((8:Int)) == 2) = false from rfl,cond_false,show (((8:Int)) == 3) = false from rfl,cond_false,show (((8:Int)) == 4) = false from rfl,cond_false,show (((8:Int)) == 5) = false from rfl,cond_false,show (((8:Int)) == 6) = false from rfl,cond_false,show (((8:Int)) == 9) = false from rfl,cond_false,show (((8:Int)) == 10) = false from rfl,cond_false,show (((8:Int)) == 7) = false from rfl,cond_false,show (((8:Int)) == 8) = true from rfl,cond_true]
   rw [decide_eq_true (show (((mm:Nat):Int):Int) ≥ 0 by omega),cond_true]
   rw [show (⟨#[114,101,112,101,97,116,32]⟩:ByteArray) = B (wRepeat++[32]) from rfl,show (⟨#[32,123,10]⟩:ByteArray) = B [32,123,10] from rfl,show (⟨#[125]⟩:ByteArray) = B [125] from rfl,show (⟨#[10]⟩:ByteArray) = B [10] from rfl]
   rw [digs_ok (by omega) (by omega),bS]
   rw [must_cat (by (try simp only [lA,lC,lN]); omega),B_append]
   rw [must_cat (by (try simp only [lA,lC,lN]); omega),B_append]
   rw [hb.ln pl body (d + 1) hB (by omega) (by omega) (by omega),bS]
   rw [must_cat (by (try simp only [lA,lC,lN]); omega),B_append]
   rw [must_cat (by (try simp only [lA,lC,lN]); omega),B_append]
   rw [must_cat (by (try simp only [lA,lC,lN]); omega),B_append]
   rw [must_cat (by (try simp only [lA,lC,lN]); omega),B_append]
   rw [must_cat (by (try simp only [lA,lC,lN]); omega),B_append]
   rw [must_cat (by (try simp only [lA,lC,lN]); omega),B_append]
   exact fin _ (by simp)
  ·exact hoS.elim
theorem ln_ok (hn:100000 < n):∀ m,LnOk (unB_z59 n m) m
 | 0=>⟨fun pl l d _ h1 h2=>by omega⟩
 | m + 1=>by
  have ih := ln_ok hn m
  refine ⟨fun pl l d hok hd hm hlen=>?_⟩
  have hl30:l.length <= (txL l d).length := by
   clear hok
   induction l with
   | nil=>simp [txL]
   | cons x r ih2=>simp only [txL,lA,lC] at hlen ⊢; have := ih2 (by omega); omega
  have h := ln_loop (n := n) hn ih pl hok hd (by omega) n 0 [] (by omega) (by omega) (by omega) (by simpa using hlen)
  unfold unB_z59
  simp only
  unfold f_z59 m_z72
  rw [tabs_f n d (by omega) (by omega),bS]
  rw [show ((⟨#[]⟩:ByteArray)) = B [] from rfl,show ((0:Int)) = ((0:Nat):Int) from rfl,h]
  simp
theorem lines_eq (hn:100000 < n) (pl:Nat -> Nat × Nat) {l:List St} (hok:okL l 1) (hlen:(txL l 1).length <= 30000):m_z59 n (encSL pl l) 1 = some (B (txL l 1)) :=
 (ln_ok hn n).ln pl l 1 hok (by omega) (by omega) hlen
end
def declW (k:Int):List UInt8 := if k = 1 then wVar else if k = 2 then wWide else if k = 3 then wAtomic else if k = 4 then wLocal else if k = 5 then wMutex else wChan
def okD (d:Dc):Prop := (1 <= d.kind /\ d.kind <= 6) /\ okN d.name /\ (d.kind ≠ 6 -> d.num = 0) /\ d.num <= 3
def dtx (d:Dc):List UInt8 := declW d.kind++32 :: (d.name++(if d.kind = 6 then 32 :: Lib.decDigits d.num else []))
def dtL:List Dc -> List UInt8
 | []=>[]
 | d :: r=>dtx d++10 :: dtL r
def ttL:List (List St) -> List UInt8
 | []=>[]
 | l :: r=>wGo++32 :: 123 :: 10 :: (txL l 1++125 :: 10 :: ttL r)
def Dc.strip (d:Dc):Dc := ⟨d.kind,d.name,d.num,0⟩
def okDL (l:List Dc):Prop := ∀ d ∈ l,okD d
def okTL (l:List (List St)):Prop := ∀ t ∈ l,okL t 1
theorem kinds {k:Int} (h:1 <= k /\ k <= 6):k = 1 \/ k = 2 \/ k = 3 \/ k = 4 \/ k = 5 \/ k = 6 := by omega
section
variable {n:Nat}
theorem fit_D (pl:Nat -> Nat × Nat) (d:Dc):fits [.int .i64,.str,.int .i64,.cplx .f64] (encD pl d) = true := rfl
theorem idx_D (pl:Nat -> Nat × Nat) {l:List Dc} {i:Nat} (h:i < l.length):idx true [.int .i64,.str,.int .i64,.cplx .f64] (l.map (encD pl)) (i:Int) = some (encD pl l[i]) := by
 unfold idx
 rw [cond_true,decide_eq_true (Int.natCast_nonneg _),cond_true,Int.toNat_natCast]
 simp [h,fit_D]
theorem idx_T (pl:Nat -> Nat × Nat) {l:List (List St)} {i:Nat} (h:i < l.length):idx true [.list] (l.map (encT pl)) (i:Int) = some (encT pl l[i]) := by
 unfold idx
 rw [cond_true,decide_eq_true (Int.natCast_nonneg _),cond_true,Int.toNat_natCast]
 have:∀ x:List St,fits [.list] (encT pl x) = true := fun _=>rfl
 simp [h,this]
theorem dt_loop (hn:100000 < n) (pl:Nat -> Nat × Nat) {l:List Dc} (hok:okDL l) (x:List T):∀ (k i:Nat) (u:List UInt8),l.length - i < k -> i <= l.length -> l.length <= 1000 -> u.length + (dtL (l.drop i)).length <= 30000 →
  l_z68_3 n k (B u,(i:Int),l.map (encD pl),x) = some (Sum.inr (B (u++dtL (l.drop i)),l.map (encD pl),x)) := by
 intro k
 induction k with
 | zero=>intro i u h; omega
 | succ k ih =>
  intro i u hk hi hl hlen
  show l_z68_3_B n (l_z68_3 n k) (B u,(i:Int),l.map (encD pl),x) = _
  unfold l_z68_3_B
  simp only
  rw [List.length_map]
  by_cases h:¬ i < l.length
  ·rw [decide_eq_false (by omega),cond_false,List.drop_eq_nil_of_le (by omega)]
   simp only [dtL,List.append_nil]
  have h:i < l.length := by omega
  have hdrop:l.drop i = l[i] :: l.drop (i + 1) := List.drop_eq_getElem_cons h
  have hd:okD l[i] := hok _ (List.getElem_mem h)
  rw [decide_eq_true (show (i:Int) < ((l.length:Nat):Int) by omega),cond_true,idx_D pl h,bS]
  have hup:IntKind.wrap .i64 ((i:Int) + 1) = ((i + 1:Nat):Int) := by rw [wrap_id (by omega) (by omega)]; omega
  rw [hup]
  rw [hdrop] at hlen ⊢
  generalize l[i] = s at *
  simp only [dtL] at hlen ⊢
  simp only [lA,lC] at hlen
  have fin:∀ w:List UInt8,w = u++(dtx s++[10]) -> l_z68_3 n k (B w,((i + 1:Nat):Int),l.map (encD pl),x) = some (Sum.inr (B (u++(dtx s++10 :: dtL (l.drop (i + 1)))),l.map (encD pl),x)) := by
   rintro w rfl
   rw [ih (i + 1) _ (by omega) (by omega) hl (by simp only [lA,lC,lN]; omega)]
   simp
  obtain ⟨kd,nm,num,p⟩ := s
  obtain ⟨hk6,hN,h0,h3⟩ := hd
  simp only at hk6 hN h0 h3
  have c0:((encD pl ⟨kd,nm,num,p⟩).cell 0).int = kd := rfl
  have c1:((encD pl ⟨kd,nm,num,p⟩).cell 1).str = B nm := rfl
  have c2:((encD pl ⟨kd,nm,num,p⟩).cell 2).int = (num:Int) := rfl
  rw [c0,c1,c2,decide_eq_false (show ¬ (kd:Int) < 1 by omega),decide_eq_false (show ¬ (kd:Int) > 6 by omega),cond_false,cond_false]
  have hix:idx1 true (.str) [(T.sc (.string (⟨#[]⟩:ByteArray))),(T.sc (.string (⟨#[118,97,114]⟩:ByteArray))),(T.sc (.string (⟨#[119,105,100,101]⟩:ByteArray))),(T.sc (.string (⟨#[97,116,111,109,105,99]⟩:ByteArray))),(T.sc (.string (⟨#[108,111,99,97,108]⟩:ByteArray))),(T.sc (.string (⟨#[109,117,116,101,120]⟩:ByteArray))),(T.sc (.string (⟨#[99,104,97,110]⟩:ByteArray)))] kd = some (T.sc (.string (B (declW kd)))) := by
   rcases kinds hk6 with rfl | rfl | rfl | rfl | rfl | rfl <;> rfl
  rw [hix,bS]
  have c3:(T.sc (.string (B (declW kd)))).str = B (declW kd) := rfl
  have hwl:(declW kd).length <= 6 := by rcases kinds hk6 with rfl | rfl | rfl | rfl | rfl | rfl <;> decide
  rw [c3,show (⟨#[32]⟩:ByteArray) = B [32] from rfl,show (⟨#[10]⟩:ByteArray) = B [10] from rfl]
  by_cases h6:kd = 6
  ·have htx:dtx ⟨kd,nm,num,p⟩ = declW kd++32 :: (nm++32 :: Lib.decDigits num) := by simp only [dtx,h6,if_true]
   rw [htx] at hlen fin ⊢
   simp only [lA,lC] at hlen
   rw [must_cat (by (try simp only [lA,lC,lN]); omega),B_append]
   rw [must_cat (by (try simp only [lA,lC,lN]); omega),B_append]
   rw [must_cat (by (try simp only [lA,lC,lN]); omega),B_append]
   rw [show ((kd:Int) == 6) = true by rw [h6]; rfl,cond_true,decide_eq_false (show ¬ (((num:Nat):Int):Int) < 0 by omega),cond_false]
   rw [must_cat (by (try simp only [lA,lC,lN]); omega),B_append,digs_ok (by omega) (by omega),bS]
   rw [must_cat (by (try simp only [lA,lC,lN]); omega),B_append]
   rw [must_cat (by (try simp only [lA,lC,lN]); omega),B_append]
   exact fin _ (by simp)
  ·have htx:dtx ⟨kd,nm,num,p⟩ = declW kd++32 :: nm := by simp only [dtx,h6,if_false,List.append_nil]
   rw [htx] at hlen fin ⊢
   simp only [lA,lC] at hlen
   rw [must_cat (by (try simp only [lA,lC,lN]); omega),B_append]
   rw [must_cat (by (try simp only [lA,lC,lN]); omega),B_append]
   rw [must_cat (by (try simp only [lA,lC,lN]); omega),B_append]
   rw [show ((kd:Int) == 6) = false from beq_eq_false_iff_ne.2 h6,cond_false]
   rw [must_cat (by (try simp only [lA,lC,lN]); omega),B_append]
   exact fin _ (by simp)
theorem tt_loop (hn:100000 < n) (pl:Nat -> Nat × Nat) {l:List (List St)} (hok:okTL l) (x:List T):∀ (k i:Nat) (u:List UInt8),l.length - i < k -> i <= l.length -> l.length <= 1000 -> u.length + (ttL (l.drop i)).length <= 30000 →
  l_z68_15 n k (B u,(i:Int),x,l.map (encT pl)) = some (B (u++ttL (l.drop i)),x,l.map (encT pl)) := by
 intro k
 induction k with
 | zero=>intro i u h; omega
 | succ k ih =>
  intro i u hk hi hl hlen
  show l_z68_15_B n (l_z68_15 n k) (B u,(i:Int),x,l.map (encT pl)) = _
  unfold l_z68_15_B
  simp only
  rw [List.length_map]
  by_cases h:¬ i < l.length
  ·rw [decide_eq_false (by omega),cond_false,List.drop_eq_nil_of_le (by omega)]
   simp only [ttL,List.append_nil]
  have h:i < l.length := by omega
  have hdrop:l.drop i = l[i] :: l.drop (i + 1) := List.drop_eq_getElem_cons h
  have hd:okL l[i] 1 := hok _ (List.getElem_mem h)
  have hup:IntKind.wrap .i64 ((i:Int) + 1) = ((i + 1:Nat):Int) := by rw [wrap_id (by omega) (by omega)]; omega
  rw [decide_eq_true (show (i:Int) < ((l.length:Nat):Int) by omega),cond_true,hup,idx_T pl h]
  rw [hdrop] at hlen ⊢
  generalize l[i] = s at *
  simp only [ttL] at hlen ⊢
  simp only [lA,lC] at hlen
  have c0:((encT pl s).cell 0).lst = encSL pl s := rfl
  have w1:wGo.length = 2 := rfl
  rw [show (⟨#[103,111,32,123,10]⟩:ByteArray) = B (wGo++[32,123,10]) from rfl,show (⟨#[125,10]⟩:ByteArray) = B [125,10] from rfl]
  rw [must_cat (by (try simp only [lA,lC,lN]); omega),B_append,bS,c0,lines_eq hn pl hd (by omega),bS]
  rw [must_cat (by (try simp only [lA,lC,lN]); omega),B_append]
  rw [must_cat (by (try simp only [lA,lC,lN]); omega),B_append]
  rw [ih (i + 1) _ (by omega) (by omega) hl (by simp only [lA,lC,lN]; omega)]
  simp
theorem showP_eq (hn:100000 < n) (pl:Nat -> Nat × Nat) {ds:List Dc} {tl:List (List St)} (hd:okDL ds) (h1:ds.length <= 1000) (ht:okTL tl) (h2:tl.length <= 1000) (hlen:(dtL ds++ttL tl).length <= 30000) :
  m_z68 n (ds.map (encD pl)) (tl.map (encT pl)) = some (B (dtL ds++ttL tl)) := by
 rw [lA] at hlen
 unfold m_z68
 have a := dt_loop hn pl hd (tl.map (encT pl)) n 0 [] (by omega) (by omega) h1 (by simp only [lN,List.drop_zero]; omega)
 rw [show (⟨#[]⟩:ByteArray) = B [] from rfl,show l_z68_3 n n (B [],0,ds.map (encD pl),tl.map (encT pl)) = _ from a,bS]
 simp only [Sum.elim_inr,List.nil_append,List.drop_zero]
 have b := tt_loop hn pl ht (ds.map (encD pl)) n 0 (dtL ds) (by omega) (by omega) h2 (by simp only [List.drop_zero]; omega)
 rw [show l_z68_15 n n (B (dtL ds),0,ds.map (encD pl),tl.map (encT pl)) = _ from b,bS,List.drop_zero]
end
section
variable {n:Nat}
theorem sameO (hn:100000 < n) {e:Option E} (he:match e with | some x=>(bs x 0).length <= 60000 | none=>True):m_z30 n (kO e) (nO e) (wO e) (oO e) (kO e) (nO e) (wO e) (oO e) = some true := by
 cases e with
 | some x =>
  have := ht_le x 0
  have h := sameR x x (n := n) (by have:(bs x 0).length <= 60000 := he; omega)
  rw [show m_z30 n (kO (some x)) (nO (some x)) (wO (some x)) (oO (some x)) (kO (some x)) (nO (some x)) (wO (some x)) (oO (some x)) = _ from h]
  simp
 | none =>
  obtain ⟨j,hj⟩:∃ j,n = j + 1 := ⟨n - 1,by omega⟩
  unfold m_z30
  rw [show unB_z30 n n = unB_z30 n (j + 1) by rw [<- hj]]
  show f_z30 (unB_z30 n j) n 0 0 (⟨#[]⟩:ByteArray) [] 0 0 (⟨#[]⟩:ByteArray) [] = some true
  generalize unB_z30 n j = b
  unfold f_z30
  simp only [bne_self_eq_false,beq_self_eq_true,Bool.not_true,cond_false]
  rw [show l_z30_4 b n n = l_z30_4_B b n (l_z30_4 b n j) by rw [show l_z30_4 b n n = l_z30_4 b n (j + 1) by rw [<- hj]]; rfl]
  unfold l_z30_4_B
  rfl
theorem tx_sub {k:Int} {nm o:List UInt8} {m:Nat} {e:Option E} {body els:List St} {p d:Nat} (h:okS (.mk k nm o m e body els p) d) :
  (txL body (d + 1)).length <= (tx (.mk k nm o m e body els p) d).length /\ (txL els (d + 1)).length <= (tx (.mk k nm o m e body els p) d).length /\ okL body (d + 1) /\ okL els (d + 1) /\ (d < 8 \/ (body = [] /\ els = [])) /\ (bsO e).length <= (tx (.mk k nm o m e body els p) d).length := by
 unfold okS at h
 have nl:(txL [] (d + 1)).length = 0 := by simp only [txL,lN]
 split at h
 ·rename_i hk; subst hk
  obtain ⟨_,_,_,he,rfl,rfl⟩ := h
  refine ⟨by omega,by omega,by simp only [okL],by simp only [okL],.inr ⟨rfl,rfl⟩,?_⟩
  simp only [tx,if_true,lA,lC]; omega
 split at h
 ·obtain ⟨_,_,_,rfl,rfl,rfl⟩ := h
  exact ⟨by omega,by omega,by simp only [okL],by simp only [okL],.inr ⟨rfl,rfl⟩,by simp only [bsO,lN]; omega⟩
 split at h
 ·rename_i hk; subst hk
  obtain ⟨_,_,_,he,rfl,rfl⟩ := h
  refine ⟨by omega,by omega,by simp only [okL],by simp only [okL],.inr ⟨rfl,rfl⟩,?_⟩
  simp only [tx,Int.reduceEq,if_false,if_true,lA,lC]; omega
 split at h
 ·obtain ⟨_,_,_,rfl,rfl,rfl⟩ := h
  exact ⟨by omega,by omega,by simp only [okL],by simp only [okL],.inr ⟨rfl,rfl⟩,by simp only [bsO,lN]; omega⟩
 split at h
 ·rename_i hk; subst hk
  obtain ⟨_,_,_,he,rfl,rfl⟩ := h
  refine ⟨by omega,by omega,by simp only [okL],by simp only [okL],.inr ⟨rfl,rfl⟩,?_⟩
  simp only [tx,Int.reduceEq,if_false,if_true,lA,lC]; omega
 split at h
 ·rename_i hk; subst hk
  obtain ⟨_,_,_,he,hd,hB,hF⟩ := h
  refine ⟨?_,?_,hB,hF,.inl hd,?_⟩
  ·simp only [tx,Int.reduceEq,if_false,if_true,lA,lC]; omega
  ·cases els with
   | nil=>omega
   | cons y els =>
    simp only [tx,Int.reduceEq,if_false,if_true,lA,lC]; omega
  ·simp only [tx,Int.reduceEq,if_false,if_true,lA,lC]; omega
 split at h
 ·rename_i hk; subst hk
  obtain ⟨_,_,_,rfl,hd,hB,rfl⟩ := h
  refine ⟨?_,by omega,hB,by simp only [okL],.inl hd,by simp only [bsO,lN]; omega⟩
  simp only [tx,Int.reduceEq,if_false,if_true,lA,lC]; omega
 ·exact h.elim
structure SbOk (b:B_z27) (m:Nat):Prop where
 sb:∀ (p1 p2:Nat -> Nat × Nat) (la lb:List St) (d:Nat),okL la d -> d <= 8 -> 9 < m + d -> (txL la d).length <= 60000 -> stripL la = stripL lb -> b.y16 (encSL p1 la) (encSL p2 lb) = some true
 nil:0 < m -> b.y16 [] [] = some true
theorem stripL_map:∀ l:List St,stripL l = l.map St.strip
 | []=>rfl
 | x :: l=>by simp only [stripL,List.map_cons,stripL_map l]
theorem okL_at {l:List St} {d i:Nat} (h:okL l d) (hi:i < l.length):okS l[i] d := by
 have e := List.take_append_drop i l
 rw [<- e] at h
 have h2 := (okL_append.1 h).2
 rw [List.drop_eq_getElem_cons hi] at h2
 simp only [okL] at h2
 exact h2.1
theorem txL_at:∀ {l:List St} {d i:Nat} (hi:i < l.length),(tx l[i] d).length <= (txL l d).length
 | x :: l,d,0,_=>by simp only [txL,lA,lC,List.getElem_cons_zero]; omega
 | x :: l,d,i + 1,hi=>by
  have := txL_at (l := l) (d := d) (i := i) (by simpa using hi)
  simp only [txL,lA,lC,List.getElem_cons_succ]
  omega
theorem txL_len:∀ (l:List St) (d:Nat),l.length <= (txL l d).length
 | [],d=>by simp
 | x :: l,d=>by simp only [txL,lA,lC]; have := txL_len l d; omega
theorem sb_loop (hn:100000 < n) {b:B_z27} {m:Nat} (hb:SbOk b m) (p1 p2:Nat -> Nat × Nat) {la lb:List St} {d:Nat} (hok:okL la d) (hd:d <= 8) (hm:9 < m + 1 + d) (hlen:(txL la d).length <= 60000) (hst:stripL la = stripL lb):∀ (k i:Nat),la.length - i < k -> i <= la.length →
  l_z27_4 b n k (encSL p1 la,encSL p2 lb,(i:Int)) = some (Sum.inl ()) := by
 have hll:la.length = lb.length := by
  have := congrArg List.length hst
  rw [stripL_map,stripL_map,List.length_map,List.length_map] at this
  exact this
 intro k
 induction k with
 | zero=>intro i h; omega
 | succ k ih =>
  intro i hk hi
  show l_z27_4_B b n (l_z27_4 b n k) (encSL p1 la,encSL p2 lb,(i:Int)) = _
  unfold l_z27_4_B
  simp only
  rw [encSL_len]
  by_cases h:¬ i < la.length
  ·rw [decide_eq_false (by omega),cond_false]
  have h:i < la.length := by omega
  have h2:i < lb.length := by omega
  have hll2 := txL_len la d
  have hup:IntKind.wrap .i64 ((i:Int) + 1) = ((i + 1:Nat):Int) := by rw [wrap_id (by omega) (by omega)]; omega
  rw [decide_eq_true (show (i:Int) < ((la.length:Nat):Int) by omega),cond_true,idx_S p1 h,bS,idx_S p2 h2,bS,hup,ih (i + 1) (by omega) (by omega)]
  have hs:la[i].strip = lb[i].strip := by
   have e:(stripL la)[i]? = (stripL lb)[i]? := by rw [hst]
   rw [stripL_map,stripL_map,List.getElem?_map,List.getElem?_map,List.getElem?_eq_getElem h,List.getElem?_eq_getElem h2] at e
   simpa using e
  have hS := okL_at hok h
  have hT := txL_at (d := d) h
  generalize la[i] = x at *
  generalize lb[i] = y at *
  obtain ⟨kd,nm,o,mm,e,body,els,p⟩ := x
  obtain ⟨kd',nm',o',mm',e',body',els',p'⟩ := y
  simp only [St.strip,St.mk.injEq] at hs
  obtain ⟨rfl,rfl,rfl,rfl,rfl,hbody,hels,_⟩ := hs
  obtain ⟨t1,t2,t3,t4,t5,t6⟩ := tx_sub hS
  have cc:∀ (pl:Nat -> Nat × Nat) (bd el:List St) (q:Nat),((encS pl (.mk kd nm o mm e bd el q)).cell 0).int = kd /\ ((encS pl (.mk kd nm o mm e bd el q)).cell 1).str = B nm /\ ((encS pl (.mk kd nm o mm e bd el q)).cell 2).str = B o /\ ((encS pl (.mk kd nm o mm e bd el q)).cell 3).int = (mm:Int) /\ ((encS pl (.mk kd nm o mm e bd el q)).cell 4).int = kO e /\ ((encS pl (.mk kd nm o mm e bd el q)).cell 5).int = nO e /\ ((encS pl (.mk kd nm o mm e bd el q)).cell 6).str = wO e /\ ((encS pl (.mk kd nm o mm e bd el q)).cell 7).lst = oO e /\ ((encS pl (.mk kd nm o mm e bd el q)).cell 8).lst = encSL pl bd /\ ((encS pl (.mk kd nm o mm e bd el q)).cell 9).lst = encSL pl el := by
   intro pl bd el q
   simp only [encS]
   exact ⟨rfl,rfl,rfl,rfl,rfl,rfl,rfl,rfl,rfl,rfl⟩
  obtain ⟨a0,a1,a2,a3,a4,a5,a6,a7,a8,a9⟩ := cc p1 body els p
  obtain ⟨b0,b1,b2,b3,b4,b5,b6,b7,b8,b9⟩ := cc p2 body' els' p'
  rw [a0,a1,a2,a3,a4,a5,a6,a7,a8,a9,b0,b1,b2,b3,b4,b5,b6,b7,b8,b9]
  have he:m_z30 n (kO e) (nO e) (wO e) (oO e) (kO e) (nO e) (wO e) (oO e) = some true := by
   refine sameO hn ?_
   cases e with
   | none=>trivial
   | some x=>simp only [bsO] at t6; show (bs x 0).length <= 60000; omega
  have hbo:b.y16 (encSL p1 body) (encSL p2 body') = some true := by
   rcases t5 with h8 | ⟨rfl,rfl⟩
   ·exact hb.sb p1 p2 body body' (d + 1) t3 (by omega) (by omega) (by omega) hbody
   ·have:body' = [] := by cases body' with
     | nil=>rfl
     | cons=>simp [stripL] at hbody
    subst this
    simp only [encSL]
    exact hb.nil (by omega)
  have hel:b.y16 (encSL p1 els) (encSL p2 els') = some true := by
   rcases t5 with h8 | ⟨rfl,rfl⟩
   ·exact hb.sb p1 p2 els els' (d + 1) t4 (by omega) (by omega) (by omega) hels
   ·have:els' = [] := by cases els' with
     | nil=>rfl
     | cons=>simp [stripL] at hels
    subst this
    simp only [encSL]
    exact hb.nil (by omega)
  rw [he,hbo,hel]
  have k1:((kd:Int) != kd) = false := bne_self_eq_false _
  have k2:((((mm:Nat):Int):Int) != ((mm:Nat):Int)) = false := bne_self_eq_false _
  have k3:∀ q:ByteArray,(ByteArray.toList q == ByteArray.toList q) = true := fun q=>beq_self_eq_true _
  rw [k1,k2,k3,k3]
  rfl
theorem sb_ok (hn:100000 < n):∀ m,SbOk (unB_z27 n m) m
 | 0=>⟨fun p1 p2 la lb d _ h1 h2=>by omega,fun h=>by omega⟩
 | m + 1=>by
  have ih := sb_ok hn m
  have hun:(unB_z27 n (m + 1)).y16 = f_z27 (unB_z27 n m) n := rfl
  refine ⟨fun p1 p2 la lb d hok hd hm hlen hst=>?_,fun _=>?_⟩
  ·have hll:la.length = lb.length := by
    have := congrArg List.length hst
    rw [stripL_map,stripL_map,List.length_map,List.length_map] at this
    exact this
   have hl := txL_len la d
   rw [hun]
   unfold f_z27
   rw [encSL_len,encSL_len,hll,bne_self_eq_false,cond_false,show l_z27_4 (unB_z27 n m) n n (encSL p1 la,encSL p2 lb,0) = _ from sb_loop hn ih p1 p2 hok hd (by omega) hlen hst n 0 (by omega) (by omega),bS]
   rfl
  ·rw [hun]
   obtain ⟨j,rfl⟩:∃ j,n = j + 1 := ⟨n - 1,by omega⟩
   rfl
theorem sameB_eq (hn:100000 < n) (p1 p2:Nat -> Nat × Nat) {la lb:List St} (hok:okL la 1) (hlen:(txL la 1).length <= 60000) (hst:stripL la = stripL lb):m_z27 n (encSL p1 la) (encSL p2 lb) = some true :=
 (sb_ok hn n).sb p1 p2 la lb 1 hok (by omega) (by omega) hlen hst
theorem sd_loop (p1 p2:Nat -> Nat × Nat) {la lb:List Dc} (hst:la.map Dc.strip = lb.map Dc.strip) (hl:la.length <= 60000):∀ (k i:Nat),la.length - i < k -> i <= la.length →
  l_z28_4 n k (la.map (encD p1),lb.map (encD p2),(i:Int)) = some (Sum.inr ()) := by
 have hll:la.length = lb.length := by
  have := congrArg List.length hst
  rw [List.length_map,List.length_map] at this
  exact this
 intro k
 induction k with
 | zero=>intro i h; omega
 | succ k ih =>
  intro i hk hi
  show l_z28_4_B n (l_z28_4 n k) (la.map (encD p1),lb.map (encD p2),(i:Int)) = _
  unfold l_z28_4_B
  simp only
  rw [List.length_map]
  by_cases h:¬ i < la.length
  ·rw [decide_eq_false (by omega),cond_false]
  have h:i < la.length := by omega
  have h2:i < lb.length := by omega
  have hup:IntKind.wrap .i64 ((i:Int) + 1) = ((i + 1:Nat):Int) := by rw [wrap_id (by omega) (by omega)]; omega
  rw [decide_eq_true (show (i:Int) < ((la.length:Nat):Int) by omega),cond_true,hup,ih (i + 1) (by omega) (by omega),idx_D p1 h,bS,idx_D p2 h2,bS]
  have hs:la[i].strip = lb[i].strip := by
   have e:(la.map Dc.strip)[i]? = (lb.map Dc.strip)[i]? := by rw [hst]
   rw [List.getElem?_map,List.getElem?_map,List.getElem?_eq_getElem h,List.getElem?_eq_getElem h2] at e
   simpa using e
  have i1 := idx_D p1 h
  have i2 := idx_D p2 h2
  generalize la[i] = x at *
  generalize lb[i] = y at *
  obtain ⟨kd,nm,mm,p⟩ := x
  obtain ⟨kd',nm',mm',p'⟩ := y
  simp only [Dc.strip,Dc.mk.injEq,and_true] at hs
  obtain ⟨rfl,rfl,rfl⟩ := hs
  have cc:∀ (pl:Nat -> Nat × Nat) (q:Nat),((encD pl ⟨kd,nm,mm,q⟩).cell 0).int = kd /\ ((encD pl ⟨kd,nm,mm,q⟩).cell 1).str = B nm /\ ((encD pl ⟨kd,nm,mm,q⟩).cell 2).int = (mm:Int) := fun _ _=>⟨rfl,rfl,rfl⟩
  obtain ⟨a0,a1,a2⟩ := cc p1 p
  obtain ⟨b0,b1,b2⟩ := cc p2 p'
  have k1:((kd:Int) != kd) = false := bne_self_eq_false _
  have k2:((((mm:Nat):Int):Int) != ((mm:Nat):Int)) = false := bne_self_eq_false _
  have k3:∀ q:ByteArray,(ByteArray.toList q == ByteArray.toList q) = true := fun q=>beq_self_eq_true _
  rw [a0,b0,k1,Bool.not_false,i1,bS,i2,bS,a1,b1,k3,Bool.not_true]
  simp only [cond_false,Bool.not_false]
  rw [i1,bS,i2,bS,a2,b2,k2,cond_false]
theorem sameD_eq (hn:100000 < n) (p1 p2:Nat -> Nat × Nat) {la lb:List Dc} (hst:la.map Dc.strip = lb.map Dc.strip) (hl:la.length <= 60000):m_z28 n (la.map (encD p1)) (lb.map (encD p2)) = some true := by
 have hll:la.length = lb.length := by
  have := congrArg List.length hst
  rw [List.length_map,List.length_map] at this
  exact this
 unfold m_z28
 rw [List.length_map,List.length_map,hll,bne_self_eq_false,cond_false,show l_z28_4 n n (la.map (encD p1),lb.map (encD p2),0) = _ from sd_loop p1 p2 hst hl n 0 (by omega) (by omega),bS]
 rfl
theorem st_loop (hn:100000 < n) (p1 p2:Nat -> Nat × Nat) {la lb:List (List St)} (hok:okTL la) (hlen:(ttL la).length <= 60000) (hst:la.map stripL = lb.map stripL) (hl:la.length <= 60000) (x y:List T):∀ (k i:Nat),la.length - i < k -> i <= la.length →
  l_z67_4 n k ((i:Int),x,la.map (encT p1),y,lb.map (encT p2)) = some (Sum.inr (x,la.map (encT p1),y,lb.map (encT p2))) := by
 have hll:la.length = lb.length := by
  have := congrArg List.length hst
  rw [List.length_map,List.length_map] at this
  exact this
 have hsub:∀ {l:List (List St)} {i:Nat} (hi:i < l.length),(txL l[i] 1).length <= (ttL l).length := by
  intro l
  induction l with
  | nil=>intro i hi; simp at hi
  | cons q l ih =>
   intro i hi
   cases i with
   | zero=>simp only [ttL,lA,lC,List.getElem_cons_zero]; omega
   | succ i =>
    have := ih (i := i) (by simpa using hi)
    simp only [ttL,lA,lC,List.getElem_cons_succ]
    omega
 intro k
 induction k with
 | zero=>intro i h; omega
 | succ k ih =>
  intro i hk hi
  show l_z67_4_B n (l_z67_4 n k) ((i:Int),x,la.map (encT p1),y,lb.map (encT p2)) = _
  unfold l_z67_4_B
  simp only
  rw [List.length_map]
  by_cases h:¬ i < la.length
  ·rw [decide_eq_false (by omega),cond_false]
  have h:i < la.length := by omega
  have h2:i < lb.length := by omega
  have hup:IntKind.wrap .i64 ((i:Int) + 1) = ((i + 1:Nat):Int) := by rw [wrap_id (by omega) (by omega)]; omega
  have hs:stripL la[i] = stripL lb[i] := by
   have e:(la.map stripL)[i]? = (lb.map stripL)[i]? := by rw [hst]
   rw [List.getElem?_map,List.getElem?_map,List.getElem?_eq_getElem h,List.getElem?_eq_getElem h2] at e
   simpa using e
  have hq := hsub h
  rw [decide_eq_true (show (i:Int) < ((la.length:Nat):Int) by omega),cond_true,hup,ih (i + 1) (by omega) (by omega),idx_T p1 h,bS,idx_T p2 h2,bS]
  rw [show ((encT p1 la[i]).cell 0).lst = encSL p1 la[i] from rfl,show ((encT p2 lb[i]).cell 0).lst = encSL p2 lb[i] from rfl,sameB_eq hn p1 p2 (hok _ (List.getElem_mem h)) (by omega) hs,bS]
  rfl
theorem same_eq (hn:100000 < n) (p1 p2:Nat -> Nat × Nat) {da db:List Dc} {la lb:List (List St)} (hd:da.map Dc.strip = db.map Dc.strip) (hdl:da.length <= 60000) (hok:okTL la) (hlen:(ttL la).length <= 60000) (hst:la.map stripL = lb.map stripL) (hl:la.length <= 60000) :
  m_z67 n (da.map (encD p1)) (la.map (encT p1)) (db.map (encD p2)) (lb.map (encT p2)) = some true := by
 have hll:la.length = lb.length := by
  have := congrArg List.length hst
  rw [List.length_map,List.length_map] at this
  exact this
 unfold m_z67
 rw [sameD_eq hn p1 p2 hd hdl,bS,List.length_map,List.length_map,hll,bne_self_eq_false,show l_z67_4 n n (0,da.map (encD p1),la.map (encT p1),db.map (encD p2),lb.map (encT p2)) = _ from st_loop hn p1 p2 hok hlen hst hl _ _ n 0 (by omega) (by omega),bS]
 rfl
end
def pl0:Nat -> Nat × Nat := fun _=>(0,0)
section
variable {n:Nat}
theorem act_cell (x:Act5):(x.t.cell 0).int = x.w /\ (x.t.cell 1).int = x.a /\ (x.t.cell 2).int = x.b /\ (x.t.cell 3).int = x.n /\ (x.t.cell 4).lst = ints .i64 x.e := ⟨rfl,rfl,rfl,rfl,rfl⟩
theorem sized_act (l:List Act5):sized 5 (l.map Act5.t) = true := by
 unfold sized
 rw [List.all_map]
 exact List.all_eq_true.2 (fun x _=>rfl)
theorem idx_act {x:Act5} {l:List Act5}:idx true [.int .i64,.int .i64,.int .i64,.int .i64,.list] ((x :: l).map Act5.t) 0 = some x.t := rfl
theorem drop_act (x:Act5) (l:List Act5):List.drop (Int.toNat 1) (List.take (Int.toNat ((List.length ((x :: l).map Act5.t):Nat):Int)) ((x :: l).map Act5.t)) = l.map Act5.t := by
 rw [Int.toNat_natCast,List.take_length]
 rfl
theorem short_eq (hn:100000 < n) (a b c d:Int) (z:List Int):∃ x,m_z52 n a b c d (ints .i64 z) = some (kE x,nE x,wE x,oE x) /\ saneE x /\ fitsE kwd x 0 0 /\ (bs x 0).length <= 22 := by
 unfold m_z52
 rw [ints_length]
 by_cases h:3 < z.length
 ·rw [decide_eq_true (show (((z.length:Nat):Int):Int) > 3 by omega),cond_true,must_eq (by simp only [Bool.and_eq_true,decide_eq_true_eq]; exact ⟨⟨⟨by omega,by omega⟩,by omega⟩,sized_ints _⟩),show Int.toNat 3 = 3 from rfl,show Int.toNat 0 = 0 from rfl,take_ints,List.drop_zero]
  obtain ⟨x,h1,h2,h3⟩ := expr_eqL (n := n) (z.take 3) (by simp; omega) (by omega)
  rw [h1,bS]
  refine ⟨x,rfl,h2.1,h2.2.1 0 0 (by omega),?_⟩
  have := h3 0
  simp only [List.length_take] at this
  omega
 ·rw [decide_eq_false (show ¬ (((z.length:Nat):Int):Int) > 3 by omega),cond_false]
  obtain ⟨x,h1,h2,h3⟩ := expr_eqL (n := n) z (by omega) (by omega)
  rw [h1,bS]
  refine ⟨x,rfl,h2.1,h2.2.1 0 0 (by omega),?_⟩
  have := h3 0
  omega
theorem two_eq (a b:UInt8) (x:Int):∃ p,(p = a \/ p = b) /\ (∀ {R:Type} (f:T -> Option R),(Option.bind (m_z63 n x 2) fun r=>Option.bind (idx1 true (.str) [(T.sc (.string (⟨#[a]⟩:ByteArray))),(T.sc (.string (⟨#[b]⟩:ByteArray)))] r) f) = f (T.sc (.string (B [p])))) := by
 obtain ⟨q,hq,hq2⟩ := pick_eq n x 2 (by omega) (by omega)
 have:q = 0 \/ q = 1 := by omega
 rcases this with rfl | rfl
 ·exact ⟨a,.inl rfl,fun f=>by rw [hq]; rfl⟩
 ·exact ⟨b,.inr rfl,fun f=>by rw [hq]; rfl⟩
theorem fit11 (es:List T) (y:T) (h:es.length <= 100000) (hy:sized 11 [y] = true) {R:Type} (q:Option R):must true ((Nat.beq 11 11 || Nat.beq 11 0)&&(decide (List.length es + List.length [y] <= 1073741824)&&sized 11 [y])) q = q := by
 rw [List.length_singleton,decide_eq_true (show es.length + 1 <= 1073741824 by omega),hy]
 rfl
structure StOk (n:Nat) (b:B_z53) (m:Nat):Prop where
 st:∀ (l:List Act5) (most:Int) (d:Nat),l.length <= 16 -> d <= 3 -> 3 < m + d -> ∃ (out:List St) (r:List Act5),b.y13 (l.map Act5.t) most (d:Int) = some (encSL pl0 out,r.map Act5.t) /\ okL out d /\ (∀ x ∈ r,x ∈ l) /\ r.length <= l.length /\ (txL out d).length + 53 * r.length <= 53 * l.length
theorem txL_app (l:List St) (s:St) (d:Nat):(txL (l++[s]) d).length = (txL l d).length + (d + (tx s d).length + 1) := by
 induction l with
 | nil=>simp only [List.nil_append,txL,lA,lC,lN,tabsL,List.length_replicate]; omega
 | cons x l ih=>simp only [List.cons_append,txL,lA,lC,ih]; omega
theorem tx7_len {e:E} {bd el:List St} {p d:Nat}:(tx (.mk 7 [] [] 0 (some e) bd el p) d).length <= (bs e 0).length + (txL bd (d + 1)).length + (txL el (d + 1)).length + 2 * d + 20 := by
 have w6:wIf.length = 2 := rfl
 have w7:wElse.length = 4 := rfl
 have tb:(tabsL d).length = d := List.length_replicate
 cases el with
 | nil=>simp only [tx,bsO,Int.reduceEq,if_false,if_true,lA,lC,lN]; omega
 | cons y el=>simp only [tx,bsO,Int.reduceEq,if_false,if_true,lA,lC,lN]; omega
theorem st_loop' (hn:100000 < n) {b:B_z53} {m:Nat} (hb:StOk n b m) {d:Nat} (hd:d <= 3) (hm:3 < m + 1 + d) (most:Int):∀ (k:Nat) (l:List Act5) (out:List St),l.length < k -> l.length <= 16 -> okL out d -> (txL out d).length + 53 * l.length <= 2000 →
  ∃ (out':List St) (r:List Act5),l_z53_2 b n k (l.map Act5.t,most,(d:Int),encSL pl0 out) = some (r.map Act5.t,encSL pl0 out') /\ okL out' d /\ (∀ x ∈ r,x ∈ l) /\ r.length <= l.length /\ (txL out' d).length + 53 * r.length <= (txL out d).length + 53 * l.length := by
 intro k
 induction k with
 | zero=>intro l out h; omega
 | succ k ih =>
  intro l out hk h16 hok h2000
  show ∃ (out':List St) (r:List Act5),l_z53_2_B b n (l_z53_2 b n k) (l.map Act5.t,most,(d:Int),encSL pl0 out) = _ /\ _
  unfold l_z53_2_B
  simp only
  cases l with
  | nil =>
   have:(bif (decide ((((List.length (encSL pl0 out):Nat):Int):Int) < most)) then (decide ((((List.length (([]:List Act5).map Act5.t):Nat):Int):Int) > 0)) else false) = false := by
    cases (decide ((((List.length (encSL pl0 out):Nat):Int):Int) < most)) <;> rfl
   rw [this,cond_false]
   exact ⟨out,[],rfl,hok,fun x hx=>hx,Nat.le_refl _,Nat.le_refl _⟩
  | cons x l =>
  simp only [lC] at hk h16 h2000
  by_cases hmost:¬ (((List.length (encSL pl0 out):Nat):Int) < most)
  ·rw [decide_eq_false hmost,cond_false,cond_false]
   exact ⟨out,x :: l,rfl,hok,fun x hx=>hx,Nat.le_refl _,Nat.le_refl _⟩
  rw [decide_eq_true (Decidable.not_not.1 hmost),decide_eq_true (show ((((List.length ((x :: l).map Act5.t):Nat):Int):Int) > 0) by simp only [List.length_map,lC]; omega),cond_true,cond_true,idx_act,bS]
  rw [must_eq (by simp only [Bool.and_eq_true,decide_eq_true_eq]; exact ⟨⟨⟨by omega,by simp only [List.length_map,lC]; omega⟩,Int.le_refl _⟩,sized_act _⟩),drop_act]
  obtain ⟨v0,v1,v2,v3,v4⟩ := act_cell x
  rw [v0,v1,v2,v3,v4]
  have hol:(encSL pl0 out).length <= 2000 := by rw [encSL_len]; have := txL_len out d; omega
  have push:∀ (S:St) (y:T) (l2:List Act5),y = encS pl0 S -> okS S d -> l2.length <= l.length -> (∀ z ∈ l2,z ∈ l) -> (d + (tx S d).length + 1) + 53 * l2.length <= 53 * (l.length + 1) →
    ∃ (out':List St) (r:List Act5),must true ((Nat.beq 11 11 || Nat.beq 11 0)&&(decide (List.length (encSL pl0 out) + List.length [y] <= 1073741824)&&sized 11 [y])) (l_z53_2 b n k (l2.map Act5.t,most,(d:Int),encSL pl0 out++[y])) = some (r.map Act5.t,encSL pl0 out') /\ okL out' d /\ (∀ z ∈ r,z ∈ x :: l) /\ r.length <= (x :: l).length /\ (txL out' d).length + 53 * r.length <= (txL out d).length + 53 * (x :: l).length := by
   rintro S y l2 rfl hS h2 hmem hlen
   rw [fit11 _ _ (by omega) (by cases S; simp only [encS]; rfl)]
   have e1:encSL pl0 out++[encS pl0 S] = encSL pl0 (out++[S]) := by rw [encSL_app]; simp only [encSL]
   rw [e1]
   have hap := txL_app out S d
   obtain ⟨out',r,g1,g2,g3,g4,g5⟩ := ih l2 (out++[S]) (by omega) (by omega) (okL_append.2 ⟨hok,by simp only [okL]; exact ⟨hS,trivial⟩⟩) (by omega)
   exact ⟨out',r,g1,g2,fun z hz2=>by simp [hmem z (g3 z hz2)],by simp only [lC]; omega,by simp only [lC]; omega⟩
  have hup:IntKind.wrap .i64 ((d:Int) + 1) = ((d + 1:Nat):Int) := by rw [wrap_id (by omega) (by omega)]; omega
  rw [hup]
  obtain ⟨w1,w2,w3,w4,w5,w6,w7,w8,w9,w10⟩ := wlens
  obtain ⟨q,hq,hq24⟩ := pick_eq n x.w 24 (by omega) (by omega)
  obtain ⟨ex,hex,hxs,hxf,hxl⟩ := short_eq (n := n) hn x.w x.a x.b x.n x.e
  rw [hq,bS,hex]
  by_cases k9:q < 9
  ·rw [decide_eq_true (show ((q:Nat):Int) < 9 by omega),cond_true]
   obtain ⟨p,hp,hpl⟩ := plain_eq (n := n) x.a
   obtain ⟨n1,n2,n3⟩ := names8_ok p hp
   rw [hpl,bS,bS]
   exact push (.mk 1 p [] 0 (some ex) [] [] 0) _ l (by simp only [encS,encSL]; first | done | rfl) (by unfold okS; rw [if_pos rfl]; exact ⟨⟨n1,n2⟩,rfl,rfl,⟨hxs,hxf⟩,rfl,rfl⟩) (Nat.le_refl _) (fun z hz=>hz) (by simp only [tx,bsO,if_true,lA,lC]; omega)
  rw [decide_eq_false (show ¬ ((q:Nat):Int) < 9 by omega),cond_false]
  by_cases k11:q < 11
  ·rw [decide_eq_true (show ((q:Nat):Int) < 11 by omega),cond_true]
   exact push (.mk 2 [109] [] 0 none [] [] 0) _ l (by simp only [encS,encSL]; first | done | rfl) (by unfold okS; rw [if_neg (by decide),if_pos (by decide)]; exact ⟨⟨by decide,by decide⟩,rfl,rfl,rfl,rfl,rfl⟩) (Nat.le_refl _) (fun z hz=>hz) (by simp only [tx,Int.reduceEq,if_false,if_true,lA,lC,lN]; omega)
  rw [decide_eq_false (show ¬ ((q:Nat):Int) < 11 by omega),cond_false]
  by_cases k13:q < 13
  ·rw [decide_eq_true (show ((q:Nat):Int) < 13 by omega),cond_true]
   exact push (.mk 3 [109] [] 0 none [] [] 0) _ l (by simp only [encS,encSL]; first | done | rfl) (by unfold okS; rw [if_neg (by decide),if_pos (by decide)]; exact ⟨⟨by decide,by decide⟩,rfl,rfl,rfl,rfl,rfl⟩) (Nat.le_refl _) (fun z hz=>hz) (by simp only [tx,Int.reduceEq,if_false,if_true,lA,lC,lN]; omega)
  rw [decide_eq_false (show ¬ ((q:Nat):Int) < 13 by omega),cond_false]
  obtain ⟨pc,hpc,hpcf⟩ := two_eq (n := n) 99 100 x.a
  obtain ⟨pk,hpk,hpkf⟩ := two_eq (n := n) 108 107 x.a
  have okc:okN [pc] := by rcases hpc with rfl | rfl <;> exact ⟨by decide,by decide⟩
  have okk:okN [pk] := by rcases hpk with rfl | rfl <;> exact ⟨by decide,by decide⟩
  by_cases k15:q < 15
  ·rw [decide_eq_true (show ((q:Nat):Int) < 15 by omega),cond_true,hpcf,bS]
   exact push (.mk 4 [pc] [] 0 (some ex) [] [] 0) _ l (by simp only [encS,encSL]; first | done | rfl) (by unfold okS; rw [if_neg (by decide),if_neg (by decide),if_pos rfl]; exact ⟨okc,rfl,rfl,⟨hxs,hxf⟩,rfl,rfl⟩) (Nat.le_refl _) (fun z hz=>hz) (by simp only [tx,bsO,Int.reduceEq,if_false,if_true,lA,lC,lN]; omega)
  rw [decide_eq_false (show ¬ ((q:Nat):Int) < 15 by omega),cond_false]
  by_cases k17:q < 17
  ·rw [decide_eq_true (show ((q:Nat):Int) < 17 by omega),cond_true,hpcf]
   obtain ⟨p,hp,hpl⟩ := plain_eq (n := n) x.b
   obtain ⟨n1,n2,n3⟩ := names8_ok p hp
   rw [hpl,bS]
   exact push (.mk 5 [pc] p 0 none [] [] 0) _ l (by simp only [encS,encSL]; first | done | rfl) (by unfold okS; rw [if_neg (by decide),if_neg (by decide),if_neg (by decide),if_pos rfl]; exact ⟨okc,⟨n1,n2⟩,rfl,rfl,rfl,rfl⟩) (Nat.le_refl _) (fun z hz=>hz) (by simp only [tx,bsO,Int.reduceEq,if_false,if_true,lA,lC,lN]; omega)
  rw [decide_eq_false (show ¬ ((q:Nat):Int) < 17 by omega),cond_false]
  by_cases k18:q < 18
  ·rw [decide_eq_true (show ((q:Nat):Int) < 18 by omega),cond_true,bS]
   exact push (.mk 6 [] [] 0 (some ex) [] [] 0) _ l (by simp only [encS,encSL]; first | done | rfl) (by unfold okS; rw [if_neg (by decide),if_neg (by decide),if_neg (by decide),if_neg (by decide),if_pos rfl]; exact ⟨rfl,rfl,rfl,⟨hxs,hxf⟩,rfl,rfl⟩) (Nat.le_refl _) (fun z hz=>hz) (by simp only [tx,bsO,Int.reduceEq,if_false,if_true,lA,lC,lN]; omega)
  rw [decide_eq_false (show ¬ ((q:Nat):Int) < 18 by omega),cond_false]
  by_cases k20:q < 20 /\ d < 3
  ·rw [decide_eq_true (show ((q:Nat):Int) < 20 by omega),decide_eq_true (show ((d:Nat):Int) < 3 by omega),cond_true,cond_true,bS]
   obtain ⟨y,hy,hy2⟩ := pick_eq n x.a 2 (by omega) (by omega)
   rw [hy,bS]
   obtain ⟨o1,r1,f1,f2,f3,f4,f5⟩ := hb.st l (IntKind.wrap .i64 (1 + (y:Int))) (d + 1) (by omega) (by omega) (by omega)
   rw [f1,bS,must_eq (by decide)]
   cases ((Int.tmod x.b 3:Int) == 0) with
   | true =>
    rw [cond_true]
    obtain ⟨y',hy',_⟩ := pick_eq n x.n 2 (by omega) (by omega)
    rw [hy',bS]
    obtain ⟨o2,r2,g1,g2,g3,g4,g5⟩ := hb.st r1 (IntKind.wrap .i64 (1 + (y':Int))) (d + 1) (by omega) (by omega) (by omega)
    rw [g1,bS]
    have ht := tx7_len (e := ex) (bd := o1) (el := o2) (p := 0) (d := d)
    exact push (.mk 7 [] [] 0 (some ex) o1 o2 0) _ r2 (by simp only [encS]; first | done | rfl) (by unfold okS; rw [if_neg (by decide),if_neg (by decide),if_neg (by decide),if_neg (by decide),if_neg (by decide),if_pos rfl]; exact ⟨rfl,rfl,rfl,⟨hxs,hxf⟩,by omega,f2,g2⟩) (by omega) (fun z hz=>f3 z (g3 z hz)) (by omega)
   | false =>
    rw [cond_false]
    have ht := tx7_len (e := ex) (bd := o1) (el := []) (p := 0) (d := d)
    have hnil:(txL [] (d + 1)).length = 0 := by simp only [txL,lN]
    exact push (.mk 7 [] [] 0 (some ex) o1 [] 0) _ r1 (by simp only [encS,encSL]; first | done | rfl) (by unfold okS; rw [if_neg (by decide),if_neg (by decide),if_neg (by decide),if_neg (by decide),if_neg (by decide),if_pos rfl]; exact ⟨rfl,rfl,rfl,⟨hxs,hxf⟩,by omega,f2,by simp only [okL]⟩) (by omega) f3 (by omega)
  have c20:(bif (decide (((q:Nat):Int) < 20)) then (decide (((d:Nat):Int) < 3)) else false) = false := by
   by_cases h:q < 20
   ·rw [decide_eq_true (show ((q:Nat):Int) < 20 by omega),cond_true,decide_eq_false_iff_not]; omega
   ·rw [decide_eq_false (show ¬ ((q:Nat):Int) < 20 by omega),cond_false]
  rw [c20,cond_false]
  by_cases k21:q < 21 /\ d < 3
  ·rw [decide_eq_true (show ((q:Nat):Int) < 21 by omega),decide_eq_true (show ((d:Nat):Int) < 3 by omega),cond_true,cond_true]
   obtain ⟨y0,hy0,hy03⟩ := pick_eq n x.n 3 (by omega) (by omega)
   obtain ⟨y,hy,hy2⟩ := pick_eq n x.a 2 (by omega) (by omega)
   rw [hy0,bS,hy,bS]
   obtain ⟨o1,r1,f1,f2,f3,f4,f5⟩ := hb.st l (IntKind.wrap .i64 (1 + (y:Int))) (d + 1) (by omega) (by omega) (by omega)
   rw [f1,bS]
   have tb:(tabsL d).length = d := List.length_replicate
   have hdg:(Lib.decDigits y0).length = 1 := by rw [digits1 (show y0 < 10 by omega)]; rfl
   exact push (.mk 8 [] [] y0 none o1 [] 0) _ r1 (by simp only [encS,encSL]; first | done | rfl) (by unfold okS; rw [if_neg (by decide),if_neg (by decide),if_neg (by decide),if_neg (by decide),if_neg (by decide),if_neg (by decide),if_pos rfl]; exact ⟨rfl,rfl,by omega,rfl,by omega,f2,rfl⟩) (by omega) f3 (by simp only [tx,Int.reduceEq,if_false,if_true,lA,lC,lN]; omega)
  have c21:(bif (decide (((q:Nat):Int) < 21)) then (decide (((d:Nat):Int) < 3)) else false) = false := by
   by_cases h:q < 21
   ·rw [decide_eq_true (show ((q:Nat):Int) < 21 by omega),cond_true,decide_eq_false_iff_not]; omega
   ·rw [decide_eq_false (show ¬ ((q:Nat):Int) < 21 by omega),cond_false]
  rw [c21,cond_false]
  by_cases k22:q < 22
  ·rw [decide_eq_true (show ((q:Nat):Int) < 22 by omega),cond_true,hpkf]
   exact push (.mk 9 [pk] [] 0 none [] [] 0) _ l (by simp only [encS,encSL]; first | done | rfl) (by unfold okS; rw [if_neg (by decide),if_pos (by decide)]; exact ⟨okk,rfl,rfl,rfl,rfl,rfl⟩) (Nat.le_refl _) (fun z hz=>hz) (by simp only [tx,Int.reduceEq,if_false,if_true,lA,lC,lN]; omega)
  rw [decide_eq_false (show ¬ ((q:Nat):Int) < 22 by omega),cond_false]
  by_cases k23:q < 23
  ·rw [decide_eq_true (show ((q:Nat):Int) < 23 by omega),cond_true,hpkf]
   exact push (.mk 10 [pk] [] 0 none [] [] 0) _ l (by simp only [encS,encSL]; first | done | rfl) (by unfold okS; rw [if_neg (by decide),if_pos (by decide)]; exact ⟨okk,rfl,rfl,rfl,rfl,rfl⟩) (Nat.le_refl _) (fun z hz=>hz) (by simp only [tx,Int.reduceEq,if_false,if_true,lA,lC,lN]; omega)
  rw [decide_eq_false (show ¬ ((q:Nat):Int) < 23 by omega),cond_false,bS]
  exact push (.mk 1 [116] [] 0 (some ex) [] [] 0) _ l (by simp only [encS,encSL]; first | done | rfl) (by unfold okS; rw [if_pos rfl]; exact ⟨⟨by decide,by decide⟩,rfl,rfl,⟨hxs,hxf⟩,rfl,rfl⟩) (Nat.le_refl _) (fun z hz=>hz) (by simp only [tx,bsO,if_true,lA,lC,lN]; omega)
theorem st_ok (hn:100000 < n):∀ m,StOk n (unB_z53 n m) m
 | 0=>⟨fun l most d _ h1 h2=>by omega⟩
 | m + 1=>by
  have ih := st_ok hn m
  refine ⟨fun l most d h16 hd hm=>?_⟩
  have hnil:(txL [] d).length = 0 := by simp only [txL,lN]
  obtain ⟨out,r,g1,g2,g3,g4,g5⟩ := st_loop' hn ih hd (by omega) most n l [] (by omega) h16 (by simp only [okL]) (by omega)
  refine ⟨out,r,?_,g2,g3,g4,by omega⟩
  show f_z53 (unB_z53 n m) n (l.map Act5.t) most (d:Int) = _
  unfold f_z53
  simp only [encSL] at g1
  rw [g1,bS]
end
section
variable {n:Nat}
theorem pickW_nat (x m:Int) (h1:0 < m) (h2:m <= 1000):∃ q:Nat,pickW x m = (q:Int) /\ (q:Int) < m := by
 have a1:Int.tmod x m < m := Int.tmod_lt_of_pos x h1
 have a2:-m < Int.tmod x m := by
  have := Int.tmod_lt_of_pos (-x) h1
  rw [Int.neg_tmod] at this
  omega
 unfold pickW
 by_cases h:Int.tmod x m < 0
 ·rw [if_pos h]
  refine ⟨(Int.tmod x m + m).toNat,?_,by omega⟩
  unfold wrap64
  omega
 ·rw [if_neg h]
  exact ⟨(Int.tmod x m).toNat,by omega,by omega⟩
def dsOf (k0 k1:Int) (q:Nat):List Dc := [⟨k0,[120],0,0⟩,⟨k1,[121],0,0⟩,⟨2,[122],0,0⟩,⟨3,[97],0,0⟩,⟨4,[116],0,0⟩,⟨5,[109],0,0⟩,⟨6,[99],q,0⟩,⟨6,[100],0,0⟩]
theorem declW_len (k:Int):(declW k).length <= 6 := by
 unfold declW
 repeat' split
 all_goals decide
theorem decls_eq (how:Int):∃ ds,m_z49 n how = some (ds.map (encD pl0)) /\ okDL ds /\ ds.length = 8 /\ (dtL ds).length <= 100 := by
 obtain ⟨q,hq,hq3⟩ := pickW_nat how 3 (by omega) (by omega)
 unfold m_z49 declsM declsK
 rw [hq]
 generalize hk0:(if pickW (wrap64 (Int.tdiv how 3)) 7 = 4 then (2:Int) else if pickW (wrap64 (Int.tdiv how 3)) 7 = 6 then 3 else 1) = k0
 generalize hk1:(if pickW (wrap64 (Int.tdiv how 3)) 7 = 5 then (2:Int) else 1) = k1
 have b0:1 <= k0 /\ k0 <= 3 := by subst hk0; split <;> (try split) <;> omega
 have b1:1 <= k1 /\ k1 <= 2 := by subst hk1; split <;> omega
 refine ⟨dsOf k0 k1 q,by rfl,?_,rfl,?_⟩
 ·intro d hd
  simp only [dsOf,List.mem_cons,List.not_mem_nil,or_false] at hd
  have m0:okN [120] := ⟨by decide,by decide⟩
  have m1:okN [121] := ⟨by decide,by decide⟩
  have m2:okN [99] := ⟨by decide,by decide⟩
  rcases hd with rfl | rfl | rfl | rfl | rfl | rfl | rfl | rfl
  ·exact ⟨by simp only; omega,m0,fun _=>rfl,by simp only; omega⟩
  ·exact ⟨by simp only; omega,m1,fun _=>rfl,by simp only; omega⟩
  ·exact ⟨by decide,⟨by decide,by decide⟩,fun _=>rfl,by decide⟩
  ·exact ⟨by decide,⟨by decide,by decide⟩,fun _=>rfl,by decide⟩
  ·exact ⟨by decide,⟨by decide,by decide⟩,fun _=>rfl,by decide⟩
  ·exact ⟨by decide,⟨by decide,by decide⟩,fun _=>rfl,by decide⟩
  ·exact ⟨by simp only; omega,m2,fun h=>absurd rfl h,by simp only; omega⟩
  ·exact ⟨by decide,⟨by decide,by decide⟩,fun _=>rfl,by decide⟩
 ·have l0 := declW_len k0
  have l1 := declW_len k1
  have l2 := declW_len 2
  have l3 := declW_len 3
  have l4 := declW_len 4
  have l5 := declW_len 5
  have l6 := declW_len 6
  have hdg:(Lib.decDigits q).length = 1 := by rw [digits1 (show q < 10 by omega)]; rfl
  have hd0:(Lib.decDigits 0).length = 1 := by rw [digits1 (show 0 < 10 by omega)]; rfl
  have n0:¬ k0 = 6 := by omega
  have n1:¬ k1 = 6 := by omega
  simp only [dsOf,dtL,dtx,n0,n1,if_false,if_true,Int.reduceEq,lA,lC,lN]
  omega
theorem acts_eq (l:List Act5):m_z65 n (l.map Act5.t) = some ((l.take 16).map Act5.t) := by
 unfold m_z65
 rw [List.length_map]
 by_cases h:16 < l.length
 ·rw [decide_eq_true (show (((l.length:Nat):Int):Int) > 16 by omega),cond_true,must_eq (by simp only [Bool.and_eq_true,decide_eq_true_eq]; exact ⟨⟨⟨by omega,by omega⟩,by omega⟩,sized_act _⟩),show Int.toNat 16 = 16 from rfl,show Int.toNat 0 = 0 from rfl,List.drop_zero,List.map_take]
 ·rw [decide_eq_false (show ¬ (((l.length:Nat):Int):Int) > 16 by omega),cond_false,List.take_of_length_le (by omega)]
theorem stmts_eq (hn:100000 < n) (l:List Act5) (most:Int):∃ out x,m_z53 n ((l.take 16).map Act5.t) most 1 = some (encSL pl0 out,x) /\ okL out 1 /\ (txL out 1).length <= 848 := by
 have hl:(l.take 16).length <= 16 := by simp only [List.length_take]; omega
 obtain ⟨out,r,h1,h2,_,_,h3⟩ := (st_ok hn n).st (l.take 16) most 1 hl (by omega) (by omega)
 exact ⟨out,_,h1,h2,by omega⟩
theorem prog_step (hn:100000 < n) (k:(List T) × Int × (List T) × (List T) × (List T) × Int × (List T) × (List T) × (List T) × (List T) -> Option ((List T) × (List T) × (List T) × (List T))) (a b c:List Act5) (most:Int) (i:Nat) (hi:i = 0 \/ i = 1 \/ (i = 2 /\ c ≠ [] /\ most <= 4)) (x y z:List T) (acc:List (List St)) (ha:acc.length <= 10) :
  ∃ out,l_z64_3_B n k (c.map Act5.t,most,a.map Act5.t,b.map Act5.t,c.map Act5.t,(i:Int),x,y,z,acc.map (encT pl0)) = k (c.map Act5.t,most,a.map Act5.t,b.map Act5.t,c.map Act5.t,((i + 1:Nat):Int),x,y,z,(acc++[out]).map (encT pl0)) /\ okL out 1 /\ (txL out 1).length <= 848 := by
 have hl:(acc.map (encT pl0)).length <= 6001 := by rw [List.length_map]; omega
 unfold l_z64_3_B
 simp only
 rcases hi with rfl | rfl | ⟨rfl,hc,hm⟩
 ·obtain ⟨out,r,h1,h2,h3⟩ := stmts_eq (n := n) hn a most
  refine ⟨out,?_,h2,h3⟩
  rw [show (decide ((((0:Nat):Int):Int) < 3)) = true from rfl,cond_true,show idx1 true (.list) [(T.list (a.map Act5.t)),(T.list (b.map Act5.t)),(T.list (c.map Act5.t))] ((0:Nat):Int) = some (T.list (a.map Act5.t)) from rfl,bS,show ((((0:Nat):Int):Int) == 2) = false from rfl,cond_false,cond_false,show (T.list (a.map Act5.t)).lst = a.map Act5.t from rfl,acts_eq,bS,h1,bS,fitT _ _ hl,List.map_append]
  rfl
 ·obtain ⟨out,r,h1,h2,h3⟩ := stmts_eq (n := n) hn b most
  refine ⟨out,?_,h2,h3⟩
  rw [show (decide ((((1:Nat):Int):Int) < 3)) = true from rfl,cond_true,show idx1 true (.list) [(T.list (a.map Act5.t)),(T.list (b.map Act5.t)),(T.list (c.map Act5.t))] ((1:Nat):Int) = some (T.list (b.map Act5.t)) from rfl,bS,show ((((1:Nat):Int):Int) == 2) = false from rfl,cond_false,cond_false,show (T.list (b.map Act5.t)).lst = b.map Act5.t from rfl,acts_eq,bS,h1,bS,fitT _ _ hl,List.map_append]
  rfl
 ·obtain ⟨out,r,h1,h2,h3⟩ := stmts_eq (n := n) hn c most
  refine ⟨out,?_,h2,h3⟩
  have hcl:((((List.length (c.map Act5.t):Nat):Int):Int) == 0) = false := by
   rw [beq_eq_false_iff_ne,List.length_map]
   intro h
   exact hc (List.eq_nil_of_length_eq_zero (by omega))
  rw [show (decide ((((2:Nat):Int):Int) < 3)) = true from rfl,cond_true,show idx1 true (.list) [(T.list (a.map Act5.t)),(T.list (b.map Act5.t)),(T.list (c.map Act5.t))] ((2:Nat):Int) = some (T.list (c.map Act5.t)) from rfl,bS,show ((((2:Nat):Int):Int) == 2) = true from rfl,cond_true,hcl,cond_false,decide_eq_false (show ¬ most > 4 by omega),cond_false,show (T.list (c.map Act5.t)).lst = c.map Act5.t from rfl,acts_eq,bS,h1,bS,fitT _ _ hl,List.map_append]
  rfl
theorem make_eq (hn:100000 < n) (how:Int) (a b c:List Act5) (most:Int):∃ ds tl,m_z64 n how (a.map Act5.t) (b.map Act5.t) (c.map Act5.t) most = some (ds.map (encD pl0),tl.map (encT pl0)) /\ okDL ds /\ ds.length = 8 /\ (dtL ds).length <= 100 /\ okTL tl /\ (tl.length = 2 \/ (tl.length = 3 /\ c ≠ [] /\ most <= 4)) /\ (ttL tl).length <= 2600 := by
 obtain ⟨ds,h1,h2,h3,h4⟩ := decls_eq (n := n) how
 unfold m_z64
 rw [h1,bS]
 obtain ⟨j,hj⟩:∃ j,n = j + 4 := ⟨n - 4,by omega⟩
 have wg:wGo.length = 2 := rfl
 obtain ⟨o1,e1,f1,g1⟩ := prog_step hn (l_z64_3 n (j + 3)) a b c most 0 (.inl rfl) [] [] (ds.map (encD pl0)) [] (by simp)
 obtain ⟨o2,e2,f2,g2⟩ := prog_step hn (l_z64_3 n (j + 2)) a b c most 1 (.inr (.inl rfl)) [] [] (ds.map (encD pl0)) [o1] (by simp)
 have hst:l_z64_3 n n (c.map Act5.t,most,a.map Act5.t,b.map Act5.t,c.map Act5.t,0,[],[],ds.map (encD pl0),[]) = l_z64_3_B n (l_z64_3 n (j + 1)) (c.map Act5.t,most,a.map Act5.t,b.map Act5.t,c.map Act5.t,((2:Nat):Int),[],[],ds.map (encD pl0),[o1,o2].map (encT pl0)) := by
  rw [show l_z64_3 n n = l_z64_3 n (j + 4) by rw [<- hj]]
  refine Eq.trans (show _ = l_z64_3_B n (l_z64_3 n (j + 3)) _ from rfl) (e1.trans ?_)
  refine Eq.trans (show _ = l_z64_3_B n (l_z64_3 n (j + 2)) _ from rfl) (e2.trans ?_)
  rfl
 rw [hst]
 by_cases hc:c ≠ [] /\ most <= 4
 ·obtain ⟨o3,e3,f3,g3⟩ := prog_step hn (l_z64_3 n (j + 1)) a b c most 2 (.inr (.inr ⟨rfl,hc⟩)) [] [] (ds.map (encD pl0)) [o1,o2] (by simp)
  have e4:l_z64_3 n (j + 1) (c.map Act5.t,most,a.map Act5.t,b.map Act5.t,c.map Act5.t,((2 + 1:Nat):Int),[],[],ds.map (encD pl0),([o1,o2]++[o3]).map (encT pl0)) = some ([],[],ds.map (encD pl0),([o1,o2]++[o3]).map (encT pl0)) := rfl
  rw [e3,e4,bS]
  refine ⟨ds,[o1,o2]++[o3],rfl,h2,h3,h4,?_,.inr ⟨rfl,hc⟩,?_⟩
  ·intro t ht
   simp only [List.cons_append,List.nil_append,List.mem_cons,List.not_mem_nil,or_false] at ht
   rcases ht with rfl | rfl | rfl
   ·exact f1
   ·exact f2
   ·exact f3
  ·simp only [List.cons_append,List.nil_append,ttL,lA,lC,lN]; omega
 ·have e3:l_z64_3_B n (l_z64_3 n (j + 1)) (c.map Act5.t,most,a.map Act5.t,b.map Act5.t,c.map Act5.t,((2:Nat):Int),[],[],ds.map (encD pl0),[o1,o2].map (encT pl0)) = some ([],[],ds.map (encD pl0),[o1,o2].map (encT pl0)) := by
   unfold l_z64_3_B
   simp only
   have hq:(bif ((((List.length (c.map Act5.t):Nat):Int):Int) == 0) then true else (decide ((most:Int) > 4))) = true := by
    by_cases hz:c = []
    ·rw [hz]; rfl
    ·have:most > 4 := by
      refine Classical.byContradiction fun h=>hc ⟨hz,by omega⟩
     rw [decide_eq_true this]
     cases ((((List.length (c.map Act5.t):Nat):Int):Int) == 0) <;> rfl
   rw [show (decide ((((2:Nat):Int):Int) < 3)) = true from rfl,cond_true,show idx1 true (.list) [(T.list (a.map Act5.t)),(T.list (b.map Act5.t)),(T.list (c.map Act5.t))] ((2:Nat):Int) = some (T.list (c.map Act5.t)) from rfl,bS,show ((((2:Nat):Int):Int) == 2) = true from rfl,cond_true,hq,cond_true]
  rw [e3,bS]
  refine ⟨ds,[o1,o2],rfl,h2,h3,h4,?_,.inl rfl,?_⟩
  ·intro t ht
   simp only [List.mem_cons,List.not_mem_nil,or_false] at ht
   rcases ht with rfl | rfl
   ·exact f1
   ·exact f2
  ·simp only [ttL,lA,lC,lN]; omega
end
section
variable {n:Nat}
end
end Go.Proofs.YtbcgpjlkkcdmmaaGreatDoor.W

namespace Go.Proofs.YtbcgpjlkkcdmmaaGreatDoor.W
open Go Go.Eng Go.Eng.Fl Go.RowKit
set_option linter.unusedVariables false
set_option linter.unusedSimpArgs false
section
variable {n:Nat}
mutual
def exS:St -> Prop
 | .mk k n o m e body els p=>(bsO e).length <= 12100 /\ exL body /\ exL els
def exL:List St -> Prop
 | []=>True
 | s :: r=>exS s /\ exL r
end
end
section
variable {n:Nat}
def exTL (l:List (List St)):Prop := ∀ t ∈ l,exL t
end
theorem tx_sum {k:Int} {nm o:List UInt8} {m:Nat} {e:Option E} {body els:List St} {p d:Nat} (h:okS (.mk k nm o m e body els p) d):(txL body (d + 1)).length + (txL els (d + 1)).length <= (tx (.mk k nm o m e body els p) d).length := by
 have nl:(txL [] (d + 1)).length = 0 := by simp only [txL,lN]
 unfold okS at h
 split at h
 ·obtain ⟨_,_,_,he,rfl,rfl⟩ := h; omega
 split at h
 ·obtain ⟨_,_,_,rfl,rfl,rfl⟩ := h; omega
 split at h
 ·obtain ⟨_,_,_,he,rfl,rfl⟩ := h; omega
 split at h
 ·obtain ⟨_,_,_,rfl,rfl,rfl⟩ := h; omega
 split at h
 ·obtain ⟨_,_,_,he,rfl,rfl⟩ := h; omega
 split at h
 ·rename_i hk; subst hk
  cases els with
  | nil=>simp only [tx,Int.reduceEq,if_false,if_true,lA,lC]; omega
  | cons y els=>simp only [tx,Int.reduceEq,if_false,if_true,lA,lC]; omega
 split at h
 ·rename_i hk; subst hk
  obtain ⟨_,_,_,rfl,hd,hB,rfl⟩ := h
  unfold tx
  simp only [Int.reduceEq,if_false,if_true,lA,lC]; omega
 ·exact h.elim
section
variable {n:Nat}
theorem sizedS11 (pl:Nat -> Nat × Nat) (l:List St):sized 11 (l.map (encS pl)) = true := by
 unfold sized
 rw [List.all_map,List.all_eq_true]
 intro x _
 cases x
 simp only [Function.comp,encS]
 rfl
end
section
variable {n:Nat}
end
theorem tabsL_len (d:Nat):(tabsL d).length = d := List.length_replicate
def plF:Nat -> Nat × Nat := fun q=>(FloatKind.nearest .f64 (q:Int),0)
mutual
def ctS:St -> Nat
 | .mk k n o m e body els p=>1 + ctL body + ctL els
def ctL:List St -> Nat
 | []=>0
 | s :: r=>ctS s + ctL r
end
def ctTL:List (List St) -> Nat
 | []=>0
 | l :: r=>ctL l + ctTL r
mutual
def nbS:St -> Nat -> St
 | .mk k n o m e body els p,q=>.mk k n o m e (nbL body (q + 1)) (nbL els (q + 1 + ctL body)) q
def nbL:List St -> Nat -> List St
 | [],_=>[]
 | s :: r,q=>nbS s q :: nbL r (q + ctS s)
end
def nbTL:List (List St) -> Nat -> List (List St)
 | [],_=>[]
 | l :: r,q=>nbL l q :: nbTL r (q + ctL l)
mutual
theorem ctS_len:∀ (s:St) (d:Nat),okS s d -> ctS s <= (tx s d).length + 1
 | .mk k n o m e body els p,d,h=>by
  have h0 := tx_sum h
  obtain ⟨_,_,t3,t4,_⟩ := tx_sub h
  have h1 := ctL_len body (d + 1) t3
  have h2 := ctL_len els (d + 1) t4
  simp only [ctS]
  omega
theorem ctL_len:∀ (l:List St) (d:Nat),okL l d -> ctL l <= (txL l d).length
 | [],d,_=>by simp [ctL]
 | s :: l,d,h=>by
  simp only [okL] at h
  have h1 := ctS_len s d h.1
  have h2 := ctL_len l d h.2
  simp only [ctL,txL,lA,lC]
  omega
end
theorem ctTL_len:∀ {l:List (List St)},okTL l -> ctTL l <= (ttL l).length
 | [],_=>by simp [ctTL]
 | t :: r,h=>by
  have i1 := ctL_len t 1 (h t (by simp))
  have i2 := ctTL_len (l := r) (fun x hx=>h x (by simp [hx]))
  simp only [ctTL,ttL,lA,lC]
  omega
section
variable {n:Nat}
structure MdOk (b:B_z39) (m:Nat):Prop where
 md:∀ (pl:Nat -> Nat × Nat) (l:List St) (d q:Nat),okL l d -> d <= 8 -> 9 < m + d -> q + (txL l d).length <= 40000 -> b.y12 (encSL pl l) (q:Int) = some (encSL plF (nbL l q),((q + ctL l:Nat):Int))
 nil:0 < m -> ∀ q:Int,b.y12 [] q = some ([],q)
theorem md_loop {b:B_z39} {m:Nat} (hb:MdOk b m) (pl:Nat -> Nat × Nat) {l:List St} {d:Nat} (hok:okL l d) (hd:d <= 8) (hm:9 < m + 1 + d) (hl4:(txL l d).length <= 40000):∀ (k i q:Nat) (acc:List St),l.length - i < k -> i <= l.length -> acc.length + (txL (l.drop i) d).length <= 40000 -> q + (txL (l.drop i) d).length <= 40000 →
  l_z39_3 b n k (encSL pl l,encSL plF acc,(i:Int),(q:Int)) = some (encSL plF (acc++nbL (l.drop i) q),((q + ctL (l.drop i):Nat):Int)) := by
 intro k
 induction k with
 | zero=>intro i q acc h; omega
 | succ k ih =>
  intro i q acc hk hi hu hq
  show l_z39_3_B b n (l_z39_3 b n k) _ = _
  unfold l_z39_3_B
  simp only
  by_cases h:¬ i < l.length
  ·rw [encSL_len,decide_eq_false (by omega),cond_false,List.drop_eq_nil_of_le (by omega)]
   simp only [nbL,ctL,List.append_nil,Nat.add_zero]
  have h:i < l.length := by omega
  have hdrop:l.drop i = l[i] :: l.drop (i + 1) := List.drop_eq_getElem_cons h
  have hoS := okL_at hok h
  have hll := txL_len l d
  have hup:IntKind.wrap .i64 ((i:Int) + 1) = ((i + 1:Nat):Int) := by rw [wrap_id (by omega) (by omega)]; omega
  have hqp:IntKind.wrap .i64 ((q:Int) + 1) = ((q + 1:Nat):Int) := by rw [wrap_id (by omega) (by omega)]; omega
  rw [encSL_len,decide_eq_true (show (i:Int) < ((l.length:Nat):Int) by omega),cond_true,idx_S pl h]
  simp only [bS]
  rw [hup,hqp]
  rw [hdrop] at hu hq ⊢
  generalize l[i] = s at *
  obtain ⟨kd,nm,o,mm,e,body,els,p⟩ := s
  simp only [txL,lA,lC] at hu hq
  obtain ⟨t1,t2,t3,t4,t5,t6⟩ := tx_sub hoS
  have hsum := tx_sum hoS
  have n1 := ctL_len body (d + 1) t3
  have n2 := ctL_len els (d + 1) t4
  have c8:((encS pl (.mk kd nm o mm e body els p)).cell 8).lst = encSL pl body := by simp only [encS]; rfl
  have c9:((encS pl (.mk kd nm o mm e body els p)).cell 9).lst = encSL pl els := by simp only [encS]; rfl
  have hbo:b.y12 (encSL pl body) ((q + 1:Nat):Int) = some (encSL plF (nbL body (q + 1)),((q + 1 + ctL body:Nat):Int)) := by
   rcases t5 with h8 | ⟨rfl,rfl⟩
   ·exact hb.md pl body (d + 1) (q + 1) t3 (by omega) (by omega) (by omega)
   ·simp only [encSL,nbL,ctL,Nat.add_zero]; exact hb.nil (by omega) _
  have hel:b.y12 (encSL pl els) ((q + 1 + ctL body:Nat):Int) = some (encSL plF (nbL els (q + 1 + ctL body)),((q + 1 + ctL body + ctL els:Nat):Int)) := by
   rcases t5 with h8 | ⟨rfl,rfl⟩
   ·exact hb.md pl els (d + 1) (q + 1 + ctL body) t4 (by omega) (by omega) (by omega)
   ·simp only [encSL,nbL,ctL,Nat.add_zero]; exact hb.nil (by omega) _
  rw [c8,c9,hbo]
  simp only [bS]
  rw [hel]
  simp only [bS]
  have e1:(T.agg [(T.sc (.int .i64 ((encS pl (.mk kd nm o mm e body els p)).cell 0).int)),(T.sc (.string ((encS pl (.mk kd nm o mm e body els p)).cell 1).str)),(T.sc (.string ((encS pl (.mk kd nm o mm e body els p)).cell 2).str)),(T.sc (.int .i64 ((encS pl (.mk kd nm o mm e body els p)).cell 3).int)),(T.sc (.int .i64 ((encS pl (.mk kd nm o mm e body els p)).cell 4).int)),(T.sc (.int .i64 ((encS pl (.mk kd nm o mm e body els p)).cell 5).int)),(T.sc (.string ((encS pl (.mk kd nm o mm e body els p)).cell 6).str)),(T.list ((encS pl (.mk kd nm o mm e body els p)).cell 7).lst),(T.list (encSL plF (nbL body (q + 1)))),(T.list (encSL plF (nbL els (q + 1 + ctL body)))),(T.sc (.complex .f64 (FloatKind.nearest .f64 (q:Int)) 0))]) = encS plF (nbS (.mk kd nm o mm e body els p) q) := by
   simp only [encS,nbS]
   rfl
  rw [e1]
  have y1:sized 11 [encS plF (nbS (.mk kd nm o mm e body els p) q)] = true := sizedS11 plF [nbS (St.mk kd nm o mm e body els p) q]
  have al:(encSL plF acc).length = acc.length := encSL_len plF acc
  have x1:encSL plF acc++[encS plF (nbS (.mk kd nm o mm e body els p) q)] = encSL plF (acc++[nbS (St.mk kd nm o mm e body els p) q]) := by rw [encSL_map,encSL_map]; simp
  rw [fit11 _ _ (by omega) y1,x1]
  rw [ih (i + 1) _ _ (by omega) (by omega) (by simp only [lA,lC,lN]; omega) (by omega)]
  simp only [nbL,ctL,ctS,List.append_assoc,List.cons_append,List.nil_append]
  rw [show q + 1 + ctL body + ctL els = q + (1 + ctL body + ctL els) by omega,show q + (1 + ctL body + ctL els) + ctL (List.drop (i + 1) l) = q + (1 + ctL body + ctL els + ctL (List.drop (i + 1) l)) by omega]
theorem md_ok (hn:100000 < n):∀ m,MdOk (unB_z39 n m) m
 | 0=>⟨fun pl l d q _ h1 h2=>by omega,fun h=>by omega⟩
 | m + 1=>by
  have ih := md_ok hn m
  refine ⟨fun pl l d q hok hd hm hlen=>?_,fun _ q=>?_⟩
  ·have hl := txL_len l d
   show f_z39 (unB_z39 n m) n (encSL pl l) (q:Int) = _
   unfold f_z39
   have h := md_loop (n := n) ih pl hok hd (by omega) (by omega) n 0 q [] (by omega) (by omega) (by simp only [List.drop_zero,lN]; omega) (by simp only [List.drop_zero]; omega)
   rw [List.drop_zero,List.nil_append] at h
   rw [show l_z39_3 (unB_z39 n m) n n (encSL pl l,([]:List T),0,(q:Int)) = _ from h,bS]
  ·show f_z39 (unB_z39 n m) n [] q = _
   obtain ⟨j,rfl⟩:∃ j,n = j + 1 := ⟨n - 1,by omega⟩
   rfl
theorem mk_loop (hn:100000 < n) (pl:Nat -> Nat × Nat) {l:List (List St)} (hok:okTL l) (hl:l.length <= 1000) (hl4:(ttL l).length <= 40000) (x y z w:List T):∀ (k i q:Nat) (acc:List (List St)),l.length - i < k -> i <= l.length -> acc.length + (l.length - i) <= 2000 -> q + (ttL (l.drop i)).length <= 40000 →
  ∃ q',l_z66_4 n k ((i:Int),x,l.map (encT pl),y,z,(q:Int),w,acc.map (encT plF)) = some (x,l.map (encT pl),y,z,q',w,(acc++nbTL (l.drop i) q).map (encT plF)) := by
 intro k
 induction k with
 | zero=>intro i q acc h; omega
 | succ k ih =>
  intro i q acc hk hi ha hq
  show ∃ q',l_z66_4_B n (l_z66_4 n k) _ = _
  unfold l_z66_4_B
  simp only
  rw [List.length_map]
  by_cases h:¬ i < l.length
  ·rw [decide_eq_false (by omega),cond_false,List.drop_eq_nil_of_le (by omega)]
   exact ⟨_,by simp only [nbTL,List.append_nil]; rfl⟩
  have h:i < l.length := by omega
  have hdrop:l.drop i = l[i] :: l.drop (i + 1) := List.drop_eq_getElem_cons h
  have hd:okL l[i] 1 := hok _ (List.getElem_mem h)
  have hup:IntKind.wrap .i64 ((i:Int) + 1) = ((i + 1:Nat):Int) := by rw [wrap_id (by omega) (by omega)]; omega
  rw [decide_eq_true (show (i:Int) < ((l.length:Nat):Int) by omega),cond_true,hup,idx_T pl h,bS]
  rw [hdrop] at hq ⊢
  generalize l[i] = s at *
  simp only [ttL,lA,lC] at hq
  have hc := ctL_len s 1 hd
  rw [show ((encT pl s).cell 0).lst = encSL pl s from rfl,show m_z39 n (encSL pl s) (q:Int) = _ from (md_ok hn n).md pl s 1 q hd (by omega) (by omega) (by omega),bS]
  simp only
  rw [fitT _ _ (by rw [List.length_map]; omega),show acc.map (encT plF)++[T.list (encSL plF (nbL s q))] = (acc++[nbL s q]).map (encT plF) by simp [encT]]
  obtain ⟨q',h'⟩ := ih (i + 1) (q + ctL s) (acc++[nbL s q]) (by omega) (by omega) (by simp only [lA,lC,lN]; omega) (by omega)
  refine ⟨q',?_⟩
  rw [h']
  simp [nbTL]
theorem mark_eq (hn:100000 < n) (pl:Nat -> Nat × Nat) (x:List T) {l:List (List St)} (hok:okTL l) (hl:l.length <= 1000) (hlen:(ttL l).length <= 40000):m_z66 n x (l.map (encT pl)) = some (x,(nbTL l 0).map (encT plF)) := by
 unfold m_z66
 obtain ⟨q',h⟩ := mk_loop hn pl hok hl hlen x [] [] x n 0 0 [] (by omega) (by omega) (by simp; omega) (by simp only [List.drop_zero]; omega)
 rw [List.drop_zero,List.nil_append] at h
 have h':l_z66_4 n n (0,x,l.map (encT pl),([]:List T),([]:List T),0,x,([]:List T)) = some (x,l.map (encT pl),[],[],q',x,(nbTL l 0).map (encT plF)) := h
 rw [h',bS]
mutual
def ctoS:St -> Int -> Nat -> List St
 | .mk k n o m e body els p,site,q=>if ((q:Nat):Int) = site then [] else [.mk k n o m e (ctoL body site (q + 1)) (ctoL els site (q + 1 + ctL body)) p]
def ctoL:List St -> Int -> Nat -> List St
 | [],_,_=>[]
 | s :: r,site,q=>ctoS s site q++ctoL r site (q + ctS s)
end
def ctoTL:List (List St) -> Int -> Nat -> List (List St)
 | [],_,_=>[]
 | l :: r,site,q=>ctoL l site q :: ctoTL r site (q + ctL l)
structure CtOk (b:B_z74) (m:Nat):Prop where
 ct:∀ (pl:Nat -> Nat × Nat) (l:List St) (d q:Nat) (site:Int),okL l d -> d <= 8 -> 9 < m + d -> q + (txL l d).length <= 40000 -> b.y11 (encSL pl l) site (q:Int) = some (encSL pl (ctoL l site q),((q + ctL l:Nat):Int))
 nil:0 < m -> ∀ site q:Int,b.y11 [] site q = some ([],q)
theorem ct_loop {b:B_z74} {m:Nat} (hb:CtOk b m) (pl:Nat -> Nat × Nat) (site:Int) {l:List St} {d:Nat} (hok:okL l d) (hd:d <= 8) (hm:9 < m + 1 + d) (hl4:(txL l d).length <= 40000):∀ (k i q:Nat) (acc:List St),l.length - i < k -> i <= l.length -> acc.length + (txL (l.drop i) d).length <= 40000 -> q + (txL (l.drop i) d).length <= 40000 →
  l_z74_3 b n k (encSL pl l,site,encSL pl acc,(i:Int),(q:Int)) = some (encSL pl (acc++ctoL (l.drop i) site q),((q + ctL (l.drop i):Nat):Int)) := by
 intro k
 induction k with
 | zero=>intro i q acc h; omega
 | succ k ih =>
  intro i q acc hk hi hu hq
  show l_z74_3_B b n (l_z74_3 b n k) _ = _
  unfold l_z74_3_B
  simp only
  by_cases h:¬ i < l.length
  ·rw [encSL_len,decide_eq_false (by omega),cond_false,List.drop_eq_nil_of_le (by omega)]
   simp only [ctoL,ctL,List.append_nil,Nat.add_zero]
  have h:i < l.length := by omega
  have hdrop:l.drop i = l[i] :: l.drop (i + 1) := List.drop_eq_getElem_cons h
  have hoS := okL_at hok h
  have hll := txL_len l d
  have hup:IntKind.wrap .i64 ((i:Int) + 1) = ((i + 1:Nat):Int) := by rw [wrap_id (by omega) (by omega)]; omega
  have hqp:IntKind.wrap .i64 ((q:Int) + 1) = ((q + 1:Nat):Int) := by rw [wrap_id (by omega) (by omega)]; omega
  rw [encSL_len,decide_eq_true (show (i:Int) < ((l.length:Nat):Int) by omega),cond_true,idx_S pl h]
  simp only [bS]
  rw [hup,hqp]
  rw [hdrop] at hu hq ⊢
  generalize l[i] = s at *
  obtain ⟨kd,nm,o,mm,e,body,els,p⟩ := s
  simp only [txL,lA,lC] at hu hq
  obtain ⟨t1,t2,t3,t4,t5,t6⟩ := tx_sub hoS
  have hsum := tx_sum hoS
  have n1 := ctL_len body (d + 1) t3
  have n2 := ctL_len els (d + 1) t4
  have c8:((encS pl (.mk kd nm o mm e body els p)).cell 8).lst = encSL pl body := by simp only [encS]; rfl
  have c9:((encS pl (.mk kd nm o mm e body els p)).cell 9).lst = encSL pl els := by simp only [encS]; rfl
  have hbo:b.y11 (encSL pl body) site ((q + 1:Nat):Int) = some (encSL pl (ctoL body site (q + 1)),((q + 1 + ctL body:Nat):Int)) := by
   rcases t5 with h8 | ⟨rfl,rfl⟩
   ·exact hb.ct pl body (d + 1) (q + 1) site t3 (by omega) (by omega) (by omega)
   ·simp only [encSL,ctoL,ctL,Nat.add_zero]; exact hb.nil (by omega) _ _
  have hel:b.y11 (encSL pl els) site ((q + 1 + ctL body:Nat):Int) = some (encSL pl (ctoL els site (q + 1 + ctL body)),((q + 1 + ctL body + ctL els:Nat):Int)) := by
   rcases t5 with h8 | ⟨rfl,rfl⟩
   ·exact hb.ct pl els (d + 1) (q + 1 + ctL body) site t4 (by omega) (by omega) (by omega)
   ·simp only [encSL,ctoL,ctL,Nat.add_zero]; exact hb.nil (by omega) _ _
  rw [c8,c9,hbo]
  simp only [bS]
  rw [hel]
  simp only [bS]
  have e1:(T.agg [(T.sc (.int .i64 ((encS pl (.mk kd nm o mm e body els p)).cell 0).int)),(T.sc (.string ((encS pl (.mk kd nm o mm e body els p)).cell 1).str)),(T.sc (.string ((encS pl (.mk kd nm o mm e body els p)).cell 2).str)),(T.sc (.int .i64 ((encS pl (.mk kd nm o mm e body els p)).cell 3).int)),(T.sc (.int .i64 ((encS pl (.mk kd nm o mm e body els p)).cell 4).int)),(T.sc (.int .i64 ((encS pl (.mk kd nm o mm e body els p)).cell 5).int)),(T.sc (.string ((encS pl (.mk kd nm o mm e body els p)).cell 6).str)),(T.list ((encS pl (.mk kd nm o mm e body els p)).cell 7).lst),(T.list (encSL pl (ctoL body site (q + 1)))),(T.list (encSL pl (ctoL els site (q + 1 + ctL body)))),(T.sc (.complex .f64 ((encS pl (.mk kd nm o mm e body els p)).cell 10).re ((encS pl (.mk kd nm o mm e body els p)).cell 10).im))]) = encS pl (.mk kd nm o mm e (ctoL body site (q + 1)) (ctoL els site (q + 1 + ctL body)) p) := by
   simp only [encS]
   rfl
  rw [e1]
  have al:(encSL pl acc).length = acc.length := encSL_len pl acc
  by_cases hs:((q:Nat):Int) = site
  ·rw [show ((((q:Nat):Int):Int) != site) = false by rw [hs]; exact bne_self_eq_false _,cond_false]
   rw [ih (i + 1) _ _ (by omega) (by omega) (by omega) (by omega)]
   simp only [ctoL,ctoS,if_pos hs,ctL,ctS,List.nil_append]
   rw [show q + 1 + ctL body + ctL els = q + (1 + ctL body + ctL els) by omega,show q + (1 + ctL body + ctL els) + ctL (List.drop (i + 1) l) = q + (1 + ctL body + ctL els + ctL (List.drop (i + 1) l)) by omega]
  ·rw [show ((((q:Nat):Int):Int) != site) = true by simpa [bne_iff_ne] using hs,cond_true]
   have y1:sized 11 [encS pl (.mk kd nm o mm e (ctoL body site (q + 1)) (ctoL els site (q + 1 + ctL body)) p)] = true := sizedS11 pl [St.mk kd nm o mm e (ctoL body site (q + 1)) (ctoL els site (q + 1 + ctL body)) p]
   have x1:encSL pl acc++[encS pl (.mk kd nm o mm e (ctoL body site (q + 1)) (ctoL els site (q + 1 + ctL body)) p)] = encSL pl (acc++[St.mk kd nm o mm e (ctoL body site (q + 1)) (ctoL els site (q + 1 + ctL body)) p]) := by rw [encSL_map,encSL_map]; simp
   rw [fit11 _ _ (by omega) y1,x1]
   rw [ih (i + 1) _ _ (by omega) (by omega) (by simp only [lA,lC,lN]; omega) (by omega)]
   simp only [ctoL,ctoS,if_neg hs,ctL,ctS,List.append_assoc,List.cons_append,List.nil_append]
   rw [show q + 1 + ctL body + ctL els = q + (1 + ctL body + ctL els) by omega,show q + (1 + ctL body + ctL els) + ctL (List.drop (i + 1) l) = q + (1 + ctL body + ctL els + ctL (List.drop (i + 1) l)) by omega]
theorem ct_ok (hn:100000 < n):∀ m,CtOk (unB_z74 n m) m
 | 0=>⟨fun pl l d q _ _ h1 h2=>by omega,fun h=>by omega⟩
 | m + 1=>by
  have ih := ct_ok hn m
  refine ⟨fun pl l d q site hok hd hm hlen=>?_,fun _ site q=>?_⟩
  ·have hl := txL_len l d
   show f_z74 (unB_z74 n m) n (encSL pl l) site (q:Int) = _
   unfold f_z74
   have h := ct_loop (n := n) ih pl site hok hd (by omega) (by omega) n 0 q [] (by omega) (by omega) (by simp only [List.drop_zero,lN]; omega) (by simp only [List.drop_zero]; omega)
   rw [List.drop_zero,List.nil_append] at h
   rw [show l_z74_3 (unB_z74 n m) n n (encSL pl l,site,([]:List T),0,(q:Int)) = _ from h,bS]
  ·show f_z74 (unB_z74 n m) n [] site q = _
   obtain ⟨j,rfl⟩:∃ j,n = j + 1 := ⟨n - 1,by omega⟩
   rfl
theorem wo_loop (hn:100000 < n) (pl:Nat -> Nat × Nat) (site:Int) {l:List (List St)} (hok:okTL l) (hl:l.length <= 1000) (hl4:(ttL l).length <= 40000) (x y z w:List T):∀ (k i q:Nat) (acc:List (List St)),l.length - i < k -> i <= l.length -> acc.length + (l.length - i) <= 2000 -> q + (ttL (l.drop i)).length <= 40000 →
  ∃ q',l_z33_4 n k (site,(i:Int),x,l.map (encT pl),y,z,(q:Int),w,acc.map (encT pl)) = some (x,l.map (encT pl),y,z,q',w,(acc++ctoTL (l.drop i) site q).map (encT pl)) := by
 intro k
 induction k with
 | zero=>intro i q acc h; omega
 | succ k ih =>
  intro i q acc hk hi ha hq
  show ∃ q',l_z33_4_B n (l_z33_4 n k) _ = _
  unfold l_z33_4_B
  simp only
  rw [List.length_map]
  by_cases h:¬ i < l.length
  ·rw [decide_eq_false (by omega),cond_false,List.drop_eq_nil_of_le (by omega)]
   exact ⟨_,by simp only [ctoTL,List.append_nil]; rfl⟩
  have h:i < l.length := by omega
  have hdrop:l.drop i = l[i] :: l.drop (i + 1) := List.drop_eq_getElem_cons h
  have hd:okL l[i] 1 := hok _ (List.getElem_mem h)
  have hup:IntKind.wrap .i64 ((i:Int) + 1) = ((i + 1:Nat):Int) := by rw [wrap_id (by omega) (by omega)]; omega
  rw [decide_eq_true (show (i:Int) < ((l.length:Nat):Int) by omega),cond_true,hup,idx_T pl h,bS]
  rw [hdrop] at hq ⊢
  generalize l[i] = s at *
  simp only [ttL,lA,lC] at hq
  have hc := ctL_len s 1 hd
  rw [show ((encT pl s).cell 0).lst = encSL pl s from rfl,show m_z74 n (encSL pl s) site (q:Int) = _ from (ct_ok hn n).ct pl s 1 q site hd (by omega) (by omega) (by omega),bS]
  simp only
  rw [fitT _ _ (by rw [List.length_map]; omega),show acc.map (encT pl)++[T.list (encSL pl (ctoL s site q))] = (acc++[ctoL s site q]).map (encT pl) by simp [encT]]
  obtain ⟨q',h'⟩ := ih (i + 1) (q + ctL s) (acc++[ctoL s site q]) (by omega) (by omega) (by simp only [lA,lC,lN]; omega) (by omega)
  refine ⟨q',?_⟩
  rw [h']
  simp [ctoTL]
theorem without_eq (hn:100000 < n) (pl:Nat -> Nat × Nat) (site:Int) (x:List T) {l:List (List St)} (hok:okTL l) (hl:l.length <= 1000) (hlen:(ttL l).length <= 40000):m_z33 n x (l.map (encT pl)) site = some (x,(ctoTL l site 0).map (encT pl)) := by
 unfold m_z33
 obtain ⟨q',h⟩ := wo_loop hn pl site hok hl hlen x [] [] x n 0 0 [] (by omega) (by omega) (by simp; omega) (by simp only [List.drop_zero]; omega)
 rw [List.drop_zero,List.nil_append] at h
 have h':l_z33_4 n n (site,0,x,l.map (encT pl),([]:List T),([]:List T),0,x,([]:List T)) = some (x,l.map (encT pl),[],[],q',x,(ctoTL l site 0).map (encT pl)) := h
 rw [h',bS]
end
mutual
theorem cto_okS:∀ (s:St) (d:Nat) (site:Int) (q:Nat),okS s d -> okL (ctoS s site q) d /\ (txL (ctoS s site q) d).length <= (tx s d).length + d + 1
 | .mk k n o m e body els p,d,site,q,h=>by
  obtain ⟨t1,t2,t3,t4,t5,t6⟩ := tx_sub h
  obtain ⟨b1,b2⟩ := cto_okL body (d + 1) site (q + 1) t3
  obtain ⟨f1,f2⟩ := cto_okL els (d + 1) site (q + 1 + ctL body) t4
  have hb0:body = [] -> ctoL body site (q + 1) = [] := fun hb=>by subst hb; simp only [ctoL]
  have hf0:els = [] -> ctoL els site (q + 1 + ctL body) = [] := fun hb=>by subst hb; simp only [ctoL]
  unfold ctoS
  by_cases hs:((q:Nat):Int) = site
  ·rw [if_pos hs]
   exact ⟨by simp only [okL],by simp only [txL,lN]; omega⟩
  ·rw [if_neg hs]
   generalize ctoL body site (q + 1) = body' at *
   generalize ctoL els site (q + 1 + ctL body) = els' at *
   have goal:okS (.mk k n o m e body' els' p) d /\ (tx (.mk k n o m e body' els' p) d).length <= (tx (.mk k n o m e body els p) d).length := by
    unfold okS at h ⊢
    split at h
    ·rename_i hk; subst hk
     obtain ⟨h1,h2,h3,he,rfl,rfl⟩ := h
     obtain rfl := hb0 rfl
     obtain rfl := hf0 rfl
     exact ⟨by simp only [if_true]; exact ⟨h1,h2,h3,he,trivial,trivial⟩,Nat.le_refl _⟩
    rename_i h01
    rw [if_neg h01]
    split at h
    ·rename_i hk
     obtain ⟨h1,h2,h3,he,rfl,rfl⟩ := h
     obtain rfl := hb0 rfl
     obtain rfl := hf0 rfl
     exact ⟨by rw [if_pos hk]; exact ⟨h1,h2,h3,he,rfl,rfl⟩,Nat.le_refl _⟩
    rename_i h02
    rw [if_neg h02]
    split at h
    ·rename_i hk
     obtain ⟨h1,h2,h3,he,rfl,rfl⟩ := h
     obtain rfl := hb0 rfl
     obtain rfl := hf0 rfl
     exact ⟨by rw [if_pos hk]; exact ⟨h1,h2,h3,he,rfl,rfl⟩,Nat.le_refl _⟩
    rename_i h03
    rw [if_neg h03]
    split at h
    ·rename_i hk
     obtain ⟨h1,h2,h3,he,rfl,rfl⟩ := h
     obtain rfl := hb0 rfl
     obtain rfl := hf0 rfl
     exact ⟨by rw [if_pos hk]; exact ⟨h1,h2,h3,he,rfl,rfl⟩,Nat.le_refl _⟩
    rename_i h04
    rw [if_neg h04]
    split at h
    ·rename_i hk
     obtain ⟨h1,h2,h3,he,rfl,rfl⟩ := h
     obtain rfl := hb0 rfl
     obtain rfl := hf0 rfl
     exact ⟨by rw [if_pos hk]; exact ⟨h1,h2,h3,he,rfl,rfl⟩,Nat.le_refl _⟩
    rename_i h05
    rw [if_neg h05]
    split at h
    ·rename_i hk
     subst hk
     obtain ⟨h1,h2,h3,he,hd,hB,hF⟩ := h
     refine ⟨by rw [if_pos rfl]; exact ⟨h1,h2,h3,he,hd,b1,f1⟩,?_⟩
     cases els with
     | nil =>
      obtain rfl := hf0 rfl
      simp only [tx,Int.reduceEq,if_false,if_true,lA,lC,lN]
      omega
     | cons y els =>
      cases els' with
      | nil=>simp only [tx,Int.reduceEq,if_false,if_true,lA,lC,lN]; omega
      | cons z els'=>simp only [tx,Int.reduceEq,if_false,if_true,lA,lC,lN]; omega
    rename_i h06
    rw [if_neg h06]
    split at h
    ·rename_i hk
     subst hk
     obtain ⟨h1,h2,h3,he,hd,hB,rfl⟩ := h
     obtain rfl := hf0 rfl
     refine ⟨by rw [if_pos rfl]; exact ⟨h1,h2,h3,he,hd,b1,rfl⟩,?_⟩
     unfold tx
     simp only [Int.reduceEq,if_false,if_true,lA,lC,lN]
     omega
    ·exact h.elim
   refine ⟨by simp only [okL]; exact ⟨goal.1,trivial⟩,?_⟩
   have htl := tabsL_len d
   simp only [txL,lA,lC,lN]
   omega
theorem cto_okL:∀ (l:List St) (d:Nat) (site:Int) (q:Nat),okL l d -> okL (ctoL l site q) d /\ (txL (ctoL l site q) d).length <= (txL l d).length
 | [],d,site,q,_=>⟨by simp only [ctoL,okL],by simp only [ctoL]; exact Nat.le_refl _⟩
 | s :: l,d,site,q,h=>by
  simp only [okL] at h
  obtain ⟨a1,a2⟩ := cto_okS s d site q h.1
  obtain ⟨b1,b2⟩ := cto_okL l d site (q + ctS s) h.2
  have htl := tabsL_len d
  have app:∀ (a c:List St),(txL (a++c) d).length = (txL a d).length + (txL c d).length := by
   intro a c
   induction a with
   | nil=>simp [txL]
   | cons x a ih=>simp only [List.cons_append,txL,lA,lC,ih]; omega
  simp only [ctoL,txL,lA,lC,app]
  exact ⟨okL_append.2 ⟨a1,b1⟩,by omega⟩
end
theorem cto_okTL:∀ {l:List (List St)} {site:Int} {q:Nat},okTL l -> okTL (ctoTL l site q) /\ (ttL (ctoTL l site q)).length <= (ttL l).length /\ (ctoTL l site q).length = l.length
 | [],_,_,_=>⟨fun t ht=>by simp [ctoTL] at ht,by simp [ctoTL],rfl⟩
 | t :: r,site,q,h=>by
  obtain ⟨a1,a2⟩ := cto_okL t 1 site q (h t (by simp))
  obtain ⟨b1,b2,b3⟩ := cto_okTL (l := r) (site := site) (q := q + ctL t) (fun x hx=>h x (by simp [hx]))
  simp only [ctoTL]
  refine ⟨fun x hx=>?_,by simp only [ttL,lA,lC]; omega,by simp [b3]⟩
  rcases List.mem_cons.1 hx with rfl | hx
  ·exact a1
  ·exact b1 x hx
def St.pos:St -> Nat
 | .mk _ _ _ _ _ _ _ p=>p
mutual
def psS (N:Nat):St -> Prop
 | .mk k n o m e body els p=>p < N /\ psL N body /\ psL N els
def psL (N:Nat):List St -> Prop
 | []=>True
 | s :: r=>psS N s /\ psL N r
end
mutual
theorem nb_psS:∀ (s:St) (q N:Nat),q + ctS s <= N -> psS N (nbS s q)
 | .mk k n o m e body els p,q,N,h=>by
  simp only [ctS] at h
  simp only [nbS,psS]
  exact ⟨by omega,nb_psL body (q + 1) N (by omega),nb_psL els (q + 1 + ctL body) N (by omega)⟩
theorem nb_psL:∀ (l:List St) (q N:Nat),q + ctL l <= N -> psL N (nbL l q)
 | [],q,N,_=>by simp only [nbL,psL]
 | s :: l,q,N,h=>by
  simp only [ctL] at h
  simp only [nbL,psL]
  exact ⟨nb_psS s q N (by omega),nb_psL l (q + ctS s) N (by omega)⟩
end
mutual
theorem nb_okS:∀ (s:St) (q d:Nat),okS s d -> okS (nbS s q) d /\ tx (nbS s q) d = tx s d /\ ctS (nbS s q) = ctS s
 | .mk k n o m e body els p,q,d,h=>by
  obtain ⟨t1,t2,t3,t4,t5,t6⟩ := tx_sub h
  obtain ⟨b1,b2,b3⟩ := nb_okL body (q + 1) (d + 1) t3
  obtain ⟨f1,f2,f3⟩ := nb_okL els (q + 1 + ctL body) (d + 1) t4
  have hb0:body = [] -> nbL body (q + 1) = [] := fun hb=>by subst hb; simp only [nbL]
  have hf0:els = [] -> nbL els (q + 1 + ctL body) = [] := fun hb=>by subst hb; simp only [nbL]
  have hf1:∀ y r,els = y :: r -> ∃ y' r',nbL els (q + 1 + ctL body) = y' :: r' := fun y r hb=>by subst hb; simp only [nbL]; exact ⟨_,_,rfl⟩
  simp only [nbS]
  generalize nbL body (q + 1) = body' at *
  generalize nbL els (q + 1 + ctL body) = els' at *
  refine ⟨?_,?_,by simp only [ctS,b3,f3]⟩
  ·unfold okS at h ⊢
   split at h
   ·rename_i hk; subst hk
    obtain ⟨h1,h2,h3,he,h5,h6⟩ := h
    rw [if_pos rfl]; exact ⟨h1,h2,h3,he,hb0 h5,hf0 h6⟩
   rename_i h01
   rw [if_neg h01]
   split at h
   ·rename_i hk
    obtain ⟨h1,h2,h3,he,h5,h6⟩ := h
    rw [if_pos hk]; exact ⟨h1,h2,h3,he,hb0 h5,hf0 h6⟩
   rename_i h02
   rw [if_neg h02]
   split at h
   ·rename_i hk
    obtain ⟨h1,h2,h3,he,h5,h6⟩ := h
    rw [if_pos hk]; exact ⟨h1,h2,h3,he,hb0 h5,hf0 h6⟩
   rename_i h03
   rw [if_neg h03]
   split at h
   ·rename_i hk
    obtain ⟨h1,h2,h3,he,h5,h6⟩ := h
    rw [if_pos hk]; exact ⟨h1,h2,h3,he,hb0 h5,hf0 h6⟩
   rename_i h04
   rw [if_neg h04]
   split at h
   ·rename_i hk
    obtain ⟨h1,h2,h3,he,h5,h6⟩ := h
    rw [if_pos hk]; exact ⟨h1,h2,h3,he,hb0 h5,hf0 h6⟩
   rename_i h05
   rw [if_neg h05]
   split at h
   ·rename_i hk
    obtain ⟨h1,h2,h3,he,hd,hB,hF⟩ := h
    rw [if_pos hk]; exact ⟨h1,h2,h3,he,hd,b1,f1⟩
   rename_i h06
   rw [if_neg h06]
   split at h
   ·rename_i hk
    obtain ⟨h1,h2,h3,he,hd,hB,h6⟩ := h
    rw [if_pos hk]; exact ⟨h1,h2,h3,he,hd,b1,hf0 h6⟩
   ·exact h.elim
  ·cases els with
   | nil =>
    obtain rfl := hf0 rfl
    simp only [tx,b2]
   | cons y r =>
    obtain ⟨y',r',hh⟩ := hf1 y r rfl
    subst hh
    simp only [tx,b2,f2]
theorem nb_okL:∀ (l:List St) (q d:Nat),okL l d -> okL (nbL l q) d /\ txL (nbL l q) d = txL l d /\ ctL (nbL l q) = ctL l
 | [],q,d,_=>⟨by simp only [nbL,okL],by simp only [nbL],by simp only [nbL]⟩
 | s :: l,q,d,h=>by
  simp only [okL] at h
  obtain ⟨a1,a2,a3⟩ := nb_okS s q d h.1
  obtain ⟨b1,b2,b3⟩ := nb_okL l (q + ctS s) d h.2
  simp only [nbL,okL,txL,ctL,a2,a3,b2,b3]
  exact ⟨⟨a1,b1⟩,trivial,trivial⟩
end
def psTL (N:Nat) (l:List (List St)):Prop := ∀ t ∈ l,psL N t
theorem nb_okTL:∀ {l:List (List St)} {q N:Nat},okTL l -> q + ctTL l <= N -> okTL (nbTL l q) /\ ttL (nbTL l q) = ttL l /\ psTL N (nbTL l q) /\ (nbTL l q).length = l.length
 | [],_,_,_,_=>⟨fun t ht=>by simp [nbTL] at ht,rfl,fun t ht=>by simp [nbTL] at ht,rfl⟩
 | t :: r,q,N,h,hN=>by
  simp only [ctTL] at hN
  obtain ⟨a1,a2,a3⟩ := nb_okL t q 1 (h t (by simp))
  obtain ⟨b1,b2,b3,b4⟩ := nb_okTL (l := r) (q := q + ctL t) (N := N) (fun x hx=>h x (by simp [hx])) (by omega)
  have hp := nb_psL t q N (by omega)
  refine ⟨fun x hx=>?_,by simp only [nbTL,ttL,a2,b2],fun x hx=>?_,by simp [nbTL,b4]⟩
  ·simp only [nbTL] at hx
   rcases List.mem_cons.1 hx with rfl | hx
   ·exact a1
   ·exact b1 x hx
  ·simp only [nbTL] at hx
   rcases List.mem_cons.1 hx with rfl | hx
   ·exact hp
   ·exact b3 x hx
structure Mk where
 s:St
 bl:List Int
 th:Int
def encM (m:Mk):T := T.agg ((encS plF m.s).cells++[T.list (ints .i64 m.bl),T.sc (.int .i64 m.th)])
abbrev sh13:List CK := [.int .i64,.str,.str,.int .i64,.int .i64,.int .i64,.str,.list,.list,.list,.cplx .f64,.list,.int .i64]
theorem encM_eq (kd:Int) (nm o:List UInt8) (mm:Nat) (e:Option E) (body els:List St) (p:Nat) (bl:List Int) (th:Int):encM ⟨.mk kd nm o mm e body els p,bl,th⟩ = T.agg [(T.sc (.int .i64 kd)),(T.sc (.string (B nm))),(T.sc (.string (B o))),(T.sc (.int .i64 (mm:Int))),(T.sc (.int .i64 (kO e))),(T.sc (.int .i64 (nO e))),(T.sc (.string (wO e))),(T.list (oO e)),(T.list (encSL plF body)),(T.list (encSL plF els)),(T.sc (.complex .f64 (plF p).1 (plF p).2)),T.list (ints .i64 bl),T.sc (.int .i64 th)] := by
 simp only [encM,encS]
 rfl
theorem encM_fits (m:Mk):fits sh13 (encM m) = true := by
 obtain ⟨⟨kd,nm,o,mm,e,body,els,p⟩,bl,th⟩ := m
 rw [encM_eq]
 rfl
theorem encM_c11 (m:Mk):((encM m).cell 11).lst = ints .i64 m.bl := by
 obtain ⟨⟨kd,nm,o,mm,e,body,els,p⟩,bl,th⟩ := m
 rw [encM_eq]
 rfl
theorem encM_c10 (m:Mk):(((encM m).cell 10).re,((encM m).cell 10).im) = plF m.s.pos := by
 obtain ⟨⟨kd,nm,o,mm,e,body,els,p⟩,bl,th⟩ := m
 rw [encM_eq]
 rfl
theorem idx_M {ms:List Mk} {i:Nat} (h:i < ms.length):idx true sh13 (ms.map encM) (i:Int) = some (encM ms[i]) := by
 unfold idx
 rw [cond_true,decide_eq_true (Int.natCast_nonneg _),cond_true,Int.toNat_natCast]
 simp only [List.getElem?_map,List.getElem?_eq_getElem h,Option.map_some,encM_fits,cond_true]
theorem idx_Mc {ms:List Mk} {i:Nat} (h:i < ms.length) (c:Bool):idx c sh13 (ms.map encM) (i:Int) = some (bif c then encM ms[i] else default) := by
 cases c with
 | true=>rw [idx_M h]; rfl
 | false=>rfl
theorem sized13 (ms:List Mk):sized 13 (ms.map encM) = true := by
 unfold sized
 rw [List.all_map,List.all_eq_true]
 rintro ⟨⟨kd,nm,o,mm,e,body,els,p⟩,bl,th⟩ _
 simp only [Function.comp,encM_eq]
 rfl
section
variable {n:Nat}
def goodM (N:Nat) (ms:List Mk):Prop := ∀ m ∈ ms,m.bl ≠ [] /\ m.bl.length <= 100 /\ m.s.pos < N
structure M8Ok (N:Nat) (b:B_z61) (m:Nat):Prop where
 mks:∀ (l:List St) (d:Nat) (around:List Int) (th:Int) (q:Nat),okL l d -> psL N l -> d <= 8 -> 9 < m + d -> (txL l d).length <= 40000 -> around.length <= d + 10 -> q + 3 * (txL l d).length <= 190000 →
  ∃ ms q',b.y22 (encSL plF l) (ints .i64 around) th (q:Int) = some (ms.map encM,((q':Nat):Int)) /\ goodM N ms /\ ms.length = ctL l /\ q' <= q + 1 + 2 * ctL l
 nil:0 < m -> ∀ (around:List Int) (th:Int) (q:Nat),around.length <= 50 -> q <= 200000 -> b.y22 [] (ints .i64 around) th (q:Int) = some ([],((q + 1:Nat):Int))
theorem ints_snoc (l:List Int) (x:Int):ints .i64 l++[T.sc (.int .i64 x)] = ints .i64 (l++[x]) := by simp [ints]
theorem m8_loop {N:Nat} {b:B_z61} {m:Nat} (hb:M8Ok N b m) {l:List St} {d:Nat} (hok:okL l d) (hps:psL N l) (hd:d <= 8) (hm:9 < m + 1 + d) (hl4:(txL l d).length <= 40000) (here:List Int) (hh:here ≠ []) (hh2:here.length <= d + 11) (th:Int):∀ (k i q:Nat) (acc:List Mk),l.length - i < k -> i <= l.length -> goodM N acc -> acc.length + (txL (l.drop i) d).length <= 40000 -> q + 3 * (txL (l.drop i) d).length <= 190001 →
  ∃ ms q',l_z61_5 b n k (encSL plF l,th,ints .i64 here,acc.map encM,(i:Int),(q:Int)) = some (ms.map encM,((q':Nat):Int)) /\ goodM N ms /\ ms.length = acc.length + ctL (l.drop i) /\ q' <= q + 2 * ctL (l.drop i) := by
 intro k
 induction k with
 | zero=>intro i q acc h; omega
 | succ k ih =>
  intro i q acc hk hi hg hu hq
  show ∃ ms q',l_z61_5_B b n (l_z61_5 b n k) _ = _ /\ _
  unfold l_z61_5_B
  simp only
  by_cases h:¬ i < l.length
  ·rw [encSL_len,decide_eq_false (by omega),cond_false,List.drop_eq_nil_of_le (by omega)]
   exact ⟨acc,q,rfl,hg,by simp [ctL],by simp [ctL]⟩
  have h:i < l.length := by omega
  have hdrop:l.drop i = l[i] :: l.drop (i + 1) := List.drop_eq_getElem_cons h
  have hoS := okL_at hok h
  have hpS:psS N l[i] := by
   have:∀ {l:List St} {i:Nat},psL N l -> ∀ hi:i < l.length,psS N l[i] := by
    intro l
    induction l with
    | nil=>intro i _ hi; simp at hi
    | cons s r ih =>
     intro i h hi
     simp only [psL] at h
     cases i with
     | zero=>exact h.1
     | succ i=>exact ih h.2 (by simpa using hi)
   exact this hps h
  have hll := txL_len l d
  have hup:IntKind.wrap .i64 ((i:Int) + 1) = ((i + 1:Nat):Int) := by rw [wrap_id (by omega) (by omega)]; omega
  rw [encSL_len,decide_eq_true (show (i:Int) < ((l.length:Nat):Int) by omega),cond_true,idx_S plF h]
  simp only [bS]
  rw [hup]
  rw [hdrop] at hu hq ⊢
  generalize l[i] = s at *
  obtain ⟨kd,nm,o,mm,e,body,els,p⟩ := s
  simp only [txL,lA,lC] at hu hq
  simp only [psS] at hpS
  obtain ⟨t1,t2,t3,t4,t5,t6⟩ := tx_sub hoS
  have hsum := tx_sum hoS
  have n1 := ctL_len body (d + 1) t3
  have n2 := ctL_len els (d + 1) t4
  have c8:((encS plF (.mk kd nm o mm e body els p)).cell 8).lst = encSL plF body := by simp only [encS]; rfl
  have c9:((encS plF (.mk kd nm o mm e body els p)).cell 9).lst = encSL plF els := by simp only [encS]; rfl
  have e1:(T.agg [(T.sc (.int .i64 ((encS plF (.mk kd nm o mm e body els p)).cell 0).int)),(T.sc (.string ((encS plF (.mk kd nm o mm e body els p)).cell 1).str)),(T.sc (.string ((encS plF (.mk kd nm o mm e body els p)).cell 2).str)),(T.sc (.int .i64 ((encS plF (.mk kd nm o mm e body els p)).cell 3).int)),(T.sc (.int .i64 ((encS plF (.mk kd nm o mm e body els p)).cell 4).int)),(T.sc (.int .i64 ((encS plF (.mk kd nm o mm e body els p)).cell 5).int)),(T.sc (.string ((encS plF (.mk kd nm o mm e body els p)).cell 6).str)),(T.list ((encS plF (.mk kd nm o mm e body els p)).cell 7).lst),(T.list ((encS plF (.mk kd nm o mm e body els p)).cell 8).lst),(T.list ((encS plF (.mk kd nm o mm e body els p)).cell 9).lst),(T.sc (.complex .f64 ((encS plF (.mk kd nm o mm e body els p)).cell 10).re ((encS plF (.mk kd nm o mm e body els p)).cell 10).im)),(T.list (ints .i64 here)),(T.sc (.int .i64 th))]) = encM ⟨.mk kd nm o mm e body els p,here,th⟩ := by
   rw [encM_eq]
   simp only [encS]
   rfl
  rw [e1,c8,c9]
  have hg1:goodM N (acc++[⟨.mk kd nm o mm e body els p,here,th⟩]) := by
   intro x hx
   rcases List.mem_append.1 hx with hx | hx
   ·exact hg x hx
   ·simp only [List.mem_singleton] at hx; subst hx; exact ⟨hh,by show here.length <= 100; omega,hpS.1⟩
  have hbo:∃ ms q',b.y22 (encSL plF body) (ints .i64 here) th (q:Int) = some (ms.map encM,((q':Nat):Int)) /\ goodM N ms /\ ms.length = ctL body /\ q' <= q + 1 + 2 * ctL body := by
   rcases t5 with h8 | ⟨rfl,rfl⟩
   ·exact hb.mks body (d + 1) here th q t3 hpS.2.1 (by omega) (by omega) (by omega) (by omega) (by omega)
   ·exact ⟨[],q + 1,by simp only [encSL]; exact hb.nil (by omega) here th q (by omega) (by omega),fun x hx=>by simp at hx,by simp [ctL],by omega⟩
  obtain ⟨mb,qb,hb1,hb2,hb3,hb4⟩ := hbo
  have hel:∃ ms q',b.y22 (encSL plF els) (ints .i64 here) th (qb:Int) = some (ms.map encM,((q':Nat):Int)) /\ goodM N ms /\ ms.length = ctL els /\ q' <= qb + 1 + 2 * ctL els := by
   rcases t5 with h8 | ⟨rfl,rfl⟩
   ·exact hb.mks els (d + 1) here th qb t4 hpS.2.2 (by omega) (by omega) (by omega) (by omega) (by omega)
   ·exact ⟨[],qb + 1,by simp only [encSL]; exact hb.nil (by omega) here th qb (by omega) (by omega),fun x hx=>by simp at hx,by simp [ctL],by omega⟩
  obtain ⟨mf,qf,hf1,hf2,hf3,hf4⟩ := hel
  rw [hb1]
  simp only [bS]
  rw [hf1]
  simp only [bS]
  have x1:acc.map encM++[encM ⟨.mk kd nm o mm e body els p,here,th⟩] = (acc++[(⟨.mk kd nm o mm e body els p,here,th⟩:Mk)]).map encM := by simp
  have y1:sized 13 [encM ⟨.mk kd nm o mm e body els p,here,th⟩] = true := sized13 [⟨.mk kd nm o mm e body els p,here,th⟩]
  rw [must_eq (by rw [y1,Bool.and_true,List.length_map,List.length_singleton,decide_eq_true (by omega)]; rfl),x1]
  rw [must_eq (by rw [sized13,Bool.and_true,List.length_map,List.length_map,decide_eq_true (by simp only [lA,lC,lN]; omega)]; rfl),<- List.map_append]
  rw [must_eq (by rw [sized13,Bool.and_true,List.length_map,List.length_map,decide_eq_true (by simp only [lA,lC,lN]; omega)]; rfl),<- List.map_append]
  have hgall:goodM N (acc++[⟨.mk kd nm o mm e body els p,here,th⟩]++mb++mf) := by
   intro x hx
   rcases List.mem_append.1 hx with hx | hx
   ·rcases List.mem_append.1 hx with hx | hx
    ·exact hg1 x hx
    ·exact hb2 x hx
   ·exact hf2 x hx
  obtain ⟨ms,q',r1,r2,r3,r4⟩ := ih (i + 1) qf (acc++[⟨.mk kd nm o mm e body els p,here,th⟩]++mb++mf) (by omega) (by omega) hgall (by simp only [lA,lC,lN]; omega) (by omega)
  refine ⟨ms,q',r1,r2,?_,?_⟩
  ·rw [r3]; simp only [lA,lC,lN,ctL,ctS,hb3,hf3]; omega
  ·simp only [ctL,ctS]; omega
theorem m8_ok (hn:100000 < n) (N:Nat):∀ m,M8Ok N (unB_z61 n m) m
 | 0=>⟨fun l d around th q _ _ h1 h2=>by omega,fun h=>by omega⟩
 | m + 1=>by
  have ih := m8_ok hn N m
  refine ⟨fun l d around th q hok hps hd hm hl4 ha hlen=>?_,fun _ around th q ha hq=>?_⟩
  ·have hl := txL_len l d
   have il := ints_length around
   show ∃ ms q',f_z61 (unB_z61 n m) n (encSL plF l) (ints .i64 around) th (q:Int) = _ /\ _
   unfold f_z61
   rw [wrap_up (by omega),List.nil_append,ints_snoc]
   rw [must_eq (by rw [sized_ints,Bool.and_true,lN,decide_eq_true (by omega)]; rfl),must_eq (by rw [decide_eq_true (by rw [List.length_singleton]; omega)]; rfl)]
   obtain ⟨ms,q',r1,r2,r3,r4⟩ := m8_loop (n := n) ih hok hps hd (by omega) (by omega) (around++[((q + 1:Nat):Int)]) (by simp) (by simp only [lA,lC,lN]; omega) th n 0 (q + 1) [] (by omega) (by omega) (fun x hx=>by simp at hx) (by simp only [List.drop_zero,lN]; omega) (by simp only [List.drop_zero]; omega)
   have r1':l_z61_5 (unB_z61 n m) n n (encSL plF l,th,ints .i64 (around++[((q + 1:Nat):Int)]),([]:List T),0,((q + 1:Nat):Int)) = some (ms.map encM,((q':Nat):Int)) := r1
   rw [r1',bS]
   exact ⟨ms,q',rfl,r2,by simpa using r3,by simp only [List.drop_zero] at r4; omega⟩
  ·have il := ints_length around
   show f_z61 (unB_z61 n m) n [] (ints .i64 around) th (q:Int) = _
   unfold f_z61
   rw [wrap_up (by omega),List.nil_append,ints_snoc]
   rw [must_eq (by rw [sized_ints,Bool.and_true,lN,decide_eq_true (by omega)]; rfl),must_eq (by rw [decide_eq_true (by rw [List.length_singleton]; omega)]; rfl)]
   obtain ⟨j,rfl⟩:∃ j,n = j + 1 := ⟨n - 1,by omega⟩
   rfl
end
section
variable {n:Nat}
theorem a8_loop (hn:100000 < n) {N:Nat} {l:List (List St)} (hok:okTL l) (hps:psTL N l) (hl:l.length <= 10) (hl4:(ttL l).length <= 40000) (x:List T):∀ (k i q:Nat) (acc:List Mk),l.length - i < k -> i <= l.length -> goodM N acc -> acc.length + (ttL (l.drop i)).length <= 40000 -> q + 3 * (ttL (l.drop i)).length <= 150000 →
  ∃ ms q',l_z76_4 n k (acc.map encM,(i:Int),x,l.map (encT plF),(q:Int)) = some (ms.map encM,x,l.map (encT plF),q') /\ goodM N ms /\ ms.length <= 40000 := by
 intro k
 induction k with
 | zero=>intro i q acc h; omega
 | succ k ih =>
  intro i q acc hk hi hg ha hq
  show ∃ ms q',l_z76_4_B n (l_z76_4 n k) _ = _ /\ _
  unfold l_z76_4_B
  simp only
  rw [List.length_map]
  by_cases h:¬ i < l.length
  ·rw [decide_eq_false (by omega),cond_false]
   exact ⟨acc,_,rfl,hg,by omega⟩
  have h:i < l.length := by omega
  have hdrop:l.drop i = l[i] :: l.drop (i + 1) := List.drop_eq_getElem_cons h
  have hd:okL l[i] 1 := hok _ (List.getElem_mem h)
  have hp:psL N l[i] := hps _ (List.getElem_mem h)
  have hup:IntKind.wrap .i64 ((i:Int) + 1) = ((i + 1:Nat):Int) := by rw [wrap_id (by omega) (by omega)]; omega
  rw [decide_eq_true (show (i:Int) < ((l.length:Nat):Int) by omega),cond_true,hup,idx_T plF h,bS]
  rw [hdrop] at ha hq
  generalize l[i] = s at *
  simp only [ttL,lA,lC] at ha hq
  have hc := ctL_len s 1 hd
  obtain ⟨ms,q',r1,r2,r3,r4⟩ := (m8_ok hn N n).mks s 1 [] (i:Int) q hd hp (by omega) (by omega) (by omega) (by simp) (by omega)
  rw [show ((encT plF s).cell 0).lst = encSL plF s from rfl,show m_z61 n (encSL plF s) ([]:List T) (i:Int) (q:Int) = some (ms.map encM,((q':Nat):Int)) from r1,bS]
  simp only
  rw [must_eq (by rw [sized13,Bool.and_true,List.length_map,List.length_map,decide_eq_true (by omega)]; rfl),<- List.map_append]
  have hg2:goodM N (acc++ms) := fun x hx=>by
   rcases List.mem_append.1 hx with hx | hx
   ·exact hg x hx
   ·exact r2 x hx
  exact ih (i + 1) q' (acc++ms) (by omega) (by omega) hg2 (by simp only [lA]; omega) (by omega)
theorem all8_eq (hn:100000 < n) {N:Nat} {l:List (List St)} (hok:okTL l) (hps:psTL N l) (hl:l.length <= 10) (hl4:(ttL l).length <= 40000) (x:List T):∃ ms,m_z76 n x (l.map (encT plF)) = some (ms.map encM) /\ goodM N ms /\ ms.length <= 40000 := by
 unfold m_z76
 obtain ⟨ms,q',h,h2,h3⟩ := a8_loop hn hok hps hl hl4 x n 0 0 [] (by omega) (by omega) (fun x hx=>by simp at hx) (by simp only [List.drop_zero,lN]; omega) (by simp only [List.drop_zero]; omega)
 have h':l_z76_4 n n (([]:List T),0,x,l.map (encT plF),0) = some (ms.map encM,x,l.map (encT plF),q') := h
 rw [h',bS]
 exact ⟨ms,rfl,h2,h3⟩
theorem within_some (bl:List Int) (hb:bl.length <= 1000) (hn:100000 < n) (b a1:Int) (a2 a3:ByteArray) (a4 a5 a6:Int) (a7:ByteArray) (a8 a9 a10:List T) (a11:Nat × Nat) (a13:Int):∃ r,m_z48 n b a1 a2 a3 a4 a5 a6 a7 a8 a9 a10 a11 (ints .i64 bl) a13 = some r := by
 have loop:∀ (k i:Nat),bl.length - i < k -> i <= bl.length -> ∃ x r,l_z48_2 n k (b,(i:Int),a1,a2,a3,a4,a5,a6,a7,a8,a9,a10,a11,ints .i64 bl,a13) = some x /\ Sum.elim (fun p2=>some p2.1) (fun x1'=>(fun p3=>some false) x1') x = some r := by
  intro k
  induction k with
  | zero=>intro i h; omega
  | succ k ih =>
   intro i hk hi
   show ∃ x r,l_z48_2_B n (l_z48_2 n k) _ = some x /\ _
   unfold l_z48_2_B
   simp only
   rw [ints_length]
   by_cases h:¬ i < bl.length
   ·rw [decide_eq_false (by omega),cond_false]
    exact ⟨_,_,rfl,rfl⟩
   have h:i < bl.length := by omega
   rw [decide_eq_true (show (i:Int) < ((bl.length:Nat):Int) by omega),cond_true,idx_ints h,bS,wrap_up (by omega)]
   cases (((int1 bl[i]).cell 0).int == b) with
   | true=>exact ⟨_,_,rfl,rfl⟩
   | false=>exact ih (i + 1) (by omega) (by omega)
 obtain ⟨x,r,h1,h2⟩ := loop n 0 (by omega) (by omega)
 refine ⟨r,?_⟩
 unfold m_z48
 have h1':l_z48_2 n n (b,0,a1,a2,a3,a4,a5,a6,a7,a8,a9,a10,a11,ints .i64 bl,a13) = some x := h1
 rw [h1',bS]
 exact h2
theorem target_some (hn:100000 < n) {N:Nat} {ms:List Mk} (hg:goodM N ms) (hl:ms.length <= 40000) {site:Nat} (hs:site < ms.length):∃ r,m_z47 n (ms.map encM) (site:Int) = some r := by
 have loop:∀ (k i:Nat),ms.length - i < k -> i <= ms.length -> ∃ x r,l_z47_4 n k (ms.map encM,(site:Int),(i:Int)) = some x /\ Sum.elim (fun p8=>some p8) (fun x7'=>(fun p9=>some (-1)) x7') x = some r := by
  intro k
  induction k with
  | zero=>intro i h; omega
  | succ k ih =>
   intro i hk hi
   show ∃ x r,l_z47_4_B n (l_z47_4 n k) _ = some x /\ _
   unfold l_z47_4_B
   simp only
   rw [List.length_map]
   by_cases h:¬ i < ms.length
   ·rw [decide_eq_false (by omega),cond_false]
    exact ⟨_,_,rfl,rfl⟩
   have h:i < ms.length := by omega
   obtain ⟨g1,g2,g3⟩ := hg _ (List.getElem_mem h)
   obtain ⟨k1,k2,k3⟩ := hg _ (List.getElem_mem hs)
   rw [decide_eq_true (show (i:Int) < ((ms.length:Nat):Int) by omega),cond_true,idx_M h,bS,idx_Mc hs,bS,idx_Mc hs,bS,encM_c11,wrap_up (by omega)]
   have hlen:0 < ms[i].bl.length := List.length_pos_iff.2 g1
   have hlast:IntKind.wrap .i64 (((List.length (ints .i64 ms[i].bl):Nat):Int) - 1) = ((ms[i].bl.length - 1:Nat):Int) := by rw [ints_length,wrap_id (by omega) (by omega)]; omega
   rw [hlast]
   generalize (bif (bif (((encM ms[i]).cell 0).int == 10) then (ByteArray.toList ((encM ms[i]).cell 1).str == ByteArray.toList ((bif (((encM ms[i]).cell 0).int == 10) then encM ms[site] else default).cell 1).str) else false) then (((encM ms[i]).cell 12).int == ((bif (bif (((encM ms[i]).cell 0).int == 10) then (ByteArray.toList ((encM ms[i]).cell 1).str == ByteArray.toList ((bif (((encM ms[i]).cell 0).int == 10) then encM ms[site] else default).cell 1).str) else false) then encM ms[site] else default).cell 12).int) else false) = c
   cases c with
   | false =>
    rw [show ∀ es k,idx false [CK.int .i64] es k = some default from fun _ _=>rfl,bS,show ∀ es k,idx false sh13 es k = some default from fun _ _=>rfl,bS,cond_false,bS,cond_false,cond_false]
    exact ih (i + 1) (by omega) (by omega)
   | true =>
    rw [idx_ints (show ms[i].bl.length - 1 < ms[i].bl.length by omega),bS,idx_M hs,bS,cond_true,encM_c11]
    obtain ⟨r,hr⟩ := within_some (n := n) ms[site].bl (by omega) hn ((int1 ms[i].bl[ms[i].bl.length - 1]).cell 0).int ((encM ms[site]).cell 0).int ((encM ms[site]).cell 1).str ((encM ms[site]).cell 2).str ((encM ms[site]).cell 3).int ((encM ms[site]).cell 4).int ((encM ms[site]).cell 5).int ((encM ms[site]).cell 6).str ((encM ms[site]).cell 7).lst ((encM ms[site]).cell 8).lst ((encM ms[site]).cell 9).lst (((encM ms[site]).cell 10).re,((encM ms[site]).cell 10).im) ((encM ms[site]).cell 12).int
    rw [hr,bS,cond_true]
    cases r with
    | true=>exact ⟨_,_,rfl,rfl⟩
    | false=>exact ih (i + 1) (by omega) (by omega)
 unfold m_z47
 rw [List.length_map,show (bif (decide (((site:Nat):Int) < 0)) then true else (decide (((site:Nat):Int) ≥ ((ms.length:Nat):Int)))) = false by rw [decide_eq_false (by omega),cond_false,decide_eq_false (by omega)],show (!false) = true from rfl,idx_M hs,bS,cond_false,wrap_up (by omega)]
 cases (((encM ms[site]).cell 0).int != 9) with
 | true=>exact ⟨_,rfl⟩
 | false =>
  obtain ⟨x,r,h1,h2⟩ := loop n (site + 1) (by omega) (by omega)
  rw [cond_false,h1,bS]
  exact ⟨r,h2⟩
theorem twice_some (hn:100000 < n) {N:Nat} {ms:List Mk} (hg:goodM N ms) (hl:ms.length <= 40000) {i:Nat} (hi:i <= ms.length) (s3 s4:List T) (s5:Int) (s6 s7:ByteArray) (s8 s9 s10:Int) (s11:ByteArray) (s12 s13 s14:List T) (s15:Nat × Nat) (s16:List T) (s17:Int):∀ (k j:Nat),i - j < k -> j <= i →
  l_z60_9 n k (ms.map encM,(i:Int),(j:Int),s3,s4,s5,s6,s7,s8,s9,s10,s11,s12,s13,s14,s15,s16,s17) = some (Sum.inl (s15,4,s3,s4,s5,s6,s7,s8,s9,s10,s11,s12,s13,s14,s15,s16,s17)) ∨
  l_z60_9 n k (ms.map encM,(i:Int),(j:Int),s3,s4,s5,s6,s7,s8,s9,s10,s11,s12,s13,s14,s15,s16,s17) = some (Sum.inr (ms.map encM,(i:Int),s3,s4,s5,s6,s7,s8,s9,s10,s11,s12,s13,s14,s15,s16,s17)) := by
 intro k
 induction k with
 | zero=>intro j h; omega
 | succ k ih =>
  intro j hk hj
  show l_z60_9_B n (l_z60_9 n k) _ = _ \/ l_z60_9_B n (l_z60_9 n k) _ = _
  unfold l_z60_9_B
  simp only
  by_cases h:j < i
  ·rw [decide_eq_true (show (j:Int) < (i:Int) by omega),cond_true]
   cases (s5 == 10) with
   | false=>exact .inr rfl
   | true =>
    have hjm:j < ms.length := by omega
    rw [cond_true,idx_M hjm,bS,idx_Mc hjm,bS,idx_Mc hjm,bS,wrap_up (by omega)]
    generalize (bif (bif (((encM ms[j]).cell 0).int == 10) then (ByteArray.toList ((bif (((encM ms[j]).cell 0).int == 10) then encM ms[j] else default).cell 1).str == ByteArray.toList s6) else false) then (((bif (bif (((encM ms[j]).cell 0).int == 10) then (ByteArray.toList ((bif (((encM ms[j]).cell 0).int == 10) then encM ms[j] else default).cell 1).str == ByteArray.toList s6) else false) then encM ms[j] else default).cell 12).int == s17) else false) = c
    cases c with
    | true=>exact .inl rfl
    | false=>exact ih (j + 1) (by omega) (by omega)
  ·rw [decide_eq_false (show ¬ (j:Int) < (i:Int) by omega),cond_false,cond_false]
   exact .inr rfl
theorem jumps_some (hn:100000 < n) {N:Nat} {l:List (List St)} (hok:okTL l) (hps:psTL N l) (hl:l.length <= 10) (hl4:(ttL l).length <= 40000) (x:List T) :
  ∃ p e,m_z60 n x (l.map (encT plF)) = some (p,e) /\ (e = 0 \/ (e = 4 /\ ∃ q,q < N /\ p = plF q)) := by
 obtain ⟨ms,h1,hg,hml⟩ := all8_eq hn hok hps hl hl4 x
 have loop:∀ (k i:Nat),ms.length - i < k -> i <= ms.length -> (∃ q,q < N /\ l_z60_3 n k (ms.map encM,(i:Int),x,l.map (encT plF)) = some (Sum.inl (plF q,4,x,l.map (encT plF)))) \/ l_z60_3 n k (ms.map encM,(i:Int),x,l.map (encT plF)) = some (Sum.inr (x,l.map (encT plF))) := by
  intro k
  induction k with
  | zero=>intro i h; omega
  | succ k ih =>
   intro i hk hi
   show (∃ q,q < N /\ l_z60_3_B n (l_z60_3 n k) _ = _) \/ l_z60_3_B n (l_z60_3 n k) _ = _
   unfold l_z60_3_B
   simp only
   rw [List.length_map]
   by_cases h:¬ i < ms.length
   ·rw [decide_eq_false (by omega),cond_false]
    exact .inr rfl
   have h:i < ms.length := by omega
   obtain ⟨g1,g2,g3⟩ := hg _ (List.getElem_mem h)
   obtain ⟨r,hr⟩ := target_some hn hg hml h
   rw [decide_eq_true (show (i:Int) < ((ms.length:Nat):Int) by omega),cond_true,idx_M h,bS,hr]
   have tail:(∃ q,q < N /\ (Option.bind (l_z60_9 n n (ms.map encM,(i:Int),0,x,l.map (encT plF),((encM ms[i]).cell 0).int,((encM ms[i]).cell 1).str,((encM ms[i]).cell 2).str,((encM ms[i]).cell 3).int,((encM ms[i]).cell 4).int,((encM ms[i]).cell 5).int,((encM ms[i]).cell 6).str,((encM ms[i]).cell 7).lst,((encM ms[i]).cell 8).lst,((encM ms[i]).cell 9).lst,(((encM ms[i]).cell 10).re,((encM ms[i]).cell 10).im),((encM ms[i]).cell 11).lst,((encM ms[i]).cell 12).int)) fun x6 =>
     Sum.elim (fun p7=>some (Sum.inl (p7.1,p7.2.1,p7.2.2.1,p7.2.2.2.1))) (fun x6'=>(fun p8=>l_z60_3 n k (p8.1,(IntKind.wrap .i64 (p8.2.1 + 1)),p8.2.2.1,p8.2.2.2.1)) x6') x6) = some (Sum.inl (plF q,4,x,l.map (encT plF)))) ∨
     (Option.bind (l_z60_9 n n (ms.map encM,(i:Int),0,x,l.map (encT plF),((encM ms[i]).cell 0).int,((encM ms[i]).cell 1).str,((encM ms[i]).cell 2).str,((encM ms[i]).cell 3).int,((encM ms[i]).cell 4).int,((encM ms[i]).cell 5).int,((encM ms[i]).cell 6).str,((encM ms[i]).cell 7).lst,((encM ms[i]).cell 8).lst,((encM ms[i]).cell 9).lst,(((encM ms[i]).cell 10).re,((encM ms[i]).cell 10).im),((encM ms[i]).cell 11).lst,((encM ms[i]).cell 12).int)) fun x6 =>
     Sum.elim (fun p7=>some (Sum.inl (p7.1,p7.2.1,p7.2.2.1,p7.2.2.2.1))) (fun x6'=>(fun p8=>l_z60_3 n k (p8.1,(IntKind.wrap .i64 (p8.2.1 + 1)),p8.2.2.1,p8.2.2.2.1)) x6') x6) = some (Sum.inr (x,l.map (encT plF))) := by
    rcases twice_some hn hg hml (i := i) (by omega) x (l.map (encT plF)) ((encM ms[i]).cell 0).int ((encM ms[i]).cell 1).str ((encM ms[i]).cell 2).str ((encM ms[i]).cell 3).int ((encM ms[i]).cell 4).int ((encM ms[i]).cell 5).int ((encM ms[i]).cell 6).str ((encM ms[i]).cell 7).lst ((encM ms[i]).cell 8).lst ((encM ms[i]).cell 9).lst (((encM ms[i]).cell 10).re,((encM ms[i]).cell 10).im) ((encM ms[i]).cell 11).lst ((encM ms[i]).cell 12).int n 0 (by omega) (by omega) with h2 | h2
    ·rw [show ((0:Nat):Int) = 0 from rfl] at h2
     rw [h2,bS,Sum.elim_inl]
     simp only
     rw [encM_c10]
     exact .inl ⟨_,g3,rfl⟩
    ·rw [show ((0:Nat):Int) = 0 from rfl] at h2
     rw [h2,bS,Sum.elim_inr]
     simp only
     rw [wrap_up (by omega)]
     exact ih (i + 1) (by omega) (by omega)
   cases (((encM ms[i]).cell 0).int == 9) with
   | false =>
    rw [cond_false,bS,cond_false,cond_false]
    exact tail
   | true =>
    rw [cond_true,bS,cond_true]
    cases hr0:decide (r < 0) with
    | true =>
     rw [cond_true,encM_c10]
     exact .inl ⟨_,g3,rfl⟩
    | false =>
     rw [cond_false]
     exact tail
 unfold m_z60
 rw [h1,bS]
 rcases loop n 0 (by omega) (by omega) with ⟨q,hq,h2⟩ | h2
 ·rw [show ((0:Nat):Int) = 0 from rfl] at h2
  rw [h2,bS,Sum.elim_inl]
  exact ⟨_,_,rfl,.inr ⟨rfl,q,hq,rfl⟩⟩
 ·rw [show ((0:Nat):Int) = 0 from rfl] at h2
  rw [h2,bS,Sum.elim_inr]
  exact ⟨_,_,rfl,.inl rfl⟩
theorem flo_back2:∀ a:Nat,a < 57 -> ∀ b:Nat,b < 57 -> floInt true .f64 (FloatKind.nearest .f64 ((57 * a + b:Nat):Int)) .i64 = some ((57 * a + b:Nat):Int) := by decide +kernel
theorem flo_back (q:Nat) (h:q < 3200):floInt true .f64 (FloatKind.nearest .f64 (q:Int)) .i64 = some (q:Int) := by
 have := flo_back2 (q / 57) (by omega) (q % 57) (by omega)
 rwa [Nat.div_add_mod] at this
theorem fixed_eq (hn:100000 < n) (pl:Nat -> Nat × Nat) (ds:List T) {Bd:Nat} (hB8:8 <= Bd) (hB:Bd <= 3100):∀ (k i:Nat) (tl:List (List St)) (a b:List T),41 - i < k -> i <= 40 -> okTL tl -> 1 <= tl.length -> tl.length <= 10 -> (ttL tl).length <= Bd →
  ∃ x tl',l_z50_2 n k ((i:Int),ds,tl.map (encT pl),a,b) = some x /\ Sum.elim (fun p5=>some (p5.2.2.1,p5.2.2.2)) (fun x4'=>(fun p6=>some (p6.1,[(T.list ([]:List T))])) x4') x = some (ds,tl'.map (encT pl)) /\ okTL tl' /\ 1 <= tl'.length /\ tl'.length <= tl.length /\ (ttL tl').length <= Bd := by
 intro k
 induction k with
 | zero=>intro i tl a b h; omega
 | succ k ih =>
  intro i tl a b hk hi hok h1 hl hl4
  show ∃ x tl',l_z50_2_B n (l_z50_2 n k) _ = some x /\ _
  unfold l_z50_2_B
  simp only
  by_cases h:¬ i < 40
  ·rw [decide_eq_false (by omega),cond_false]
   refine ⟨_,[[]],rfl,?_,fun t ht=>by simp at ht; subst ht; simp only [okL],by simp,by simpa using h1,by simp [ttL,txL,wGo]; omega⟩
   rw [Sum.elim_inr]
   rfl
  have h:i < 40 := by omega
  have hct := ctTL_len hok
  obtain ⟨m1,m2,m3,m4⟩ := nb_okTL (l := tl) (q := 0) (N := 3100) hok (by omega)
  obtain ⟨p,e,j1,j2⟩ := jumps_some (n := n) hn (N := 3100) m1 m3 (by omega) (by rw [m2]; omega) ds
  rw [decide_eq_true (show (i:Int) < 40 by omega),cond_true,mark_eq hn pl ds hok (by omega) (by omega),bS,j1,bS]
  simp only
  rcases j2 with rfl | ⟨rfl,q,hq,rfl⟩
  ·rw [show ((0:Int) == 0) = true from rfl,cond_true]
   exact ⟨_,tl,rfl,by rw [Sum.elim_inl],hok,h1,Nat.le_refl _,hl4⟩
  ·rw [show ((4:Int) == 0) = false from rfl,cond_false,show (plF q).1 = FloatKind.nearest .f64 (q:Int) from rfl,flo_back q (by omega),bS,without_eq hn pl (q:Int) ds hok (by omega) (by omega),bS]
   simp only
   obtain ⟨c1,c2,c3⟩ := cto_okTL (l := tl) (site := (q:Int)) (q := 0) hok
   rw [wrap_up (by omega)]
   obtain ⟨x,tl',r1,r2,r3,r4,r5,r6⟩ := ih (i + 1) (ctoTL tl (q:Int) 0) a b (by omega) (by omega) c1 (by omega) (by omega) (by omega)
   exact ⟨x,tl',r1,r2,r3,r4,by omega,r6⟩
theorem fixedP_eq (hn:100000 < n) (pl:Nat -> Nat × Nat) (ds:List T) {Bd:Nat} (hB8:8 <= Bd) (hB:Bd <= 3100) {tl:List (List St)} (hok:okTL tl) (h1:1 <= tl.length) (hl:tl.length <= 10) (hl4:(ttL tl).length <= Bd) :
  ∃ tl',m_z50 n ds (tl.map (encT pl)) = some (ds,tl'.map (encT pl)) /\ okTL tl' /\ 1 <= tl'.length /\ tl'.length <= tl.length /\ (ttL tl').length <= Bd := by
 obtain ⟨x,tl',r1,r2,r3⟩ := fixed_eq hn pl ds hB8 hB n 0 tl [] [] (by omega) (by omega) hok h1 hl hl4
 refine ⟨tl',?_,r3⟩
 unfold m_z50
 have r1':l_z50_2 n n (0,ds,tl.map (encT pl),([]:List T),([]:List T)) = some x := r1
 rw [r1',bS]
 exact r2
theorem piece16 (x:Int):∃ w:List UInt8,w.length <= 11 /\ ∀ {R:Type} (f:T -> Option R),(Option.bind (m_z63 n x 16) fun r6 =>
  Option.bind (idx1 true (.str) [(T.sc (.string (⟨#[32]⟩:ByteArray))),(T.sc (.string (⟨#[10]⟩:ByteArray))),(T.sc (.string (⟨#[35,32,97,32,123,32,110,111,116,101,10]⟩:ByteArray))),(T.sc (.string (⟨#[120]⟩:ByteArray))),(T.sc (.string (⟨#[48]⟩:ByteArray))),(T.sc (.string (⟨#[40]⟩:ByteArray))),(T.sc (.string (⟨#[41]⟩:ByteArray))),(T.sc (.string (⟨#[123]⟩:ByteArray))),(T.sc (.string (⟨#[125]⟩:ByteArray))),(T.sc (.string (⟨#[61]⟩:ByteArray))),(T.sc (.string (⟨#[45]⟩:ByteArray))),(T.sc (.string (⟨#[103,111,32]⟩:ByteArray))),(T.sc (.string (⟨#[109,117,116,101,120,32,109,10]⟩:ByteArray))),(T.sc (.string (⟨#[48,49,50]⟩:ByteArray))),(T.sc (.string (⟨#[126]⟩:ByteArray))),(T.sc (.string (⟨#[114,101,112,101,97,116,32,57,32]⟩:ByteArray)))] r6) f) = f (T.sc (.string (B w))) := by
 obtain ⟨q,hq,hq2⟩ := pick_eq n x 16 (by omega) (by omega)
 have:q = 0 \/ q = 1 \/ q = 2 \/ q = 3 \/ q = 4 \/ q = 5 \/ q = 6 \/ q = 7 \/ q = 8 \/ q = 9 \/ q = 10 \/ q = 11 \/ q = 12 \/ q = 13 \/ q = 14 \/ q = 15 := by omega
 rcases this with rfl | rfl | rfl | rfl | rfl | rfl | rfl | rfl | rfl | rfl | rfl | rfl | rfl | rfl | rfl | rfl
 ·exact ⟨[32],by decide,fun f=>by rw [hq]; rfl⟩
 ·exact ⟨[10],by decide,fun f=>by rw [hq]; rfl⟩
 ·exact ⟨[35,32,97,32,123,32,110,111,116,101,10],by decide,fun f=>by rw [hq]; rfl⟩
 ·exact ⟨[120],by decide,fun f=>by rw [hq]; rfl⟩
 ·exact ⟨[48],by decide,fun f=>by rw [hq]; rfl⟩
 ·exact ⟨[40],by decide,fun f=>by rw [hq]; rfl⟩
 ·exact ⟨[41],by decide,fun f=>by rw [hq]; rfl⟩
 ·exact ⟨[123],by decide,fun f=>by rw [hq]; rfl⟩
 ·exact ⟨[125],by decide,fun f=>by rw [hq]; rfl⟩
 ·exact ⟨[61],by decide,fun f=>by rw [hq]; rfl⟩
 ·exact ⟨[45],by decide,fun f=>by rw [hq]; rfl⟩
 ·exact ⟨[103,111,32],by decide,fun f=>by rw [hq]; rfl⟩
 ·exact ⟨[109,117,116,101,120,32,109,10],by decide,fun f=>by rw [hq]; rfl⟩
 ·exact ⟨[48,49,50],by decide,fun f=>by rw [hq]; rfl⟩
 ·exact ⟨[126],by decide,fun f=>by rw [hq]; rfl⟩
 ·exact ⟨[114,101,112,101,97,116,32,57,32],by decide,fun f=>by rw [hq]; rfl⟩
theorem odd_eq (hn:100000 < n) (how:Int) (a b c:List Act5) (at_ with_:Int):∃ u:List UInt8,m_z73 n how (a.map Act5.t) (b.map Act5.t) (c.map Act5.t) at_ with_ = some (B u) /\ u.length <= 2720 := by
 obtain ⟨ds,tl,h1,h2,h3,h4,h5,h6,h7⟩ := make_eq hn how a b c 6
 have hl3:1 <= tl.length /\ tl.length <= 3 := by rcases h6 with h | ⟨h,_⟩ <;> omega
 obtain ⟨tl',f1,f2,f3,f4,f5⟩ := fixedP_eq hn pl0 (ds.map (encD pl0)) (Bd := 2600) (by omega) (by omega) h5 hl3.1 (by omega) h7
 have e1 := showP_eq (n := n) hn pl0 h2 (by omega) h5 (by omega) (by rw [lA]; omega)
 have e2 := showP_eq (n := n) hn pl0 h2 (by omega) f2 (by omega) (by rw [lA]; omega)
 have fin:∀ (u:List UInt8),u.length <= 2700 -> ∃ v:List UInt8,(bif (((Int.tmod with_ 4):Int) == 0) then (some (B u)) else (
   Option.bind (m_z63 n at_ (IntKind.wrap .i64 (((ByteArray.size (B u):Nat):Int) + 1))) fun r5 =>
   must true (!decide ((4:Int) = 0)) (Option.bind (m_z63 n (IntKind.wrap .i64 (Int.tdiv with_ 4)) 16) fun r6 =>
   Option.bind (idx1 true (.str) [(T.sc (.string (⟨#[32]⟩:ByteArray))),(T.sc (.string (⟨#[10]⟩:ByteArray))),(T.sc (.string (⟨#[35,32,97,32,123,32,110,111,116,101,10]⟩:ByteArray))),(T.sc (.string (⟨#[120]⟩:ByteArray))),(T.sc (.string (⟨#[48]⟩:ByteArray))),(T.sc (.string (⟨#[40]⟩:ByteArray))),(T.sc (.string (⟨#[41]⟩:ByteArray))),(T.sc (.string (⟨#[123]⟩:ByteArray))),(T.sc (.string (⟨#[125]⟩:ByteArray))),(T.sc (.string (⟨#[61]⟩:ByteArray))),(T.sc (.string (⟨#[45]⟩:ByteArray))),(T.sc (.string (⟨#[103,111,32]⟩:ByteArray))),(T.sc (.string (⟨#[109,117,116,101,120,32,109,10]⟩:ByteArray))),(T.sc (.string (⟨#[48,49,50]⟩:ByteArray))),(T.sc (.string (⟨#[126]⟩:ByteArray))),(T.sc (.string (⟨#[114,101,112,101,97,116,32,57,32]⟩:ByteArray)))] r6) fun y7 =>
   must true (decide (0 <= (0:Int))&&decide (0 <= r5)&&decide (r5 <= ((ByteArray.size (B u):Nat):Int))) (must true (decide (((ByteArray.size (ByteArray.extract (B u) (Int.toNat 0) (Int.toNat r5)) + ByteArray.size y7.str:Nat):Int) <= IntKind.i64.max)) (must true (!decide ((64:Int) = 0)) (Option.bind (m_z63 n (IntKind.wrap .i64 (Int.tdiv with_ 64)) 3) fun r8 =>
   must true (decide (0 <= (if ((IntKind.wrap .i64 (r5 + r8)):Int) < ((ByteArray.size (B u):Nat):Int) then (IntKind.wrap .i64 (r5 + r8)) else ((ByteArray.size (B u):Nat):Int)))&&decide ((if ((IntKind.wrap .i64 (r5 + r8)):Int) < ((ByteArray.size (B u):Nat):Int) then (IntKind.wrap .i64 (r5 + r8)) else ((ByteArray.size (B u):Nat):Int)) <= ((ByteArray.size (B u):Nat):Int))&&decide (((ByteArray.size (B u):Nat):Int) <= ((ByteArray.size (B u):Nat):Int))) (must true (decide (((ByteArray.size ((ByteArray.extract (B u) (Int.toNat 0) (Int.toNat r5))++y7.str) + ByteArray.size (ByteArray.extract (B u) (Int.toNat (if ((IntKind.wrap .i64 (r5 + r8)):Int) < ((ByteArray.size (B u):Nat):Int) then (IntKind.wrap .i64 (r5 + r8)) else ((ByteArray.size (B u):Nat):Int))) (Int.toNat ((ByteArray.size (B u):Nat):Int))):Nat):Int) <= IntKind.i64.max)) (some (((ByteArray.extract (B u) (Int.toNat 0) (Int.toNat r5))++y7.str)++(ByteArray.extract (B u) (Int.toNat (if ((IntKind.wrap .i64 (r5 + r8)):Int) < ((ByteArray.size (B u):Nat):Int) then (IntKind.wrap .i64 (r5 + r8)) else ((ByteArray.size (B u):Nat):Int))) (Int.toNat ((ByteArray.size (B u):Nat):Int)))))))))))) = some (B v) /\ v.length <= 2720 := by
  intro u hu
  cases (Int.tmod with_ 4 == 0) with
  | true=>exact ⟨u,rfl,by omega⟩
  | false =>
   rw [cond_false,size_B,wrap_up (by omega)]
   obtain ⟨k,hk1,hk2⟩ := pick_eq n at_ ((u.length + 1:Nat):Int) (by omega) (by omega)
   obtain ⟨w,hw1,hw2⟩ := piece16 (n := n) (IntKind.wrap .i64 (Int.tdiv with_ 4))
   obtain ⟨j,hj1,hj2⟩ := pick_eq n (IntKind.wrap .i64 (Int.tdiv with_ 64)) 3 (by omega) (by omega)
   rw [hk1,bS,must_eq (by rfl),hw2,show (T.sc (.string (B w))).str = B w from rfl]
   have hkl:k <= u.length := by omega
   rw [must_eq (by simp only [Bool.and_eq_true,decide_eq_true_eq]; exact ⟨⟨by omega,by omega⟩,by omega⟩)]
   have x1:ByteArray.extract (B u) (Int.toNat 0) (Int.toNat ((k:Nat):Int)) = B (u.take k) := by rw [Int.toNat_natCast,show Int.toNat 0 = 0 from rfl,ext_B,L_B]; rfl
   rw [x1,must_cat (by simp only [List.length_take]; omega),B_append,must_eq (by rfl),hj1,bS,wrap_add (by omega) (by omega)]
   have hmin:(if ((k + j:Nat):Int) < ((u.length:Nat):Int) then ((k + j:Nat):Int) else ((u.length:Nat):Int)) = ((min (k + j) u.length:Nat):Int) := by
    by_cases h:k + j < u.length
    ·rw [if_pos (by omega)]; omega
    ·rw [if_neg (by omega)]; omega
   rw [hmin,must_eq (by simp only [Bool.and_eq_true,decide_eq_true_eq]; exact ⟨⟨by omega,by omega⟩,by omega⟩)]
   have x2:ByteArray.extract (B u) (Int.toNat ((min (k + j) u.length:Nat):Int)) (Int.toNat ((u.length:Nat):Int)) = B (u.drop (min (k + j) u.length)) := by
    rw [Int.toNat_natCast,Int.toNat_natCast,ext_B,L_B,List.take_of_length_le (by simp)]
   rw [x2,must_cat (by simp only [lA,List.length_take,List.length_drop]; omega),B_append]
   exact ⟨_,rfl,by simp only [lA,List.length_take,List.length_drop]; omega⟩
 unfold m_z73
 rw [h1,bS]
 simp only
 rw [e1,bS,must_eq (by rfl)]
 cases decide (Int.tmod with_ 5 < 1) with
 | true =>
  rw [cond_true,bS,f1,bS]
  simp only
  rw [e2,bS,must_eq (by rfl)]
  exact fin _ (by rw [lA]; omega)
 | false =>
  rw [cond_false,must_eq (by rfl)]
  exact fin _ (by rw [lA]; omega)
end
def cst (ts:List Tok):Nat := (ts.map fun t=>t.text.length + 7).sum
theorem cst_nil:cst [] = 0 := rfl
theorem cst_cons (t:Tok) (r:List Tok):cst (t :: r) = t.text.length + 7 + cst r := by simp [cst]
theorem cst_append (a b:List Tok):cst (a++b) = cst a + cst b := by simp [cst]
theorem cst_wid:∀ ts:List Tok,cst ts = wid (ts.map Tok.bare) + 7 * ts.length
 | []=>rfl
 | t :: r=>by rw [cst_cons,cst_wid r,List.map_cons,wid_cons,lC]; simp only [Tok.bare]; omega
def sane (ts:List Tok):Prop := ∀ t ∈ ts,t.kind = 4 \/ saneT t.bare
theorem sane.tail {t:Tok} {r:List Tok} (h:sane (t :: r)):sane r := fun x hx=>h x (by simp [hx])
theorem sane.right {a b:List Tok} (h:sane (a++b)):sane b := fun x hx=>h x (by simp [hx])
theorem G_kinds {kw:List UInt8 -> Bool} {l d:Nat} {e:E} {us:List Bk} (h:G kw l d e us):∀ t ∈ us,t.1 ≠ 4 := by
 induction h with
 | num d n w=>intro t ht; simp at ht; subst ht; simp
 | name d w x _=>intro t ht; simp at ht; subst ht; simp
 | neg d e us x hd _ ih =>
  intro t ht
  rcases List.mem_cons.1 ht with rfl | ht
  ·simp
  ·exact ih t ht
 | paren d e us x y hd _ ih =>
  intro t ht
  simp only [List.cons_append,List.mem_cons,List.mem_append,List.not_mem_nil,or_false] at ht
  rcases ht with rfl | ht | rfl
  ·simp
  ·exact ih t ht
  ·simp
 | up l d e us hl _ ih=>exact ih
 | bin l d a b us vs t k hl _ ho _ iha ihb =>
  intro y hy
  simp only [List.mem_cons,List.mem_append] at hy
  rcases hy with hy | rfl | hy
  ·exact iha y hy
  ·rw [(opAt_lvl ho).2.2.1]; simp
  ·exact ihb y hy
 | cmp d a b us vs t k _ ho _ iha ihb =>
  intro y hy
  simp only [List.mem_cons,List.mem_append] at hy
  rcases hy with hy | rfl | hy
  ·exact iha y hy
  ·rw [(opAt_lvl ho).2.2.1]; simp
  ·exact ihb y hy
theorem lv_sane {ts r:List Tok} {x:E} (hs:sane ts) (h:lv kwd 0 0 ts = .ok x r):∃ us,ts = us++r /\ us ≠ [] /\ saneE x /\ fitsE kwd x 0 0 /\ (bs x 0).length + 1 <= wid (us.map Tok.bare) + us.length := by
 obtain ⟨us,rfl,hG⟩ := spelt kwd (l := 0) (by omega) h
 have hs1:∀ t ∈ us.map Tok.bare,saneT t := fun t ht=>by
  have hk := G_kinds hG t ht
  obtain ⟨y,hy,rfl⟩ := List.mem_map.1 ht
  exact (hs y (by simp [hy])).resolve_left hk
 have h2 := pr_short kwd hG (sane_nums hs1)
 rw [List.length_map] at h2
 refine ⟨us,rfl,?_,G_sane hG hs1,G_fits kwd hG,by rw [bs_len]; omega⟩
 rintro rfl
 simp [wid] at h2
theorem nm_sane {t:Tok} (h:t.kind = 4 \/ saneT t.bare) (hn:isNm kwd t.bare = true):okN t.text := by
 simp only [isNm,Bool.and_eq_true,beq_iff_eq,Bool.not_eq_true'] at hn
 have hk:t.kind = 1 := hn.1
 exact ⟨(h.resolve_left (by rw [hk]; decide)).1 hn.1,hn.2⟩
theorem one1_sane {k:Int} {p:Nat} {ts r:List Tok} {s:St} {d:Nat} (hk:k = 2 \/ k = 3 \/ k = 9 \/ k = 10) (hd:d <= 8) (hs:sane ts) (h:one1 k p ts = .ok s r):okS s d /\ ∃ t,ts = t :: r /\ (tx s d).length <= t.text.length + 7 := by
 unfold one1 at h
 cases ts with
 | nil=>cases h
 | cons t ts =>
  simp only at h
  split at h
  ·rename_i hn
   cases h
   have hN := nm_sane (hs t (by simp)) hn
   refine ⟨?_,t,rfl,?_⟩
   ·unfold okS
    rcases hk with rfl | rfl | rfl | rfl
    ·simp only [Int.reduceEq,if_false,true_or,or_true,if_true]; exact ⟨hN,trivial,trivial,trivial,trivial,trivial⟩
    ·simp only [Int.reduceEq,if_false,true_or,or_true,if_true]; exact ⟨hN,trivial,trivial,trivial,trivial,trivial⟩
    ·simp only [Int.reduceEq,if_false,true_or,or_true,if_true]; exact ⟨hN,trivial,trivial,trivial,trivial,trivial⟩
    ·simp only [Int.reduceEq,if_false,true_or,or_true,if_true]; exact ⟨hN,trivial,trivial,trivial,trivial,trivial⟩
   ·have wl := wlens
    rcases hk with rfl | rfl | rfl | rfl <;> simp only [tx,Int.reduceEq,if_false,if_true,lA,lC] <;> omega
  ·cases h
theorem read_sane:∀ (m:Nat),
  (∀ (d:Nat) (ts r:List Tok) (s:St),4 * ts.length <= m -> d <= 8 -> sane ts -> wid (ts.map Tok.bare) + ts.length <= 12100 -> stm d ts = .ok s r -> okS s d /\ exS s /\ ∃ us,ts = us++r /\ (tx s d).length + d + 1 <= cst us) ∧
  (∀ (d:Nat) (acc:List St) (ts r:List Tok) (l:List St),4 * ts.length + 1 <= m -> d < 8 -> sane ts -> wid (ts.map Tok.bare) + ts.length <= 12100 -> sts d acc ts = .ok l r -> ∃ l' us,l = acc++l' /\ okL l' (d + 1) /\ exL l' /\ ts = us++r /\ (txL l' (d + 1)).length + 8 <= cst us) ∧
  (∀ (d:Nat) (ts r:List Tok) (l:List St),4 * ts.length + 2 <= m -> d <= 8 -> sane ts -> wid (ts.map Tok.bare) + ts.length <= 12100 -> blk d ts = .ok l r -> d < 8 /\ okL l (d + 1) /\ exL l /\ ∃ us,ts = us++r /\ (txL l (d + 1)).length + 16 <= cst us) := by
 intro m
 induction m using Nat.strongRecOn with
 | ind m ih =>
 have wl := wlens
 have sub:∀ {us r:List Tok},wid ((us++r).map Tok.bare) + (us++r).length <= 12100 -> wid (r.map Tok.bare) + r.length <= 12100 := by
  intro us r h
  rw [List.map_append,wid_append,lA] at h
  omega
 have sub1:∀ {t:Tok} {r:List Tok},wid ((t :: r).map Tok.bare) + (t :: r).length <= 12100 -> wid (r.map Tok.bare) + r.length <= 12100 := fun {t r} h=>sub (us := [t]) h
 have stm_:∀ (d:Nat) (ts r:List Tok) (s:St),4 * ts.length <= m -> d <= 8 -> sane ts -> wid (ts.map Tok.bare) + ts.length <= 12100 -> stm d ts = .ok s r -> okS s d /\ exS s /\ ∃ us,ts = us++r /\ (tx s d).length + d + 1 <= cst us := by
  intro d ts r s hm hd hs hw h
  cases ts with
  | nil=>rw [stm.eq_def] at h; cases h
  | cons t r0 =>
  have bl:∀ {ts r:List Tok} {l:List St},ts.length <= r0.length -> sane ts -> wid (ts.map Tok.bare) + ts.length <= 12100 -> blk d ts = .ok l r -> d < 8 /\ okL l (d + 1) /\ exL l /\ ∃ us,ts = us++r /\ (txL l (d + 1)).length + 16 <= cst us := by
   intro ts r l hl hs hw h
   exact (ih (4 * ts.length + 2) (by simp only [lC] at hm; omega)).2.2 d ts r l (Nat.le_refl _) hd hs hw h
  rw [stm_cons] at h
  by_cases hk1:t.kind ≠ 1
  ·rw [if_pos hk1] at h
   cases h
  rw [if_neg hk1] at h
  by_cases hkw:kwd t.text = false
  ·rw [if_pos hkw] at h
   have hk1':t.kind = 1 := by simpa using hk1
   have hN:okN t.text := ⟨((hs t (by simp)).resolve_left (by rw [hk1']; decide)).1 hk1',hkw⟩
   cases r0 with
   | nil=>cases h
   | cons t1 r1 =>
    simp only at h
    split at h
    ·split at h
     ·cases h
     ·rename_i x r2 hlv
      cases h
      obtain ⟨us,rfl,hne,e1,e2,e3⟩ := lv_sane hs.tail.tail hlv
      have hw2 := sub1 (sub1 hw)
      rw [List.map_append,wid_append,lA] at hw2
      have hul:1 <= us.length := List.length_pos_iff.2 hne
      refine ⟨?_,?_,t :: t1 :: us,rfl,?_⟩
      ·unfold okS; rw [if_pos rfl]; exact ⟨hN,rfl,rfl,⟨e1,e2⟩,rfl,rfl⟩
      ·simp only [exS,exL,bsO]; exact ⟨by omega,trivial,trivial⟩
      ·simp only [tx,bsO,if_true,lA,lC,cst_cons,cst_wid us]; omega
    ·cases h
  rw [if_neg hkw] at h
  have hkw:kwd t.text = true := by simpa using hkw
  have simple:∀ {k:Int},(k = 2 \/ k = 3 \/ k = 9 \/ k = 10) -> 2 <= t.text.length -> one1 k t.pos r0 = .ok s r -> okS s d /\ exS s /\ ∃ us,t :: r0 = us++r /\ (tx s d).length + d + 1 <= cst us := by
   intro k hk ht2 h1
   obtain ⟨q1,y,rfl,q2⟩ := one1_sane (d := d) hk hd hs.tail h1
   refine ⟨q1,?_,[t,y],rfl,by simp only [cst_cons,cst_nil]; omega⟩
   unfold one1 at h1
   simp only at h1
   split at h1
   ·cases h1; simp only [exS,exL,bsO,lN]; exact ⟨by omega,trivial,trivial⟩
   ·cases h1
  by_cases hte:t.text = wLock
  ·rw [if_pos hte] at h
   exact simple (.inl rfl) (by rw [hte]; decide) h
  rw [if_neg hte] at h
  by_cases hte:t.text = wUnlock
  ·rw [if_pos hte] at h
   exact simple (.inr (.inl rfl)) (by rw [hte]; decide) h
  rw [if_neg hte] at h
  by_cases hte:t.text = wSend
  ·rw [if_pos hte] at h
   cases r0 with
   | nil=>cases h
   | cons t1 r1 =>
    simp only at h
    split at h
    ·rename_i hn
     split at h
     ·cases h
     ·rename_i x r2 hlv
      cases h
      have hN := nm_sane (hs t1 (by simp)) hn
      obtain ⟨us,rfl,hne,e1,e2,e3⟩ := lv_sane hs.tail.tail hlv
      have hw2 := sub1 (sub1 hw)
      rw [List.map_append,wid_append,lA] at hw2
      have hul:1 <= us.length := List.length_pos_iff.2 hne
      have htl:t.text.length = 4 := by rw [hte]; rfl
      refine ⟨?_,?_,t :: t1 :: us,rfl,?_⟩
      ·unfold okS; simp only [Int.reduceEq,if_false,or_self,if_true]; exact ⟨hN,(by trivial),(by trivial),⟨e1,e2⟩,(by trivial),(by trivial)⟩
      ·simp only [exS,exL,bsO]; exact ⟨by omega,trivial,trivial⟩
      ·simp only [tx,bsO,Int.reduceEq,if_false,if_true,lA,lC,cst_cons,cst_wid us]; omega
    ·cases h
  rw [if_neg hte] at h
  by_cases hte:t.text = wRecv
  ·rw [if_pos hte] at h
   cases r0 with
   | nil=>cases h
   | cons t1 r1 =>
    simp only at h
    split at h
    ·rename_i hn
     cases r1 with
     | nil=>cases h
     | cons t2 r2 =>
      simp only at h
      split at h
      ·rename_i hn2
       cases h
       have hN := nm_sane (hs t1 (by simp)) hn
       have hN2 := nm_sane (hs t2 (by simp)) hn2
       have htl:t.text.length = 4 := by rw [hte]; rfl
       refine ⟨?_,?_,[t,t1,t2],rfl,?_⟩
       ·unfold okS; simp only [Int.reduceEq,if_false,or_self,if_true]; exact ⟨hN,hN2,(by trivial),(by trivial),(by trivial),(by trivial)⟩
       ·simp only [exS,exL,bsO,lN]; exact ⟨by omega,trivial,trivial⟩
       ·simp only [tx,Int.reduceEq,if_false,if_true,lA,lC,cst_cons,cst_nil]; omega
      ·cases h
    ·cases h
  rw [if_neg hte] at h
  by_cases hte:t.text = wPrint
  ·rw [if_pos hte] at h
   split at h
   ·cases h
   ·rename_i x r2 hlv
    cases h
    obtain ⟨us,rfl,hne,e1,e2,e3⟩ := lv_sane hs.tail hlv
    have hw2 := sub1 hw
    rw [List.map_append,wid_append,lA] at hw2
    have hul:1 <= us.length := List.length_pos_iff.2 hne
    have htl:t.text.length = 5 := by rw [hte]; rfl
    refine ⟨?_,?_,t :: us,rfl,?_⟩
    ·unfold okS; simp only [Int.reduceEq,if_false,or_self,if_true]; exact ⟨(by trivial),(by trivial),(by trivial),⟨e1,e2⟩,(by trivial),(by trivial)⟩
    ·simp only [exS,exL,bsO]; exact ⟨by omega,trivial,trivial⟩
    ·simp only [tx,bsO,Int.reduceEq,if_false,if_true,lA,lC,cst_cons,cst_wid us]; omega
  rw [if_neg hte] at h
  by_cases hte:t.text = wIf
  ·rw [if_pos hte] at h
   split at h
   ·cases h
   ·rename_i x r2 hlv
    obtain ⟨us,rfl,hne,e1,e2,e3⟩ := lv_sane hs.tail hlv
    have hw2 := sub1 hw
    rw [List.map_append,wid_append,lA] at hw2
    have hul:1 <= us.length := List.length_pos_iff.2 hne
    have htl:t.text.length = 2 := by rw [hte]; rfl
    have hsr := hs.tail.right
    split at h
    ·rename_i hle
     split at h
     ·cases h
     ·rename_i body r3 hb
      obtain ⟨q1,q2,q3,ub,rfl,q4⟩ := bl (by simp only [lA]; omega) hsr (by omega) hb
      rw [List.map_append,wid_append,lA] at hw2
      have noelse:s = .mk 7 [] [] 0 (some x) body [] t.pos -> okS s d /\ exS s /\ (tx s d).length + d + 1 <= cst (t :: (us++ub)) := by
       rintro rfl
       refine ⟨?_,?_,?_⟩
       ·unfold okS; simp only [Int.reduceEq,if_false,or_self,if_true]; exact ⟨(by trivial),(by trivial),(by trivial),⟨e1,e2⟩,q1,q2,by simp only [okL]⟩
       ·simp only [exS,exL,bsO]; exact ⟨by omega,q3,trivial⟩
       ·have htb := tabsL_len d
        simp only [tx,bsO,Int.reduceEq,if_false,if_true,lA,lC,lN,cst_cons,cst_append,cst_wid us]; omega
      split at h
      ·cases h
       obtain ⟨a1,a2,a3⟩ := noelse rfl
       exact ⟨a1,a2,t :: (us++ub),by simp,a3⟩
      ·rename_i t4 r4
       split at h
       ·rename_i hel
        split at h
        ·split at h
         ·cases h
         ·rename_i els r5 hf
          cases h
          have hsr4:sane r4 := (hsr.right).tail
          have hw4:wid (r4.map Tok.bare) + r4.length <= 12100 := by
           rw [List.map_cons,wid_cons,lC] at hw2
           omega
          obtain ⟨_,p2,p3,uf,rfl,p4⟩ := bl (by simp only [lA,lC]; omega) hsr4 hw4 hf
          have ht4:t4.text.length = 4 := by
           simp only [isWord,Bool.and_eq_true,beq_iff_eq] at hel
           have:t4.text = wElse := hel.2
           rw [this]; rfl
          refine ⟨?_,?_,t :: (us++(ub++t4 :: uf)),by simp,?_⟩
          ·unfold okS; simp only [Int.reduceEq,if_false,or_self,if_true]; exact ⟨(by trivial),(by trivial),(by trivial),⟨e1,e2⟩,q1,q2,p2⟩
          ·simp only [exS,bsO]; exact ⟨by omega,q3,p3⟩
          ·have htb := tabsL_len d
           cases els with
           | nil =>
            simp only [tx,bsO,Int.reduceEq,if_false,if_true,lA,lC,lN,cst_cons,cst_append,cst_wid us]; omega
           | cons y els =>
            simp only [tx,bsO,Int.reduceEq,if_false,if_true,lA,lC,lN,cst_cons,cst_append,cst_wid us]; omega
        ·cases h
       ·cases h
        obtain ⟨a1,a2,a3⟩ := noelse rfl
        exact ⟨a1,a2,t :: (us++ub),by simp,a3⟩
    ·cases h
  rw [if_neg hte] at h
  by_cases hte:t.text = wRepeat
  ·rw [if_pos hte] at h
   cases r0 with
   | nil=>cases h
   | cons t1 r1 =>
    simp only at h
    split at h
    ·rename_i hnum
     split at h
     ·cases h
     ·rename_i body r3 hb
      cases h
      obtain ⟨q1,q2,q3,ub,rfl,q4⟩ := bl (by simp only [lC]; omega) hs.tail.tail (sub1 (sub1 hw)) hb
      have htl:t.text.length = 6 := by rw [hte]; rfl
      have hdg:(Lib.decDigits t1.num).length <= 1 := digs_len 1 t1.num (by omega) (by omega)
      refine ⟨?_,?_,t :: t1 :: ub,by simp,?_⟩
      ·unfold okS; simp only [Int.reduceEq,if_false,or_self,if_true]; exact ⟨(by trivial),(by trivial),hnum.2,(by trivial),q1,q2,(by trivial)⟩
      ·simp only [exS,exL,bsO,lN]; exact ⟨by omega,q3,trivial⟩
      ·have htb := tabsL_len d
       unfold tx
       simp only [Int.reduceEq,if_false,if_true,lA,lC,lN,cst_cons]; omega
    ·cases h
  rw [if_neg hte] at h
  by_cases hte:t.text = wGoto
  ·rw [if_pos hte] at h
   exact simple (.inr (.inr (.inl rfl))) (by rw [hte]; decide) h
  rw [if_neg hte] at h
  by_cases hte:t.text = wLabel
  ·rw [if_pos hte] at h
   exact simple (.inr (.inr (.inr rfl))) (by rw [hte]; decide) h
  rw [if_neg hte] at h
  ·cases h
 have sts_:∀ (d:Nat) (acc:List St) (ts r:List Tok) (l:List St),4 * ts.length + 1 <= m -> d < 8 -> sane ts -> wid (ts.map Tok.bare) + ts.length <= 12100 -> sts d acc ts = .ok l r -> ∃ l' us,l = acc++l' /\ okL l' (d + 1) /\ exL l' /\ ts = us++r /\ (txL l' (d + 1)).length + 8 <= cst us := by
  intro d acc ts r l hm hd hs hw h
  cases ts with
  | nil=>rw [sts.eq_def] at h; cases h
  | cons t r0 =>
   rw [sts_cons] at h
   split at h
   ·rename_i hsg
    cases h
    have ht1:t.text.length = 1 := by
     simp only [isSign,Bool.and_eq_true,beq_iff_eq] at hsg
     have:t.text = [125] := hsg.2
     rw [this]; rfl
    exact ⟨[],[t],by simp,by simp only [okL],by simp only [exL],rfl,by rw [cst_cons]; simp only [txL,lN]; omega⟩
   ·split at h
    ·cases h
    ·rename_i s r1 hst
     split at h
     ·rename_i hlt
      obtain ⟨a1,a2,us,hus,a3⟩ := (ih (4 * (t :: r0).length) (by omega)).1 (d + 1) (t :: r0) r1 s (Nat.le_refl _) (by omega) hs hw hst
      rw [hus] at hs hw
      obtain ⟨l',u2,b1,b2,b3,b4,b5⟩ := (ih (4 * r1.length + 1) (by simp only [lC] at hlt hm; omega)).2.1 d (acc++[s]) r1 r l (Nat.le_refl _) hd hs.right (sub hw) h
      refine ⟨s :: l',us++u2,by rw [b1]; simp,by simp only [okL]; exact ⟨a1,b2⟩,by simp only [exL]; exact ⟨a2,b3⟩,by rw [hus,b4]; simp,?_⟩
      have htb := tabsL_len (d + 1)
      simp only [txL,lA,lC,cst_append]
      omega
     ·cases h
 refine ⟨stm_,sts_,?_⟩
 intro d ts r l hm hd hs hw h
 rw [blk.eq_def] at h
 split at h
 ·cases h
 ·rename_i hd8
  cases ts with
  | nil=>cases h
  | cons t r0 =>
   simp only at h
   split at h
   ·rename_i hsg
    have ht1:t.text.length = 1 := by
     simp only [isSign,Bool.and_eq_true,beq_iff_eq] at hsg
     have:t.text = [123] := hsg.2
     rw [this]; rfl
    obtain ⟨l',us,b1,b2,b3,b4,b5⟩ := (ih (4 * r0.length + 1) (by simp only [lC] at hm; omega)).2.1 d [] r0 r l (Nat.le_refl _) (by omega) hs.tail (sub1 hw) h
    rw [List.nil_append] at b1
    subst b1
    exact ⟨by omega,b2,b3,t :: us,by rw [b4]; rfl,by rw [cst_cons]; omega⟩
   ·cases h
theorem dcl_sane:∀ (k:Nat) (acc:List Dc) (ts r:List Tok) (l:List Dc),ts.length <= k -> acc.length <= 24 -> sane ts -> dcl acc ts = .ok l r -> ∃ l' us,l = acc++l' /\ okDL l' /\ l.length <= 24 /\ ts = us++r /\ (dtL l').length <= cst us := by
 intro k
 induction k with
 | zero =>
  intro acc ts r l hk ha hs h
  obtain rfl := List.eq_nil_of_length_eq_zero (Nat.le_zero.1 hk)
  rw [dcl.eq_def] at h; cases h
 | succ k ih =>
  intro acc ts r l hk ha hs h
  cases ts with
  | nil=>rw [dcl.eq_def] at h; cases h
  | cons t r0 =>
   simp only [lC] at hk
   rw [dcl_eq] at h
   split at h
   ·rename_i hk1
    have hkd:1 <= declK t.text /\ declK t.text <= 6 := by
     have := hk1.2
     unfold declK at this ⊢
     repeat' split
     all_goals (first | omega | (simp_all))
    split at h
    ·cases h
    ·rename_i h24
     cases r0 with
     | nil=>cases h
     | cons t1 r1 =>
      simp only [lC] at hk
      simp only at h
      split at h
      ·rename_i hn
       have hN := nm_sane (hs t1 (by simp)) hn
       have hdw:declW (declK t.text) = t.text := by
        unfold declK at hkd ⊢
        repeat' split
        all_goals (first | omega | (simp_all [declW]))
       split at h
       ·rename_i h6
        cases r1 with
        | nil=>cases h
        | cons t2 r2 =>
         simp only [lC] at hk
         simp only at h
         split at h
         ·rename_i hnum
          obtain ⟨l',us,b1,b2,b3,b4,b5⟩ := ih (acc++[⟨6,t1.text,t2.num,t.pos⟩]) r2 r l (by omega) (by simp only [lA,lC,lN]; omega) hs.tail.tail.tail h
          have hdg:(Lib.decDigits t2.num).length <= 1 := digs_len 1 t2.num (by omega) (by omega)
          refine ⟨⟨6,t1.text,t2.num,t.pos⟩ :: l',t :: t1 :: t2 :: us,by rw [b1]; simp,?_,b3,by rw [b4]; rfl,?_⟩
          ·intro x hx
           rcases List.mem_cons.1 hx with rfl | hx
           ·exact ⟨⟨by show (1:Int) <= 6; decide,by show (6:Int) <= 6; decide⟩,hN,fun h=>absurd rfl h,hnum.2⟩
           ·exact b2 x hx
          ·rw [h6] at hdw
           simp only [dtL,dtx,hdw,if_true,lA,lC,cst_cons]; omega
         ·cases h
       ·rename_i h6
        obtain ⟨l',us,b1,b2,b3,b4,b5⟩ := ih (acc++[⟨declK t.text,t1.text,0,t.pos⟩]) r1 r l (by omega) (by simp only [lA,lC,lN]; omega) hs.tail.tail h
        refine ⟨⟨declK t.text,t1.text,0,t.pos⟩ :: l',t :: t1 :: us,by rw [b1]; simp,?_,b3,by rw [b4]; rfl,?_⟩
        ·intro x hx
         rcases List.mem_cons.1 hx with rfl | hx
         ·exact ⟨hkd,hN,fun _=>rfl,by show 0 <= 3; omega⟩
         ·exact b2 x hx
        ·simp only [dtL,dtx,hdw,h6,if_false,List.append_nil,lA,lC,cst_cons]; omega
      ·cases h
   ·cases h
    exact ⟨[],[],by simp,fun d hd=>by simp at hd,ha,rfl,by simp [dtL]⟩
theorem thr_sane:∀ (k:Nat) (acc:List (List St)) (ts r:List Tok) (l:List (List St)),ts.length <= k -> acc.length <= 4 -> sane ts -> wid (ts.map Tok.bare) + ts.length <= 12100 -> thr acc ts = .ok l r -> l ≠ [] /\ l.length <= 4 /\ ∃ l' us,l = acc++l' /\ okTL l' /\ exTL l' /\ ts = us++r /\ (ttL l').length <= cst us := by
 intro k
 induction k with
 | zero =>
  intro acc ts r l hk ha hs hw h
  obtain rfl := List.eq_nil_of_length_eq_zero (Nat.le_zero.1 hk)
  rw [thr.eq_def] at h; cases h
 | succ k ih =>
  intro acc ts r l hk ha hs hw h
  cases ts with
  | nil=>rw [thr.eq_def] at h; cases h
  | cons t r0 =>
   simp only [lC] at hk
   rw [thr_eq] at h
   split at h
   ·rename_i hne
    cases h
    exact ⟨hne.1,ha,[],[],by simp,fun d hd=>by simp at hd,fun d hd=>by simp at hd,rfl,by simp [ttL]⟩
   ·split at h
    ·cases h
    ·rename_i h4
     split at h
     ·rename_i hgo
      split at h
      ·cases h
      ·rename_i b r1 hb
       split at h
       ·rename_i hle
        have hw0:wid (r0.map Tok.bare) + r0.length <= 12100 := by
         rw [List.map_cons,wid_cons,lC] at hw
         omega
        obtain ⟨q1,q2,q3,ub,hub,q4⟩ := (read_sane (4 * r0.length + 2)).2.2 0 r0 r1 b (Nat.le_refl _) (by omega) hs.tail hw0 hb
        rw [hub] at hs hw0
        have hw1:wid (r1.map Tok.bare) + r1.length <= 12100 := by
         rw [List.map_append,wid_append,lA] at hw0
         omega
        obtain ⟨c1,c2,l',us,b1,b2,b3,b4,b5⟩ := ih (acc++[b]) r1 r l (by omega) (by simp only [lA,lC,lN]; omega) hs.tail.right hw1 h
        have ht2:t.text.length = 2 := by
         simp only [isWord,Bool.and_eq_true,beq_iff_eq] at hgo
         have:t.text = wGo := hgo.2
         rw [this]; rfl
        refine ⟨c1,c2,b :: l',t :: (ub++us),by rw [b1]; simp,?_,?_,by rw [hub,b4]; simp,?_⟩
        ·intro x hx
         rcases List.mem_cons.1 hx with rfl | hx
         ·exact q2
         ·exact b2 x hx
        ·intro x hx
         rcases List.mem_cons.1 hx with rfl | hx
         ·exact q3
         ·exact b3 x hx
        ·have wg:wGo.length = 2 := rfl
         have q4':(txL b 1).length + 16 <= cst ub := q4
         simp only [ttL,lA,lC,cst_cons,cst_append]; omega
       ·cases h
     ·cases h
theorem prg_sane {ts:List Tok} {ds:List Dc} {tl:List (List St)} (hs:sane ts) (hw:wid (ts.map Tok.bare) + ts.length <= 12100) (h:prg ts = .ok ds tl):okDL ds /\ ds.length <= 24 /\ okTL tl /\ exTL tl /\ tl ≠ [] /\ tl.length <= 4 /\ (dtL ds++ttL tl).length <= cst ts := by
 unfold prg at h
 split at h
 ·cases h
 ·rename_i d r hd
  split at h
  ·cases h
  ·rename_i t r2 ht
   cases h
   obtain ⟨l',us,b1,b2,b3,b4,b5⟩ := dcl_sane ts.length [] ts r ds (Nat.le_refl _) (by simp) hs hd
   rw [List.nil_append] at b1
   subst b1
   rw [b4] at hs hw
   have hw1:wid (r.map Tok.bare) + r.length <= 12100 := by
    rw [List.map_append,wid_append,lA] at hw
    omega
   obtain ⟨c1,c2,lq2,u2,e1,e2,e3,e4,e5⟩ := thr_sane r.length [] r r2 tl (Nat.le_refl _) (by simp) hs.right hw1 ht
   rw [List.nil_append] at e1
   subst e1
   refine ⟨b2,b3,e2,e3,c1,c2,?_⟩
   rw [b4,e4,lA,cst_append,cst_append]
   omega
theorem tokAt_len {r:List UInt8} {p:Nat} {t:Tok} (h:tokAt r p = some t):t.text.length <= r.length /\ 1 <= t.text.length := by
 unfold tokAt at h
 cases r with
 | nil=>cases h
 | cons c r' =>
  have tw:∀ f:UInt8 -> Bool,f c = true -> ((c :: r').takeWhile f).length <= (c :: r').length /\ 1 <= ((c :: r').takeWhile f).length := fun f hf =>
   ⟨by have := congrArg List.length (List.takeWhile_append_dropWhile (p := f) (l := c :: r')); rw [lA] at this; omega,by rw [List.takeWhile_cons_of_pos hf]; simp⟩
  simp only at h
  split at h
  ·rename_i hl
   split at h
   ·cases h; exact tw isLD (isLD_L hl)
   ·cases h
  ·split at h
   ·rename_i hd
    split at h
    ·cases h; exact tw isD hd
    ·cases h
   ·split at h
    ·split at h
     ·rename_i h61
      cases h
      cases r' with
      | nil=>simp at h61
      | cons=>simp
     ·cases h; simp
    ·cases h
theorem lexR_wid:∀ (k:Nat) (r:List UInt8) (p:Nat) (acc l:List Tok),r.length <= k -> lexR r p acc = .ok l -> ∃ new,l = acc++new /\ wid (new.map Tok.bare) <= r.length /\ new.length <= r.length := by
 intro k
 induction k with
 | zero =>
  intro r p acc l hr h
  obtain rfl := List.eq_nil_of_length_eq_zero (Nat.le_zero.1 hr)
  rw [lexR_nil] at h
  simp only [LR.ok.injEq] at h
  exact ⟨[],by simp [h],by simp [wid],by simp⟩
 | succ k ih =>
  intro r p acc l hr h
  cases r with
  | nil =>
   rw [lexR_nil] at h
   simp only [LR.ok.injEq] at h
   exact ⟨[],by simp [h],by simp [wid],by simp⟩
  | cons c r =>
   simp only [lC] at hr ⊢
   cases hb:W.blank c with
   | true =>
    rw [lexR_blank hb] at h
    obtain ⟨new,a1,a2,a3⟩ := ih r _ acc l (by omega) h
    exact ⟨new,a1,by omega,by omega⟩
   | false =>
    by_cases h35:c = 35
    ·subst h35
     rw [lexR_note] at h
     have hd := dropWhile_le (· != 10) r
     obtain ⟨new,a1,a2,a3⟩ := ih _ _ acc l (by omega) h
     exact ⟨new,a1,by omega,by omega⟩
    ·cases ht:tokAt (c :: r) p with
     | none=>rw [lexR_bad hb h35 ht] at h; cases h
     | some t =>
      rw [lexR_tok hb h35 ht] at h
      obtain ⟨k1,k2⟩ := tokAt_len ht
      simp only [lC] at k1
      obtain ⟨new,a1,a2,a3⟩ := ih _ _ (acc++[t]) l (by simp only [List.length_drop]; omega) h
      simp only [List.length_drop] at a2 a3
      refine ⟨t :: new,by rw [a1]; simp,?_,?_⟩
      ·rw [List.map_cons,wid_cons]; simp only [Tok.bare]; omega
      ·simp only [lC]; omega
end Go.Proofs.YtbcgpjlkkcdmmaaGreatDoor.W

namespace Go.Proofs.YtbcgpjlkkcdmmaaGreatDoor.W
open Go Go.Eng Go.Eng.Fl
set_option linter.unusedVariables false
set_option linter.unusedSimpArgs false
set_option linter.unusedSectionVars false
section
variable {TS:List Tok} {n:Nat}
theorem encR_fits (t:Tok):fits [.int .i64,.str,.int .i64,.int .i64] (encR t) = true := rfl
theorem tok_atR {r:List Tok} {t:Tok} (h:Suf TS (t :: r)):idx true [.int .i64,.str,.int .i64,.int .i64] (TS.map encR) (ix TS (t :: r)) = some (encR t) := by
 obtain ⟨p,rfl⟩ := h
 have e:ix (p++t :: r) (t :: r) = (p.length:Int) := by simp [ix]
 rw [e]
 unfold idx
 rw [cond_true,decide_eq_true (Int.natCast_nonneg _),cond_true,Int.toNat_natCast]
 simp [encR_fits]
theorem encR0 (t:Tok):((encR t).cell 0).int = t.kind := rfl
theorem encR1 (t:Tok):((encR t).cell 1).str = B t.text := rfl
theorem encR2 (t:Tok):((encR t).cell 2).int = (t.num:Int) := rfl
theorem encR3 (t:Tok):((encR t).cell 3).int = (t.pos:Int) := rfl
theorem ix_dn {r:List Tok} {t:Tok} (h:Suf TS (t :: r)) (hl:TS.length <= 6001):IntKind.wrap .i64 (ix TS r - 1) = ix TS (t :: r) := by
 have := h.len
 simp only [lC] at this
 have e:ix TS r - 1 = ix TS (t :: r) := by simp only [ix,lC]; omega
 rw [e]
 exact wrap_id (by unfold ix; omega) (by unfold ix; omega)
theorem r_sign {r:List Tok} {t:Tok} (h:Suf TS (t :: r)) (q:ByteArray) (b:Int):m_z15 n q (TS.map encR) (ix TS (t :: r)) false b = some (t.kind == 3&&t.text == L q,TS.map encR,ix TS (t :: r),false,b) := by
 unfold m_z15
 simp only [Bool.not_false,tok_atR h,bS,cond_true,encR0,encR1]
 cases hk:((t.kind:Int) == 3) with
 | true=>simp only [tok_atR h,bS,cond_true,Bool.true_and,encR1,bytes_eq,L_B]
 | false=>simp only [idx_false,bS,cond_false,Bool.false_and]
theorem r_sign_bad (q:ByteArray) (i b:Int):m_z15 n q (TS.map encR) i true b = some (false,TS.map encR,i,true,b) := by
 unfold m_z15
 simp only [Bool.not_true,idx_false,bS,cond_false]
theorem r_word {r:List Tok} {t:Tok} (h:Suf TS (t :: r)) (q:ByteArray) (b:Int):m_z16 n q (TS.map encR) (ix TS (t :: r)) false b = some (isWord (L q) t.bare,TS.map encR,ix TS (t :: r),false,b) := by
 unfold m_z16 isWord Tok.bare
 simp only [Bool.not_false,tok_atR h,bS,cond_true,encR0,encR1]
 cases hk:((t.kind:Int) == 1) with
 | true=>simp only [tok_atR h,bS,cond_true,Bool.true_and,encR1,bytes_eq,L_B]
 | false=>simp only [idx_false,bS,cond_false,Bool.false_and]
theorem r_word_bad (q:ByteArray) (i b:Int):m_z16 n q (TS.map encR) i true b = some (false,TS.map encR,i,true,b) := by
 unfold m_z16
 simp only [Bool.not_true,idx_false,bS,cond_false]
theorem r_fail (A:List T) (i b:Int):m_z12 n A i false b = some (A,i,true,i) := rfl
theorem r_fail_bad (A:List T) (i b:Int):m_z12 n A i true b = some (A,i,true,b) := rfl
theorem r_sg (t:Tok) (c:UInt8):(t.kind == 3&&t.text == [c]) = isSign c t.bare := rfl
theorem r_must (hT:Tks TS) {r:List Tok} {t:Tok} (h:Suf TS (t :: r)) (c:UInt8) (b:Int):m_z13 n (⟨#[c]⟩:ByteArray) (TS.map encR) (ix TS (t :: r)) false b = some (if isSign c t.bare then (TS.map encR,ix TS r,false,b) else (TS.map encR,ix TS (t :: r),true,ix TS (t :: r))) := by
 unfold m_z13
 rw [r_sign h,bS,show L (⟨#[c]⟩:ByteArray) = [c] from rfl,r_sg]
 cases isSign c t.bare with
 | true=>simp only [Bool.not_true,cond_false,if_true,ix_up h hT.len]
 | false=>rfl
theorem r_must_bad (q:ByteArray) (i b:Int):m_z13 n q (TS.map encR) i true b = some (TS.map encR,i,true,b) := by
 unfold m_z13
 rw [r_sign_bad]
 rfl
theorem r_nm (hn:100000 < n) (t:Tok):(bif ((t.kind:Int) == 1) then m_z35 n (B t.text) else some false) = some (t.kind == 1&&kwd t.text) := by
 cases hk:((t.kind:Int) == 1) with
 | true=>rw [cond_true,keywordR n (by omega),kw_eq,Bool.true_and]
 | false=>rfl
theorem r_name (hT:Tks TS) (hn:100000 < n) {r:List Tok} {t:Tok} (h:Suf TS (t :: r)) (b:Int):m_z14 n (TS.map encR) (ix TS (t :: r)) false b = some (if isNm kwd t.bare then (B t.text,TS.map encR,ix TS r,false,b) else ((⟨#[]⟩:ByteArray),TS.map encR,ix TS (t :: r),true,ix TS (t :: r))) := by
 unfold m_z14
 rw [show (!false) = true from rfl,tok_atR h]
 simp only [bS,encR0,cond_false]
 unfold isNm Tok.bare bne
 have hr := r_nm hn t
 cases hk:((t.kind:Int) == 1) with
 | true =>
  rw [hk] at hr
  rw [show (!(!true)) = true from rfl,tok_atR h]
  simp only [bS,encR1,cond_true,Bool.not_true,cond_false,Bool.true_and] at hr ⊢
  rw [hr]
  simp only [bS]
  cases kwd t.text with
  | true=>rfl
  | false =>
   simp only [cond_false,Bool.not_false,if_true]
   rw [ix_up h hT.len,ix_dn h hT.len,tok_atR h]
   rfl
 | false=>rfl
theorem r_name_bad (i b:Int):m_z14 n (TS.map encR) i true b = some ((⟨#[]⟩:ByteArray),TS.map encR,i,true,b) := rfl
theorem r_num (hT:Tks TS) {r:List Tok} {t:Tok} (h:Suf TS (t :: r)) (q:Nat) (b:Int):m_z8 n (q:Int) (TS.map encR) (ix TS (t :: r)) false b = some (if t.kind = 2 /\ t.num <= q then ((t.num:Int),TS.map encR,ix TS r,false,b) else (0,TS.map encR,ix TS (t :: r),true,ix TS (t :: r))) := by
 unfold m_z8
 rw [show (!false) = true from rfl,tok_atR h]
 simp only [bS,encR0,cond_false]
 by_cases hk:t.kind = 2
 ·rw [show (t.kind != 2) = false by rw [hk]; rfl,show (!false) = true from rfl,tok_atR h,bS,encR2,cond_false]
  by_cases hq:t.num <= q
  ·rw [if_pos ⟨hk,hq⟩,decide_eq_false (show ¬ ((t.num:Nat):Int) > (q:Int) by omega),cond_false,ix_up h hT.len,ix_dn h hT.len,tok_atR h]
   rfl
  ·rw [if_neg (fun h=>hq h.2),decide_eq_true (show ((t.num:Nat):Int) > (q:Int) by omega)]; rfl
 ·rw [if_neg (fun h=>hk h.1),show (t.kind != 2) = true by simp [bne,hk]]; rfl
theorem r_num_bad (q i b:Int):m_z8 n q (TS.map encR) i true b = some (0,TS.map encR,i,true,b) := rfl
abbrev Ex8 := Int × Int × ByteArray × (List T) × (List T) × Int × Bool × Int
def ResR (TS:List Tok) (b:Int) (q:Option Ex8):RE -> Prop
 | .ok e r=>q = some (kE e,nE e,wE e,oE e,TS.map encR,ix TS r,false,b)
 | .bad r=>∃ k m w o,q = some (k,m,w,o,TS.map encR,ix TS r,true,ix TS r)
structure RrOk (TS:List Tok) (c:B_z11) (m:Nat):Prop where
 ex:∀ (d:Nat) (r:List Tok) (b:Int),d <= 8 -> Suf TS r -> Ended r -> 16 * r.length + 7 < m -> ResR TS b (c.y5 (d:Int) (TS.map encR) (ix TS r) false b) (lv kwd 0 d r)
 su:∀ (d:Nat) (r:List Tok) (b:Int),d <= 8 -> Suf TS r -> Ended r -> 16 * r.length + 5 < m -> ResR TS b (c.y8 (d:Int) (TS.map encR) (ix TS r) false b) (lv kwd 1 d r)
 te:∀ (d:Nat) (r:List Tok) (b:Int),d <= 8 -> Suf TS r -> Ended r -> 16 * r.length + 3 < m -> ResR TS b (c.y9 (d:Int) (TS.map encR) (ix TS r) false b) (lv kwd 2 d r)
 fa:∀ (d:Nat) (r:List Tok) (b:Int),d <= 8 -> Suf TS r -> Ended r -> 16 * r.length + 1 < m -> ResR TS b (c.y6 (d:Int) (TS.map encR) (ix TS r) false b) (lv kwd 3 d r)
theorem r_lt8 (d:Nat):decide ((d:Int) < 8) = decide (d < 8) := by
 by_cases h:d < 8
 ·rw [decide_eq_true h,decide_eq_true]; omega
 ·rw [decide_eq_false h,decide_eq_false]; omega
theorem r_factor (hT:Tks TS) (hn:100000 < n) {c:B_z11} {m:Nat} (hc:RrOk TS c m) {d:Nat} {r:List Tok} (b:Int) (hd:d <= 8) (hs:Suf TS r) (he:Ended r) (hm:16 * r.length <= m) :
  ResR TS b (f___sutureref1_Reader__factor c n (d:Int) (TS.map encR) (ix TS r) false b) (lv kwd 3 d r) := by
 obtain ⟨t,r,rfl⟩ := he.ne
 simp only [lC] at hm
 rw [lv_fac,fac]
 unfold f___sutureref1_Reader__factor
 simp only [cond_false]
 rw [tok_atR hs,bS]
 simp only [encR0,encR1,encR2]
 rw [r_nm hn t,ix_up hs hT.len]
 by_cases h2:t.kind = 2
 ·rw [if_pos h2,show ((t.kind:Int) == 2) = true from beq_iff_eq.2 h2]; rfl
 rw [if_neg h2,show ((t.kind:Int) == 2) = false from beq_eq_false_iff_ne.2 h2,cond_false,bS]
 have hnm:(bif ((t.kind:Int) == 1) then (!(t.kind == 1&&kwd t.text)) else false) = isNm kwd t.bare := by
  unfold isNm Tok.bare
  cases ((t.kind:Int) == 1) <;> rfl
 rw [hnm]
 by_cases hk:isNm kwd t.bare = true
 ·rw [hk,if_pos rfl]; rfl
 rw [(Bool.not_eq_true _).mp hk,cond_false,if_neg (by simp),r_sign hs,bS,show L (⟨#[45]⟩:ByteArray) = [45] from rfl,r_sg]
 simp only [r_lt8]
 by_cases h45:(isSign 45 t.bare&&decide (d < 8)) = true
 ·have h45' := h45
  simp only [Bool.and_eq_true,decide_eq_true_eq] at h45'
  have her := he.cons (by rw [isSign_kind h45'.1]; decide)
  rw [if_pos h45,h45'.1,decide_eq_true h45'.2]
  simp only [cond_true]
  rw [cast_up d (by omega),ix_up hs hT.len]
  have hr := hc.fa (d + 1) r b (by omega) hs.cons her (by omega)
  rw [lv_fac] at hr
  cases hq:fac kwd (d + 1) r with
  | bad r' =>
   rw [hq] at hr
   obtain ⟨k,q,w,o,hr⟩ := hr
   rw [hr]
   exact ⟨_,_,_,_,rfl⟩
  | ok e r' =>
   rw [hq] at hr
   rw [show c.y6 ((d + 1:Nat):Int) (TS.map encR) (ix TS r) false b = _ from hr]
   simp only [bS,ResR,kE,nE,wE,oE,encE_eq e]
 rw [if_neg h45]
 have e45:(bif isSign 45 t.bare then decide (d < 8) else false) = false := by
  rw [Bool.not_eq_true] at h45
  rw [<- h45]
  cases isSign 45 t.bare <;> rfl
 rw [e45,cond_false,r_sign hs,bS,show L (⟨#[40]⟩:ByteArray) = [40] from rfl,r_sg]
 simp only
 by_cases h40:(isSign 40 t.bare&&decide (d < 8)) = true
 ·have h40' := h40
  simp only [Bool.and_eq_true,decide_eq_true_eq] at h40'
  have her := he.cons (by rw [isSign_kind h40'.1]; decide)
  rw [if_pos h40,h40'.1,decide_eq_true h40'.2]
  simp only [cond_true]
  rw [cast_up d (by omega),ix_up hs hT.len]
  have hr := hc.ex (d + 1) r b (by omega) hs.cons her (by omega)
  cases hq:lv kwd 0 (d + 1) r with
  | bad r' =>
   rw [hq] at hr
   obtain ⟨k,q,w,o,hr⟩ := hr
   rw [hr]
   simp only [bS]
   rw [r_must_bad]
   exact ⟨_,_,_,_,rfl⟩
  | ok e r' =>
   have hkp := lv_keeps kwd (l := 0) (d := d + 1) (by omega) her
   rw [hq] at hr hkp
   obtain ⟨k1,k2⟩ := hkp
   obtain ⟨t',r',rfl⟩ := k2.ne
   have hs' := hs.cons.trans k1
   rw [show c.y5 ((d + 1:Nat):Int) (TS.map encR) (ix TS r) false b = _ from hr]
   simp only [bS]
   rw [r_must hT hs',bS]
   by_cases h41:isSign 41 t'.bare = true
   ·rw [if_pos h41,if_pos h41]; rfl
   ·rw [if_neg h41,if_neg h41]; exact ⟨_,_,_,_,rfl⟩
 rw [if_neg h40]
 have e40:(bif isSign 40 t.bare then decide (d < 8) else false) = false := by
  rw [Bool.not_eq_true] at h40
  rw [<- h40]
  cases isSign 40 t.bare <;> rfl
 rw [e40,cond_false,r_fail,bS]
 exact ⟨_,_,_,_,rfl⟩
abbrev Lp12 := (List T) × Int × Bool × Int × Int × Int × ByteArray × (List T) × Int × Int × ByteArray × (List T)
abbrev St13 := Int × (List T) × Int × Bool × Int × Int × Int × ByteArray × (List T) × Int × Int × ByteArray × (List T)
def ResLR (TS:List Tok) (b:Int) (q:Option Lp12):RE -> Prop
 | .ok e r=>∃ a c f o,q = some (TS.map encR,ix TS r,false,b,a,c,f,o,kE e,nE e,wE e,oE e)
 | .bad r=>∃ a c f o k m w p,q = some (TS.map encR,ix TS r,true,ix TS r,a,c,f,o,k,m,w,p)
theorem go_op {l d:Nat} (h0:l ≠ 0) (hl:l < 3) {t:Tok} {r:List Tok} (hs:Suf TS (t :: r)) (he:Ended (t :: r)) {b:Int} {g:Int -> List T -> Int -> Bool -> Int -> Option Ex8}
  (hg:Ended r -> ResR TS b (g (d:Int) (TS.map encR) (ix TS r) false b) (lv kwd (l + 1) d r)) {K:St13 -> Option Lp12} {a1 a2:Int} {a3:ByteArray} {a4:List T} {e:E}
  (hK:∀ e' r',r'.length < r.length -> Suf TS r' -> Ended r' -> ResLR TS b (K ((d:Int),TS.map encR,ix TS r',false,b,a1,a2,a3,a4,kE e',nE e',wE e',oE e')) (lp kwd l d e' r'))
  (hB:r.length ≠ 0 -> ∀ i j k m w o,K ((d:Int),TS.map encR,i,true,j,a1,a2,a3,a4,k,m,w,o) = some (TS.map encR,i,true,j,a1,a2,a3,a4,k,m,w,o)) {x:Int} (ho:opAt t.bare l = some x) :
  ResLR TS b (Option.bind (g (d:Int) (TS.map encR) (ix TS r) false b) fun r2=>Option.bind (m_z44 n x (kE e) (nE e) (wE e) (oE e) r2.1 r2.2.1 r2.2.2.1 r2.2.2.2.1) fun r3 =>
   K ((d:Int),r2.2.2.2.2.1,r2.2.2.2.2.2.1,r2.2.2.2.2.2.2.1,r2.2.2.2.2.2.2.2,a1,a2,a3,a4,r3.1,r3.2.1,r3.2.2.1,r3.2.2.2)) (lp kwd l d e (t :: r)) := by
 have her := he.cons (opAt_kind ho)
 have hr := hg her
 cases hc:lv kwd (l + 1) d r with
 | bad r' =>
  rw [hc] at hr
  obtain ⟨u1,u2,u3,u4,hr⟩ := hr
  rw [lp_step_bad kwd ho hc,hr]
  simp only [bS,m_z44]
  obtain ⟨t1,r1,rfl⟩ := her.ne
  rw [hB (by simp)]
  exact ⟨_,_,_,_,_,_,_,_,rfl⟩
 | ok y r' =>
  have hkp := lv_keeps kwd (l := l + 1) (d := d) (by omega) her
  rw [hc] at hr hkp
  have hlt := lv_shorter kwd (by omega) hc
  rw [show g (d:Int) (TS.map encR) (ix TS r) false b = _ from hr]
  simp only [bS,m_z44]
  have hE:[(T.agg [(T.sc (.int .i64 (kE e))),(T.sc (.int .i64 (nE e))),(T.sc (.string (wE e))),(T.list (oE e))]),(T.agg [(T.sc (.int .i64 (kE y))),(T.sc (.int .i64 (nE y))),(T.sc (.string (wE y))),(T.list (oE y))])] = oE (.bin x e y) := by
   rw [<- encE_eq,<- encE_eq]; rfl
  rw [hE,lp_step kwd h0 hl ho hc]
  exact hK (.bin x e y) r' hlt (hs.cons.trans hkp.1) hkp.2
theorem op_none {t:Tok} {l:Nat} (h:t.kind ≠ 3):opAt t.bare l = none := by
 unfold opAt Tok.bare
 rw [if_neg h]
theorem r_term_loop (hT:Tks TS) {c:B_z11} {m:Nat} (hc:RrOk TS c m) {d:Nat} (hd:d <= 8) (b:Int):∀ (k:Nat) (e:E) (r:List Tok) (a1 a2:Int) (a3:ByteArray) (a4:List T),r.length < k -> Suf TS r -> Ended r -> 16 * r.length <= m →
  ResLR TS b (l___sutureref1_Reader__term_2 c n k ((d:Int),TS.map encR,ix TS r,false,b,a1,a2,a3,a4,kE e,nE e,wE e,oE e)) (lp kwd 2 d e r) := by
 intro k
 induction k with
 | zero=>intro e r a1 a2 a3 a4 h; omega
 | succ k ih =>
  intro e r a1 a2 a3 a4 hk hs he hm
  obtain ⟨t,r,rfl⟩ := he.ne
  simp only [lC] at hm hk
  show ResLR TS b (l___sutureref1_Reader__term_2_B c n (l___sutureref1_Reader__term_2 c n k) ((d:Int),TS.map encR,ix TS (t :: r),false,b,a1,a2,a3,a4,kE e,nE e,wE e,oE e)) _
  unfold l___sutureref1_Reader__term_2_B
  simp only [Bool.not_false,cond_true]
  have go:∀ x,opAt t.bare 2 = some x -> _ := fun x hx=>go_op (n := n) (TS := TS) (b := b) (K := l___sutureref1_Reader__term_2 c n k) (g := c.y6) (e := e) (a1 := a1) (a2 := a2) (a3 := a3) (a4 := a4) (l := 2) (d := d) (by omega) (by omega) hs he (fun her=>hc.fa d r b hd hs.cons her (by omega)) (fun e' r' h1 h2 h3=>ih e' r' a1 a2 a3 a4 (by omega) h2 h3 (by omega)) (fun hr0 i j k' m' w o=>by
   obtain ⟨k2,rfl⟩:∃ k2,k = k2 + 1 := ⟨k - 1,by omega⟩
   rfl) hx
  rw [r_sign hs,bS,show L (⟨#[42]⟩:ByteArray) = [42] from rfl]
  simp only
  rw [r_sign hs,show L (⟨#[47]⟩:ByteArray) = [47] from rfl]
  simp only [bS]
  rw [r_sign hs,show L (⟨#[37]⟩:ByteArray) = [37] from rfl]
  simp only [bS,ix_up hs hT.len]
  by_cases h3:t.kind = 3
  ·have hb:((t.kind:Int) == 3) = true := beq_iff_eq.2 h3
   simp only [hb,Bool.true_and]
   by_cases q1:t.text = [42]
   ·rw [show (t.text == [42]) = true from beq_iff_eq.2 q1]
    exact go 6 (by simp only [opAt,Tok.bare,h3,q1,if_true])
   rw [show (t.text == [42]) = false from beq_eq_false_iff_ne.2 q1]
   by_cases q2:t.text = [47]
   ·rw [show (t.text == [47]) = true from beq_iff_eq.2 q2]
    exact go 7 (by simp only [opAt,Tok.bare,h3,if_true,q2]; rfl)
   rw [show (t.text == [47]) = false from beq_eq_false_iff_ne.2 q2]
   by_cases q3:t.text = [37]
   ·rw [show (t.text == [37]) = true from beq_iff_eq.2 q3]
    exact go 8 (by simp only [opAt,Tok.bare,h3,if_true,q3]; rfl)
   rw [show (t.text == [37]) = false from beq_eq_false_iff_ne.2 q3]
   rw [lp_stop kwd (show opAt t.bare 2 = none by simp only [opAt,Tok.bare,h3,if_true,q1,q2,q3,if_false])]
   exact ⟨_,_,_,_,rfl⟩
  ·have hb:((t.kind:Int) == 3) = false := beq_eq_false_iff_ne.2 h3
   simp only [hb,Bool.false_and]
   rw [lp_stop kwd (op_none h3)]
   exact ⟨_,_,_,_,rfl⟩
theorem r_sum_loop (hT:Tks TS) {c:B_z11} {m:Nat} (hc:RrOk TS c m) {d:Nat} (hd:d <= 8) (b:Int):∀ (k:Nat) (e:E) (r:List Tok) (a1 a2:Int) (a3:ByteArray) (a4:List T),r.length < k -> Suf TS r -> Ended r -> 16 * r.length <= m →
  ResLR TS b (l___sutureref1_Reader__sum_2 c n k ((d:Int),TS.map encR,ix TS r,false,b,a1,a2,a3,a4,kE e,nE e,wE e,oE e)) (lp kwd 1 d e r) := by
 intro k
 induction k with
 | zero=>intro e r a1 a2 a3 a4 h; omega
 | succ k ih =>
  intro e r a1 a2 a3 a4 hk hs he hm
  obtain ⟨t,r,rfl⟩ := he.ne
  simp only [lC] at hm hk
  show ResLR TS b (l___sutureref1_Reader__sum_2_B c n (l___sutureref1_Reader__sum_2 c n k) ((d:Int),TS.map encR,ix TS (t :: r),false,b,a1,a2,a3,a4,kE e,nE e,wE e,oE e)) _
  unfold l___sutureref1_Reader__sum_2_B
  simp only [Bool.not_false,cond_true]
  have go:∀ x,opAt t.bare 1 = some x -> _ := fun x hx=>go_op (n := n) (TS := TS) (b := b) (K := l___sutureref1_Reader__sum_2 c n k) (g := c.y9) (e := e) (a1 := a1) (a2 := a2) (a3 := a3) (a4 := a4) (l := 1) (d := d) (by omega) (by omega) hs he (fun her=>hc.te d r b hd hs.cons her (by omega)) (fun e' r' h1 h2 h3=>ih e' r' a1 a2 a3 a4 (by omega) h2 h3 (by omega)) (fun hr0 i j k' m' w o=>by
   obtain ⟨k2,rfl⟩:∃ k2,k = k2 + 1 := ⟨k - 1,by omega⟩
   rfl) hx
  rw [r_sign hs,bS,show L (⟨#[43]⟩:ByteArray) = [43] from rfl]
  simp only
  rw [r_sign hs,show L (⟨#[45]⟩:ByteArray) = [45] from rfl]
  simp only [bS,ix_up hs hT.len]
  by_cases h3:t.kind = 3
  ·have hb:((t.kind:Int) == 3) = true := beq_iff_eq.2 h3
   simp only [hb,Bool.true_and]
   by_cases q1:t.text = [43]
   ·rw [show (t.text == [43]) = true from beq_iff_eq.2 q1]
    exact go 4 (by simp only [opAt,Tok.bare,h3,q1,if_true])
   rw [show (t.text == [43]) = false from beq_eq_false_iff_ne.2 q1]
   by_cases q2:t.text = [45]
   ·rw [show (t.text == [45]) = true from beq_iff_eq.2 q2]
    exact go 5 (by simp only [opAt,Tok.bare,h3,if_true,q2]; rfl)
   rw [show (t.text == [45]) = false from beq_eq_false_iff_ne.2 q2]
   rw [lp_stop kwd (show opAt t.bare 1 = none by simp only [opAt,Tok.bare,h3,if_true,q1,q2,if_false])]
   exact ⟨_,_,_,_,rfl⟩
  ·have hb:((t.kind:Int) == 3) = false := beq_eq_false_iff_ne.2 h3
   simp only [hb,Bool.false_and]
   rw [lp_stop kwd (op_none h3)]
   exact ⟨_,_,_,_,rfl⟩
theorem r_level {l d:Nat} (h0:l ≠ 0) (hl:l < 3) {r:List Tok} (hs:Suf TS r) (he:Ended r) {b:Int} {q:Option Ex8} (hq:ResR TS b q (lv kwd (l + 1) d r)) {K:St13 -> Option Lp12}
  (hK:∀ e' r',r'.length < r.length -> Suf TS r' -> Ended r' -> ResLR TS b (K ((d:Int),TS.map encR,ix TS r',false,b,0,0,(⟨#[]⟩:ByteArray),[],kE e',nE e',wE e',oE e')) (lp kwd l d e' r'))
  (hB:∀ i j k m w o,K ((d:Int),TS.map encR,i,true,j,0,0,(⟨#[]⟩:ByteArray),[],k,m,w,o) = some (TS.map encR,i,true,j,0,0,(⟨#[]⟩:ByteArray),[],k,m,w,o)) :
  ResR TS b (Option.bind q fun r0=>Option.bind (K ((d:Int),r0.2.2.2.2.1,r0.2.2.2.2.2.1,r0.2.2.2.2.2.2.1,r0.2.2.2.2.2.2.2,0,0,(⟨#[]⟩:ByteArray),([]:List T),r0.1,r0.2.1,r0.2.2.1,r0.2.2.2.1)) fun p13 =>
   some (p13.2.2.2.2.2.2.2.2.1,p13.2.2.2.2.2.2.2.2.2.1,p13.2.2.2.2.2.2.2.2.2.2.1,p13.2.2.2.2.2.2.2.2.2.2.2,p13.1,p13.2.1,p13.2.2.1,p13.2.2.2.1)) (lv kwd l d r) := by
 cases hc:lv kwd (l + 1) d r with
 | bad r' =>
  rw [hc] at hq
  obtain ⟨u1,u2,u3,u4,hq⟩ := hq
  rw [lv_step_bad kwd hl hc,hq]
  simp only [bS]
  rw [hB]
  exact ⟨_,_,_,_,rfl⟩
 | ok y r' =>
  have hkp := lv_keeps kwd (l := l + 1) (d := d) (by omega) he
  rw [hc] at hq hkp
  have hlt := lv_shorter kwd (by omega) hc
  rw [lv_step kwd hl hc,show q = _ from hq]
  simp only [bS]
  have h := hK y r' hlt (hs.trans hkp.1) hkp.2
  cases hd:lp kwd l d y r' with
  | ok e2 r2 =>
   rw [hd] at h
   obtain ⟨a,c,f,o,h⟩ := h
   rw [h]
   rfl
  | bad r2 =>
   rw [hd] at h
   obtain ⟨a,c,f,o,k,m,w,p,h⟩ := h
   rw [h]
   exact ⟨_,_,_,_,rfl⟩
theorem r_expr (hT:Tks TS) {c:B_z11} {m:Nat} (hc:RrOk TS c m) {d:Nat} {r:List Tok} (b:Int) (hd:d <= 8) (hs:Suf TS r) (he:Ended r) (hm:16 * r.length + 5 < m) :
  ResR TS b (f_z11 c n (d:Int) (TS.map encR) (ix TS r) false b) (lv kwd 0 d r) := by
 unfold f_z11
 have h := hc.su d r b hd hs he hm
 cases hq:lv kwd 1 d r with
 | bad r' =>
  rw [hq] at h
  obtain ⟨u1,u2,u3,u4,h⟩ := h
  rw [lv_step_bad kwd (by omega) hq,h]
  simp only [bS]
  rw [r_sign_bad]
  simp only [bS,cond_false]
  rw [r_sign_bad]
  exact ⟨_,_,_,_,rfl⟩
 | ok y r' =>
  have hkp := lv_keeps kwd (l := 1) (d := d) (by omega) he
  rw [hq] at h hkp
  have hlt := lv_shorter kwd (by omega) hq
  rw [lv_step kwd (by omega) hq,show c.y8 (d:Int) (TS.map encR) (ix TS r) false b = _ from h]
  obtain ⟨k1,k2⟩ := hkp
  obtain ⟨t,r',rfl⟩ := k2.ne
  have hs' := hs.trans k1
  simp only [bS]
  rw [r_sign hs',bS,show L (⟨#[60]⟩:ByteArray) = [60] from rfl]
  simp only
  rw [r_sign hs',show L (⟨#[61,61]⟩:ByteArray) = [61,61] from rfl]
  simp only [bS,ix_up hs' hT.len]
  have go:∀ x,opAt t.bare 0 = some x -> ResR TS b (Option.bind (c.y8 (d:Int) (TS.map encR) (ix TS r') false b) fun r2=>Option.bind (m_z44 n x (kE y) (nE y) (wE y) (oE y) r2.1 r2.2.1 r2.2.2.1 r2.2.2.2.1) fun r3 =>
    some (r3.1,r3.2.1,r3.2.2.1,r3.2.2.2,r2.2.2.2.2.1,r2.2.2.2.2.2.1,r2.2.2.2.2.2.2.1,r2.2.2.2.2.2.2.2)) (lp kwd 0 d y (t :: r')) := by
   intro x hx
   have her := k2.cons (opAt_kind hx)
   simp only [lC] at hlt
   have h2 := hc.su d r' b hd hs'.cons her (by omega)
   cases hq2:lv kwd 1 d r' with
   | bad r2 =>
    rw [hq2] at h2
    obtain ⟨u1,u2,u3,u4,h2⟩ := h2
    rw [lp_step_bad kwd hx hq2,h2]
    exact ⟨_,_,_,_,rfl⟩
   | ok z r2 =>
    rw [hq2] at h2
    rw [lp_step0 kwd hx hq2,show c.y8 (d:Int) (TS.map encR) (ix TS r') false b = _ from h2]
    simp only [bS,m_z44]
    have hE:[(T.agg [(T.sc (.int .i64 (kE y))),(T.sc (.int .i64 (nE y))),(T.sc (.string (wE y))),(T.list (oE y))]),(T.agg [(T.sc (.int .i64 (kE z))),(T.sc (.int .i64 (nE z))),(T.sc (.string (wE z))),(T.list (oE z))])] = oE (.bin x y z) := by
     rw [<- encE_eq,<- encE_eq]; rfl
    rw [hE]
    rfl
  by_cases h3:t.kind = 3
  ·have hb:((t.kind:Int) == 3) = true := beq_iff_eq.2 h3
   simp only [hb,Bool.true_and]
   by_cases q1:t.text = [60]
   ·rw [show (t.text == [60]) = true from beq_iff_eq.2 q1]
    exact go 9 (by simp only [opAt,Tok.bare,h3,q1,if_true])
   rw [show (t.text == [60]) = false from beq_eq_false_iff_ne.2 q1]
   by_cases q2:t.text = [61,61]
   ·rw [show (t.text == [61,61]) = true from beq_iff_eq.2 q2]
    exact go 10 (by simp only [opAt,Tok.bare,h3,if_true,q2]; rfl)
   rw [show (t.text == [61,61]) = false from beq_eq_false_iff_ne.2 q2]
   rw [lp_stop kwd (show opAt t.bare 0 = none by simp only [opAt,Tok.bare,h3,if_true,q1,q2,if_false])]
   rfl
  ·have hb:((t.kind:Int) == 3) = false := beq_eq_false_iff_ne.2 h3
   simp only [hb,Bool.false_and]
   rw [lp_stop kwd (op_none h3)]
   rfl
theorem rr_ok (hT:Tks TS) (hn:100000 < n):∀ m,RrOk TS (unB_z11 n m) m
 | 0=>⟨fun d r b _ _ _ h=>by omega,fun d r b _ _ _ h=>by omega,fun d r b _ _ _ h=>by omega,fun d r b _ _ _ h=>by omega⟩
 | m + 1=>by
  have ih := rr_ok hT hn m
  obtain ⟨n',hn'⟩:∃ n',n = n' + 1 := ⟨n - 1,by omega⟩
  refine ⟨fun d r b hd hs he hm=>r_expr hT ih b hd hs he (by omega),fun d r b hd hs he hm=>?_,fun d r b hd hs he hm=>?_,fun d r b hd hs he hm=>r_factor hT hn ih b hd hs he (by omega)⟩
  ·refine r_level (l := 1) (by omega) (by omega) hs he (ih.te d r b hd hs he (by omega)) (K := l___sutureref1_Reader__sum_2 (unB_z11 n m) n n) (fun e' r' h1 h2 h3=>r_sum_loop hT ih hd b n e' r' _ _ _ _ (by have := h2.len; have := hT.len; omega) h2 h3 (by omega)) (fun i j k m' w o=>?_)
   rw [hn']; rfl
  ·refine r_level (l := 2) (by omega) (by omega) hs he (ih.fa d r b hd hs he (by omega)) (K := l___sutureref1_Reader__term_2 (unB_z11 n m) n n) (fun e' r' h1 h2 h3=>r_term_loop hT ih hd b n e' r' _ _ _ _ (by have := h2.len; have := hT.len; omega) h2 h3 (by omega)) (fun i j k m' w o=>?_)
   rw [hn']; rfl
theorem r_whole (hT:Tks TS) (hn:100000 < n) (s:ByteArray) {r:List Tok} (b:Int) (hs:Suf TS r) (he:Ended r):ResR TS b (m_z10 n s (TS.map encR) (ix TS r) false b) (lv kwd 0 0 r) := by
 have hlen := hs.len
 have hlen2 := hT.len
 have h := (rr_ok hT hn n).ex 0 r b (by omega) hs he (by omega)
 unfold m_z10 m_z11
 simp only [Bool.not_false,cond_true]
 cases hc:lv kwd 0 0 r with
 | bad r' =>
  rw [hc] at h
  obtain ⟨k,m,w,o,h⟩ := h
  rw [show (unB_z11 n n).y5 0 (TS.map encR) (ix TS r) false b = _ from h]
  exact ⟨_,_,_,_,rfl⟩
 | ok e r' =>
  rw [hc] at h
  rw [show (unB_z11 n n).y5 0 (TS.map encR) (ix TS r) false b = _ from h]
  rfl
theorem r_whole_bad (s:ByteArray) (i b:Int):m_z10 n s (TS.map encR) i true b = some (0,0,(⟨#[]⟩:ByteArray),[],TS.map encR,i,true,b) := rfl
end
end Go.Proofs.YtbcgpjlkkcdmmaaGreatDoor.W

namespace Go.Proofs.YtbcgpjlkkcdmmaaGreatDoor.W
open Go Go.Eng Go.Eng.Fl
set_option linter.unusedVariables false
set_option linter.unusedSimpArgs false
set_option linter.unusedSectionVars false
structure TkR (s:ByteArray) (TS:List Tok):Prop where
 tkp:TkP TS
 pos:∀ t ∈ TS,t.pos <= (L s).length
 size:(L s).length <= 6000
section
variable {s:ByteArray} {TS:List Tok} {n:Nat}
abbrev Q15 := Int × ByteArray × ByteArray × Int × Int × Int × ByteArray × (List T) × (List T) × (List T) × (Nat × Nat) × (List T) × Int × Bool × Int
abbrev Q5 := (List T) × (List T) × Int × Bool × Int
def RsS (s:ByteArray) (TS:List Tok) (b:Int) (q:Option Q15) (len:Nat):RS -> Prop
 | .ok (.mk k nm o m e body els p) r=>q = some (k,B nm,B o,(m:Int),kO e,nO e,wO e,oO e,encSL (P s) body,encSL (P s) els,P s p,TS.map encR,ix TS r,false,b) /\ Suf TS r /\ Ended r /\ r.length < len
 | .bad r=>(∃ k nm o m a b c d e f g i,q = some (k,nm,o,m,a,b,c,d,e,f,g,TS.map encR,i,true,ix TS r)) /\ Suf TS r /\ Ended r
def RsB (s:ByteArray) (TS:List Tok) (b:Int) (q:Option Q5) (len:Nat):RB -> Prop
 | .ok l r=>q = some (encSL (P s) l,TS.map encR,ix TS r,false,b) /\ Suf TS r /\ Ended r /\ r.length < len
 | .bad r=>(∃ l i,q = some (l,TS.map encR,i,true,ix TS r)) /\ Suf TS r /\ Ended r
structure RkOk (s:ByteArray) (TS:List Tok) (c:B_z9) (m:Nat):Prop where
 blk:∀ (d:Nat) (r:List Tok) (b:Int),d <= 8 -> Suf TS r -> Ended r -> 4 * r.length + 2 < m -> RsB s TS b (c.y4 s ((d + 1:Nat):Int) (TS.map encR) (ix TS r) false b) r.length (blk d r)
 bad:∀ (d i b:Int),0 < m -> c.y4 s d (TS.map encR) i true b = some ([],TS.map encR,i,true,b)
 stm:∀ (d:Nat) (r:List Tok) (b:Int),d <= 8 -> Suf TS r -> Ended r -> 4 * r.length < m -> RsS s TS b (c.y7 s (d:Int) (TS.map encR) (ix TS r) false b) r.length (stm d r)
theorem r_one (hT:Tks TS) (hn:100000 < n) {t:Tok} {r:List Tok} (b:Int) (hs:Suf TS r) (he:Ended r) (k:Int) {f:ByteArray × (List T) × Int × Bool × Int -> Option Q15} (hf:∀ x,f x = some (k,x.1,(⟨#[]⟩:ByteArray),0,0,0,(⟨#[]⟩:ByteArray),[],[],[],P s t.pos,x.2.1,x.2.2.1,x.2.2.2.1,x.2.2.2.2)) :
  RsS s TS b (Option.bind (m_z14 n (TS.map encR) (ix TS r) false b) f) (t :: r).length (one1 k t.pos r) := by
 obtain ⟨t1,r1,rfl⟩ := he.ne
 rw [r_name hT hn hs,bS,hf,one1]
 by_cases hb:isNm kwd t1.bare = true
 ·rw [if_pos hb,if_pos hb]
  exact ⟨rfl,hs.cons,he.cons (by rw [isNm_kind hb]; decide),by simp only [lC]; omega⟩
 ·rw [if_neg hb,if_neg hb]
  exact ⟨⟨_,_,_,_,_,_,_,_,_,_,_,_,rfl⟩,hs,he⟩
theorem kwd_ne {w q:List UInt8} (h:kwd w = false) (hq:kwd q = true):¬ w = q := by
 intro e
 rw [e,hq] at h
 cases h
theorem r_stmt (hR:TkR s TS) (hn:100000 < n) {c:B_z9} {m:Nat} (hc:RkOk s TS c m) {d:Nat} {r:List Tok} (b:Int) (hd:d <= 8) (hs:Suf TS r) (he:Ended r) (hm:4 * r.length <= m) :
  RsS s TS b (f___sutureref1_Reader__stmt c n s (d:Int) (TS.map encR) (ix TS r) false b) r.length (stm d r) := by
 have hP := hR.tkp
 have hT := hP.tks
 obtain ⟨l1,l2,l3,l4,l5,l6,l7,l8,l9,l10,l11⟩ := lits
 obtain ⟨t,r,rfl⟩ := he.ne
 simp only [lC] at hm
 unfold f___sutureref1_Reader__stmt
 rw [tok_atR hs,bS,stm_cons,encR3,place_eq (by have := hR.size; omega) (hR.pos t hs.mem) (by have := hR.pos t hs.mem; have := hR.size; omega),bS]
 rw [encR0,encR1,ix_up hs hT.len,ix_dn hs hT.len]
 by_cases h1:t.kind ≠ 1
 ·rw [show (t.kind != 1) = true by simp [bne,h1],cond_true,if_pos h1,r_fail,bS]
  exact ⟨⟨_,_,_,_,_,_,_,_,_,_,_,_,rfl⟩,hs,he⟩
 have h1:t.kind = 1 := by omega
 rw [show (t.kind != 1) = false by rw [h1]; rfl,cond_false,if_neg (by simpa using h1)]
 have her := he.cons (by rw [h1]; decide)
 simp only [txt_dec,l1,l2,l3,l4,l5,l6,l7,l8,l9,Bool.cond_decide]
 by_cases hk:kwd t.text = false
 ·have n1:¬ t.text = wLock := kwd_ne hk (by decide)
  have n2:¬ t.text = wUnlock := kwd_ne hk (by decide)
  have n3:¬ t.text = wSend := kwd_ne hk (by decide)
  have n4:¬ t.text = wRecv := kwd_ne hk (by decide)
  have n5:¬ t.text = wPrint := kwd_ne hk (by decide)
  have n6:¬ t.text = wIf := kwd_ne hk (by decide)
  have n7:¬ t.text = wRepeat := kwd_ne hk (by decide)
  have n8:¬ t.text = wGoto := kwd_ne hk (by decide)
  have n9:¬ t.text = wLabel := kwd_ne hk (by decide)
  simp only [n1,n2,n3,n4,n5,n6,n7,n8,n9,if_false]
  rw [if_pos hk,keywordR n (by omega),kw_eq,hk,bS,cond_false]
  obtain ⟨t1,r1,rfl⟩ := her.ne
  simp only
  rw [r_must hT hs.cons 61,bS]
  by_cases h61:isSign 61 t1.bare = true
  ·rw [if_pos h61,if_pos h61]
   simp only
   have he1 := her.cons (by rw [isSign_kind h61]; decide)
   have hk1 := lv_keeps kwd (l := 0) (d := 0) (by omega) he1
   have hw := r_whole hT hn s b hs.cons.cons he1
   cases hl:lv kwd 0 0 r1 with
   | bad r2 =>
    rw [hl] at hk1 hw
    obtain ⟨_,_,_,_,hw⟩ := hw
    rw [hw]
    exact ⟨⟨_,_,_,_,_,_,_,_,_,_,_,_,rfl⟩,hs.cons.cons.trans hk1.1,hk1.2⟩
   | ok x r2 =>
    rw [hl] at hk1 hw
    have := lv_shorter kwd (by omega) hl
    rw [show m_z10 n s (TS.map encR) (ix TS r1) false b = _ from hw]
    exact ⟨rfl,hs.cons.cons.trans hk1.1,hk1.2,by simp only [lC]; omega⟩
  ·rw [if_neg h61,if_neg h61]
   simp only
   rw [r_whole_bad,bS]
   exact ⟨⟨_,_,_,_,_,_,_,_,_,_,_,_,rfl⟩,hs.cons,her⟩
 have hk':kwd t.text = true := by simpa using hk
 rw [if_neg hk]
 by_cases c1:t.text = wLock
 ·simp (config := {decide := true}) only [c1,if_true,if_false]
  exact r_one hT hn b hs.cons her 2 (fun x=>rfl)
 by_cases c2:t.text = wUnlock
 ·simp (config := {decide := true}) only [c2,if_true,if_false]
  exact r_one hT hn b hs.cons her 3 (fun x=>rfl)
 by_cases c8:t.text = wGoto
 ·simp (config := {decide := true}) only [c8,if_true,if_false]
  exact r_one hT hn b hs.cons her 9 (fun x=>rfl)
 by_cases c9:t.text = wLabel
 ·simp (config := {decide := true}) only [c9,if_true,if_false]
  exact r_one hT hn b hs.cons her 10 (fun x=>rfl)
 simp only [c1,c2,c8,c9,if_false]
 by_cases c3:t.text = wSend
 ·rw [if_pos c3,if_pos c3]
  obtain ⟨t1,r1,rfl⟩ := her.ne
  rw [r_name hT hn hs.cons,bS]
  simp only
  by_cases hb1:isNm kwd t1.bare = true
  ·rw [if_pos hb1,if_pos hb1]
   simp only
   have he1 := her.cons (by rw [isNm_kind hb1]; decide)
   have hk1 := lv_keeps kwd (l := 0) (d := 0) (by omega) he1
   have hw := r_whole hT hn s b hs.cons.cons he1
   cases hl:lv kwd 0 0 r1 with
   | bad r2 =>
    rw [hl] at hk1 hw
    obtain ⟨_,_,_,_,hw⟩ := hw
    rw [hw]
    exact ⟨⟨_,_,_,_,_,_,_,_,_,_,_,_,rfl⟩,hs.cons.cons.trans hk1.1,hk1.2⟩
   | ok x r2 =>
    rw [hl] at hk1 hw
    have := lv_shorter kwd (by omega) hl
    rw [show m_z10 n s (TS.map encR) (ix TS r1) false b = _ from hw]
    exact ⟨rfl,hs.cons.cons.trans hk1.1,hk1.2,by simp only [lC]; omega⟩
  ·rw [if_neg hb1,if_neg hb1]
   simp only
   rw [r_whole_bad,bS]
   exact ⟨⟨_,_,_,_,_,_,_,_,_,_,_,_,rfl⟩,hs.cons,her⟩
 rw [if_neg c3,if_neg c3]
 by_cases c4:t.text = wRecv
 ·rw [if_pos c4,if_pos c4]
  obtain ⟨t1,r1,rfl⟩ := her.ne
  rw [r_name hT hn hs.cons,bS]
  simp only
  by_cases hb1:isNm kwd t1.bare = true
  ·rw [if_pos hb1,if_pos hb1]
   simp only
   have he1 := her.cons (by rw [isNm_kind hb1]; decide)
   obtain ⟨t2,r2,rfl⟩ := he1.ne
   rw [r_name hT hn hs.cons.cons,bS]
   simp only
   by_cases hb2:isNm kwd t2.bare = true
   ·rw [if_pos hb2,if_pos hb2]
    exact ⟨rfl,hs.cons.cons.cons,he1.cons (by rw [isNm_kind hb2]; decide),by simp only [lC]; omega⟩
   ·rw [if_neg hb2,if_neg hb2]
    exact ⟨⟨_,_,_,_,_,_,_,_,_,_,_,_,rfl⟩,hs.cons.cons,he1⟩
  ·rw [if_neg hb1,if_neg hb1]
   simp only
   rw [r_name_bad,bS]
   exact ⟨⟨_,_,_,_,_,_,_,_,_,_,_,_,rfl⟩,hs.cons,her⟩
 rw [if_neg c4,if_neg c4]
 by_cases c5:t.text = wPrint
 ·rw [if_pos c5,if_pos c5]
  have hk1 := lv_keeps kwd (l := 0) (d := 0) (by omega) her
  have hw := r_whole hT hn s b hs.cons her
  cases hl:lv kwd 0 0 r with
  | bad r2 =>
   rw [hl] at hk1 hw
   obtain ⟨_,_,_,_,hw⟩ := hw
   rw [hw]
   exact ⟨⟨_,_,_,_,_,_,_,_,_,_,_,_,rfl⟩,hs.cons.trans hk1.1,hk1.2⟩
  | ok x r2 =>
   rw [hl] at hk1 hw
   have := lv_shorter kwd (by omega) hl
   rw [show m_z10 n s (TS.map encR) (ix TS r) false b = _ from hw]
   exact ⟨rfl,hs.cons.trans hk1.1,hk1.2,by simp only [lC]; omega⟩
 rw [if_neg c5,if_neg c5]
 by_cases c6:t.text = wIf
 ·rw [if_pos c6,if_pos c6]
  have hk1 := lv_keeps kwd (l := 0) (d := 0) (by omega) her
  have hw := r_whole hT hn s b hs.cons her
  cases hl:lv kwd 0 0 r with
  | bad r2 =>
   rw [hl] at hk1 hw
   obtain ⟨k1,k2⟩ := hk1
   obtain ⟨_,_,_,_,hw⟩ := hw
   rw [hw,bS]
   simp only
   rw [hc.bad _ _ _ (by omega),bS]
   simp only
   rw [r_word_bad,bS]
   exact ⟨⟨_,_,_,_,_,_,_,_,_,_,_,_,rfl⟩,hs.cons.trans k1,k2⟩
  | ok x r2 =>
   rw [hl] at hk1 hw
   obtain ⟨k1,k2⟩ := hk1
   have hlt := lv_shorter kwd (by omega) hl
   rw [show m_z10 n s (TS.map encR) (ix TS r) false b = _ from hw,bS]
   simp only
   rw [if_pos (by omega),cast_up d (by omega)]
   have hB := hc.blk d r2 b hd (hs.cons.trans k1) k2 (by omega)
   cases hbl:blk d r2 with
   | bad r3 =>
    rw [hbl] at hB
    obtain ⟨⟨l,i,hq⟩,k3,k4⟩ := hB
    rw [hq,bS]
    simp only
    rw [r_word_bad,bS]
    exact ⟨⟨_,_,_,_,_,_,_,_,_,_,_,_,rfl⟩,k3,k4⟩
   | ok body r3 =>
    rw [hbl] at hB
    obtain ⟨hq,k3,k4,hlt3⟩ := hB
    obtain ⟨t4,r4,rfl⟩ := k4.ne
    simp only [lC] at hlt3
    rw [hq,bS]
    simp only
    rw [r_word k3,l10,bS]
    by_cases hel:isWord wElse t4.bare = true
    ·rw [hel,if_pos rfl,if_pos (by omega)]
     simp only [cond_true]
     have ke := k4.cons (by rw [isWord_kind hel]; decide)
     rw [ix_up k3 hT.len]
     have hF := hc.blk d r4 b hd k3.cons ke (by omega)
     cases hbf:blk d r4 with
     | bad r5 =>
      rw [hbf] at hF
      obtain ⟨⟨l,i,hq2⟩,k5,k6⟩ := hF
      rw [hq2,bS]
      exact ⟨⟨_,_,_,_,_,_,_,_,_,_,_,_,rfl⟩,k5,k6⟩
     | ok els r5 =>
      rw [hbf] at hF
      obtain ⟨hq2,k5,k6,hlt5⟩ := hF
      rw [hq2,bS]
      exact ⟨rfl,k5,k6,by simp only [lC]; omega⟩
    ·have hel':isWord wElse t4.bare = false := by simpa using hel
     rw [hel',if_neg (by simp)]
     simp only [cond_false]
     exact ⟨by simp only [encSL]; rfl,k3,k4,by simp only [lC]; omega⟩
 rw [if_neg c6,if_neg c6]
 by_cases c7:t.text = wRepeat
 ·rw [if_pos c7,if_pos c7]
  obtain ⟨t1,r1,rfl⟩ := her.ne
  rw [show ((9:Int)) = ((9:Nat):Int) from rfl,r_num hT hs.cons,bS]
  simp only
  simp only [lC] at hm
  by_cases hnm:t1.kind = 2 /\ t1.num <= 9
  ·rw [if_pos hnm,if_pos hnm]
   simp only
   have he1 := her.cons (by omega)
   rw [cast_up d (by omega)]
   have hB := hc.blk d r1 b hd hs.cons.cons he1 (by omega)
   cases hbl:blk d r1 with
   | bad r3 =>
    rw [hbl] at hB
    obtain ⟨⟨l,i,hq⟩,k3,k4⟩ := hB
    rw [hq,bS]
    exact ⟨⟨_,_,_,_,_,_,_,_,_,_,_,_,rfl⟩,k3,k4⟩
   | ok body r3 =>
    rw [hbl] at hB
    obtain ⟨hq,k3,k4,hlt3⟩ := hB
    rw [hq,bS]
    exact ⟨by simp only [encSL]; rfl,k3,k4,by simp only [lC]; omega⟩
  ·rw [if_neg hnm,if_neg hnm]
   simp only
   rw [hc.bad _ _ _ (by omega),bS]
   exact ⟨⟨_,_,_,_,_,_,_,_,_,_,_,_,rfl⟩,hs.cons,her⟩
 rw [if_neg c7,if_neg c7]
 rw [keywordR n (by omega),kw_eq,hk',bS,cond_true]
 exact ⟨⟨_,_,_,_,_,_,_,_,_,_,_,_,rfl⟩,hs,he⟩
theorem r_loop_bad {c:B_z9} (d:Int) (acc:List T) (i b:Int) (k:Nat):l_z9_5 c n (k + 1) (s,d,acc,TS.map encR,i,true,b) = some (acc,TS.map encR,i,true,b) := rfl
def RsL (s:ByteArray) (TS:List Tok) (b:Int) (q:Option Q5) (len:Nat):RB -> Prop
 | .ok l r=>∃ t,isSign 125 t.bare = true /\ q = some (encSL (P s) l,TS.map encR,ix TS (t :: r),false,b) /\ Suf TS (t :: r) /\ Ended (t :: r) /\ r.length < len
 | .bad r=>(∃ l i,q = some (l,TS.map encR,i,true,ix TS r)) /\ Suf TS r /\ Ended r
theorem r_blk_loop (hR:TkR s TS) {c:B_z9} {m:Nat} (hc:RkOk s TS c m) {d:Nat} (hd:d < 8) (b:Int):∀ (k:Nat) (acc:List St) (r:List Tok),r.length < k -> acc.length + r.length <= 6001 -> Suf TS r -> Ended r -> 4 * r.length < m →
  RsL s TS b (l_z9_5 c n k (s,((d + 1:Nat):Int),encSL (P s) acc,TS.map encR,ix TS r,false,b)) r.length (sts d acc r) := by
 have hT := hR.tkp.tks
 intro k
 induction k with
 | zero=>intro acc r h; omega
 | succ k ih =>
  intro acc r hk ha hs he hm
  obtain ⟨t,r,rfl⟩ := he.ne
  simp only [lC] at hm hk ha
  show RsL s TS b (l_z9_5_B c n (l_z9_5 c n k) (s,((d + 1:Nat):Int),encSL (P s) acc,TS.map encR,ix TS (t :: r),false,b)) _ _
  unfold l_z9_5_B
  simp only [Bool.not_false,cond_true]
  rw [r_sign hs,show L (⟨#[125]⟩:ByteArray) = [125] from rfl,r_sg,bS,sts_cons]
  by_cases h1:isSign 125 t.bare = true
  ·rw [h1,if_pos rfl]
   exact ⟨t,h1,rfl,hs,he,by simp only [lC]; omega⟩
  ·have h1':isSign 125 t.bare = false := by simpa using h1
   rw [h1',if_neg (by simp)]
   simp only [Bool.not_false,cond_true]
   have hS := hc.stm (d + 1) (t :: r) b (by omega) hs he (by simp only [lC]; omega)
   cases hst:stm (d + 1) (t :: r) with
   | bad r2 =>
    rw [hst] at hS
    obtain ⟨⟨_,_,_,_,_,_,_,_,_,_,_,_,hq⟩,k3,k4⟩ := hS
    obtain ⟨t2,r2,rfl⟩ := k4.ne
    obtain ⟨k,rfl⟩:∃ j,k = j + 1 := ⟨k - 1,by omega⟩
    rw [hq,bS]
    simp only [Bool.not_true,cond_false]
    rw [r_loop_bad]
    exact ⟨⟨_,_,rfl⟩,k3,k4⟩
   | ok x r2 =>
    obtain ⟨kd,nm,o,mm,e,body,els,p⟩ := x
    rw [hst] at hS
    obtain ⟨hq,k3,k4,hlt⟩ := hS
    simp only [lC] at hlt
    rw [hq,bS]
    simp only [Bool.not_false,cond_true]
    rw [if_pos (by simp only [lC]; omega)]
    have hl:(encSL (P s) acc).length = acc.length := by rw [encSL_map,List.length_map]
    have e1:∀ x:Option Q5,must true ((Nat.beq 11 11 || Nat.beq 11 0)&&(decide ((encSL (P s) acc).length + [T.agg [(T.sc (.int .i64 kd)),(T.sc (.string (B nm))),(T.sc (.string (B o))),(T.sc (.int .i64 (mm:Int))),(T.sc (.int .i64 (kO e))),(T.sc (.int .i64 (nO e))),(T.sc (.string (wO e))),(T.list (oO e)),(T.list (encSL (P s) body)),(T.list (encSL (P s) els)),(T.sc (.complex .f64 (P s p).1 (P s p).2))]].length <= 1073741824)&&sized 11 [T.agg [(T.sc (.int .i64 kd)),(T.sc (.string (B nm))),(T.sc (.string (B o))),(T.sc (.int .i64 (mm:Int))),(T.sc (.int .i64 (kO e))),(T.sc (.int .i64 (nO e))),(T.sc (.string (wO e))),(T.list (oO e)),(T.list (encSL (P s) body)),(T.list (encSL (P s) els)),(T.sc (.complex .f64 (P s p).1 (P s p).2))]])) x = x := by
     intro x
     rw [hl,List.length_singleton,decide_eq_true (show acc.length + 1 <= 1073741824 by omega)]
     rfl
    rw [e1]
    have hr := ih (acc++[.mk kd nm o mm e body els p]) r2 (by omega) (by simp only [lA,List.length_singleton]; omega) k3 k4 (by omega)
    rw [encSL_app] at hr
    simp only [encSL,encS] at hr
    revert hr
    generalize sts d (acc++[.mk kd nm o mm e body els p]) r2 = z
    cases z with
    | bad r3=>exact fun hr=>hr
    | ok l r3 =>
     rintro ⟨t3,g1,g2,g3,g4,g5⟩
     exact ⟨t3,g1,g2,g3,g4,by simp only [lC]; omega⟩
theorem r_block (hR:TkR s TS) (hn:100000 < n) {c:B_z9} {m:Nat} (hc:RkOk s TS c m) {d:Nat} {r:List Tok} (b:Int) (hd:d <= 8) (hs:Suf TS r) (he:Ended r) (hm:4 * r.length + 2 <= m) :
  RsB s TS b (f_z9 c n s ((d + 1:Nat):Int) (TS.map encR) (ix TS r) false b) r.length (blk d r) := by
 have hT := hR.tkp.tks
 obtain ⟨t,r,rfl⟩ := he.ne
 simp only [lC] at hm
 obtain ⟨k,hk⟩:∃ j,n = j + 1 := ⟨n - 1,by omega⟩
 have lb:∀ (acc:List T) (i b:Int),l_z9_5 c n n (s,((d + 1:Nat):Int),acc,TS.map encR,i,true,b) = some (acc,TS.map encR,i,true,b) := by
  intro acc i b
  rw [show l_z9_5 c n n = l_z9_5 c n (k + 1) by rw [<- hk]]
  exact r_loop_bad _ _ _ _ _
 unfold f_z9
 by_cases h8:d = 8
 ·rw [decide_eq_true (show ((d + 1:Nat):Int) > 8 by omega),cond_true,blk.eq_def,if_pos h8,r_fail,bS]
  simp only
  rw [r_must_bad,bS]
  simp only
  rw [lb,bS]
  simp only
  rw [r_must_bad,bS]
  exact ⟨⟨_,_,rfl⟩,hs,he⟩
 rw [decide_eq_false (show ¬ ((d + 1:Nat):Int) > 8 by omega),cond_false,blk_cons _ _ _ h8,r_must hT hs 123,bS]
 by_cases h1:isSign 123 t.bare = true
 ·rw [if_pos h1,if_pos h1]
  simp only
  have her := he.cons (by rw [isSign_kind h1]; decide)
  have hlen := hs.len
  have hlen2 := hT.len
  simp only [lC] at hlen
  have hL := r_blk_loop (n := n) hR hc (d := d) (by omega) b n [] r (by omega) (by simp only [lN]; omega) hs.cons her (by omega)
  simp only [encSL] at hL
  cases hst:sts d [] r with
  | bad r2 =>
   rw [hst] at hL
   obtain ⟨⟨l,i,hq⟩,k3,k4⟩ := hL
   rw [hq,bS]
   simp only
   rw [r_must_bad,bS]
   exact ⟨⟨_,_,rfl⟩,k3,k4⟩
  | ok l r2 =>
   rw [hst] at hL
   obtain ⟨t2,g1,hq,k3,k4,hlt⟩ := hL
   rw [hq,bS]
   simp only
   rw [r_must hT k3 125,if_pos g1,bS]
   exact ⟨rfl,k3.cons,k4.cons (by rw [isSign_kind g1]; decide),by simp only [lC]; omega⟩
 ·rw [if_neg h1,if_neg h1]
  simp only
  rw [lb,bS]
  simp only
  rw [r_must_bad,bS]
  exact ⟨⟨_,_,rfl⟩,hs,he⟩
theorem r_block_bad (hn:100000 < n) {c:B_z9} (d i b:Int):f_z9 c n s d (TS.map encR) i true b = some ([],TS.map encR,i,true,b) := by
 obtain ⟨k,hk⟩:∃ j,n = j + 1 := ⟨n - 1,by omega⟩
 have lb:∀ (acc:List T) (i b:Int),l_z9_5 c n n (s,d,acc,TS.map encR,i,true,b) = some (acc,TS.map encR,i,true,b) := by
  intro acc i b
  rw [show l_z9_5 c n n = l_z9_5 c n (k + 1) by rw [<- hk]]
  exact r_loop_bad _ _ _ _ _
 unfold f_z9
 cases decide ((d:Int) > 8) with
 | true =>
  rw [cond_true,r_fail_bad,bS]
  simp only
  rw [r_must_bad,bS]
  simp only
  rw [lb,bS]
  simp only
  rw [r_must_bad,bS]
 | false =>
  rw [cond_false,r_must_bad,bS]
  simp only
  rw [lb,bS]
  simp only
  rw [r_must_bad,bS]
theorem rk_ok (hR:TkR s TS) (hn:100000 < n):∀ m,RkOk s TS (unB_z9 n m) m
 | 0=>⟨fun d r b _ _ _ h=>by omega,fun d i b h=>by omega,fun d r b _ _ _ h=>by omega⟩
 | m + 1=>by
  have ih := rk_ok hR hn m
  exact ⟨fun d r b hd hs he hm=>r_block hR hn ih b hd hs he (by omega),fun d i b _=>r_block_bad hn d i b,fun d r b hd hs he hm=>r_stmt hR hn ih b hd hs he (by omega)⟩
end
end Go.Proofs.YtbcgpjlkkcdmmaaGreatDoor.W

namespace Go.Proofs.YtbcgpjlkkcdmmaaGreatDoor.W
open Go Go.Eng Go.Eng.Fl
set_option linter.unusedVariables false
set_option linter.unusedSimpArgs false
set_option linter.unusedSectionVars false
abbrev dkL (n k:Nat) (a:ByteArray) (i:Int):Option (Int ⊕ Unit) := l_z31_2 n k (a,(⟨#[118,97,114]⟩:ByteArray),(⟨#[119,105,100,101]⟩:ByteArray),(⟨#[97,116,111,109,105,99]⟩:ByteArray),(⟨#[108,111,99,97,108]⟩:ByteArray),(⟨#[109,117,116,101,120]⟩:ByteArray),(⟨#[99,104,97,110]⟩:ByteArray),i)
theorem dk0 (n k:Nat) (a:ByteArray):dkL n (k + 1) a 0 = bif (ByteArray.toList a == ByteArray.toList (⟨#[118,97,114]⟩:ByteArray)) then some (.inl 1) else dkL n k a 1 := rfl
theorem dk1 (n k:Nat) (a:ByteArray):dkL n (k + 1) a 1 = bif (ByteArray.toList a == ByteArray.toList (⟨#[119,105,100,101]⟩:ByteArray)) then some (.inl 2) else dkL n k a 2 := rfl
theorem dk2 (n k:Nat) (a:ByteArray):dkL n (k + 1) a 2 = bif (ByteArray.toList a == ByteArray.toList (⟨#[97,116,111,109,105,99]⟩:ByteArray)) then some (.inl 3) else dkL n k a 3 := rfl
theorem dk3 (n k:Nat) (a:ByteArray):dkL n (k + 1) a 3 = bif (ByteArray.toList a == ByteArray.toList (⟨#[108,111,99,97,108]⟩:ByteArray)) then some (.inl 4) else dkL n k a 4 := rfl
theorem dk4 (n k:Nat) (a:ByteArray):dkL n (k + 1) a 4 = bif (ByteArray.toList a == ByteArray.toList (⟨#[109,117,116,101,120]⟩:ByteArray)) then some (.inl 5) else dkL n k a 5 := rfl
theorem dk5 (n k:Nat) (a:ByteArray):dkL n (k + 1) a 5 = bif (ByteArray.toList a == ByteArray.toList (⟨#[99,104,97,110]⟩:ByteArray)) then some (.inl 6) else dkL n k a 6 := rfl
theorem dk6 (n k:Nat) (a:ByteArray):dkL n (k + 1) a 6 = some (.inr ()) := rfl
theorem r_declKind {n:Nat} (hn:100000 < n) (w:List UInt8):m_z31 n (B w) = some (declK w) := by
 obtain ⟨k,hk⟩:∃ k,n = k + 7 := ⟨n - 7,by omega⟩
 have hl:∀ q:ByteArray,(ByteArray.toList (B w) == ByteArray.toList q) = decide (w = L q) := by
  intro q
  rw [bytes_eq,L_B]
  by_cases h:w = L q
  ·rw [decide_eq_true h,beq_iff_eq]; exact h
  ·rw [decide_eq_false h,beq_eq_false_iff_ne]; exact h
 have e:m_z31 n (B w) = Option.bind (dkL n n (B w) 0) fun x1=>Sum.elim (fun p2=>some p2) (fun x1'=>some 0) x1 := rfl
 rw [e]
 rw [show dkL n n (B w) 0 = dkL n (k + 7) (B w) 0 by rw [<- hk],dk0,dk1,dk2,dk3,dk4,dk5,dk6]
 have m1:L (⟨#[118,97,114]⟩:ByteArray) = wVar := rfl
 have m2:L (⟨#[119,105,100,101]⟩:ByteArray) = wWide := rfl
 have m3:L (⟨#[97,116,111,109,105,99]⟩:ByteArray) = wAtomic := rfl
 have m4:L (⟨#[108,111,99,97,108]⟩:ByteArray) = wLocal := rfl
 have m5:L (⟨#[109,117,116,101,120]⟩:ByteArray) = wMutex := rfl
 have m6:L (⟨#[99,104,97,110]⟩:ByteArray) = wChan := rfl
 simp only [hl,Bool.cond_decide,m1,m2,m3,m4,m5,m6]
 unfold declK
 by_cases c1:w = wVar
 ·rw [if_pos c1,if_pos c1]; rfl
 rw [if_neg c1,if_neg c1]
 by_cases c2:w = wWide
 ·rw [if_pos c2,if_pos c2]; rfl
 rw [if_neg c2,if_neg c2]
 by_cases c3:w = wAtomic
 ·rw [if_pos c3,if_pos c3]; rfl
 rw [if_neg c3,if_neg c3]
 by_cases c4:w = wLocal
 ·rw [if_pos c4,if_pos c4]; rfl
 rw [if_neg c4,if_neg c4]
 by_cases c5:w = wMutex
 ·rw [if_pos c5,if_pos c5]; rfl
 rw [if_neg c5,if_neg c5]
 by_cases c6:w = wChan
 ·rw [if_pos c6,if_pos c6]; rfl
 rw [if_neg c6,if_neg c6]
 rfl
theorem declK_pos (w:List UInt8):decide ((declK w:Int) > 0) = decide (declK w ≠ 0) := by
 have h:declK w = 0 \/ declK w > 0 := by
  unfold declK
  repeat' split
  all_goals first | exact .inl rfl | exact .inr (by decide)
 rcases h with h | h
 ·rw [h]; rfl
 ·rw [decide_eq_true h,decide_eq_true]; omega
section
variable {s:ByteArray} {TS:List Tok} {n:Nat}
abbrev Q10 := ByteArray × (List T) × (List T) × (List T) × (List T) × Int × Bool × Int × (List T) × (List T)
def RsD (s:ByteArray) (TS:List Tok) (b:Int) (x1 x2 x3 x9:List T) (q:Option Q10):RD -> Prop
 | .ok l r=>q = some (s,x1,x2,x3,TS.map encR,ix TS r,false,b,l.map (encD (P s)),x9) /\ Suf TS r /\ Ended r
 | .bad r=>(∃ l i,q = some (s,x1,x2,x3,TS.map encR,i,true,ix TS r,l,x9)) /\ Suf TS r /\ Ended r
theorem r_dcl_bad (x1 x2 x3 x9 l:List T) (i b:Int) (k:Nat):l_z55_6 n (k + 1) (s,x1,x2,x3,TS.map encR,i,true,b,l,x9) = some (s,x1,x2,x3,TS.map encR,i,true,b,l,x9) := rfl
theorem r_decls (hR:TkR s TS) (hn:100000 < n) (b:Int) (x1 x2 x3 x9:List T):∀ (k:Nat) (acc:List Dc) (r:List Tok),r.length < k -> acc.length + r.length <= 6001 -> Suf TS r -> Ended r →
  RsD s TS b x1 x2 x3 x9 (l_z55_6 n k (s,x1,x2,x3,TS.map encR,ix TS r,false,b,acc.map (encD (P s)),x9)) (dcl acc r) := by
 have hT := hR.tkp.tks
 intro k
 induction k with
 | zero=>intro acc r h; omega
 | succ k ih =>
  intro acc r hk ha hs he
  obtain ⟨t,r,rfl⟩ := he.ne
  simp only [lC] at hk ha
  have hl:(acc.map (encD (P s))).length = acc.length := List.length_map _
  show RsD s TS b x1 x2 x3 x9 (l_z55_6_B n (l_z55_6 n k) (s,x1,x2,x3,TS.map encR,ix TS (t :: r),false,b,acc.map (encD (P s)),x9)) _
  unfold l_z55_6_B
  simp only [Bool.not_false,cond_true]
  rw [tok_atR hs]
  simp only [bS,encR0]
  rw [dcl_eq]
  by_cases h1:t.kind ≠ 1
  ·rw [show (t.kind == 1) = false from beq_eq_false_iff_ne.2 h1,if_neg (fun h=>h1 h.1)]
   exact ⟨rfl,hs,he⟩
  have h1:t.kind = 1 := by omega
  have her := he.cons (by rw [h1]; decide)
  obtain ⟨t1,r1,rfl⟩ := her.ne
  simp only [lC] at hk ha
  rw [beq_iff_eq.2 h1]
  simp only [cond_true]
  rw [tok_atR hs]
  simp only [bS,encR1,encR3]
  rw [r_declKind hn,bS,declK_pos]
  by_cases h0:declK t.text = 0
  ·rw [decide_eq_false (by simpa using h0),if_neg (fun h=>h.2 h0)]
   exact ⟨rfl,hs,he⟩
  rw [decide_eq_true h0,if_pos ⟨h1,h0⟩,hl,cond_true]
  by_cases h24:acc.length = 24
  ·rw [show ((((acc.length:Nat):Int):Int) == 24) = true by rw [h24]; rfl,cond_true,if_pos h24,r_fail,bS]
   exact ⟨⟨_,_,rfl⟩,hs,he⟩
  rw [show ((((acc.length:Nat):Int):Int) == 24) = false by rw [beq_eq_false_iff_ne]; omega,cond_false,if_neg h24]
  rw [place_eq (by have := hR.size; omega) (hR.pos t hs.mem) (by have := hR.pos t hs.mem; have := hR.size; omega),bS,bS,ix_up hs hT.len,r_name hT hn hs.cons,bS]
  try simp only
  have hz:∀ (kd:Int) (nm:ByteArray) (m:Int),sized 4 [T.agg [(T.sc (.int .i64 kd)),(T.sc (.string nm)),(T.sc (.int .i64 m)),T.sc (.complex .f64 (P s t.pos).1 (P s t.pos).2)]] = true := fun _ _ _=>rfl
  have ha':(acc.map (encD (P s))).length <= 6001 := by rw [hl]; omega
  obtain ⟨j,rfl⟩:∃ j,k = j + 1 := ⟨k - 1,by omega⟩
  by_cases hb1:isNm kwd t1.bare = true
  ·rw [if_pos hb1,if_pos hb1]
   simp only
   have he1 := her.cons (by rw [isNm_kind hb1]; decide)
   obtain ⟨t2,r2,rfl⟩ := he1.ne
   simp only [lC] at hk ha
   by_cases h6:declK t.text = 6
   ·rw [h6,if_pos rfl,show (((6:Int)) == 6) = true from rfl,cond_true,show ((3:Int)) = ((3:Nat):Int) from rfl,r_num hT hs.cons.cons,bS]
    simp only
    by_cases hnm:t2.kind = 2 /\ t2.num <= 3
    ·rw [if_pos hnm,if_pos hnm]
     simp only
     rw [<- hl,fitD 0 _ _ (hz _ _ _) ha']
     have := ih (acc++[⟨6,t1.text,t2.num,t.pos⟩]) r2 (by omega) (by simp only [lA,List.length_singleton]; omega) hs.cons.cons.cons (he1.cons (by omega))
     rw [List.map_append] at this
     exact this
    ·rw [if_neg hnm,if_neg hnm]
     simp only
     rw [<- hl,fitD 0 _ _ (hz _ _ _) ha',r_dcl_bad]
     exact ⟨⟨_,_,rfl⟩,hs.cons.cons,he1⟩
   ·rw [if_neg h6,show (declK t.text == 6) = false from beq_eq_false_iff_ne.2 h6,cond_false,<- hl,fitD 0 _ _ (hz _ _ _) ha']
    have := ih (acc++[⟨declK t.text,t1.text,0,t.pos⟩]) (t2 :: r2) (by simp only [lC]; omega) (by simp only [lA,lC,lN]; omega) hs.cons.cons he1
    rw [List.map_append] at this
    exact this
  ·rw [if_neg hb1,if_neg hb1]
   simp only
   rw [r_num_bad,bS]
   simp only
   rw [<- hl,fitD 0 _ _ (hz _ _ _) ha',r_dcl_bad]
   cases (declK t.text == 6)
   ·exact ⟨⟨_,_,rfl⟩,hs.cons,her⟩
   ·exact ⟨⟨_,_,rfl⟩,hs.cons,her⟩
abbrev Q9 := (List T) × (List T) × (List T) × (List T) × Int × Bool × Int × (List T) × (List T)
def RsT (s:ByteArray) (TS:List Tok) (b:Int) (x1 x2 x3 x8:List T) (q:Option Q9):RT -> Prop
 | .ok l r=>q = some (x1,x2,x3,TS.map encR,ix TS r,false,b,x8,l.map (encT (P s))) /\ Suf TS r /\ Ended r
 | .bad r=>(∃ l i,q = some (x1,x2,x3,TS.map encR,i,true,ix TS r,x8,l)) /\ Suf TS r /\ Ended r
theorem r_thr_bad (x1 x2 x3 x8 l:List T) (i b:Int) (k:Nat):l_z55_15 n (k + 1) (s,x1,x2,x3,TS.map encR,i,true,b,x8,l) = some (x1,x2,x3,TS.map encR,i,true,b,x8,l) := rfl
theorem r_threads (hR:TkR s TS) (hn:100000 < n) (b:Int) (x1 x2 x3 x8:List T):∀ (k:Nat) (acc:List (List St)) (r:List Tok),r.length < k -> acc.length + r.length <= 6001 -> Suf TS r -> Ended r →
  RsT s TS b x1 x2 x3 x8 (l_z55_15 n k (s,x1,x2,x3,TS.map encR,ix TS r,false,b,x8,acc.map (encT (P s)))) (thr acc r) := by
 have hT := hR.tkp.tks
 have hb := rk_ok hR hn n
 intro k
 induction k with
 | zero=>intro acc r h; omega
 | succ k ih =>
  intro acc r hk ha hs he
  obtain ⟨t,r,rfl⟩ := he.ne
  simp only [lC] at hk ha
  have hlen := hs.len
  have hlen2 := hT.len
  simp only [lC] at hlen
  have hl:(acc.map (encT (P s))).length = acc.length := List.length_map _
  have ha':(acc.map (encT (P s))).length <= 6001 := by rw [hl]; omega
  obtain ⟨j,rfl⟩:∃ j,k = j + 1 := ⟨k - 1,by omega⟩
  show RsT s TS b x1 x2 x3 x8 (l_z55_15_B n (l_z55_15 n (j + 1)) (s,x1,x2,x3,TS.map encR,ix TS (t :: r),false,b,x8,acc.map (encT (P s)))) _
  unfold l_z55_15_B
  simp only [Bool.not_false,cond_true]
  rw [thr_eq,tok_atR hs,bS,encR0,hl]
  by_cases hz:acc ≠ [] /\ t.kind = 4
  ·have hzl:acc.length ≠ 0 := fun h=>hz.1 (List.eq_nil_of_length_eq_zero h)
   rw [if_pos hz,show (t.kind != 4) = false by rw [hz.2]; rfl,show ((((acc.length:Nat):Int):Int) == 0) = false by rw [beq_eq_false_iff_ne]; omega]
   exact ⟨rfl,hs,he⟩
  rw [if_neg hz]
  have hgo:(bif (t.kind != 4) then true else ((((acc.length:Nat):Int):Int) == 0)) = true := by
   by_cases h4:t.kind = 4
   ·have h0:acc = [] := by
     cases acc with
     | nil=>rfl
     | cons a l=>exact absurd ⟨by simp,h4⟩ hz
    subst h0
    cases (t.kind != 4) <;> rfl
   ·rw [show (t.kind != 4) = true by simp [bne,h4]]; rfl
  rw [hgo,cond_true,r_word hs,lits.2.2.2.2.2.2.2.2.2.2,bS]
  simp only
  by_cases h4:acc.length = 4
  ·rw [show ((((acc.length:Nat):Int):Int) == 4) = true by rw [h4]; rfl,if_pos h4]
   have e:(bif (!isWord wGo t.bare) then true else true) = true := by cases isWord wGo t.bare <;> rfl
   rw [e,cond_true,r_fail,bS]
   exact ⟨⟨_,_,rfl⟩,hs,he⟩
  rw [show ((((acc.length:Nat):Int):Int) == 4) = false by rw [beq_eq_false_iff_ne]; omega,if_neg h4]
  by_cases hg:isWord wGo t.bare = true
  ·rw [hg,if_pos rfl]
   simp only [Bool.not_true,cond_false]
   have her := he.cons (by rw [isWord_kind hg]; decide)
   rw [ix_up hs hT.len]
   have hB:RsB s TS b (m_z9 n s 1 (TS.map encR) (ix TS r) false b) r.length (blk 0 r) := hb.blk 0 r b (by omega) hs.cons her (by omega)
   cases hbl:blk 0 r with
   | bad r3 =>
    rw [hbl] at hB
    obtain ⟨⟨l,i,hq⟩,k3,k4⟩ := hB
    rw [hq,bS]
    simp only
    rw [<- hl,fitT _ _ ha',r_thr_bad]
    exact ⟨⟨_,_,rfl⟩,k3,k4⟩
   | ok l r3 =>
    rw [hbl] at hB
    obtain ⟨hq,k3,k4,hlt⟩ := hB
    rw [hq,bS]
    simp only
    rw [if_pos (by omega),<- hl,fitT _ _ ha']
    have := ih (acc++[l]) r3 (by omega) (by simp only [lA,List.length_singleton]; omega) k3 k4
    rw [List.map_append] at this
    exact this
  ·have hg':isWord wGo t.bare = false := by simpa using hg
   rw [hg',if_neg (by simp)]
   simp only [Bool.not_false,cond_true]
   rw [r_fail,bS]
   exact ⟨⟨_,_,rfl⟩,hs,he⟩
end
theorem tkR_of {u:List UInt8} (hu:u.length <= 6000) {l:List Tok} (hl:lexR u 0 [] = .ok l):TkR (B u) (l++[endT u]) := by
 refine ⟨tkp_of hu hl,fun t ht=>?_,by rw [L_B]; exact hu⟩
 rw [L_B]
 rcases List.mem_append.1 ht with ht | ht
 ·have := lexR_pos u.length u 0 [] l (Nat.le_refl _) (by simp) hl t ht
  omega
 ·simp only [List.mem_singleton] at ht; subst ht; exact Nat.le_refl _
theorem r_parse {n:Nat} (hn:100000 < n) {u:List UInt8} (hu:u.length <= 6000) {l:List Tok} (hl:lexR u 0 [] = .ok l) :
  (∃ d th,prg (l++[endT u]) = .ok d th /\ m_z55 n (B u) = some (d.map (encD (P (B u))),th.map (encT (P (B u))),0,0)) ∨
  (∃ t r,prg (l++[endT u]) = .bad (t :: r) /\ t.pos <= u.length /\ m_z55 n (B u) = some ([],[],(t.pos:Int),2)) := by
 have hR := tkR_of hu hl
 have hlen2 := hR.tkp.tks.len
 have he := hR.tkp.tks.ended
 obtain ⟨j,hj⟩:∃ j,n = j + 1 := ⟨n - 1,by omega⟩
 unfold m_z55 prg
 rw [tokensR_eq (by omega)]
 unfold toksR
 rw [if_neg (by rw [L_B]; omega),L_B,hl]
 simp only [bS]
 rw [show ((((0:Int)):Int) != 0) = false from rfl,cond_false]
 have e:∀ X:List Tok,X = l++[endT u] -> X.map encR = (l++[endT u]).map encR := fun X h=>by rw [h]
 rw [show (⟨4,[],0,u.length⟩:Tok) = endT u from rfl]
 have hD := r_decls hR hn 0 ((l++[endT u]).map encR) [] [] [] n [] (l++[endT u]) (by omega) (by simp only [lN]; omega) (Suf.refl _) he
 rw [ix_all] at hD
 simp only [List.map_nil] at hD
 cases hd:dcl [] (l++[endT u]) with
 | bad r =>
  rw [hd] at hD
  obtain ⟨⟨dl,i,hq⟩,k3,k4⟩ := hD
  obtain ⟨t,r,rfl⟩ := k4.ne
  right
  rw [hq,bS]
  simp only
  rw [show l_z55_15 n n = l_z55_15 n (j + 1) by rw [<- hj],r_thr_bad,bS]
  simp only [cond_true]
  rw [tok_atR k3,bS,encR3]
  exact ⟨t,r,rfl,by have := hR.pos t k3.mem; rw [L_B] at this; exact this,rfl⟩
 | ok d r =>
  rw [hd] at hD
  obtain ⟨hq,k3,k4⟩ := hD
  have hlen := k3.len
  rw [hq,bS]
  simp only
  have hT := r_threads hR hn 0 ((l++[endT u]).map encR) [] [] (d.map (encD (P (B u)))) n [] r (by omega) (by simp only [lN]; omega) k3 k4
  simp only [List.map_nil] at hT
  cases ht:thr [] r with
  | bad r2 =>
   rw [ht] at hT
   obtain ⟨⟨tl,i,hq2⟩,k5,k6⟩ := hT
   obtain ⟨t,r2,rfl⟩ := k6.ne
   right
   rw [hq2,bS]
   simp only [cond_true]
   rw [tok_atR k5,bS,encR3]
   exact ⟨t,r2,rfl,by have := hR.pos t k5.mem; rw [L_B] at this; exact this,rfl⟩
  | ok tl r2 =>
   rw [ht] at hT
   obtain ⟨hq2,k5,k6⟩ := hT
   left
   rw [hq2,bS]
   exact ⟨d,tl,rfl,rfl⟩
end Go.Proofs.YtbcgpjlkkcdmmaaGreatDoor.W

namespace Go.Proofs.YtbcgpjlkkcdmmaaGreatDoor.W
open Go Go.Eng Go.Eng.Fl Go.RowKit
set_option linter.unusedVariables false
set_option linter.unusedSimpArgs false
set_option linter.unusedSectionVars false
theorem lexR_badpos:∀ (k:Nat) (r:List UInt8) (p:Nat) (acc:List Tok),r.length <= k -> ∀ q,lexR r p acc = .bad q -> q <= p + r.length := by
 intro k
 induction k with
 | zero =>
  intro r p acc hr q h
  have:r = [] := List.length_eq_zero_iff.1 (by omega)
  subst this
  rw [lexR_nil] at h; cases h
 | succ k ih =>
  intro r p acc hr q h
  cases r with
  | nil=>rw [lexR_nil] at h; cases h
  | cons c r =>
   simp only [lC] at hr ⊢
   cases hb:blank c with
   | true=>rw [lexR_blank hb] at h; have := ih r _ acc (by omega) q h; omega
   | false =>
    by_cases h35:c = 35
    ·subst h35
     rw [lexR_note] at h
     have h1 := congrArg List.length (List.takeWhile_append_dropWhile (p := (· != 10)) (l := r))
     rw [lA] at h1
     have := ih _ _ acc (by omega) q h
     omega
    ·cases ht:tokAt (c :: r) p with
     | none=>rw [lexR_bad hb h35 ht] at h; cases h; omega
     | some t =>
      rw [lexR_tok hb h35 ht] at h
      obtain ⟨g1,g2,g3,g4⟩ := tokAt_pos ht
      simp only [lC] at g3
      have := ih _ _ (acc++[t]) (by rw [List.length_drop]; omega) q h
      rw [List.length_drop] at this
      omega
theorem sane_of' {u:List UInt8} {l:List Tok} (hl:lexR u 0 [] = .ok l):sane (l++[endT u]) := by
 intro t ht
 rcases List.mem_append.1 ht with ht | ht
 ·exact .inr (lexR_sane u.length u 0 [] l (Nat.le_refl _) (by simp) hl t ht)
 ·simp only [List.mem_singleton] at ht
  subst ht
  exact .inl rfl
theorem cost_of' {u:List UInt8} {l:List Tok} (hl:lexR u 0 [] = .ok l):wid ((l++[endT u]).map Tok.bare) <= u.length /\ (l++[endT u]).length <= u.length + 1 := by
 obtain ⟨new,h1,h2,h3⟩ := lexR_wid u.length u 0 [] l (Nat.le_refl _) hl
 rw [List.nil_append] at h1
 subst h1
 rw [List.map_append,wid_append,lA]
 refine ⟨?_,by simp only [lC,lN]; omega⟩
 have:wid ([endT u].map Tok.bare) = 0 := rfl
 omega
section
variable {n:Nat}
theorem both (hn:100000 < n) {u:List UInt8} (hu:u.length <= 281474976710656) :
  (∃ k:Nat,k <= u.length /\ k <= 6000 /\ m_z92 n (B u) = some ([],[],P (B u) k,2) /\ m_z55 n (B u) = some ([],[],(k:Int),2)) ∨
  (∃ (ds:List Dc) (tl:List (List St)),m_z92 n (B u) = some (ds.map (encD (P (B u))),tl.map (encT (P (B u))),(0,0),0) /\ m_z55 n (B u) = some (ds.map (encD (P (B u))),tl.map (encT (P (B u))),0,0) ∧
   ds.length <= 24 /\ okTL tl /\ tl.length <= 4 /\ (ttL tl).length <= 60000) := by
 have hLu:(L (B u)).length = u.length := by rw [L_B]
 by_cases h6:6000 < u.length
 ·refine .inl ⟨6000,by omega,by omega,?_,?_⟩
  ·unfold m_z92
   rw [tokens_eq (by omega) (by omega)]
   unfold toksL
   rw [if_pos (by omega)]
   rfl
  ·unfold m_z55
   rw [tokensR_eq (by omega)]
   unfold toksR
   rw [if_pos (by omega)]
   rfl
 ·cases hl:lexR u 0 [] with
  | bad q =>
   have hq := lexR_badpos _ u 0 [] (Nat.le_refl _) q hl
   refine .inl ⟨q,by omega,by omega,?_,?_⟩
   ·unfold m_z92
    rw [tokens_eq (by omega) (by omega)]
    unfold toksL
    rw [if_neg (by omega),L_B,hl]
    rfl
   ·unfold m_z55
    rw [tokensR_eq (by omega)]
    unfold toksR
    rw [if_neg (by omega),L_B,hl]
    rfl
  | ok l =>
   rcases r_parse hn (by omega) hl with ⟨d,th,h1,h2⟩ | ⟨t,r,h1,h2,h3⟩
   ·obtain ⟨w1,w2⟩ := cost_of' hl
    obtain ⟨g1,g2,g3,g4,g5,g6,g7⟩ := prg_sane (sane_of' hl) (by omega) h1
    rw [cst_wid,lA] at g7
    exact .inr ⟨d,th,read_ok hn (by omega) hl h1,h2,g2,g3,g6,by omega⟩
   ·exact .inl ⟨t.pos,h2,by omega,read_no hn (by omega) hl h1,h3⟩
structure PlOk (p:Nat -> Nat × Nat) (b:B_z40) (m:Nat):Prop where
 pl:∀ (la:List St) (d:Nat),okL la d -> d <= 8 -> 9 < m + d -> (txL la d).length <= 60000 -> b.y14 (encSL p la) (encSL p la) = some true
 nil:0 < m -> b.y14 [] [] = some true
theorem pl_loop {p:Nat -> Nat × Nat} (hp:∀ q,cplxEq .f64 (p q).1 (p q).2 (p q).1 (p q).2 = true) {b:B_z40} {m:Nat} (hb:PlOk p b m) {la:List St} {d:Nat} (hok:okL la d) (hd:d <= 8) (hm:9 < m + 1 + d) (hlen:(txL la d).length <= 60000):∀ (k i:Nat),la.length - i < k -> i <= la.length →
  l_z40_2 b n k (encSL p la,encSL p la,((la.length:Nat):Int),(i:Int)) = some (Sum.inl ()) := by
 intro k
 induction k with
 | zero=>intro i h; omega
 | succ k ih =>
  intro i hk hi
  show l_z40_2_B b n (l_z40_2 b n k) (encSL p la,encSL p la,((la.length:Nat):Int),(i:Int)) = _
  unfold l_z40_2_B
  simp only
  by_cases h:¬ i < la.length
  ·rw [decide_eq_false (by omega),cond_false]
  have h:i < la.length := by omega
  have hll2 := txL_len la d
  have hup:IntKind.wrap .i64 ((i:Int) + 1) = ((i + 1:Nat):Int) := by rw [wrap_id (by omega) (by omega)]; omega
  rw [decide_eq_true (show (i:Int) < ((la.length:Nat):Int) by omega),cond_true,hup,ih (i + 1) (by omega) (by omega)]
  have hS := okL_at hok h
  have hT := txL_at (d := d) h
  have hI := idx_S p h
  generalize la[i] = x at *
  obtain ⟨kd,nm,o,mm,e,body,els,q⟩ := x
  obtain ⟨t1,t2,t3,t4,t5,t6⟩ := tx_sub hS
  have cc:((encS p (.mk kd nm o mm e body els q)).cell 10).re = (p q).1 /\ ((encS p (.mk kd nm o mm e body els q)).cell 10).im = (p q).2 /\ ((encS p (.mk kd nm o mm e body els q)).cell 8).lst = encSL p body /\ ((encS p (.mk kd nm o mm e body els q)).cell 9).lst = encSL p els := by
   simp only [encS]
   exact ⟨rfl,rfl,rfl,rfl⟩
  obtain ⟨a1,a2,a3,a4⟩ := cc
  have hbo:b.y14 (encSL p body) (encSL p body) = some true := by
   rcases t5 with h8 | ⟨rfl,rfl⟩
   ·exact hb.pl body (d + 1) t3 (by omega) (by omega) (by omega)
   ·simp only [encSL]
    exact hb.nil (by omega)
  have hel:b.y14 (encSL p els) (encSL p els) = some true := by
   rcases t5 with h8 | ⟨rfl,rfl⟩
   ·exact hb.pl els (d + 1) t4 (by omega) (by omega) (by omega)
   ·simp only [encSL]
    exact hb.nil (by omega)
  simp only [hI,bS,a1,a2,hp,Bool.not_true,Bool.not_false,cond_true,cond_false,a3,a4,hbo,hel]
theorem pl_ok (hn:100000 < n) {p:Nat -> Nat × Nat} (hp:∀ q,cplxEq .f64 (p q).1 (p q).2 (p q).1 (p q).2 = true):∀ m,PlOk p (unB_z40 n m) m
 | 0=>⟨fun la d _ h1 h2=>by omega,fun h=>by omega⟩
 | m + 1=>by
  have ih := pl_ok hn hp m
  have hun:(unB_z40 n (m + 1)).y14 = f_z40 (unB_z40 n m) n := rfl
  refine ⟨fun la d hok hd hm hlen=>?_,fun _=>?_⟩
  ·have hl := txL_len la d
   rw [hun]
   unfold f_z40
   rw [encSL_len,show l_z40_2 (unB_z40 n m) n n (encSL p la,encSL p la,((la.length:Nat):Int),0) = _ from pl_loop hp ih hok hd (by omega) hlen n 0 (by omega) (by omega),bS]
   rfl
  ·rw [hun]
   obtain ⟨j,rfl⟩:∃ j,n = j + 1 := ⟨n - 1,by omega⟩
   rfl
theorem tl_loop (hn:100000 < n) {p:Nat -> Nat × Nat} (hp:∀ q,cplxEq .f64 (p q).1 (p q).2 (p q).1 (p q).2 = true) {tl:List (List St)} (hok:okTL tl) (h4:tl.length <= 4) (hlen:(ttL tl).length <= 60000) (x y:List T):∀ (k i:Nat),tl.length - i < k -> i <= tl.length →
  l_suturelaw5_ParseTells_9 n k (((tl.length:Nat):Int),(i:Int),x,tl.map (encT p),y,tl.map (encT p)) = some (Sum.inr (x,tl.map (encT p),y,tl.map (encT p))) := by
 have hsub:∀ {l:List (List St)} {i:Nat} (hi:i < l.length),(txL l[i] 1).length <= (ttL l).length := by
  intro l
  induction l with
  | nil=>intro i hi; simp at hi
  | cons q l ih =>
   intro i hi
   cases i with
   | zero=>simp only [ttL,lA,lC,List.getElem_cons_zero]; omega
   | succ i =>
    have := ih (i := i) (by simpa using hi)
    simp only [ttL,lA,lC,List.getElem_cons_succ]
    omega
 intro k
 induction k with
 | zero=>intro i h; omega
 | succ k ih =>
  intro i hk hi
  show l_suturelaw5_ParseTells_9_B n (l_suturelaw5_ParseTells_9 n k) (((tl.length:Nat):Int),(i:Int),x,tl.map (encT p),y,tl.map (encT p)) = _
  unfold l_suturelaw5_ParseTells_9_B
  simp only
  by_cases h:¬ i < tl.length
  ·rw [decide_eq_false (by omega),cond_false]
  have h:i < tl.length := by omega
  have hup:IntKind.wrap .i64 ((i:Int) + 1) = ((i + 1:Nat):Int) := by rw [wrap_id (by omega) (by omega)]; omega
  have hq := hsub h
  rw [decide_eq_true (show (i:Int) < ((tl.length:Nat):Int) by omega),cond_true,hup,ih (i + 1) (by omega) (by omega),idx_T p h,bS,bS]
  have hpl:m_z40 n (encSL p tl[i]) (encSL p tl[i]) = some true := (pl_ok hn hp n).pl tl[i] 1 (hok _ (List.getElem_mem h)) (by omega) (by omega) (by omega)
  rw [show ((encT p tl[i]).cell 0).lst = encSL p tl[i] from rfl,hpl,bS]
  rfl
theorem dl_loop {p:Nat -> Nat × Nat} (hp:∀ q,cplxEq .f64 (p q).1 (p q).2 (p q).1 (p q).2 = true) {ds:List Dc} (h24:ds.length <= 24) (x y:List T):∀ (k i:Nat),ds.length - i < k -> i <= ds.length →
  l_suturelaw5_ParseTells_15 n k (((ds.length:Nat):Int),(i:Int),ds.map (encD p),x,ds.map (encD p),y) = some (Sum.inr (ds.map (encD p),x,ds.map (encD p),y)) := by
 intro k
 induction k with
 | zero=>intro i h; omega
 | succ k ih =>
  intro i hk hi
  show l_suturelaw5_ParseTells_15_B n (l_suturelaw5_ParseTells_15 n k) (((ds.length:Nat):Int),(i:Int),ds.map (encD p),x,ds.map (encD p),y) = _
  unfold l_suturelaw5_ParseTells_15_B
  simp only
  by_cases h:¬ i < ds.length
  ·rw [decide_eq_false (by omega),cond_false]
  have h:i < ds.length := by omega
  have hup:IntKind.wrap .i64 ((i:Int) + 1) = ((i + 1:Nat):Int) := by rw [wrap_id (by omega) (by omega)]; omega
  rw [decide_eq_true (show (i:Int) < ((ds.length:Nat):Int) by omega),cond_true,hup,ih (i + 1) (by omega) (by omega),idx_D p h,bS,bS]
  have e1:((encD p ds[i]).cell 3).re = (p ds[i].pos).1 := rfl
  have e2:((encD p ds[i]).cell 3).im = (p ds[i].pos).2 := rfl
  rw [e1,e2,hp]
  rfl
theorem tells_main (hn:100000 < n) {u:List UInt8} (hu:u.length <= 281474976710656):(
Option.bind (m_z92 n (B u)) fun r1 =>
Option.bind (m_z55 n (B u)) fun r2 =>
Option.bind (m_z54 n) fun r3 =>
Option.bind (bif !(bif (!r3) then true else ((r1.2.2.2:Int) != r2.2.2.2)) then m_z67 n r1.1 r1.2.1 r2.1 r2.2.1 else some false) fun r4 =>
Option.bind (bif (!(bif (bif (!r3) then true else ((r1.2.2.2:Int) != r2.2.2.2)) then true else (!r4))&&((r1.2.2.2:Int) != 0)) then m_z56 n (B u) r2.2.2.1 else some (0,0)) fun r5 =>
bif (bif (bif (bif (bif (!r3) then true else ((r1.2.2.2:Int) != r2.2.2.2)) then true else (!r4)) then true else (bif ((r1.2.2.2:Int) != 0) then (!(cplxEq .f64 r1.2.2.1.1 r1.2.2.1.2 r5.1 r5.2)) else false)) then true else (bif ((r1.2.2.2:Int) == 0) then (!(cplxEq .f64 r1.2.2.1.1 r1.2.2.1.2 0 0)) else false)) then (
some false)
else (
Option.bind (l_suturelaw5_ParseTells_9 n n (((List.length r2.2.1:Nat):Int),0,r1.1,r1.2.1,r2.1,r2.2.1)) fun x9 =>
Sum.elim (fun p10 =>
some p10.1) (fun x9'=>(fun p11 =>
Option.bind (l_suturelaw5_ParseTells_15 n n (((List.length p11.2.2.1:Nat):Int),0,p11.1,p11.2.1,p11.2.2.1,p11.2.2.2)) fun x14 =>
Sum.elim (fun p15 =>
some p15.1) (fun x14'=>(fun p16 =>
some true) x14') x14) x9') x9)) = some true := by
 have hP:∀ q,cplxEq .f64 (P (B u) q).1 (P (B u) q).2 (P (B u) q).1 (P (B u) q).2 = true := P_refl (by rw [L_B]; exact hu)
 have e0:((0:Int) != 0) = false := rfl
 have e2:((2:Int) != 0) = true := rfl
 have e4:((2:Int) == 0) = false := rfl
 have e5:((0:Int) == 0) = true := rfl
 have hk:m_z54 n = some true := rfl
 rcases both hn hu with ⟨k,hk1,hk2,h1,h2⟩ | ⟨ds,tl,h1,h2,g1,g2,g3,g4⟩
 ·rw [h1,h2]
  have hs := same_eq hn (P (B u)) (P (B u)) (da := []) (db := []) (la := []) (lb := []) rfl (by simp) (fun t ht=>by simp at ht) (by simp [ttL]) rfl (by simp)
  simp only [List.map_nil] at hs
  have hpl := place_eq (n := n) (s := B u) (q := k) (by rw [L_B]; exact hu) (by rw [L_B]; exact hk1) (by omega)
  have t1 := tl_loop (n := n) hn hP (tl := []) (fun t ht=>by simp at ht) (by simp) (by simp [ttL]) [] [] n 0 (by simp; omega) (by simp)
  have t2 := dl_loop (n := n) hP (ds := []) (by simp) [] [] n 0 (by simp; omega) (by simp)
  simp only [List.map_nil,lN] at t1 t2
  simp only [bS,hk,bne_self_eq_false,Bool.not_true,Bool.not_false,cond_true,cond_false,hs,e2,e4,Bool.and_true,hpl,hP,lN]
  rw [show (0:Int) = ((0:Nat):Int) from rfl,t1]
  simp only [bS,Sum.elim_inr,lN]
  rw [t2]
  rfl
 ·rw [h1,h2]
  have hs := same_eq hn (P (B u)) (P (B u)) (da := ds) (db := ds) (la := tl) (lb := tl) rfl (by omega) g2 g4 rfl (by omega)
  have t1 := tl_loop (n := n) hn hP g2 g3 g4 (ds.map (encD (P (B u)))) (ds.map (encD (P (B u)))) n 0 (by omega) (by omega)
  have t2 := dl_loop (n := n) hP g1 (tl.map (encT (P (B u)))) (tl.map (encT (P (B u)))) n 0 (by omega) (by omega)
  simp only [bS,hk,bne_self_eq_false,Bool.not_true,Bool.not_false,cond_true,cond_false,hs,e0,e5,Bool.and_false,zero_refl,List.length_map]
  rw [show (0:Int) = ((0:Nat):Int) from rfl,t1]
  simp only [bS,Sum.elim_inr,List.length_map]
  rw [t2]
  rfl
end
theorem parseTells_law (how:Int) (a b c:List Act5) (at_ with_:Int) (raw:ByteArray) (any:Bool) (hr:raw.size <= 140737488351232):∃ n,m_suturelaw5_ParseTells n how (a.map Act5.t) (b.map Act5.t) (c.map Act5.t) at_ with_ raw any = some true := by
 refine ⟨200000,?_⟩
 generalize hn:200000 = n
 have hn1:100000 < n := by omega
 clear hn
 unfold m_suturelaw5_ParseTells
 obtain ⟨u,h1,hu⟩ := odd_eq hn1 how a b c at_ with_
 rw [h1,bS]
 cases any with
 | true =>
  rw [cond_true]
  have h := tells_main (n := n) hn1 (u := L raw) (by rw [<- size_L]; omega)
  rw [B_L] at h
  exact h
 | false =>
  rw [cond_false]
  exact tells_main hn1 (by omega)
end Go.Proofs.YtbcgpjlkkcdmmaaGreatDoor.W

