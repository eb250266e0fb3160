/- Own texts, several in one. No conditions. -/
import Derived.Test.YtbcgpjlkkcdmmaaGreatDoorS
import Derived.Test.YtbcgpjlkkcdmmaaGreatDoorEngFl
import Derived.Test.YtbcgpjlkkcdmmaaGreatDoorEngWI
namespace Go.Proofs.YtbcgpjlkkcdmmaaGreatDoor.W
open Go Go.Eng Go.Eng.Fl
theorem bS {α β : Type _} (a : α) (f : α -> Option β) : (some a).bind f = f a := rfl
theorem lC {α : Type _} {a : α} {l : List α} : (a :: l).length = l.length + 1 := rfl
theorem lA {α : Type _} {a b : List α} : (a ++ b).length = a.length + b.length := List.length_append
theorem lN {α : Type _} : ([] : List α).length = 0 := rfl
set_option linter.unusedVariables false
set_option linter.unusedSimpArgs false
def step (p:Int × Int) (b:UInt8):Int × Int := if b = 10 then (p.1 + 1,1) else (p.1,p.2 + 1)
def from_ (p:Int × Int) (u:List UInt8):Int × Int := u.foldl step p
def pos (u:List UInt8):Int × Int := from_ (1,1) u
theorem pos_append (u v:List UInt8):pos (u++v) = from_ (pos u) v := by simp [pos,from_]
theorem from_cons (p:Int × Int) (b:UInt8) (u:List UInt8):from_ p (b :: u) = from_ (step p b) u := rfl
theorem bounds_from:∀ (u:List UInt8) (p:Int × Int),p.1 <= (from_ p u).1 /\ (from_ p u).1 <= p.1 + u.length /\ (1 <= p.2 -> 1 <= (from_ p u).2) /\ (1 <= p.2 -> (from_ p u).2 <= p.2 + u.length)
 | [],p=>by simp [from_]
 | b :: u,p=>by
  rw [from_cons]
  have := bounds_from u (step p b)
  by_cases hb:b = 10
  ·have hs:step p b = (p.1 + 1,1) := by simp [step,hb]
   rw [hs] at this ⊢
   simp only [lC] at *
   omega
  ·have hs:step p b = (p.1,p.2 + 1) := by simp [step,hb]
   rw [hs] at this ⊢
   simp only [lC] at *
   omega
theorem bounds_pos (u:List UInt8):1 <= (pos u).1 /\ (pos u).1 <= 1 + u.length /\ 1 <= (pos u).2 /\ (pos u).2 <= 1 + u.length := by
 have := bounds_from u (1,1)
 unfold pos
 omega
theorem count_pos:∀ (u:List UInt8) (p:Int × Int),(from_ p u).1 = p.1 + (u.count 10:Nat)
 | [],p=>by simp [from_]
 | b :: u,p=>by
  rw [from_cons,count_pos u]
  by_cases hb:b = 10
  ·simp [step,hb]; omega
  ·simp [step,hb]
theorem last_pos (e:ByteArray):∀ k:Nat,k <= e.data.toList.length -> (k:Int) - Lib.lastIdx e 10 k = (pos (e.data.toList.take k)).2
 | 0,_=>by simp [Lib.lastIdx,pos,from_]
 | k + 1,hk=>by
  have ih := last_pos e k (by omega)
  have hlt:k < e.data.toList.length := by omega
  rw [List.take_add_one,List.getElem?_eq_getElem hlt,pos_append]
  have hb:e.data[k]! = e.data.toList[k] := by
   have:k < e.data.size := by simpa using hlt
   rw [getElem!_pos e.data k this]
   simp
  unfold Lib.lastIdx
  rw [hb]
  simp only [Option.toList_some]
  by_cases h:e.data.toList[k] = 10
  ·have h1:((e.data.toList[k]).toNat:Int) = 10 := by rw [h]; rfl
   rw [if_pos h1]
   simp only [from_,List.foldl_cons,List.foldl_nil,step,h,if_true]
   omega
  ·have h1:¬ ((e.data.toList[k]).toNat:Int) = 10 := by
    intro hh
    apply h
    have:(e.data.toList[k]).toNat = 10 := by omega
    exact UInt8.toNat_inj.1 (by rw [this]; rfl)
   rw [if_neg h1]
   simp only [from_,List.foldl_cons,List.foldl_nil,step,h,if_false]
   omega
theorem wrap_id {x:Int} (h1:-9223372036854775808 <= x) (h2:x <= 9223372036854775807):IntKind.wrap .i64 x = x := by
 have e:∀ x:Int,IntKind.wrap .i64 x = if x % 18446744073709551616 ≥ 9223372036854775808 then x % 18446744073709551616 - 18446744073709551616 else x % 18446744073709551616 := by
  intro x
  show (if (true&&decide (x % (2 ^ 64:Int) ≥ (2 ^ 63:Int))) = true then x % (2 ^ 64:Int) - (2 ^ 64:Int) else x % (2 ^ 64:Int)) = _
  simp only [Bool.true_and,decide_eq_true_eq]
  rfl
 rw [e]
 split <;> omega
theorem ite_clamp (z k:Int) (hz:0 <= z):(if (0:Int) < (if z < k then z else k) then (if z < k then z else k) else 0) = max 0 (min z k) := by
 by_cases h:z < k
 ·rw [if_pos h]; omega
 ·rw [if_neg h]; omega
theorem extract_list (s:ByteArray) (i k:Nat):(s.extract i k).data.toList = (s.data.toList.drop i).take (k - i) := by
 rw [ByteArray.data_extract]
 simp [List.extract_eq_take_drop]
theorem size_list (s:ByteArray):s.size = s.data.toList.length := by rw [Array.length_toList]; rfl
theorem must_eq {R:Type} {c φ:Bool} {r:Option R} (h:φ = true):must c φ r = r := by rw [h]; cases c <;> rfl
theorem of_eq (n:Nat) (s:ByteArray) (k:Nat) (hs:s.size <= 281474976710656) (hk:k <= s.size) :
  m_z96 n s k = some (F (pos (s.data.toList.take k)).1,F (pos (s.data.toList.take k)).2) := by
 unfold m_z96
 rw [ite_clamp _ _ (by omega)]
 have e0:max 0 (min ((s.size:Nat):Int) (k:Int)) = (k:Int) := by omega
 rw [e0]
 rw [must_eq (by simp only [Bool.and_eq_true,decide_eq_true_eq]; omega)]
 have hl:(s.extract (Int.toNat 0) (Int.toNat (k:Int))).data.toList = s.data.toList.take k := by
  rw [extract_list]; simp
 have hsz:(s.extract (Int.toNat 0) (Int.toNat (k:Int))).size = k := by
  rw [size_list,hl,List.length_take,<- size_list]; omega
 have hlast:Lib.lastIndexByte (s.extract (Int.toNat 0) (Int.toNat (k:Int))) 10 = (k:Int) - (pos (s.data.toList.take k)).2 := by
  unfold Lib.lastIndexByte
  rw [hsz]
  have := last_pos (s.extract (Int.toNat 0) (Int.toNat (k:Int))) k (by rw [hl,List.length_take,<- size_list]; omega)
  rw [hl,List.take_take,Nat.min_self] at this
  omega
 have hcnt:((Lib.countByte (s.data.toList.take k) 10:Nat):Int) = (pos (s.data.toList.take k)).1 - 1 := by
  unfold Lib.countByte pos
  rw [count_pos]
  simp only
  omega
 have hb := bounds_pos (s.data.toList.take k)
 rw [List.length_take] at hb
 simp only [must,Bool.not_true,Bool.and_false,cond_false,m_z78,m_z20,cntM,lastM,hl]
 have hc:(⟨#[10]⟩:ByteArray).data.toList = [10] := rfl
 simp only [hc,bS,hsz]
 rw [decide_eq_true (show k < 4611686018427387904 by omega)]
 simp only [cond_true,bS,hlast,hcnt]
 rw [wrap_id (by omega) (by omega),wrap_id (by omega) (by omega)]
 congr 3
 ·congr 1; omega
 ·congr 1; omega
theorem pick_eq (n:Nat) (a m:Int) (hm:0 < m) (hm2:m <= 4611686018427387904):∃ k:Nat,m_z63 n a m = some (k:Int) /\ (k:Int) < m := by
 unfold m_z63
 have h0:(!decide (m = 0)) = true := by simp; omega
 have h1:Int.tmod a m < m := Int.tmod_lt_of_pos a hm
 have h2:-m < Int.tmod a m := by
  have := Int.tmod_lt_of_pos (-a) hm
  rw [Int.neg_tmod] at this
  omega
 simp only [must,h0,Bool.not_true,Bool.and_false,cond_false]
 by_cases h:Int.tmod a m < 0
 ·rw [decide_eq_true h]
  refine ⟨(Int.tmod a m + m).toNat,?_,by omega⟩
  simp only [cond_true]
  rw [wrap_id (by omega) (by omega)]
  congr 1
  omega
 ·rw [decide_eq_false h]
  exact ⟨(Int.tmod a m).toNat,by simp only [cond_false]; congr 1; omega,by omega⟩
def isD (c:UInt8):Bool := decide (48 <= c.toNat)&&decide (c.toNat <= 57)
def isL (c:UInt8):Bool := decide (97 <= c.toNat)&&decide (c.toNat <= 122)
theorem isD_iff {c:UInt8}:isD c = true ↔ 48 <= c.toNat /\ c.toNat <= 57 := by simp [isD]
def valF (a:Nat) (w:List UInt8):Nat := w.foldl (fun a c=>10 * a + (c.toNat - 48)) a
def val (w:List UInt8):Nat := valF 0 w
theorem valF_nil (a:Nat):valF a [] = a := by simp only [valF,List.foldl_nil]
theorem valF_cons (a:Nat) (c:UInt8) (r:List UInt8):valF a (c :: r) = valF (10 * a + (c.toNat - 48)) r := by simp only [valF,List.foldl_cons]
theorem valF_le (w:List UInt8):∀ (a:Nat),a <= valF a w := by
 induction w with
 | nil=>intro a; exact Nat.le_refl _
 | cons c r ih =>
  intro a
  have := ih (10 * a + (c.toNat - 48))
  rw [valF_cons]
  omega
theorem valF_append (u v:List UInt8) (a:Nat):valF a (u++v) = valF (valF a u) v := List.foldl_append
theorem parse_digits:∀ (w:List UInt8) (a:Nat),(∀ c ∈ w,isD c = true) -> a < 18446744073709551616 →
  Lib.parseUint10 a w = if valF a w < 18446744073709551616 then .ok (valF a w) else .range
 | [],a,_,ha=>by rw [valF_nil,if_pos ha]; rfl
 | c :: r,a,hd,ha=>by
  have hc := isD_iff.1 (hd c (by simp))
  have hle := valF_le r (10 * a + (c.toNat - 48))
  have e:a * 10 + (c.toNat - 48) = 10 * a + (c.toNat - 48) := by omega
  rw [valF_cons,Lib.parseUint10,if_pos hc,e]
  by_cases h1:1844674407370955162 <= a
  ·rw [if_pos h1,if_neg (by omega)]
  ·rw [if_neg h1]
   by_cases h2:18446744073709551616 <= 10 * a + (c.toNat - 48)
   ·rw [if_pos h2,if_neg (by omega)]
   ·rw [if_neg h2]
    exact parse_digits r _ (fun x hx=>hd x (by simp [hx])) (by omega)
theorem atoi_digits {a:ByteArray} (h0:a.data.toList ≠ []) (hd:∀ c ∈ a.data.toList,isD c = true) (hs:a.size <= 281474976710656) :
  atoiM a = some (if val a.data.toList < 9223372036854775808 then (val a.data.toList:Int) else 9223372036854775807) := by
 unfold atoiM
 rw [decide_eq_true hs,cond_true]
 generalize hw:a.data.toList = w at *
 cases w with
 | nil=>exact absurd rfl h0
 | cons c r =>
  have hc := isD_iff.1 (hd c (by simp))
  have h43:¬ (c.toNat = 43 \/ c.toNat = 45) := by omega
  have h45:¬ c.toNat = 45 := by omega
  have hp:Lib.parseMag (c :: r) = if val (c :: r) < 18446744073709551616 then .ok (val (c :: r)) else .range := by
   unfold Lib.parseMag
   rw [if_neg (by simp)]
   exact parse_digits (c :: r) 0 hd (by omega)
  have hall:Lib.atoiAll (c :: r) = if val (c :: r) < 9223372036854775808 then .ok ((val (c :: r):Nat):Int) else .range := by
   unfold Lib.atoiAll
   simp only [if_neg h43,hp]
   by_cases h1:val (c :: r) < 9223372036854775808
   ·rw [if_pos (show val (c :: r) < 18446744073709551616 by omega),if_pos h1]
    simp only [h45,not_false_eq_true,true_and,false_and,if_false]
    rw [if_neg (by omega)]
   ·rw [if_neg h1]
    by_cases h2:val (c :: r) < 18446744073709551616
    ·rw [if_pos h2]
     simp only [h45,not_false_eq_true,true_and,false_and,if_false]
     rw [if_pos (by omega)]
    ·rw [if_neg h2]
  rw [hall]
  by_cases h1:val (c :: r) < 9223372036854775808
  ·rw [if_pos h1]; simp only [if_pos h1]
  ·rw [if_neg h1]; simp only [if_neg h1]
   have:Lib.atoiSat (c :: r) = 9223372036854775807 := by
    unfold Lib.atoiSat
    rw [if_neg (by simpa using h45)]
   rw [this]
theorem itoa_nat {u:Nat} (h:u <= 9223372036854775807):itoaM (u:Int) = some ⟨(Lib.decDigits u).toArray⟩ := by
 unfold itoaM
 have e20:(10:Nat) ^ 20 = 100000000000000000000 := rfl
 have h1:(decide (-9223372036854775808 <= (u:Int))&&decide ((u:Int) <= 9223372036854775807)) = true := by
  simp only [Bool.and_eq_true,decide_eq_true_eq]; omega
 rw [h1,cond_true,decide_eq_false (show ¬ (u:Int) < 0 by omega),cond_false,Int.toNat_natCast,digs_eq _ _ (by omega) (by omega)]
theorem ofNat_digit {c:UInt8} (h:isD c = true):UInt8.ofNat (48 + (c.toNat - 48)) = c := by
 have := isD_iff.1 h
 apply UInt8.toNat_inj.1
 rw [UInt8.toNat_ofNat']
 omega
theorem digit_ofNat {d:Nat} (h:d < 10):(UInt8.ofNat (48 + d)).toNat = 48 + d := by
 rw [UInt8.toNat_ofNat']
 omega
def plainNum (w:List UInt8):Bool := w == [48] || w.head?.any (fun c=>c != 48)
theorem dec_val_n:∀ (n:Nat) (w:List UInt8),w.length = n -> w ≠ [] -> (∀ c ∈ w,isD c = true) -> plainNum w = true -> Lib.decDigits (val w) = w := by
 intro n
 induction n with
 | zero=>intro w hl h; exact absurd (List.length_eq_zero_iff.1 hl) h
 | succ n ih0 =>
  intro w hl h0 hd hp
  rcases List.eq_nil_or_concat w with h | ⟨u,c,h⟩
  ·exact absurd h h0
  subst h
  rw [List.concat_eq_append] at *
  have ih := ih0 u (by simpa using hl)
  have hc := isD_iff.1 (hd c (by simp))
  have hv:val (u++[c]) = 10 * val u + (c.toNat - 48) := by unfold val; rw [valF_append,valF_cons,valF_nil]
  cases u with
  | nil =>
   rw [hv]
   have:10 * val [] + (c.toNat - 48) < 10 := by simp only [val,valF_nil]; omega
   rw [Lib.decDigits_one this]
   simp only [val,valF_nil,List.nil_append]
   rw [show 48 + (10 * 0 + (c.toNat - 48)) = 48 + (c.toNat - 48) by omega,ofNat_digit (hd c (by simp))]
  | cons a r =>
   have ha:a ≠ 48 := by
    have h1:(a :: r++[c] == [48]) = false := by
     rw [beq_eq_false_iff_ne]; intro hh
     have := congrArg List.length hh
     simp at this
    simp only [List.cons_append] at h1
    simp only [plainNum,h1,Bool.false_or,List.cons_append,List.head?_cons,Option.any_some,bne_iff_ne,ne_eq] at hp
    exact hp
   have hda := isD_iff.1 (hd a (by simp))
   have hpu:plainNum (a :: r) = true := by simp [plainNum,ha]
   have ihu := ih (by simp) (fun x hx=>hd x (by simp only [List.mem_append]; exact .inl hx)) hpu
   have hpos:1 <= val (a :: r) := by
    have h1 := valF_le r (10 * 0 + (a.toNat - 48))
    have h2:val (a :: r) = valF (10 * 0 + (a.toNat - 48)) r := by unfold val; rw [valF_cons]
    have h3:a.toNat ≠ 48 := fun hh=>ha (UInt8.toNat_inj.1 (by rw [hh]; rfl))
    omega
   rw [hv,Lib.decDigits,dif_neg (by omega)]
   rw [show (10 * val (a :: r) + (c.toNat - 48)) / 10 = val (a :: r) by omega,show (10 * val (a :: r) + (c.toNat - 48)) % 10 = c.toNat - 48 by omega,ihu,ofNat_digit (hd c (by simp))]
theorem dec_val (w:List UInt8):w ≠ [] -> (∀ c ∈ w,isD c = true) -> plainNum w = true -> Lib.decDigits (val w) = w := dec_val_n _ w rfl
theorem val_dec (u:Nat):val (Lib.decDigits u) = u /\ (∀ c ∈ Lib.decDigits u,isD c = true) /\ Lib.decDigits u ≠ [] /\ plainNum (Lib.decDigits u) = true := by
 induction u using Nat.strongRecOn with
 | ind u ih =>
  by_cases h:u < 10
  ·rw [Lib.decDigits_one h]
   refine ⟨?_,?_,by simp,?_⟩
   ·unfold val
    rw [valF_cons,valF_nil,digit_ofNat h]; omega
   ·intro c hc
    simp only [List.mem_singleton] at hc
    rw [hc,isD_iff,digit_ofNat h]; omega
   ·by_cases h0:u = 0
    ·subst h0; rfl
    ·have:UInt8.ofNat (48 + u) ≠ 48 := by
      intro hh
      have := congrArg UInt8.toNat hh
      rw [digit_ofNat h] at this
      have e:(48:UInt8).toNat = 48 := rfl
      omega
     simp only [plainNum,List.head?_cons,Option.any_some,Bool.or_eq_true,bne_iff_ne,ne_eq]; exact .inr this
  ·obtain ⟨h1,h2,h3,h4⟩ := ih (u / 10) (by omega)
   rw [Lib.decDigits,dif_neg h]
   refine ⟨?_,?_,by simp,?_⟩
   ·unfold val at h1 ⊢
    rw [valF_append,h1,valF_cons,valF_nil,digit_ofNat (by omega)]; omega
   ·intro c hc
    simp only [List.mem_append,List.mem_singleton] at hc
    rcases hc with hc | hc
    ·exact h2 c hc
    ·rw [hc,isD_iff,digit_ofNat (by omega)]; omega
   ·cases hw:Lib.decDigits (u / 10) with
    | nil=>exact absurd hw h3
    | cons a r =>
     rw [hw] at h4
     have ha:a ≠ 48 := by
      intro ha
      subst ha
      simp only [plainNum,List.head?_cons,Option.any_some,bne_self_eq_false,Bool.or_false,beq_iff_eq] at h4
      have:u / 10 = 0 := by
       rw [hw,h4] at h1
       exact h1.symm
      omega
     simp [plainNum,ha]
theorem there_back {a:ByteArray} (h0:a.data.toList ≠ []) (hd:∀ c ∈ a.data.toList,isD c = true) (hs:a.size <= 281474976710656) :
  ∃ (v:Nat) (b:ByteArray),atoiM a = some (v:Int) /\ itoaM (v:Int) = some b ∧
   (b.data.toList == a.data.toList) = (plainNum a.data.toList&&decide (val a.data.toList < 9223372036854775808)) /\ (val a.data.toList < 9223372036854775808 -> v = val a.data.toList) := by
 have h1 := atoi_digits h0 hd hs
 by_cases h:val a.data.toList < 9223372036854775808
 ·rw [if_pos h] at h1
  refine ⟨_,_,h1,itoa_nat (by omega),?_,fun _=>rfl⟩
  rw [decide_eq_true h,Bool.and_true]
  apply Bool.eq_iff_iff.2
  rw [beq_iff_eq]
  constructor
  ·intro hh
   have := (val_dec (val a.data.toList)).2.2.2
   rw [<- hh]; exact this
  ·intro hh
   exact dec_val _ h0 hd hh
 ·rw [if_neg h] at h1
  refine ⟨9223372036854775807,_,h1,itoa_nat (by omega),?_,fun hh=>absurd hh h⟩
  rw [decide_eq_false h,Bool.and_false,beq_eq_false_iff_ne]
  intro hh
  have h2 := (val_dec 9223372036854775807).1
  have h3:val a.data.toList = 9223372036854775807 := by rw [<- h2,<- hh]
  omega
def L (s:ByteArray):List UInt8 := s.data.toList
def blank (c:UInt8):Bool := c == 32 || c == 9 || c == 10
def isLD (c:UInt8):Bool := isL c || isD c
theorem isLD_L {c:UInt8} (h:isL c = true):isLD c = true := by unfold isLD; rw [h]; rfl
theorem isLD_D {c:UInt8} (h:isD c = true):isLD c = true := by unfold isLD; rw [h,Bool.or_true]
theorem isLD_no {c:UInt8} (h:isL c = false) (h2:isD c = false):isLD c = false := by unfold isLD; rw [h,h2]; rfl
structure Tok where
 kind:Int
 text:List UInt8
 num:Nat
 pos:Nat
def signs:List UInt8 := [61,60,43,45,42,47,37,40,41,123,125]
def numOk (w:List UInt8):Bool := plainNum w&&decide (val w < 9223372036854775808)
def tokAt (r:List UInt8) (p:Nat):Option Tok := match r with
 | []=>none
 | c :: r' =>
  if isL c then (if (r.takeWhile isLD).length <= 12 then some ⟨1,r.takeWhile isLD,0,p⟩ else none)
  else if isD c then (if numOk (r.takeWhile isD) then some ⟨2,r.takeWhile isD,val (r.takeWhile isD),p⟩ else none)
  else if signs.contains c then (if c = 61 /\ r'.head? = some 61 then some ⟨3,[61,61],0,p⟩ else some ⟨3,[c],0,p⟩)
  else none
inductive LR where
 | ok (l:List Tok)
 | bad (p:Nat)
theorem dropWhile_le (f:UInt8 -> Bool) (r:List UInt8):(r.dropWhile f).length <= r.length := by
 have h := congrArg List.length (List.takeWhile_append_dropWhile (p := f) (l := r))
 rw [lA] at h
 omega
def lexR:List UInt8 -> Nat -> List Tok -> LR
 | [],p,acc=>.ok acc
 | c :: r,p,acc =>
  if blank c then lexR r (p + 1) acc
  else if c = 35 then lexR (r.dropWhile (· != 10)) (p + 1 + (r.takeWhile (· != 10)).length) acc
  else match tokAt (c :: r) p with
   | none=>.bad p
   | some t=>lexR (r.drop (t.text.length - 1)) (p + t.text.length) (acc++[t])
termination_by l=>l.length
decreasing_by
 ·simp
 ·have := dropWhile_le (· != 10) r; simp only [lC]; omega
 ·simp only [lC,List.length_drop]; omega
theorem lexR_nil (p:Nat) (acc:List Tok):lexR [] p acc = .ok acc := by rw [lexR]
theorem lexR_blank {c:UInt8} {r:List UInt8} {p:Nat} {acc:List Tok} (h:blank c = true):lexR (c :: r) p acc = lexR r (p + 1) acc := by rw [lexR,if_pos h]
theorem lexR_note {r:List UInt8} {p:Nat} {acc:List Tok}:lexR (35 :: r) p acc = lexR (r.dropWhile (· != 10)) (p + 1 + (r.takeWhile (· != 10)).length) acc := by
 rw [lexR,if_neg (by decide),if_pos rfl]
theorem lexR_tok {c:UInt8} {r:List UInt8} {p:Nat} {acc:List Tok} (h:blank c = false) (h2:c ≠ 35) {t:Tok} (ht:tokAt (c :: r) p = some t):lexR (c :: r) p acc = lexR (r.drop (t.text.length - 1)) (p + t.text.length) (acc++[t]) := by
 rw [lexR,if_neg (by rw [h]; simp),if_neg h2,ht]
theorem lexR_bad {c:UInt8} {r:List UInt8} {p:Nat} {acc:List Tok} (h:blank c = false) (h2:c ≠ 35) (ht:tokAt (c :: r) p = none):lexR (c :: r) p acc = .bad p := by
 rw [lexR,if_neg (by rw [h]; simp),if_neg h2,ht]
theorem lexR_blanks:∀ (r:List UInt8) (p:Nat) (acc:List Tok),lexR r p acc = lexR (r.dropWhile blank) (p + (r.takeWhile blank).length) acc
 | [],p,acc=>rfl
 | c :: r,p,acc=>by
  cases h:blank c with
  | true =>
   rw [lexR_blank h,lexR_blanks r (p + 1) acc,List.dropWhile_cons_of_pos h,List.takeWhile_cons_of_pos h]
   congr 1
   simp only [lC]; omega
  | false =>
   rw [List.dropWhile_cons_of_neg (by rw [h]; simp),List.takeWhile_cons_of_neg (by rw [h]; simp)]
   rfl
theorem drop_takeWhile (f:UInt8 -> Bool):∀ (r:List UInt8),r.dropWhile f = r.drop (r.takeWhile f).length
 | []=>rfl
 | c :: r=>by
  cases h:f c with
  | true=>rw [List.dropWhile_cons_of_pos h,List.takeWhile_cons_of_pos h,drop_takeWhile f r]; rfl
  | false=>rw [List.dropWhile_cons_of_neg (by rw [h]; simp),List.takeWhile_cons_of_neg (by rw [h]; simp)]; rfl
theorem take_takeWhile (f:UInt8 -> Bool) (r:List UInt8):r.take (r.takeWhile f).length = r.takeWhile f :=
 (List.prefix_iff_eq_take.1 (List.takeWhile_prefix f)).symm
theorem size_L (s:ByteArray):s.size = (L s).length := size_list s
theorem beq_byte (b c:UInt8) (k:Int) (h:((c.toNat:Nat):Int) = k):((((UInt8.toNat b:Nat):Int):Int) == k) = (b == c) := by
 apply Bool.eq_iff_iff.2
 rw [beq_iff_eq,beq_iff_eq,<- h]
 exact ⟨fun hh=>UInt8.toNat_inj.1 (by omega),fun hh=>by rw [hh]⟩
theorem bidx_at {s:ByteArray} {i:Nat} (h:i < (L s).length):bidx true s (i:Int) = some (L s)[i] := by
 unfold bidx
 rw [decide_eq_true (show (0:Int) <= (i:Int) by omega)]
 simp only [cond_true,Int.toNat_natCast]
 have h3:i < s.size := by rw [size_L]; exact h
 rw [getElem?_pos s i h3]
 simp [L,ByteArray.getElem_eq_getElem_data]
theorem bidx_no {s:ByteArray} {i:Int}:bidx false s i = some 0 := rfl
theorem wrap_up {i:Nat} (h:i <= 281474976710656):IntKind.wrap .i64 ((i:Int) + 1) = ((i + 1:Nat):Int) := by rw [wrap_id (by omega) (by omega)]; omega
theorem wrap_add {i j:Nat} (h:i <= 281474976710656) (h2:j <= 281474976710656):IntKind.wrap .i64 ((i:Int) + (j:Int)) = ((i + j:Nat):Int) := by rw [wrap_id (by omega) (by omega)]; omega
theorem letter_eq (n:Nat) (b:UInt8):m_z87 n ((UInt8.toNat b:Nat):Int) = some (isL b) := by
 unfold m_z87 isL
 congr 1
 by_cases h1:97 <= b.toNat
 ·rw [decide_eq_true (show ((UInt8.toNat b:Nat):Int) ≥ 97 by omega),decide_eq_true h1]
  simp only [cond_true,Bool.true_and]
  by_cases h2:b.toNat <= 122
  ·rw [decide_eq_true (show ((UInt8.toNat b:Nat):Int) <= 122 by omega),decide_eq_true h2]
  ·rw [decide_eq_false (show ¬ ((UInt8.toNat b:Nat):Int) <= 122 by omega),decide_eq_false h2]
 ·rw [decide_eq_false (show ¬ ((UInt8.toNat b:Nat):Int) ≥ 97 by omega),decide_eq_false h1]; rfl
theorem digit_eq (n:Nat) (b:UInt8):m_z94 n ((UInt8.toNat b:Nat):Int) = some (isD b) := by
 unfold m_z94 isD
 congr 1
 by_cases h1:48 <= b.toNat
 ·rw [decide_eq_true (show ((UInt8.toNat b:Nat):Int) ≥ 48 by omega),decide_eq_true h1]
  simp only [cond_true,Bool.true_and]
  by_cases h2:b.toNat <= 57
  ·rw [decide_eq_true (show ((UInt8.toNat b:Nat):Int) <= 57 by omega),decide_eq_true h2]
  ·rw [decide_eq_false (show ¬ ((UInt8.toNat b:Nat):Int) <= 57 by omega),decide_eq_false h2]
 ·rw [decide_eq_false (show ¬ ((UInt8.toNat b:Nat):Int) ≥ 48 by omega),decide_eq_false h1]; rfl
theorem rletter_eq (n:Nat) (b:UInt8):m_z45 n ((UInt8.toNat b:Nat):Int) = some (isL b) := letter_eq n b
theorem rdigit_eq (n:Nat) (b:UInt8):m_z57 n ((UInt8.toNat b:Nat):Int) = some (isD b) := digit_eq n b
theorem blank_eq (n:Nat) (b:UInt8):m_z79 n ((UInt8.toNat b:Nat):Int) = some (blank b) := by
 unfold m_z79 blank
 rw [beq_byte b 32 32 rfl,beq_byte b 9 9 rfl,beq_byte b 10 10 rfl]
 cases (b == 32) <;> cases (b == 9) <;> rfl
theorem notlf_eq (n:Nat) (b:UInt8):m_z80 n ((UInt8.toNat b:Nat):Int) = some (b != 10) := by
 unfold m_z80
 simp only [bne,beq_byte b 10 10 rfl]
theorem ld_eq (n:Nat) (b:UInt8):m_z91 n ((UInt8.toNat b:Nat):Int) = some (isLD b) := by
 unfold m_z91 isLD
 rw [letter_eq]
 simp only [bS]
 cases isL b with
 | true=>rfl
 | false=>simp only [Bool.not_false,cond_true,digit_eq,bS,cond_false,Bool.false_or]
theorem scan {s:ByteArray} {f:UInt8 -> Bool} {l:Nat -> ByteArray × Int -> Option Int}
  (h:∀ (m i:Nat),i <= (L s).length -> l (m + 1) (s,(i:Int)) = if ((L s)[i]?).any f = true then l m (s,((i + 1:Nat):Int)) else some (i:Int)) :
  ∀ (m i:Nat),i <= (L s).length -> (L s).length - i < m -> l m (s,(i:Int)) = some ((i + (((L s).drop i).takeWhile f).length:Nat):Int)
 | 0,i,_,hm=>by omega
 | m + 1,i,hi,hm=>by
  rw [h m i hi]
  by_cases hlt:i < (L s).length
  ·rw [List.drop_eq_getElem_cons hlt,List.getElem?_eq_getElem hlt]
   simp only [Option.any_some]
   by_cases hf:f (L s)[i] = true
   ·rw [if_pos hf,scan h m (i + 1) (by omega) (by omega),List.takeWhile_cons_of_pos hf]
    congr 2
    simp only [lC]; omega
   ·rw [if_neg hf,List.takeWhile_cons_of_neg hf]
    rfl
  ·rw [List.getElem?_eq_none (by omega),List.drop_eq_nil_of_le (by omega)]
   rfl
theorem scan_body {s:ByteArray} {f:UInt8 -> Bool} {g:Int -> Option Bool} (hg:∀ b:UInt8,g ((UInt8.toNat b:Nat):Int) = some (f b)) (hs:(L s).length <= 281474976710656) (k:ByteArray × Int -> Option Int) {i:Nat} (hi:i <= (L s).length) :
  (Option.bind (bidx ((decide (((i:Nat):Int) < ((ByteArray.size s:Nat):Int)))) s ((i:Nat):Int)) fun b0 =>
   Option.bind (bif (decide (((i:Nat):Int) < ((ByteArray.size s:Nat):Int))) then g ((UInt8.toNat b0:Nat):Int) else some false) fun r1 =>
   bif (bif (decide (((i:Nat):Int) < ((ByteArray.size s:Nat):Int))) then r1 else false) then (k (s,(IntKind.wrap .i64 (((i:Nat):Int) + 1)))) else (some ((i:Nat):Int))) =
  if ((L s)[i]?).any f = true then k (s,((i + 1:Nat):Int)) else some (i:Int) := by
 by_cases hlt:i < (L s).length
 ·have h1:decide ((i:Int) < ((ByteArray.size s:Nat):Int)) = true := by
   rw [decide_eq_true_eq,size_L]; omega
  rw [h1,bidx_at hlt,List.getElem?_eq_getElem hlt]
  simp only [bS,cond_true,hg,Option.any_some,wrap_up (show i <= 281474976710656 by omega)]
  by_cases hf:f (L s)[i] = true
  ·rw [if_pos hf,hf]; rfl
  ·rw [if_neg hf,(Bool.not_eq_true _).mp hf]; rfl
 ·have h1:decide ((i:Int) < ((ByteArray.size s:Nat):Int)) = false := by
   rw [decide_eq_false_iff_not,size_L]; omega
  rw [h1,List.getElem?_eq_none (by omega)]
  rfl
theorem run_blank (n:Nat) (s:ByteArray) (hs:(L s).length <= 281474976710656) (hn:(L s).length < n):m_z97 n s = some (((L s).takeWhile blank).length:Int) := by
 have := scan (l := l_z97_2 n) (f := blank) (s := s) (fun m i hi=>scan_body (blank_eq n) hs (l_z97_2 n m) hi) n 0 (by omega) (by omega)
 unfold m_z97
 rw [show ((0:Int)) = ((0:Nat):Int) from rfl,this]
 simp
theorem run_note (n:Nat) (s:ByteArray) (hs:(L s).length <= 281474976710656) (hn:(L s).length < n):m_z88 n s = some (((L s).takeWhile (· != 10)).length:Int) := by
 have := scan (l := l_z88_2 n) (f := (· != 10)) (s := s) (fun m i hi=>scan_body (notlf_eq n) hs (l_z88_2 n m) hi) n 0 (by omega) (by omega)
 unfold m_z88
 rw [show ((0:Int)) = ((0:Nat):Int) from rfl,this]
 simp
theorem run_word (n:Nat) (s:ByteArray) (hs:(L s).length <= 281474976710656) (hn:(L s).length < n):m_z89 n s = some (((L s).takeWhile isLD).length:Int) := by
 have := scan (l := l_z89_2 n) (f := isLD) (s := s) (fun m i hi=>scan_body (ld_eq n) hs (l_z89_2 n m) hi) n 0 (by omega) (by omega)
 unfold m_z89
 rw [show ((0:Int)) = ((0:Nat):Int) from rfl,this]
 simp
theorem run_digits (n:Nat) (s:ByteArray) (hs:(L s).length <= 281474976710656) (hn:(L s).length < n):m_z90 n s = some (((L s).takeWhile isD).length:Int) := by
 have := scan (l := l_z90_2 n) (f := isD) (s := s) (fun m i hi=>scan_body (digit_eq n) hs (l_z90_2 n m) hi) n 0 (by omega) (by omega)
 unfold m_z90
 rw [show ((0:Int)) = ((0:Nat):Int) from rfl,this]
 simp
theorem bytes_eq (a b:ByteArray):(ByteArray.toList a == ByteArray.toList b) = (L a == L b) := by
 have e:∀ x:ByteArray,x.toList = L x := fun x=>ByteArray.toList_eq x
 rw [e,e]
def wordLen (r:List UInt8):Nat := match r with
 | []=>0
 | c :: _=>if isL c = true /\ (r.takeWhile isLD).length <= 12 then (r.takeWhile isLD).length else 0
theorem word_eq (n:Nat) (s:ByteArray) (hs:(L s).length <= 281474976710656) (hn:(L s).length < n):m_z95 n s = some (wordLen (L s):Int) := by
 unfold m_z95
 rw [bytes_eq]
 have e0:L (⟨#[]⟩:ByteArray) = [] := rfl
 rw [e0]
 cases h:L s with
 | nil =>
  simp only [BEq.rfl,Bool.not_true,bidx_no,bS,cond_false,cond_true]
  rfl
 | cons c r =>
  have hne:(c :: r == ([]:List UInt8)) = false := rfl
  have hb:bidx true s 0 = some c := by
   have := bidx_at (s := s) (i := 0) (by rw [h]; simp)
   simpa [h] using this
  simp only [hne,Bool.not_false,hb,bS,cond_true,letter_eq,cond_false]
  have hw := run_word n s hs hn
  rw [h] at hw
  cases hl:isL c with
  | false=>simp [wordLen,hl]
  | true =>
   simp only [Bool.not_true,cond_false,hw,bS]
   by_cases h12:((c :: r).takeWhile isLD).length <= 12
   ·rw [decide_eq_false (by omega)]
    simp only [wordLen,hl,h12,and_self,if_true,cond_false]
   ·rw [decide_eq_true (by omega)]
    simp only [wordLen,hl,h12,and_false,if_false,cond_true]
    rfl
theorem scanG {S O:Type} {Ls:List UInt8} {f:UInt8 -> Bool} {l:Nat -> S -> Option O} (st:Nat -> S) (out:Nat -> O)
  (h:∀ (m i:Nat),i <= Ls.length -> l (m + 1) (st i) = if (Ls[i]?).any f = true then l m (st (i + 1)) else some (out i)) :
  ∀ (m i:Nat),i <= Ls.length -> Ls.length - i < m -> l m (st i) = some (out (i + ((Ls.drop i).takeWhile f).length))
 | 0,i,_,hm=>by omega
 | m + 1,i,hi,hm=>by
  rw [h m i hi]
  by_cases hlt:i < Ls.length
  ·rw [List.drop_eq_getElem_cons hlt,List.getElem?_eq_getElem hlt]
   simp only [Option.any_some]
   by_cases hf:f Ls[i] = true
   ·rw [if_pos hf,scanG st out h m (i + 1) (by omega) (by omega),List.takeWhile_cons_of_pos hf]
    congr 2
    simp only [lC]; omega
   ·rw [if_neg hf,List.takeWhile_cons_of_neg hf]
    rfl
  ·rw [List.getElem?_eq_none (by omega),List.drop_eq_nil_of_le (by omega)]
   rfl
abbrev B (l:List UInt8):ByteArray := ⟨l.toArray⟩
theorem L_B (l:List UInt8):L (B l) = l := by simp [L,B]
theorem B_L (s:ByteArray):B (L s) = s := by simp [L,B]
theorem ext_B (s:ByteArray) (i k:Nat):s.extract i k = B (((L s).drop i).take (k - i)) := by
 rw [<- B_L (s.extract i k)]
 congr 1
 exact extract_list s i k
section
variable {s:ByteArray} {n:Nat} (hs:(L s).length <= 6000)
include hs
theorem one4_body (k:ByteArray × Int × Int × Int × ByteArray × Int × Int -> Option (ByteArray × Int × Int × Int × ByteArray × Int × Int)) {i:Nat} (hi:i <= (L s).length) (s1 s3 s5 s6:Int) (s4:ByteArray) :
  l_z75_4_B n k (s,s1,((i:Nat):Int),s3,s4,s5,s6) = if ((L s)[i]?).any isLD = true then k (s,s1,((i + 1:Nat):Int),s3,s4,s5,s6) else some (s,s1,(i:Int),s3,s4,s5,s6) := by
 unfold l_z75_4_B
 simp only
 by_cases hlt:i < (L s).length
 ·have h1:decide ((i:Int) < ((ByteArray.size s:Nat):Int)) = true := by rw [decide_eq_true_eq,size_L]; omega
  simp only [h1,bidx_at hlt,List.getElem?_eq_getElem hlt,bS,cond_true,rletter_eq,Option.any_some,wrap_up (show i <= 281474976710656 by omega),Bool.true_and]
  cases hl:isL (L s)[i] with
  | true=>simp only [Bool.not_true,cond_false,bS,bidx_no,cond_true]; rw [if_pos (isLD_L hl)]
  | false =>
   simp only [Bool.not_false,bidx_at hlt,bS,cond_true,rdigit_eq,cond_false]
   by_cases hd:isD (L s)[i] = true
   ·rw [hd,if_pos (isLD_D hd)]; rfl
   ·rw [(Bool.not_eq_true _).mp hd,if_neg (by rw [isLD_no hl ((Bool.not_eq_true _).mp hd)]; simp)]; rfl
 ·have h1:decide ((i:Int) < ((ByteArray.size s:Nat):Int)) = false := by rw [decide_eq_false_iff_not,size_L]; omega
  simp only [h1,bidx_no,bS,cond_false,Bool.false_and]
  rw [List.getElem?_eq_none (by omega)]
  rfl
theorem one10_body (k:ByteArray × Int × Int × Int × ByteArray × Int × Int -> Option (ByteArray × Int × Int × Int × ByteArray × Int × Int)) {i:Nat} (hi:i <= (L s).length) (s1 s3 s5 s6:Int) (s4:ByteArray) :
  l_z75_10_B n k (s,s1,((i:Nat):Int),s3,s4,s5,s6) = if ((L s)[i]?).any isD = true then k (s,s1,((i + 1:Nat):Int),s3,s4,s5,s6) else some (s,s1,(i:Int),s3,s4,s5,s6) := by
 unfold l_z75_10_B
 simp only
 by_cases hlt:i < (L s).length
 ·have h1:decide ((i:Int) < ((ByteArray.size s:Nat):Int)) = true := by rw [decide_eq_true_eq,size_L]; omega
  simp only [h1,bidx_at hlt,List.getElem?_eq_getElem hlt,bS,cond_true,rdigit_eq,Option.any_some,wrap_up (show i <= 281474976710656 by omega)]
  by_cases hd:isD (L s)[i] = true
  ·rw [hd,if_pos rfl]; rfl
  ·rw [(Bool.not_eq_true _).mp hd,if_neg (by simp)]; rfl
 ·have h1:decide ((i:Int) < ((ByteArray.size s:Nat):Int)) = false := by rw [decide_eq_false_iff_not,size_L]; omega
  simp only [h1,bidx_no,bS,cond_false]
  rw [List.getElem?_eq_none (by omega)]
  rfl
theorem one4 (hn:6001 < n) {i:Nat} (hi:i <= (L s).length) (s1 s3 s5 s6:Int) (s4:ByteArray) :
  l_z75_4 n n (s,s1,(i:Int),s3,s4,s5,s6) = some (s,s1,((i + (((L s).drop i).takeWhile isLD).length:Nat):Int),s3,s4,s5,s6) :=
 scanG (l := l_z75_4 n) (fun i=>(s,s1,((i:Nat):Int),s3,s4,s5,s6)) (fun i=>(s,s1,((i:Nat):Int),s3,s4,s5,s6)) (fun m i hi=>one4_body hs (l_z75_4 n m) hi s1 s3 s5 s6 s4) n i hi (by omega)
theorem one10 (hn:6001 < n) {i:Nat} (hi:i <= (L s).length) (s1 s3 s5 s6:Int) (s4:ByteArray) :
  l_z75_10 n n (s,s1,(i:Int),s3,s4,s5,s6) = some (s,s1,((i + (((L s).drop i).takeWhile isD).length:Nat):Int),s3,s4,s5,s6) :=
 scanG (l := l_z75_10 n) (fun i=>(s,s1,((i:Nat):Int),s3,s4,s5,s6)) (fun i=>(s,s1,((i:Nat):Int),s3,s4,s5,s6)) (fun m i hi=>one10_body hs (l_z75_10 n m) hi s1 s3 s5 s6 s4) n i hi (by omega)
end
theorem num_digit {c:UInt8} (h:isD c = true):IntKind.wrap .i64 (IntKind.wrap .u8 (((UInt8.toNat c:Nat):Int) - 48)) = ((c.toNat - 48:Nat):Int) := by
 have h1 := isD_iff.1 h
 have e:IntKind.wrap .u8 (((UInt8.toNat c:Nat):Int) - 48) = ((c.toNat - 48:Nat):Int) := by
  have:∀ x:Int,IntKind.wrap .u8 x = x % 256 := by
   intro x
   show (if (false&&decide (x % (2 ^ 8:Int) ≥ (2 ^ 7:Int))) = true then x % (2 ^ 8:Int) - (2 ^ 8:Int) else x % (2 ^ 8:Int)) = _
   simp
  rw [this]; omega
 rw [e,wrap_id (by omega) (by omega)]
theorem num_loop {s:ByteArray} {n:Nat} (hs:(L s).length <= 6000) (hd:∀ c ∈ L s,isD c = true):∀ (m i a:Nat),i <= (L s).length -> (L s).length - i < m -> a <= 9223372036854775807 →
  l_z46_3 n m (s,(a:Int),(i:Int)) = if valF a ((L s).drop i) <= 9223372036854775807 then some (.inr (s,((valF a ((L s).drop i):Nat):Int))) else some (.inl (0,false))
 | 0,i,a,_,hm,_=>by omega
 | m + 1,i,a,hi,hm,ha=>by
  rw [l_z46_3]
  unfold l_z46_3_B
  simp only
  by_cases hlt:i < (L s).length
  ·have h1:decide ((i:Int) < ((ByteArray.size s:Nat):Int)) = true := by rw [decide_eq_true_eq,size_L]; omega
   have hc := hd _ (List.getElem_mem hlt)
   have hc1 := isD_iff.1 hc
   have hle := valF_le ((L s).drop (i + 1)) (10 * a + ((L s)[i].toNat - 48))
   have hw:IntKind.wrap .i64 (9223372036854775807 - (((L s)[i].toNat - 48:Nat):Int)) = 9223372036854775807 - (((L s)[i].toNat - 48:Nat):Int) := wrap_id (by omega) (by omega)
   have hq:Int.tdiv (9223372036854775807 - (((L s)[i].toNat - 48:Nat):Int)) 10 = (9223372036854775807 - (((L s)[i].toNat - 48:Nat):Int)) / 10 := Int.tdiv_eq_ediv_of_nonneg (by omega)
   simp only [h1,cond_true,bidx_at hlt,bS,num_digit hc,hw,hq,must]
   rw [wrap_id (show -9223372036854775808 <= (9223372036854775807 - (((L s)[i].toNat - 48:Nat):Int)) / 10 by omega) (by omega)]
   rw [List.drop_eq_getElem_cons hlt,valF_cons]
   by_cases hov:(a:Int) > (9223372036854775807 - (((L s)[i].toNat - 48:Nat):Int)) / 10
   ·rw [decide_eq_true hov,if_neg (by omega)]
    rfl
   ·rw [decide_eq_false hov]
    simp only [Bool.not_false,Bool.not_true,Bool.and_false,cond_false,show (decide ((10:Int) = 0)) = false from rfl]
    rw [wrap_id (show -9223372036854775808 <= 10 * (a:Int) by omega) (by omega)]
    rw [wrap_id (show -9223372036854775808 <= 10 * (a:Int) + (((L s)[i].toNat - 48:Nat):Int) by omega) (by omega),wrap_up (show i <= 281474976710656 by omega)]
    rw [show 10 * (a:Int) + (((L s)[i].toNat - 48:Nat):Int) = ((10 * a + ((L s)[i].toNat - 48):Nat):Int) by omega]
    exact num_loop hs hd m (i + 1) _ (by omega) (by omega) (by omega)
  ·have h1:decide ((i:Int) < ((ByteArray.size s:Nat):Int)) = false := by rw [decide_eq_false_iff_not,size_L]; omega
   simp only [h1,cond_false]
   rw [List.drop_eq_nil_of_le (by omega),valF_nil,if_pos ha]
theorem number_eq {s:ByteArray} {n:Nat} (hs:(L s).length <= 6000) (hn:6001 < n) (hd:∀ c ∈ L s,isD c = true) (h0:L s ≠ []) :
  m_z46 n s = if val (L s) < 9223372036854775808 then some ((val (L s):Int),plainNum (L s)) else some (0,false) := by
 unfold m_z46
 have h := num_loop (n := n) hs hd n 0 0 (by omega) (by omega) (by omega)
 rw [show (((0:Nat):Nat):Int) = 0 from rfl] at h
 rw [h]
 simp only [List.drop_zero]
 show Option.bind (if val (L s) <= 9223372036854775807 then _ else _) _ = _
 by_cases hv:val (L s) < 9223372036854775808
 ·rw [if_pos (by omega),if_pos hv]
  simp only [bS,Sum.elim_inr,bytes_eq]
  have e0:L (⟨#[]⟩:ByteArray) = [] := rfl
  have e1:L (⟨#[48]⟩:ByteArray) = [48] := rfl
  rw [e0,e1]
  cases hl:L s with
  | nil=>exact absurd hl h0
  | cons c r =>
   have hne:(c :: r == ([]:List UInt8)) = false := rfl
   have hb:bidx true s 0 = some c := by
    have := bidx_at (s := s) (i := 0) (by rw [hl]; simp)
    simpa [hl] using this
   simp only [hne,Bool.not_false,hb,bS,cond_true,bne,beq_byte c 48 48 rfl]
   have:(valF 0 (c :: r):Int) = (val (c :: r):Int) := rfl
   rw [this]
   congr 2
   unfold plainNum
   simp only [List.head?_cons,Option.any_some,bne]
   cases (c == 48) <;> cases (c :: r == [48]) <;> rfl
 ·rw [if_neg (by omega),if_neg hv]
  rfl
theorem L_signs:L (⟨#[61,60,43,45,42,47,37,40,41,123,125]⟩:ByteArray) = signs := rfl
theorem sign_loop {s:ByteArray} {n:Nat} {p:Nat} (hp:p < (L s).length) (hs:(L s).length <= 6000) (c:UInt8) (s5 s7 s8:Int) (s6:ByteArray):∀ (m i:Nat),i <= 11 -> 11 - i < m →
  l_z75_19 n m (s,(p:Int),((UInt8.toNat c:Nat):Int),((p + 1:Nat):Int),(i:Int),s5,s6,s7,s8) =
   if (signs.drop i).contains c then some (.inl (1,3,B (((L s).drop p).take 1),0,(p:Int))) else some (.inr (s5,s6,s7,s8))
 | 0,i,_,hm=>by omega
 | m + 1,i,hi,hm=>by
  rw [l_z75_19]
  unfold l_z75_19_B
  simp only
  by_cases hlt:i < 11
  ·rw [decide_eq_true (show ((i:Nat):Int) < 11 by omega)]
   have hl:i < (L (⟨#[61,60,43,45,42,47,37,40,41,123,125]⟩:ByteArray)).length := by rw [L_signs]; exact hlt
   have hl2:i < signs.length := hlt
   rw [List.drop_eq_getElem_cons hl2,List.contains_cons]
   simp only [cond_true,bidx_at hl,bS]
   rw [beq_byte (L (⟨#[61,60,43,45,42,47,37,40,41,123,125]⟩:ByteArray))[i] c _ rfl]
   have hsame:(L (⟨#[61,60,43,45,42,47,37,40,41,123,125]⟩:ByteArray))[i] = signs[i] := rfl
   rw [hsame]
   by_cases hc:signs[i] = c
   ·rw [beq_iff_eq.2 hc,beq_iff_eq.2 hc.symm]
    simp only [cond_true,Bool.true_or,if_true,Int.toNat_natCast]
    rw [must_eq (by simp only [Bool.and_eq_true,decide_eq_true_eq,size_L]; omega),ext_B]
    rw [show p + 1 - p = 1 by omega]
   ·rw [beq_eq_false_iff_ne.2 hc,beq_eq_false_iff_ne.2 (Ne.symm hc)]
    simp only [cond_false,Bool.false_or]
    rw [wrap_up (show i <= 281474976710656 by omega)]
    exact sign_loop hp hs c s5 s7 s8 s6 m (i + 1) (by omega) (by omega)
  ·rw [decide_eq_false (show ¬ ((i:Nat):Int) < 11 by omega)]
   have:signs.drop i = [] := List.drop_eq_nil_of_le (by show 11 <= i; omega)
   rw [this]
   rfl
def oneR (p:Nat):Option Tok -> Int × ByteArray × Int × Int × Int
 | none=>(0,⟨#[]⟩,0,0,0)
 | some t=>(t.kind,B t.text,(t.num:Int),(p:Int),(t.text.length:Int))
theorem one_eq {s:ByteArray} {n p:Nat} (hp:p < (L s).length) (hs:(L s).length <= 6000) (hn:6001 < n):m_z75 n s (p:Int) = some (oneR p (tokAt ((L s).drop p) p)) := by
 unfold m_z75
 simp only [bidx_at hp,bS,rletter_eq,rdigit_eq,wrap_up (show p <= 281474976710656 by omega)]
 have hdrop := List.drop_eq_getElem_cons hp
 have htw:∀ (f:UInt8 -> Bool),f (L s)[p] = true -> (((L s).drop p).takeWhile f) = (L s)[p] :: (((L s).drop (p + 1)).takeWhile f) := by
  intro f hf
  rw [hdrop,List.takeWhile_cons_of_pos hf]
 have hlen:∀ (f:UInt8 -> Bool),(((L s).drop (p + 1)).takeWhile f).length <= (L s).length - (p + 1) := by
  intro f
  have := (List.takeWhile_prefix f (l := (L s).drop (p + 1))).length_le
  rw [List.length_drop] at this
  exact this
 have hext:∀ (f:UInt8 -> Bool),f (L s)[p] = true -> s.extract p (p + 1 + (((L s).drop (p + 1)).takeWhile f).length) = B (((L s).drop p).takeWhile f) := by
  intro f hf
  rw [ext_B,show p + 1 + (((L s).drop (p + 1)).takeWhile f).length - p = (((L s).drop p).takeWhile f).length by rw [htw f hf,lC]; omega,take_takeWhile]
 cases hl:isL (L s)[p] with
 | true =>
  have hLD:isLD (L s)[p] = true := isLD_L hl
  have h1 := hlen isLD
  simp only [cond_true,one4 hs hn (show p + 1 <= (L s).length by omega),bS]
  rw [show ((p + 1 + (((L s).drop (p + 1)).takeWhile isLD).length:Nat):Int) - (p:Int) = (((((L s).drop p).takeWhile isLD).length:Nat):Int) by rw [htw _ hLD,lC]; omega]
  rw [wrap_id (by omega) (by rw [htw _ hLD,lC]; omega)]
  rw [hdrop]
  simp only [tokAt,hl,if_true]
  rw [<- hdrop]
  by_cases h12:(((L s).drop p).takeWhile isLD).length <= 12
  ·rw [decide_eq_false (by omega),if_pos h12]
   simp only [cond_false,Int.toNat_natCast]
   rw [must_eq (by simp only [Bool.and_eq_true,decide_eq_true_eq,size_L]; omega),hext _ hLD]
   rfl
  ·rw [decide_eq_true (by omega),if_neg h12]
   rfl
 | false =>
  simp only [cond_false]
  cases hd:isD (L s)[p] with
  | true =>
   have h1 := hlen isD
   simp only [cond_true,one10 hs hn (show p + 1 <= (L s).length by omega),bS,Int.toNat_natCast]
   rw [must_eq (by simp only [Bool.and_eq_true,decide_eq_true_eq,size_L]; omega),hext _ hd]
   have hLw:L (B (((L s).drop p).takeWhile isD)) = ((L s).drop p).takeWhile isD := L_B _
   have hne:((L s).drop p).takeWhile isD ≠ [] := by rw [htw _ hd]; simp
   have hall:∀ c ∈ ((L s).drop p).takeWhile isD,isD c = true := fun c hc=>List.all_eq_true.1 (List.all_takeWhile (p := isD) (l := (L s).drop p)) c hc
   rw [number_eq (by rw [hLw,htw _ hd,lC]; omega) hn (by rw [hLw]; exact hall) (by rw [hLw]; exact hne),hLw]
   have htok:tokAt ((L s).drop p) p = if numOk (((L s).drop p).takeWhile isD) then some ⟨2,((L s).drop p).takeWhile isD,val (((L s).drop p).takeWhile isD),p⟩ else none := by
    conv=>lhs; rw [hdrop]
    simp only [tokAt,hl,hd,if_true,Bool.false_eq_true,if_false]
    rw [<- hdrop]
   rw [htok]
   unfold numOk
   by_cases hv:val (((L s).drop p).takeWhile isD) < 9223372036854775808
   ·rw [if_pos hv,decide_eq_true hv,Bool.and_true]
    simp only [bS]
    cases hpn:plainNum (((L s).drop p).takeWhile isD) with
    | false=>rfl
    | true =>
     simp only [Bool.not_true,cond_false,if_true]
     rw [must_eq (by simp only [Bool.and_eq_true,decide_eq_true_eq,size_L]; omega)]
     rw [show ((p + 1 + (((L s).drop (p + 1)).takeWhile isD).length:Nat):Int) - (p:Int) = (((((L s).drop p).takeWhile isD).length:Nat):Int) by rw [htw _ hd,lC]; omega]
     rw [wrap_id (by omega) (by rw [htw _ hd,lC]; omega)]
     rfl
   ·rw [if_neg hv,decide_eq_false hv,Bool.and_false]
    rfl
  | false =>
   simp only [cond_false,beq_byte (L s)[p] 61 61 rfl]
   have htok:tokAt ((L s).drop p) p = if signs.contains (L s)[p] then (if (L s)[p] = 61 /\ ((L s).drop (p + 1)).head? = some 61 then some ⟨3,[61,61],0,p⟩ else some ⟨3,[(L s)[p]],0,p⟩) else none := by
    conv=>lhs; rw [hdrop]
    simp only [tokAt,hl,hd,Bool.false_eq_true,if_false]
   have hsl := sign_loop (n := n) hp hs (L s)[p] 0 0 0 ⟨#[]⟩ n 0 (by omega) (by omega)
   have htake:((L s).drop p).take 1 = [(L s)[p]] := by rw [hdrop]; rfl
   rw [htake] at hsl
   rw [show (((0:Nat):Nat):Int) = 0 from rfl] at hsl
   simp only [List.drop_zero] at hsl
   have hrest:∀ hq:¬ ((L s)[p] = 61 /\ ((L s).drop (p + 1)).head? = some 61),(Option.bind (l_z75_19 n n (s,(p:Int),((UInt8.toNat (L s)[p]:Nat):Int),((p + 1:Nat):Int),0,0,(⟨#[]⟩:ByteArray),0,0)) fun x16 =>
     Sum.elim (fun p17=>some (p17.2.1,p17.2.2.1,p17.2.2.2.1,p17.2.2.2.2,p17.1)) (fun x16'=>(fun p18=>some (0,(⟨#[]⟩:ByteArray),0,0,0)) x16') x16) = some (oneR p (tokAt ((L s).drop p) p)) := by
    intro hq
    rw [hsl,htok]
    cases hcon:signs.contains (L s)[p] with
    | false=>rfl
    | true=>rw [if_pos rfl,if_neg hq]; rfl
   by_cases h61:(L s)[p] = 61
   ·rw [beq_iff_eq.2 h61]
    simp only [cond_true]
    by_cases hlt:p + 1 < (L s).length
    ·rw [decide_eq_true (show ((p + 1:Nat):Int) < ((ByteArray.size s:Nat):Int) by rw [size_L]; omega)]
     simp only [bidx_at hlt,bS,cond_true,beq_byte (L s)[p + 1] 61 61 rfl]
     by_cases h2:(L s)[p + 1] = 61
     ·rw [beq_iff_eq.2 h2,htok,h61]
      rw [if_pos (by decide),if_pos ⟨rfl,by rw [List.drop_eq_getElem_cons hlt]; simp [h2]⟩]
      rfl
     ·rw [beq_eq_false_iff_ne.2 h2]
      simp only [cond_false]
      exact hrest (by rintro ⟨_,h3⟩; rw [List.drop_eq_getElem_cons hlt] at h3; simp at h3; rw [List.getElem?_eq_getElem hlt] at h3; exact h2 (Option.some.inj h3))
    ·rw [decide_eq_false (show ¬ ((p + 1:Nat):Int) < ((ByteArray.size s:Nat):Int) by rw [size_L]; omega)]
     simp only [bidx_no,bS,cond_false]
     exact hrest (by rintro ⟨_,h3⟩; rw [List.drop_eq_nil_of_le (by omega)] at h3; simp at h3)
   ·rw [beq_eq_false_iff_ne.2 h61]
    simp only [cond_false,bidx_no,bS]
    exact hrest (fun h=>h61 h.1)
def encR (t:Tok):T := T.agg [(T.sc (.int .i64 t.kind)),(T.sc (.string (B t.text))),(T.sc (.int .i64 (t.num:Int))),(T.sc (.int .i64 (t.pos:Int)))]
theorem tokAt_pos {r:List UInt8} {p:Nat} {t:Tok} (h:tokAt r p = some t):t.pos = p /\ 1 <= t.text.length /\ t.text.length <= r.length /\ t.text = r.take t.text.length := by
 have hpre:∀ (f:UInt8 -> Bool) (c:UInt8) (r':List UInt8),f c = true -> 1 <= ((c :: r').takeWhile f).length /\ ((c :: r').takeWhile f).length <= (c :: r').length := by
  intro f c r' hf
  refine ⟨by rw [List.takeWhile_cons_of_pos hf]; simp,(List.takeWhile_prefix f).length_le⟩
 unfold tokAt at h
 cases r with
 | nil=>cases h
 | cons c r' =>
  simp only at h
  split at h
  ·rename_i hl
   split at h
   ·simp only [Option.some.injEq] at h
    subst h
    have := hpre isLD c r' (isLD_L hl)
    exact ⟨rfl,this.1,this.2,(take_takeWhile _ _).symm⟩
   ·cases h
  ·split at h
   ·rename_i hd
    split at h
    ·simp only [Option.some.injEq] at h
     subst h
     have := hpre isD c r' hd
     exact ⟨rfl,this.1,this.2,(take_takeWhile _ _).symm⟩
    ·cases h
   ·split at h
    ·split at h
     ·rename_i hq
      simp only [Option.some.injEq] at h
      subst h
      obtain ⟨rfl,h2⟩ := hq
      cases r' with
      | nil=>simp at h2
      | cons d r2=>simp at h2; subst h2; exact ⟨rfl,by simp,by simp,rfl⟩
     ·simp only [Option.some.injEq] at h
      subst h
      exact ⟨rfl,by simp,by simp,rfl⟩
    ·cases h
theorem lexR_len:∀ (k:Nat) (r:List UInt8) (p:Nat) (acc l:List Tok),r.length <= k -> lexR r p acc = .ok l -> l.length <= acc.length + r.length := by
 intro k
 induction k with
 | zero =>
  intro r p acc l hr h
  have:r = [] := List.length_eq_zero_iff.1 (by omega)
  subst this
  rw [lexR_nil] at h; cases h; simp
 | succ k ih =>
  intro r p acc l hr h
  cases r with
  | nil=>rw [lexR_nil] at h; cases h; simp
  | cons c r =>
   simp only [lC] at hr ⊢
   cases hb:blank c with
   | true=>rw [lexR_blank hb] at h; have := ih r _ acc l (by omega) h; omega
   | false =>
    by_cases h35:c = 35
    ·subst h35
     have h0 := dropWhile_le (· != 10) r
     rw [lexR_note] at h
     have := ih _ _ acc l (by omega) h
     omega
    ·cases ht:tokAt (c :: r) p with
     | none=>rw [lexR_bad hb h35 ht] at h; cases h
     | some t =>
      rw [lexR_tok hb h35 ht] at h
      have := ih _ _ (acc++[t]) l (by rw [List.length_drop]; omega) h
      rw [lA,List.length_drop] at this
      simp only [lC,lN] at this
      omega
section
variable {s:ByteArray} {n:Nat}
theorem note_body (hs:(L s).length <= 6000) (k:ByteArray × (List T) × Int -> Option (ByteArray × (List T) × Int)) {i:Nat} (hi:i <= (L s).length) (a:List T) :
  l_z42_10_B n k (s,a,(i:Int)) = if ((L s)[i]?).any (· != 10) = true then k (s,a,((i + 1:Nat):Int)) else some (s,a,(i:Int)) := by
 unfold l_z42_10_B
 simp only
 by_cases hlt:i < (L s).length
 ·have h1:decide ((i:Int) < ((ByteArray.size s:Nat):Int)) = true := by rw [decide_eq_true_eq,size_L]; omega
  simp only [h1,bidx_at hlt,List.getElem?_eq_getElem hlt,bS,cond_true,Option.any_some,wrap_up (show i <= 281474976710656 by omega),bne,beq_byte (L s)[i] 10 10 rfl]
  cases ((L s)[i] == 10) <;> rfl
 ·have h1:decide ((i:Int) < ((ByteArray.size s:Nat):Int)) = false := by rw [decide_eq_false_iff_not,size_L]; omega
  simp only [h1,bidx_no,bS,cond_false]
  rw [List.getElem?_eq_none (by omega)]
  rfl
theorem note_eq (hs:(L s).length <= 6000) (hn:6001 < n) {i:Nat} (hi:i <= (L s).length) (a:List T) :
  l_z42_10 n n (s,a,(i:Int)) = some (s,a,((i + (((L s).drop i).takeWhile (· != 10)).length:Nat):Int)) :=
 scanG (l := l_z42_10 n) (fun i=>(s,a,((i:Nat):Int))) (fun i=>(s,a,((i:Nat):Int))) (fun m i hi=>note_body hs (l_z42_10 n m) hi a) n i hi (by omega)
def outR (s:ByteArray):LR -> Option ((((List T) × Int × Int) ⊕ (List T) × Int))
 | .ok l=>some (.inr (l.map encR,((L s).length:Int)))
 | .bad q=>some (.inl ([],(q:Int),2))
theorem tokens_loop (hs:(L s).length <= 6000) (hn:6001 < n):∀ (m p:Nat) (acc:List Tok),p <= (L s).length -> (L s).length - p < m -> acc.length <= p →
  l_z42_5 n m (s,acc.map encR,(p:Int)) = outR s (lexR ((L s).drop p) p acc)
 | 0,p,acc,_,hm,_=>by omega
 | m + 1,p,acc,hp,hm,ha=>by
  rw [l_z42_5]
  unfold l_z42_5_B
  simp only
  by_cases hlt:p < (L s).length
  ·have h1:decide ((p:Int) < ((ByteArray.size s:Nat):Int)) = true := by rw [decide_eq_true_eq,size_L]; omega
   have hdrop := List.drop_eq_getElem_cons hlt
   have hbl:(bif (bif ((((UInt8.toNat (L s)[p]:Nat):Int):Int) == 32) then true else ((((UInt8.toNat (L s)[p]:Nat):Int):Int) == 9)) then true else ((((UInt8.toNat (L s)[p]:Nat):Int):Int) == 10)) = blank (L s)[p] := by
    have := blank_eq 0 (L s)[p]
    unfold m_z79 at this
    exact Option.some.inj this
   simp only [h1,cond_true,bidx_at hlt,bS,hbl]
   cases hb:blank (L s)[p] with
   | true =>
    simp only [cond_true]
    rw [wrap_up (show p <= 281474976710656 by omega),tokens_loop hs hn m (p + 1) acc (by omega) (by omega) (by omega),hdrop,lexR_blank hb]
   | false =>
    simp only [cond_false,beq_byte (L s)[p] 35 35 rfl]
    by_cases h35:(L s)[p] = 35
    ·rw [beq_iff_eq.2 h35]
     simp only [cond_true]
     rw [note_eq hs hn hp]
     simp only [bS]
     have htw:(((L s).drop p).takeWhile (· != 10)) = 35 :: (((L s).drop (p + 1)).takeWhile (· != 10)) := by
      rw [hdrop,h35,List.takeWhile_cons_of_pos (by decide)]
     have hlen := (List.takeWhile_prefix (· != 10) (l := (L s).drop (p + 1))).length_le
     rw [List.length_drop] at hlen
     rw [htw,lC,tokens_loop hs hn m _ acc (by omega) (by omega) (by omega),hdrop,h35,lexR_note]
     congr 2
     ·rw [drop_takeWhile,List.drop_drop]
      congr 1; omega
     ·omega
    ·rw [beq_eq_false_iff_ne.2 h35]
     simp only [cond_false]
     rw [one_eq hlt hs hn]
     simp only [bS]
     cases ht:tokAt ((L s).drop p) p with
     | none =>
      simp only [oneR,BEq.rfl,cond_true]
      rw [hdrop] at ht ⊢
      rw [lexR_bad hb h35 ht]
      rfl
     | some t =>
      obtain ⟨h2,h3,h4,h5⟩ := tokAt_pos ht
      rw [List.length_drop] at h4
      simp only [oneR]
      rw [beq_eq_false_iff_ne.2 (show ((t.text.length:Nat):Int) ≠ 0 by omega)]
      simp only [cond_false]
      rw [must_eq (by simp only [List.length_map,lC,lN,Bool.and_eq_true,decide_eq_true_eq]; exact ⟨rfl,by omega,rfl⟩)]
      rw [wrap_add (show p <= 281474976710656 by omega) (by omega)]
      have e:acc.map encR++[T.agg [(T.sc (.int .i64 t.kind)),(T.sc (.string (B t.text))),(T.sc (.int .i64 (t.num:Int))),(T.sc (.int .i64 (p:Int)))]] = (acc++[t]).map encR := by
       rw [List.map_append]; simp only [List.map_cons,List.map_nil,encR,h2]
      rw [e,tokens_loop hs hn m _ (acc++[t]) (by omega) (by omega) (by rw [lA]; simp only [lC,lN]; omega)]
      rw [hdrop] at ht ⊢
      rw [lexR_tok hb h35 ht]
      congr 2
      rw [List.drop_drop]
      congr 1; omega
  ·have h1:decide ((p:Int) < ((ByteArray.size s:Nat):Int)) = false := by rw [decide_eq_false_iff_not,size_L]; omega
   simp only [h1,cond_false]
   rw [List.drop_eq_nil_of_le (by omega),lexR_nil]
   have:p = (L s).length := by omega
   subst this
   rfl
def toksR (s:ByteArray):List T × Int × Int :=
 if 6000 < (L s).length then ([],6000,2) else match lexR (L s) 0 [] with
 | .ok l=>((l++[(⟨4,[],0,(L s).length⟩:Tok)]).map encR,0,0)
 | .bad q=>([],(q:Int),2)
theorem tokensR_eq (hn:6001 < n):m_z42 n s = some (toksR s) := by
 unfold m_z42 toksR
 by_cases h:6000 < (L s).length
 ·rw [decide_eq_true (show ((ByteArray.size s:Nat):Int) > 6000 by rw [size_L]; omega),if_pos h]
  rfl
 ·rw [decide_eq_false (show ¬ ((ByteArray.size s:Nat):Int) > 6000 by rw [size_L]; omega),if_neg h]
  have hl := tokens_loop (s := s) (n := n) (by omega) hn n 0 [] (by omega) (by omega) (by simp)
  rw [List.drop_zero,show (((0:Nat):Nat):Int) = 0 from rfl,List.map_nil] at hl
  simp only [cond_false,hl]
  cases hr:lexR (L s) 0 [] with
  | bad q=>rfl
  | ok l =>
   have := lexR_len _ (L s) 0 [] l (Nat.le_refl _) hr
   simp only [lN] at this
   simp only [outR,bS,Sum.elim_inr]
   rw [must_eq (by simp only [List.length_map,lC,lN,Bool.and_eq_true,decide_eq_true_eq]; exact ⟨rfl,by omega,rfl⟩)]
   rw [List.map_append]
   rfl
end
def P (s:ByteArray) (q:Nat):Nat × Nat := (F (pos ((L s).take q)).1,F (pos ((L s).take q)).2)
def encL (s:ByteArray) (t:Tok):T := T.agg [(T.sc (.int .i64 t.kind)),(T.sc (.string (B t.text))),(T.sc (.int .i64 (t.num:Int))),(T.sc (.complex .f64 (P s t.pos).1 (P s t.pos).2))]
theorem sized_L (s:ByteArray) (l:List Tok):sized 4 (l.map (encL s)) = true := by
 unfold sized
 rw [List.all_eq_true]
 intro y hy
 obtain ⟨t,_,rfl⟩ := List.mem_map.1 hy
 rfl
theorem of_P (n:Nat) (s:ByteArray) (q:Nat) (hs:(L s).length <= 281474976710656) (hq:q <= (L s).length):m_z96 n s (q:Int) = some (P s q) :=
 of_eq n s q (by rw [size_L]; exact hs) (by rw [size_L]; exact hq)
theorem ext_drop (s:ByteArray) (q:Nat):s.extract q s.size = B ((L s).drop q) := by
 rw [ext_B,List.take_of_length_le (by rw [List.length_drop,size_L]; omega)]
theorem clip_eq (n:Nat) (s:ByteArray) (l:List Tok):m_z1 n (l.map (encL s)) = some (l.map (encL s)) := by
 unfold m_z1
 rw [must_eq (by rw [sized_L]; simp),must_eq (by simp)]
 rw [Int.toNat_natCast,List.take_length]
 rfl
theorem index_neg (l:List UInt8) (c:UInt8):decide (Lib.indexByte l c < 0) = !l.contains c := by
 induction l with
 | nil=>rfl
 | cons b l ih =>
  have hge := Lib.indexByte_ge l c
  unfold Lib.indexByte
  rw [List.contains_cons]
  by_cases hb:(b == c) = true
  ·rw [if_pos hb]
   have:(c == b) = true := by rw [beq_iff_eq] at hb ⊢; exact hb.symm
   rw [this]; rfl
  ·rw [if_neg hb]
   have:(c == b) = false := by
    rw [beq_eq_false_iff_ne]; intro hh; apply hb; rw [beq_iff_eq]; exact hh.symm
   rw [this,Bool.false_or,<- ih]
   by_cases h1:(Lib.indexByte l c == -1) = true
   ·rw [if_pos h1]
    have:Lib.indexByte l c = -1 := by simpa using h1
    rw [this]
   ·rw [if_neg h1]
    have:Lib.indexByte l c ≠ -1 := by simpa using h1
    rw [decide_eq_false (by omega),decide_eq_false (by omega)]
theorem sign_eq (n:Nat) (c:UInt8):∃ r,m_z38 n (⟨#[61,60,43,45,42,47,37,40,41,123,125]⟩:ByteArray) ((UInt8.toNat c:Nat):Int) = some r /\ decide (r < 0) = !signs.contains c := by
 refine ⟨_,rfl,?_⟩
 have e:(((UInt8.toNat c:Nat):Int)).toNat.toUInt8 = c := by
  rw [Int.toNat_natCast]
  exact UInt8.ofNat_toNat
 rw [e]
 exact index_neg _ c
theorem prefix_eq (n:Nat) (l:List UInt8):m_z37 n (B l) (⟨#[61,61]⟩:ByteArray) = some (l.take 2 == [61,61]) := by
 unfold m_z37 m_z5
 rw [bytes_eq]
 have e1:L (⟨#[61,61]⟩:ByteArray) = [61,61] := rfl
 have e2:((ByteArray.size (⟨#[61,61]⟩:ByteArray):Nat):Int) = 2 := rfl
 rw [e1,e2]
 have e3:(B l).size = l.length := by rw [size_L,L_B]
 rw [e3]
 by_cases h:2 <= l.length
 ·rw [decide_eq_true (show ((l.length:Nat):Int) ≥ 2 by omega)]
  rw [must_eq (by simp only [Bool.and_eq_true,decide_eq_true_eq]; exact ⟨⟨by decide,by decide⟩,trivial⟩)]
  simp only [cond_true,bS]
  rw [ext_B,L_B,L_B]
  rfl
 ·rw [decide_eq_false (show ¬ ((l.length:Nat):Int) ≥ 2 by omega)]
  simp only [must,Bool.false_and,cond_false,bS]
  congr 1
  symm
  rw [beq_eq_false_iff_ne]
  intro hh
  have := congrArg List.length hh
  rw [List.length_take] at this
  simp only [lC,lN] at this
  omega
def res3 (x:(List T) × (Nat × Nat) × Int × Int × ByteArray × Int × (Nat × Nat)):List T × (Nat × Nat) × Int := (x.1,x.2.1,x.2.2.1)
def outL (s:ByteArray):LR -> List T × (Nat × Nat) × Int
 | .ok l=>((l++[(⟨4,[],0,(L s).length⟩:Tok)]).map (encL s),(0,0),0)
 | .bad q=>([],P s q,2)
section
variable {s:ByteArray} {n:Nat}
theorem end_lab (m:Nat) {acc:List Tok} (ha:acc.length <= 6000) (hs:(L s).length <= 6000) :
  (j_z86_0 n (m + 1) (Sum.inl (acc.map (encL s),0,(⟨#[]⟩:ByteArray),0,P s (L s).length))).map res3 = some (outL s (.ok acc)) := by
 show (j_z86_0_B1 n (j_z86_0 n m) (acc.map (encL s),0,(⟨#[]⟩:ByteArray),0,P s (L s).length)).map res3 = _
 unfold j_z86_0_B1
 simp only
 rw [must_eq (by simp only [List.length_map,lC,lN,Bool.and_eq_true,decide_eq_true_eq]; exact ⟨rfl,by omega,rfl⟩)]
 have e:acc.map (encL s)++[(T.agg [(T.sc (.int .i64 4)),(T.sc (.string (⟨#[]⟩:ByteArray))),(T.sc (.int .i64 0)),(T.sc (.complex .f64 (P s (L s).length).1 (P s (L s).length).2))])] = (acc++[(⟨4,[],0,(L s).length⟩:Tok)]).map (encL s) := by
  rw [List.map_append]; rfl
 rw [e,clip_eq]
 rfl
theorem none_lab (m:Nat) (k0:Int) (t0:ByteArray) (n0:Int) (q:Nat) :
  (j_z86_0 n (m + 1) (Sum.inr (Sum.inr (Sum.inr (Sum.inr (Sum.inl (k0,t0,n0,P s q))))))).map res3 = some (outL s (.bad q)) := rfl
def btw (s:ByteArray) (acc:List Tok) (p:Nat) (k0:Int) (t0:ByteArray) (n0:Int) (pl:Nat × Nat):(((List T) × Int × ByteArray × Int × (Nat × Nat)) ⊕ ((ByteArray × (List T) × Int × Int × ByteArray × Int × (Nat × Nat)) ⊕ ((ByteArray × (List T) × Int × Int × ByteArray × Int × (Nat × Nat)) ⊕ ((ByteArray × (List T) × Int × Int × ByteArray × Int × (Nat × Nat)) ⊕ ((Int × ByteArray × Int × (Nat × Nat)) ⊕ ((ByteArray × (List T) × Int × Int × Int × ByteArray × Int × (Nat × Nat)) ⊕ ByteArray × (List T) × Int × Int × ByteArray × Int × (Nat × Nat))))))) :=
 Sum.inr (Sum.inr (Sum.inr (Sum.inr (Sum.inr (Sum.inr (s,acc.map (encL s),(p:Int),k0,t0,n0,pl))))))
theorem token_lab (m:Nat) {acc:List Tok} (ha:acc.length <= 6000) (hs:(L s).length <= 6000) {q:Nat} (t:Tok) (ht:t.pos = q) (hl:1 <= t.text.length) (hle:t.text.length <= (L s).length - q) (hq:q <= (L s).length) (htx:t.text = ((L s).drop q).take t.text.length) (t0:ByteArray) :
  j_z86_0 n (m + 1) (Sum.inr (Sum.inr (Sum.inr (Sum.inr (Sum.inr (Sum.inl (s,acc.map (encL s),(q:Int),(t.text.length:Int),t.kind,t0,(t.num:Int),P s q))))))) =
   j_z86_0 n m (btw s (acc++[t]) (q + t.text.length) t.kind (B t.text) (t.num:Int) (P s q)) := by
 show j_z86_0_B6 n (j_z86_0 n m) (s,acc.map (encL s),(q:Int),(t.text.length:Int),t.kind,t0,(t.num:Int),P s q) = _
 unfold j_z86_0_B6
 simp only
 rw [beq_eq_false_iff_ne.2 (show ((t.text.length:Nat):Int) ≠ 0 by omega)]
 simp only [cond_false]
 rw [wrap_add (show q <= 281474976710656 by omega) (by omega)]
 rw [must_eq (by rw [size_L]; simp only [Bool.and_eq_true,decide_eq_true_eq]; omega)]
 rw [must_eq (by simp only [List.length_map,lC,lN,Bool.and_eq_true,decide_eq_true_eq]; exact ⟨rfl,by omega,rfl⟩)]
 simp only [Int.toNat_natCast]
 rw [ext_B,show q + t.text.length - q = t.text.length by omega,<- htx]
 unfold btw
 rw [List.map_append]
 simp only [List.map_cons,List.map_nil,encL,ht]
theorem prog_loop (hs:(L s).length <= 6000) (hn:6001 < n):∀ (k p:Nat) (acc:List Tok) (m:Nat),(L s).length - p <= k -> p <= (L s).length -> acc.length <= p -> 3 * k + 3 < m -> ∀ (k0:Int) (t0:ByteArray) (n0:Int) (pl:Nat × Nat),
  (j_z86_0 n m (btw s acc p k0 t0 n0 pl)).map res3 = some (outL s (lexR ((L s).drop p) p acc)) := by
 intro k
 induction k using Nat.strongRecOn with
 | ind k ih =>
 intro p acc m hk hp ha hm k0 t0 n0 pl
 obtain ⟨m,rfl⟩:∃ m',m = m' + 1 := ⟨m - 1,by omega⟩
 show (j_z86_0_B0 n (j_z86_0 n m) (s,acc.map (encL s),(p:Int),k0,t0,n0,pl)).map res3 = _
 unfold j_z86_0_B0
 simp only
 rw [must_eq (by rw [size_L]; simp only [Bool.and_eq_true,decide_eq_true_eq]; omega)]
 simp only [Int.toNat_natCast]
 rw [ext_drop,run_blank n _ (by rw [L_B,List.length_drop]; omega) (by rw [L_B,List.length_drop]; omega),L_B]
 simp only [bS]
 rw [lexR_blanks]
 have hb1 := (List.takeWhile_prefix blank (l := (L s).drop p)).length_le
 have hb2 := drop_takeWhile blank ((L s).drop p)
 rw [List.length_drop] at hb1
 rw [List.drop_drop] at hb2
 rw [wrap_add (show p <= 281474976710656 by omega) (by omega)]
 have hhead:∀ (c:UInt8) (r:List UInt8),((L s).drop p).dropWhile blank = c :: r -> blank c = false := by
  intro c r h
  have := List.head?_dropWhile_not blank ((L s).drop p)
  rw [h] at this
  simpa using this
 rw [hb2] at hhead ⊢
 generalize hq:p + (((L s).drop p).takeWhile blank).length = q at *
 have hqL:q <= (L s).length := by omega
 have hqp:p <= q := by omega
 rw [of_P n s q (by omega) hqL]
 simp only [bS,size_L]
 by_cases hend:q = (L s).length
 ·rw [beq_iff_eq.2 (show ((q:Nat):Int) = ((L s).length:Int) by omega)]
  simp only [cond_true]
  obtain ⟨m,rfl⟩:∃ m',m = m' + 1 := ⟨m - 1,by omega⟩
  rw [hend,List.drop_length,lexR_nil]
  exact end_lab m (by omega) hs
 ·rw [beq_eq_false_iff_ne.2 (show ((q:Nat):Int) ≠ ((L s).length:Int) by omega)]
  have hlt:q < (L s).length := by omega
  have hdrop := List.drop_eq_getElem_cons hlt
  have hb := hhead _ _ hdrop
  simp only [cond_false,bidx_at hlt,bS,beq_byte (L s)[q] 35 35 rfl]
  by_cases h35:(L s)[q] = 35
  ·
   rw [beq_iff_eq.2 h35]
   simp only [cond_true]
   obtain ⟨m,rfl⟩:∃ m',m = m' + 1 := ⟨m - 1,by omega⟩
   show (j_z86_0_B2 n (j_z86_0 n m) (s,acc.map (encL s),(q:Int),0,(⟨#[]⟩:ByteArray),0,P s q)).map res3 = _
   unfold j_z86_0_B2
   simp only
   rw [must_eq (by rw [size_L]; simp only [Bool.and_eq_true,decide_eq_true_eq]; omega)]
   simp only [Int.toNat_natCast]
   rw [ext_drop,run_note n _ (by rw [L_B,List.length_drop]; omega) (by rw [L_B,List.length_drop]; omega),L_B]
   simp only [bS]
   have htw:(((L s).drop q).takeWhile (· != 10)) = 35 :: (((L s).drop (q + 1)).takeWhile (· != 10)) := by
    rw [hdrop,h35,List.takeWhile_cons_of_pos (by decide)]
   have hlen := (List.takeWhile_prefix (· != 10) (l := (L s).drop (q + 1))).length_le
   rw [List.length_drop] at hlen
   rw [htw,lC,wrap_add (show q <= 281474976710656 by omega) (by omega)]
   have := ih (k - 1) (by omega) (q + ((((L s).drop (q + 1)).takeWhile (· != 10)).length + 1)) acc m (by omega) (by omega) (by omega) (by omega) 0 (⟨#[]⟩:ByteArray) 0 (P s q)
   unfold btw at this
   rw [this,hdrop,h35,lexR_note]
   congr 3
   ·rw [drop_takeWhile,List.drop_drop]
    congr 1; omega
   ·omega
  ·rw [beq_eq_false_iff_ne.2 h35]
   simp only [cond_false,letter_eq,bS]
   have after:∀ (t:Tok),tokAt ((L s).drop q) q = some t -> ∀ (m:Nat),3 * k < m -> ∀ (t0:ByteArray),(j_z86_0 n m (btw s (acc++[t]) (q + t.text.length) t.kind (B t.text) (t.num:Int) (P s q))).map res3 = some (outL s (lexR ((L s).drop q) q acc)) := by
    intro t ht m hm t0
    obtain ⟨g1,g2,g3,g4⟩ := tokAt_pos ht
    rw [List.length_drop] at g3
    rw [ih (k - 1) (by omega) (q + t.text.length) (acc++[t]) m (by omega) (by omega) (by rw [lA]; simp only [lC,lN]; omega) (by omega)]
    rw [hdrop] at ht ⊢
    rw [lexR_tok hb h35 ht]
    congr 3
    rw [List.drop_drop]
    congr 1; omega
   have bad:tokAt ((L s).drop q) q = none -> lexR ((L s).drop q) q acc = .bad q := by
    intro ht
    rw [hdrop] at ht ⊢
    exact lexR_bad hb h35 ht
   cases hl:isL (L s)[q] with
   | true =>
    simp only [cond_true]
    obtain ⟨m,rfl⟩:∃ m',m = m' + 2 := ⟨m - 2,by omega⟩
    show (j_z86_0_B3 n (j_z86_0 n (m + 1)) (s,acc.map (encL s),(q:Int),0,(⟨#[]⟩:ByteArray),0,P s q)).map res3 = _
    unfold j_z86_0_B3
    simp only
    rw [must_eq (by rw [size_L]; simp only [Bool.and_eq_true,decide_eq_true_eq]; omega)]
    simp only [Int.toNat_natCast]
    rw [ext_drop,word_eq n _ (by rw [L_B,List.length_drop]; omega) (by rw [L_B,List.length_drop]; omega),L_B]
    simp only [bS]
    have htok:tokAt ((L s).drop q) q = if (((L s).drop q).takeWhile isLD).length <= 12 then some ⟨1,((L s).drop q).takeWhile isLD,0,q⟩ else none := by
     conv=>lhs; rw [hdrop]
     simp only [tokAt,hl,if_true]
     rw [<- hdrop]
    have hwl:wordLen ((L s).drop q) = if (((L s).drop q).takeWhile isLD).length <= 12 then (((L s).drop q).takeWhile isLD).length else 0 := by
     conv=>lhs; rw [hdrop]
     simp only [wordLen,hl,true_and]
     rw [<- hdrop]
    by_cases h12:(((L s).drop q).takeWhile isLD).length <= 12
    ·rw [if_pos h12] at htok hwl
     obtain ⟨g1,g2,g3,g4⟩ := tokAt_pos htok
     rw [List.length_drop] at g3
     rw [hwl]
     have := token_lab (n := n) m (acc := acc) (by omega) hs _ g1 g2 g3 hqL g4 (⟨#[]⟩:ByteArray)
     simp only [show (((0:Nat):Nat):Int) = 0 from rfl] at this
     rw [this]
     exact after _ htok m (by omega) ⟨#[]⟩
    ·rw [if_neg h12] at htok hwl
     rw [hwl]
     show (j_z86_0_B6 n (j_z86_0 n m) (s,acc.map (encL s),(q:Int),((0:Nat):Int),1,(⟨#[]⟩:ByteArray),0,P s q)).map res3 = _
     rw [bad htok]
     obtain ⟨m,rfl⟩:∃ m',m = m' + 1 := ⟨m - 1,by omega⟩
     exact none_lab (n := n) m _ _ _ q
   | false =>
    simp only [cond_false,digit_eq,bS]
    cases hd:isD (L s)[q] with
    | true =>
     simp only [cond_true]
     obtain ⟨m,rfl⟩:∃ m',m = m' + 2 := ⟨m - 2,by omega⟩
     show (j_z86_0_B4 n (j_z86_0 n (m + 1)) (s,acc.map (encL s),(q:Int),0,(⟨#[]⟩:ByteArray),0,P s q)).map res3 = _
     unfold j_z86_0_B4
     simp only
     rw [must_eq (by rw [size_L]; simp only [Bool.and_eq_true,decide_eq_true_eq]; omega)]
     simp only [Int.toNat_natCast]
     rw [ext_drop,run_digits n _ (by rw [L_B,List.length_drop]; omega) (by rw [L_B,List.length_drop]; omega),L_B]
     simp only [bS]
     have hlen := (List.takeWhile_prefix isD (l := (L s).drop q)).length_le
     rw [List.length_drop] at hlen
     have hpos:1 <= (((L s).drop q).takeWhile isD).length := by
      rw [hdrop,List.takeWhile_cons_of_pos hd,lC]; omega
     rw [wrap_add (show q <= 281474976710656 by omega) (by omega)]
     rw [must_eq (by rw [size_L]; simp only [Bool.and_eq_true,decide_eq_true_eq]; omega)]
     simp only [Int.toNat_natCast]
     have hext:s.extract q (q + (((L s).drop q).takeWhile isD).length) = B (((L s).drop q).takeWhile isD) := by
      rw [ext_B,show q + (((L s).drop q).takeWhile isD).length - q = (((L s).drop q).takeWhile isD).length by omega,take_takeWhile]
     rw [hext]
     have htok:tokAt ((L s).drop q) q = if numOk (((L s).drop q).takeWhile isD) then some ⟨2,((L s).drop q).takeWhile isD,val (((L s).drop q).takeWhile isD),q⟩ else none := by
      conv=>lhs; rw [hdrop]
      simp only [tokAt,hl,hd,if_true,Bool.false_eq_true,if_false]
      rw [<- hdrop]
     generalize hw:((L s).drop q).takeWhile isD = w at *
     have hall:∀ c ∈ w,isD c = true := fun c hc=>List.all_eq_true.1 (by rw [<- hw]; exact List.all_takeWhile) c hc
     have hwne:w ≠ [] := fun h=>by rw [h] at hpos; simp at hpos
     obtain ⟨v,b,h1,h2,h3,h4⟩ := there_back (a := B w) (by show L (B w) ≠ []; rw [L_B]; exact hwne) (by show ∀ c ∈ L (B w),_; rw [L_B]; exact hall) (by rw [size_L,L_B]; omega)
     have h3':(L b == w) = (plainNum w&&decide (val w < 9223372036854775808)) := by
      have e:(B w).data.toList = w := L_B w
      rw [e] at h3; exact h3
     have h4':val w < 9223372036854775808 -> v = val w := by
      have e:(B w).data.toList = w := L_B w
      rw [e] at h4; exact h4
     have hA:m_z82 n (B w) = some (v:Int) := h1
     have hI:m_z83 n (v:Int) = some b := h2
     simp only [hA,hI,bS,bytes_eq,L_B,h3']
     rw [must_eq (by rw [size_L]; simp only [Bool.and_eq_true,decide_eq_true_eq]; omega)]
     rw [beq_eq_false_iff_ne.2 (show ((w.length:Nat):Int) ≠ 0 by omega)]
     cases hok:numOk w with
     | false =>
      have hok':(plainNum w&&decide (val w < 9223372036854775808)) = false := hok
      rw [hok] at htok
      simp only [Bool.false_eq_true,if_false] at htok
      rw [hok',bad htok]
      exact none_lab (n := n) m _ _ _ q
     | true =>
      have hok':(plainNum w&&decide (val w < 9223372036854775808)) = true := hok
      rw [hok] at htok
      simp only [if_true] at htok
      rw [hok']
      have hv:v = val w := h4' (by simp only [Bool.and_eq_true,decide_eq_true_eq] at hok'; exact hok'.2)
      simp only [Bool.not_true,cond_false]
      rw [must_eq (by rw [size_L]; simp only [Bool.and_eq_true,decide_eq_true_eq]; omega)]
      rw [must_eq (by simp only [List.length_map,lC,lN,Bool.and_eq_true,decide_eq_true_eq]; exact ⟨rfl,by omega,rfl⟩)]
      have := after _ htok (m + 1) (by omega) ⟨#[]⟩
      rw [<- this]
      unfold btw
      rw [List.map_append,hv]
      rfl
    | false =>
     simp only [cond_false]
     rw [must_eq (by simp only [Bool.and_eq_true,decide_eq_true_eq]; omega)]
     simp only [Int.toNat_natCast]
     have hex:s.extract q (L s).length = B ((L s).drop q) := by rw [<- size_L]; exact ext_drop s q
     rw [hex,prefix_eq]
     obtain ⟨r,hr,hr2⟩ := sign_eq n (L s)[q]
     simp only [bS,hr,hr2]
     have htok:tokAt ((L s).drop q) q = if signs.contains (L s)[q] then (if (L s)[q] = 61 /\ ((L s).drop (q + 1)).head? = some 61 then some ⟨3,[61,61],0,q⟩ else some ⟨3,[(L s)[q]],0,q⟩) else none := by
      conv=>lhs; rw [hdrop]
      simp only [tokAt,hl,hd,Bool.false_eq_true,if_false]
     have h2:(((L s).drop q).take 2 == [61,61]) = decide ((L s)[q] = 61 /\ ((L s).drop (q + 1)).head? = some 61) := by
      rw [hdrop]
      cases hr1:(L s).drop (q + 1) with
      | nil =>
       rw [decide_eq_false (by simp),beq_eq_false_iff_ne]
       intro hh; simp at hh
      | cons d r2 =>
       apply Bool.eq_iff_iff.2
       rw [beq_iff_eq,decide_eq_true_eq]
       simp only [List.take_succ_cons,List.take_zero,List.cons.injEq,and_true,List.head?_cons,Option.some.injEq]
     rw [h2]
     obtain ⟨m,rfl⟩:∃ m',m = m' + 2 := ⟨m - 2,by omega⟩
     cases hc:signs.contains (L s)[q] with
     | false =>
      rw [hc] at htok
      simp only [Bool.false_eq_true,if_false] at htok
      rw [bad htok]
      by_cases hq2:(L s)[q] = 61 /\ ((L s).drop (q + 1)).head? = some 61
      ·rw [decide_eq_true hq2]; exact none_lab (n := n) (m + 1) _ _ _ q
      ·rw [decide_eq_false hq2]; exact none_lab (n := n) (m + 1) _ _ _ q
     | true =>
      rw [hc] at htok
      simp only [if_true] at htok
      by_cases hq2:(L s)[q] = 61 /\ ((L s).drop (q + 1)).head? = some 61
      ·rw [if_pos hq2] at htok
       rw [decide_eq_true hq2]
       obtain ⟨g1,g2,g3,g4⟩ := tokAt_pos htok
       rw [List.length_drop] at g3
       have := token_lab (n := n) (m + 1) (acc := acc) (by omega) hs _ g1 g2 g3 hqL g4 (⟨#[]⟩:ByteArray)
       have h9 := after _ htok (m + 1) (by omega) ⟨#[]⟩
       rw [<- h9,<- this]
       rfl
      ·rw [if_neg hq2] at htok
       rw [decide_eq_false hq2]
       obtain ⟨g1,g2,g3,g4⟩ := tokAt_pos htok
       rw [List.length_drop] at g3
       have := token_lab (n := n) (m + 1) (acc := acc) (by omega) hs _ g1 g2 g3 hqL g4 (⟨#[]⟩:ByteArray)
       have h9 := after _ htok (m + 1) (by omega) ⟨#[]⟩
       rw [<- h9,<- this]
       rfl
end
theorem must_bind {A C:Type} (c φ:Bool) (r:Option A) (f:A -> Option C):(must c φ r).bind f = must c φ (r.bind f) := by
 unfold must; cases (c&&!φ) <;> rfl
theorem cond_bind {A C:Type} (c:Bool) (a b:Option A) (f:A -> Option C):(bif c then a else b).bind f = bif c then a.bind f else b.bind f := by cases c <;> rfl
theorem map_res3 (x:Option ((List T) × (Nat × Nat) × Int × Int × ByteArray × Int × (Nat × Nat))):x.map res3 = x.bind (fun p=>some (p.1,p.2.1,p.2.2.1)) := by cases x <;> rfl
theorem inline_eq (s:ByteArray) (n:Nat) (h:decide ((((ByteArray.size s:Nat):Int):Int) > 6000) = false):m_z86 n s = (j_z86_0_B0 n (j_z86_0 n n) (s,[],(0:Int),0,(⟨#[]⟩:ByteArray),0,(0,0))).map res3 := by
 unfold m_z86 j_z86_0_B0
 rw [h,map_res3]
 generalize j_z86_0 n n = J
 simp only [must_bind,cond_bind,Option.bind_assoc,cond_false]
 rfl
theorem lab0_eq (n m:Nat) (st:ByteArray × (List T) × Int × Int × ByteArray × Int × (Nat × Nat)):j_z86_0 n (m + 1) (Sum.inr (Sum.inr (Sum.inr (Sum.inr (Sum.inr (Sum.inr st)))))) = j_z86_0_B0 n (j_z86_0 n m) st := rfl
theorem head_eq (s:ByteArray) (n m:Nat):j_z86_0_B0 n (j_z86_0 n m) (s,[],(0:Int),0,(⟨#[]⟩:ByteArray),0,(0,0)) = j_z86_0 n (m + 1) (btw s [] 0 0 (⟨#[]⟩:ByteArray) 0 (0,0)) := by
 have e:btw s [] 0 0 (⟨#[]⟩:ByteArray) 0 (0,0) = Sum.inr (Sum.inr (Sum.inr (Sum.inr (Sum.inr (Sum.inr (s,[],(0:Int),0,(⟨#[]⟩:ByteArray),0,(0,0))))))) := rfl
 rw [e,lab0_eq]
def toksL (s:ByteArray):List T × (Nat × Nat) × Int :=
 if 6000 < (L s).length then ([],P s 6000,2) else outL s (lexR (L s) 0 [])
theorem tokens_long {s:ByteArray} {n:Nat} (hs:(L s).length <= 281474976710656) (h:6000 < (L s).length):m_z86 n s = some ([],P s 6000,2) := by
 unfold m_z86
 rw [decide_eq_true (show ((ByteArray.size s:Nat):Int) > 6000 by rw [size_L]; omega)]
 have := of_P n s 6000 hs (by omega)
 have e:((6000:Nat):Int) = 6000 := by omega
 rw [e] at this
 simp only [cond_true,this,bS]
theorem tokens_short {s:ByteArray} {n:Nat} (hn:20000 < n) (h:(L s).length <= 6000):m_z86 n s = some (outL s (lexR (L s) 0 [])) := by
 have hl := prog_loop (s := s) (n := n) h (by omega) (L s).length 0 [] (n + 1) (by omega) (by omega) (by simp) (by omega) 0 (⟨#[]⟩:ByteArray) 0 (0,0)
 rw [List.drop_zero] at hl
 rw [<- hl,inline_eq s n (decide_eq_false (show ¬ ((ByteArray.size s:Nat):Int) > 6000 by rw [size_L]; omega)),head_eq]
theorem tokens_eq {s:ByteArray} {n:Nat} (hs:(L s).length <= 281474976710656) (hn:20000 < n):m_z86 n s = some (toksL s) := by
 unfold toksL
 by_cases h:6000 < (L s).length
 ·rw [if_pos h]; exact tokens_long hs h
 ·rw [if_neg h]; exact tokens_short hn (by omega)
theorem spot_loop6 (n:Nat) (s:ByteArray) (hs:(L s).length <= 281474976710656) (q:Nat) (hq:q <= (L s).length):∀ (m i:Nat),i <= q -> q < i + m →
  l_z69_5 n m (s,(q:Int),(pos ((L s).take i)).1,(pos ((L s).take i)).2,(i:Int)) = some ((pos ((L s).take q)).1,(pos ((L s).take q)).2)
 | 0,i,h1,h2=>by omega
 | m + 1,i,h1,h2=>by
  rw [l_z69_5]
  unfold l_z69_5_B
  simp only
  by_cases h:i < q
  ·rw [decide_eq_true (show (i:Int) < (q:Int) by omega)]
   have hlt:i < (L s).length := by omega
   have bb := bounds_pos ((L s).take i)
   rw [List.length_take] at bb
   have ht:(L s).take (i + 1) = (L s).take i++[(L s)[i]] := by
    rw [List.take_add_one,List.getElem?_eq_getElem hlt]; rfl
   have hp:pos ((L s).take (i + 1)) = step (pos ((L s).take i)) ((L s)[i]) := by rw [ht,pos_append]; rfl
   have ih := spot_loop6 n s hs q hq m (i + 1) (by omega) (by omega)
   rw [hp] at ih
   simp only [cond_true,bidx_at hlt,bS,beq_byte (L s)[i] 10 10 rfl]
   rw [wrap_up (show i <= 281474976710656 by omega)]
   by_cases h10:(L s)[i] = 10
   ·rw [beq_iff_eq.2 h10]
    simp only [cond_true]
    rw [wrap_id (by omega) (by omega)]
    rw [show step (pos ((L s).take i)) ((L s)[i]) = ((pos ((L s).take i)).1 + 1,1) by unfold step; rw [if_pos h10]] at ih
    exact ih
   ·rw [beq_eq_false_iff_ne.2 h10]
    simp only [cond_false]
    rw [wrap_id (show -9223372036854775808 <= (pos ((L s).take i)).2 + 1 by omega) (by omega)]
    rw [show step (pos ((L s).take i)) ((L s)[i]) = ((pos ((L s).take i)).1,(pos ((L s).take i)).2 + 1) by unfold step; rw [if_neg h10]] at ih
    exact ih
  ·rw [decide_eq_false (show ¬ (i:Int) < (q:Int) by omega)]
   have:i = q := by omega
   subst this
   rfl
theorem place_eq {n:Nat} {s:ByteArray} {q:Nat} (hs:(L s).length <= 281474976710656) (hq:q <= (L s).length) (hn:q < n):m_z56 n s (q:Int) = some (P s q) := by
 unfold m_z56 m_z69 m_z43
 have h1:(if ((q:Nat):Int) < ((ByteArray.size s:Nat):Int) then ((q:Nat):Int) else ((ByteArray.size s:Nat):Int)) = (q:Int) := by
  rw [size_L]
  by_cases h:q < (L s).length
  ·rw [if_pos (by omega)]
  ·rw [if_neg (by omega)]; omega
 have h2:(if (0:Int) < ((q:Nat):Int) then ((q:Nat):Int) else 0) = (q:Int) := by
  by_cases h:0 < q
  ·rw [if_pos (by omega)]
  ·rw [if_neg (by omega)]; omega
 rw [h1,h2]
 have hl := spot_loop6 n s hs q hq n 0 (by omega) (by omega)
 rw [List.take_zero] at hl
 have e:pos [] = (1,1) := rfl
 rw [e] at hl
 simp only [bS]
 rw [show ((0:Int)) = ((0:Nat):Int) from rfl,hl]
 rfl
theorem P_small {s:ByteArray} (hs:(L s).length <= 281474976710656) (q:Nat):(pos ((L s).take q)).1.natAbs < 2 ^ 53 /\ (pos ((L s).take q)).2.natAbs < 2 ^ 53 := by
 have hb := bounds_pos ((L s).take q)
 rw [List.length_take] at hb
 have e:(2:Nat) ^ 53 = 9007199254740992 := rfl
 omega
theorem eqF {a b:Int} (ha:a.natAbs < 2 ^ 53) (hb:b.natAbs < 2 ^ 53):(Ieee.Format.order (FloatKind.format .f64) (F a) (F b) == some .eq) = decide (a = b) := by
 rw [order_F a b ha hb]
 by_cases h:a = b
 ·subst h; simp
 ·have:compare a b ≠ .eq := fun hh=>h (Int.compare_eq_eq.1 hh)
  simp [h,this]
theorem P_refl {s:ByteArray} (hs:(L s).length <= 281474976710656) (q:Nat):cplxEq .f64 (P s q).1 (P s q).2 (P s q).1 (P s q).2 = true := by
 obtain ⟨h1,h2⟩ := P_small hs q
 unfold cplxEq P
 simp only
 rw [eqF h1 h1,eqF h2 h2]
 simp
theorem zero_refl:cplxEq .f64 0 0 0 0 = true := by decide +kernel
def int1 (x:Int):T := .sc (.int .i64 x)
theorem idx_ints {v:List Int} {i:Nat} (h:i < v.length):idx true [.int .i64] (ints .i64 v) (i:Int) = some (int1 v[i]) := by
 have h0:decide ((0:Int) <= (i:Int)) = true := by simp
 simp only [idx,cond_true,h0,Int.toNat_natCast,ints,List.getElem?_map,List.getElem?_eq_getElem h,Option.map_some]
 rfl
theorem maxI:(IntKind.i64.max:Int) = 9223372036854775807 := rfl
def kws:List ByteArray := [(⟨#[118,97,114]⟩:ByteArray),(⟨#[119,105,100,101]⟩:ByteArray),(⟨#[97,116,111,109,105,99]⟩:ByteArray),(⟨#[108,111,99,97,108]⟩:ByteArray),(⟨#[109,117,116,101,120]⟩:ByteArray),(⟨#[99,104,97,110]⟩:ByteArray),(⟨#[103,111]⟩:ByteArray),(⟨#[108,111,99,107]⟩:ByteArray),(⟨#[117,110,108,111,99,107]⟩:ByteArray),(⟨#[115,101,110,100]⟩:ByteArray),(⟨#[114,101,99,118]⟩:ByteArray),(⟨#[112,114,105,110,116]⟩:ByteArray),(⟨#[105,102]⟩:ByteArray),(⟨#[101,108,115,101]⟩:ByteArray),(⟨#[114,101,112,101,97,116]⟩:ByteArray),(⟨#[103,111,116,111]⟩:ByteArray),(⟨#[108,97,98,101,108]⟩:ByteArray)]
def str1 (s:ByteArray):T := .sc (.string s)
def kw (a:ByteArray):Bool := kws.any fun k=>L a == L k
theorem idx_str {v:List ByteArray} {i:Nat} (h:i < v.length):idx true [.str] (v.map str1) (i:Int) = some (str1 v[i]) := by
 have h0:decide ((0:Int) <= (i:Int)) = true := by simp
 simp only [idx,cond_true,h0,Int.toNat_natCast,List.getElem?_map,List.getElem?_eq_getElem h,Option.map_some]
 rfl
theorem idx1_str {v:List ByteArray} {i:Nat} (h:i < v.length):idx1 true .str (v.map str1) (i:Int) = some (str1 v[i]) := by
 have h0:decide ((0:Int) <= (i:Int)) = true := by simp
 simp only [idx1,cond_true,h0,Int.toNat_natCast,List.getElem?_map,List.getElem?_eq_getElem h,Option.map_some]
 rfl
theorem index_loop (n:Nat) (ks:List ByteArray) (a:ByteArray) (hk:ks.length <= 1000):∀ (m i:Nat),i <= ks.length -> ks.length - i < m →
  ∃ r,l_z6_2 n m (ks.map str1,a,(ks.length:Int),(i:Int)) = some r ∧
   (if (ks.drop i).any (fun k=>L a == L k) = true then ∃ j:Nat,r = .inl (j:Int) else r = .inr ())
 | 0,i,_,hm=>by omega
 | m + 1,i,hi,hm=>by
  rw [l_z6_2]
  unfold l_z6_2_B
  simp only
  by_cases hlt:i < ks.length
  ·rw [decide_eq_true (show (i:Int) < (ks.length:Int) by omega)]
   simp only [cond_true,idx_str hlt,bS,bytes_eq]
   rw [List.drop_eq_getElem_cons hlt,List.any_cons]
   have e:((str1 ks[i]).cell 0).str = ks[i] := rfl
   rw [e]
   cases hq:(L a == L ks[i]) with
   | true =>
    simp only [cond_true,Bool.true_or,if_true]
    exact ⟨_,rfl,i,rfl⟩
   | false =>
    simp only [cond_false,Bool.false_or]
    rw [wrap_up (show i <= 281474976710656 by omega)]
    exact index_loop n ks a hk m (i + 1) (by omega) (by omega)
  ·rw [decide_eq_false (show ¬ (i:Int) < (ks.length:Int) by omega),List.drop_eq_nil_of_le (by omega)]
   exact ⟨_,rfl,rfl⟩
theorem keywordL (n:Nat) (hn:100 < n) (a:ByteArray):m_z84 n a = some (kw a) := by
 have e:m_z84 n a = Option.bind (m_z4 n (kws.map str1) a) fun r0=>some r0 := rfl
 rw [e]
 unfold m_z4 m_z6
 obtain ⟨r,h1,h2⟩ := index_loop n kws a (by decide) n 0 (by omega) (by show 17 - 0 < n; omega)
 rw [List.length_map]
 rw [show ((0:Int)) = ((0:Nat):Int) from rfl,h1]
 rw [List.drop_zero] at h2
 unfold kw
 split at h2
 ·rename_i hk
  obtain ⟨j,rfl⟩ := h2
  rw [hk]
  simp only [bS,Sum.elim_inl]
  rw [decide_eq_true (show (j:Int) ≥ ((0:Nat):Int) by omega)]
 ·rename_i hk
  subst h2
  rw [(Bool.not_eq_true _).mp hk]
  rfl
theorem kwR_loop (n:Nat) (a:ByteArray):∀ (m i:Nat),i <= 17 -> 17 - i < m →
  l_z35_2 n m (a,(⟨#[118,97,114]⟩:ByteArray),(⟨#[119,105,100,101]⟩:ByteArray),(⟨#[97,116,111,109,105,99]⟩:ByteArray),(⟨#[108,111,99,97,108]⟩:ByteArray),(⟨#[109,117,116,101,120]⟩:ByteArray),(⟨#[99,104,97,110]⟩:ByteArray),(⟨#[103,111]⟩:ByteArray),(⟨#[108,111,99,107]⟩:ByteArray),(⟨#[117,110,108,111,99,107]⟩:ByteArray),(⟨#[115,101,110,100]⟩:ByteArray),(⟨#[114,101,99,118]⟩:ByteArray),(⟨#[112,114,105,110,116]⟩:ByteArray),(⟨#[105,102]⟩:ByteArray),(⟨#[101,108,115,101]⟩:ByteArray),(⟨#[114,101,112,101,97,116]⟩:ByteArray),(⟨#[103,111,116,111]⟩:ByteArray),(⟨#[108,97,98,101,108]⟩:ByteArray),(i:Int)) =
   if (kws.drop i).any (fun k=>L a == L k) = true then some (.inl true) else some (.inr ())
 | 0,i,_,hm=>by omega
 | m + 1,i,hi,hm=>by
  rw [l_z35_2]
  unfold l_z35_2_B
  simp only
  have hlen:kws.length = 17 := rfl
  by_cases hlt:i < 17
  ·rw [decide_eq_true (show (i:Int) < 17 by omega)]
   have hx := idx1_str (v := kws) (i := i) hlt
   have hx':idx1 true .str [(T.sc (.string (⟨#[118,97,114]⟩:ByteArray))),(T.sc (.string (⟨#[119,105,100,101]⟩:ByteArray))),(T.sc (.string (⟨#[97,116,111,109,105,99]⟩:ByteArray))),(T.sc (.string (⟨#[108,111,99,97,108]⟩:ByteArray))),(T.sc (.string (⟨#[109,117,116,101,120]⟩:ByteArray))),(T.sc (.string (⟨#[99,104,97,110]⟩:ByteArray))),(T.sc (.string (⟨#[103,111]⟩:ByteArray))),(T.sc (.string (⟨#[108,111,99,107]⟩:ByteArray))),(T.sc (.string (⟨#[117,110,108,111,99,107]⟩:ByteArray))),(T.sc (.string (⟨#[115,101,110,100]⟩:ByteArray))),(T.sc (.string (⟨#[114,101,99,118]⟩:ByteArray))),(T.sc (.string (⟨#[112,114,105,110,116]⟩:ByteArray))),(T.sc (.string (⟨#[105,102]⟩:ByteArray))),(T.sc (.string (⟨#[101,108,115,101]⟩:ByteArray))),(T.sc (.string (⟨#[114,101,112,101,97,116]⟩:ByteArray))),(T.sc (.string (⟨#[103,111,116,111]⟩:ByteArray))),(T.sc (.string (⟨#[108,97,98,101,108]⟩:ByteArray)))] (i:Int) = some (str1 kws[i]) := hx
   simp only [cond_true,hx',bS,bytes_eq]
   rw [List.drop_eq_getElem_cons (show i < kws.length from hlt),List.any_cons]
   have e:(str1 kws[i]).str = kws[i] := rfl
   rw [e]
   cases hq:(L a == L kws[i]) with
   | true=>simp only [cond_true,Bool.true_or,if_true]
   | false =>
    simp only [cond_false,Bool.false_or]
    rw [wrap_up (show i <= 281474976710656 by omega)]
    exact kwR_loop n a m (i + 1) (by omega) (by omega)
  ·rw [decide_eq_false (show ¬ (i:Int) < 17 by omega),List.drop_eq_nil_of_le (by show 17 <= i; omega)]
   rfl
theorem keywordR (n:Nat) (hn:100 < n) (a:ByteArray):m_z35 n a = some (kw a) := by
 have h := kwR_loop n a n 0 (by omega) (by omega)
 rw [List.drop_zero] at h
 unfold m_z35
 rw [show ((0:Int)) = ((0:Nat):Int) from rfl,h]
 unfold kw
 cases hk:kws.any (fun k=>L a == L k) with
 | true=>rfl
 | false=>rfl
def wordB (l:List UInt8):Bool := match l with
 | []=>false
 | c :: _=>isL c&&l.all isLD&&decide (l.length <= 12)
theorem takeWhile_all {f:UInt8 -> Bool}:∀ {l:List UInt8},(l.takeWhile f).length = l.length ↔ l.all f = true
 | []=>by simp
 | c :: l=>by
  rw [List.all_cons]
  cases h:f c with
  | true=>rw [List.takeWhile_cons_of_pos h]; simp only [lC,Bool.true_and]; rw [<- takeWhile_all (l := l)]; omega
  | false=>rw [List.takeWhile_cons_of_neg (by rw [h]; simp)]; simp
theorem nameL {n:Nat} {a:ByteArray} (hs:(L a).length <= 281474976710656) (hn:(L a).length + 100 < n):m_z85 n a = some (wordB (L a)&&!kw a) := by
 unfold m_z85
 have e0:L (⟨#[]⟩:ByteArray) = [] := rfl
 rw [bytes_eq,e0,word_eq n a hs (by omega)]
 cases hl:L a with
 | nil=>rfl
 | cons c r =>
  have hne:(c :: r == ([]:List UInt8)) = false := rfl
  simp only [hne,Bool.not_false,cond_true,bS,size_L,hl,keywordL n (by omega)]
  have hw:((wordLen (c :: r):Int) == (((c :: r).length:Nat):Int)) = wordB (c :: r) := by
   apply Bool.eq_iff_iff.2
   rw [beq_iff_eq]
   simp only [wordLen,wordB,Bool.and_eq_true,decide_eq_true_eq]
   by_cases h1:isL c = true /\ ((c :: r).takeWhile isLD).length <= 12
   ·rw [if_pos h1]
    constructor
    ·intro h
     have h2:((c :: r).takeWhile isLD).length = (c :: r).length := by omega
     exact ⟨⟨h1.1,takeWhile_all.1 h2⟩,by omega⟩
    ·rintro ⟨⟨_,h2⟩,_⟩
     rw [takeWhile_all.2 h2]
   ·rw [if_neg h1]
    constructor
    ·intro h; simp only [lC] at h; omega
    ·rintro ⟨⟨h2,h3⟩,h4⟩
     exact absurd ⟨h2,by rw [takeWhile_all.2 h3]; exact h4⟩ h1
  rw [hw]
  cases wordB (c :: r) <;> rfl
theorem lexR_pos:∀ (k:Nat) (r:List UInt8) (p:Nat) (acc l:List Tok),r.length <= k -> (∀ t ∈ acc,t.pos <= p + r.length) -> lexR r p acc = .ok l -> ∀ t ∈ l,t.pos <= p + r.length := by
 intro k
 induction k with
 | zero =>
  intro r p acc l hr ha h
  have:r = [] := List.length_eq_zero_iff.1 (by omega)
  subst this
  rw [lexR_nil] at h; cases h; exact ha
 | succ k ih =>
  intro r p acc l hr ha h
  cases r with
  | nil=>rw [lexR_nil] at h; cases h; exact ha
  | cons c r =>
   simp only [lC] at hr ha ⊢
   cases hb:blank c with
   | true =>
    rw [lexR_blank hb] at h
    intro t ht
    have := ih r _ acc l (by omega) (fun t ht=>by have := ha t ht; omega) h t ht
    omega
   | false =>
    by_cases h35:c = 35
    ·subst h35
     rw [lexR_note] at h
     have h1 := congrArg List.length (List.takeWhile_append_dropWhile (p := (· != 10)) (l := r))
     rw [lA] at h1
     intro t ht
     have := ih _ _ acc l (by omega) (fun t ht=>by have := ha t ht; omega) h t ht
     omega
    ·cases ht:tokAt (c :: r) p with
     | none=>rw [lexR_bad hb h35 ht] at h; cases h
     | some t =>
      rw [lexR_tok hb h35 ht] at h
      obtain ⟨g1,g2,g3,g4⟩ := tokAt_pos ht
      simp only [lC] at g3
      intro u hu
      have := ih _ _ (acc++[t]) l (by rw [List.length_drop]; omega) (fun t' ht'=>by
       rw [List.length_drop]
       simp only [List.mem_append,List.mem_singleton] at ht'
       rcases ht' with h' | rfl
       ·have := ha t' h'; omega
       ·omega) h u hu
      rw [List.length_drop] at this
      omega
end Go.Proofs.YtbcgpjlkkcdmmaaGreatDoor.W

namespace Go.Proofs.YtbcgpjlkkcdmmaaGreatDoor.W
open Go Go.Eng
set_option linter.unusedVariables false
set_option linter.unusedSimpArgs false
inductive E where
 | num (n:Nat)
 | name (w:List UInt8)
 | neg (e:E)
 | bin (k:Int) (a b:E)
 deriving DecidableEq
inductive RE where
 | ok (e:E) (r:List Tok)
 | bad (r:List Tok)
abbrev Bk := Int × List UInt8 × Nat
def Tok.bare (t:Tok):Bk := (t.kind,t.text,t.num)
def opAt (t:Bk) (l:Nat):Option Int :=
 if t.1 = 3 then (match l with
  | 0=>if t.2.1 = [60] then some 9 else if t.2.1 = [61,61] then some 10 else none
  | 1=>if t.2.1 = [43] then some 4 else if t.2.1 = [45] then some 5 else none
  | 2=>if t.2.1 = [42] then some 6 else if t.2.1 = [47] then some 7 else if t.2.1 = [37] then some 8 else none
  | _=>none) else none
def isSign (c:UInt8) (t:Bk):Bool := t.1 == 3&&t.2.1 == [c]
def isNm (kw:List UInt8 -> Bool) (t:Bk):Bool := t.1 == 1&&!kw t.2.1
section
variable (kw:List UInt8 -> Bool)
mutual
def lv (l d:Nat) (ts:List Tok):RE :=
 if h:l < 3 then (match lv (l + 1) d ts with
  | .bad r=>.bad r
  | .ok e r=>if r.length <= ts.length then lp l d e r else .bad r)
 else fac d ts
termination_by 16 * ts.length + (8 - 2 * l) + 2
decreasing_by all_goals omega
def lp (l d:Nat) (e:E) (ts:List Tok):RE :=
 match ts with
 | []=>.ok e []
 | t :: r =>
  match opAt t.bare l with
  | none=>.ok e (t :: r)
  | some k=>(match lv (l + 1) d r with
   | .bad r=>.bad r
   | .ok b r'=>if l = 0 then .ok (.bin k e b) r' else if r'.length <= r.length then lp l d (.bin k e b) r' else .bad r')
termination_by 16 * ts.length
decreasing_by all_goals (simp only [lC]; omega)
def fac (d:Nat) (ts:List Tok):RE :=
 match ts with
 | []=>.bad []
 | t :: r =>
  if t.kind = 2 then .ok (.num t.num) r
  else if isNm kw t.bare then .ok (.name t.text) r
  else if isSign 45 t.bare&&decide (d < 8) then (match fac (d + 1) r with
   | .bad r=>.bad r
   | .ok e r'=>.ok (.neg e) r')
  else if isSign 40 t.bare&&decide (d < 8) then (match lv 0 (d + 1) r with
   | .bad r=>.bad r
   | .ok e []=>.bad []
   | .ok e (t' :: r')=>if isSign 41 t'.bare then .ok e r' else .bad (t' :: r'))
  else .bad (t :: r)
termination_by 16 * ts.length + 1
decreasing_by all_goals (simp only [lC]; omega)
end
theorem lv_lt {l d:Nat} {ts:List Tok} (h:l < 3):lv kw l d ts = (match lv kw (l + 1) d ts with
  | .bad r=>.bad r
  | .ok e r=>if r.length <= ts.length then lp kw l d e r else .bad r) := by rw [lv,dif_pos h]
theorem lv_fac {d:Nat} {ts:List Tok}:lv kw 3 d ts = fac kw d ts := by rw [lv,dif_neg (by omega)]
theorem le_all:∀ (m:Nat),
  (∀ l d ts,l <= 3 -> 16 * ts.length + (10 - 2 * l) <= m -> (∀ e r,lv kw l d ts = .ok e r -> r.length < ts.length) /\ (∀ r,lv kw l d ts = .bad r -> r.length <= ts.length)) ∧
  (∀ l d e ts,l < 3 -> 16 * ts.length <= m -> (∀ e' r,lp kw l d e ts = .ok e' r -> r.length <= ts.length) /\ (∀ r,lp kw l d e ts = .bad r -> r.length <= ts.length)) ∧
  (∀ d ts,16 * ts.length + 1 <= m -> (∀ e r,fac kw d ts = .ok e r -> r.length < ts.length) /\ (∀ r,fac kw d ts = .bad r -> r.length <= ts.length)) := by
 intro m
 induction m using Nat.strongRecOn with
 | _ m ih =>
 refine ⟨?_,?_,?_⟩
 ·intro l d ts hl hm
  by_cases h3:l < 3
  ·rw [lv_lt kw h3]
   obtain ⟨i1,i2⟩ := (ih (16 * ts.length + (10 - 2 * (l + 1))) (by omega)).1 (l + 1) d ts (by omega) (Nat.le_refl _)
   cases hc:lv kw (l + 1) d ts with
   | bad r=>exact ⟨fun _ _ h=>by simp at h,fun r' h=>by simp only [RE.bad.injEq] at h; subst h; exact i2 _ hc⟩
   | ok e r =>
    have hr := i1 _ _ hc
    simp only
    rw [if_pos (by omega)]
    obtain ⟨j1,j2⟩ := (ih (16 * r.length) (by omega)).2.1 l d e r h3 (Nat.le_refl _)
    exact ⟨fun e' r' h=>by have := j1 _ _ h; omega,fun r' h=>by have := j2 _ h; omega⟩
  ·obtain rfl:l = 3 := by omega
   rw [lv_fac]
   exact (ih (16 * ts.length + 1) (by omega)).2.2 d ts (Nat.le_refl _)
 ·intro l d e ts hl hm
  cases ts with
  | nil=>rw [lp]; exact ⟨fun _ _ h=>by simp only [RE.ok.injEq] at h; obtain ⟨_,rfl⟩ := h; exact Nat.le_refl _,fun _ h=>by simp at h⟩
  | cons t r =>
   rw [lp]
   simp only [lC] at hm
   cases ho:opAt t.bare l with
   | none=>exact ⟨fun _ _ h=>by simp only [RE.ok.injEq] at h; obtain ⟨_,rfl⟩ := h; exact Nat.le_refl _,fun _ h=>by simp at h⟩
   | some k =>
    simp only
    obtain ⟨i1,i2⟩ := (ih (16 * r.length + (10 - 2 * (l + 1))) (by omega)).1 (l + 1) d r (by omega) (Nat.le_refl _)
    cases hc:lv kw (l + 1) d r with
    | bad r'=>exact ⟨fun _ _ h=>by simp at h,fun r'' h=>by simp only [RE.bad.injEq] at h; subst h; have := i2 _ hc; simp only [lC]; omega⟩
    | ok b r' =>
     have hr := i1 _ _ hc
     simp only
     split
     ·exact ⟨fun _ _ h=>by simp only [RE.ok.injEq] at h; obtain ⟨_,rfl⟩ := h; simp only [lC]; omega,fun _ h=>by simp at h⟩
     ·rw [if_pos (by omega)]
      obtain ⟨j1,j2⟩ := (ih (16 * r'.length) (by omega)).2.1 l d (.bin k e b) r' hl (Nat.le_refl _)
      exact ⟨fun e' r'' h=>by have := j1 _ _ h; simp only [lC]; omega,fun r'' h=>by have := j2 _ h; simp only [lC]; omega⟩
 ·intro d ts hm
  cases ts with
  | nil=>rw [fac]; exact ⟨fun _ _ h=>by simp at h,fun _ h=>by simp only [RE.bad.injEq] at h; subst h; exact Nat.le_refl _⟩
  | cons t r =>
   simp only [lC] at hm
   rw [fac]
   split
   ·exact ⟨fun _ _ h=>by simp only [RE.ok.injEq] at h; obtain ⟨_,rfl⟩ := h; simp,fun _ h=>by simp at h⟩
   split
   ·exact ⟨fun _ _ h=>by simp only [RE.ok.injEq] at h; obtain ⟨_,rfl⟩ := h; simp,fun _ h=>by simp at h⟩
   split
   ·obtain ⟨i1,i2⟩ := (ih (16 * r.length + 1) (by omega)).2.2 (d + 1) r (Nat.le_refl _)
    cases hc:fac kw (d + 1) r with
    | bad r'=>exact ⟨fun _ _ h=>by simp at h,fun r'' h=>by simp only [RE.bad.injEq] at h; subst h; have := i2 _ hc; simp only [lC]; omega⟩
    | ok e r'=>exact ⟨fun _ _ h=>by simp only [RE.ok.injEq] at h; obtain ⟨_,rfl⟩ := h; have := i1 _ _ hc; simp only [lC]; omega,fun _ h=>by simp at h⟩
   split
   ·obtain ⟨i1,i2⟩ := (ih (16 * r.length + 10) (by omega)).1 0 (d + 1) r (by omega) (by omega)
    cases hc:lv kw 0 (d + 1) r with
    | bad r'=>exact ⟨fun _ _ h=>by simp at h,fun r'' h=>by simp only [RE.bad.injEq] at h; subst h; have := i2 _ hc; simp only [lC]; omega⟩
    | ok e r' =>
     have hr := i1 _ _ hc
     cases r' with
     | nil=>exact ⟨fun _ _ h=>by simp at h,fun _ h=>by simp only [RE.bad.injEq] at h; subst h; simp⟩
     | cons t' r' =>
      simp only [lC] at hr
      simp only
      split
      ·exact ⟨fun _ _ h=>by simp only [RE.ok.injEq] at h; obtain ⟨_,rfl⟩ := h; simp only [lC]; omega,fun _ h=>by simp at h⟩
      ·exact ⟨fun _ _ h=>by simp at h,fun _ h=>by simp only [RE.bad.injEq] at h; subst h; simp only [lC]; omega⟩
   ·exact ⟨fun _ _ h=>by simp at h,fun _ h=>by simp only [RE.bad.injEq] at h; subst h; exact Nat.le_refl _⟩
theorem lv_shorter {l d:Nat} {ts:List Tok} (hl:l <= 3) {e:E} {r:List Tok} (h:lv kw l d ts = .ok e r):r.length < ts.length := ((le_all kw _).1 l d ts hl (Nat.le_refl _)).1 e r h
theorem lv_bad_le {l d:Nat} {ts:List Tok} (hl:l <= 3) {r:List Tok} (h:lv kw l d ts = .bad r):r.length <= ts.length := ((le_all kw _).1 l d ts hl (Nat.le_refl _)).2 r h
theorem lv_step {l d:Nat} {ts:List Tok} (h:l < 3) {e:E} {r:List Tok} (h1:lv kw (l + 1) d ts = .ok e r):lv kw l d ts = lp kw l d e r := by
 rw [lv_lt kw h,h1]
 simp only
 rw [if_pos (Nat.le_of_lt (lv_shorter kw (by omega) h1))]
theorem lv_step_bad {l d:Nat} {ts:List Tok} (h:l < 3) {r:List Tok} (h1:lv kw (l + 1) d ts = .bad r):lv kw l d ts = .bad r := by
 rw [lv_lt kw h,h1]
theorem lp_stop {l d:Nat} {e:E} {t:Tok} {r:List Tok} (h:opAt t.bare l = none):lp kw l d e (t :: r) = .ok e (t :: r) := by rw [lp,h]
theorem lp_nil {l d:Nat} {e:E}:lp kw l d e [] = .ok e [] := by rw [lp]
theorem lp_step {l d:Nat} {e b:E} {t:Tok} {r r':List Tok} {k:Int} (h0:l ≠ 0) (hl:l < 3) (h:opAt t.bare l = some k) (h1:lv kw (l + 1) d r = .ok b r'):lp kw l d e (t :: r) = lp kw l d (.bin k e b) r' := by
 rw [lp,h]
 simp only [h1]
 rw [if_neg h0,if_pos (Nat.le_of_lt (lv_shorter kw (by omega) h1))]
theorem lp_step0 {d:Nat} {e b:E} {t:Tok} {r r':List Tok} {k:Int} (h:opAt t.bare 0 = some k) (h1:lv kw 1 d r = .ok b r'):lp kw 0 d e (t :: r) = .ok (.bin k e b) r' := by
 rw [lp,h]
 simp only [Nat.zero_add,h1]
 rw [if_pos trivial]
theorem lp_step_bad {l d:Nat} {e:E} {t:Tok} {r r':List Tok} {k:Int} (h:opAt t.bare l = some k) (h1:lv kw (l + 1) d r = .bad r'):lp kw l d e (t :: r) = .bad r' := by
 rw [lp,h]
 simp only [h1]
inductive G:Nat -> Nat -> E -> List Bk -> Prop
 | num (d n:Nat) (w:List UInt8):G 3 d (.num n) [(2,w,n)]
 | name (d:Nat) (w:List UInt8) (x:Nat):kw w = false -> G 3 d (.name w) [(1,w,x)]
 | neg (d:Nat) (e:E) (us:List Bk) (x:Nat):d < 8 -> G 3 (d + 1) e us -> G 3 d (.neg e) ((3,[45],x) :: us)
 | paren (d:Nat) (e:E) (us:List Bk) (x y:Nat):d < 8 -> G 0 (d + 1) e us -> G 3 d e ((3,[40],x) :: us++[(3,[41],y)])
 | up (l d:Nat) (e:E) (us:List Bk):l < 3 -> G (l + 1) d e us -> G l d e us
 | bin (l d:Nat) (a b:E) (us vs:List Bk) (t:Bk) (k:Int):(l = 1 \/ l = 2) -> G l d a us -> opAt t l = some k -> G (l + 1) d b vs -> G l d (.bin k a b) (us++t :: vs)
 | cmp (d:Nat) (a b:E) (us vs:List Bk) (t:Bk) (k:Int):G 1 d a us -> opAt t 0 = some k -> G 1 d b vs -> G 0 d (.bin k a b) (us++t :: vs)
theorem isSign_bare {c:UInt8} {t:Tok} (h:isSign c t.bare = true):t.bare = (3,[c],t.num) := by
 simp only [isSign,Tok.bare,Bool.and_eq_true,beq_iff_eq] at h
 simp only [Tok.bare,h.1,h.2]
theorem spelt_all:∀ (m:Nat),
  (∀ l d ts,l <= 3 -> 16 * ts.length + (10 - 2 * l) <= m -> ∀ e r,lv kw l d ts = .ok e r -> ∃ t1,ts = t1++r /\ G kw l d e (t1.map Tok.bare)) ∧
  (∀ l d e0 ts,l < 3 -> 16 * ts.length <= m -> ∀ e r us,lp kw l d e0 ts = .ok e r -> (if l = 0 then G kw 1 d e0 us else G kw l d e0 us) -> ∃ t1,ts = t1++r /\ G kw l d e (us++t1.map Tok.bare)) ∧
  (∀ d ts,16 * ts.length + 1 <= m -> ∀ e r,fac kw d ts = .ok e r -> ∃ t1,ts = t1++r /\ G kw 3 d e (t1.map Tok.bare)) := by
 intro m
 induction m using Nat.strongRecOn with
 | _ m ih =>
 refine ⟨?_,?_,?_⟩
 ·intro l d ts hl hm e r h
  by_cases h3:l < 3
  ·have i1 := (ih (16 * ts.length + (10 - 2 * (l + 1))) (by omega)).1 (l + 1) d ts (by omega) (Nat.le_refl _)
   cases hc:lv kw (l + 1) d ts with
   | bad r'=>rw [lv_step_bad kw h3 hc] at h; cases h
   | ok a r' =>
    rw [lv_step kw h3 hc] at h
    obtain ⟨t1,rfl,hg⟩ := i1 a r' hc
    have hlen := lv_shorter kw (by omega) hc
    have i2 := (ih (16 * r'.length) (by omega)).2.1 l d a r' h3 (Nat.le_refl _) e r (t1.map Tok.bare) h (by
     split
     ·rename_i h0; subst h0; exact hg
     ·exact .up l d a _ h3 hg)
    obtain ⟨t2,rfl,hg2⟩ := i2
    exact ⟨t1++t2,by rw [List.append_assoc],by rw [List.map_append]; exact hg2⟩
  ·obtain rfl:l = 3 := by omega
   rw [lv_fac] at h
   exact (ih (16 * ts.length + 1) (by omega)).2.2 d ts (Nat.le_refl _) e r h
 ·intro l d e0 ts hl hm e r us h hg
  have stay:G kw l d e0 us := by
   split at hg
   ·rename_i h0; subst h0; exact .up 0 d e0 us (by omega) hg
   ·exact hg
  cases ts with
  | nil =>
   rw [lp_nil] at h
   simp only [RE.ok.injEq] at h
   obtain ⟨rfl,rfl⟩ := h
   exact ⟨[],rfl,by simpa using stay⟩
  | cons t ts =>
   simp only [lC] at hm
   cases ho:opAt t.bare l with
   | none =>
    rw [lp_stop kw ho] at h
    simp only [RE.ok.injEq] at h
    obtain ⟨rfl,rfl⟩ := h
    exact ⟨[],rfl,by simpa using stay⟩
   | some k =>
    have i1 := (ih (16 * ts.length + (10 - 2 * (l + 1))) (by omega)).1 (l + 1) d ts (by omega) (Nat.le_refl _)
    cases hc:lv kw (l + 1) d ts with
    | bad r'=>rw [lp_step_bad kw ho hc] at h; cases h
    | ok b r' =>
     obtain ⟨t1,rfl,hgb⟩ := i1 b r' hc
     have hlen := lv_shorter kw (by omega) hc
     by_cases h0:l = 0
     ·subst h0
      rw [lp_step0 kw ho hc] at h
      simp only [RE.ok.injEq] at h
      obtain ⟨rfl,rfl⟩ := h
      exact ⟨t :: t1,rfl,.cmp d e0 b us _ t.bare k (by simpa using hg) ho hgb⟩
     ·rw [lp_step kw h0 hl ho hc] at h
      rw [if_neg h0] at hg
      have hnew:G kw l d (.bin k e0 b) (us++t.bare :: t1.map Tok.bare) := .bin l d e0 b us _ t.bare k (by omega) hg ho hgb
      obtain ⟨t2,rfl,hg2⟩ := (ih (16 * r'.length) (by omega)).2.1 l d (.bin k e0 b) r' hl (Nat.le_refl _) e r _ h (by rw [if_neg h0]; exact hnew)
      exact ⟨t :: t1++t2,by simp,by simpa [List.append_assoc] using hg2⟩
 ·intro d ts hm e r h
  cases ts with
  | nil=>rw [fac] at h; cases h
  | cons t ts =>
   simp only [lC] at hm
   rw [fac] at h
   split at h
   ·rename_i hk
    simp only [RE.ok.injEq] at h
    obtain ⟨rfl,rfl⟩ := h
    exact ⟨[t],rfl,by simpa [Tok.bare,hk] using G.num d t.num t.text⟩
   split at h
   ·rename_i hk
    simp only [RE.ok.injEq] at h
    obtain ⟨rfl,rfl⟩ := h
    simp only [isNm,Tok.bare,Bool.and_eq_true,beq_iff_eq,Bool.not_eq_true'] at hk
    exact ⟨[t],rfl,by simpa [Tok.bare,hk.1] using G.name d t.text t.num hk.2⟩
   split at h
   ·rename_i hk
    simp only [Bool.and_eq_true,decide_eq_true_eq] at hk
    cases hc:fac kw (d + 1) ts with
    | bad r'=>rw [hc] at h; cases h
    | ok a r' =>
     rw [hc] at h
     simp only [RE.ok.injEq] at h
     obtain ⟨rfl,rfl⟩ := h
     obtain ⟨t1,rfl,hg⟩ := (ih (16 * ts.length + 1) (by omega)).2.2 (d + 1) ts (Nat.le_refl _) a r' hc
     exact ⟨t :: t1,rfl,by rw [List.map_cons,isSign_bare hk.1]; exact .neg d a _ _ hk.2 hg⟩
   split at h
   ·rename_i hk
    simp only [Bool.and_eq_true,decide_eq_true_eq] at hk
    cases hc:lv kw 0 (d + 1) ts with
    | bad r'=>rw [hc] at h; cases h
    | ok a r' =>
     rw [hc] at h
     cases r' with
     | nil=>cases h
     | cons t' r' =>
      simp only at h
      split at h
      ·rename_i hr
       simp only [RE.ok.injEq] at h
       obtain ⟨rfl,rfl⟩ := h
       obtain ⟨t1,rfl,hg⟩ := (ih (16 * ts.length + 10) (by omega)).1 0 (d + 1) ts (by omega) (by omega) a _ hc
       refine ⟨t :: t1++[t'],by simp,?_⟩
       rw [List.map_append,List.map_cons,isSign_bare hk.1,List.map_singleton,isSign_bare hr]
       exact .paren d a _ _ _ hk.2 hg
      ·cases h
   ·cases h
theorem spelt {l d:Nat} {ts:List Tok} (hl:l <= 3) {e:E} {r:List Tok} (h:lv kw l d ts = .ok e r):∃ t1,ts = t1++r /\ G kw l d e (t1.map Tok.bare) :=
 (spelt_all kw _).1 l d ts hl (Nat.le_refl _) e r h
def lvl (k:Int):Nat := if k = 9 \/ k = 10 then 0 else if k = 4 \/ k = 5 then 1 else 2
def sgn (k:Int):List UInt8 := if k = 9 then [60] else if k = 10 then [61,61] else if k = 4 then [43] else if k = 5 then [45] else if k = 6 then [42] else if k = 7 then [47] else [37]
def isOp (k:Int):Bool := decide (4 <= k)&&decide (k <= 10)
def left (k:Int):Nat := if lvl k = 0 then 1 else lvl k
theorem opAt_lvl {t:Bk} {l:Nat} {k:Int} (h:opAt t l = some k):lvl k = l /\ isOp k = true /\ t.1 = 3 /\ t.2.1 = sgn k := by
 unfold opAt at h
 split at h
 ·rename_i h3
  split at h
  ·split at h
   ·rename_i hs; cases h; exact ⟨rfl,rfl,h3,hs⟩
   ·split at h
    ·rename_i hs; cases h; exact ⟨rfl,rfl,h3,hs⟩
    ·cases h
  ·split at h
   ·rename_i hs; cases h; exact ⟨rfl,rfl,h3,hs⟩
   ·split at h
    ·rename_i hs; cases h; exact ⟨rfl,rfl,h3,hs⟩
    ·cases h
  ·split at h
   ·rename_i hs; cases h; exact ⟨rfl,rfl,h3,hs⟩
   ·split at h
    ·rename_i hs; cases h; exact ⟨rfl,rfl,h3,hs⟩
    ·split at h
     ·rename_i hs; cases h; exact ⟨rfl,rfl,h3,hs⟩
     ·cases h
  ·cases h
 ·cases h
theorem op_cases {k:Int} (h:isOp k = true):k = 4 \/ k = 5 \/ k = 6 \/ k = 7 \/ k = 8 \/ k = 9 \/ k = 10 := by
 simp only [isOp,Bool.and_eq_true,decide_eq_true_eq] at h
 omega
theorem lvl_le (k:Int):lvl k <= 2 := by unfold lvl; split; omega; split <;> omega
theorem left_le (k:Int):1 <= left k /\ left k <= 2 /\ (lvl k = 0 -> left k = 1) /\ (lvl k ≠ 0 -> left k = lvl k) := by
 have := lvl_le k
 unfold left
 split <;> refine ⟨?_,?_,?_,?_⟩ <;> omega
def pr:E -> Nat -> List Bk
 | .num n,_=>[(2,Lib.decDigits n,n)]
 | .name w,_=>[(1,w,0)]
 | .neg e,_=>(3,[45],0) :: pr e 3
 | .bin k a b,l =>
  if lvl k < l then (3,[40],0) :: (pr a (left k)++(3,sgn k,0) :: pr b (lvl k + 1))++[(3,[41],0)]
  else pr a (left k)++(3,sgn k,0) :: pr b (lvl k + 1)
def fitsE:E -> Nat -> Nat -> Prop
 | .num _,_,_=>True
 | .name w,_,_=>kw w = false
 | .neg e,_,d=>d < 8 /\ fitsE e 3 (d + 1)
 | .bin k a b,l,d=>isOp k = true /\ (if lvl k < l then d < 8 /\ fitsE a (left k) (d + 1) /\ fitsE b (lvl k + 1) (d + 1) else fitsE a (left k) d /\ fitsE b (lvl k + 1) d)
theorem fitsE.less:∀ {e:E} {l d:Nat},fitsE kw e l (d + 1) -> fitsE kw e l d
 | .num _,_,_,_=>trivial
 | .name w,_,_,h=>h
 | .neg e,_,d,h=>⟨by have := h.1; omega,fitsE.less h.2⟩
 | .bin k a b,l,d,h=>by
  obtain ⟨h1,h2⟩ := h
  refine ⟨h1,?_⟩
  split at h2
  ·rename_i hk; rw [if_pos hk]; exact ⟨by omega,fitsE.less h2.2.1,fitsE.less h2.2.2⟩
  ·rename_i hk; rw [if_neg hk]; exact ⟨fitsE.less h2.1,fitsE.less h2.2⟩
theorem G_fits {l d:Nat} {e:E} {us:List Bk} (h:G kw l d e us):fitsE kw e l d := by
 induction h with
 | num=>trivial
 | name d w x hk=>exact hk
 | neg d e us x hd _ ih=>exact ⟨hd,ih⟩
 | paren d e us x y hd _ ih =>
  cases e with
  | num=>trivial
  | name=>exact ih
  | neg e=>exact ⟨hd,fitsE.less kw ih.2⟩
  | bin k a b =>
   have hl := lvl_le k
   obtain ⟨h1,h2⟩ := ih
   rw [if_neg (by omega)] at h2
   exact ⟨h1,by rw [if_pos (by omega)]; exact ⟨hd,h2⟩⟩
 | up l d e us hl _ ih =>
  cases e with
  | num=>trivial
  | name=>exact ih
  | neg e=>exact ih
  | bin k a b =>
   obtain ⟨h1,h2⟩ := ih
   refine ⟨h1,?_⟩
   by_cases hk:lvl k < l
   ·rw [if_pos (by omega)] at h2; rw [if_pos hk]; exact h2
   ·rw [if_neg hk]
    by_cases hk2:lvl k < l + 1
    ·rw [if_pos hk2] at h2; exact ⟨fitsE.less kw h2.2.1,fitsE.less kw h2.2.2⟩
    ·rw [if_neg hk2] at h2; exact h2
 | bin l d a b us vs t k hl _ ho _ iha ihb =>
  obtain ⟨h1,h2,h3,h4⟩ := opAt_lvl ho
  have hL := left_le k
  refine ⟨h2,?_⟩
  rw [if_neg (by omega),hL.2.2.2 (by omega),h1]
  exact ⟨iha,ihb⟩
 | cmp d a b us vs t k _ ho _ iha ihb =>
  obtain ⟨h1,h2,h3,h4⟩ := opAt_lvl ho
  have hL := left_le k
  refine ⟨h2,?_⟩
  rw [if_neg (by omega),hL.2.2.1 h1,h1]
  exact ⟨iha,ihb⟩
def wid (us:List Bk):Nat := (us.map fun t=>t.2.1.length).sum
def spaces:E -> Nat
 | .num _=>0
 | .name _=>0
 | .neg e=>spaces e
 | .bin _ a b=>spaces a + 2 + spaces b
theorem wid_append (us vs:List Bk):wid (us++vs) = wid us + wid vs := by simp [wid]
theorem wid_cons (t:Bk) (vs:List Bk):wid (t :: vs) = t.2.1.length + wid vs := by simp [wid]
def numsOk (us:List Bk):Prop := ∀ t ∈ us,t.1 = 2 -> t.2.1 = Lib.decDigits t.2.2
theorem pr_short {l d:Nat} {e:E} {us:List Bk} (h:G kw l d e us) (hn:numsOk us):wid (pr e l) + spaces e + 1 <= wid us + us.length := by
 induction h with
 | num d n w =>
  have := hn (2,w,n) (by simp) rfl
  simp only at this
  subst this
  simp [pr,spaces,wid]
 | name d w x=>simp [pr,spaces,wid]
 | neg d e us x hd _ ih =>
  have := ih (fun t ht=>hn t (by simp [ht]))
  simp only [pr,spaces,wid_cons,lC,lN]
  omega
 | paren d e us x y hd _ ih =>
  have i := ih (fun t ht=>hn t (by simp [ht]))
  simp only [List.cons_append,wid_cons,wid_append,lC,lA,lN]
  cases e with
  | num n=>simp only [pr] at i ⊢; omega
  | name w=>simp only [pr] at i ⊢; omega
  | neg e=>simp only [pr] at i ⊢; omega
  | bin k a b =>
   have hl := lvl_le k
   rw [pr,if_neg (by omega)] at i
   rw [pr,if_pos (by omega)]
   simp only [List.cons_append,wid_cons,wid_append,lC,lN] at i ⊢
   simp only [wid,List.map_nil,List.sum_nil] at i ⊢
   omega
 | up l d e us hl _ ih =>
  have i := ih hn
  cases e with
  | num n=>exact i
  | name w=>exact i
  | neg e=>exact i
  | bin k a b =>
   by_cases hk:lvl k < l
   ·rw [pr,if_pos (by omega)] at i; rw [pr,if_pos hk]; exact i
   ·rw [pr,if_neg hk]
    by_cases hk2:lvl k < l + 1
    ·rw [pr,if_pos hk2] at i
     simp only [List.cons_append,wid_cons,wid_append,lC,lN] at i ⊢
     omega
    ·rw [pr,if_neg hk2] at i; exact i
 | bin l d a b us vs t k hl _ ho _ iha ihb =>
  obtain ⟨h1,h2,h3,h4⟩ := opAt_lvl ho
  have hL := left_le k
  have ia := iha (fun t ht=>hn t (by simp [ht]))
  have ib := ihb (fun t ht=>hn t (by simp [ht]))
  rw [pr,if_neg (by omega),hL.2.2.2 (by omega),h1]
  simp only [wid_append,wid_cons,lA,lC,spaces,h4]
  omega
 | cmp d a b us vs t k _ ho _ iha ihb =>
  obtain ⟨h1,h2,h3,h4⟩ := opAt_lvl ho
  have hL := left_le k
  have ia := iha (fun t ht=>hn t (by simp [ht]))
  have ib := ihb (fun t ht=>hn t (by simp [ht]))
  rw [pr,if_neg (by omega),hL.2.2.1 h1,h1,Nat.zero_add]
  simp only [wid_append,wid_cons,lA,lC,spaces,h4]
  omega
end
end Go.Proofs.YtbcgpjlkkcdmmaaGreatDoor.W

namespace Go.Proofs.YtbcgpjlkkcdmmaaGreatDoor.W
open Go Go.Eng
set_option linter.unusedVariables false
set_option linter.unusedSimpArgs false
theorem sign_facts:∀ c ∈ signs,W.blank c = false /\ c ≠ 35 /\ isL c = false /\ isD c = false := by decide
def bs:E -> Nat -> List UInt8
 | .num n,_=>Lib.decDigits n
 | .name w,_=>w
 | .neg e,_=>45 :: bs e 3
 | .bin k a b,l =>
  if lvl k < l then 40 :: (bs a (left k)++32 :: (sgn k++32 :: bs b (lvl k + 1))++[41])
  else bs a (left k)++32 :: (sgn k++32 :: bs b (lvl k + 1))
def saneE:E -> Prop
 | .num n=>n < 9223372036854775808
 | .name w=>wordB w = true
 | .neg e=>saneE e
 | .bin k a b=>isOp k = true /\ saneE a /\ saneE b
theorem bs_len:∀ (e:E) (l:Nat),(bs e l).length = wid (pr e l) + spaces e
 | .num n,l=>by simp [bs,pr,spaces,wid]
 | .name w,l=>by simp [bs,pr,spaces,wid]
 | .neg e,l=>by have := bs_len e 3; simp only [bs,pr,spaces,lC,wid_cons,lN]; omega
 | .bin k a b,l=>by
  have h1 := bs_len a (left k)
  have h2 := bs_len b (lvl k + 1)
  rw [bs,pr]
  by_cases hl:lvl k < l
  ·rw [if_pos hl,if_pos hl]
   simp only [lC,lA,List.cons_append,wid_cons,wid_append,spaces,lN]
   simp only [wid,List.map_nil,List.sum_nil] at *
   omega
  ·rw [if_neg hl,if_neg hl]
   simp only [lC,lA,wid_cons,wid_append,spaces]
   omega
def saneT (t:Bk):Prop := (t.1 = 1 -> wordB t.2.1 = true) /\ (t.1 = 2 -> t.2.1 = Lib.decDigits t.2.2 /\ t.2.2 < 9223372036854775808) /\ (t.1 = 1 \/ t.1 = 2 \/ t.1 = 3) /\ (t.1 ≠ 2 -> t.2.2 = 0)
theorem tokAt_sane {r:List UInt8} {p:Nat} {t:Tok} (h:tokAt r p = some t):saneT t.bare := by
 unfold tokAt at h
 cases r with
 | nil=>cases h
 | cons c r' =>
  simp only at h
  split at h
  ·rename_i hl
   split at h
   ·rename_i hlen
    simp only [Option.some.injEq] at h
    subst h
    refine ⟨fun _=>?_,fun h=>by simp [Tok.bare] at h,.inl rfl,fun _=>rfl⟩
    simp only [Tok.bare]
    have hall:((c :: r').takeWhile isLD).all isLD = true := List.all_takeWhile
    rw [List.takeWhile_cons_of_pos (isLD_L hl)] at hall hlen ⊢
    simp only [wordB,hl,hall,Bool.true_and,decide_eq_true_eq]
    exact hlen
   ·cases h
  ·split at h
   ·rename_i hd
    split at h
    ·rename_i hn
     simp only [Option.some.injEq] at h
     subst h
     simp only [numOk,Bool.and_eq_true,decide_eq_true_eq] at hn
     refine ⟨fun h=>by simp [Tok.bare] at h,fun _=>⟨?_,hn.2⟩,.inr (.inl rfl),fun h=>absurd rfl h⟩
     simp only [Tok.bare]
     refine (dec_val _ ?_ ?_ hn.1).symm
     ·rw [List.takeWhile_cons_of_pos hd]; simp
     ·intro x hx
      exact List.all_eq_true.1 (List.all_takeWhile (l := c :: r') (p := isD)) x hx
    ·cases h
   ·split at h
    ·split at h <;> (simp only [Option.some.injEq] at h; subst h; exact ⟨fun h=>by simp [Tok.bare] at h,fun h=>by simp [Tok.bare] at h,.inr (.inr rfl),fun _=>rfl⟩)
    ·cases h
theorem lexR_sane:∀ (k:Nat) (r:List UInt8) (p:Nat) (acc l:List Tok),r.length <= k -> (∀ t ∈ acc,saneT t.bare) -> lexR r p acc = .ok l -> ∀ t ∈ l,saneT t.bare := by
 intro k
 induction k with
 | zero =>
  intro r p acc l hr ha h
  obtain rfl := List.eq_nil_of_length_eq_zero (Nat.le_zero.1 hr)
  rw [lexR_nil] at h
  simp only [LR.ok.injEq] at h
  subst h
  exact ha
 | succ k ih =>
  intro r p acc l hr ha h
  cases r with
  | nil =>
   rw [lexR_nil] at h
   simp only [LR.ok.injEq] at h
   subst h
   exact ha
  | cons c r =>
   simp only [lC] at hr
   cases hb:W.blank c with
   | true=>rw [lexR_blank hb] at h; exact ih r _ acc l (by omega) ha h
   | false =>
    by_cases h35:c = 35
    ·subst h35
     rw [lexR_note] at h
     exact ih _ _ acc l (by have := dropWhile_le (· != 10) r; omega) ha h
    ·cases ht:tokAt (c :: r) p with
     | none=>rw [lexR_bad hb h35 ht] at h; cases h
     | some t =>
      rw [lexR_tok hb h35 ht] at h
      refine ih _ _ (acc++[t]) l (by simp only [List.length_drop]; omega) ?_ h
      intro x hx
      rcases List.mem_append.1 hx with hx | hx
      ·exact ha x hx
      ·simp only [List.mem_singleton] at hx; subst hx; exact tokAt_sane ht
theorem G_sane {kw:List UInt8 -> Bool} {l d:Nat} {e:E} {us:List Bk} (h:G kw l d e us) (hs:∀ t ∈ us,saneT t):saneE e := by
 induction h with
 | num d n w=>exact ((hs (2,w,n) (by simp)).2.1 rfl).2
 | name d w x _=>exact (hs (1,w,x) (by simp)).1 rfl
 | neg d e us x hd _ ih=>exact ih (fun t ht=>hs t (by simp [ht]))
 | paren d e us x y hd _ ih=>exact ih (fun t ht=>hs t (by simp [ht]))
 | up l d e us hl _ ih=>exact ih hs
 | bin l d a b us vs t k hl _ ho _ iha ihb=>exact ⟨(opAt_lvl ho).2.1,iha (fun t ht=>hs t (by simp [ht])),ihb (fun t ht=>hs t (by simp [ht]))⟩
 | cmp d a b us vs t k _ ho _ iha ihb=>exact ⟨(opAt_lvl ho).2.1,iha (fun t ht=>hs t (by simp [ht])),ihb (fun t ht=>hs t (by simp [ht]))⟩
theorem sane_nums {us:List Bk} (hs:∀ t ∈ us,saneT t):numsOk us := fun t ht h=>((hs t ht).2.1 h).1
end Go.Proofs.YtbcgpjlkkcdmmaaGreatDoor.W

namespace Go.Proofs.YtbcgpjlkkcdmmaaGreatDoor.W
open Go Go.Eng
set_option linter.unusedVariables false
set_option linter.unusedSimpArgs false
inductive St where
 | mk (kind:Int) (name other:List UInt8) (num:Nat) (e:Option E) (body els:List St) (pos:Nat)
inductive RS where
 | ok (s:St) (r:List Tok)
 | bad (r:List Tok)
inductive RB where
 | ok (l:List St) (r:List Tok)
 | bad (r:List Tok)
def isWord (w:List UInt8) (t:Bk):Bool := t.1 == 1&&t.2.1 == w
def wLock:List UInt8 := [108,111,99,107]
def wUnlock:List UInt8 := [117,110,108,111,99,107]
def wSend:List UInt8 := [115,101,110,100]
def wRecv:List UInt8 := [114,101,99,118]
def wPrint:List UInt8 := [112,114,105,110,116]
def wIf:List UInt8 := [105,102]
def wElse:List UInt8 := [101,108,115,101]
def wRepeat:List UInt8 := [114,101,112,101,97,116]
def wGoto:List UInt8 := [103,111,116,111]
def wLabel:List UInt8 := [108,97,98,101,108]
def wGo:List UInt8 := [103,111]
def wVar:List UInt8 := [118,97,114]
def wWide:List UInt8 := [119,105,100,101]
def wAtomic:List UInt8 := [97,116,111,109,105,99]
def wLocal:List UInt8 := [108,111,99,97,108]
def wMutex:List UInt8 := [109,117,116,101,120]
def wChan:List UInt8 := [99,104,97,110]
def keyws:List (List UInt8) := [wVar,wWide,wAtomic,wLocal,wMutex,wChan,wGo,wLock,wUnlock,wSend,wRecv,wPrint,wIf,wElse,wRepeat,wGoto,wLabel]
def kwd (w:List UInt8):Bool := keyws.contains w
def one1 (k:Int) (p:Nat) (ts:List Tok):RS := match ts with
 | []=>.bad []
 | t :: r=>if isNm kwd t.bare then .ok (.mk k t.text [] 0 none [] [] p) r else .bad (t :: r)
mutual
def stm (d:Nat) (ts:List Tok):RS :=
 match ts with
 | []=>.bad []
 | t :: r =>
  if t.kind ≠ 1 then .bad (t :: r)
  else if kwd t.text = false then (match r with
   | []=>.bad []
   | t1 :: r1=>if isSign 61 t1.bare then (match lv kwd 0 0 r1 with
     | .bad r2=>.bad r2
     | .ok x r2=>.ok (.mk 1 t.text [] 0 (some x) [] [] t.pos) r2) else .bad (t1 :: r1))
  else if t.text = wLock then one1 2 t.pos r
  else if t.text = wUnlock then one1 3 t.pos r
  else if t.text = wSend then (match r with
   | []=>.bad []
   | t1 :: r1=>if isNm kwd t1.bare then (match lv kwd 0 0 r1 with
     | .bad r2=>.bad r2
     | .ok x r2=>.ok (.mk 4 t1.text [] 0 (some x) [] [] t.pos) r2) else .bad (t1 :: r1))
  else if t.text = wRecv then (match r with
   | []=>.bad []
   | t1 :: r1=>if isNm kwd t1.bare then (match r1 with
     | []=>.bad []
     | t2 :: r2=>if isNm kwd t2.bare then .ok (.mk 5 t1.text t2.text 0 none [] [] t.pos) r2 else .bad (t2 :: r2)) else .bad (t1 :: r1))
  else if t.text = wPrint then (match lv kwd 0 0 r with
   | .bad r2=>.bad r2
   | .ok x r2=>.ok (.mk 6 [] [] 0 (some x) [] [] t.pos) r2)
  else if t.text = wIf then (match lv kwd 0 0 r with
   | .bad r2=>.bad r2
   | .ok x r2=>if r2.length <= r.length then (match blk d r2 with
    | .bad r3=>.bad r3
    | .ok body r3=>(match r3 with
     | []=>.ok (.mk 7 [] [] 0 (some x) body [] t.pos) []
     | t4 :: r4=>if isWord wElse t4.bare then (if r4.length <= r.length then (match blk d r4 with
       | .bad r5=>.bad r5
       | .ok els r5=>.ok (.mk 7 [] [] 0 (some x) body els t.pos) r5) else .bad r4) else .ok (.mk 7 [] [] 0 (some x) body [] t.pos) (t4 :: r4))) else .bad r2)
  else if t.text = wRepeat then (match r with
   | []=>.bad []
   | t1 :: r1=>if t1.kind = 2 /\ t1.num <= 9 then (match blk d r1 with
    | .bad r3=>.bad r3
    | .ok body r3=>.ok (.mk 8 [] [] t1.num none body [] t.pos) r3) else .bad (t1 :: r1))
  else if t.text = wGoto then one1 9 t.pos r
  else if t.text = wLabel then one1 10 t.pos r
  else .bad (t :: r)
termination_by 4 * ts.length
decreasing_by all_goals (simp only [lC]; omega)
def blk (d:Nat) (ts:List Tok):RB :=
 if d = 8 then .bad ts else match ts with
 | []=>.bad []
 | t :: r=>if isSign 123 t.bare then sts d [] r else .bad (t :: r)
termination_by 4 * ts.length + 2
decreasing_by all_goals (simp only [lC]; omega)
def sts (d:Nat) (acc:List St) (ts:List Tok):RB :=
 match ts with
 | []=>.bad []
 | t :: r=>if isSign 125 t.bare then .ok acc r else (match stm (d + 1) (t :: r) with
  | .bad r'=>.bad r'
  | .ok s r'=>if r'.length < (t :: r).length then sts d (acc++[s]) r' else .bad r')
termination_by 4 * ts.length + 1
decreasing_by all_goals (simp only [lC] at *; omega)
end
theorem stm_cons (d:Nat) (t:Tok) (r:List Tok):stm d (t :: r) = (
  if t.kind ≠ 1 then .bad (t :: r)
  else if kwd t.text = false then (match r with
   | []=>.bad []
   | t1 :: r1=>if isSign 61 t1.bare then (match lv kwd 0 0 r1 with
     | .bad r2=>.bad r2
     | .ok x r2=>.ok (.mk 1 t.text [] 0 (some x) [] [] t.pos) r2) else .bad (t1 :: r1))
  else if t.text = wLock then one1 2 t.pos r
  else if t.text = wUnlock then one1 3 t.pos r
  else if t.text = wSend then (match r with
   | []=>.bad []
   | t1 :: r1=>if isNm kwd t1.bare then (match lv kwd 0 0 r1 with
     | .bad r2=>.bad r2
     | .ok x r2=>.ok (.mk 4 t1.text [] 0 (some x) [] [] t.pos) r2) else .bad (t1 :: r1))
  else if t.text = wRecv then (match r with
   | []=>.bad []
   | t1 :: r1=>if isNm kwd t1.bare then (match r1 with
     | []=>.bad []
     | t2 :: r2=>if isNm kwd t2.bare then .ok (.mk 5 t1.text t2.text 0 none [] [] t.pos) r2 else .bad (t2 :: r2)) else .bad (t1 :: r1))
  else if t.text = wPrint then (match lv kwd 0 0 r with
   | .bad r2=>.bad r2
   | .ok x r2=>.ok (.mk 6 [] [] 0 (some x) [] [] t.pos) r2)
  else if t.text = wIf then (match lv kwd 0 0 r with
   | .bad r2=>.bad r2
   | .ok x r2=>if r2.length <= r.length then (match blk d r2 with
    | .bad r3=>.bad r3
    | .ok body r3=>(match r3 with
     | []=>.ok (.mk 7 [] [] 0 (some x) body [] t.pos) []
     | t4 :: r4=>if isWord wElse t4.bare then (if r4.length <= r.length then (match blk d r4 with
       | .bad r5=>.bad r5
       | .ok els r5=>.ok (.mk 7 [] [] 0 (some x) body els t.pos) r5) else .bad r4) else .ok (.mk 7 [] [] 0 (some x) body [] t.pos) (t4 :: r4))) else .bad r2)
  else if t.text = wRepeat then (match r with
   | []=>.bad []
   | t1 :: r1=>if t1.kind = 2 /\ t1.num <= 9 then (match blk d r1 with
    | .bad r3=>.bad r3
    | .ok body r3=>.ok (.mk 8 [] [] t1.num none body [] t.pos) r3) else .bad (t1 :: r1))
  else if t.text = wGoto then one1 9 t.pos r
  else if t.text = wLabel then one1 10 t.pos r
  else .bad (t :: r)) := by rw [stm.eq_def]
theorem blk_cons (d:Nat) (t:Tok) (r:List Tok) (h:d ≠ 8):blk d (t :: r) = if isSign 123 t.bare then sts d [] r else .bad (t :: r) := by rw [blk.eq_def,if_neg h]
theorem sts_cons (d:Nat) (acc:List St) (t:Tok) (r:List Tok):sts d acc (t :: r) = if isSign 125 t.bare then .ok acc r else (match stm (d + 1) (t :: r) with
  | .bad r'=>.bad r'
  | .ok s r'=>if r'.length < (t :: r).length then sts d (acc++[s]) r' else .bad r') := by rw [sts.eq_def]
structure Dc where
 kind:Int
 name:List UInt8
 num:Nat
 pos:Nat
def declK (w:List UInt8):Int :=
 if w = wVar then 1 else if w = wWide then 2 else if w = wAtomic then 3 else if w = wLocal then 4 else if w = wMutex then 5 else if w = wChan then 6 else 0
inductive RD where
 | ok (l:List Dc) (r:List Tok)
 | bad (r:List Tok)
inductive RT where
 | ok (l:List (List St)) (r:List Tok)
 | bad (r:List Tok)
def dcl (acc:List Dc) (ts:List Tok):RD :=
 match ts with
 | []=>.bad []
 | t :: r=>if t.kind = 1 /\ declK t.text ≠ 0 then (if acc.length = 24 then .bad (t :: r) else (match r with
   | []=>.bad []
   | t1 :: r1=>if isNm kwd t1.bare then (if declK t.text = 6 then (match r1 with
     | []=>.bad []
     | t2 :: r2=>if t2.kind = 2 /\ t2.num <= 3 then dcl (acc++[⟨6,t1.text,t2.num,t.pos⟩]) r2 else .bad (t2 :: r2)) else dcl (acc++[⟨declK t.text,t1.text,0,t.pos⟩]) r1) else .bad (t1 :: r1)))
  else .ok acc (t :: r)
termination_by ts.length
decreasing_by all_goals (simp only [lC]; omega)
def thr (acc:List (List St)) (ts:List Tok):RT :=
 match ts with
 | []=>.bad []
 | t :: r=>if acc ≠ [] /\ t.kind = 4 then .ok acc (t :: r)
  else if acc.length = 4 then .bad (t :: r)
  else if isWord wGo t.bare then (match blk 0 r with
   | .bad r'=>.bad r'
   | .ok l r'=>if r'.length <= r.length then thr (acc++[l]) r' else .bad r')
  else .bad (t :: r)
termination_by ts.length
decreasing_by all_goals (simp only [lC]; omega)
inductive RP where
 | ok (d:List Dc) (t:List (List St))
 | bad (r:List Tok)
def prg (ts:List Tok):RP := match dcl [] ts with
 | .bad r=>.bad r
 | .ok d r=>(match thr [] r with
  | .bad r=>.bad r
  | .ok t _=>.ok d t)
end Go.Proofs.YtbcgpjlkkcdmmaaGreatDoor.W

namespace Go.Proofs.YtbcgpjlkkcdmmaaGreatDoor.W
open Go Go.Eng
set_option linter.unusedVariables false
set_option linter.unusedSimpArgs false
mutual
def St.strip:St -> St
 | .mk k n o m e body els p=>.mk k n o m e (stripL body) (stripL els) 0
def stripL:List St -> List St
 | []=>[]
 | s :: r=>s.strip :: stripL r
end
def okN (w:List UInt8):Prop := wordB w = true /\ kwd w = false
def okE (e:Option E):Prop := match e with
 | some x=>saneE x /\ fitsE kwd x 0 0
 | none=>False
mutual
def okS:St -> Nat -> Prop
 | .mk k n o m e body els p,d =>
  if k = 1 then okN n /\ o = [] /\ m = 0 /\ okE e /\ body = [] /\ els = []
  else if k = 2 \/ k = 3 \/ k = 9 \/ k = 10 then okN n /\ o = [] /\ m = 0 /\ e = none /\ body = [] /\ els = []
  else if k = 4 then okN n /\ o = [] /\ m = 0 /\ okE e /\ body = [] /\ els = []
  else if k = 5 then okN n /\ okN o /\ m = 0 /\ e = none /\ body = [] /\ els = []
  else if k = 6 then n = [] /\ o = [] /\ m = 0 /\ okE e /\ body = [] /\ els = []
  else if k = 7 then n = [] /\ o = [] /\ m = 0 /\ okE e /\ d < 8 /\ okL body (d + 1) /\ okL els (d + 1)
  else if k = 8 then n = [] /\ o = [] /\ m <= 9 /\ e = none /\ d < 8 /\ okL body (d + 1) /\ els = []
  else False
def okL:List St -> Nat -> Prop
 | [],_=>True
 | s :: r,d=>okS s d /\ okL r d
end
theorem okL_append:∀ {l k:List St} {d:Nat},okL (l++k) d ↔ okL l d /\ okL k d
 | [],k,d=>by simp only [okL,List.nil_append,true_and]
 | s :: l,k,d=>by simp only [okL,List.cons_append,okL_append (l := l),and_assoc]
end Go.Proofs.YtbcgpjlkkcdmmaaGreatDoor.W

namespace Go.Proofs.YtbcgpjlkkcdmmaaGreatDoor.W
open Go Go.Eng Go.Eng.Fl
set_option linter.unusedVariables false
set_option linter.unusedSimpArgs false
set_option linter.unusedSectionVars false
def encE:E -> T
 | .num n=>T.agg [(T.sc (.int .i64 1)),(T.sc (.int .i64 (n:Int))),(T.sc (.string (⟨#[]⟩:ByteArray))),(T.list [])]
 | .name w=>T.agg [(T.sc (.int .i64 2)),(T.sc (.int .i64 0)),(T.sc (.string (B w))),(T.list [])]
 | .neg e=>T.agg [(T.sc (.int .i64 3)),(T.sc (.int .i64 0)),(T.sc (.string (⟨#[]⟩:ByteArray))),(T.list [encE e])]
 | .bin k a b=>T.agg [(T.sc (.int .i64 k)),(T.sc (.int .i64 0)),(T.sc (.string (⟨#[]⟩:ByteArray))),(T.list [encE a,encE b])]
def kE:E -> Int
 | .num _=>1
 | .name _=>2
 | .neg _=>3
 | .bin k _ _=>k
def nE:E -> Int
 | .num n=>(n:Int)
 | _=>0
def wE:E -> ByteArray
 | .name w=>B w
 | _=>(⟨#[]⟩:ByteArray)
def oE:E -> List T
 | .neg e=>[encE e]
 | .bin _ a b=>[encE a,encE b]
 | _=>[]
theorem encE_eq (e:E):encE e = T.agg [(T.sc (.int .i64 (kE e))),(T.sc (.int .i64 (nE e))),(T.sc (.string (wE e))),(T.list (oE e))] := by cases e <;> rfl
def Ended (ts:List Tok):Prop := ∃ ini e,ts = ini++[e] /\ e.kind = 4 /\ ∀ t ∈ ini,t.kind ≠ 4
def Suf (TS r:List Tok):Prop := ∃ pre,TS = pre++r
theorem Suf.refl (ts:List Tok):Suf ts ts := ⟨[],rfl⟩
theorem Suf.trans {a b c:List Tok} (h:Suf a b) (k:Suf b c):Suf a c := by
 obtain ⟨p,rfl⟩ := h
 obtain ⟨q,rfl⟩ := k
 exact ⟨p++q,by rw [List.append_assoc]⟩
theorem Suf.cons {TS r:List Tok} {t:Tok} (h:Suf TS (t :: r)):Suf TS r := by
 obtain ⟨p,rfl⟩ := h
 exact ⟨p++[t],by simp⟩
theorem Suf.len {TS r:List Tok} (h:Suf TS r):r.length <= TS.length := by
 obtain ⟨p,rfl⟩ := h
 simp
theorem Ended.cons {t:Tok} {r:List Tok} (h:Ended (t :: r)) (hk:t.kind ≠ 4):Ended r := by
 obtain ⟨ini,e,h1,h2,h3⟩ := h
 cases ini with
 | nil=>simp only [List.nil_append,List.cons.injEq] at h1; obtain ⟨rfl,rfl⟩ := h1; exact absurd h2 hk
 | cons x ini =>
  simp only [List.cons_append,List.cons.injEq] at h1
  obtain ⟨rfl,rfl⟩ := h1
  exact ⟨ini,e,rfl,h2,fun t ht=>h3 t (by simp [ht])⟩
theorem Ended.ne {r:List Tok} (h:Ended r):∃ t r',r = t :: r' := by
 obtain ⟨ini,e,rfl,_⟩ := h
 cases ini with
 | nil=>exact ⟨e,[],rfl⟩
 | cons x ini=>exact ⟨x,ini++[e],rfl⟩
theorem opAt_kind {t:Tok} {l:Nat} {k:Int} (h:opAt t.bare l = some k):t.kind ≠ 4 := by
 have := (opAt_lvl h).2.2.1
 simp only [Tok.bare] at this
 omega
theorem isSign_kind {t:Tok} {c:UInt8} (h:isSign c t.bare = true):t.kind = 3 := by
 simp only [isSign,Tok.bare,Bool.and_eq_true,beq_iff_eq] at h
 exact h.1
theorem isNm_kind {kw:List UInt8 -> Bool} {t:Tok} (h:isNm kw t.bare = true):t.kind = 1 := by
 simp only [isNm,Tok.bare,Bool.and_eq_true,beq_iff_eq] at h
 exact h.1
def RE.keeps (ts:List Tok):RE -> Prop
 | .ok _ r=>Suf ts r /\ Ended r
 | .bad r=>Suf ts r /\ Ended r
theorem keeps_all (kw:List UInt8 -> Bool):∀ (m:Nat),
  (∀ l d ts,l <= 3 -> Ended ts -> 16 * ts.length + (10 - 2 * l) <= m -> (lv kw l d ts).keeps ts) ∧
  (∀ l d e ts,l < 3 -> Ended ts -> 16 * ts.length <= m -> (lp kw l d e ts).keeps ts) ∧
  (∀ d ts,Ended ts -> 16 * ts.length + 1 <= m -> (fac kw d ts).keeps ts) := by
 intro m
 induction m using Nat.strongRecOn with
 | _ m ih =>
 refine ⟨?_,?_,?_⟩
 ·intro l d ts hl he hm
  by_cases h3:l < 3
  ·have i1 := (ih (16 * ts.length + (10 - 2 * (l + 1))) (by omega)).1 (l + 1) d ts (by omega) he (Nat.le_refl _)
   cases hc:lv kw (l + 1) d ts with
   | bad r=>rw [lv_step_bad kw h3 hc]; rw [hc] at i1; exact i1
   | ok e r =>
    rw [hc] at i1
    rw [lv_step kw h3 hc]
    have hlt := lv_shorter kw (by omega) hc
    have i2 := (ih (16 * r.length) (by omega)).2.1 l d e r h3 i1.2 (Nat.le_refl _)
    cases hd:lp kw l d e r with
    | ok e' r'=>rw [hd] at i2; exact ⟨i1.1.trans i2.1,i2.2⟩
    | bad r'=>rw [hd] at i2; exact ⟨i1.1.trans i2.1,i2.2⟩
  ·obtain rfl:l = 3 := by omega
   rw [lv_fac]
   exact (ih (16 * ts.length + 1) (by omega)).2.2 d ts he (Nat.le_refl _)
 ·intro l d e ts hl he hm
  obtain ⟨t,r,rfl⟩ := he.ne
  simp only [lC] at hm
  cases ho:opAt t.bare l with
  | none=>rw [lp_stop kw ho]; exact ⟨Suf.refl _,he⟩
  | some k =>
   have her := he.cons (opAt_kind ho)
   have i1 := (ih (16 * r.length + (10 - 2 * (l + 1))) (by omega)).1 (l + 1) d r (by omega) her (Nat.le_refl _)
   cases hc:lv kw (l + 1) d r with
   | bad r'=>rw [lp_step_bad kw ho hc]; rw [hc] at i1; exact ⟨(Suf.refl (t :: r)).cons.trans i1.1,i1.2⟩
   | ok b r' =>
    rw [hc] at i1
    have hlt := lv_shorter kw (by omega) hc
    by_cases h0:l = 0
    ·subst h0
     rw [lp_step0 kw ho hc]
     exact ⟨(Suf.refl (t :: r)).cons.trans i1.1,i1.2⟩
    ·rw [lp_step kw h0 hl ho hc]
     have i2 := (ih (16 * r'.length) (by omega)).2.1 l d (.bin k e b) r' hl i1.2 (Nat.le_refl _)
     cases hd:lp kw l d (.bin k e b) r' with
     | ok e' r''=>rw [hd] at i2; exact ⟨(Suf.refl (t :: r)).cons.trans (i1.1.trans i2.1),i2.2⟩
     | bad r''=>rw [hd] at i2; exact ⟨(Suf.refl (t :: r)).cons.trans (i1.1.trans i2.1),i2.2⟩
 ·intro d ts he hm
  obtain ⟨t,r,rfl⟩ := he.ne
  simp only [lC] at hm
  have hs:Suf (t :: r) r := (Suf.refl (t :: r)).cons
  rw [fac]
  split
  ·rename_i hk; exact ⟨hs,he.cons (by omega)⟩
  split
  ·rename_i hk; exact ⟨hs,he.cons (by rw [isNm_kind hk]; decide)⟩
  split
  ·rename_i hk
   simp only [Bool.and_eq_true] at hk
   have her := he.cons (by rw [isSign_kind hk.1]; decide)
   have i1 := (ih (16 * r.length + 1) (by omega)).2.2 (d + 1) r her (Nat.le_refl _)
   cases hc:fac kw (d + 1) r with
   | ok e r'=>rw [hc] at i1; exact ⟨hs.trans i1.1,i1.2⟩
   | bad r'=>rw [hc] at i1; exact ⟨hs.trans i1.1,i1.2⟩
  split
  ·rename_i hk
   simp only [Bool.and_eq_true] at hk
   have her := he.cons (by rw [isSign_kind hk.1]; decide)
   have i1 := (ih (16 * r.length + 10) (by omega)).1 0 (d + 1) r (by omega) her (by omega)
   cases hc:lv kw 0 (d + 1) r with
   | bad r'=>rw [hc] at i1; exact ⟨hs.trans i1.1,i1.2⟩
   | ok e r' =>
    rw [hc] at i1
    obtain ⟨i1,i2⟩ := i1
    obtain ⟨t',r',rfl⟩ := i2.ne
    simp only
    split
    ·rename_i hr
     exact ⟨hs.trans i1.cons,i2.cons (by rw [isSign_kind hr]; decide)⟩
    ·exact ⟨hs.trans i1,i2⟩
  ·exact ⟨Suf.refl _,he⟩
theorem lv_keeps (kw:List UInt8 -> Bool) {l d:Nat} {ts:List Tok} (hl:l <= 3) (he:Ended ts):(lv kw l d ts).keeps ts := (keeps_all kw _).1 l d ts hl he (Nat.le_refl _)
theorem kw_eq (w:List UInt8):kw (B w) = kwd w := by
 have key:∀ l:List ByteArray,(l.any fun k=>L (B w) == L k) = (l.map L).contains w := by
  intro l
  induction l with
  | nil=>rfl
  | cons a l ih=>rw [List.any_cons,List.map_cons,List.contains_cons,ih,L_B]
 unfold kw
 rw [key]
 rfl
def ix (TS r:List Tok):Int := ((TS.length - r.length:Nat):Int)
structure Tks (TS:List Tok):Prop where
 ended:Ended TS
 len:TS.length <= 6001
 word:∀ t ∈ TS,t.kind = 1 -> wordB t.text = true
 short:∀ t ∈ TS,t.text.length <= 6000
theorem Suf.mem {TS r:List Tok} {t:Tok} (h:Suf TS (t :: r)):t ∈ TS := by
 obtain ⟨p,rfl⟩ := h
 simp
section
variable {s:ByteArray} {TS:List Tok} {n:Nat}
theorem encL_fits (t:Tok):fits [.int .i64,.str,.int .i64,.cplx .f64] (encL s t) = true := rfl
theorem tok_at {r:List Tok} {t:Tok} (h:Suf TS (t :: r)):idx true [.int .i64,.str,.int .i64,.cplx .f64] (TS.map (encL s)) (ix TS (t :: r)) = some (encL s t) := by
 obtain ⟨p,rfl⟩ := h
 have e:ix (p++t :: r) (t :: r) = (p.length:Int) := by simp [ix]
 rw [e]
 unfold idx
 rw [cond_true,decide_eq_true (Int.natCast_nonneg _),cond_true,Int.toNat_natCast]
 simp [encL_fits]
theorem ix_up {r:List Tok} {t:Tok} (h:Suf TS (t :: r)) (hl:TS.length <= 6001):IntKind.wrap .i64 (ix TS (t :: r) + 1) = ix TS r := by
 have := h.len
 simp only [lC] at this
 have e:ix TS (t :: r) + 1 = ix TS r := by simp only [ix,lC]; omega
 rw [e]
 exact wrap_id (by unfold ix; omega) (by unfold ix; omega)
theorem idx_false {sh:List CK} {es:List T} {k:Int}:idx false sh es k = some default := rfl
theorem is_eq (hT:Tks TS) {r:List Tok} {t:Tok} (h:Suf TS (t :: r)) (c:UInt8):m_z36 n (⟨#[c]⟩:ByteArray) (TS.map (encL s)) (ix TS (t :: r)) false = some (isSign c t.bare,TS.map (encL s),ix TS (t :: r),false) := by
 unfold m_z36
 simp only [Bool.not_false,tok_at h,bS,cond_true]
 have e0:((encL s t).cell 0).int = t.kind := rfl
 have e1:((encL s t).cell 1).str = B t.text := rfl
 rw [e0]
 unfold isSign Tok.bare
 simp only
 by_cases hk:t.kind = 3
 ·have hb:((t.kind:Int) == 3) = true := beq_iff_eq.2 hk
  simp only [hb,tok_at h,bS,cond_true,Bool.true_and,e1,bytes_eq,L_B]
  first | done | rfl
 ·have hb:((t.kind:Int) == 3) = false := beq_eq_false_iff_ne.2 hk
  simp only [hb,idx_false,bS,cond_false,Bool.false_and]
theorem is_bad (q:ByteArray) (i:Int):m_z36 n q (TS.map (encL s)) i true = some (false,TS.map (encL s),i,true) := by
 unfold m_z36
 simp only [Bool.not_true,idx_false,bS,cond_false]
theorem nm_eq (hT:Tks TS) (hn:100000 < n) {r:List Tok} {t:Tok} (h:Suf TS (t :: r)):(bif ((t.kind:Int) == 1) then m_z85 n (B t.text) else some false) = some (isNm kwd t.bare) := by
 unfold isNm Tok.bare
 simp only
 by_cases hk:t.kind = 1
 ·have hb:((t.kind:Int) == 1) = true := beq_iff_eq.2 hk
  have hw := hT.word t h.mem hk
  have hl := hT.short t h.mem
  rw [hb,cond_true,nameL (by rw [L_B]; omega) (by rw [L_B]; omega),L_B,hw,kw_eq,Bool.true_and]
  first | done | rfl
 ·have hb:((t.kind:Int) == 1) = false := beq_eq_false_iff_ne.2 hk
  rw [hb,cond_false,Bool.false_and]
theorem op_eq (hT:Tks TS) {r:List Tok} {t:Tok} (h:Suf TS (t :: r)) {l:Nat} (hl:l < 3) (q:Nat × Nat) (m:Int):m_z77 n t.kind (B t.text) m q (l:Int) = some ((opAt t.bare l).getD 0) := by
 unfold m_z77 opM opAt Tok.bare
 simp only
 by_cases hk:t.kind = 3
 ·have hb:(t.kind != 3) = false := by rw [hk]; rfl
  have hsz:(B t.text).size <= 1000000 := by have := hT.short t h.mem; rw [size_L,L_B]; omega
  rw [hb,cond_false,decide_eq_true hsz,decide_eq_true (Int.natCast_nonneg l),decide_eq_true (show (l:Int) < 3 by omega),if_pos hk]
  have e:(B t.text).data.toList = t.text := L_B _
  simp only [Bool.and_self,cond_true,e,Int.toNat_natCast,Option.some.injEq]
  have lk:∀ (k:List UInt8) (v:Int) (rest:List (List UInt8 × Int)),opLook t.text ((k,v) :: rest) = if t.text = k then v else opLook t.text rest := by
   intro k v rest
   show (bif t.text == k then v else opLook t.text rest) = _
   by_cases hh:t.text = k
   ·rw [if_pos hh,beq_iff_eq.2 hh]; rfl
   ·rw [if_neg hh,beq_eq_false_iff_ne.2 hh]; rfl
  have lk0:opLook t.text [] = 0 := rfl
  have gd:∀ (p:Prop) [Decidable p] (a:Int) (x:Option Int),(if p then some a else x).getD 0 = if p then a else x.getD 0 := by intro p _ a x; split <;> rfl
  match l,hl with
  | 0,_=>simp only [opList,lk,lk0,gd,Option.getD_none]
  | 1,_=>simp only [opList,lk,lk0,gd,Option.getD_none]
  | 2,_=>simp only [opList,lk,lk0,gd,Option.getD_none]
  | l + 3,hl=>omega
 ·have hb:(t.kind != 3) = true := by simp [bne,hk]
  rw [hb,cond_true,if_neg hk]; rfl
abbrev Ex7 := Int × Int × ByteArray × (List T) × (List T) × Int × Bool
def Res (s:ByteArray) (TS:List Tok) (q:Option Ex7):RE -> Prop
 | .ok e r=>q = some (kE e,nE e,wE e,oE e,TS.map (encL s),ix TS r,false)
 | .bad r=>∃ k m w o,q = some (k,m,w,o,TS.map (encL s),ix TS r,true)
structure RdOk (s:ByteArray) (TS:List Tok) (b:B_z21) (m:Nat):Prop where
 lv:∀ (l d:Nat) (r:List Tok),l <= 3 -> d <= 8 -> Suf TS r -> Ended r -> 16 * r.length + (10 - 2 * l) < m -> Res s TS (b.y1 (l:Int) (d:Int) (TS.map (encL s)) (ix TS r) false) (lv kwd l d r)
 fac:∀ (d:Nat) (r:List Tok),d <= 8 -> Suf TS r -> Ended r -> 16 * r.length + 1 < m -> Res s TS (b.y0 (d:Int) (TS.map (encL s)) (ix TS r) false) (fac kwd d r)
theorem cast_up (l:Nat) (hl:l <= 8):IntKind.wrap .i64 ((l:Int) + 1) = ((l + 1:Nat):Int) := by rw [wrap_id (by omega) (by omega)]; omega
theorem fac_step (hT:Tks TS) (hn:100000 < n) {b:B_z21} {m:Nat} (hb:RdOk s TS b m) {d:Nat} {r:List Tok} (hd:d <= 8) (hs:Suf TS r) (he:Ended r) (hm:16 * r.length <= m) :
  Res s TS (f___expr_reader__factor b n (d:Int) (TS.map (encL s)) (ix TS r) false) (fac kwd d r) := by
 obtain ⟨t,r,rfl⟩ := he.ne
 simp only [lC] at hm
 unfold f___expr_reader__factor
 rw [tok_at hs,bS,is_eq hT hs 45]
 simp only [bS]
 rw [is_eq hT hs 40]
 simp only [bS,cond_false]
 have e0:((encL s t).cell 0).int = t.kind := rfl
 have e1:((encL s t).cell 1).str = B t.text := rfl
 have e2:((encL s t).cell 2).int = (t.num:Int) := rfl
 rw [e0,e1,e2,ix_up hs hT.len,fac]
 by_cases h2:t.kind = 2
 ·have hb2:((t.kind:Int) == 2) = true := beq_iff_eq.2 h2
  rw [hb2,if_pos h2]; rfl
 have hb2:((t.kind:Int) == 2) = false := beq_eq_false_iff_ne.2 h2
 rw [hb2,if_neg h2,cond_false,nm_eq hT hn hs]
 simp only [bS]
 have hnm:(bif ((t.kind:Int) == 1) then isNm kwd t.bare else false) = isNm kwd t.bare := by
  cases hq:((t.kind:Int) == 1) with
  | true=>rfl
  | false =>
   have:t.kind ≠ 1 := beq_eq_false_iff_ne.1 hq
   unfold isNm Tok.bare
   simp [this]
 rw [hnm]
 by_cases hk:isNm kwd t.bare = true
 ·rw [hk,if_pos rfl]; rfl
 have hk':isNm kwd t.bare = false := by simpa using hk
 rw [hk',cond_false,if_neg (by simp)]
 have hd8:(((d:Nat):Int) == 8) = decide (d = 8) := by
  by_cases h:d = 8
  ·rw [decide_eq_true h,beq_iff_eq]; omega
  ·rw [decide_eq_false h,beq_eq_false_iff_ne]; omega
 rw [hd8]
 by_cases hlt:d < 8
 ·rw [decide_eq_false (show ¬ d = 8 by omega),decide_eq_true hlt,Bool.and_true,Bool.and_true,cast_up d (by omega)]
  by_cases h45:isSign 45 t.bare = true
  ·have her := he.cons (by rw [isSign_kind h45]; decide)
   rw [h45,if_pos rfl]
   simp only [Bool.not_true,cond_false,cond_true]
   have hr := hb.fac (d + 1) r (by omega) hs.cons her (by omega)
   cases hc:fac kwd (d + 1) r with
   | bad r' =>
    rw [hc] at hr
    obtain ⟨k,q,w,o,hr⟩ := hr
    rw [hr]
    exact ⟨_,_,_,_,rfl⟩
   | ok e r' =>
    rw [hc] at hr
    rw [show b.y0 ((d + 1:Nat):Int) (TS.map (encL s)) (ix TS r) false = _ from hr]
    simp only [bS,Res,kE,nE,wE,oE,encE_eq e]
  have h45':isSign 45 t.bare = false := by simpa using h45
  rw [h45',if_neg (by simp)]
  by_cases h40:isSign 40 t.bare = true
  ·have her := he.cons (by rw [isSign_kind h40]; decide)
   rw [h40,if_pos rfl]
   simp only [Bool.not_false,Bool.not_true,cond_false,cond_true]
   have hr := hb.lv 0 (d + 1) r (by omega) (by omega) hs.cons her (by omega)
   cases hc:lv kwd 0 (d + 1) r with
   | bad r' =>
    rw [hc] at hr
    obtain ⟨k,q,w,o,hr⟩ := hr
    rw [show b.y1 0 ((d + 1:Nat):Int) (TS.map (encL s)) (ix TS r) false = _ from hr]
    simp only [bS]
    rw [is_bad]
    simp only [bS,Bool.not_false,cond_true,m_z29]
    exact ⟨_,_,_,_,rfl⟩
   | ok e r' =>
    have hkp := lv_keeps kwd (l := 0) (d := d + 1) (by omega) her
    rw [hc] at hr hkp
    obtain ⟨k1,k2⟩ := hkp
    obtain ⟨t',r',rfl⟩ := k2.ne
    have hs' := hs.cons.trans k1
    rw [show b.y1 0 ((d + 1:Nat):Int) (TS.map (encL s)) (ix TS r) false = _ from hr]
    simp only [bS]
    rw [is_eq hT hs' 41]
    simp only [bS]
    by_cases h41:isSign 41 t'.bare = true
    ·rw [h41,if_pos rfl]
     simp only [Bool.not_true,cond_false]
     rw [ix_up hs' hT.len]
     rfl
    ·have h41':isSign 41 t'.bare = false := by simpa using h41
     rw [h41',if_neg (by simp)]
     simp only [Bool.not_false,cond_true,m_z29,bS]
     exact ⟨_,_,_,_,rfl⟩
  have h40':isSign 40 t.bare = false := by simpa using h40
  rw [h40',if_neg (by simp)]
  simp only [Bool.not_false,cond_true,m_z29,bS]
  exact ⟨_,_,_,_,rfl⟩
 ·have hdd:d = 8 := by omega
  rw [decide_eq_true hdd,decide_eq_false hlt,Bool.and_false,Bool.and_false,if_neg (by simp),if_neg (by simp)]
  have e:(bif (bif (!isSign 45 t.bare) then (!isSign 40 t.bare) else false) then true else true) = true := by cases (bif (!isSign 45 t.bare) then (!isSign 40 t.bare) else false) <;> rfl
  rw [e,cond_true]
  simp only [m_z29,bS]
  exact ⟨_,_,_,_,rfl⟩
abbrev Lp11 := (List T) × Int × Bool × Int × Int × ByteArray × (List T) × Int × Int × ByteArray × (List T)
def ResL (s:ByteArray) (TS:List Tok) (q:Option Lp11):RE -> Prop
 | .ok e r=>∃ a b c o,q = some (TS.map (encL s),ix TS r,false,a,b,c,o,kE e,nE e,wE e,oE e)
 | .bad r=>∃ a b c o k m w p,q = some (TS.map (encL s),ix TS r,true,a,b,c,o,k,m,w,p)
theorem loop_step (hT:Tks TS) {b:B_z21} {m:Nat} (hb:RdOk s TS b m) {l d:Nat} (hl:l < 3) (hd:d <= 8):∀ (k:Nat) (e:E) (r:List Tok) (a1 a2:Int) (a3:ByteArray) (a4:List T),r.length < k -> Suf TS r -> Ended r -> 16 * r.length <= m →
  ResL s TS (l_z21_4 b n k ((l:Int),(d:Int),TS.map (encL s),ix TS r,false,a1,a2,a3,a4,kE e,nE e,wE e,oE e)) (lp kwd l d e r) := by
 intro k
 induction k with
 | zero=>intro e r a1 a2 a3 a4 h; omega
 | succ k ih =>
  intro e r a1 a2 a3 a4 hk hs he hm
  obtain ⟨t,r,rfl⟩ := he.ne
  simp only [lC] at hm hk
  show ResL s TS (l_z21_4_B b n (l_z21_4 b n k) ((l:Int),(d:Int),TS.map (encL s),ix TS (t :: r),false,a1,a2,a3,a4,kE e,nE e,wE e,oE e)) _
  unfold l_z21_4_B
  simp only [Bool.not_false,cond_true]
  rw [tok_at hs,bS]
  have e0:((encL s t).cell 0).int = t.kind := rfl
  have e1:((encL s t).cell 1).str = B t.text := rfl
  rw [e0,e1,op_eq hT hs hl,bS]
  cases ho:opAt t.bare l with
  | none =>
   rw [lp_stop kwd ho]
   simp only [Option.getD_none,beq_self_eq_true,cond_true]
   exact ⟨_,_,_,_,rfl⟩
  | some x =>
   have hx := (opAt_lvl ho).2.1
   have hx0:((x:Int) == 0) = false := by
    rw [beq_eq_false_iff_ne]
    rcases op_cases hx with rfl | rfl | rfl | rfl | rfl | rfl | rfl <;> decide
   have her := he.cons (opAt_kind ho)
   simp only [Option.getD_some,hx0,cond_false]
   rw [cast_up l (by omega),ix_up hs hT.len]
   have hr := hb.lv (l + 1) d r (by omega) hd hs.cons her (by omega)
   have hl0:(((l:Nat):Int) == 0) = decide (l = 0) := by
    by_cases h:l = 0
    ·rw [decide_eq_true h,beq_iff_eq]; omega
    ·rw [decide_eq_false h,beq_eq_false_iff_ne]; omega
   rw [hl0]
   cases hc:lv kwd (l + 1) d r with
   | bad r' =>
    rw [hc] at hr
    obtain ⟨u1,u2,u3,u4,hr⟩ := hr
    rw [lp_step_bad kwd ho hc,hr]
    simp only [bS]
    by_cases h0:l = 0
    ·rw [decide_eq_true h0,cond_true]
     exact ⟨_,_,_,_,_,_,_,_,rfl⟩
    ·rw [decide_eq_false h0,cond_false]
     obtain ⟨k',rfl⟩:∃ k',k = k' + 1 := ⟨k - 1,by have := lv_bad_le kwd (by omega) hc; omega⟩
     exact ⟨_,_,_,_,_,_,_,_,rfl⟩
   | ok y r' =>
    have hkp := lv_keeps kwd (l := l + 1) (d := d) (by omega) her
    rw [hc] at hr hkp
    have hlt := lv_shorter kwd (by omega) hc
    rw [show b.y1 ((l + 1:Nat):Int) (d:Int) (TS.map (encL s)) (ix TS r) false = _ from hr]
    simp only [bS]
    have hE:[(T.agg [(T.sc (.int .i64 (kE e))),(T.sc (.int .i64 (nE e))),(T.sc (.string (wE e))),(T.list (oE e))]),(T.agg [(T.sc (.int .i64 (kE y))),(T.sc (.int .i64 (nE y))),(T.sc (.string (wE y))),(T.list (oE y))])] = oE (.bin x e y) := by
     rw [<- encE_eq,<- encE_eq]; rfl
    rw [hE]
    by_cases h0:l = 0
    ·subst h0
     rw [lp_step0 kwd ho hc,decide_eq_true rfl,cond_true]
     exact ⟨_,_,_,_,rfl⟩
    ·rw [lp_step kwd h0 hl ho hc,decide_eq_false h0,cond_false]
     exact ih (.bin x e y) r' a1 a2 a3 a4 (by omega) (hs.cons.trans hkp.1) hkp.2 (by omega)
theorem lv_level (hT:Tks TS) (hn:100000 < n) {b:B_z21} {m:Nat} (hb:RdOk s TS b m) {l d:Nat} {r:List Tok} (hl:l <= 3) (hd:d <= 8) (hs:Suf TS r) (he:Ended r) (hm:16 * r.length + (10 - 2 * l) <= m) :
  Res s TS (f_z21 b n (l:Int) (d:Int) (TS.map (encL s)) (ix TS r) false) (lv kwd l d r) := by
 unfold f_z21
 have hl3:(((l:Nat):Int) == 3) = decide (l = 3) := by
  by_cases h:l = 3
  ·rw [decide_eq_true h,beq_iff_eq]; omega
  ·rw [decide_eq_false h,beq_eq_false_iff_ne]; omega
 rw [hl3]
 by_cases h3:l = 3
 ·subst h3
  rw [decide_eq_true rfl,cond_true,lv_fac]
  have hr := hb.fac d r hd hs he (by omega)
  cases hc:fac kwd d r with
  | bad r' =>
   rw [hc] at hr
   obtain ⟨u1,u2,u3,u4,hr⟩ := hr
   rw [hr]
   exact ⟨_,_,_,_,rfl⟩
  | ok y r' =>
   rw [hc] at hr
   rw [show b.y0 (d:Int) (TS.map (encL s)) (ix TS r) false = _ from hr]
   rfl
 ·have hlt:l < 3 := by omega
  rw [decide_eq_false h3,cond_false,cast_up l (by omega)]
  have hr := hb.lv (l + 1) d r (by omega) hd hs he (by omega)
  cases hc:lv kwd (l + 1) d r with
  | bad r' =>
   rw [hc] at hr
   obtain ⟨u1,u2,u3,u4,hr⟩ := hr
   rw [lv_step_bad kwd hlt hc,hr]
   simp only [bS]
   obtain ⟨n',rfl⟩:∃ n',n = n' + 1 := ⟨n - 1,by omega⟩
   exact ⟨_,_,_,_,rfl⟩
  | ok y r' =>
   have hkp := lv_keeps kwd (l := l + 1) (d := d) (by omega) he
   rw [hc] at hr hkp
   have hsh := lv_shorter kwd (by omega) hc
   rw [lv_step kwd hlt hc,show b.y1 ((l + 1:Nat):Int) (d:Int) (TS.map (encL s)) (ix TS r) false = _ from hr]
   simp only [bS]
   have hq := loop_step (n := n) hT hb hlt hd n y r' 0 0 (⟨#[]⟩:ByteArray) [] (by have := (hs.trans hkp.1).len; have := hT.len; omega) (hs.trans hkp.1) hkp.2 (by omega)
   cases hc2:lp kwd l d y r' with
   | bad r'' =>
    rw [hc2] at hq
    obtain ⟨a,b1,c,o,k,m',w,p,hq⟩ := hq
    rw [hq]
    exact ⟨_,_,_,_,rfl⟩
   | ok y' r'' =>
    rw [hc2] at hq
    obtain ⟨a,b1,c,o,hq⟩ := hq
    rw [hq]
    rfl
theorem rd_ok (hT:Tks TS) (hn:100000 < n):∀ m,RdOk s TS (unB_z21 n m) m
 | 0=>⟨fun l d r _ _ _ _ h=>by omega,fun d r _ _ _ h=>by omega⟩
 | m + 1=>by
  have ih := rd_ok hT hn m
  exact ⟨fun l d r hl hd hs he hm=>lv_level hT hn ih hl hd hs he (by omega),fun d r hd hs he hm=>fac_step hT hn ih hd hs he (by omega)⟩
theorem read_eq (hT:Tks TS) (hn:100000 < n) {r:List Tok} (hs:Suf TS r) (he:Ended r):m_z93 n (TS.map (encL s)) (ix TS r) = some (match lv kwd 0 0 r with
  | .ok e r'=>(kE e,nE e,wE e,oE e,ix TS r',true)
  | .bad r'=>(0,0,(⟨#[]⟩:ByteArray),[],ix TS r',false)) := by
 have hlen := hs.len
 have hlen2 := hT.len
 have h := (rd_ok (s := s) hT hn n).lv 0 0 r (by omega) (by omega) hs he (by omega)
 unfold m_z93 m_z21
 cases hc:lv kwd 0 0 r with
 | bad r' =>
  rw [hc] at h
  obtain ⟨k,m,w,o,h⟩ := h
  rw [show (unB_z21 n n).y1 0 0 (TS.map (encL s)) (ix TS r) false = _ from h]
  rfl
 | ok e r' =>
  rw [hc] at h
  rw [show (unB_z21 n n).y1 0 0 (TS.map (encL s)) (ix TS r) false = _ from h]
  rfl
end
end Go.Proofs.YtbcgpjlkkcdmmaaGreatDoor.W

namespace Go.Proofs.YtbcgpjlkkcdmmaaGreatDoor.W
open Go Go.Eng
set_option linter.unusedVariables false
set_option linter.unusedSimpArgs false
section
variable (kw:List UInt8 -> Bool)
end
def subs:E -> List E
 | .neg e=>[e]
 | .bin _ a b=>[a,b]
 | _=>[]
theorem oE_subs (e:E):oE e = (subs e).map encE := by cases e <;> rfl
def ht:E -> Nat
 | .neg e=>1 + ht e
 | .bin _ a b=>1 + ht a + ht b
 | _=>0
theorem ht_subs {e x:E} (h:x ∈ subs e):ht x < ht e := by
 cases e with
 | num=>simp [subs] at h
 | name=>simp [subs] at h
 | neg e=>simp only [subs,List.mem_singleton] at h; subst h; simp only [ht]; omega
 | bin k a b =>
  simp only [subs,List.mem_cons,List.not_mem_nil,or_false] at h
  simp only [ht]
  rcases h with rfl | rfl <;> omega
theorem subs_len (e:E):(subs e).length <= 2 := by cases e <;> simp [subs]
theorem B_inj {u v:List UInt8} (h:L (B u) = L (B v)):u = v := by rw [L_B,L_B] at h; exact h
theorem E_same (a b:E):(((kE a == kE b)&&(nE a == nE b))&&(L (wE a) == L (wE b))) = true /\ subs a = subs b ↔ a = b := by
 constructor
 ·rintro ⟨h,hs⟩
  simp only [Bool.and_eq_true,beq_iff_eq] at h
  obtain ⟨⟨h1,h2⟩,h3⟩ := h
  cases a with
  | num n =>
   cases b with
   | num m=>simp only [nE] at h2; rw [show n = m by omega]
   | name w=>simp [kE] at h1
   | neg e=>simp [subs] at hs
   | bin k x y=>simp [subs] at hs
  | name w =>
   cases b with
   | num m=>simp [kE] at h1
   | name v=>simp only [wE] at h3; rw [B_inj h3]
   | neg e=>simp [subs] at hs
   | bin k x y=>simp [subs] at hs
  | neg e =>
   cases b with
   | num m=>simp [subs] at hs
   | name v=>simp [subs] at hs
   | neg e'=>simp only [subs,List.cons.injEq,and_true] at hs; rw [hs]
   | bin k x y=>simp [subs] at hs
  | bin k x y =>
   cases b with
   | num m=>simp [subs] at hs
   | name v=>simp [subs] at hs
   | neg e'=>simp [subs] at hs
   | bin k' x' y' =>
    simp only [subs,List.cons.injEq,and_true] at hs
    simp only [kE] at h1
    rw [h1,hs.1,hs.2]
 ·rintro rfl
  simp
end Go.Proofs.YtbcgpjlkkcdmmaaGreatDoor.W

namespace Go.Proofs.YtbcgpjlkkcdmmaaGreatDoor.W
open Go Go.Eng Go.Eng.Fl
set_option linter.unusedVariables false
set_option linter.unusedSimpArgs false
set_option linter.unusedSectionVars false
def kO (e:Option E):Int := match e with | some x=>kE x | none=>0
def nO (e:Option E):Int := match e with | some x=>nE x | none=>0
def wO (e:Option E):ByteArray := match e with | some x=>wE x | none=>(⟨#[]⟩:ByteArray)
def oO (e:Option E):List T := match e with | some x=>oE x | none=>[]
mutual
def encS (pl:Nat -> Nat × Nat):St -> T
 | .mk k n o m e body els p=>T.agg [(T.sc (.int .i64 k)),(T.sc (.string (B n))),(T.sc (.string (B o))),(T.sc (.int .i64 (m:Int))),(T.sc (.int .i64 (kO e))),(T.sc (.int .i64 (nO e))),(T.sc (.string (wO e))),(T.list (oO e)),(T.list (encSL pl body)),(T.list (encSL pl els)),(T.sc (.complex .f64 (pl p).1 (pl p).2))]
def encSL (pl:Nat -> Nat × Nat):List St -> List T
 | []=>[]
 | x :: r=>encS pl x :: encSL pl r
end
theorem encSL_map (pl:Nat -> Nat × Nat):∀ l:List St,encSL pl l = l.map (encS pl)
 | []=>by simp only [encSL,List.map_nil]
 | x :: l=>by simp only [encSL,List.map_cons,encSL_map pl l]
theorem encSL_app (pl:Nat -> Nat × Nat) (l k:List St):encSL pl (l++k) = encSL pl l++encSL pl k := by simp only [encSL_map,List.map_append]
theorem sized_S (pl:Nat -> Nat × Nat) (l:List St):sized 11 (encSL pl l) = true := by
 rw [encSL_map]
 unfold sized
 rw [List.all_eq_true]
 intro y hy
 obtain ⟨t,_,rfl⟩ := List.mem_map.1 hy
 cases t
 simp only [encS]
 rfl
structure TkP (TS:List Tok):Prop where
 tks:Tks TS
 sgn:∀ t ∈ TS,t.kind = 3 -> wordB t.text = false
section
variable {s:ByteArray} {TS:List Tok} {n:Nat}
theorem txt_dec (t:Tok) (q:ByteArray):(ByteArray.toList (B t.text) == ByteArray.toList q) = decide (t.text = L q) := by
 rw [bytes_eq,L_B]
 by_cases h:t.text = L q
 ·rw [decide_eq_true h,beq_iff_eq]; exact h
 ·rw [decide_eq_false h,beq_eq_false_iff_ne]; exact h
theorem isW_eq {r:List Tok} {t:Tok} (h:Suf TS (t :: r)) (q:ByteArray):m_z32 n q (TS.map (encL s)) (ix TS (t :: r)) false = some ((t.kind == 1 || t.kind == 3)&&(t.text == L q),TS.map (encL s),ix TS (t :: r),false) := by
 unfold m_z32
 rw [tok_at h,bS]
 have e0:((encL s t).cell 0).int = t.kind := rfl
 have e1:((encL s t).cell 1).str = B t.text := rfl
 rw [e0,e1,bytes_eq,L_B]
 cases (t.kind == 1) <;> cases (t.kind == 3) <;> rfl
theorem isW_bad {r:List Tok} {t:Tok} (h:Suf TS (t :: r)) (q:ByteArray):m_z32 n q (TS.map (encL s)) (ix TS (t :: r)) true = some (false,TS.map (encL s),ix TS (t :: r),true) := by
 unfold m_z32
 rw [tok_at h,bS]
 rfl
theorem sgn_is (hT:Tks TS) {r:List Tok} {t:Tok} (h:Suf TS (t :: r)) (c:UInt8) (hc:isL c = false):((t.kind == 1 || t.kind == 3)&&(t.text == [c])) = isSign c t.bare := by
 unfold isSign Tok.bare
 simp only
 by_cases h1:t.kind = 1
 ·have hw := hT.word t h.mem h1
  have:(t.text == [c]) = false := by
   rw [beq_eq_false_iff_ne]
   intro hh
   rw [hh] at hw
   simp [wordB,hc] at hw
  rw [this,Bool.and_false,Bool.and_false]
 ·rw [show (t.kind == 1) = false from beq_eq_false_iff_ne.2 h1,Bool.false_or]
theorem mustS (hT:Tks TS) {r:List Tok} {t:Tok} (h:Suf TS (t :: r)) (c:UInt8) (hc:isL c = false):m_z24 n (⟨#[c]⟩:ByteArray) (TS.map (encL s)) (ix TS (t :: r)) false = some (if isSign c t.bare then (TS.map (encL s),ix TS r,false) else (TS.map (encL s),ix TS (t :: r),true)) := by
 unfold m_z24
 rw [isW_eq h,bS,show L (⟨#[c]⟩:ByteArray) = [c] from rfl,sgn_is hT h c hc]
 cases isSign c t.bare with
 | true=>simp only [Bool.not_true,cond_false,if_true,ix_up h hT.len]
 | false=>rfl
theorem must_bad {r:List Tok} {t:Tok} (h:Suf TS (t :: r)) (q:ByteArray):m_z24 n q (TS.map (encL s)) (ix TS (t :: r)) true = some (TS.map (encL s),ix TS (t :: r),true) := by
 unfold m_z24
 rw [isW_bad h]
 rfl
theorem name_bad {r:List Tok} {t:Tok} (h:Suf TS (t :: r)):m_z25 n (TS.map (encL s)) (ix TS (t :: r)) true = some ((⟨#[]⟩:ByteArray),TS.map (encL s),ix TS (t :: r),true) := by
 unfold m_z25
 rw [tok_at h,bS]
 rfl
theorem name_eq (hT:Tks TS) (hn:100000 < n) {r:List Tok} {t:Tok} (h:Suf TS (t :: r)):m_z25 n (TS.map (encL s)) (ix TS (t :: r)) false = some (if isNm kwd t.bare then (B t.text,TS.map (encL s),ix TS r,false) else ((⟨#[]⟩:ByteArray),TS.map (encL s),ix TS (t :: r),true)) := by
 unfold m_z25
 rw [tok_at h,bS]
 have e0:((encL s t).cell 0).int = t.kind := rfl
 have e1:((encL s t).cell 1).str = B t.text := rfl
 rw [e0,e1]
 have e2:(bif !(bif false then true else (t.kind != 1)) then m_z85 n (B t.text) else some false) = some (isNm kwd t.bare) := by
  rw [<- nm_eq hT hn h]
  unfold bne
  cases (t.kind == 1) <;> rfl
 rw [e2,bS,ix_up h hT.len]
 cases hb:isNm kwd t.bare with
 | true =>
  have hk := isNm_kind hb
  rw [show (t.kind != 1) = false by rw [hk]; rfl]
  rfl
 | false=>cases (t.kind != 1) <;> rfl
theorem num_bad {r:List Tok} {t:Tok} (h:Suf TS (t :: r)) (q:Int):m_z17 n q (TS.map (encL s)) (ix TS (t :: r)) true = some (0,TS.map (encL s),ix TS (t :: r),true) := by
 unfold m_z17
 rw [tok_at h,bS]
 rfl
theorem num_eq (hT:Tks TS) {r:List Tok} {t:Tok} (h:Suf TS (t :: r)) (q:Nat):m_z17 n (q:Int) (TS.map (encL s)) (ix TS (t :: r)) false = some (if t.kind = 2 /\ t.num <= q then ((t.num:Int),TS.map (encL s),ix TS r,false) else (0,TS.map (encL s),ix TS (t :: r),true)) := by
 unfold m_z17
 rw [tok_at h,bS]
 have e0:((encL s t).cell 0).int = t.kind := rfl
 have e2:((encL s t).cell 2).int = (t.num:Int) := rfl
 rw [e0,e2,ix_up h hT.len]
 by_cases hk:t.kind = 2
 ·rw [show (t.kind != 2) = false by rw [hk]; rfl]
  by_cases hq:t.num <= q
  ·rw [if_pos ⟨hk,hq⟩,decide_eq_false (show ¬ ((t.num:Nat):Int) > (q:Int) by omega)]; rfl
  ·rw [if_neg (fun h=>hq h.2),decide_eq_true (show ((t.num:Nat):Int) > (q:Int) by omega)]; rfl
 ·rw [if_neg (fun h=>hk h.1),show (t.kind != 2) = true by simp [bne,hk]]; rfl
theorem expr_bad (i:Int):m_z22 n (TS.map (encL s)) i true = some (0,0,(⟨#[]⟩:ByteArray),[],TS.map (encL s),i,true) := rfl
theorem expr_eq' (hT:Tks TS) (hn:100000 < n) {r:List Tok} (hs:Suf TS r) (he:Ended r):m_z22 n (TS.map (encL s)) (ix TS r) false = some (match lv kwd 0 0 r with
  | .ok e r'=>(kE e,nE e,wE e,oE e,TS.map (encL s),ix TS r',false)
  | .bad r'=>(0,0,(⟨#[]⟩:ByteArray),[],TS.map (encL s),ix TS r',true)) := by
 unfold m_z22
 rw [cond_false,read_eq hT hn hs he,bS]
 cases lv kwd 0 0 r <;> rfl
abbrev Q14 := Int × ByteArray × ByteArray × Int × Int × Int × ByteArray × (List T) × (List T) × (List T) × (Nat × Nat) × (List T) × Int × Bool
abbrev Q4 := (List T) × (List T) × Int × Bool
def ResS (s:ByteArray) (TS:List Tok) (q:Option Q14) (len:Nat):RS -> Prop
 | .ok (.mk k nm o m e body els p) r=>q = some (k,B nm,B o,(m:Int),kO e,nO e,wO e,oO e,encSL (P s) body,encSL (P s) els,P s p,TS.map (encL s),ix TS r,false) /\ Suf TS r /\ Ended r /\ r.length < len
 | .bad r=>(∃ k nm o m a b c d e f g,q = some (k,nm,o,m,a,b,c,d,e,f,g,TS.map (encL s),ix TS r,true)) /\ Suf TS r /\ Ended r
def ResB (s:ByteArray) (TS:List Tok) (q:Option Q4) (len:Nat):RB -> Prop
 | .ok l r=>q = some (encSL (P s) l,TS.map (encL s),ix TS r,false) /\ Suf TS r /\ Ended r /\ r.length < len
 | .bad r=>(∃ l,q = some (l,TS.map (encL s),ix TS r,true)) /\ Suf TS r /\ Ended r
structure PkOk (s:ByteArray) (TS:List Tok) (b:B_z18) (m:Nat):Prop where
 blk:∀ (d:Nat) (r:List Tok),d <= 8 -> Suf TS r -> Ended r -> 4 * r.length + 2 < m -> ResB s TS (b.y2 (d:Int) (TS.map (encL s)) (ix TS r) false) r.length (blk d r)
 bad:∀ (d:Int) (t:Tok) (r:List Tok),Suf TS (t :: r) -> 0 < m -> b.y2 d (TS.map (encL s)) (ix TS (t :: r)) true = some ([],TS.map (encL s),ix TS (t :: r),true)
 stm:∀ (d:Nat) (r:List Tok),d <= 8 -> Suf TS r -> Ended r -> 4 * r.length < m -> ResS s TS (b.y3 (d:Int) (TS.map (encL s)) (ix TS r) false) r.length (stm d r)
theorem lits:L (⟨#[108,111,99,107]⟩:ByteArray) = wLock /\ L (⟨#[117,110,108,111,99,107]⟩:ByteArray) = wUnlock /\ L (⟨#[115,101,110,100]⟩:ByteArray) = wSend /\ L (⟨#[114,101,99,118]⟩:ByteArray) = wRecv /\ L (⟨#[112,114,105,110,116]⟩:ByteArray) = wPrint /\ L (⟨#[105,102]⟩:ByteArray) = wIf /\ L (⟨#[114,101,112,101,97,116]⟩:ByteArray) = wRepeat /\ L (⟨#[103,111,116,111]⟩:ByteArray) = wGoto /\ L (⟨#[108,97,98,101,108]⟩:ByteArray) = wLabel /\ L (⟨#[101,108,115,101]⟩:ByteArray) = wElse /\ L (⟨#[103,111]⟩:ByteArray) = wGo := ⟨rfl,rfl,rfl,rfl,rfl,rfl,rfl,rfl,rfl,rfl,rfl⟩
theorem one_step (hT:Tks TS) (hn:100000 < n) {t:Tok} {r:List Tok} (hs:Suf TS r) (he:Ended r) (k:Int) {f:ByteArray × (List T) × Int × Bool -> Option Q14} (hf:∀ x,f x = some (k,x.1,(⟨#[]⟩:ByteArray),0,0,0,(⟨#[]⟩:ByteArray),[],[],[],P s t.pos,x.2.1,x.2.2.1,x.2.2.2)) :
  ResS s TS (Option.bind (m_z25 n (TS.map (encL s)) (ix TS r) false) f) (t :: r).length (one1 k t.pos r) := by
 obtain ⟨t1,r1,rfl⟩ := he.ne
 rw [name_eq hT hn hs,bS,hf,one1]
 by_cases hb:isNm kwd t1.bare = true
 ·rw [if_pos hb,if_pos hb]
  exact ⟨rfl,hs.cons,he.cons (by rw [isNm_kind hb]; decide),by simp only [lC]; omega⟩
 ·rw [if_neg hb,if_neg hb]
  exact ⟨⟨_,_,_,_,_,_,_,_,_,_,_,rfl⟩,hs,he⟩
theorem word_is (hP:TkP TS) {r:List Tok} {t:Tok} (h:Suf TS (t :: r)) (w:List UInt8) (hw:wordB w = true):((t.kind == 1 || t.kind == 3)&&(t.text == w)) = isWord w t.bare := by
 unfold isWord Tok.bare
 simp only
 by_cases h3:t.kind = 3
 ·have hq := hP.sgn t h.mem h3
  have:(t.text == w) = false := by
   rw [beq_eq_false_iff_ne]
   intro hh
   rw [hh,hw] at hq
   cases hq
  rw [this,Bool.and_false,Bool.and_false]
 ·rw [show (t.kind == 3) = false from beq_eq_false_iff_ne.2 h3,Bool.or_false]
theorem mustW (hP:TkP TS) {r:List Tok} {t:Tok} (h:Suf TS (t :: r)) (q:ByteArray) (hw:wordB (L q) = true):m_z24 n q (TS.map (encL s)) (ix TS (t :: r)) false = some (if isWord (L q) t.bare then (TS.map (encL s),ix TS r,false) else (TS.map (encL s),ix TS (t :: r),true)) := by
 unfold m_z24
 rw [isW_eq h,bS,word_is hP h _ hw]
 cases isWord (L q) t.bare with
 | true=>simp only [Bool.not_true,cond_false,if_true,ix_up h hP.tks.len]
 | false=>rfl
theorem isWord_kind {w:List UInt8} {t:Tok} (h:isWord w t.bare = true):t.kind = 1 := by
 simp only [isWord,Tok.bare,Bool.and_eq_true,beq_iff_eq] at h
 exact h.1
theorem stm_step (hP:TkP TS) (hn:100000 < n) {b:B_z18} {m:Nat} (hb:PkOk s TS b m) {d:Nat} {r:List Tok} (hd:d <= 8) (hs:Suf TS r) (he:Ended r) (hm:4 * r.length <= m) :
  ResS s TS (f___parse_reader__stmt b n (d:Int) (TS.map (encL s)) (ix TS r) false) r.length (stm d r) := by
 have hT := hP.tks
 obtain ⟨l1,l2,l3,l4,l5,l6,l7,l8,l9,l10,l11⟩ := lits
 obtain ⟨t,r,rfl⟩ := he.ne
 simp only [lC] at hm
 unfold f___parse_reader__stmt
 rw [tok_at hs,bS,stm_cons]
 have e0:((encL s t).cell 0).int = t.kind := rfl
 have e1:((encL s t).cell 1).str = B t.text := rfl
 have e3:(((encL s t).cell 3).re,((encL s t).cell 3).im) = P s t.pos := rfl
 rw [e0,e1,e3,ix_up hs hT.len]
 by_cases h1:t.kind ≠ 1
 ·rw [show (t.kind != 1) = true by simp [bne,h1],cond_true,if_pos h1]
  exact ⟨⟨_,_,_,_,_,_,_,_,_,_,_,rfl⟩,hs,he⟩
 have h1:t.kind = 1 := by omega
 rw [show (t.kind != 1) = false by rw [h1]; rfl,cond_false,if_neg (by simpa using h1)]
 have her := he.cons (by rw [h1]; decide)
 have hw := hT.word t hs.mem h1
 have hsh := hT.short t hs.mem
 rw [nameL (by rw [L_B]; omega) (by rw [L_B]; omega),L_B,hw,kw_eq,Bool.true_and,bS]
 by_cases hk:kwd t.text = false
 ·rw [hk,if_pos rfl,Bool.not_false,cond_true]
  rw [name_eq hT hn hs,if_pos (by simp [isNm,Tok.bare,h1,hk]),bS]
  obtain ⟨t1,r1,rfl⟩ := her.ne
  simp only
  rw [mustS hT hs.cons 61 (by decide),bS]
  by_cases h61:isSign 61 t1.bare = true
  ·rw [if_pos h61,if_pos h61]
   simp only
   have he1 := her.cons (by rw [isSign_kind h61]; decide)
   have hk1 := lv_keeps kwd (l := 0) (d := 0) (by omega) he1
   rw [expr_eq' hT hn hs.cons.cons he1,bS]
   cases hl:lv kwd 0 0 r1 with
   | bad r2=>rw [hl] at hk1; exact ⟨⟨_,_,_,_,_,_,_,_,_,_,_,rfl⟩,hs.cons.cons.trans hk1.1,hk1.2⟩
   | ok x r2 =>
    rw [hl] at hk1
    have := lv_shorter kwd (by omega) hl
    exact ⟨rfl,hs.cons.cons.trans hk1.1,hk1.2,by simp only [lC]; omega⟩
  ·rw [if_neg h61,if_neg h61]
   simp only
   rw [expr_bad,bS]
   exact ⟨⟨_,_,_,_,_,_,_,_,_,_,_,rfl⟩,hs.cons,her⟩
 have hk':kwd t.text = true := by simpa using hk
 rw [if_neg hk,hk',Bool.not_true,cond_false]
 simp only [txt_dec,l1,l2,l3,l4,l5,l6,l7,l8,l9,Bool.cond_decide]
 by_cases c1:t.text = wLock
 ·rw [if_pos c1,if_pos c1]; exact one_step hT hn hs.cons her 2 (fun x=>rfl)
 rw [if_neg c1,if_neg c1]
 by_cases c2:t.text = wUnlock
 ·rw [if_pos c2,if_pos c2]; exact one_step hT hn hs.cons her 3 (fun x=>rfl)
 rw [if_neg c2,if_neg c2]
 by_cases c3:t.text = wSend
 ·rw [if_pos c3,if_pos c3]
  obtain ⟨t1,r1,rfl⟩ := her.ne
  rw [name_eq hT hn hs.cons,bS]
  simp only
  by_cases hb1:isNm kwd t1.bare = true
  ·rw [if_pos hb1,if_pos hb1]
   simp only
   have he1 := her.cons (by rw [isNm_kind hb1]; decide)
   have hk1 := lv_keeps kwd (l := 0) (d := 0) (by omega) he1
   rw [expr_eq' hT hn hs.cons.cons he1,bS]
   cases hl:lv kwd 0 0 r1 with
   | bad r2=>rw [hl] at hk1; exact ⟨⟨_,_,_,_,_,_,_,_,_,_,_,rfl⟩,hs.cons.cons.trans hk1.1,hk1.2⟩
   | ok x r2 =>
    rw [hl] at hk1
    have := lv_shorter kwd (by omega) hl
    exact ⟨rfl,hs.cons.cons.trans hk1.1,hk1.2,by simp only [lC]; omega⟩
  ·rw [if_neg hb1,if_neg hb1]
   simp only
   rw [expr_bad,bS]
   exact ⟨⟨_,_,_,_,_,_,_,_,_,_,_,rfl⟩,hs.cons,her⟩
 rw [if_neg c3,if_neg c3]
 by_cases c4:t.text = wRecv
 ·rw [if_pos c4,if_pos c4]
  obtain ⟨t1,r1,rfl⟩ := her.ne
  rw [name_eq hT hn hs.cons,bS]
  simp only
  by_cases hb1:isNm kwd t1.bare = true
  ·rw [if_pos hb1,if_pos hb1]
   simp only
   have he1 := her.cons (by rw [isNm_kind hb1]; decide)
   obtain ⟨t2,r2,rfl⟩ := he1.ne
   rw [name_eq hT hn hs.cons.cons,bS]
   simp only
   by_cases hb2:isNm kwd t2.bare = true
   ·rw [if_pos hb2,if_pos hb2]
    exact ⟨rfl,hs.cons.cons.cons,he1.cons (by rw [isNm_kind hb2]; decide),by simp only [lC]; omega⟩
   ·rw [if_neg hb2,if_neg hb2]
    exact ⟨⟨_,_,_,_,_,_,_,_,_,_,_,rfl⟩,hs.cons.cons,he1⟩
  ·rw [if_neg hb1,if_neg hb1]
   simp only
   rw [name_bad hs.cons,bS]
   exact ⟨⟨_,_,_,_,_,_,_,_,_,_,_,rfl⟩,hs.cons,her⟩
 rw [if_neg c4,if_neg c4]
 by_cases c5:t.text = wPrint
 ·rw [if_pos c5,if_pos c5]
  have hk1 := lv_keeps kwd (l := 0) (d := 0) (by omega) her
  rw [expr_eq' hT hn hs.cons her,bS]
  cases hl:lv kwd 0 0 r with
  | bad r2=>rw [hl] at hk1; exact ⟨⟨_,_,_,_,_,_,_,_,_,_,_,rfl⟩,hs.cons.trans hk1.1,hk1.2⟩
  | ok x r2 =>
   rw [hl] at hk1
   have := lv_shorter kwd (by omega) hl
   exact ⟨rfl,hs.cons.trans hk1.1,hk1.2,by simp only [lC]; omega⟩
 rw [if_neg c5,if_neg c5]
 by_cases c6:t.text = wIf
 ·rw [if_pos c6,if_pos c6]
  have hk1 := lv_keeps kwd (l := 0) (d := 0) (by omega) her
  rw [expr_eq' hT hn hs.cons her,bS]
  cases hl:lv kwd 0 0 r with
  | bad r2 =>
   rw [hl] at hk1
   obtain ⟨k1,k2⟩ := hk1
   obtain ⟨t2,r2,rfl⟩ := k2.ne
   simp only
   rw [hb.bad _ t2 r2 (hs.cons.trans k1) (by omega),bS]
   simp only
   rw [isW_bad (hs.cons.trans k1),bS]
   exact ⟨⟨_,_,_,_,_,_,_,_,_,_,_,rfl⟩,hs.cons.trans k1,k2⟩
  | ok x r2 =>
   rw [hl] at hk1
   obtain ⟨k1,k2⟩ := hk1
   have hlt := lv_shorter kwd (by omega) hl
   simp only
   rw [if_pos (by omega)]
   have hB := hb.blk d r2 hd (hs.cons.trans k1) k2 (by omega)
   cases hbl:blk d r2 with
   | bad r3 =>
    rw [hbl] at hB
    obtain ⟨⟨l,hq⟩,k3,k4⟩ := hB
    obtain ⟨t3,r3,rfl⟩ := k4.ne
    rw [hq,bS]
    simp only
    rw [isW_bad k3,bS]
    exact ⟨⟨_,_,_,_,_,_,_,_,_,_,_,rfl⟩,k3,k4⟩
   | ok body r3 =>
    rw [hbl] at hB
    obtain ⟨hq,k3,k4,hlt3⟩ := hB
    obtain ⟨t4,r4,rfl⟩ := k4.ne
    simp only [lC] at hlt3
    rw [hq,bS]
    simp only
    rw [isW_eq k3,l10,word_is hP k3 _ (by decide),bS]
    by_cases hel:isWord wElse t4.bare = true
    ·rw [hel,if_pos rfl,if_pos (by omega)]
     simp only [cond_true]
     have ke := k4.cons (by rw [isWord_kind hel]; decide)
     rw [ix_up k3 hT.len]
     have hF := hb.blk d r4 hd k3.cons ke (by omega)
     cases hbf:blk d r4 with
     | bad r5 =>
      rw [hbf] at hF
      obtain ⟨⟨l,hq2⟩,k5,k6⟩ := hF
      rw [hq2,bS]
      exact ⟨⟨_,_,_,_,_,_,_,_,_,_,_,rfl⟩,k5,k6⟩
     | ok els r5 =>
      rw [hbf] at hF
      obtain ⟨hq2,k5,k6,hlt5⟩ := hF
      rw [hq2,bS]
      exact ⟨rfl,k5,k6,by simp only [lC]; omega⟩
    ·have hel':isWord wElse t4.bare = false := by simpa using hel
     rw [hel',if_neg (by simp)]
     simp only [cond_false]
     exact ⟨by simp only [encSL]; rfl,k3,k4,by simp only [lC]; omega⟩
 rw [if_neg c6,if_neg c6]
 by_cases c7:t.text = wRepeat
 ·rw [if_pos c7,if_pos c7]
  obtain ⟨t1,r1,rfl⟩ := her.ne
  rw [show ((9:Int)) = ((9:Nat):Int) from rfl,num_eq hT hs.cons,bS]
  simp only
  simp only [lC] at hm
  by_cases hnm:t1.kind = 2 /\ t1.num <= 9
  ·rw [if_pos hnm,if_pos hnm]
   simp only
   have he1 := her.cons (by omega)
   have hB := hb.blk d r1 hd hs.cons.cons he1 (by omega)
   cases hbl:blk d r1 with
   | bad r3 =>
    rw [hbl] at hB
    obtain ⟨⟨l,hq⟩,k3,k4⟩ := hB
    rw [hq,bS]
    exact ⟨⟨_,_,_,_,_,_,_,_,_,_,_,rfl⟩,k3,k4⟩
   | ok body r3 =>
    rw [hbl] at hB
    obtain ⟨hq,k3,k4,hlt3⟩ := hB
    rw [hq,bS]
    exact ⟨by simp only [encSL]; rfl,k3,k4,by simp only [lC]; omega⟩
  ·rw [if_neg hnm,if_neg hnm]
   simp only
   rw [hb.bad _ t1 r1 hs.cons (by omega),bS]
   exact ⟨⟨_,_,_,_,_,_,_,_,_,_,_,rfl⟩,hs.cons,her⟩
 rw [if_neg c7,if_neg c7]
 by_cases c8:t.text = wGoto
 ·rw [if_pos c8,if_pos c8]; exact one_step hT hn hs.cons her 9 (fun x=>rfl)
 rw [if_neg c8,if_neg c8]
 by_cases c9:t.text = wLabel
 ·rw [if_pos c9,if_pos c9]; exact one_step hT hn hs.cons her 10 (fun x=>rfl)
 rw [if_neg c9,if_neg c9]
 have hlen := hs.len
 have hl2 := hT.len
 simp only [lC] at hlen
 have hx:IntKind.wrap .i64 (ix TS r - 1) = ix TS (t :: r) := by
  have e:ix TS r - 1 = ix TS (t :: r) := by simp only [ix,lC]; omega
  rw [e]
  exact wrap_id (by unfold ix; omega) (by unfold ix; omega)
 rw [hx]
 exact ⟨⟨_,_,_,_,_,_,_,_,_,_,_,rfl⟩,hs,he⟩
theorem clip_S {es:List T} (h:sized 11 es = true):m_z3 n es = some es := by
 unfold m_z3
 simp [must,h]
theorem loop_bad {b:B_z18} (d:Int) (acc:List T) {t:Tok} {r:List Tok} (k:Nat):l_z18_5 b n (k + 1) (d,acc,TS.map (encL s),ix TS (t :: r),true) = some (acc,TS.map (encL s),ix TS (t :: r),true) := by
 show l_z18_5_B b n (l_z18_5 b n k) (d,acc,TS.map (encL s),ix TS (t :: r),true) = _
 unfold l_z18_5_B
 rfl
def ResL' (s:ByteArray) (TS:List Tok) (q:Option Q4) (len:Nat):RB -> Prop
 | .ok l r=>∃ t,isSign 125 t.bare = true /\ q = some (encSL (P s) l,TS.map (encL s),ix TS (t :: r),false) /\ Suf TS (t :: r) /\ Ended (t :: r) /\ r.length < len
 | .bad r=>(∃ l,sized 11 l = true /\ q = some (l,TS.map (encL s),ix TS r,true)) /\ Suf TS r /\ Ended r
theorem blk_loop (hP:TkP TS) {b:B_z18} {m:Nat} (hb:PkOk s TS b m) {d:Nat} (hd:d < 8):∀ (k:Nat) (acc:List St) (r:List Tok),r.length < k -> acc.length + r.length <= 6001 -> Suf TS r -> Ended r -> 4 * r.length < m →
  ResL' s TS (l_z18_5 b n k ((d:Int),encSL (P s) acc,TS.map (encL s),ix TS r,false)) r.length (sts d acc r) := by
 have hT := hP.tks
 intro k
 induction k with
 | zero=>intro acc r h; omega
 | succ k ih =>
  intro acc r hk ha hs he hm
  obtain ⟨t,r,rfl⟩ := he.ne
  simp only [lC] at hm hk ha
  show ResL' s TS (l_z18_5_B b n (l_z18_5 b n k) ((d:Int),encSL (P s) acc,TS.map (encL s),ix TS (t :: r),false)) _ _
  unfold l_z18_5_B
  simp only [Bool.not_false,cond_true]
  rw [isW_eq hs,show L (⟨#[125]⟩:ByteArray) = [125] from rfl,sgn_is hT hs 125 (by decide),bS,sts_cons]
  by_cases h1:isSign 125 t.bare = true
  ·rw [h1,if_pos rfl]
   exact ⟨t,h1,rfl,hs,he,by simp only [lC]; omega⟩
  ·have h1':isSign 125 t.bare = false := by simpa using h1
   rw [h1',if_neg (by simp)]
   simp only [Bool.not_false,cond_true]
   rw [cast_up d (by omega)]
   have hS := hb.stm (d + 1) (t :: r) (by omega) hs he (by simp only [lC]; omega)
   cases hst:stm (d + 1) (t :: r) with
   | bad r2 =>
    rw [hst] at hS
    obtain ⟨⟨_,_,_,_,_,_,_,_,_,_,_,hq⟩,k3,k4⟩ := hS
    obtain ⟨t2,r2,rfl⟩ := k4.ne
    obtain ⟨k,rfl⟩:∃ j,k = j + 1 := ⟨k - 1,by omega⟩
    rw [hq,bS]
    simp only
    rw [loop_bad]
    have hl:(encSL (P s) acc).length = acc.length := by rw [encSL_map,List.length_map]
    simp only [List.length_singleton,hl]
    rw [decide_eq_true (show acc.length + 1 <= 1073741824 by omega)]
    refine ⟨⟨_,?_,rfl⟩,k3,k4⟩
    have := sized_S (P s) acc
    unfold sized at this ⊢
    rw [List.all_append,this]
    rfl
   | ok x r2 =>
    obtain ⟨kd,nm,o,mm,e,body,els,p⟩ := x
    rw [hst] at hS
    obtain ⟨hq,k3,k4,hlt⟩ := hS
    simp only [lC] at hlt
    rw [hq,bS]
    simp only
    rw [if_pos (by simp only [lC]; omega)]
    have hl:(encSL (P s) acc).length = acc.length := by rw [encSL_map,List.length_map]
    have e1:∀ x:Option Q4,must true ((Nat.beq 11 11 || Nat.beq 11 0)&&(decide ((encSL (P s) acc).length + [T.agg [(T.sc (.int .i64 kd)),(T.sc (.string (B nm))),(T.sc (.string (B o))),(T.sc (.int .i64 (mm:Int))),(T.sc (.int .i64 (kO e))),(T.sc (.int .i64 (nO e))),(T.sc (.string (wO e))),(T.list (oO e)),(T.list (encSL (P s) body)),(T.list (encSL (P s) els)),(T.sc (.complex .f64 (P s p).1 (P s p).2))]].length <= 1073741824)&&sized 11 [T.agg [(T.sc (.int .i64 kd)),(T.sc (.string (B nm))),(T.sc (.string (B o))),(T.sc (.int .i64 (mm:Int))),(T.sc (.int .i64 (kO e))),(T.sc (.int .i64 (nO e))),(T.sc (.string (wO e))),(T.list (oO e)),(T.list (encSL (P s) body)),(T.list (encSL (P s) els)),(T.sc (.complex .f64 (P s p).1 (P s p).2))]])) x = x := by
     intro x
     rw [hl,List.length_singleton,decide_eq_true (show acc.length + 1 <= 1073741824 by omega)]
     rfl
    rw [e1]
    have hr := ih (acc++[.mk kd nm o mm e body els p]) r2 (by omega) (by simp only [lA,List.length_singleton]; omega) k3 k4 (by omega)
    rw [encSL_app] at hr
    simp only [encSL,encS] at hr
    revert hr
    generalize sts d (acc++[.mk kd nm o mm e body els p]) r2 = z
    cases z with
    | bad r3=>exact fun hr=>hr
    | ok l r3 =>
     rintro ⟨t3,g1,g2,g3,g4,g5⟩
     exact ⟨t3,g1,g2,g3,g4,by simp only [lC]; omega⟩
theorem blk_step (hP:TkP TS) (hn:100000 < n) {b:B_z18} {m:Nat} (hb:PkOk s TS b m) {d:Nat} {r:List Tok} (hd:d <= 8) (hs:Suf TS r) (he:Ended r) (hm:4 * r.length + 2 <= m) :
  ResB s TS (f_z18 b n (d:Int) (TS.map (encL s)) (ix TS r) false) r.length (blk d r) := by
 have hT := hP.tks
 have hsn:sized 11 ([]:List T) = true := rfl
 obtain ⟨t,r,rfl⟩ := he.ne
 simp only [lC] at hm
 obtain ⟨k,hk⟩:∃ j,n = j + 1 := ⟨n - 1,by omega⟩
 unfold f_z18
 have hd8:(((d:Nat):Int) == 8) = decide (d = 8) := by
  by_cases h:d = 8
  ·rw [decide_eq_true h,beq_iff_eq]; omega
  ·rw [decide_eq_false h,beq_eq_false_iff_ne]; omega
 rw [hd8]
 have lb:∀ acc:List T,l_z18_5 b n n ((d:Int),acc,TS.map (encL s),ix TS (t :: r),true) = some (acc,TS.map (encL s),ix TS (t :: r),true) := by
  intro acc
  rw [show l_z18_5 b n n = l_z18_5 b n (k + 1) by rw [<- hk]]
  exact loop_bad _ _ _
 by_cases h8:d = 8
 ·rw [decide_eq_true h8,cond_true,blk.eq_def,if_pos h8]
  simp only [m_z23,bS]
  rw [must_bad hs,bS]
  simp only
  rw [lb,bS]
  simp only
  rw [must_bad hs,bS,clip_S hsn]
  exact ⟨⟨_,rfl⟩,hs,he⟩
 rw [decide_eq_false h8,cond_false,blk_cons _ _ _ h8,mustS hT hs 123 (by decide),bS]
 by_cases h1:isSign 123 t.bare = true
 ·rw [if_pos h1,if_pos h1]
  simp only
  have her := he.cons (by rw [isSign_kind h1]; decide)
  have hlen := hs.len
  have hlen2 := hT.len
  simp only [lC] at hlen
  have hL := blk_loop (n := n) hP hb (d := d) (by omega) n [] r (by omega) (by simp only [lN]; omega) hs.cons her (by omega)
  simp only [encSL] at hL
  cases hst:sts d [] r with
  | bad r2 =>
   rw [hst] at hL
   obtain ⟨⟨l,hz,hq⟩,k3,k4⟩ := hL
   obtain ⟨t2,r2,rfl⟩ := k4.ne
   rw [hq,bS]
   simp only
   rw [must_bad k3,bS,clip_S hz]
   exact ⟨⟨_,rfl⟩,k3,k4⟩
  | ok l r2 =>
   rw [hst] at hL
   obtain ⟨t2,g1,hq,k3,k4,hlt⟩ := hL
   rw [hq,bS]
   simp only
   rw [mustS hT k3 125 (by decide),if_pos g1,bS,clip_S (sized_S (P s) l)]
   exact ⟨rfl,k3.cons,k4.cons (by rw [isSign_kind g1]; decide),by simp only [lC]; omega⟩
 ·rw [if_neg h1,if_neg h1]
  simp only
  rw [lb,bS]
  simp only
  rw [must_bad hs,bS,clip_S hsn]
  exact ⟨⟨_,rfl⟩,hs,he⟩
theorem blk_stepB (hn:100000 < n) {b:B_z18} (d:Int) {t:Tok} {r:List Tok} (hs:Suf TS (t :: r)) :
  f_z18 b n d (TS.map (encL s)) (ix TS (t :: r)) true = some ([],TS.map (encL s),ix TS (t :: r),true) := by
 have hsn:sized 11 ([]:List T) = true := rfl
 obtain ⟨k,hk⟩:∃ j,n = j + 1 := ⟨n - 1,by omega⟩
 unfold f_z18
 have lb:∀ acc:List T,l_z18_5 b n n (d,acc,TS.map (encL s),ix TS (t :: r),true) = some (acc,TS.map (encL s),ix TS (t :: r),true) := by
  intro acc
  rw [show l_z18_5 b n n = l_z18_5 b n (k + 1) by rw [<- hk]]
  exact loop_bad _ _ _
 cases ((d:Int) == 8) with
 | true =>
  rw [cond_true]
  simp only [m_z23,bS]
  rw [must_bad hs,bS]
  simp only
  rw [lb,bS]
  simp only
  rw [must_bad hs,bS,clip_S hsn]
  rfl
 | false =>
  rw [cond_false,must_bad hs,bS]
  simp only
  rw [lb,bS]
  simp only
  rw [must_bad hs,bS,clip_S hsn]
  rfl
theorem pk_ok (hP:TkP TS) (hn:100000 < n):∀ m,PkOk s TS (unB_z18 n m) m
 | 0=>⟨fun d r _ _ _ h=>by omega,fun d t r _ h=>by omega,fun d r _ _ _ h=>by omega⟩
 | m + 1=>by
  have ih := pk_ok hP hn m
  exact ⟨fun d r hd hs he hm=>blk_step hP hn ih hd hs he (by omega),fun d t r hs _=>blk_stepB hn d hs,fun d r hd hs he hm=>stm_step hP hn ih hd hs he (by omega)⟩
end
end Go.Proofs.YtbcgpjlkkcdmmaaGreatDoor.W

namespace Go.Proofs.YtbcgpjlkkcdmmaaGreatDoor.W
open Go Go.Eng Go.Eng.Fl
set_option linter.unusedVariables false
set_option linter.unusedSimpArgs false
theorem B_append (u v:List UInt8):B u++B v = B (u++v) := by
 have h:(B u++B v).data = (B (u++v)).data := by
  simp [B,ByteArray.data_append]
 cases hx:B u++B v with
 | mk d=>rw [hx] at h; cases hy:B (u++v) with
  | mk d'=>rw [hy] at h; simp only at h; rw [h]
theorem size_B (u:List UInt8):(B u).size = u.length := by rw [size_L,L_B]
theorem must_cat {R:Type} {u v:List UInt8} {r:Option R} (h:u.length + v.length <= 4611686018427387904):must true (decide (((ByteArray.size (B u) + ByteArray.size (B v):Nat):Int) <= IntKind.i64.max)) r = r := by
 refine must_eq ?_
 rw [decide_eq_true_eq,size_B,size_B,maxI]
 omega
theorem eB1 (c:UInt8):(⟨#[c]⟩:ByteArray) = B [c] := rfl
theorem fitsE_enc (e:E):fits [.int .i64,.int .i64,.str,.list] (encE e) = true := by cases e <;> rfl
theorem idx_E {es:List E} {i:Nat} (h:i < es.length):idx true [.int .i64,.int .i64,.str,.list] (es.map encE) (i:Int) = some (encE es[i]) := by
 unfold idx
 rw [cond_true,decide_eq_true (Int.natCast_nonneg _),cond_true,Int.toNat_natCast,List.getElem?_map,List.getElem?_eq_getElem h]
 simp [fitsE_enc]
theorem cellE (e:E):((encE e).cell 0).int = kE e /\ ((encE e).cell 1).int = nE e /\ ((encE e).cell 2).str = wE e /\ ((encE e).cell 3).lst = oE e := by cases e <;> exact ⟨rfl,rfl,rfl,rfl⟩
theorem len_ne {α:Type} {a b:List α}:(((((List.length a:Nat):Int):Int) != ((List.length b:Nat):Int))) = !decide (a.length = b.length) := by
 by_cases h:a.length = b.length
 ·rw [decide_eq_true h,h]; simp
 ·rw [decide_eq_false h]; simp only [bne,Bool.not_false,Bool.not_eq_true',beq_eq_false_iff_ne]; omega
section
variable {n:Nat}
theorem same_loop {b:B_z30} {la lb:List E} (hlen:la.length = lb.length) (h2:la.length <= 2) (hb:∀ x ∈ la,∀ y,b.y17 (kE x) (nE x) (wE x) (oE x) (kE y) (nE y) (wE y) (oE y) = some (decide (x = y)))
  (s1 s2 s5 s6:Int) (s3 s7:ByteArray):∀ (k i:Nat),i <= la.length -> la.length - i < k -> (l_z30_4 b n k ((i:Int),s1,s2,s3,la.map encE,s5,s6,s7,lb.map encE)).bind (fun x=>Sum.elim (fun _=>some true) (fun p=>some p.1) x) = some (decide (la.drop i = lb.drop i)) := by
 intro k
 induction k with
 | zero=>intro i _ h; omega
 | succ k ih =>
  intro i hi hk
  show (l_z30_4_B b n (l_z30_4 b n k) ((i:Int),s1,s2,s3,la.map encE,s5,s6,s7,lb.map encE)).bind _ = _
  unfold l_z30_4_B
  simp only [List.length_map]
  by_cases h:i < la.length
  ·rw [decide_eq_true (show (i:Int) < ((la.length:Nat):Int) by omega),cond_true,idx_E h,bS,idx_E (show i < lb.length by omega),bS]
   obtain ⟨a1,a2,a3,a4⟩ := cellE la[i]
   obtain ⟨c1,c2,c3,c4⟩ := cellE lb[i]
   rw [a1,a2,a3,a4,c1,c2,c3,c4,hb _ (List.getElem_mem h),bS]
   rw [List.drop_eq_getElem_cons h,List.drop_eq_getElem_cons (show i < lb.length by omega)]
   by_cases he:la[i] = lb[i]
   ·rw [decide_eq_true he,Bool.not_true,cond_false,wrap_up (by omega),ih (i + 1) (by omega) (by omega)]
    congr 1
    rw [decide_eq_decide,List.cons.injEq]
    simp only [he,true_and]
   ·rw [decide_eq_false he,Bool.not_false,cond_true,bS]
    simp only [Sum.elim_inr]
    congr 1
    rw [Eq.comm,decide_eq_false_iff_not,List.cons.injEq]
    exact fun h=>he h.1
  ·have hie:i = la.length := by omega
   subst hie
   rw [decide_eq_false (by omega),cond_false,List.drop_length,hlen,List.drop_length,bS]
   simp
theorem heads_ne (a c:E):(bif (bif (bif ((kE a:Int) != kE c) then true else ((nE a:Int) != nE c)) then true else (!(ByteArray.toList (wE a) == ByteArray.toList (wE c)))) then true else ((((List.length (oE a):Nat):Int):Int) != ((List.length (oE c):Nat):Int))) = !((((kE a == kE c)&&(nE a == nE c))&&(L (wE a) == L (wE c)))&&decide ((subs a).length = (subs c).length)) := by
 rw [bytes_eq,len_ne,oE_subs,oE_subs,List.length_map,List.length_map]
 simp only [bne]
 cases (kE a == kE c) <;> cases (nE a == nE c) <;> cases (L (wE a) == L (wE c)) <;> rfl
theorem sameR_all (hn:10 < n):∀ (m:Nat) (a c:E),ht a + 1 <= m -> (unB_z30 n m).y17 (kE a) (nE a) (wE a) (oE a) (kE c) (nE c) (wE c) (oE c) = some (decide (a = c))
 | 0,a,c,h=>by omega
 | m + 1,a,c,h=>by
  have ih := sameR_all hn m
  show f_z30 (unB_z30 n m) n _ _ _ _ _ _ _ _ = _
  unfold f_z30
  rw [heads_ne]
  have hE := E_same a c
  cases hh:(((kE a == kE c)&&(nE a == nE c))&&(L (wE a) == L (wE c))) with
  | false =>
   rw [hh] at hE
   rw [Bool.false_and,Bool.not_false,cond_true,decide_eq_false (fun h=>by have := hE.2 h; simp at this)]
  | true =>
   rw [hh] at hE
   rw [Bool.true_and]
   by_cases hl:(subs a).length = (subs c).length
   ·rw [decide_eq_true hl,Bool.not_true,cond_false,oE_subs,oE_subs]
    have := same_loop (n := n) (b := unB_z30 n m) hl (subs_len a) (fun x hx y=>ih x y (by have := ht_subs hx; omega)) (kE a) (nE a) (kE c) (nE c) (wE a) (wE c) n 0 (by omega) (by have := subs_len a; omega)
    rw [show ((0:Nat):Int) = 0 from rfl,List.drop_zero,List.drop_zero] at this
    rw [this]
    congr 1
    rw [decide_eq_decide]
    exact ⟨fun h=>hE.1 ⟨rfl,h⟩,fun h=>by rw [h]⟩
   ·rw [decide_eq_false hl,Bool.not_false,cond_true,decide_eq_false (fun h=>hl (by rw [h]))]
theorem sameR (a c:E) (hn:ht a + 20 < n):m_z30 n (kE a) (nE a) (wE a) (oE a) (kE c) (nE c) (wE c) (oE c) = some (decide (a = c)) :=
 sameR_all (by omega) n a c (by omega)
end
theorem lexR_short:∀ (k:Nat) (r:List UInt8) (p:Nat) (acc l:List Tok) (K:Nat),r.length <= k -> r.length <= K -> (∀ t ∈ acc,t.text.length <= K) -> lexR r p acc = .ok l -> ∀ t ∈ l,t.text.length <= K := by
 intro k
 induction k with
 | zero =>
  intro r p acc l K hr _ ha h
  obtain rfl := List.eq_nil_of_length_eq_zero (Nat.le_zero.1 hr)
  rw [lexR_nil] at h
  simp only [LR.ok.injEq] at h
  subst h
  exact ha
 | succ k ih =>
  intro r p acc l K hr hK ha h
  cases r with
  | nil =>
   rw [lexR_nil] at h
   simp only [LR.ok.injEq] at h
   subst h
   exact ha
  | cons c r =>
   simp only [lC] at hr hK
   cases hb:W.blank c with
   | true=>rw [lexR_blank hb] at h; exact ih r _ acc l K (by omega) (by omega) ha h
   | false =>
    by_cases h35:c = 35
    ·subst h35
     rw [lexR_note] at h
     have := dropWhile_le (· != 10) r
     exact ih _ _ acc l K (by omega) (by omega) ha h
    ·cases ht:tokAt (c :: r) p with
     | none=>rw [lexR_bad hb h35 ht] at h; cases h
     | some t =>
      rw [lexR_tok hb h35 ht] at h
      have hp := tokAt_pos ht
      simp only [lC] at hp
      refine ih _ _ (acc++[t]) l K (by simp only [List.length_drop]; omega) (by simp only [List.length_drop]; omega) ?_ h
      intro x hx
      rcases List.mem_append.1 hx with hx | hx
      ·exact ha x hx
      ·simp only [List.mem_singleton] at hx; subst hx; omega
def endT (u:List UInt8):Tok := ⟨4,[],0,u.length⟩
theorem tks_of {u:List UInt8} (hu:u.length <= 6000) {l:List Tok} (hl:lexR u 0 [] = .ok l):Tks (l++[endT u]) := by
 have hs := lexR_sane u.length u 0 [] l (Nat.le_refl _) (by simp) hl
 have hlen := lexR_len u.length u 0 [] l (Nat.le_refl _) hl
 have hsh := lexR_short u.length u 0 [] l 6000 (Nat.le_refl _) hu (by simp) hl
 refine ⟨⟨l,endT u,rfl,rfl,fun t ht=>?_⟩,by simp at hlen ⊢; omega,fun t ht hk=>?_,fun t ht=>?_⟩
 ·have := (hs t ht).2.2.1
  simp only [Tok.bare] at this
  omega
 ·rcases List.mem_append.1 ht with ht | ht
  ·exact (hs t ht).1 hk
  ·simp only [List.mem_singleton] at ht; subst ht; simp [endT] at hk
 ·rcases List.mem_append.1 ht with ht | ht
  ·exact hsh t ht
  ·simp only [List.mem_singleton] at ht; subst ht; simp [endT]
section
variable {n:Nat}
theorem toks_ok (hn:100000 < n) {u:List UInt8} (hu:u.length <= 6000) {l:List Tok} (hl:lexR u 0 [] = .ok l):m_z86 n (B u) = some ((l++[endT u]).map (encL (B u)),(0,0),0) := by
 rw [tokens_eq (by rw [L_B]; omega) (by omega)]
 unfold toksL
 rw [if_neg (by rw [L_B]; omega),L_B,hl]
 simp only [outL,L_B,endT]
theorem ix_all (ts:List Tok):ix ts ts = 0 := by simp [ix]
theorem ht_le:∀ (e:E) (l:Nat),ht e <= (bs e l).length
 | .num k,l=>Nat.zero_le _
 | .name w,l=>Nat.zero_le _
 | .neg e,l=>by have := ht_le e 3; simp only [ht,bs,lC]; omega
 | .bin k a b,l=>by
  have h1 := ht_le a (left k)
  have h2 := ht_le b (lvl k + 1)
  rw [bs]
  split <;> (simp only [ht,lC,lA]; omega)
end
section
variable {n:Nat}
theorem digits1 {k:Nat} (h:k < 10):Lib.decDigits k = [UInt8.ofNat (48 + k)] := Lib.decDigits_one h
theorem ints_length (z:List Int):(ints .i64 z).length = z.length := by simp [ints]
end
def names8:List (List UInt8) := [[120],[120],[121],[122],[97],[116],[120],[121]]
theorem names8_ok:∀ p ∈ names8,wordB p = true /\ kwd p = false /\ p.length = 1 := by decide
def RawE (d:Nat) (e:E):Prop := saneE e /\ (∀ l D,D + 6 <= 8 + d -> fitsE kwd e l D) /\ ∀ l,(bs e l).length + 6 <= 7 * 2 ^ (6 - d)
section
variable {n:Nat}
theorem plain_eq (x:Int):∃ p ∈ names8,m_z51 n x = some (B p) := by
 unfold m_z51
 obtain ⟨q,hq,hq8⟩ := pick_eq n x 8 (by omega) (by omega)
 rw [hq,bS]
 have hqn:q < names8.length := by show q < 8; omega
 have hix := idx1_str (v := names8.map B) (i := q) (by rw [List.length_map]; exact hqn)
 rw [List.getElem_map] at hix
 refine ⟨names8[q],List.getElem_mem hqn,?_⟩
 have hlist:(names8.map B).map str1 = [(T.sc (.string (⟨#[120]⟩:ByteArray))),(T.sc (.string (⟨#[120]⟩:ByteArray))),(T.sc (.string (⟨#[121]⟩:ByteArray))),(T.sc (.string (⟨#[122]⟩:ByteArray))),(T.sc (.string (⟨#[97]⟩:ByteArray))),(T.sc (.string (⟨#[116]⟩:ByteArray))),(T.sc (.string (⟨#[120]⟩:ByteArray))),(T.sc (.string (⟨#[121]⟩:ByteArray)))] := rfl
 rw [hlist] at hix
 rw [hix]
 rfl
theorem raw_name {p:List UInt8} (hp:p ∈ names8) {d:Nat}:RawE d (.name p) := by
 obtain ⟨h1,h2,h3⟩ := names8_ok p hp
 refine ⟨h1,fun _ _ _=>h2,fun l=>?_⟩
 have:1 <= 2 ^ (6 - d) := Nat.one_le_two_pow
 simp only [bs,h3]
 omega
theorem raw_num {k:Nat} (hk:k < 10) {d:Nat}:RawE d (.num k) := by
 refine ⟨(show k < 9223372036854775808 by omega),fun _ _ _=>trivial,fun l=>?_⟩
 have:1 <= 2 ^ (6 - d) := Nat.one_le_two_pow
 simp only [bs,digits1 hk,lC,lN]
 omega
theorem pow_up {d:Nat} (hd:d <= 5):2 ^ (6 - d) = 2 * 2 ^ (6 - (d + 1)) := by
 rw [show 6 - d = (6 - (d + 1)) + 1 by omega,Nat.pow_succ]; omega
theorem raw_neg {e:E} {d:Nat} (hd:d <= 5) (h:RawE (d + 1) e):RawE d (.neg e) := by
 obtain ⟨h1,h2,h3⟩ := h
 have hp := pow_up hd
 refine ⟨h1,fun l D hD=>⟨by omega,h2 3 (D + 1) (by omega)⟩,fun l=>?_⟩
 have := h3 3
 simp only [bs,lC]
 omega
theorem sgn_len (k:Int):(sgn k).length <= 2 := by
 unfold sgn
 repeat' split
 all_goals simp
theorem raw_bin {a b:E} {k:Int} {d:Nat} (hk:isOp k = true) (hd:d <= 5) (ha:RawE (d + 1) a) (hb:RawE (d + 1) b):RawE d (.bin k a b) := by
 obtain ⟨a1,a2,a3⟩ := ha
 obtain ⟨b1,b2,b3⟩ := hb
 have hp := pow_up hd
 refine ⟨⟨hk,a1,b1⟩,fun l D hD=>⟨hk,?_⟩,fun l=>?_⟩
 ·split
  ·exact ⟨by omega,a2 _ _ (by omega),b2 _ _ (by omega)⟩
  ·exact ⟨a2 _ _ (by omega),b2 _ _ (by omega)⟩
 ·have := a3 (left k)
  have := b3 (lvl k + 1)
  have := sgn_len k
  rw [bs]
  split <;> (simp only [lC,lA,lN]; omega)
theorem sized_ints (z:List Int):sized 1 (ints .i64 z) = true := by
 unfold sized ints
 rw [List.all_map]
 exact List.all_eq_true.2 (fun x _=>rfl)
theorem take_ints (z:List Int) (k:Nat):(ints .i64 z).take k = ints .i64 (z.take k) := by simp [ints,List.map_take]
theorem drop_ints (z:List Int) (k:Nat):(ints .i64 z).drop k = ints .i64 (z.drop k) := by simp [ints,List.map_drop]
theorem expr_all:∀ (m:Nat) (z:List Int) (d:Nat),z.length <= 17592186044416 -> d <= 6 -> 7 - d <= m →
  ∃ e,(unB_z62 n m).y10 (ints .i64 z) (d:Int) = some (kE e,nE e,wE e,oE e) /\ RawE d e /\ ∀ l,(bs e l).length <= 7 * z.length + 1 := by
 intro m
 induction m with
 | zero=>intro z d _ hd h; omega
 | succ m ih =>
  intro z d hz hd hm
  have hun:(unB_z62 n (m + 1)).y10 = f_z62 (unB_z62 n m) n := rfl
  rw [hun]
  generalize unB_z62 n m = b at *
  unfold f_z62
  rw [ints_length]
  cases z with
  | nil=>exact ⟨.num 1,rfl,raw_num (by omega),fun l=>by simp [bs,digits1]⟩
  | cons x z =>
   have hne:(((((x :: z).length:Nat):Int):Int) == 0) = false := by rw [beq_eq_false_iff_ne]; simp; omega
   have hi := idx_ints (v := x :: z) (i := 0) (by simp)
   rw [show ((0:Nat):Int) = 0 from rfl] at hi
   rw [hne,cond_false,hi,bS]
   obtain ⟨q,hq,hq16⟩ := pick_eq n ((int1 (x :: z)[0]).cell 0).int 16 (by omega) (by omega)
   rw [hq,bS]
   have e16:(!decide ((16:Nat) = 0)) = true := by decide
   have e2:(!decide ((2:Nat) = 0)) = true := by decide
   by_cases h5:q < 5 \/ d > 5
   ·have ht:(bif (decide (((q:Nat):Int) < 5)) then true else (decide (((d:Nat):Int) > 5))) = true := by
     by_cases h:q < 5
     ·rw [decide_eq_true (by omega)]; rfl
     ·rw [decide_eq_false (by omega),cond_false,decide_eq_true_eq]; omega
    rw [ht,cond_true,must_eq e16]
    obtain ⟨p,hp,hpl⟩ := plain_eq (n := n) (IntKind.wrap .i64 (Int.tdiv ((int1 (x :: z)[0]).cell 0).int 16))
    rw [hpl,bS]
    exact ⟨.name p,rfl,raw_name hp,fun l=>by simp only [bs,(names8_ok p hp).2.2]; omega⟩
   have hf:(bif (decide (((q:Nat):Int) < 5)) then true else (decide (((d:Nat):Int) > 5))) = false := by
    rw [decide_eq_false (by omega),cond_false,decide_eq_false_iff_not]; omega
   have hd5:d <= 5 := by omega
   rw [hf,cond_false]
   by_cases h8:q < 8
   ·rw [decide_eq_true (by omega),cond_true,must_eq e16]
    obtain ⟨y,hy,hy5⟩ := pick_eq n (IntKind.wrap .i64 (Int.tdiv ((int1 (x :: z)[0]).cell 0).int 16)) 5 (by omega) (by omega)
    rw [hy,bS]
    exact ⟨.num y,rfl,raw_num (by omega),fun l=>by simp only [bs,digits1 (show y < 10 by omega),lC,lN]; omega⟩
   rw [decide_eq_false (by omega),cond_false,cast_up d (by omega)]
   have hlen:(((x :: z).length:Nat):Int).toNat = (x :: z).length := Int.toNat_natCast _
   simp only [lC] at hz
   by_cases hq8:q = 8
   ·rw [hq8,show (((8:Nat):Int) == 8) = true from rfl,cond_true,must_eq (by simp only [Bool.and_eq_true,decide_eq_true_eq]; exact ⟨⟨⟨by omega,by simp only [lC]; omega⟩,Int.le_refl _⟩,sized_ints _⟩)]
    rw [hlen,take_ints,show Int.toNat 1 = 1 from rfl,drop_ints]
    obtain ⟨e,he,hr,hlb⟩ := ih ((x :: z).take (x :: z).length |>.drop 1) (d + 1) (by simp; omega) (by omega) (by omega)
    rw [he,bS]
    refine ⟨.neg e,?_,raw_neg hd5 hr,fun l=>?_⟩
    ·simp only [kE,nE,wE,oE,encE_eq e]
    ·have := hlb 3
     simp only [List.length_drop,List.length_take,lC] at this
     simp only [bs,lC]
     omega
   ·have hqb:(((q:Nat):Int) == 8) = false := by rw [beq_eq_false_iff_ne]; omega
    rw [hqb,cond_false,must_eq e16]
    obtain ⟨y,hy,hy7⟩ := pick_eq n (IntKind.wrap .i64 (Int.tdiv ((int1 (x :: z)[0]).cell 0).int 16)) 7 (by omega) (by omega)
    have ht0:Int.tdiv (((x :: z).length:Nat):Int) 2 = (((x :: z).length / 2:Nat):Int) := by first | exact Int.ofNat_tdiv _ 2 | exact (Int.ofNat_tdiv _ 2).symm
    have hm0:IntKind.wrap .i64 (Int.tdiv (((x :: z).length:Nat):Int) 2) = (((x :: z).length / 2:Nat):Int) := by
     rw [ht0]
     exact wrap_id (by omega) (by simp only [lC]; omega)
    have hm1:IntKind.wrap .i64 (1 + IntKind.wrap .i64 (Int.tdiv (((x :: z).length:Nat):Int) 2)) = ((1 + (x :: z).length / 2:Nat):Int) := by
     rw [hm0,wrap_id (by omega) (by simp only [lC]; omega)]; omega
    have hle:1 + (x :: z).length / 2 <= (x :: z).length := by simp only [lC]; omega
    rw [hy,bS,must_eq e2,hm1,must_eq (by simp only [Bool.and_eq_true,decide_eq_true_eq]; exact ⟨⟨⟨by omega,by omega⟩,by omega⟩,sized_ints _⟩)]
    rw [hlen,Int.toNat_natCast,take_ints,show Int.toNat 1 = 1 from rfl,drop_ints]
    obtain ⟨e1,he1,hr1,hl1⟩ := ih ((x :: z).take (1 + (x :: z).length / 2) |>.drop 1) (d + 1) (by simp; omega) (by omega) (by omega)
    rw [he1,bS,must_eq (by simp only [Bool.and_eq_true,decide_eq_true_eq]; exact ⟨⟨⟨by omega,by omega⟩,Int.le_refl _⟩,sized_ints _⟩),take_ints,drop_ints]
    obtain ⟨e2',he2,hr2,hl2⟩ := ih ((x :: z).take (x :: z).length |>.drop (1 + (x :: z).length / 2)) (d + 1) (by simp; omega) (by omega) (by omega)
    rw [he2,bS]
    have hk:IntKind.wrap .i64 (4 + (y:Int)) = 4 + (y:Int) := wrap_id (by omega) (by omega)
    have hop:isOp (4 + (y:Int)) = true := by simp only [isOp,Bool.and_eq_true,decide_eq_true_eq]; omega
    refine ⟨.bin (4 + (y:Int)) e1 e2',?_,raw_bin hop hd5 hr1 hr2,fun l=>?_⟩
    ·simp only [kE,nE,wE,oE,encE_eq e1,encE_eq e2',hk]
    ·have h1 := hl1 (left (4 + (y:Int)))
     have h2 := hl2 (lvl (4 + (y:Int)) + 1)
     have h3 := sgn_len (4 + (y:Int))
     simp only [List.length_drop,List.length_take,lC] at h1 h2
     rw [bs]
     split <;> (simp only [lC,lA,lN]; omega)
theorem expr_eqL (z:List Int) (hz:z.length <= 17592186044416) (hn:100 < n):∃ e,m_z62 n (ints .i64 z) 0 = some (kE e,nE e,wE e,oE e) /\ RawE 0 e /\ ∀ l,(bs e l).length <= 7 * z.length + 1 :=
 expr_all n z 0 hz (by omega) (by omega)
end
section
variable {n:Nat}
end
end Go.Proofs.YtbcgpjlkkcdmmaaGreatDoor.W

namespace Go.Proofs.YtbcgpjlkkcdmmaaGreatDoor.W
open Go Go.Eng Go.Eng.Fl
set_option linter.unusedVariables false
set_option linter.unusedSimpArgs false
set_option linter.unusedSectionVars false
def encD (pl:Nat -> Nat × Nat) (d:Dc):T := T.agg [(T.sc (.int .i64 d.kind)),(T.sc (.string (B d.name))),(T.sc (.int .i64 (d.num:Int))),(T.sc (.complex .f64 (pl d.pos).1 (pl d.pos).2))]
def encT (pl:Nat -> Nat × Nat) (l:List St):T := T.list (encSL pl l)
theorem sized_D (pl:Nat -> Nat × Nat) (l:List Dc):sized 4 (l.map (encD pl)) = true := by
 unfold sized
 rw [List.all_eq_true]
 intro y hy
 obtain ⟨t,_,rfl⟩ := List.mem_map.1 hy
 rfl
theorem sized_T (pl:Nat -> Nat × Nat) (l:List (List St)):sized 1 (l.map (encT pl)) = true := by
 unfold sized
 rw [List.all_eq_true]
 intro y hy
 obtain ⟨t,_,rfl⟩ := List.mem_map.1 hy
 rfl
theorem kind_eq (n:Nat) (w:List UInt8):m_z81 n (B w) = some (declK w) := by
 unfold m_z81 declK
 have d:∀ q:ByteArray,(ByteArray.toList (B w) == ByteArray.toList q) = decide (w = L q) := by
  intro q
  rw [bytes_eq,L_B]
  by_cases h:w = L q
  ·rw [decide_eq_true h,beq_iff_eq]; exact h
  ·rw [decide_eq_false h,beq_eq_false_iff_ne]; exact h
 simp only [d,Bool.cond_decide]
 rw [show L (⟨#[118,97,114]⟩:ByteArray) = wVar from rfl,show L (⟨#[119,105,100,101]⟩:ByteArray) = wWide from rfl,show L (⟨#[97,116,111,109,105,99]⟩:ByteArray) = wAtomic from rfl,show L (⟨#[108,111,99,97,108]⟩:ByteArray) = wLocal from rfl,show L (⟨#[109,117,116,101,120]⟩:ByteArray) = wMutex from rfl,show L (⟨#[99,104,97,110]⟩:ByteArray) = wChan from rfl]
 repeat' split
 all_goals rfl
section
variable {s:ByteArray} {TS:List Tok} {n:Nat}
theorem clip_D {es:List T} (h:sized 4 es = true):m_z2 n es = some es := by
 unfold m_z2
 simp [must,h]
theorem clip_T {es:List T} (h:sized 1 es = true):m_z0 n es = some es := by
 unfold m_z0
 simp [must,h]
def ResD (s:ByteArray) (TS:List Tok) (q:Option Q4):RD -> Prop
 | .ok l r=>q = some (l.map (encD (P s)),TS.map (encL s),ix TS r,false) /\ Suf TS r /\ Ended r
 | .bad r=>(∃ l,sized 4 l = true /\ q = some (l,TS.map (encL s),ix TS r,true)) /\ Suf TS r /\ Ended r
theorem dcl_bad (acc:List T) {t:Tok} {r:List Tok} (k:Nat):l_z19_2 n (k + 1) (acc,TS.map (encL s),ix TS (t :: r),true) = some (acc,TS.map (encL s),ix TS (t :: r),true) := by
 show l_z19_2_B n (l_z19_2 n k) (acc,TS.map (encL s),ix TS (t :: r),true) = _
 unfold l_z19_2_B
 simp only [Bool.not_true,idx_false,bS,cond_false]
theorem dcl_eq (acc:List Dc) (t:Tok) (r:List Tok):dcl acc (t :: r) = (if t.kind = 1 /\ declK t.text ≠ 0 then (if acc.length = 24 then .bad (t :: r) else (match r with
   | []=>.bad []
   | t1 :: r1=>if isNm kwd t1.bare then (if declK t.text = 6 then (match r1 with
     | []=>.bad []
     | t2 :: r2=>if t2.kind = 2 /\ t2.num <= 3 then dcl (acc++[⟨6,t1.text,t2.num,t.pos⟩]) r2 else .bad (t2 :: r2)) else dcl (acc++[⟨declK t.text,t1.text,0,t.pos⟩]) r1) else .bad (t1 :: r1)))
  else .ok acc (t :: r)) := by rw [dcl.eq_def] <;> rfl
theorem fitD (k:Nat) (x:T) (acc:List T) (hx:sized 4 [x] = true) (ha:acc.length <= 6001) {R:Type} (q:Option R):must true ((Nat.beq 4 4 || Nat.beq 4 0)&&(decide (List.length acc + List.length [x] <= 1073741824)&&sized 4 [x])) q = q := by
 rw [List.length_singleton,decide_eq_true (show acc.length + 1 <= 1073741824 by omega),hx]
 rfl
theorem sized_add {es:List T} {x:T} (h:sized 4 es = true) (hx:sized 4 [x] = true):sized 4 (es++[x]) = true := by
 unfold sized at *
 rw [List.all_append,h,hx]
 rfl
theorem dcl_loop (hP:TkP TS) (hn:100000 < n):∀ (k:Nat) (acc:List Dc) (r:List Tok),r.length < k -> acc.length + r.length <= 6001 -> Suf TS r -> Ended r →
  ResD s TS (l_z19_2 n k (acc.map (encD (P s)),TS.map (encL s),ix TS r,false)) (dcl acc r) := by
 have hT := hP.tks
 intro k
 induction k with
 | zero=>intro acc r h; omega
 | succ k ih =>
  intro acc r hk ha hs he
  obtain ⟨t,r,rfl⟩ := he.ne
  simp only [lC] at hk ha
  have hl:(acc.map (encD (P s))).length = acc.length := List.length_map _
  show ResD s TS (l_z19_2_B n (l_z19_2 n k) (acc.map (encD (P s)),TS.map (encL s),ix TS (t :: r),false)) _
  unfold l_z19_2_B
  simp only [Bool.not_false,cond_true]
  rw [tok_at hs]
  simp only [bS]
  have e0:((encL s t).cell 0).int = t.kind := rfl
  have e1:((encL s t).cell 1).str = B t.text := rfl
  have e3:T.sc (.complex .f64 ((encL s t).cell 3).re ((encL s t).cell 3).im) = T.sc (.complex .f64 (P s t.pos).1 (P s t.pos).2) := rfl
  rw [e0,e1,dcl_eq]
  by_cases h1:t.kind ≠ 1
  ·rw [show (t.kind == 1) = false from beq_eq_false_iff_ne.2 h1,cond_false,if_neg (fun h=>h1 h.1)]
   exact ⟨rfl,hs,he⟩
  have h1:t.kind = 1 := by omega
  have her := he.cons (by rw [h1]; decide)
  obtain ⟨t1,r1,rfl⟩ := her.ne
  simp only [lC] at hk ha
  rw [beq_iff_eq.2 h1,cond_true,kind_eq,bS]
  by_cases h0:declK t.text = 0
  ·rw [h0,if_neg (fun h=>h.2 rfl)]
   exact ⟨rfl,hs,he⟩
  rw [show (declK t.text == 0) = false from beq_eq_false_iff_ne.2 h0,cond_false,if_pos ⟨h1,h0⟩,hl]
  by_cases h24:acc.length = 24
  ·rw [show ((((acc.length:Nat):Int):Int) == 24) = true by rw [h24]; rfl,cond_true,if_pos h24]
   exact ⟨⟨_,sized_D (P s) acc,rfl⟩,hs,he⟩
  rw [show ((((acc.length:Nat):Int):Int) == 24) = false by rw [beq_eq_false_iff_ne]; omega,cond_false,if_neg h24,ix_up hs hT.len,name_eq hT hn hs.cons,bS,e3]
  simp only
  have hz:∀ (kd:Int) (nm:ByteArray) (m:Int),sized 4 [T.agg [(T.sc (.int .i64 kd)),(T.sc (.string nm)),(T.sc (.int .i64 m)),T.sc (.complex .f64 (P s t.pos).1 (P s t.pos).2)]] = true := fun _ _ _=>rfl
  have ha':(acc.map (encD (P s))).length <= 6001 := by rw [hl]; omega
  obtain ⟨j,rfl⟩:∃ j,k = j + 1 := ⟨k - 1,by omega⟩
  by_cases hb1:isNm kwd t1.bare = true
  ·rw [if_pos hb1,if_pos hb1]
   simp only
   have he1 := her.cons (by rw [isNm_kind hb1]; decide)
   obtain ⟨t2,r2,rfl⟩ := he1.ne
   simp only [lC] at hk ha
   by_cases h6:declK t.text = 6
   ·rw [h6,if_pos rfl,show (((6:Int)) == 6) = true from rfl,cond_true,show ((3:Int)) = ((3:Nat):Int) from rfl,num_eq hT hs.cons.cons,bS]
    simp only
    by_cases hnm:t2.kind = 2 /\ t2.num <= 3
    ·rw [if_pos hnm,if_pos hnm]
     simp only
     rw [<- hl,fitD 0 _ _ (hz _ _ _) ha']
     have := ih (acc++[⟨6,t1.text,t2.num,t.pos⟩]) r2 (by omega) (by simp only [lA,List.length_singleton]; omega) hs.cons.cons.cons (he1.cons (by omega))
     rw [List.map_append] at this
     exact this
    ·rw [if_neg hnm,if_neg hnm]
     simp only
     rw [<- hl,fitD 0 _ _ (hz _ _ _) ha',dcl_bad]
     exact ⟨⟨_,sized_add (sized_D (P s) acc) (hz _ _ _),rfl⟩,hs.cons.cons,he1⟩
   ·rw [if_neg h6,show (declK t.text == 6) = false from beq_eq_false_iff_ne.2 h6,cond_false,<- hl,fitD 0 _ _ (hz _ _ _) ha']
    have := ih (acc++[⟨declK t.text,t1.text,0,t.pos⟩]) (t2 :: r2) (by simp only [lC]; omega) (by simp only [lA,lC,lN]; omega) hs.cons.cons he1
    rw [List.map_append] at this
    exact this
  ·rw [if_neg hb1,if_neg hb1]
   simp only
   rw [num_bad hs.cons,bS]
   simp only
   rw [<- hl,fitD 0 _ _ (hz _ _ _) ha',dcl_bad]
   have hx:∀ (bb:Bool) (x y:Option Q4),ResD s TS x (.bad (t1 :: r1)) -> ResD s TS y (.bad (t1 :: r1)) -> ResD s TS (bif bb then x else y) (.bad (t1 :: r1)) := by intro bb x y h1 h2; cases bb; exact h2; exact h1
   exact hx _ _ _ ⟨⟨_,sized_add (sized_D (P s) acc) (hz _ _ _),rfl⟩,hs.cons,her⟩ ⟨⟨_,sized_add (sized_D (P s) acc) (hz _ _ _),rfl⟩,hs.cons,her⟩
abbrev Q7 := (List T) × Int × Bool × (List T) × (List T) × (List T) × (List T)
def ResT (s:ByteArray) (TS:List Tok) (x y z:List T) (q:Option Q7):RT -> Prop
 | .ok l r=>q = some (TS.map (encL s),ix TS r,false,x,y,z,l.map (encT (P s))) /\ Suf TS r /\ Ended r
 | .bad r=>(∃ l,sized 1 l = true /\ q = some (TS.map (encL s),ix TS r,true,x,y,z,l)) /\ Suf TS r /\ Ended r
theorem thr_bad (x y z acc:List T) {t:Tok} {r:List Tok} (k:Nat):l_z26_2 n (k + 1) (TS.map (encL s),ix TS (t :: r),true,x,y,z,acc) = some (TS.map (encL s),ix TS (t :: r),true,x,y,z,acc) := by
 show l_z26_2_B n (l_z26_2 n k) (TS.map (encL s),ix TS (t :: r),true,x,y,z,acc) = _
 unfold l_z26_2_B
 simp only [Bool.not_true,Bool.false_and,idx_false,bS,cond_false]
theorem thr_eq (acc:List (List St)) (t:Tok) (r:List Tok):thr acc (t :: r) = (if acc ≠ [] /\ t.kind = 4 then .ok acc (t :: r)
  else if acc.length = 4 then .bad (t :: r)
  else if isWord wGo t.bare then (match blk 0 r with
   | .bad r'=>.bad r'
   | .ok l r'=>if r'.length <= r.length then thr (acc++[l]) r' else .bad r')
  else .bad (t :: r)) := by rw [thr.eq_def] <;> rfl
theorem fitT (x:List T) (acc:List T) (ha:acc.length <= 6001) {R:Type} (q:Option R):must true ((Nat.beq 1 1 || Nat.beq 1 0)&&(decide (List.length acc + List.length [T.list x] <= 1073741824)&&sized 1 [T.list x])) q = q := by
 rw [List.length_singleton,decide_eq_true (show acc.length + 1 <= 1073741824 by omega)]
 rfl
theorem sized_addT {es:List T} {x:List T} (h:sized 1 es = true):sized 1 (es++[T.list x]) = true := by
 unfold sized at *
 rw [List.all_append,h]
 rfl
theorem thr_inner (hP:TkP TS) (hn:100000 < n) (x y z:List T) {k:Nat} {acc:List (List St)} {t:Tok} {r:List Tok} (hk:r.length + 1 < k + 1) (ha:acc.length + (r.length + 1) <= 6001) (hs:Suf TS (t :: r)) (he:Ended (t :: r))
  (ih:∀ (acc:List (List St)) (r:List Tok),r.length < k -> acc.length + r.length <= 6001 -> Suf TS r -> Ended r -> ResT s TS x y z (l_z26_2 n k (TS.map (encL s),ix TS r,false,x,y,z,acc.map (encT (P s)))) (thr acc r)) :
  ResT s TS x y z (bif ((((List.length (acc.map (encT (P s))):Nat):Int):Int) == 4) then (
Option.bind (m_z23 n (TS.map (encL s)) (ix TS (t :: r)) false) fun r2 =>
Option.bind (m_z24 n (⟨#[103,111]⟩:ByteArray) r2.1 r2.2.1 r2.2.2) fun r3 =>
Option.bind (m_z18 n 0 r3.1 r3.2.1 r3.2.2) fun r4 =>
must true ((Nat.beq 1 1 || Nat.beq 1 0)&&(decide (List.length (acc.map (encT (P s))) + List.length [(T.list r4.1)] <= 1073741824)&&sized 1 [(T.list r4.1)])) (l_z26_2 n k (r4.2.1,r4.2.2.1,r4.2.2.2,x,y,z,((acc.map (encT (P s)))++[(T.list r4.1)]))))
else (
Option.bind (m_z24 n (⟨#[103,111]⟩:ByteArray) (TS.map (encL s)) (ix TS (t :: r)) false) fun r5 =>
Option.bind (m_z18 n 0 r5.1 r5.2.1 r5.2.2) fun r6 =>
must true ((Nat.beq 1 1 || Nat.beq 1 0)&&(decide (List.length (acc.map (encT (P s))) + List.length [(T.list r6.1)] <= 1073741824)&&sized 1 [(T.list r6.1)])) (l_z26_2 n k (r6.2.1,r6.2.2.1,r6.2.2.2,x,y,z,((acc.map (encT (P s)))++[(T.list r6.1)])))))
  (if acc.length = 4 then .bad (t :: r)
  else if isWord wGo t.bare then (match blk 0 r with
   | .bad r'=>.bad r'
   | .ok l r'=>if r'.length <= r.length then thr (acc++[l]) r' else .bad r')
  else .bad (t :: r)) := by
 have hT := hP.tks
 have hb := pk_ok (s := s) hP hn n
 have hlen := hs.len
 have hlen2 := hT.len
 simp only [lC] at hlen
 have hl:(acc.map (encT (P s))).length = acc.length := List.length_map _
 have ha':(acc.map (encT (P s))).length <= 6001 := by rw [hl]; omega
 obtain ⟨j,rfl⟩:∃ j,k = j + 1 := ⟨k - 1,by omega⟩
 have blkB:m_z18 n 0 (TS.map (encL s)) (ix TS (t :: r)) true = some ([],TS.map (encL s),ix TS (t :: r),true) := hb.bad 0 t r hs (by omega)
 by_cases h4:acc.length = 4
 ·rw [hl,show ((((acc.length:Nat):Int):Int) == 4) = true by rw [h4]; rfl,cond_true,if_pos h4]
  simp only [m_z23,bS]
  rw [must_bad hs,bS]
  simp only
  rw [blkB,bS]
  simp only
  rw [<- hl,fitT _ _ ha',thr_bad]
  exact ⟨⟨_,sized_addT (sized_T (P s) acc),rfl⟩,hs,he⟩
 rw [hl,show ((((acc.length:Nat):Int):Int) == 4) = false by rw [beq_eq_false_iff_ne]; omega,cond_false,if_neg h4]
 rw [mustW hP hs _ (by decide),lits.2.2.2.2.2.2.2.2.2.2,bS]
 by_cases hg:isWord wGo t.bare = true
 ·rw [if_pos hg,if_pos hg]
  simp only
  have her := he.cons (by rw [isWord_kind hg]; decide)
  have hB := hb.blk 0 r (by omega) hs.cons her (by omega)
  have hB':ResB s TS (m_z18 n 0 (TS.map (encL s)) (ix TS r) false) r.length (blk 0 r) := hB
  cases hbl:blk 0 r with
  | bad r3 =>
   rw [hbl] at hB'
   obtain ⟨⟨l,hq⟩,k3,k4⟩ := hB'
   obtain ⟨t3,r3,rfl⟩ := k4.ne
   rw [hq,bS]
   simp only
   rw [<- hl,fitT _ _ ha',thr_bad]
   exact ⟨⟨_,sized_addT (sized_T (P s) acc),rfl⟩,k3,k4⟩
  | ok l r3 =>
   rw [hbl] at hB'
   obtain ⟨hq,k3,k4,hlt⟩ := hB'
   rw [hq,bS]
   simp only
   rw [if_pos (by omega),<- hl,fitT _ _ ha']
   have := ih (acc++[l]) r3 (by omega) (by simp only [lA,List.length_singleton]; omega) k3 k4
   rw [List.map_append] at this
   exact this
 ·rw [if_neg hg,if_neg hg]
  simp only
  rw [blkB,bS]
  simp only
  rw [<- hl,fitT _ _ ha',thr_bad]
  exact ⟨⟨_,sized_addT (sized_T (P s) acc),rfl⟩,hs,he⟩
theorem thr_loop (hP:TkP TS) (hn:100000 < n) (x y z:List T):∀ (k:Nat) (acc:List (List St)) (r:List Tok),r.length < k -> acc.length + r.length <= 6001 -> Suf TS r -> Ended r →
  ResT s TS x y z (l_z26_2 n k (TS.map (encL s),ix TS r,false,x,y,z,acc.map (encT (P s)))) (thr acc r) := by
 intro k
 induction k with
 | zero=>intro acc r h; omega
 | succ k ih =>
  intro acc r hk ha hs he
  obtain ⟨t,r,rfl⟩ := he.ne
  simp only [lC] at hk ha
  have hl:(acc.map (encT (P s))).length = acc.length := List.length_map _
  show ResT s TS x y z (l_z26_2_B n (l_z26_2 n k) (TS.map (encL s),ix TS (t :: r),false,x,y,z,acc.map (encT (P s)))) _
  unfold l_z26_2_B
  simp only [Bool.not_false,Bool.true_and,cond_true]
  rw [thr_eq]
  have e0:((encL s t).cell 0).int = t.kind := rfl
  have hin := thr_inner (s := s) hP hn x y z hk ha hs he ih
  by_cases hz:acc = []
  ·rw [if_neg (fun h=>h.1 hz)]
   rw [show ((((List.length (acc.map (encT (P s))):Nat):Int):Int) == 0) = true by rw [hz]; rfl]
   simp only [Bool.not_true,idx_false,bS,cond_true]
   exact hin
  ·have hzl:acc.length ≠ 0 := fun h=>hz (List.eq_nil_of_length_eq_zero h)
   rw [show ((((List.length (acc.map (encT (P s))):Nat):Int):Int) == 0) = false by rw [hl,beq_eq_false_iff_ne]; omega]
   simp only [Bool.not_false]
   rw [tok_at hs,bS,cond_false,e0]
   by_cases h4:t.kind = 4
   ·rw [if_pos ⟨hz,h4⟩,show (t.kind != 4) = false by rw [h4]; rfl,cond_false]
    exact ⟨rfl,hs,he⟩
   ·rw [if_neg (fun h=>h4 h.2),show (t.kind != 4) = true by simp [bne,h4],cond_true]
    exact hin
theorem prog_eq (hP:TkP TS) (hn:100000 < n) (he:Ended TS):(∃ d l r,prg TS = .ok d l /\ m_z26 n (TS.map (encL s)) 0 false = some (d.map (encD (P s)),l.map (encT (P s)),TS.map (encL s),ix TS r,false)) ∨
  (∃ t r a b,prg TS = .bad (t :: r) /\ Suf TS (t :: r) /\ m_z26 n (TS.map (encL s)) 0 false = some (a,b,TS.map (encL s),ix TS (t :: r),true)) := by
 have hlen2 := hP.tks.len
 obtain ⟨j,hj⟩:∃ j,n = j + 1 := ⟨n - 1,by omega⟩
 have hD := dcl_loop (s := s) hP hn n [] TS (by omega) (by simp only [lN]; omega) (Suf.refl _) he
 rw [ix_all] at hD
 unfold m_z26 m_z19 prg
 cases hd:dcl [] TS with
 | bad r =>
  rw [hd] at hD
  obtain ⟨⟨l,hz,hq⟩,k3,k4⟩ := hD
  obtain ⟨t,r,rfl⟩ := k4.ne
  right
  rw [show l_z19_2 n n ([],TS.map (encL s),0,false) = _ from hq,bS,clip_D hz,bS,bS]
  simp only
  rw [show l_z26_2 n n = l_z26_2 n (j + 1) by rw [<- hj],thr_bad,bS]
  simp only
  rw [clip_T rfl,bS]
  exact ⟨t,r,_,_,rfl,k3,rfl⟩
 | ok d r =>
  rw [hd] at hD
  obtain ⟨hq,k3,k4⟩ := hD
  have hlen := k3.len
  rw [show l_z19_2 n n ([],TS.map (encL s),0,false) = _ from hq,bS,clip_D (sized_D (P s) d),bS,bS]
  simp only
  have hT := thr_loop (s := s) hP hn [] [] (d.map (encD (P s))) n [] r (by omega) (by simp only [lN]; omega) k3 k4
  cases ht:thr [] r with
  | bad r2 =>
   rw [ht] at hT
   obtain ⟨⟨l,hz,hq2⟩,k5,k6⟩ := hT
   obtain ⟨t,r2,rfl⟩ := k6.ne
   right
   rw [show l_z26_2 n n (TS.map (encL s),ix TS r,false,[],[],d.map (encD (P s)),[]) = _ from hq2,bS]
   simp only
   rw [clip_T hz,bS]
   exact ⟨t,r2,_,_,rfl,k5,rfl⟩
  | ok l r2 =>
   rw [ht] at hT
   obtain ⟨hq2,k5,k6⟩ := hT
   left
   rw [show l_z26_2 n n (TS.map (encL s),ix TS r,false,[],[],d.map (encD (P s)),[]) = _ from hq2,bS]
   simp only
   rw [clip_T (sized_T (P s) l),bS]
   exact ⟨d,l,r2,rfl,rfl⟩
end
theorem lexR_mem {Q:Tok -> Prop} (hQ:∀ r p t,tokAt r p = some t -> Q t):∀ (k:Nat) (r:List UInt8) (p:Nat) (acc l:List Tok),r.length <= k -> (∀ t ∈ acc,Q t) -> lexR r p acc = .ok l -> ∀ t ∈ l,Q t := by
 intro k
 induction k with
 | zero =>
  intro r p acc l hr ha h
  obtain rfl := List.eq_nil_of_length_eq_zero (Nat.le_zero.1 hr)
  rw [lexR_nil] at h
  simp only [LR.ok.injEq] at h
  subst h
  exact ha
 | succ k ih =>
  intro r p acc l hr ha h
  cases r with
  | nil =>
   rw [lexR_nil] at h
   simp only [LR.ok.injEq] at h
   subst h
   exact ha
  | cons c r =>
   simp only [lC] at hr
   cases hb:W.blank c with
   | true=>rw [lexR_blank hb] at h; exact ih r _ acc l (by omega) ha h
   | false =>
    by_cases h35:c = 35
    ·subst h35
     rw [lexR_note] at h
     exact ih _ _ acc l (by have := dropWhile_le (· != 10) r; omega) ha h
    ·cases ht:tokAt (c :: r) p with
     | none=>rw [lexR_bad hb h35 ht] at h; cases h
     | some t =>
      rw [lexR_tok hb h35 ht] at h
      refine ih _ _ (acc++[t]) l (by simp only [List.length_drop]; omega) ?_ h
      intro x hx
      rcases List.mem_append.1 hx with hx | hx
      ·exact ha x hx
      ·simp only [List.mem_singleton] at hx; subst hx; exact hQ _ _ _ ht
theorem tokAt_sign {r:List UInt8} {p:Nat} {t:Tok} (h:tokAt r p = some t):t.kind = 3 -> wordB t.text = false := by
 unfold tokAt at h
 cases r with
 | nil=>cases h
 | cons c r' =>
  simp only at h
  split at h
  ·split at h
   ·simp only [Option.some.injEq] at h; subst h; intro h; simp at h
   ·cases h
  ·split at h
   ·split at h
    ·simp only [Option.some.injEq] at h; subst h; intro h; simp at h
    ·cases h
   ·split at h
    ·rename_i hs
     have hf := sign_facts c (by simpa using hs)
     split at h <;> (simp only [Option.some.injEq] at h; subst h; intro _)
     ·rfl
     ·simp [wordB,hf.2.2.1]
    ·cases h
theorem tkp_of {u:List UInt8} (hu:u.length <= 6000) {l:List Tok} (hl:lexR u 0 [] = .ok l):TkP (l++[endT u]) := by
 refine ⟨tks_of hu hl,fun t ht h3=>?_⟩
 rcases List.mem_append.1 ht with ht | ht
 ·exact lexR_mem (Q := fun t=>t.kind = 3 -> wordB t.text = false) (fun r p t h=>tokAt_sign h) u.length u 0 [] l (Nat.le_refl _) (by simp) hl t ht h3
 ·simp only [List.mem_singleton] at ht; subst ht; cases h3
theorem read_ok {n:Nat} (hn:100000 < n) {u:List UInt8} (hu:u.length <= 6000) {l:List Tok} (hl:lexR u 0 [] = .ok l) {d:List Dc} {th:List (List St)} (h:prg (l++[endT u]) = .ok d th) :
  m_z92 n (B u) = some (d.map (encD (P (B u))),th.map (encT (P (B u))),(0,0),0) := by
 have hP := tkp_of hu hl
 unfold m_z92
 rw [toks_ok hn hu hl,bS,show ((((0:Int)):Int) != 0) = false from rfl,cond_false]
 rcases prog_eq (s := B u) hP hn hP.tks.ended with ⟨d',l',r,h1,h2⟩ | ⟨t,r,a,b,h1,_,_⟩
 ·rw [h2,bS,cond_false]
  rw [h] at h1
  cases h1
  rfl
 ·rw [h] at h1; cases h1
theorem read_no {n:Nat} (hn:100000 < n) {u:List UInt8} (hu:u.length <= 6000) {l:List Tok} (hl:lexR u 0 [] = .ok l) {t:Tok} {r:List Tok} (h:prg (l++[endT u]) = .bad (t :: r)) :
  m_z92 n (B u) = some ([],[],P (B u) t.pos,2) := by
 have hP := tkp_of hu hl
 unfold m_z92
 rw [toks_ok hn hu hl,bS,show ((((0:Int)):Int) != 0) = false from rfl,cond_false]
 rcases prog_eq (s := B u) hP hn hP.tks.ended with ⟨d',l',r',h1,h2⟩ | ⟨t',r',a,b,h1,hsf,h2⟩
 ·rw [h] at h1; cases h1
 ·rw [h2,bS]
  simp only
  rw [cond_true,tok_at hsf,bS]
  rw [h] at h1
  cases h1
  rfl
end Go.Proofs.YtbcgpjlkkcdmmaaGreatDoor.W

