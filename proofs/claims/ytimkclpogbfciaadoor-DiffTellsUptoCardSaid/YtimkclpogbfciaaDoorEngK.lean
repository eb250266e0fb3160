/- The engine: a region whose order is drawn. -/
import Derived.Test.YtimkclpogbfciaaDoorEngJ
set_option linter.unusedVariables false
set_option linter.unusedSimpArgs false
namespace Go.Eng
open Go.RowKit
def drawB (ops : Array Oper) : Bool :=
 let b := Region.before ops
 let l := ops.toList.zipIdx
 l.all fun (o, i) => o.after.all (fun e => !Region.binds .any e || decide (e.on < i)) && (l.all fun (k, j) => !(decide (j < i)) || (b.getD i 0).testBit j || pairOk ops i o j k)
def beforeOf (acc : Array Nat) (o : Oper) : Nat := o.after.foldl (fun s e => if Region.binds .any e then s ||| 2 ^ e.on ||| acc.getD e.on 0 else s) 0
theorem before_def (ops : Array Oper) : Region.before ops = ops.toList.foldl (fun acc o => acc.push (beforeOf acc o)) #[] := by
 unfold Region.before
 rw [<- Array.foldl_toList]
 rfl
theorem before_fold : ∀ (l : List Oper) (acc : Array Nat), (l.foldl (fun acc o => acc.push (beforeOf acc o)) acc).size = acc.size + l.length ∧
  (∀ i, i < acc.size -> (l.foldl (fun acc o => acc.push (beforeOf acc o)) acc)[i]? = acc[i]?) ∧
  ∀ (i : Nat) (o : Oper), l[i]? = some o -> ∃ acc', acc'.size = acc.size + i /\ (∀ k, k < acc'.size -> acc'[k]? = (l.foldl (fun acc o => acc.push (beforeOf acc o)) acc)[k]?) ∧
   (l.foldl (fun acc o => acc.push (beforeOf acc o)) acc)[acc.size + i]? = some (beforeOf acc' o)
 | [], acc => ⟨by simp, fun i _ => rfl, fun i o h => by simp at h⟩
 | x :: l, acc => by
  obtain ⟨h1, h2, h3⟩ := before_fold l (acc.push (beforeOf acc x))
  simp only [List.foldl_cons]
  refine ⟨by rw [h1]; simp; omega, fun i hi => ?_, fun i o ho => ?_⟩
  ·rw [h2 i (by simp; omega), Array.getElem?_push, if_neg (by omega)]
  ·cases i with
   | zero =>
    simp at ho; subst ho
    refine ⟨acc, by simp, fun k hk => ?_, ?_⟩
    ·rw [h2 k (by simp; omega), Array.getElem?_push, if_neg (by omega)]
    ·rw [Nat.add_zero, h2 acc.size (by simp)]; simp
   | succ i =>
    obtain ⟨acc', k1, k2, k3⟩ := h3 i o (by simpa using ho)
    refine ⟨acc', by rw [k1]; simp; omega, k2, ?_⟩
    rw [<- k3]; congr 1; simp; omega
theorem fold_bit {acc : Array Nat} {k : Nat} : ∀ (l : List Edge) (s : Nat), (l.foldl (fun s e => if Region.binds .any e then s ||| 2 ^ e.on ||| acc.getD e.on 0 else s) s).testBit k = true →
  s.testBit k = true \/ ∃ e ∈ l, Region.binds .any e = true /\ (e.on = k \/ (acc.getD e.on 0).testBit k = true)
 | [], s, h => .inl h
 | e :: l, s, h => by
  simp only [List.foldl_cons] at h
  rcases fold_bit l _ h with h1 | ⟨e', he, h2, h3⟩
  ·split at h1
   ·rename_i hb
    simp only [Nat.testBit_or, Bool.or_eq_true] at h1
    rcases h1 with (h1 | h1) | h1
    ·exact .inl h1
    ·right
     refine ⟨e, by simp, hb, .inl ?_⟩
     rw [Nat.testBit_two_pow] at h1
     simpa using h1
    ·exact .inr ⟨e, by simp, hb, .inr h1⟩
   ·exact .inl h1
  ·exact .inr ⟨e', by simp [he], h2, h3⟩
theorem before_bit {ops : Array Oper} {i k : Nat} {o : Oper} (hi : ops.toList[i]? = some o) (h : ((Region.before ops).getD i 0).testBit k = true) :
  ∃ e ∈ o.after, Region.binds .any e = true /\ (e.on = k \/ (e.on < i /\ ((Region.before ops).getD e.on 0).testBit k = true)) := by
 rw [before_def] at h ⊢
 obtain ⟨h1, h2, h3⟩ := before_fold ops.toList #[]
 obtain ⟨acc', k1, k2, k3⟩ := h3 i o hi
 simp only [Array.size_empty, Nat.zero_add] at k1 k3
 have hg : (ops.toList.foldl (fun acc o => acc.push (beforeOf acc o)) #[]).getD i 0 = beforeOf acc' o := by
  rw [Array.getD_eq_getD_getElem?, k3]; rfl
 rw [hg] at h
 unfold beforeOf at h
 rw [<- Array.foldl_toList] at h
 rcases fold_bit _ _ h with h | ⟨e, he, hb, h⟩
 ·simp at h
 ·refine ⟨e, by simpa using he, hb, h.imp id fun h => ?_⟩
  have hlt : e.on < acc'.size := by
   rcases Nat.lt_or_ge e.on acc'.size with hh | hh
   ·exact hh
   ·rw [Array.getD_eq_getD_getElem?, Array.getElem?_eq_none hh] at h; simp at h
  refine ⟨by omega, ?_⟩
  rw [Array.getD_eq_getD_getElem?, <- k2 e.on hlt, <- Array.getD_eq_getD_getElem?]
  exact h
section
variable {P : Program} {base : Nat} {ops : Array Oper}
def Closed (ops : Array Oper) (listed : Array Bool) : Prop :=
 ∀ (k : Nat) (o : Oper), ops.toList[k]? = some o -> listed.getD k false = true -> ∀ e ∈ o.after, Region.binds .any e = true -> listed.getD e.on false = true
theorem before_listed {listed : Array Bool} (hc : Closed ops listed) {k : Nat} : ∀ (i : Nat) {o : Oper}, ops.toList[i]? = some o -> (∀ e ∈ o.after, Region.binds .any e = true -> listed.getD e.on false = true) →
  ((Region.before ops).getD i 0).testBit k = true -> listed.getD k false = true := by
 intro i
 induction i using Nat.strongRecOn with
 | _ i ih =>
  intro o ho hall hb
  obtain ⟨e, he, hbind, h⟩ := before_bit ho hb
  have hl := hall e he hbind
  rcases h with rfl | ⟨hlt, h⟩
  ·exact hl
  ·have hn := (List.getElem?_eq_some_iff.1 ho).1
   have hoe : ops.toList[e.on]? = some ops.toList[e.on] := List.getElem?_eq_getElem (by omega)
   exact ih e.on hlt hoe (hc e.on _ hoe hl) h
def rem (n : Nat) (listed : Array Bool) : List Nat := (List.range n).filter fun k => !listed.getD k true
theorem mem_rem {n : Nat} {listed : Array Bool} {k : Nat} : k ∈ rem n listed ↔ k < n /\ listed.getD k true = false := by
 simp [rem]
theorem getD_dir {listed : Array Bool} {k : Nat} (h : k < listed.size) (d d' : Bool) : listed.getD k d = listed.getD k d' := by
 simp [Array.getD_eq_getD_getElem?, h]
theorem rem_sorted (n : Nat) (listed : Array Bool) : (rem n listed).Pairwise (· < ·) := List.Pairwise.filter _ (List.pairwise_lt_range)
theorem filter_ne {i : Nat} : ∀ {l : List Nat}, i ∉ l -> l.filter (fun k => k != i) = l
 | [], _ => rfl
 | x :: xs, h => by
  simp only [List.mem_cons, not_or] at h
  have : (x != i) = true := by simp; exact fun hh => h.1 hh.symm
  simp only [List.filter_cons, this, if_true]
  rw [filter_ne h.2]
theorem rem_take {n : Nat} {listed : Array Bool} {i : Nat} (hi : i ∈ rem n listed) (hsz : listed.size = n) :
  ∃ pre post, rem n listed = pre ++ i :: post /\ rem n (listed.setIfInBounds i true) = pre ++ post /\ (∀ j ∈ pre, j < i) /\ i ∉ pre ++ post := by
 obtain ⟨pre, post, h⟩ := List.append_of_mem hi
 have hs := rem_sorted n listed
 rw [h] at hs
 obtain ⟨_, h2, h3⟩ := List.pairwise_append.1 hs
 have hpre : ∀ j ∈ pre, j < i := fun j hj => h3 j hj i (by simp)
 have hpost : ∀ j ∈ post, i < j := (List.pairwise_cons.1 h2).1
 have hn : i ∉ pre ++ post := by
  intro hh
  rcases List.mem_append.1 hh with hh | hh
  ·exact Nat.lt_irrefl _ (hpre i hh)
  ·exact Nat.lt_irrefl _ (hpost i hh)
 refine ⟨pre, post, h, ?_, hpre, hn⟩
 have hf : rem n (listed.setIfInBounds i true) = (rem n listed).filter (fun k => k != i) := by
  unfold rem
  rw [List.filter_filter]
  apply List.filter_congr
  intro k hk
  by_cases hki : k = i
  ·subst hki
   have hlt : k < listed.size := by rw [hsz]; exact (mem_rem.1 hi).1
   simp [hlt]
  ·rw [getD_set_ne true (fun hh => hki hh.symm)]
   simp [hki]
 rw [hf, h, List.filter_append, List.filter_cons_of_neg (by simp), filter_ne (fun hh => hn (List.mem_append_left _ hh)), filter_ne (fun hh => hn (List.mem_append_right _ hh))]
theorem step_logs {call : CallF} {l : List Oper} {p : Nat} {r r' : R} (hpl : p < r.tl.length) (h : step P call l base p r = some r') : (∀ k, k ≠ p -> r'.tl[k]? = r.tl[k]? /\ r'.ll[k]? = r.ll[k]?) /\ r'.tl.length = r.tl.length /\ r'.ll.length = r.ll.length := by
 cases hi : l[p]? with
 | none =>
  unfold step at h
  simp only [hi, Option.some.injEq] at h
  subst h
  exact ⟨fun _ _ => ⟨rfl, rfl⟩, rfl, rfl⟩
 | some o =>
  cases hE : isE o with
  | true =>
   have := step_struck hi hE hpl h
   exact ⟨fun k hk => ⟨this.tl k hk, this.ll k hk⟩, this.len, this.lll⟩
  | false =>
   rw [step_quietly hi hE] at h
   cases hq : quiet P l base p o r.env r.sig r.tl[p]? with
   | none => simp [hq] at h
   | some q =>
    simp [hq] at h
    subst h
    exact ⟨fun k hk => ⟨on_tl_ne (fun hh => hk hh.symm), on_ll_ne (fun hh => hk hh.symm)⟩, on_tl_len, on_ll_len⟩
theorem steps_logs {call : CallF} {l : List Oper} : ∀ {L : List Nat} {r r' : R}, (∀ k ∈ L, k < r.tl.length) -> steps P call l base L r = some r' -> (∀ k, k ∉ L -> r'.tl[k]? = r.tl[k]? /\ r'.ll[k]? = r.ll[k]?) /\ r'.tl.length = r.tl.length /\ r'.ll.length = r.ll.length
 | [], r, r', _, h => by
  simp only [steps, Option.some.injEq] at h
  subst h
  exact ⟨fun _ _ => ⟨rfl, rfl⟩, rfl, rfl⟩
 | i :: L, r, r', hL, h => by
  simp only [steps] at h
  split at h
  ·rename_i r1 h1
   obtain ⟨a1, a2, a3⟩ := step_logs (hL i (by simp)) h1
   obtain ⟨b1, b2, b3⟩ := steps_logs (fun k hk => by rw [a2]; exact hL k (by simp [hk])) h
   refine ⟨fun k hk => ?_, by rw [b2, a2], by rw [b3, a3]⟩
   simp only [List.mem_cons, not_or] at hk
   obtain ⟨c1, c2⟩ := b1 k hk.2
   obtain ⟨d1, d2⟩ := a1 k hk.1
   exact ⟨c1.trans d1, c2.trans d2⟩
  ·cases h
def Loose (ops : Array Oper) (i j : Nat) : Prop := ((Region.before ops).getD i 0).testBit j = false /\ ((Region.before ops).getD j 0).testBit i = false
theorem apart_seen {rN : R} (h : apartOk ops rN = true) {i j : Nat} (hij : i ≠ j) (hl : Loose ops i j) {oi oj : Oper} (hj : ops.toList[j]? = some oj) : Seen rN i j oi oj := by
 unfold apartOk at h
 simp only [Bool.and_eq_true, List.all_eq_true] at h
 obtain ⟨h1, h2⟩ := h
 obtain ⟨hl1, hl2⟩ := hl
 have hz : ∀ {α : Type} {l : List α} {k : Nat} {x : α}, l[k]? = some x -> (x, k) ∈ l.zipIdx := fun h => List.mk_mem_zipIdx_iff_getElem?.2 h
 refine ⟨fun id ids hll htl => ?_, fun ha ids ids' id htj hti hid => ?_⟩
 ·have := h1 _ (hz hll)
  simp only [List.all_eq_true] at this
  have := this _ (hz htl)
  simp only [hl1, hl2, Bool.or_false, Bool.not_eq_true', List.contains_eq_mem, decide_eq_false_iff_not] at this
  exact this
 ·have := h2 _ (hz htj)
  have hoj : (ops[j]?).map isAlloc = some true := by
   have : ops[j]? = some oj := by simpa using hj
   rw [this]; simp [ha]
  simp only [hoj, List.all_eq_true] at this
  have := this _ (hz hti)
  simp only [hl1, hl2, Bool.or_false, Bool.or_eq_true, beq_iff_eq, List.all_eq_true, Bool.not_eq_true', List.contains_eq_mem, decide_eq_false_iff_not] at this
  exact (this.resolve_left hij) id hid
theorem Seen.of {r r' : R} {i j : Nat} {oi oj : Oper} (h : Seen r i j oi oj) (hti : r'.tl[i]? = r.tl[i]?) (htj : r'.tl[j]? = r.tl[j]?) (hli : r'.ll[i]? = r.ll[i]?) : Seen r' i j oi oj :=
 ⟨fun id ids a b => h.load id ids (by rw [<- hli]; exact a) (by rw [<- htj]; exact b), fun ha ids ids' id a b => h.alloc ha ids ids' id (by rw [<- htj]; exact a) (by rw [<- hti]; exact b)⟩
theorem steps_first {call : CallF} {rN : R} (hap : apartOk ops rN = true) {i : Nat} {oi : Oper} (hi : ops.toList[i]? = some oi) {post : List Nat} : ∀ {pre : List Nat} {r : R}, (∀ j ∈ pre, ∃ oj, ops.toList[j]? = some oj /\ Loose ops i j /\ pairOk ops i oi j oj = true) →
  (pre ++ i :: post).Nodup -> (∀ k ∈ pre ++ i :: post, k < r.tl.length /\ k < r.ll.length) -> steps P call ops.toList base (pre ++ i :: post) r = some rN →
  ∃ r1, step P call ops.toList base i r = some r1 /\ steps P call ops.toList base (pre ++ post) r1 = some rN
 | [], r, _, _, _, h => by
  simp only [List.nil_append, steps] at h
  split at h
  ·rename_i r1 h1; exact ⟨r1, h1, by simpa using h⟩
  ·cases h
 | j :: pre, r, hpre, hnd, hlt, h => by
  simp only [List.cons_append, steps] at h
  split at h
  ·rename_i r1 h1
   obtain ⟨hnj, hnd'⟩ := List.nodup_cons.1 hnd
   have hjl := hlt j (by simp)
   obtain ⟨a1, a2, a3⟩ := step_logs hjl.1 h1
   obtain ⟨r2, h2, h3⟩ := steps_first hap hi (fun k hk => hpre k (by simp [hk])) hnd' (fun k hk => by rw [a2, a3]; exact hlt k (by simp only [List.cons_append, List.mem_cons]; exact .inr hk)) h
   obtain ⟨oj, hoj, hloose, hpair⟩ := hpre j (by simp)
   have hij : i ≠ j := fun hh => hnj (by subst hh; simp)
   have hil := hlt i (by simp)
   have hni : i ∉ pre ++ post := by
    obtain ⟨_, n2, n3⟩ := List.nodup_append.1 hnd'
    intro hh
    rcases List.mem_append.1 hh with hh | hh
    ·exact n3 i hh i (by simp) rfl
    ·exact (List.nodup_cons.1 n2).1 hh
   have hnj' : j ∉ pre ++ post := fun hh => hnj (by
    rcases List.mem_append.1 hh with hh | hh
    ·exact List.mem_append_left _ hh
    ·exact List.mem_append_right _ (by simp [hh]))
   obtain ⟨b1, b2, b3⟩ := step_logs (p := i) (by rw [a2]; exact hil.1) h2
   obtain ⟨c1, _, _⟩ := steps_logs (fun k hk => by
    rw [b2, a2]
    refine (hlt k ?_).1
    simp only [List.cons_append, List.mem_cons]
    right
    rcases List.mem_append.1 hk with hk | hk
    ·exact List.mem_append_left _ hk
    ·exact List.mem_append_right _ (by simp [hk])) h3
   have e1 := c1 i hni
   have e2 := c1 j hnj'
   have hs1 : Seen r2 i j oi oj := (apart_seen hap hij hloose hoj).of e1.1.symm e2.1.symm e1.2.symm
   have hs2 : Seen r2 j i oj oi := (apart_seen hap (fun h => hij h.symm) ⟨hloose.2, hloose.1⟩ hi).of e2.1.symm e1.1.symm e2.2.symm
   obtain ⟨r1', k1, k2⟩ := swap hij hi hoj hpair hil.1 hjl.1 hil.2 hjl.2 h1 h2 hs1 hs2
   exact ⟨r1', k1, by simp only [List.cons_append, steps, k2]; exact h3⟩
  ·cases h
theorem drawB_pair (h : drawB ops = true) {i j : Nat} {oi oj : Oper} (hi : ops.toList[i]? = some oi) (hj : ops.toList[j]? = some oj) (hij : j < i) : ((Region.before ops).getD i 0).testBit j = true \/ pairOk ops i oi j oj = true := by
 unfold drawB at h
 simp only [List.all_eq_true, Bool.and_eq_true] at h
 have h1 := (h (oi, i) (List.mk_mem_zipIdx_iff_getElem?.2 hi)).2 (oj, j) (List.mk_mem_zipIdx_iff_getElem?.2 hj)
 simp only [hij, decide_true, Bool.not_true, Bool.false_or, Bool.or_eq_true] at h1
 exact h1
theorem drawB_edge (h : drawB ops = true) {i : Nat} {oi : Oper} (hi : ops.toList[i]? = some oi) {e : Edge} (he : e ∈ oi.after) (hb : Region.binds .any e = true) : e.on < i := by
 unfold drawB at h
 simp only [List.all_eq_true, Bool.and_eq_true] at h
 have h1 := (h (oi, i) (List.mk_mem_zipIdx_iff_getElem?.2 hi)).1
 rw [Array.all_eq_true_iff_forall_mem] at h1
 simpa [hb] using h1 e he
theorem pairOk_symm {i j : Nat} {oi oj : Oper} (h : pairOk ops i oi j oj = true) : pairOk ops j oj i oi = true := by
 simp only [pairOk, Bool.and_eq_true, Bool.or_eq_true, Bool.not_eq_true', Bool.and_eq_false_iff] at h ⊢
 obtain ⟨⟨⟨h1, h2⟩, h3⟩, h4⟩ := h
 refine ⟨⟨⟨h1.symm, ?_⟩, h4⟩, h3⟩
 obtain ⟨a1, a2, a3⟩ := Oper.apart_spec h2
 unfold Oper.apart
 simp only [Bool.and_eq_true]
 refine ⟨?_, ?_⟩
 ·cases hd : oj.dst with
  | none => rfl
  | some d =>
   simp only [Bool.and_eq_true, Bool.not_eq_true', List.contains_eq_mem, decide_eq_false_iff_not, bne_iff_ne]
   exact ⟨a3 d hd, fun hh => a2 d hh hd⟩
 ·cases hd : oi.dst with
  | none => rfl
  | some d =>
   simp only [Bool.not_eq_true', List.contains_eq_mem, decide_eq_false_iff_not]
   exact a1 d hd
theorem before_lt (h : drawB ops = true) {k : Nat} : ∀ (i : Nat) {o : Oper}, ops.toList[i]? = some o -> ((Region.before ops).getD i 0).testBit k = true -> k < i := by
 intro i
 induction i using Nat.strongRecOn with
 | _ i ih =>
  intro o ho hb
  obtain ⟨e, he, hbind, h1⟩ := before_bit ho hb
  have hlt := drawB_edge h ho he hbind
  rcases h1 with rfl | ⟨_, h1⟩
  ·exact hlt
  ·have hn := (List.getElem?_eq_some_iff.1 ho).1
   have := ih e.on hlt (List.getElem?_eq_getElem (show e.on < ops.toList.length by omega)) h1
   omega
def dnOf (listed : Array Bool) : Nat -> Prop := fun k => listed.getD k false = true
theorem dnOf_set {listed : Array Bool} {i : Nat} (hi : i < listed.size) : dnOf (listed.setIfInBounds i true) = also (dnOf listed) i := by
 funext k
 simp only [dnOf, also, eq_iff_iff]
 by_cases hk : k = i
 ·subst hk; simp [hi]
 ·rw [getD_set_ne false (fun hh => hk hh.symm)]; simp [hk]
theorem any_steps {call : CallF} (hcall : CallFSound P call) (hst : drawB ops = true) {rN : R} (hap : apartOk ops rN = true) {Q : Exit -> Act -> World -> Prop} {w0 : World} {g0 : Gh} (hQ : ∀ a w g, St P rN.env rN.sig a w g -> Ext w0 g0 w g -> Q .normal a w) :
  ∀ (fuel : Nat) {listed : Array Bool} {a : Act} {w : World} {g : Gh} {r : R}, listed.size = ops.size -> Closed ops listed -> (rem ops.size listed).length <= fuel -> SimR P ops.toList base (dnOf listed) r a w g -> Ext w0 g0 w g -> r.ll.length = ops.size →
   steps P call ops.toList base (rem ops.size listed) r = some rN -> wpAny P .any ops Q fuel listed a w := by
 have hlen : ops.toList.length = ops.size := by simp
 have hempty : ∀ {listed : Array Bool}, Closed ops listed -> Region.ready .any ops listed = [] -> rem ops.size listed = [] := by
  intro listed hc hr
  cases hrem : rem ops.size listed with
  | nil => rfl
  | cons m rest =>
   exfalso
   have hm : m ∈ rem ops.size listed := by rw [hrem]; simp
   obtain ⟨hm1, hm2⟩ := mem_rem.1 hm
   have hsort := rem_sorted ops.size listed
   rw [hrem] at hsort
   have hmin := (List.pairwise_cons.1 hsort).1
   have hom : ops.toList[m]? = some (ops.toList[m]'(by omega)) := List.getElem?_eq_getElem (by omega)
   have : m ∈ Region.ready .any ops listed := by
    rw [mem_ready]
    refine ⟨hm2, ops.toList[m]'(by omega), by simp, fun e he hb => ?_⟩
    have hlt := drawB_edge hst hom he hb
    cases hl : listed.getD e.on true with
    | true =>
     cases h2 : listed.getD e.on false with
     | true => rfl
     | false =>
      rcases Nat.lt_or_ge e.on listed.size with hh | hh
      ·rw [getD_dir hh false true] at h2; rw [h2] at hl; cases hl
      ·have hm3 : listed.size <= m := by omega
       rw [Array.getD_eq_getD_getElem?, Array.getElem?_eq_none hm3] at hm2
       cases hm2
    | false =>
     have : e.on ∈ rem ops.size listed := mem_rem.2 ⟨by omega, hl⟩
     rw [hrem] at this
     rcases List.mem_cons.1 this with h | h
     ·omega
     ·have := hmin _ h; omega
   rw [hr] at this
   cases this
 have hready : ∀ {listed : Array Bool} {i : Nat}, i ∈ Region.ready .any ops listed -> i ∈ rem ops.size listed := by
  intro listed i h
  obtain ⟨h1, o, ho, _⟩ := mem_ready.1 h
  exact mem_rem.2 ⟨(Array.getElem?_eq_some_iff.1 ho).1, h1⟩
 intro fuel
 induction fuel with
 | zero =>
  intro listed a w g r hsz hc hf hS hx hll hs
  have hrem : rem ops.size listed = [] := List.length_eq_zero_iff.1 (by omega)
  rw [hrem] at hs
  simp only [steps, Option.some.injEq] at hs
  subst hs
  refine ⟨?_, hQ _ _ g hS.stop hx⟩
  cases hr : Region.ready .any ops listed with
  | nil => rfl
  | cons i rest =>
   have := hready (listed := listed) (i := i) (by rw [hr]; simp)
   rw [hrem] at this; cases this
 | succ fuel ih =>
  intro listed a w g r hsz hc hf hS hx hll hs
  refine ⟨fun hr => ?_, fun i hi => ?_⟩
  ·have hrem := hempty hc hr
   rw [hrem] at hs
   simp only [steps, Option.some.injEq] at hs
   subst hs
   exact hQ _ _ g hS.stop hx
  ·have him := hready hi
   obtain ⟨hi1, oi, hoi, hall⟩ := mem_ready.1 hi
   have hoi' : ops.toList[i]? = some oi := by simpa using hoi
   obtain ⟨hin, _⟩ := mem_rem.1 him
   obtain ⟨pre, post, hr1, hr2, hpre, hni⟩ := rem_take him hsz
   have hnl : listed.getD i false = false := by rw [getD_dir (by omega) false true]; exact hi1
   have hloose : ∀ j, j < ops.size -> j ≠ i -> listed.getD j false = false -> ((Region.before ops).getD i 0).testBit j = false := by
    intro j hj hji hjl
    cases hb : ((Region.before ops).getD i 0).testBit j with
    | false => rfl
    | true =>
     have := before_listed hc i hoi' hall hb
     rw [this] at hjl; cases hjl
   have hoj : ∀ j, j < ops.size -> ops.toList[j]? = some (ops.toList.getD j default) := by
    intro j hj
    rw [List.getD_eq_getElem?_getD, List.getElem?_eq_getElem (show j < ops.toList.length by omega)]; rfl
   rw [hr1] at hs
   have hnd : (pre ++ i :: post).Nodup := by rw [<- hr1]; exact (rem_sorted _ _).imp (fun h => Nat.ne_of_lt h)
   obtain ⟨r1, h1, h2⟩ := steps_first hap hoi' (fun j hj => by
    have hjm : j ∈ rem ops.size listed := by rw [hr1]; exact List.mem_append_left _ hj
    obtain ⟨hj1, hj2⟩ := mem_rem.1 hjm
    have hji := hpre j hj
    have hb1 := hloose j hj1 (by omega) (by rw [getD_dir (by omega) false true]; exact hj2)
    refine ⟨_, hoj j hj1, ⟨hb1, ?_⟩, ?_⟩
    ·cases hb : ((Region.before ops).getD j 0).testBit i with
     | false => rfl
     | true => have := before_lt hst j (hoj j hj1) hb; omega
    ·rcases drawB_pair hst hoi' (hoj j hj1) hji with h | h
     ·rw [hb1] at h; cases h
     ·exact h) hnd (fun k hk => by
     rw [<- hr1] at hk
     have := (mem_rem.1 hk).1
     rw [hS.tlen, hll, hlen]; exact ⟨this, this⟩) hs
   have hR : Ready ops.toList (dnOf listed) i := by
    refine ⟨fun h => (by simp only [dnOf] at h; rw [h] at hnl; cases hnl), fun k o ok d ho hd hk hok hdst => ?_, fun o ho hE k ok hk hok hkE => ?_⟩
    ·rw [hoi'] at ho
     simp only [Option.some.injEq] at ho
     subst ho
     cases hl : listed.getD k false with
     | true => exact hl
     | false =>
      exfalso
      rcases drawB_pair hst hoi' hok hk with h | h
      ·rw [hloose k (by omega) (by omega) hl] at h; cases h
      ·simp only [pairOk, Bool.and_eq_true] at h
       obtain ⟨_, _, a3⟩ := Oper.apart_spec h.1.1.2
       exact a3 d hdst (mem_looksAt_opnd hd)
    ·rw [hoi'] at ho
     simp only [Option.some.injEq] at ho
     subst ho
     rcases Nat.lt_trichotomy k i with h | h | h
     ·exact h
     ·subst h; simp only [dnOf] at hk; rw [hk] at hnl; cases hnl
     ·exfalso
      rcases drawB_pair hst hok hoi' h with hb | hp
      ·have := before_listed hc k hok (hc k ok hok hk) hb
       rw [this] at hnl; cases hnl
      ·simp only [pairOk, Bool.and_eq_true, Bool.not_eq_true', Bool.and_eq_false_iff] at hp
       rcases hp.1.1.1 with h | h
       ·rw [h] at hkE; cases hkE
       ·rw [h] at hE; cases hE
   obtain ⟨_, _, l3⟩ := step_logs (by rw [hS.tlen, hlen]; exact hin) h1
   refine step_sound hcall hS hR h1 Q _ (fun a' w' g' hS' hx' => ?_)
   refine ih (by simpa using hsz) ?_ ?_ (by rw [dnOf_set (by omega)]; exact hS') (hx.trans hx') (by rw [l3, hll]) (by rw [hr2]; exact h2)
   ·intro k o ho hk e he hb
    by_cases hki : k = i
    ·subst hki
     rw [hoi'] at ho
     simp only [Option.some.injEq] at ho
     subst ho
     exact getD_set_true (hall e he hb)
    ·rw [getD_set_ne false (fun hh => hki hh.symm)] at hk
     exact getD_set_true (hc k o ho hk e he hb)
   ·rw [hr2]
    rw [hr1] at hf
    simp at hf ⊢
    omega
theorem Ext.drew (w : World) (g : Gh) : Ext w g { w with drawn := w.drawn + 1 } g :=
 ⟨Nat.le_refl _, fun b lim h => ⟨lim, h, Nat.le_refl _, fun _ _ => rfl⟩, fun _ _ _ _ => ⟨rfl, rfl⟩, rfl, rfl, rfl, fun _ _ h => h, fun id b h => .inr ⟨id, h⟩, fun b l h => .inr ⟨l, h⟩⟩
theorem St.drew {e : Env} {sig : Sig} {a : Act} {w : World} {g : Gh} (h : St P e sig a w g) : St P e sig a { w with drawn := w.drawn + 1 } g := by
 have hl := (Ext.drew w g).later
 have hr : ∀ l b, g.O b = some l -> g.O b = some l /\ g.F b = g.F b /\ ({ w with drawn := w.drawn + 1 } : World).heap[b]? = w.heap[b]? := fun l b hb => ⟨hb, rfl, rfl⟩
 refine ⟨⟨h.E.size, fun s hs => RelV.later hl h.W.noNil (hr _) (h.E.at_ s hs)⟩, ⟨fun id b hb => ?_, h.B.inj, h.B.apart⟩, ⟨h.W.lt, h.W.ltφ, h.W.noNil, h.W.own, h.W.globs (Nat.le_refl _) (fun _ _ => rfl) (fun b hb => (h.W.glob b hb).2.2.1) (fun b hb => (h.W.glob b hb).2.2.2)⟩, h.noArg, h.noRes, h.defers⟩
 obtain ⟨cs, c, el, h1, h2, h3, h4⟩ := h.B.box id b hb
 exact ⟨cs, c, el, h1, h2, h3, fun k v x hv hx => ⟨RelV.later hl h.W.noNil (hr _) (h4 k v x hv hx).1, (h4 k v x hv hx).2⟩⟩
theorem draw_ok (hm : P.follows .mixedOrders = true) (hst : drawB ops = true) : DrawOk P ops := by
 intro call hcall id e sig e' sig' a w g h hS
 unfold evRegion at h
 simp only at h
 split at h
 ·rename_i r hr
  split at h
  ·cases h
  ·rename_i hap
   simp only [Bool.true_and, Bool.not_eq_true', Bool.not_eq_false] at hap
   simp only [Option.some.injEq, Prod.mk.injEq] at h
   obtain ⟨rfl, rfl⟩ := h
   refine wp_region_any hm ?_
   have hlen : ops.toList.length = ops.size := by simp
   have hg : ∀ k, (Array.replicate ops.size false).getD k false = false := by
    intro k
    simp only [Array.getD_eq_getD_getElem?, Array.getElem?_replicate]
    split <;> rfl
   have hdn : dnOf (Array.replicate ops.size false) = fun _ => False := by
    funext k
    simp only [dnOf, hg k, eq_iff_iff]
    simp
   have hrem : rem ops.size (Array.replicate ops.size false) = List.range ops.size := by
    unfold rem
    rw [List.filter_eq_self]
    intro k hk
    simp at hk
    simp [hk]
   have hS0 := hS.drew.start (P := P) ops.toList
   rw [hlen] at hS0
   refine any_steps (base := sig.length) (w0 := w) (g0 := g) hcall hst (rN := r) (by simpa using hap) (fun a' w' g' hS' hx => ⟨rfl, g', hS', hx⟩) ops.size (by simp) (fun k o ho hk => by rw [hg k] at hk; cases hk) (by rw [hrem]; simp) (by rw [hdn]; exact hS0) (Ext.drew w g) (by simp) (by rw [hrem]; exact hr)
 ·cases h
end
end Go.Eng
