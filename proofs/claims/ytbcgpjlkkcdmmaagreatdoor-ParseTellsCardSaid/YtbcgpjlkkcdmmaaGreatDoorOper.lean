/- The function expr.operator, by hand: what a sign is at a level, out of three maps that it makes. No conditions. -/
import Derived.Test.YtbcgpjlkkcdmmaaGreatDoorExt
import Derived.Test.YtbcgpjlkkcdmmaaGreatDoorEngWH
import Derived.Maps.OwnSet
import Derived.WalkKit
namespace Go.Proofs.YtbcgpjlkkcdmmaaGreatDoor.W
open Go Go.Eng Go.RowKit Go.WideMaps Go.Maps
set_option maxRecDepth 100000
set_option linter.unusedVariables false
set_option linter.unusedSimpArgs false
def opList (l:Nat):List (List UInt8 × Int) := match l with
 | 0=>[([60],9),([61,61],10)]
 | 1=>[([43],4),([45],5)]
 | _=>[([42],6),([47],7),([37],8)]
def opLook (s:List UInt8):List (List UInt8 × Int) -> Int
 | []=>0
 | (k,v) :: r=>bif s == k then v else opLook s r
def opM (k:Int) (s:ByteArray) (l:Int):Option Int := bif (k != 3) then some 0 else bif decide (s.size <= 1000000)&&(decide (0 <= l)&&decide (l < 3)) then some (opLook s.data.toList (opList l.toNat)) else none
namespace OpH
def lookB (s:List UInt8):List (Bool × List UInt8 × Int) -> Int
 | []=>0
 | (b,k,v) :: r=>if b = true /\ s = k then v else lookB s r
theorem law9:Keyed Tryz.prog 9 := string_keyed Tryz.underlying9
def MapC (w:World) (N:Nat) (v:Value) (es:List (Bool × List UInt8 × Int)):Prop :=
 ∃ (b n:Nat) (D:DataW Unit),v = .map (some b) /\ N <= b /\ w.ownsMap Tryz.prog 9 (plainElem Tryz.prog 3) b n D /\ n <= (es.filter (·.1)).length /\ ∀ s,D.atKey (.string s) (.lit (.int .i64 0)) = .lit (.int .i64 (lookB s es))
theorem MapC.kept {w w':World} {N:Nat} {v:Value} {es:List (Bool × List UInt8 × Int)} (h:MapC w N v es) {row:Option Nat} (hg:w.grownBy w' row) (hne:∀ b,row = some b -> v ≠ .map (some b)):MapC w' N v es := by
 obtain ⟨b,n,D,rfl,h1,h2,h3,h4⟩ := h
 exact ⟨b,n,D,rfl,h1,h2.kept hg (fun e=>hne b e.symm rfl),h3,h4⟩
theorem MapC.made (w:World) {N:Nat} (hN:N <= w.heap.size) {es:List (Bool × List UInt8 × Int)} (he:∀ x ∈ es,x.1 = false):MapC (w.alloc (.map #[] 0)) N (.map (some w.heap.size)) es := by
 refine ⟨w.heap.size,0,.map [],rfl,hN,World.ownsMap_made _ _ _ _,Nat.zero_le _,fun s=>?_⟩
 have:lookB s es = 0 := by
  induction es with
  | nil=>rfl
  | cons x es ih =>
   obtain ⟨b,k,v⟩ := x
   have hb:b = false := he (b,k,v) (by simp)
   subst hb
   simp only [lookB,Bool.false_eq_true,false_and,if_false]
   exact ih (fun y hy=>he y (by simp [hy]))
 rw [this]; rfl
theorem MapC.lt {w:World} {N:Nat} {v:Value} {es:List (Bool × List UInt8 × Int)} (h:MapC w N v es):v ≠ .map (some w.heap.size) := by
 obtain ⟨b,n,D,rfl,h1,h2,h3,h4⟩ := h
 have := h2.lt
 simp; omega
theorem MapC.put {w:World} {N:Nat} {v:Value} {es es':List (Bool × List UInt8 × Int)} (h:MapC w N v es) {s:ByteArray} {x:Int} (hs:s.size <= 100) (hx:(Lit.int .i64 x).wf = true)
  (hlen:(es'.filter (·.1)).length = (es.filter (·.1)).length + 1) (hl:(es.filter (·.1)).length <= 10) (hlook:∀ t,lookB t es' = if t = s.data.toList then x else lookB t es) :
  ∃ w',(Instr.mapUpdate 222 v (.string s) (.int .i64 x)).run Tryz.prog w = .ok () w' /\ MapC w' N v es' /\ ∃ b,v = .map (some b) /\ N <= b /\ w.grownBy w' (some b) := by
 obtain ⟨b,n,D,rfl,h1,h2,h3,h4⟩ := h
 have hmax:(100:Nat) <= maxLen := by unfold maxLen; omega
 obtain ⟨w',r1,r2,r3⟩ := h2.update law9 Tryz.underlying222 (by omega) (keyOf_string_mk Tryz.underlying9 (s := s) (by omega)) (plainElem_int Tryz.underlying3 hx)
 refine ⟨w',r1,⟨b,n + 1,_,rfl,h1,r2,by omega,fun t=>?_⟩,b,rfl,h1,r3⟩
 rw [hlook]
 by_cases ht:t = s.data.toList
 ·subst ht
  rw [if_pos rfl,atKey_put_same h2.isMap (show WideAt.IsKeyLit (.string s.data.toList) from trivial)]
 ·rw [if_neg ht,atKey_put_other (by simp [ht]),h4]
theorem MapC.look {w:World} {N:Nat} {v:Value} {es:List (Bool × List UInt8 × Int)} (h:MapC w N v es) {s:ByteArray} (hs:s.size <= 1000000):(Instr.lookup 222 v (.string s) false).run Tryz.prog w = .ok (.int .i64 (lookB s.data.toList es)) w := by
 obtain ⟨b,n,D,rfl,h1,h2,h3,h4⟩ := h
 have hmax:(1000000:Nat) <= maxLen := by unfold maxLen; omega
 have hz:(zeroValue 3).run Tryz.prog w = .ok (.int .i64 0) w := by kernel_rfl
 obtain ⟨c,hrun,hat,_⟩ := h2.lookup_int law9 Tryz.underlying222 Tryz.underlying3 hz (keyOf_string_mk Tryz.underlying9 (s := s) (by omega))
 rw [h4] at hat
 simp only [DataW.lit.injEq,Lit.int.injEq,true_and] at hat
 rw [hrun,hat]
def mk (j:Nat):Nat := 4 * j
def es (j:Nat) (d:Nat -> Bool):List (Bool × List UInt8 × Int) := match j with
 | 0=>[(d 1,[60],9),(d 2,[61,61],10)]
 | 1=>[(d 5,[43],4),(d 6,[45],5)]
 | _=>[(d 9,[42],6),(d 10,[47],7),(d 11,[37],8)]
def Maps (d:Nat -> Bool) (w:World) (N:Nat) (vm:Nat -> Value):Prop :=
 (∀ j,j < 3 -> d (mk j) = true -> MapC w N (vm j) (es j d)) /\ ∀ j k,j < 3 -> k < 3 -> j ≠ k -> d (mk j) = true -> d (mk k) = true -> vm j ≠ vm k
def also (d:Nat -> Bool) (i:Nat):Nat -> Bool := fun k=>if k = i then true else d k
theorem also_of {d:Nat -> Bool} {i k:Nat} (h:also d i k = true) (hk:Nat.beq k i = false):d k = true := by
 unfold also at h
 rw [if_neg (fun e=>by subst e; simp at hk)] at h
 exact h
theorem also_up {d:Nat -> Bool} {i k:Nat} (h:d k = true):also d i k = true := by
 unfold also
 by_cases e:k = i
 ·rw [if_pos e]
 ·rw [if_neg e]; exact h
theorem sk {d:Nat -> Bool} {i k:Nat} {P:Prop} (e:d k = true -> P) (hk:Nat.beq k i = false := by rfl):also d i k = true -> P := fun h=>e (also_of h hk)
theorem sj {d:Nat -> Bool} {i k a:Nat} (e:d k = true -> d a = true) (hk:Nat.beq k i = false := by rfl):also d i k = true -> also d i a = true := fun h=>also_up (e (also_of h hk))
theorem s3 {d:Nat -> Bool} {i k a b c:Nat} (e:d k = true -> d a = true /\ d b = true /\ d c = true) (hk:Nat.beq k i = false := by rfl):also d i k = true -> also d i a = true /\ also d i b = true /\ also d i c = true := fun h =>
 have q := e (also_of h hk); ⟨also_up q.1,also_up q.2.1,also_up q.2.2⟩
theorem s4 {d:Nat -> Bool} {i k a b c f:Nat} (e:d k = true -> d a = true /\ d b = true /\ d c = true /\ d f = true) (hk:Nat.beq k i = false := by rfl):also d i k = true -> also d i a = true /\ also d i b = true /\ also d i c = true /\ also d i f = true := fun h =>
 have q := e (also_of h hk); ⟨also_up q.1,also_up q.2.1,also_up q.2.2.1,also_up q.2.2.2⟩
theorem Maps.make {d:Nat -> Bool} {w:World} {N:Nat} {vm:Nat -> Value} (h:Maps d w N vm) (hN:N <= w.heap.size) {j:Nat} (hj:j < 3) (he:∀ x ∈ es j d,x.1 = false) :
  Maps (also d (mk j)) (w.alloc (.map #[] 0)) N (fun k=>if k = j then .map (some w.heap.size) else vm k) := by
 have hes:∀ k,k < 3 -> es k (also d (mk j)) = es k d := by
  intro k hk
  match j,hj,k,hk with
  | 0,_,0,_=>rfl
  | 0,_,1,_=>rfl
  | 0,_,2,_=>rfl
  | 1,_,0,_=>rfl
  | 1,_,1,_=>rfl
  | 1,_,2,_=>rfl
  | 2,_,0,_=>rfl
  | 2,_,1,_=>rfl
  | 2,_,2,_=>rfl
  | j + 3,hj,_,_=>omega
  | _,_,k + 3,hk=>omega
 have hd:∀ k,k ≠ j -> also d (mk j) (mk k) = true -> d (mk k) = true := by
  intro k hk h
  unfold also mk at h
  rw [if_neg (by omega)] at h
  exact h
 refine ⟨fun k hk hdk=>?_,fun k l hk hl hne hdk hdl=>?_⟩
 ·rw [hes k hk]
  show MapC _ N (if k = j then _ else vm k) (es k d)
  by_cases e:k = j
  ·subst e; rw [if_pos rfl]; exact MapC.made w hN he
  ·rw [if_neg e]
   exact (h.1 k hk (hd k e hdk)).kept (World.grownBy_alloc w _ none) (fun b hb=>by cases hb)
 ·show (if k = j then _ else vm k) ≠ (if l = j then _ else vm l)
  by_cases e:k = j
  ·subst e
   rw [if_pos rfl,if_neg (fun e=>hne e.symm)]
   exact fun e=>(h.1 l hl (hd l (fun e=>hne e.symm) hdl)).lt e.symm
  ·rw [if_neg e]
   by_cases e2:l = j
   ·subst e2
    rw [if_pos rfl]
    exact (h.1 k hk (hd k e hdk)).lt
   ·rw [if_neg e2]
    exact h.2 k l hk hl hne (hd k e hdk) (hd l e2 hdl)
theorem Maps.insert {d:Nat -> Bool} {w:World} {N:Nat} {vm:Nat -> Value} (h:Maps d w N vm) {j i:Nat} {s:ByteArray} {x:Int} (hj:j < 3) (hd:d (mk j) = true) (hs:s.size <= 100) (hx:(Lit.int .i64 x).wf = true) (hi:∀ k,k < 3 -> i ≠ mk k)
  (ho:∀ k,k < 3 -> k ≠ j -> es k (also d i) = es k d)
  (hlen:((es j (also d i)).filter (·.1)).length = ((es j d).filter (·.1)).length + 1) (hl:((es j d).filter (·.1)).length <= 10) (hlook:∀ t,lookB t (es j (also d i)) = if t = s.data.toList then x else lookB t (es j d)) :
  ∃ w',(Instr.mapUpdate 222 (vm j) (.string s) (.int .i64 x)).run Tryz.prog w = .ok () w' /\ Maps (also d i) w' N vm /\ Below N w w' := by
 obtain ⟨w',r1,r2,b,hb,hN,r3⟩ := (h.1 j hj hd).put hs hx hlen hl hlook
 have hdk:∀ k,k < 3 -> also d i (mk k) = d (mk k) := fun k hk=>by unfold also; rw [if_neg (fun e=>hi k hk e.symm)]
 refine ⟨w',r1,⟨fun k hk hk2=>?_,fun k l hk hl hne h1 h2=>h.2 k l hk hl hne (by rw [<- hdk k hk]; exact h1) (by rw [<- hdk l hl]; exact h2)⟩,?_⟩
 ·rw [hdk k hk] at hk2
  by_cases e:k = j
  ·subst e; exact r2
  ·rw [ho k hk e]
   exact (h.1 k hk hk2).kept r3 (fun c hc=>by cases hc; rw [<- hb]; exact h.2 k j hk hj e hk2 hd)
 ·obtain ⟨g1,g2,g3,g4,g5⟩ := r3
  exact ⟨g1,g2,g3,g4,fun k hk=>g5 k (by
   obtain ⟨b',n,D,hv,hN',how,_⟩ := h.1 j hj hd
   have := how.lt
   rw [hb] at hv
   cases hv
   omega) (fun e=>by cases e; omega)⟩
def ac (p q k0 k1:Value) (tg:Value) (lv:Value) (vm:Nat -> Value) (v4 v9 v11 v13 v14 v15 v16 v17 v18 v19:Value):Act :=
 { tmps := #[tg,lv,p,undef,v4,q,k0,k1,vm 0,v9,vm 1,v11,vm 2,v13,v14,v15,v16,v17,v18,v19],defers := [] }
structure Inv (N:Nat) (w1:World) (bt:Nat) (q k0 k1 tg:Value) (l:Int) (tx:ByteArray) (d:Nat -> Bool) (a:Act) (w:World):Prop where
 ex:∃ (vm:Nat -> Value) (v4 v9 v11 v13 v14 v15 v16 v17 v18 v19:Value),a = ac (.pointer (some ⟨bt,0,none⟩)) q k0 k1 tg (.int .i64 l) vm v4 v9 v11 v13 v14 v15 v16 v17 v18 v19 /\ Maps d w N vm ∧
  (d 3 = true -> v9 = vm 0) /\ (d 7 = true -> v11 = vm 1) /\ (d 12 = true -> v13 = vm 2) /\ (d 13 = true -> v14 = .agg #[vm 0,vm 1,vm 2]) /\ (d 14 = true -> v15 = .int .i64 l) /\ (d 15 = true -> v16 = vm l.toNat) ∧
  (d 16 = true -> v17 = .pointer (some ⟨bt,1,none⟩)) /\ (d 17 = true -> v18 = .string tx) /\ (d 18 = true -> v19 = .int .i64 (opLook tx.data.toList (opList l.toNat))) /\ (d 19 = true -> v4 = .int .i64 (opLook tx.data.toList (opList l.toNat)))
 below:Below N w1 w
 c0:(d 1 = true -> d 0 = true) /\ (d 2 = true -> d 0 = true) /\ (d 5 = true -> d 4 = true) /\ (d 6 = true -> d 4 = true) /\ (d 9 = true -> d 8 = true) /\ (d 10 = true -> d 8 = true) /\ (d 11 = true -> d 8 = true)
 c1:(d 3 = true -> d 0 = true /\ d 1 = true /\ d 2 = true) /\ (d 7 = true -> d 4 = true /\ d 5 = true /\ d 6 = true) /\ (d 12 = true -> d 8 = true /\ d 9 = true /\ d 10 = true /\ d 11 = true) /\ (d 13 = true -> d 3 = true /\ d 7 = true /\ d 12 = true) /\ (d 15 = true -> d 13 = true)
theorem wpOp_ok {ops:Array Oper} {Q:Exit -> Act -> World -> Prop} {i:Nat} {o:Oper} {K:Act -> World -> Prop} {a:Act} {w w':World} {v:Value} (ho:ops[i]? = some o) (hg:o.guard = none)
  (hrun:(execOp a.eval o).run Tryz.prog w = .ok (.value v) w') (hK:K (a.put o.dst v) w'):wpOp Tryz.prog ops Q i K a w := by
 unfold wpOp
 rw [ho]
 simp only [Region.wanted,hg,if_true]
 left
 unfold Oper.wp
 rw [hrun]
 exact hK
theorem wpOp_skip {ops:Array Oper} {Q:Exit -> Act -> World -> Prop} {i:Nat} {o:Oper} {K:Act -> World -> Prop} {a:Act} {w w':World} (ho:ops[i]? = some o) (hg:o.guard = none)
  (hrun:(execOp a.eval o).run Tryz.prog w = .ok .skip w') (hK:K (a.put o.dst undef) w'):wpOp Tryz.prog ops Q i K a w := by
 unfold wpOp
 rw [ho]
 simp only [Region.wanted,hg,if_true]
 left
 unfold Oper.wp
 rw [hrun]
 exact hK
theorem run_insert {o:Oper} {a:Act} {m x v:Operand} {w w':World} (hop:o.op = .insert 222 m x v) (h:(Instr.mapUpdate 222 (a.eval m) (a.eval x) (a.eval v)).run Tryz.prog w = .ok () w'):(execOp a.eval o).run Tryz.prog w = .ok .skip w' := by
 simp [execOp,hop,h,Result.andThen]
theorem below_map (N:Nat) (w:World) (hN:N <= w.heap.size):Below N w (w.alloc (.map #[] 0)) := (Below.refl N w).alloc hN _
theorem maps_same {d:Nat -> Bool} {w:World} {N:Nat} {vm:Nat -> Value} {i:Nat} (h:Maps d w N vm) (hi:∀ k,k < 3 -> i ≠ mk k) (hi2:i ≠ 1 /\ i ≠ 2 /\ i ≠ 5 /\ i ≠ 6 /\ i ≠ 9 /\ i ≠ 10 /\ i ≠ 11):Maps (also d i) w N vm := by
 have hdk:∀ k,k < 3 -> also d i (mk k) = d (mk k) := fun k hk=>by unfold also; rw [if_neg (fun e=>hi k hk e.symm)]
 obtain ⟨i1,i2,i5,i6,i9,i10,i11⟩ := hi2
 have hes:∀ k,k < 3 -> es k (also d i) = es k d := by
  intro k hk
  match k,hk with
  | 0,_=>simp [es,also,Ne.symm i1,Ne.symm i2]
  | 1,_=>simp [es,also,Ne.symm i5,Ne.symm i6]
  | 2,_=>simp [es,also,Ne.symm i9,Ne.symm i10,Ne.symm i11]
  | k + 3,hk=>omega
 exact ⟨fun k hk h2=>by rw [hes k hk]; exact h.1 k hk (by rw [<- hdk k hk]; exact h2),fun k l hk hl hne h1 h2=>h.2 k l hk hl hne (by rw [<- hdk k hk]; exact h1) (by rw [<- hdk l hl]; exact h2)⟩
theorem look_eq {s:List UInt8}:∀ {es:List (List UInt8 × Int)} {bs:List (Bool × List UInt8 × Int)},bs = es.map (fun p=>(true,p.1,p.2)) -> lookB s bs = opLook s es
 | [],_,rfl=>rfl
 | (k,v) :: r,_,rfl=>by
  have := look_eq (s := s) (es := r) rfl
  simp only [List.map_cons,lookB,opLook,true_and]
  by_cases h:s = k
  ·rw [if_pos h,beq_iff_eq.2 h]; rfl
  ·rw [if_neg h,beq_eq_false_iff_ne.2 h]; exact this
section
set_option linter.unusedSectionVars false
variable {ops:Array Oper} {Q:Exit -> Act -> World -> Prop} {N:Nat} {w1:World} {bt:Nat} {q k0 k1 tg:Value} {l:Int} {tx:ByteArray}
structure Ops (ops:Array Oper):Prop where
 o0:∃ o,ops[0]? = some o /\ o.guard = none /\ o.dst = some 8 /\ o.op = Op.makeMap 222 none
 o1:∃ o,ops[1]? = some o /\ o.guard = none /\ o.dst = none /\ o.op = Op.insert 222 (.tmp 8) (.const (.string ⟨#[60]⟩)) (.const (.int .i64 9))
 o2:∃ o,ops[2]? = some o /\ o.guard = none /\ o.dst = none /\ o.op = Op.insert 222 (.tmp 8) (.const (.string ⟨#[61,61]⟩)) (.const (.int .i64 10))
 o3:∃ o,ops[3]? = some o /\ o.guard = none /\ o.dst = some 9 /\ o.op = Op.move (.tmp 8)
 o4:∃ o,ops[4]? = some o /\ o.guard = none /\ o.dst = some 10 /\ o.op = Op.makeMap 222 none
 o5:∃ o,ops[5]? = some o /\ o.guard = none /\ o.dst = none /\ o.op = Op.insert 222 (.tmp 10) (.const (.string ⟨#[43]⟩)) (.const (.int .i64 4))
 o6:∃ o,ops[6]? = some o /\ o.guard = none /\ o.dst = none /\ o.op = Op.insert 222 (.tmp 10) (.const (.string ⟨#[45]⟩)) (.const (.int .i64 5))
 o7:∃ o,ops[7]? = some o /\ o.guard = none /\ o.dst = some 11 /\ o.op = Op.move (.tmp 10)
 o8:∃ o,ops[8]? = some o /\ o.guard = none /\ o.dst = some 12 /\ o.op = Op.makeMap 222 none
 o9:∃ o,ops[9]? = some o /\ o.guard = none /\ o.dst = none /\ o.op = Op.insert 222 (.tmp 12) (.const (.string ⟨#[42]⟩)) (.const (.int .i64 6))
 o10:∃ o,ops[10]? = some o /\ o.guard = none /\ o.dst = none /\ o.op = Op.insert 222 (.tmp 12) (.const (.string ⟨#[47]⟩)) (.const (.int .i64 7))
 o11:∃ o,ops[11]? = some o /\ o.guard = none /\ o.dst = none /\ o.op = Op.insert 222 (.tmp 12) (.const (.string ⟨#[37]⟩)) (.const (.int .i64 8))
 o12:∃ o,ops[12]? = some o /\ o.guard = none /\ o.dst = some 13 /\ o.op = Op.move (.tmp 12)
 o13:∃ o,ops[13]? = some o /\ o.guard = none /\ o.dst = some 14 /\ o.op = Op.build 223 #[(0,.tmp 9),(1,.tmp 11),(2,.tmp 13)]
 o14:∃ o,ops[14]? = some o /\ o.guard = none /\ o.dst = some 15 /\ o.op = Op.move (.tmp 1)
 o15:∃ o,ops[15]? = some o /\ o.guard = none /\ o.dst = some 16 /\ o.op = Op.index 223 (.tmp 14) (.tmp 15)
 o16:∃ o,ops[16]? = some o /\ o.guard = none /\ o.dst = some 17 /\ o.op = Op.fieldAddr 83 (.tmp 2) 1
 o17:∃ o,ops[17]? = some o /\ o.guard = none /\ o.dst = some 18 /\ o.op = Op.load 9 (.tmp 17)
 o18:∃ o,ops[18]? = some o /\ o.guard = none /\ o.dst = some 19 /\ o.op = Op.lookup 222 (.tmp 16) (.tmp 18) false
 o19:∃ o,ops[19]? = some o /\ o.guard = none /\ o.dst = some 4 /\ o.op = Op.assign (.tmp 19)
variable (hO:Ops ops) (h0:0 <= l) (h3:l < 3) (hs:tx.size <= 1000000) (hN:N <= w1.heap.size) (hb:bt < N) (hcell:w1.cell? ⟨bt,1,none⟩ = some (.string tx))
include hO h0 h3 hs hN hb hcell
theorem step0 {d:Nat -> Bool} {a:Act} {w:World} (h:Inv N w1 bt q k0 k1 tg l tx d a w) (hd:d 0 = false) :wpOp Tryz.prog ops Q 0 (fun a w=>Inv N w1 bt q k0 k1 tg l tx (also d 0) a w) a w := by
 obtain ⟨⟨vm,v4,v9,v11,v13,v14,v15,v16,v17,v18,v19,rfl,hM,e3,e7,e12,e13,e14,e15,e16,e17,e18,e19⟩,hbel,c0,c1⟩ := h
 obtain ⟨o,ho,hg,hdst,hop⟩ := hO.o0
 have hNw:N <= w.heap.size := Nat.le_trans hN hbel.size
 refine wpOp_ok (v := .map (some w.heap.size)) (w' := w.alloc (.map #[] 0)) ho hg (by simp [execOp,hop,run_makeMap,Result.andThen]) ?_
 rw [hdst]
 refine ⟨⟨fun k=>if k = 0 then .map (some w.heap.size) else vm k,v4,v9,v11,v13,v14,v15,v16,v17,v18,v19,rfl,hM.make hNw (j := 0) (by omega) (fun x hx=>?_),(fun h=>absurd (c1.1 (by simpa [also] using h)).1 (by rw [hd]; simp)),(sk e7),(sk e12),(fun h=>absurd (c1.1 (c1.2.2.2.1 (by simpa [also] using h)).1).1 (by rw [hd]; simp)),(sk e14),(fun h=>absurd (c1.1 (c1.2.2.2.1 (c1.2.2.2.2 (by simpa [also] using h))).1).1 (by rw [hd]; simp)),(sk e16),(sk e17),(sk e18),(sk e19)⟩,hbel.trans (below_map N w hNw),⟨(fun _=>by simp [also]),(fun _=>by simp [also]),(sj c0.2.2.1),(sj c0.2.2.2.1),(sj c0.2.2.2.2.1),(sj c0.2.2.2.2.2.1),(sj c0.2.2.2.2.2.2)⟩,⟨s3 c1.1,s3 c1.2.1,s4 c1.2.2.1,s3 c1.2.2.2.1,sj c1.2.2.2.2⟩⟩
 simp only [es,List.mem_cons,List.not_mem_nil,or_false] at hx
 rcases hx with rfl | rfl
 ·exact (show d 1 = false from by cases hb':d 1 with | false=>rfl | true=>rw [c0.1 hb'] at hd; cases hd)
 ·exact (show d 2 = false from by cases hb':d 2 with | false=>rfl | true=>rw [c0.2.1 hb'] at hd; cases hd)
theorem step1 {d:Nat -> Bool} {a:Act} {w:World} (h:Inv N w1 bt q k0 k1 tg l tx d a w) (hd:d 1 = false) (dep0:d 0 = true):wpOp Tryz.prog ops Q 1 (fun a w=>Inv N w1 bt q k0 k1 tg l tx (also d 1) a w) a w := by
 obtain ⟨⟨vm,v4,v9,v11,v13,v14,v15,v16,v17,v18,v19,rfl,hM,e3,e7,e12,e13,e14,e15,e16,e17,e18,e19⟩,hbel,c0,c1⟩ := h
 obtain ⟨o,ho,hg,hdst,hop⟩ := hO.o1
 have hNw:N <= w.heap.size := Nat.le_trans hN hbel.size
 have hes:es 0 (also d 1) = [(true,[60],9),(d 2,[61,61],10)] := by simp [es,also]
 have hes0:es 0 d = [(false,[60],9),(d 2,[61,61],10)] := by simp [es,hd]
 obtain ⟨w',r1,r2,r3⟩ := hM.insert (j := 0) (i := 1) (s := ⟨#[60]⟩) (x := 9) (by omega) (by simpa [mk] using dep0) (by decide) (by decide) (fun k hk=>by unfold mk; omega) (fun k hk hkj=>by
  match k,hk,hkj with
  | 0,_,hkj=>exact absurd rfl hkj
  | 1,_,hkj=>simp [es,also]
  | 2,_,hkj=>simp [es,also]
  | k + 3,hk,_=>omega) (by rw [hes,hes0]; cases d 2 <;> rfl) (by rw [hes0]; cases d 2 <;> decide) (fun t=>by
  rw [hes,hes0]
  simp only [lookB,Bool.false_eq_true,false_and,if_false,true_and])
 refine wpOp_skip (w' := w') ho hg (run_insert hop r1) ?_
 rw [hdst]
 exact ⟨⟨vm,v4,v9,v11,v13,v14,v15,v16,v17,v18,v19,rfl,r2,(sk e3),(sk e7),(sk e12),(sk e13),(sk e14),(sk e15),(sk e16),(sk e17),(sk e18),(sk e19)⟩,hbel.trans r3,⟨(fun _=>by simpa [also] using dep0),(sj c0.2.1),(sj c0.2.2.1),(sj c0.2.2.2.1),(sj c0.2.2.2.2.1),(sj c0.2.2.2.2.2.1),(sj c0.2.2.2.2.2.2)⟩,⟨s3 c1.1,s3 c1.2.1,s4 c1.2.2.1,s3 c1.2.2.2.1,sj c1.2.2.2.2⟩⟩
theorem step2 {d:Nat -> Bool} {a:Act} {w:World} (h:Inv N w1 bt q k0 k1 tg l tx d a w) (hd:d 2 = false) (dep0:d 0 = true):wpOp Tryz.prog ops Q 2 (fun a w=>Inv N w1 bt q k0 k1 tg l tx (also d 2) a w) a w := by
 obtain ⟨⟨vm,v4,v9,v11,v13,v14,v15,v16,v17,v18,v19,rfl,hM,e3,e7,e12,e13,e14,e15,e16,e17,e18,e19⟩,hbel,c0,c1⟩ := h
 obtain ⟨o,ho,hg,hdst,hop⟩ := hO.o2
 have hNw:N <= w.heap.size := Nat.le_trans hN hbel.size
 have hes:es 0 (also d 2) = [(d 1,[60],9),(true,[61,61],10)] := by simp [es,also]
 have hes0:es 0 d = [(d 1,[60],9),(false,[61,61],10)] := by simp [es,hd]
 obtain ⟨w',r1,r2,r3⟩ := hM.insert (j := 0) (i := 2) (s := ⟨#[61,61]⟩) (x := 10) (by omega) (by simpa [mk] using dep0) (by decide) (by decide) (fun k hk=>by unfold mk; omega) (fun k hk hkj=>by
  match k,hk,hkj with
  | 0,_,hkj=>exact absurd rfl hkj
  | 1,_,hkj=>simp [es,also]
  | 2,_,hkj=>simp [es,also]
  | k + 3,hk,_=>omega) (by rw [hes,hes0]; cases d 1 <;> rfl) (by rw [hes0]; cases d 1 <;> decide) (fun t=>by
  rw [hes,hes0]
  simp only [lookB,Bool.false_eq_true,false_and,if_false,true_and]
  by_cases ht:t = [61,61]
  ·subst ht; simp
  ·simp [ht])
 refine wpOp_skip (w' := w') ho hg (run_insert hop r1) ?_
 rw [hdst]
 exact ⟨⟨vm,v4,v9,v11,v13,v14,v15,v16,v17,v18,v19,rfl,r2,(sk e3),(sk e7),(sk e12),(sk e13),(sk e14),(sk e15),(sk e16),(sk e17),(sk e18),(sk e19)⟩,hbel.trans r3,⟨(sj c0.1),(fun _=>by simpa [also] using dep0),(sj c0.2.2.1),(sj c0.2.2.2.1),(sj c0.2.2.2.2.1),(sj c0.2.2.2.2.2.1),(sj c0.2.2.2.2.2.2)⟩,⟨s3 c1.1,s3 c1.2.1,s4 c1.2.2.1,s3 c1.2.2.2.1,sj c1.2.2.2.2⟩⟩
theorem step3 {d:Nat -> Bool} {a:Act} {w:World} (h:Inv N w1 bt q k0 k1 tg l tx d a w) (hd:d 3 = false) (dep0:d 0 = true) (dep1:d 1 = true) (dep2:d 2 = true):wpOp Tryz.prog ops Q 3 (fun a w=>Inv N w1 bt q k0 k1 tg l tx (also d 3) a w) a w := by
 obtain ⟨⟨vm,v4,v9,v11,v13,v14,v15,v16,v17,v18,v19,rfl,hM,e3,e7,e12,e13,e14,e15,e16,e17,e18,e19⟩,hbel,c0,c1⟩ := h
 obtain ⟨o,ho,hg,hdst,hop⟩ := hO.o3
 have hNw:N <= w.heap.size := Nat.le_trans hN hbel.size
 refine wpOp_ok (v := vm 0) (w' := w) ho hg (by simp [execOp,hop,ac,Act.eval,Result.andThen]) ?_
 rw [hdst]
 have hMaps:Maps (also d 3) w N vm := maps_same (i := 3) hM (by intro k hk; unfold mk; omega) (by decide)
 exact ⟨⟨vm,v4,(vm 0),v11,v13,v14,v15,v16,v17,v18,v19,rfl,hMaps,(fun _=>rfl),(sk e7),(sk e12),(sk e13),(sk e14),(sk e15),(sk e16),(sk e17),(sk e18),(sk e19)⟩,hbel,⟨(sj c0.1),(sj c0.2.1),(sj c0.2.2.1),(sj c0.2.2.2.1),(sj c0.2.2.2.2.1),(sj c0.2.2.2.2.2.1),(sj c0.2.2.2.2.2.2)⟩,⟨(fun _=>⟨by simpa [also] using dep0,by simpa [also] using dep1,by simpa [also] using dep2⟩),(s3 c1.2.1),(s4 c1.2.2.1),(s3 c1.2.2.2.1),(sj c1.2.2.2.2)⟩⟩
theorem step4 {d:Nat -> Bool} {a:Act} {w:World} (h:Inv N w1 bt q k0 k1 tg l tx d a w) (hd:d 4 = false) :wpOp Tryz.prog ops Q 4 (fun a w=>Inv N w1 bt q k0 k1 tg l tx (also d 4) a w) a w := by
 obtain ⟨⟨vm,v4,v9,v11,v13,v14,v15,v16,v17,v18,v19,rfl,hM,e3,e7,e12,e13,e14,e15,e16,e17,e18,e19⟩,hbel,c0,c1⟩ := h
 obtain ⟨o,ho,hg,hdst,hop⟩ := hO.o4
 have hNw:N <= w.heap.size := Nat.le_trans hN hbel.size
 refine wpOp_ok (v := .map (some w.heap.size)) (w' := w.alloc (.map #[] 0)) ho hg (by simp [execOp,hop,run_makeMap,Result.andThen]) ?_
 rw [hdst]
 refine ⟨⟨fun k=>if k = 1 then .map (some w.heap.size) else vm k,v4,v9,v11,v13,v14,v15,v16,v17,v18,v19,rfl,hM.make hNw (j := 1) (by omega) (fun x hx=>?_),(sk e3),(fun h=>absurd (c1.2.1 (by simpa [also] using h)).1 (by rw [hd]; simp)),(sk e12),(fun h=>absurd (c1.2.1 (c1.2.2.2.1 (by simpa [also] using h)).2.1).1 (by rw [hd]; simp)),(sk e14),(fun h=>absurd (c1.2.1 (c1.2.2.2.1 (c1.2.2.2.2 (by simpa [also] using h))).2.1).1 (by rw [hd]; simp)),(sk e16),(sk e17),(sk e18),(sk e19)⟩,hbel.trans (below_map N w hNw),⟨(sj c0.1),(sj c0.2.1),(fun _=>by simp [also]),(fun _=>by simp [also]),(sj c0.2.2.2.2.1),(sj c0.2.2.2.2.2.1),(sj c0.2.2.2.2.2.2)⟩,⟨s3 c1.1,s3 c1.2.1,s4 c1.2.2.1,s3 c1.2.2.2.1,sj c1.2.2.2.2⟩⟩
 simp only [es,List.mem_cons,List.not_mem_nil,or_false] at hx
 rcases hx with rfl | rfl
 ·exact (show d 5 = false from by cases hb':d 5 with | false=>rfl | true=>rw [c0.2.2.1 hb'] at hd; cases hd)
 ·exact (show d 6 = false from by cases hb':d 6 with | false=>rfl | true=>rw [c0.2.2.2.1 hb'] at hd; cases hd)
theorem step5 {d:Nat -> Bool} {a:Act} {w:World} (h:Inv N w1 bt q k0 k1 tg l tx d a w) (hd:d 5 = false) (dep4:d 4 = true):wpOp Tryz.prog ops Q 5 (fun a w=>Inv N w1 bt q k0 k1 tg l tx (also d 5) a w) a w := by
 obtain ⟨⟨vm,v4,v9,v11,v13,v14,v15,v16,v17,v18,v19,rfl,hM,e3,e7,e12,e13,e14,e15,e16,e17,e18,e19⟩,hbel,c0,c1⟩ := h
 obtain ⟨o,ho,hg,hdst,hop⟩ := hO.o5
 have hNw:N <= w.heap.size := Nat.le_trans hN hbel.size
 have hes:es 1 (also d 5) = [(true,[43],4),(d 6,[45],5)] := by simp [es,also]
 have hes0:es 1 d = [(false,[43],4),(d 6,[45],5)] := by simp [es,hd]
 obtain ⟨w',r1,r2,r3⟩ := hM.insert (j := 1) (i := 5) (s := ⟨#[43]⟩) (x := 4) (by omega) (by simpa [mk] using dep4) (by decide) (by decide) (fun k hk=>by unfold mk; omega) (fun k hk hkj=>by
  match k,hk,hkj with
  | 0,_,hkj=>simp [es,also]
  | 1,_,hkj=>exact absurd rfl hkj
  | 2,_,hkj=>simp [es,also]
  | k + 3,hk,_=>omega) (by rw [hes,hes0]; cases d 6 <;> rfl) (by rw [hes0]; cases d 6 <;> decide) (fun t=>by
  rw [hes,hes0]
  simp only [lookB,Bool.false_eq_true,false_and,if_false,true_and])
 refine wpOp_skip (w' := w') ho hg (run_insert hop r1) ?_
 rw [hdst]
 exact ⟨⟨vm,v4,v9,v11,v13,v14,v15,v16,v17,v18,v19,rfl,r2,(sk e3),(sk e7),(sk e12),(sk e13),(sk e14),(sk e15),(sk e16),(sk e17),(sk e18),(sk e19)⟩,hbel.trans r3,⟨(sj c0.1),(sj c0.2.1),(fun _=>by simpa [also] using dep4),(sj c0.2.2.2.1),(sj c0.2.2.2.2.1),(sj c0.2.2.2.2.2.1),(sj c0.2.2.2.2.2.2)⟩,⟨s3 c1.1,s3 c1.2.1,s4 c1.2.2.1,s3 c1.2.2.2.1,sj c1.2.2.2.2⟩⟩
theorem step6 {d:Nat -> Bool} {a:Act} {w:World} (h:Inv N w1 bt q k0 k1 tg l tx d a w) (hd:d 6 = false) (dep4:d 4 = true):wpOp Tryz.prog ops Q 6 (fun a w=>Inv N w1 bt q k0 k1 tg l tx (also d 6) a w) a w := by
 obtain ⟨⟨vm,v4,v9,v11,v13,v14,v15,v16,v17,v18,v19,rfl,hM,e3,e7,e12,e13,e14,e15,e16,e17,e18,e19⟩,hbel,c0,c1⟩ := h
 obtain ⟨o,ho,hg,hdst,hop⟩ := hO.o6
 have hNw:N <= w.heap.size := Nat.le_trans hN hbel.size
 have hes:es 1 (also d 6) = [(d 5,[43],4),(true,[45],5)] := by simp [es,also]
 have hes0:es 1 d = [(d 5,[43],4),(false,[45],5)] := by simp [es,hd]
 obtain ⟨w',r1,r2,r3⟩ := hM.insert (j := 1) (i := 6) (s := ⟨#[45]⟩) (x := 5) (by omega) (by simpa [mk] using dep4) (by decide) (by decide) (fun k hk=>by unfold mk; omega) (fun k hk hkj=>by
  match k,hk,hkj with
  | 0,_,hkj=>simp [es,also]
  | 1,_,hkj=>exact absurd rfl hkj
  | 2,_,hkj=>simp [es,also]
  | k + 3,hk,_=>omega) (by rw [hes,hes0]; cases d 5 <;> rfl) (by rw [hes0]; cases d 5 <;> decide) (fun t=>by
  rw [hes,hes0]
  simp only [lookB,Bool.false_eq_true,false_and,if_false,true_and]
  by_cases ht:t = [45]
  ·subst ht; simp
  ·simp [ht])
 refine wpOp_skip (w' := w') ho hg (run_insert hop r1) ?_
 rw [hdst]
 exact ⟨⟨vm,v4,v9,v11,v13,v14,v15,v16,v17,v18,v19,rfl,r2,(sk e3),(sk e7),(sk e12),(sk e13),(sk e14),(sk e15),(sk e16),(sk e17),(sk e18),(sk e19)⟩,hbel.trans r3,⟨(sj c0.1),(sj c0.2.1),(sj c0.2.2.1),(fun _=>by simpa [also] using dep4),(sj c0.2.2.2.2.1),(sj c0.2.2.2.2.2.1),(sj c0.2.2.2.2.2.2)⟩,⟨s3 c1.1,s3 c1.2.1,s4 c1.2.2.1,s3 c1.2.2.2.1,sj c1.2.2.2.2⟩⟩
theorem step7 {d:Nat -> Bool} {a:Act} {w:World} (h:Inv N w1 bt q k0 k1 tg l tx d a w) (hd:d 7 = false) (dep4:d 4 = true) (dep5:d 5 = true) (dep6:d 6 = true):wpOp Tryz.prog ops Q 7 (fun a w=>Inv N w1 bt q k0 k1 tg l tx (also d 7) a w) a w := by
 obtain ⟨⟨vm,v4,v9,v11,v13,v14,v15,v16,v17,v18,v19,rfl,hM,e3,e7,e12,e13,e14,e15,e16,e17,e18,e19⟩,hbel,c0,c1⟩ := h
 obtain ⟨o,ho,hg,hdst,hop⟩ := hO.o7
 have hNw:N <= w.heap.size := Nat.le_trans hN hbel.size
 refine wpOp_ok (v := vm 1) (w' := w) ho hg (by simp [execOp,hop,ac,Act.eval,Result.andThen]) ?_
 rw [hdst]
 have hMaps:Maps (also d 7) w N vm := maps_same (i := 7) hM (by intro k hk; unfold mk; omega) (by decide)
 exact ⟨⟨vm,v4,v9,(vm 1),v13,v14,v15,v16,v17,v18,v19,rfl,hMaps,(sk e3),(fun _=>rfl),(sk e12),(sk e13),(sk e14),(sk e15),(sk e16),(sk e17),(sk e18),(sk e19)⟩,hbel,⟨(sj c0.1),(sj c0.2.1),(sj c0.2.2.1),(sj c0.2.2.2.1),(sj c0.2.2.2.2.1),(sj c0.2.2.2.2.2.1),(sj c0.2.2.2.2.2.2)⟩,⟨(s3 c1.1),(fun _=>⟨by simpa [also] using dep4,by simpa [also] using dep5,by simpa [also] using dep6⟩),(s4 c1.2.2.1),(s3 c1.2.2.2.1),(sj c1.2.2.2.2)⟩⟩
theorem step8 {d:Nat -> Bool} {a:Act} {w:World} (h:Inv N w1 bt q k0 k1 tg l tx d a w) (hd:d 8 = false) :wpOp Tryz.prog ops Q 8 (fun a w=>Inv N w1 bt q k0 k1 tg l tx (also d 8) a w) a w := by
 obtain ⟨⟨vm,v4,v9,v11,v13,v14,v15,v16,v17,v18,v19,rfl,hM,e3,e7,e12,e13,e14,e15,e16,e17,e18,e19⟩,hbel,c0,c1⟩ := h
 obtain ⟨o,ho,hg,hdst,hop⟩ := hO.o8
 have hNw:N <= w.heap.size := Nat.le_trans hN hbel.size
 refine wpOp_ok (v := .map (some w.heap.size)) (w' := w.alloc (.map #[] 0)) ho hg (by simp [execOp,hop,run_makeMap,Result.andThen]) ?_
 rw [hdst]
 refine ⟨⟨fun k=>if k = 2 then .map (some w.heap.size) else vm k,v4,v9,v11,v13,v14,v15,v16,v17,v18,v19,rfl,hM.make hNw (j := 2) (by omega) (fun x hx=>?_),(sk e3),(sk e7),(fun h=>absurd (c1.2.2.1 (by simpa [also] using h)).1 (by rw [hd]; simp)),(fun h=>absurd (c1.2.2.1 (c1.2.2.2.1 (by simpa [also] using h)).2.2).1 (by rw [hd]; simp)),(sk e14),(fun h=>absurd (c1.2.2.1 (c1.2.2.2.1 (c1.2.2.2.2 (by simpa [also] using h))).2.2).1 (by rw [hd]; simp)),(sk e16),(sk e17),(sk e18),(sk e19)⟩,hbel.trans (below_map N w hNw),⟨(sj c0.1),(sj c0.2.1),(sj c0.2.2.1),(sj c0.2.2.2.1),(fun _=>by simp [also]),(fun _=>by simp [also]),(fun _=>by simp [also])⟩,⟨s3 c1.1,s3 c1.2.1,s4 c1.2.2.1,s3 c1.2.2.2.1,sj c1.2.2.2.2⟩⟩
 simp only [es,List.mem_cons,List.not_mem_nil,or_false] at hx
 rcases hx with rfl | rfl | rfl
 ·exact (show d 9 = false from by cases hb':d 9 with | false=>rfl | true=>rw [c0.2.2.2.2.1 hb'] at hd; cases hd)
 ·exact (show d 10 = false from by cases hb':d 10 with | false=>rfl | true=>rw [c0.2.2.2.2.2.1 hb'] at hd; cases hd)
 ·exact (show d 11 = false from by cases hb':d 11 with | false=>rfl | true=>rw [c0.2.2.2.2.2.2 hb'] at hd; cases hd)
theorem step9 {d:Nat -> Bool} {a:Act} {w:World} (h:Inv N w1 bt q k0 k1 tg l tx d a w) (hd:d 9 = false) (dep8:d 8 = true):wpOp Tryz.prog ops Q 9 (fun a w=>Inv N w1 bt q k0 k1 tg l tx (also d 9) a w) a w := by
 obtain ⟨⟨vm,v4,v9,v11,v13,v14,v15,v16,v17,v18,v19,rfl,hM,e3,e7,e12,e13,e14,e15,e16,e17,e18,e19⟩,hbel,c0,c1⟩ := h
 obtain ⟨o,ho,hg,hdst,hop⟩ := hO.o9
 have hNw:N <= w.heap.size := Nat.le_trans hN hbel.size
 have hes:es 2 (also d 9) = [(true,[42],6),(d 10,[47],7),(d 11,[37],8)] := by simp [es,also]
 have hes0:es 2 d = [(false,[42],6),(d 10,[47],7),(d 11,[37],8)] := by simp [es,hd]
 obtain ⟨w',r1,r2,r3⟩ := hM.insert (j := 2) (i := 9) (s := ⟨#[42]⟩) (x := 6) (by omega) (by simpa [mk] using dep8) (by decide) (by decide) (fun k hk=>by unfold mk; omega) (fun k hk hkj=>by
  match k,hk,hkj with
  | 0,_,hkj=>simp [es,also]
  | 1,_,hkj=>simp [es,also]
  | 2,_,hkj=>exact absurd rfl hkj
  | k + 3,hk,_=>omega) (by rw [hes,hes0]; cases d 10 <;> cases d 11 <;> rfl) (by rw [hes0]; cases d 10 <;> cases d 11 <;> decide) (fun t=>by
  rw [hes,hes0]
  simp only [lookB,Bool.false_eq_true,false_and,if_false,true_and])
 refine wpOp_skip (w' := w') ho hg (run_insert hop r1) ?_
 rw [hdst]
 exact ⟨⟨vm,v4,v9,v11,v13,v14,v15,v16,v17,v18,v19,rfl,r2,(sk e3),(sk e7),(sk e12),(sk e13),(sk e14),(sk e15),(sk e16),(sk e17),(sk e18),(sk e19)⟩,hbel.trans r3,⟨(sj c0.1),(sj c0.2.1),(sj c0.2.2.1),(sj c0.2.2.2.1),(fun _=>by simpa [also] using dep8),(sj c0.2.2.2.2.2.1),(sj c0.2.2.2.2.2.2)⟩,⟨s3 c1.1,s3 c1.2.1,s4 c1.2.2.1,s3 c1.2.2.2.1,sj c1.2.2.2.2⟩⟩
theorem step10 {d:Nat -> Bool} {a:Act} {w:World} (h:Inv N w1 bt q k0 k1 tg l tx d a w) (hd:d 10 = false) (dep8:d 8 = true):wpOp Tryz.prog ops Q 10 (fun a w=>Inv N w1 bt q k0 k1 tg l tx (also d 10) a w) a w := by
 obtain ⟨⟨vm,v4,v9,v11,v13,v14,v15,v16,v17,v18,v19,rfl,hM,e3,e7,e12,e13,e14,e15,e16,e17,e18,e19⟩,hbel,c0,c1⟩ := h
 obtain ⟨o,ho,hg,hdst,hop⟩ := hO.o10
 have hNw:N <= w.heap.size := Nat.le_trans hN hbel.size
 have hes:es 2 (also d 10) = [(d 9,[42],6),(true,[47],7),(d 11,[37],8)] := by simp [es,also]
 have hes0:es 2 d = [(d 9,[42],6),(false,[47],7),(d 11,[37],8)] := by simp [es,hd]
 obtain ⟨w',r1,r2,r3⟩ := hM.insert (j := 2) (i := 10) (s := ⟨#[47]⟩) (x := 7) (by omega) (by simpa [mk] using dep8) (by decide) (by decide) (fun k hk=>by unfold mk; omega) (fun k hk hkj=>by
  match k,hk,hkj with
  | 0,_,hkj=>simp [es,also]
  | 1,_,hkj=>simp [es,also]
  | 2,_,hkj=>exact absurd rfl hkj
  | k + 3,hk,_=>omega) (by rw [hes,hes0]; cases d 9 <;> cases d 11 <;> rfl) (by rw [hes0]; cases d 9 <;> cases d 11 <;> decide) (fun t=>by
  rw [hes,hes0]
  simp only [lookB,Bool.false_eq_true,false_and,if_false,true_and]
  by_cases ht:t = [47]
  ·subst ht; simp
  ·simp [ht])
 refine wpOp_skip (w' := w') ho hg (run_insert hop r1) ?_
 rw [hdst]
 exact ⟨⟨vm,v4,v9,v11,v13,v14,v15,v16,v17,v18,v19,rfl,r2,(sk e3),(sk e7),(sk e12),(sk e13),(sk e14),(sk e15),(sk e16),(sk e17),(sk e18),(sk e19)⟩,hbel.trans r3,⟨(sj c0.1),(sj c0.2.1),(sj c0.2.2.1),(sj c0.2.2.2.1),(sj c0.2.2.2.2.1),(fun _=>by simpa [also] using dep8),(sj c0.2.2.2.2.2.2)⟩,⟨s3 c1.1,s3 c1.2.1,s4 c1.2.2.1,s3 c1.2.2.2.1,sj c1.2.2.2.2⟩⟩
theorem step11 {d:Nat -> Bool} {a:Act} {w:World} (h:Inv N w1 bt q k0 k1 tg l tx d a w) (hd:d 11 = false) (dep8:d 8 = true):wpOp Tryz.prog ops Q 11 (fun a w=>Inv N w1 bt q k0 k1 tg l tx (also d 11) a w) a w := by
 obtain ⟨⟨vm,v4,v9,v11,v13,v14,v15,v16,v17,v18,v19,rfl,hM,e3,e7,e12,e13,e14,e15,e16,e17,e18,e19⟩,hbel,c0,c1⟩ := h
 obtain ⟨o,ho,hg,hdst,hop⟩ := hO.o11
 have hNw:N <= w.heap.size := Nat.le_trans hN hbel.size
 have hes:es 2 (also d 11) = [(d 9,[42],6),(d 10,[47],7),(true,[37],8)] := by simp [es,also]
 have hes0:es 2 d = [(d 9,[42],6),(d 10,[47],7),(false,[37],8)] := by simp [es,hd]
 obtain ⟨w',r1,r2,r3⟩ := hM.insert (j := 2) (i := 11) (s := ⟨#[37]⟩) (x := 8) (by omega) (by simpa [mk] using dep8) (by decide) (by decide) (fun k hk=>by unfold mk; omega) (fun k hk hkj=>by
  match k,hk,hkj with
  | 0,_,hkj=>simp [es,also]
  | 1,_,hkj=>simp [es,also]
  | 2,_,hkj=>exact absurd rfl hkj
  | k + 3,hk,_=>omega) (by rw [hes,hes0]; cases d 9 <;> cases d 10 <;> rfl) (by rw [hes0]; cases d 9 <;> cases d 10 <;> decide) (fun t=>by
  rw [hes,hes0]
  simp only [lookB,Bool.false_eq_true,false_and,if_false,true_and]
  by_cases ht:t = [37]
  ·subst ht; simp
  ·simp [ht])
 refine wpOp_skip (w' := w') ho hg (run_insert hop r1) ?_
 rw [hdst]
 exact ⟨⟨vm,v4,v9,v11,v13,v14,v15,v16,v17,v18,v19,rfl,r2,(sk e3),(sk e7),(sk e12),(sk e13),(sk e14),(sk e15),(sk e16),(sk e17),(sk e18),(sk e19)⟩,hbel.trans r3,⟨(sj c0.1),(sj c0.2.1),(sj c0.2.2.1),(sj c0.2.2.2.1),(sj c0.2.2.2.2.1),(sj c0.2.2.2.2.2.1),(fun _=>by simpa [also] using dep8)⟩,⟨s3 c1.1,s3 c1.2.1,s4 c1.2.2.1,s3 c1.2.2.2.1,sj c1.2.2.2.2⟩⟩
theorem step12 {d:Nat -> Bool} {a:Act} {w:World} (h:Inv N w1 bt q k0 k1 tg l tx d a w) (hd:d 12 = false) (dep8:d 8 = true) (dep9:d 9 = true) (dep10:d 10 = true) (dep11:d 11 = true):wpOp Tryz.prog ops Q 12 (fun a w=>Inv N w1 bt q k0 k1 tg l tx (also d 12) a w) a w := by
 obtain ⟨⟨vm,v4,v9,v11,v13,v14,v15,v16,v17,v18,v19,rfl,hM,e3,e7,e12,e13,e14,e15,e16,e17,e18,e19⟩,hbel,c0,c1⟩ := h
 obtain ⟨o,ho,hg,hdst,hop⟩ := hO.o12
 have hNw:N <= w.heap.size := Nat.le_trans hN hbel.size
 refine wpOp_ok (v := vm 2) (w' := w) ho hg (by simp [execOp,hop,ac,Act.eval,Result.andThen]) ?_
 rw [hdst]
 have hMaps:Maps (also d 12) w N vm := maps_same (i := 12) hM (by intro k hk; unfold mk; omega) (by decide)
 exact ⟨⟨vm,v4,v9,v11,(vm 2),v14,v15,v16,v17,v18,v19,rfl,hMaps,(sk e3),(sk e7),(fun _=>rfl),(sk e13),(sk e14),(sk e15),(sk e16),(sk e17),(sk e18),(sk e19)⟩,hbel,⟨(sj c0.1),(sj c0.2.1),(sj c0.2.2.1),(sj c0.2.2.2.1),(sj c0.2.2.2.2.1),(sj c0.2.2.2.2.2.1),(sj c0.2.2.2.2.2.2)⟩,⟨(s3 c1.1),(s3 c1.2.1),(fun _=>⟨by simpa [also] using dep8,by simpa [also] using dep9,by simpa [also] using dep10,by simpa [also] using dep11⟩),(s3 c1.2.2.2.1),(sj c1.2.2.2.2)⟩⟩
theorem step13 {d:Nat -> Bool} {a:Act} {w:World} (h:Inv N w1 bt q k0 k1 tg l tx d a w) (hd:d 13 = false) (dep3:d 3 = true) (dep7:d 7 = true) (dep12:d 12 = true):wpOp Tryz.prog ops Q 13 (fun a w=>Inv N w1 bt q k0 k1 tg l tx (also d 13) a w) a w := by
 obtain ⟨⟨vm,v4,v9,v11,v13,v14,v15,v16,v17,v18,v19,rfl,hM,e3,e7,e12,e13,e14,e15,e16,e17,e18,e19⟩,hbel,c0,c1⟩ := h
 obtain ⟨o,ho,hg,hdst,hop⟩ := hO.o13
 have hNw:N <= w.heap.size := Nat.le_trans hN hbel.size
 obtain ⟨b0,_,_,hv0,_⟩ := hM.1 0 (by omega) (c1.1 dep3).1
 obtain ⟨b1,_,_,hv1,_⟩ := hM.1 1 (by omega) (c1.2.1 dep7).1
 obtain ⟨b2,_,_,hv2,_⟩ := hM.1 2 (by omega) (c1.2.2.1 dep12).1
 have hbt:Tryz.prog.built 223 [(0,.map (some b0)),(1,.map (some b1)),(2,.map (some b2))] = some #[.map (some b0),.map (some b1),.map (some b2)] := by kernel_rfl
 rw [<- hv0,<- hv1,<- hv2,<- e3 dep3,<- e7 dep7,<- e12 dep12] at hbt
 have hr := run_build (P := Tryz.prog) w 223 #[(0,v9),(1,v11),(2,v13)] _ hbt
 refine wpOp_ok (v := .agg #[v9,v11,v13]) (w' := w) ho hg (by
  have hev:(#[(0,Operand.tmp 9),(1,Operand.tmp 11),(2,Operand.tmp 13)].map (fun (x:Nat × Operand)=>(x.1,(ac (.pointer (some ⟨bt,0,none⟩)) q k0 k1 tg (.int .i64 l) vm v4 v9 v11 v13 v14 v15 v16 v17 v18 v19).eval x.2))) = #[(0,v9),(1,v11),(2,v13)] := by simp [ac,Act.eval]
  simp only [execOp,hop]
  rw [hev]
  simp [hr,Result.andThen]) ?_
 rw [hdst]
 have hMaps:Maps (also d 13) w N vm := maps_same (i := 13) hM (by intro k hk; unfold mk; omega) (by decide)
 exact ⟨⟨vm,v4,v9,v11,v13,(.agg #[v9,v11,v13]),v15,v16,v17,v18,v19,rfl,hMaps,(sk e3),(sk e7),(sk e12),(fun _=>by rw [e3 dep3,e7 dep7,e12 dep12]),(sk e14),(sk e15),(sk e16),(sk e17),(sk e18),(sk e19)⟩,hbel,⟨(sj c0.1),(sj c0.2.1),(sj c0.2.2.1),(sj c0.2.2.2.1),(sj c0.2.2.2.2.1),(sj c0.2.2.2.2.2.1),(sj c0.2.2.2.2.2.2)⟩,⟨(s3 c1.1),(s3 c1.2.1),(s4 c1.2.2.1),(fun _=>⟨by simpa [also] using dep3,by simpa [also] using dep7,by simpa [also] using dep12⟩),(sj c1.2.2.2.2)⟩⟩
theorem step14 {d:Nat -> Bool} {a:Act} {w:World} (h:Inv N w1 bt q k0 k1 tg l tx d a w) (hd:d 14 = false) :wpOp Tryz.prog ops Q 14 (fun a w=>Inv N w1 bt q k0 k1 tg l tx (also d 14) a w) a w := by
 obtain ⟨⟨vm,v4,v9,v11,v13,v14,v15,v16,v17,v18,v19,rfl,hM,e3,e7,e12,e13,e14,e15,e16,e17,e18,e19⟩,hbel,c0,c1⟩ := h
 obtain ⟨o,ho,hg,hdst,hop⟩ := hO.o14
 have hNw:N <= w.heap.size := Nat.le_trans hN hbel.size
 refine wpOp_ok (v := .int .i64 l) (w' := w) ho hg (by simp [execOp,hop,ac,Act.eval,Result.andThen]) ?_
 rw [hdst]
 have hMaps:Maps (also d 14) w N vm := maps_same (i := 14) hM (by intro k hk; unfold mk; omega) (by decide)
 exact ⟨⟨vm,v4,v9,v11,v13,v14,(.int .i64 l),v16,v17,v18,v19,rfl,hMaps,(sk e3),(sk e7),(sk e12),(sk e13),(fun _=>rfl),(sk e15),(sk e16),(sk e17),(sk e18),(sk e19)⟩,hbel,⟨(sj c0.1),(sj c0.2.1),(sj c0.2.2.1),(sj c0.2.2.2.1),(sj c0.2.2.2.2.1),(sj c0.2.2.2.2.2.1),(sj c0.2.2.2.2.2.2)⟩,⟨s3 c1.1,s3 c1.2.1,s4 c1.2.2.1,s3 c1.2.2.2.1,sj c1.2.2.2.2⟩⟩
theorem step15 {d:Nat -> Bool} {a:Act} {w:World} (h:Inv N w1 bt q k0 k1 tg l tx d a w) (hd:d 15 = false) (dep13:d 13 = true) (dep14:d 14 = true):wpOp Tryz.prog ops Q 15 (fun a w=>Inv N w1 bt q k0 k1 tg l tx (also d 15) a w) a w := by
 obtain ⟨⟨vm,v4,v9,v11,v13,v14,v15,v16,v17,v18,v19,rfl,hM,e3,e7,e12,e13,e14,e15,e16,e17,e18,e19⟩,hbel,c0,c1⟩ := h
 obtain ⟨o,ho,hg,hdst,hop⟩ := hO.o15
 have hNw:N <= w.heap.size := Nat.le_trans hN hbel.size
 have h13 := e13 dep13
 have h14 := e14 dep14
 subst h13
 subst h14
 refine wpOp_ok (v := vm l.toNat) (w' := w) ho hg (by
  have hl:l = 0 \/ l = 1 \/ l = 2 := by omega
  rcases hl with rfl | rfl | rfl <;> (simp only [execOp,hop]; rfl)) ?_
 rw [hdst]
 have hMaps:Maps (also d 15) w N vm := maps_same (i := 15) hM (by intro k hk; unfold mk; omega) (by decide)
 exact ⟨⟨vm,v4,v9,v11,v13,(.agg #[vm 0,vm 1,vm 2]),(.int .i64 l),(vm l.toNat),v17,v18,v19,rfl,hMaps,(sk e3),(sk e7),(sk e12),(fun _=>rfl),(fun _=>rfl),(fun _=>rfl),(sk e16),(sk e17),(sk e18),(sk e19)⟩,hbel,⟨(sj c0.1),(sj c0.2.1),(sj c0.2.2.1),(sj c0.2.2.2.1),(sj c0.2.2.2.2.1),(sj c0.2.2.2.2.2.1),(sj c0.2.2.2.2.2.2)⟩,⟨(s3 c1.1),(s3 c1.2.1),(s4 c1.2.2.1),(s3 c1.2.2.2.1),(fun _=>by simpa [also] using dep13)⟩⟩
theorem step16 {d:Nat -> Bool} {a:Act} {w:World} (h:Inv N w1 bt q k0 k1 tg l tx d a w) (hd:d 16 = false) :wpOp Tryz.prog ops Q 16 (fun a w=>Inv N w1 bt q k0 k1 tg l tx (also d 16) a w) a w := by
 obtain ⟨⟨vm,v4,v9,v11,v13,v14,v15,v16,v17,v18,v19,rfl,hM,e3,e7,e12,e13,e14,e15,e16,e17,e18,e19⟩,hbel,c0,c1⟩ := h
 obtain ⟨o,ho,hg,hdst,hop⟩ := hO.o16
 have hNw:N <= w.heap.size := Nat.le_trans hN hbel.size
 refine wpOp_ok (v := .pointer (some ⟨bt,1,none⟩)) (w' := w) ho hg (by simp only [execOp,hop]; rfl) ?_
 rw [hdst]
 have hMaps:Maps (also d 16) w N vm := maps_same (i := 16) hM (by intro k hk; unfold mk; omega) (by decide)
 exact ⟨⟨vm,v4,v9,v11,v13,v14,v15,v16,(.pointer (some ⟨bt,1,none⟩)),v18,v19,rfl,hMaps,(sk e3),(sk e7),(sk e12),(sk e13),(sk e14),(sk e15),(fun _=>rfl),(sk e17),(sk e18),(sk e19)⟩,hbel,⟨(sj c0.1),(sj c0.2.1),(sj c0.2.2.1),(sj c0.2.2.2.1),(sj c0.2.2.2.2.1),(sj c0.2.2.2.2.2.1),(sj c0.2.2.2.2.2.2)⟩,⟨s3 c1.1,s3 c1.2.1,s4 c1.2.2.1,s3 c1.2.2.2.1,sj c1.2.2.2.2⟩⟩
theorem step17 {d:Nat -> Bool} {a:Act} {w:World} (h:Inv N w1 bt q k0 k1 tg l tx d a w) (hd:d 17 = false) (dep16:d 16 = true):wpOp Tryz.prog ops Q 17 (fun a w=>Inv N w1 bt q k0 k1 tg l tx (also d 17) a w) a w := by
 obtain ⟨⟨vm,v4,v9,v11,v13,v14,v15,v16,v17,v18,v19,rfl,hM,e3,e7,e12,e13,e14,e15,e16,e17,e18,e19⟩,hbel,c0,c1⟩ := h
 obtain ⟨o,ho,hg,hdst,hop⟩ := hO.o17
 have hNw:N <= w.heap.size := Nat.le_trans hN hbel.size
 have h16 := e16 dep16
 subst h16
 have hc:w.cell? ⟨bt,1,none⟩ = some (.string tx) := by
  rw [<- hcell]
  simp only [World.cell?,hbel.block bt hb]
 refine wpOp_ok (v := .string tx) (w' := w) ho hg (by
  have hag:tyAgg Tryz.prog 9 = some false := by kernel_rfl
  simp [execOp,hop,ac,Act.eval,Result.andThen,Instr.loadAt,Instr.sureAddr,loadVar,tyAgg_run hag,hc]) ?_
 rw [hdst]
 have hMaps:Maps (also d 17) w N vm := maps_same (i := 17) hM (by intro k hk; unfold mk; omega) (by decide)
 exact ⟨⟨vm,v4,v9,v11,v13,v14,v15,v16,(.pointer (some ⟨bt,1,none⟩)),(.string tx),v19,rfl,hMaps,(sk e3),(sk e7),(sk e12),(sk e13),(sk e14),(sk e15),(fun _=>rfl),(fun _=>rfl),(sk e18),(sk e19)⟩,hbel,⟨(sj c0.1),(sj c0.2.1),(sj c0.2.2.1),(sj c0.2.2.2.1),(sj c0.2.2.2.2.1),(sj c0.2.2.2.2.2.1),(sj c0.2.2.2.2.2.2)⟩,⟨s3 c1.1,s3 c1.2.1,s4 c1.2.2.1,s3 c1.2.2.2.1,sj c1.2.2.2.2⟩⟩
theorem step18 {d:Nat -> Bool} {a:Act} {w:World} (h:Inv N w1 bt q k0 k1 tg l tx d a w) (hd:d 18 = false) (dep15:d 15 = true) (dep17:d 17 = true):wpOp Tryz.prog ops Q 18 (fun a w=>Inv N w1 bt q k0 k1 tg l tx (also d 18) a w) a w := by
 obtain ⟨⟨vm,v4,v9,v11,v13,v14,v15,v16,v17,v18,v19,rfl,hM,e3,e7,e12,e13,e14,e15,e16,e17,e18,e19⟩,hbel,c0,c1⟩ := h
 obtain ⟨o,ho,hg,hdst,hop⟩ := hO.o18
 have hNw:N <= w.heap.size := Nat.le_trans hN hbel.size
 have h15 := e15 dep15
 have h17 := e17 dep17
 subst h15
 subst h17
 have hl3:l.toNat < 3 := by omega
 obtain ⟨a3,a7,a12⟩ := c1.2.2.2.1 (c1.2.2.2.2 dep15)
 have b3 := c1.1 a3
 have b7 := c1.2.1 a7
 have b12 := c1.2.2.1 a12
 have hml:d (mk l.toNat) = true := by
  have hl:l = 0 \/ l = 1 \/ l = 2 := by omega
  rcases hl with rfl | rfl | rfl
  ·exact b3.1
  ·exact b7.1
  ·exact b12.1
 have hrun := (hM.1 l.toNat hl3 hml).look hs
 have hlk:lookB tx.data.toList (es l.toNat d) = opLook tx.data.toList (opList l.toNat) := by
  have hl:l = 0 \/ l = 1 \/ l = 2 := by omega
  rcases hl with rfl | rfl | rfl
  ·exact look_eq (es := [([60],9),([61,61],10)]) (by simp [es,b3.2.1,b3.2.2])
  ·exact look_eq (es := [([43],4),([45],5)]) (by simp [es,b7.2.1,b7.2.2])
  ·exact look_eq (es := [([42],6),([47],7),([37],8)]) (by simp [es,b12.2.1,b12.2.2.1,b12.2.2.2])
 rw [hlk] at hrun
 refine wpOp_ok (v := .int .i64 (opLook tx.data.toList (opList l.toNat))) (w' := w) ho hg (by
  have h16':(ac (.pointer (some ⟨bt,0,none⟩)) q k0 k1 tg (.int .i64 l) vm v4 v9 v11 v13 v14 v15 (vm l.toNat) v17 (.string tx) v19).eval (.tmp 16) = vm l.toNat := rfl
  have h18':(ac (.pointer (some ⟨bt,0,none⟩)) q k0 k1 tg (.int .i64 l) vm v4 v9 v11 v13 v14 v15 (vm l.toNat) v17 (.string tx) v19).eval (.tmp 18) = .string tx := rfl
  simp [execOp,hop,h16',h18',hrun,Result.andThen]) ?_
 rw [hdst]
 have hMaps:Maps (also d 18) w N vm := maps_same (i := 18) hM (by intro k hk; unfold mk; omega) (by decide)
 exact ⟨⟨vm,v4,v9,v11,v13,v14,v15,(vm l.toNat),v17,(.string tx),(.int .i64 (opLook tx.data.toList (opList l.toNat))),rfl,hMaps,(sk e3),(sk e7),(sk e12),(sk e13),(sk e14),(fun _=>rfl),(sk e16),(fun _=>rfl),(fun _=>rfl),(sk e19)⟩,hbel,⟨(sj c0.1),(sj c0.2.1),(sj c0.2.2.1),(sj c0.2.2.2.1),(sj c0.2.2.2.2.1),(sj c0.2.2.2.2.2.1),(sj c0.2.2.2.2.2.2)⟩,⟨s3 c1.1,s3 c1.2.1,s4 c1.2.2.1,s3 c1.2.2.2.1,sj c1.2.2.2.2⟩⟩
theorem step19 {d:Nat -> Bool} {a:Act} {w:World} (h:Inv N w1 bt q k0 k1 tg l tx d a w) (hd:d 19 = false) (dep18:d 18 = true):wpOp Tryz.prog ops Q 19 (fun a w=>Inv N w1 bt q k0 k1 tg l tx (also d 19) a w) a w := by
 obtain ⟨⟨vm,v4,v9,v11,v13,v14,v15,v16,v17,v18,v19,rfl,hM,e3,e7,e12,e13,e14,e15,e16,e17,e18,e19⟩,hbel,c0,c1⟩ := h
 obtain ⟨o,ho,hg,hdst,hop⟩ := hO.o19
 have hNw:N <= w.heap.size := Nat.le_trans hN hbel.size
 refine wpOp_ok (v := v19) (w' := w) ho hg (by simp [execOp,hop,ac,Act.eval,Result.andThen]) ?_
 rw [hdst]
 have hMaps:Maps (also d 19) w N vm := maps_same (i := 19) hM (by intro k hk; unfold mk; omega) (by decide)
 exact ⟨⟨vm,v19,v9,v11,v13,v14,v15,v16,v17,v18,v19,rfl,hMaps,(sk e3),(sk e7),(sk e12),(sk e13),(sk e14),(sk e15),(sk e16),(sk e17),(sk e18),(fun _=>e18 dep18)⟩,hbel,⟨(sj c0.1),(sj c0.2.1),(sj c0.2.2.1),(sj c0.2.2.2.1),(sj c0.2.2.2.2.1),(sj c0.2.2.2.2.2.1),(sj c0.2.2.2.2.2.2)⟩,⟨s3 c1.1,s3 c1.2.1,s4 c1.2.2.1,s3 c1.2.2.2.1,sj c1.2.2.2.2⟩⟩
end
end OpH
theorem op_run {ops:Array Oper} (hO:OpH.Ops ops) (hsz:ops.size = 20) (hst:drawB ops = true) (hm:Tryz.prog.follows .mixedOrders = true)
  (hdep:∀ i,i < 20 -> ((ops[i]?).map fun o=>(o.after.toList.filter (Region.binds .any)).map (·.on)) = some ([[],[0],[0],[0,1,2],[],[4],[4],[4,5,6],[],[8],[8],[8],[8,9,10,11],[3,7,12],[],[13,14],[],[16],[15,17],[18,0,1,2,3,4,5,6,7,8,9,10,11,12,13,14,15,16,17,18]].getD i []))
  {Q:Exit -> Act -> World -> Prop} {id:Nat} {w:World} {bt:Nat} {q k0 k1 tg:Value} {l:Int} {tx:ByteArray} (h0:0 <= l) (h3:l < 3) (hs:tx.size <= 1000000) (hb:bt < w.heap.size) (hcell:w.cell? ⟨bt,1,none⟩ = some (.string tx))
  (v4 v8 v9 v10 v11 v12 v13 v14 v15 v16 v17 v18 v19:Value)
  (hend:∀ a w',(∃ v8 v9 v10 v11 v12 v13 v14 v15 v16 v17 v18 v19,a = { tmps := #[tg,.int .i64 l,.pointer (some ⟨bt,0,none⟩),undef,.int .i64 (opLook tx.data.toList (opList l.toNat)),q,k0,k1,v8,v9,v10,v11,v12,v13,v14,v15,v16,v17,v18,v19],defers := [] }) -> Below w.heap.size w w' -> Q .normal a w') :
  (Code.region id ops true).wp Tryz.prog Q { tmps := #[tg,.int .i64 l,.pointer (some ⟨bt,0,none⟩),undef,v4,q,k0,k1,v8,v9,v10,v11,v12,v13,v14,v15,v16,v17,v18,v19],defers := [] } w := by
 refine region_kept (fun d a w'=>OpH.Inv w.heap.size { w with drawn := w.drawn + 1 } bt q k0 k1 tg l tx d a w') hm hst ?_ ?_ ?_
 ·intro d i a w' hI hi hd hdp
  have hdep':∀ k,k ∈ ([[],[0],[0],[0,1,2],[],[4],[4],[4,5,6],[],[8],[8],[8],[8,9,10,11],[3,7,12],[],[13,14],[],[16],[15,17],[18,0,1,2,3,4,5,6,7,8,9,10,11,12,13,14,15,16,17,18]].getD i []:List Nat) -> d k = true := by
   intro k hk
   have h1 := hdep i (by omega)
   cases ho:ops[i]? with
   | none=>rw [ho] at h1; cases h1
   | some o =>
    rw [ho] at h1
    simp only [Option.map_some,Option.some.injEq] at h1
    rw [<- h1] at hk
    obtain ⟨e,he,rfl⟩ := List.mem_map.1 hk
    obtain ⟨he1,he2⟩ := List.mem_filter.1 he
    exact hdp o (by rw [Array.getElem?_toList]; exact ho) e (by simpa using he1) he2
  have hlt:i < 20 := by omega
  have hb':bt < w.heap.size := hb
  have hc':({ w with drawn := w.drawn + 1 }:World).cell? ⟨bt,1,none⟩ = some (.string tx) := hcell
  match i,hlt,hd,hdep' with
  | 0,_,hd,hdep'=>exact OpH.step0 (w1 := { w with drawn := w.drawn + 1 }) hO h0 h3 hs (Nat.le_refl _) hb' hc' hI hd
  | 1,_,hd,hdep'=>exact OpH.step1 (w1 := { w with drawn := w.drawn + 1 }) hO h0 h3 hs (Nat.le_refl _) hb' hc' hI hd (hdep' 0 (by simp))
  | 2,_,hd,hdep'=>exact OpH.step2 (w1 := { w with drawn := w.drawn + 1 }) hO h0 h3 hs (Nat.le_refl _) hb' hc' hI hd (hdep' 0 (by simp))
  | 3,_,hd,hdep'=>exact OpH.step3 (w1 := { w with drawn := w.drawn + 1 }) hO h0 h3 hs (Nat.le_refl _) hb' hc' hI hd (hdep' 0 (by simp)) (hdep' 1 (by simp)) (hdep' 2 (by simp))
  | 4,_,hd,hdep'=>exact OpH.step4 (w1 := { w with drawn := w.drawn + 1 }) hO h0 h3 hs (Nat.le_refl _) hb' hc' hI hd
  | 5,_,hd,hdep'=>exact OpH.step5 (w1 := { w with drawn := w.drawn + 1 }) hO h0 h3 hs (Nat.le_refl _) hb' hc' hI hd (hdep' 4 (by simp))
  | 6,_,hd,hdep'=>exact OpH.step6 (w1 := { w with drawn := w.drawn + 1 }) hO h0 h3 hs (Nat.le_refl _) hb' hc' hI hd (hdep' 4 (by simp))
  | 7,_,hd,hdep'=>exact OpH.step7 (w1 := { w with drawn := w.drawn + 1 }) hO h0 h3 hs (Nat.le_refl _) hb' hc' hI hd (hdep' 4 (by simp)) (hdep' 5 (by simp)) (hdep' 6 (by simp))
  | 8,_,hd,hdep'=>exact OpH.step8 (w1 := { w with drawn := w.drawn + 1 }) hO h0 h3 hs (Nat.le_refl _) hb' hc' hI hd
  | 9,_,hd,hdep'=>exact OpH.step9 (w1 := { w with drawn := w.drawn + 1 }) hO h0 h3 hs (Nat.le_refl _) hb' hc' hI hd (hdep' 8 (by simp))
  | 10,_,hd,hdep'=>exact OpH.step10 (w1 := { w with drawn := w.drawn + 1 }) hO h0 h3 hs (Nat.le_refl _) hb' hc' hI hd (hdep' 8 (by simp))
  | 11,_,hd,hdep'=>exact OpH.step11 (w1 := { w with drawn := w.drawn + 1 }) hO h0 h3 hs (Nat.le_refl _) hb' hc' hI hd (hdep' 8 (by simp))
  | 12,_,hd,hdep'=>exact OpH.step12 (w1 := { w with drawn := w.drawn + 1 }) hO h0 h3 hs (Nat.le_refl _) hb' hc' hI hd (hdep' 8 (by simp)) (hdep' 9 (by simp)) (hdep' 10 (by simp)) (hdep' 11 (by simp))
  | 13,_,hd,hdep'=>exact OpH.step13 (w1 := { w with drawn := w.drawn + 1 }) hO h0 h3 hs (Nat.le_refl _) hb' hc' hI hd (hdep' 3 (by simp)) (hdep' 7 (by simp)) (hdep' 12 (by simp))
  | 14,_,hd,hdep'=>exact OpH.step14 (w1 := { w with drawn := w.drawn + 1 }) hO h0 h3 hs (Nat.le_refl _) hb' hc' hI hd
  | 15,_,hd,hdep'=>exact OpH.step15 (w1 := { w with drawn := w.drawn + 1 }) hO h0 h3 hs (Nat.le_refl _) hb' hc' hI hd (hdep' 13 (by simp)) (hdep' 14 (by simp))
  | 16,_,hd,hdep'=>exact OpH.step16 (w1 := { w with drawn := w.drawn + 1 }) hO h0 h3 hs (Nat.le_refl _) hb' hc' hI hd
  | 17,_,hd,hdep'=>exact OpH.step17 (w1 := { w with drawn := w.drawn + 1 }) hO h0 h3 hs (Nat.le_refl _) hb' hc' hI hd (hdep' 16 (by simp))
  | 18,_,hd,hdep'=>exact OpH.step18 (w1 := { w with drawn := w.drawn + 1 }) hO h0 h3 hs (Nat.le_refl _) hb' hc' hI hd (hdep' 15 (by simp)) (hdep' 17 (by simp))
  | 19,_,hd,hdep'=>exact OpH.step19 (w1 := { w with drawn := w.drawn + 1 }) hO h0 h3 hs (Nat.le_refl _) hb' hc' hI hd (hdep' 18 (by simp))
  | i + 20,hlt,_,_=>omega
 ·intro d a w' hI hall
  obtain ⟨⟨vm,v4,v9,v11,v13,v14,v15,v16,v17,v18,v19,rfl,hM,e3,e7,e12,e13,e14,e15,e16,e17,e18,e19⟩,hbel,_,_⟩ := hI
  have h19 := e19 (hall 19 (by omega))
  subst h19
  exact hend _ w' ⟨_,_,_,_,_,_,_,_,_,_,_,_,rfl⟩ (show Below w.heap.size w w' from ⟨hbel.os,hbel.tape,hbel.output,hbel.size,hbel.block⟩)
 ·exact ⟨⟨fun j=>match j with | 0=>v8 | 1=>v10 | _=>v12,v4,v9,v11,v13,v14,v15,v16,v17,v18,v19,rfl,⟨(fun j _ h=>by cases h),(fun j k _ _ _ h _=>by cases h)⟩,
   (fun h=>by cases h),(fun h=>by cases h),(fun h=>by cases h),(fun h=>by cases h),(fun h=>by cases h),(fun h=>by cases h),(fun h=>by cases h),(fun h=>by cases h),(fun h=>by cases h),(fun h=>by cases h)⟩,Below.refl _ _,
   ⟨(fun h=>by cases h),(fun h=>by cases h),(fun h=>by cases h),(fun h=>by cases h),(fun h=>by cases h),(fun h=>by cases h),(fun h=>by cases h)⟩,
   ⟨(fun h=>by cases h),(fun h=>by cases h),(fun h=>by cases h),(fun h=>by cases h),(fun h=>by cases h)⟩⟩
theorem op_calls (k:Int) (tx:ByteArray) (n:Int) (re im:Nat) (l r:Int) (h:opM k tx l = some r) (w:World) :
  Calls Tryz.prog 173 #[.agg #[.int .i64 k,.string tx,.int .i64 n,.complex .f64 re im],.int .i64 l] w fun e w'=>e = .returned (.int .i64 r) /\ Below w.heap.size w w' := by
 unfold opM at h
 go_enter Tryz.func173,Tryz.ntmps173
 go_wp2
 ·have hk:(k != 3) = true := by assumption
  rw [hk] at h
  simp only [cond_true,Option.some.injEq] at h
  subst h
  go_ret
  exact ⟨rfl,(Below.refl _ _).alloc (Nat.le_refl _) _⟩
 ·have hk:(k != 3) = false := by assumption
  rw [hk,cond_false] at h
  cases hc:decide (tx.size <= 1000000)&&(decide (0 <= l)&&decide (l < 3)) with
  | false=>rw [hc] at h; cases h
  | true =>
   rw [hc] at h
   simp only [cond_true,Option.some.injEq] at h
   simp only [Bool.and_eq_true,decide_eq_true_eq] at hc
   subst h
   refine op_run (bt := w.heap.size) ⟨⟨_,rfl,rfl,rfl,rfl⟩,⟨_,rfl,rfl,rfl,rfl⟩,⟨_,rfl,rfl,rfl,rfl⟩,⟨_,rfl,rfl,rfl,rfl⟩,⟨_,rfl,rfl,rfl,rfl⟩,⟨_,rfl,rfl,rfl,rfl⟩,⟨_,rfl,rfl,rfl,rfl⟩,⟨_,rfl,rfl,rfl,rfl⟩,⟨_,rfl,rfl,rfl,rfl⟩,⟨_,rfl,rfl,rfl,rfl⟩,⟨_,rfl,rfl,rfl,rfl⟩,⟨_,rfl,rfl,rfl,rfl⟩,⟨_,rfl,rfl,rfl,rfl⟩,⟨_,rfl,rfl,rfl,rfl⟩,⟨_,rfl,rfl,rfl,rfl⟩,⟨_,rfl,rfl,rfl,rfl⟩,⟨_,rfl,rfl,rfl,rfl⟩,⟨_,rfl,rfl,rfl,rfl⟩,⟨_,rfl,rfl,rfl,rfl⟩,⟨_,rfl,rfl,rfl,rfl⟩⟩ (by kernel_rfl) (by kernel_rfl) (by kernel_rfl) ?_ hc.2.1 hc.2.2 hc.1 (by simp) ?_ _ _ _ _ _ _ _ _ _ _ _ _ _ ?_
   ·intro i hi
    match i,hi with
    | 0,_=>show Option.map _ _ = _; kernel_rfl
    | 1,_=>show Option.map _ _ = _; kernel_rfl
    | 2,_=>show Option.map _ _ = _; kernel_rfl
    | 3,_=>show Option.map _ _ = _; kernel_rfl
    | 4,_=>show Option.map _ _ = _; kernel_rfl
    | 5,_=>show Option.map _ _ = _; kernel_rfl
    | 6,_=>show Option.map _ _ = _; kernel_rfl
    | 7,_=>show Option.map _ _ = _; kernel_rfl
    | 8,_=>show Option.map _ _ = _; kernel_rfl
    | 9,_=>show Option.map _ _ = _; kernel_rfl
    | 10,_=>show Option.map _ _ = _; kernel_rfl
    | 11,_=>show Option.map _ _ = _; kernel_rfl
    | 12,_=>show Option.map _ _ = _; kernel_rfl
    | 13,_=>show Option.map _ _ = _; kernel_rfl
    | 14,_=>show Option.map _ _ = _; kernel_rfl
    | 15,_=>show Option.map _ _ = _; kernel_rfl
    | 16,_=>show Option.map _ _ = _; kernel_rfl
    | 17,_=>show Option.map _ _ = _; kernel_rfl
    | 18,_=>show Option.map _ _ = _; kernel_rfl
    | 19,_=>show Option.map _ _ = _; kernel_rfl
    | i + 20,hi=>omega
   ·simp only [World.cell?]
    rw [(MapKept.heap_alloc w _).1]
    rfl
   ·rintro a w' ⟨v8,v9,v10,v11,v12,v13,v14,v15,v16,v17,v18,v19,rfl⟩ hbel
    go_wp2
    go_ret
    exact ⟨rfl,((Below.refl _ _).alloc (Nat.le_refl _) _).trans (hbel.mono ((Below.refl w.heap.size w).alloc (Nat.le_refl _) _).size)⟩
theorem x_expr_operator {a0:Int} {a1:ByteArray} {a2:Int} {a3:Nat × Nat} {a4 r:Int} (h:opM a0 a1 a4 = some r):FuncOk Tryz.prog 173 [V.agg [V.t (T.sc (.int .i64 a0)),V.t (T.sc (.string a1)),V.t (T.sc (.int .i64 a2)),V.t (T.sc (.complex .f64 a3.1 a3.2))],V.t (T.sc (.int .i64 a4))] [] (V.t (T.sc (.int .i64 r))) [] := by
 refine ext_any Tryz.func173 (by kernel_rfl) (by kernel_rfl) (fun w g args hsz hrel hW _=>?_)
 obtain ⟨x0,x1,rfl,h0,h1⟩ := args2 hsz hrel
 obtain rfl := rel_sc h1
 simp only [RelV] at h0
 obtain ⟨xs,rfl,h0⟩ := h0
 obtain ⟨l⟩ := xs
 match l,h0 with
 | [y0,y1,y2,y3],h0 =>
  simp only [RelL] at h0
  obtain ⟨e0,e1,e2,e3,_⟩ := h0
  obtain rfl := rel_sc e0
  obtain rfl := rel_sc e1
  obtain rfl := rel_sc e2
  obtain rfl := rel_sc e3
  refine (op_calls a0 a1 a2 a3.1 a3.2 a4 r h w).mono ?_
  rintro e w' ⟨rfl,hb⟩
  exact ⟨_,g.F,rfl,fun _ _=>rfl,fun b lim hh=>Nat.lt_of_lt_of_le (hW.lt b lim hh) hb.size,by simp only [RelV]; exact .sc _ rfl,hb⟩
end Go.Proofs.YtbcgpjlkkcdmmaaGreatDoor.W
