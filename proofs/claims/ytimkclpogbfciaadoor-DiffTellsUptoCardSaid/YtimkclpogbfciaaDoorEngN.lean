/- The engine, fourth part: the operations that turn nothing that is there. -/
import Derived.Test.YtimkclpogbfciaaDoorEngOps
import Derived.Laws.OwnMore
set_option linter.unusedVariables false
set_option linter.unusedSimpArgs false
namespace Go.Eng
open Go.RowKit
theorem flat_drop {sz : Nat} : ∀ {es : List T} (n : Nat), (∀ y ∈ es, y.cells.length = sz) -> (es.drop n).flatMap T.cells = (es.flatMap T.cells).drop (n * sz)
 | es, 0, _ => by simp
 | [], n + 1, _ => by simp
 | y :: es, n + 1, h => by
  have hy := h y (by simp)
  have := flat_drop n (fun z hz => h z (List.mem_cons_of_mem _ hz) : ∀ z ∈ es, z.cells.length = sz)
  simp only [List.drop_succ_cons, List.flatMap_cons, this]
  have h9 : y.cells.drop ((n + 1) * sz) = [] := List.drop_eq_nil_of_le (by rw [hy, Nat.add_mul]; omega)
  rw [List.drop_append, show (n + 1) * sz - y.cells.length = n * sz by rw [hy, Nat.add_mul]; omega, h9]
  simp
theorem flat_take {sz : Nat} : ∀ {es : List T} (n : Nat), (∀ y ∈ es, y.cells.length = sz) -> (es.take n).flatMap T.cells = (es.flatMap T.cells).take (n * sz)
 | es, 0, _ => by simp
 | [], n + 1, _ => by simp
 | y :: es, n + 1, h => by
  have hy := h y (by simp)
  have := flat_take n (fun z hz => h z (List.mem_cons_of_mem _ hz) : ∀ z ∈ es, z.cells.length = sz)
  simp only [List.take_succ_cons, List.flatMap_cons, this]
  have h9 : y.cells.take ((n + 1) * sz) = y.cells := List.take_of_length_le (by rw [hy, Nat.add_mul]; omega)
  rw [List.take_append, show (n + 1) * sz - y.cells.length = n * sz by rw [hy, Nat.add_mul]; omega, h9]
theorem flat_get {sz : Nat} {es : List T} (h : ∀ y ∈ es, y.cells.length = sz) {i : Nat} {y : T} (hy : es[i]? = some y) {j : Nat} {x : T} (hx : y.cells[j]? = some x) :
  (es.flatMap T.cells)[i * sz + j]? = some x := by
 have h1 := flat_drop i h
 have hi := (List.getElem?_eq_some_iff.1 hy).1
 have h2 : es.drop i = y :: es.drop (i + 1) := by
  rw [List.drop_eq_getElem_cons hi]
  simp [(List.getElem?_eq_some_iff.1 hy).2]
 rw [h2, List.flatMap_cons] at h1
 have h3 : ((es.flatMap T.cells).drop (i * sz))[j]? = some x := by
  rw [<- h1, List.getElem?_append_left (List.getElem?_eq_some_iff.1 hx).1]; exact hx
 rwa [List.getElem?_drop] at h3
theorem RList.cut {w : World} {F : Nat -> Option Nat} {sz b o lim : Nat} {es : List T} (h : RList w F sz es b o lim) {l k : Nat} (hl : l <= k) (hk : k <= es.length) :
  RList w F sz ((es.take k).drop l) b (o + l * sz) lim := by
 have h0 : ∀ y ∈ es.take k, y.cells.length = sz := fun y hy => h.size y (List.mem_of_mem_take hy)
 refine ⟨h.isLim, ?_, h.pos, fun y hy => h0 y (List.mem_of_mem_drop hy), ?_⟩
 ·have := h.le
  have h1 : ((es.take k).drop l).length = k - l := by simp; omega
  rw [h1, Nat.add_assoc, <- Nat.add_mul, show l + (k - l) = k by omega]
  have : k * sz <= es.length * sz := Nat.mul_le_mul_right _ hk
  omega
 ·rw [flat_drop l h0, flat_take k h.size]
  intro j x hx
  rw [List.getElem?_drop, List.getElem?_take] at hx
  split at hx
  ·obtain ⟨v, h1, h2⟩ := h.at_ _ x hx
   exact ⟨v, by rw [<- h1]; congr 2; omega, h2⟩
  ·simp at hx
def NStep (w : World) (g : Gh) (w1 : World) (g1 : Gh) : Prop :=
 (w1 = w /\ g1 = g) \/ ∃ cs el n, w1 = w.alloc (.cells cs el (0, 0)) /\ g1 = { g with F := fun b => if b = w.heap.size then some n else g.F b } /\ n <= cs.size
theorem Addr.add_none (b o n : Nat) : (⟨b, o, none⟩ : Addr).add n = ⟨b, o + n, none⟩ := by unfold Addr.add; split <;> simp_all
section
variable {P : Program} {w : World} {g : Gh} {e : Env} {a : Act} {sig : Sig}
def NOk (P : Program) (w : World) (g : Gh) (a : Act) (o : Oper) (v : V) : Prop :=
 ∃ x w1 g1, (execOp a.eval o).run P w = .ok (.value x) w1 /\ (∀ l, RelV w1 g1 l v x) /\ NStep w g w1 g1
theorem NOk.same {o : Oper} {v : V} {x : Value} (h : (execOp a.eval o).run P w = .ok (.value x) w) (hr : ∀ l, RelV w g l v x) : NOk P w g a o v :=
 ⟨x, w, g, h, hr, .inl ⟨rfl, rfl⟩⟩
theorem NOk.scalar (hE : SimE w g e a) {o : Oper} (hs : ∀ cs b, o.op ≠ .select cs b) {v : V} {ld : Option Nat} (hv : (scalar P (rd e) o).map (·, (none : Option Nat)) = some (v, ld)) : NOk P w g a o v := by
 cases h : Eng.scalar P (rd e) o with
 | none => simp [h] at hv
 | some u =>
  simp [h] at hv
  obtain ⟨rfl, -⟩ := hv
  obtain ⟨x, h1, rfl, h3⟩ := scalar_sound (P := P) hE hs h w
  exact .same h1 fun l => by simp only [RelV]; exact .sc _ h3
theorem rd_int (hE : SimE w g e a) {x : Operand} {k : IntKind} {n : Int} (h : rd e x = some (.t (.sc (.int k n)))) : a.eval x = .int k n := by
 have := (rd_rel hE h .nil).1
 simp only [RelV] at this
 exact this.toSc.1
theorem rd_bool (hE : SimE w g e a) {x : Operand} {b : Bool} (h : rd e x = some (.t (.sc (.bool b)))) : a.eval x = .bool b := by
 have := (rd_rel hE h .nil).1
 simp only [RelV] at this
 exact this.toSc.1
theorem move_ok (hE : SimE w g e a) {o : Oper} {x : Operand} (ho : o.op = .move x) {v : V} (h : rd e x = some v) : NOk P w g a o v := by
 refine .same (x := a.eval x) (by simp [execOp, ho]) fun l => (rd_rel hE h l).1
theorem pick_ok (hE : SimE w g e a) {o : Oper} {c x y : Operand} (ho : o.op = .pick c x y) {b : Bool} (hc : rd e c = some (.t (.sc (.bool b)))) {v : V} (h : rd e (if b then x else y) = some v) : NOk P w g a o v := by
 refine .same (x := a.eval (if b then x else y)) ?_ fun l => (rd_rel hE h l).1
 simp only [execOp, ho, rd_bool hE hc]
 cases b <;> simp [asBool]
theorem extract_ok (hE : SimE w g e a) (hW : WF P w g) {o : Oper} {x : Operand} {i : Nat} (ho : o.op = .extract x i) {vs : List V} (hx : rd e x = some (.tup vs)) {v : V} (h : vs[i]? = some v) : NOk P w g a o v := by
 have h1 := (rd_rel hE hx .nil).1
 simp only [RelV] at h1
 obtain ⟨xs, h2, h3⟩ := h1
 obtain ⟨u, h4, h5⟩ := h3.get h
 refine .same (x := u) ?_ fun l => h5.ofNil hW.noNil
 have : xs[i]? = some u := by simpa using h4
 simp [execOp, ho, h2, Instr.extract, this]
theorem nilCheck_ok (hE : SimE w g e a) {o : Oper} {x : Operand} (ho : o.op = .nilCheck x) {v : V} (hx : rd e x = some v) (hv : (∃ id off, v = .ptr id off) \/ (∃ cs, v = .cptr cs) \/ (∃ f caps, v = .fn f caps) \/ ∃ id off st n k, v = .aptr id off st n k) : NOk P w g a o v := by
 refine .same (x := a.eval x) ?_ fun l => (rd_rel hE hx l).1
 have h1 := (rd_rel hE hx .nil).1
 rcases hv with ⟨id, off, rfl⟩ | ⟨cs, rfl⟩ | ⟨f, caps, rfl⟩ | ⟨id, off, st, n, k, rfl⟩
 ·simp only [RelV] at h1
  obtain ⟨b, _, h2⟩ := h1
  simp [execOp, ho, h2]
 ·simp only [RelV] at h1
  obtain ⟨b, o', lim, h2, _⟩ := h1
  simp [execOp, ho, h2]
 ·simp only [RelV] at h1
  obtain ⟨xs, h2, _⟩ := h1
  simp [execOp, ho, h2]
 ·simp only [RelV] at h1
  obtain ⟨b, _, h2⟩ := h1
  simp [execOp, ho, h2]
theorem field_ok (hE : SimE w g e a) (hW : WF P w g) {o : Oper} {t : TypeId} {x : Operand} {f : Nat} (ho : o.op = .field t x f) {vs : List V} (hx : rd e x = some (.agg vs)) {fd : Field} (hf : tyField P t f = some fd)
  {b : Bool} {n : Nat} (ha : tyAgg P fd.type = some b) (hn : tySize P fd.type = some n) {v : V} (h : partV b n fd.offset vs = some v) : NOk P w g a o v := by
 have h1 := (rd_rel hE hx .nil).1
 simp only [RelV] at h1
 obtain ⟨xs, h2, h3⟩ := h1
 obtain ⟨u, h4, h5⟩ := partV_sound hW ha hn h3 h w
 obtain ⟨fs, h6, h7⟩ := tyField_spec hf
 refine .same (x := u) ?_ h5
 simp [execOp, ho, h2, Instr.field, run_underlying h6, h7, asAgg, h4]
theorem fieldAddr_run {t : TypeId} {f : Nat} {fd : Field} (hf : tyField P t f = some fd) (hn : (tySize P fd.type).any (· ≠ 0) = true) (b o : Nat) (w : World) :
  (Instr.fieldAt t (.pointer (some ⟨b, o, none⟩)) f).run P w = .ok (.pointer (some ⟨b, o + fd.offset, none⟩)) w := by
 obtain ⟨fs, h6, h7⟩ := tyField_spec hf
 cases hs : tySize P fd.type with
 | none => simp [hs] at hn
 | some n =>
  simp [hs] at hn
  simp [Instr.fieldAt, run_underlying h6, h7, Instr.sureAddr, fieldPlace, tySize_run hs, hn, Addr.add_none]
theorem fieldAddr_ptr (hE : SimE w g e a) {o : Oper} {t : TypeId} {x : Operand} {f : Nat} (ho : o.op = .fieldAddr t x f) {id off : Nat} (hx : rd e x = some (.ptr id off)) {fd : Field} (hf : tyField P t f = some fd)
  (hn : (tySize P fd.type).any (· ≠ 0) = true) : NOk P w g a o (.ptr id (off + fd.offset)) := by
 have h1 := (rd_rel hE hx .nil).1
 simp only [RelV] at h1
 obtain ⟨b, h2, h3⟩ := h1
 refine .same (x := .pointer (some ⟨b, off + fd.offset, none⟩)) ?_ fun l => by simp only [RelV]; exact ⟨b, h2, rfl⟩
 simp [execOp, ho, h3, fieldAddr_run hf hn]
theorem RAt.drop {F : Nat -> Option Nat} {b o : Nat} {cs : List T} (h : RAt w F b o cs) (n : Nat) : RAt w F b (o + n) (cs.drop n) := by
 intro k x hk
 rw [List.getElem?_drop] at hk
 obtain ⟨v, h1, h2⟩ := h _ x hk
 exact ⟨v, by rw [<- h1]; congr 2; omega, h2⟩
theorem fieldAddr_cptr (hE : SimE w g e a) {o : Oper} {t : TypeId} {x : Operand} {f : Nat} (ho : o.op = .fieldAddr t x f) {cs : List T} (hx : rd e x = some (.cptr cs)) {fd : Field} (hf : tyField P t f = some fd)
  (hn : (tySize P fd.type).any (· ≠ 0) = true) (hle : fd.offset <= cs.length) : NOk P w g a o (.cptr (cs.drop fd.offset)) := by
 have h1 := (rd_rel hE hx .nil).1
 simp only [RelV] at h1
 obtain ⟨b, o', lim, h2, h3, h4, h5⟩ := h1
 refine .same (x := .pointer (some ⟨b, o' + fd.offset, none⟩)) ?_ fun l => by
  simp only [RelV]
  exact ⟨b, _, lim, rfl, h3, by simp; omega, h5.drop _⟩
 simp [execOp, ho, h2, fieldAddr_run hf hn]
theorem indexAddr_list (hE : SimE w g e a) {o : Oper} {t : TypeId} {x i : Operand} (ho : o.op = .indexAddr t x i) {es : List T} (hx : rd e x = some (.t (.list es))) {kk : IntKind} {k : Int} (hi : rd e i = some (.t (.sc (.int kk k))))
  {el : TypeId} {sz : Nat} (ht : tyElem P t = some el) (hs : tySize P el = some sz) (h0 : 0 <= k) {y : T} (hy : es[k.toNat]? = some y) (hc : y.cells.length = sz) : NOk P w g a o (.cptr y.cells) := by
 have h1 := (rd_rel hE hx .nil).1
 simp only [RelV] at h1
 rcases h1.toList with ⟨rfl, _⟩ | ⟨b, o', cap, sz', lim, h2, h3, h4⟩
 ·simp at hy
 ·have hlt := (List.getElem?_eq_some_iff.1 hy).1
  have : sz' = sz := by rw [<- hc]; exact (h4.size y (List.mem_of_getElem? hy)).symm
  subst this
  refine .same (x := .pointer (some ⟨b, o' + k.toNat * sz', none⟩)) ?_ fun l => ?_
  ·have hk : k < (es.length : Int) := by omega
   simp [execOp, ho, h2, rd_int hE hi, Instr.indexAt, asIntOf, run_underlying (tyElem_spec ht), h0, hk, tySize_run hs, Addr.add_none]
  ·simp only [RelV]
   refine ⟨b, _, lim, rfl, h4.isLim, ?_, ?_⟩
   ·have := h4.le
    have h5 : (k.toNat + 1) * sz' <= es.length * sz' := Nat.mul_le_mul_right _ hlt
    rw [Nat.add_mul] at h5
    omega
   ·intro j z hj
    obtain ⟨v, h6, h7⟩ := h4.at_ _ z (flat_get h4.size hy hj)
    exact ⟨v, by rw [<- h6]; congr 2; omega, h7⟩
theorem indexAddr_ptr (hE : SimE w g e a) {o : Oper} {t : TypeId} {x i : Operand} (ho : o.op = .indexAddr t x i) {id off : Nat} (hx : rd e x = some (.ptr id off)) {kk : IntKind} {k : Int} (hi : rd e i = some (.t (.sc (.int kk k))))
  {el : TypeId} {n sz : Nat} (ht : tyArr P t = some (n, el)) (hs : tySize P el = some sz) (h0 : 0 <= k) (h1 : k < n) : NOk P w g a o (.ptr id (off + k.toNat * sz)) := by
 have h1 := (rd_rel hE hx .nil).1
 simp only [RelV] at h1
 obtain ⟨b, h2, h3⟩ := h1
 refine .same (x := .pointer (some ⟨b, off + k.toNat * sz, none⟩)) ?_ fun l => by simp only [RelV]; exact ⟨b, h2, rfl⟩
 have hu := tyArr_spec ht
 simp [execOp, ho, h3, rd_int hE hi, Instr.indexAt, asIntOf, run_underlying hu, h0, h1, tySize_run hs, Addr.add_none, Instr.sureAddr, *]
theorem fieldAddr_aptr (hE : SimE w g e a) {o : Oper} {t : TypeId} {x : Operand} {f : Nat} (ho : o.op = .fieldAddr t x f) {id off st n : Nat} {k : Int} (hx : rd e x = some (.aptr id off st n k)) {fd : Field} (hf : tyField P t f = some fd)
  (hn : (tySize P fd.type).any (· ≠ 0) = true) : NOk P w g a o (.aptr id (off + fd.offset) st n k) := by
 have h1 := (rd_rel hE hx .nil).1
 simp only [RelV] at h1
 obtain ⟨b, h2, h3⟩ := h1
 refine .same (x := .pointer (some ⟨b, off + k.toNat * st + fd.offset, none⟩)) ?_ fun l => by simp only [RelV]; exact ⟨b, h2, by rw [Nat.add_right_comm]⟩
 simp [execOp, ho, h3, fieldAddr_run hf hn]
theorem indexAddr_aptr (hE : SimE w g e a) {o : Oper} {t : TypeId} {x i : Operand} (ho : o.op = .indexAddr t x i) {id off : Nat} (hx : rd e x = some (.ptr id off)) {kk : IntKind} {k : Int} (hi : rd e i = some (.t (.sc (.int kk k))))
  {el : TypeId} {n sz : Nat} (ht : tyArr P t = some (n, el)) (hs : tySize P el = some sz) (h0 : 0 <= k) (h1 : k < n) : NOk P w g a o (.aptr id off sz n k) := by
 have h1 := (rd_rel hE hx .nil).1
 simp only [RelV] at h1
 obtain ⟨b, h2, h3⟩ := h1
 refine .same (x := .pointer (some ⟨b, off + k.toNat * sz, none⟩)) ?_ fun l => by simp only [RelV]; exact ⟨b, h2, rfl⟩
 have hu := tyArr_spec ht
 simp [execOp, ho, h3, rd_int hE hi, Instr.indexAt, asIntOf, run_underlying hu, h0, h1, tySize_run hs, Addr.add_none, Instr.sureAddr, *]
theorem index_agg (hE : SimE w g e a) (hW : WF P w g) {o : Oper} {t : TypeId} {x i : Operand} (ho : o.op = .index t x i) {vs : List V} (hx : rd e x = some (.agg vs)) {kk : IntKind} {k : Int} (hi : rd e i = some (.t (.sc (.int kk k))))
  {el : TypeId} {n sz : Nat} {b : Bool} (ht : tyArr P t = some (n, el)) (ha : tyAgg P el = some b) (hs : tySize P el = some sz) (h0 : 0 <= k) (h1 : k < n) {v : V} (h : partV b sz (k.toNat * sz) vs = some v) : NOk P w g a o v := by
 have h2 := (rd_rel hE hx .nil).1
 simp only [RelV] at h2
 obtain ⟨xs, h3, h4⟩ := h2
 obtain ⟨u, h5, h6⟩ := partV_sound hW ha hs h4 h w
 refine .same (x := u) ?_ h6
 have hu := tyArr_spec ht
 simp [execOp, ho, h3, rd_int hE hi, Instr.index, asIntOf, run_underlying hu, h0, h1, tySize_run hs, h5]
theorem len_ok (hE : SimE w g e a) {o : Oper} {c : Call} (ho : o.op = .call c) (hc : c.callee = .builtin .len) {x : Operand} (hx : c.args[0]? = some x) {v : V} (hv : rd e x = some v) {es : List T} (hl : v.list = some es)
  {t el : TypeId} (ht : c.argTypes[0]? = some t) (hel : tyElem P t = some el) : NOk P w g a o (.t (.sc (.int .i64 es.length))) := by
 have h1 := (rd_rel hE hv .nil).1.list hl
 refine .same (x := .int .i64 es.length) ?_ fun l => by simp only [RelV]; exact .sc _ rfl
 have hu := tyElem_spec hel
 have h2 : (c.args.map a.eval)[0]? = some (a.eval x) := by simp [hx]
 have hlen : ∃ base cap, a.eval x = .slice base es.length cap := by
  rcases h1.toList with ⟨rfl, h⟩ | ⟨b, o', cap, sz', lim, h, _⟩
  ·rcases h with h | ⟨a0, h⟩
   ·exact ⟨none, 0, by simpa using h⟩
   ·exact ⟨some a0, 0, by simpa using h⟩
  ·exact ⟨_, _, h⟩
 obtain ⟨base, cap, hev⟩ := hlen
 simp [execOp, ho, resolve, hc, invoke, builtin, Builtin.len_, ht, h2, hx, hev, run_underlying hu, goInt]
theorem makeFunc_ok (hE : SimE w g e a) {o : Oper} {f : FuncId} {first caps : Array Operand} (ho : o.op = .makeFunc (.func f) first caps) (hf : first.toList = []) {vs : List V} (hv : rdAll (rd e) caps.toList = some vs) : NOk P w g a o (.fn f vs) := by
 have key : ∀ (l : List Operand) (vs : List V), rdAll (rd e) l = some vs -> RelL w g vs (l.map a.eval) := by
  intro l
  induction l with
  | nil => intro vs h; simp only [rdAll, Option.some.injEq] at h; subst h; simp [RelL]
  | cons x r ih =>
   intro vs h
   simp only [rdAll] at h
   split at h
   ·rename_i u us h1 h2
    simp only [Option.some.injEq] at h; subst h
    simp only [List.map_cons, RelL]
    exact ⟨(rd_rel hE h1 _).1, ih us h2⟩
   ·simp at h
 have hfirst : first = #[] := by apply Array.ext'; simpa using hf
 refine .same (x := .func (.func f) #[] (caps.map a.eval)) ?_ fun l => by
  simp only [RelV]
  exact ⟨_, rfl, by simpa using key _ _ hv⟩
 simp [execOp, ho, Instr.makeFunc, hfirst]
end
end Go.Eng
