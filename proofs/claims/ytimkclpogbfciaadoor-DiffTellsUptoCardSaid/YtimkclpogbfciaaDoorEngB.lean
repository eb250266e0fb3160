/- The engine, sixth part: structs, arrays and slices that are built; the operations that turn nothing, together. -/
import Derived.Test.YtimkclpogbfciaaDoorEngM
set_option linter.unusedVariables false
set_option linter.unusedSimpArgs false
namespace Go.Eng
open Go.RowKit
section
variable {P : Program} {w : World} {g : Gh} {e : Env} {a : Act} {sig : Sig}
theorem RelL.set {vs : List V} {xs : List Value} (h : RelL w g vs xs) (k : Nat) {v : V} {x : Value} (hv : RelV w g .nil v x) : RelL w g (vs.set k v) (xs.set k x) := by
 refine RelL.of (by simp [h.length]) ?_
 intro j u y hu hy
 rw [List.getElem?_set] at hu hy
 split at hu
 ·rename_i hkj
  subst hkj
  simp only [if_true] at hy
  split at hu
  ·split at hy
   ·simp only [Option.some.injEq] at hu hy; subst hu; subst hy; exact hv
   ·simp at hy
  ·simp at hu
 ·rename_i hkj
  rw [if_neg hkj] at hy
  obtain ⟨z, hz, hr⟩ := h.get hu
  rw [hy] at hz
  simp only [Option.some.injEq] at hz
  subst hz; exact hr
def setL : List Value -> Nat -> List Value -> List Value
 | xs, _, [] => xs
 | xs, off, y :: ys => setL (xs.set off y) (off + 1) ys
theorem RelL.setCells : ∀ {ys : List V} {us : List Value} {vs : List V} {xs : List Value} (off : Nat), RelL w g vs xs -> RelL w g ys us -> RelL w g (Eng.setCells vs off ys) (setL xs off us)
 | [], [], vs, xs, off, h, _ => by simpa [Eng.setCells, setL] using h
 | y :: ys, u :: us, vs, xs, off, h, hy => by
  simp only [RelL] at hy
  simp only [Eng.setCells, setL]
  exact RelL.setCells (off + 1) (h.set off hy.1) hy.2
 | [], _ :: _, _, _, _, _, h => by simp [RelL] at h
 | _ :: _, [], _, _, _, _, h => by simp [RelL] at h
theorem foldl_setL (off : Nat) : ∀ (ys : List Value) (k : Nat) (cs : Array Value), ((ys.zipIdx k).foldl (fun cs (x : Value × Nat) => cs.setIfInBounds (off + x.2) x.1) cs).toList = setL cs.toList (off + k) ys
 | [], k, cs => by simp [setL]
 | y :: ys, k, cs => by
  simp only [List.zipIdx_cons, List.foldl_cons, setL]
  rw [foldl_setL off ys (k + 1)]
  simp [Nat.add_assoc]
theorem cells_rel {l : Loc} {v : V} {x : Value} (h : RelV w g l v x) (hs : v.still = true) (ha : v.isAny = false) : RelL w g v.cells x.cells.toList := by
 cases v with
 | any => simp [V.isAny] at ha
 | agg vs => simp only [RelV] at h; obtain ⟨xs, rfl, h2⟩ := h; simpa [V.cells, Value.cells] using h2
 | own => simp [V.still] at hs
 | undef => simp only [RelV] at h; subst h; simp [V.cells, Value.cells, undef, RelL, RelV]
 | nil => simp only [RelV] at h; subst h; simp [V.cells, Value.cells, RelL, RelV]
 | t y =>
  have h' := h
  simp only [RelV] at h
  have : x.cells = #[x] := by cases h <;> first | rfl | (rename_i hf; cases x <;> first | rfl | simp [flat] at hf)
  simp only [V.cells, this, RelL, and_true]
  simpa only [RelV] using h
 | ptr id off =>
  have h' := h
  simp only [RelV] at h
  obtain ⟨b, _, rfl⟩ := h
  simp only [V.cells, Value.cells, RelL, and_true]
  simpa only [RelV] using h'
 | aptr id off st n k =>
  have h' := h
  simp only [RelV] at h
  obtain ⟨b, _, rfl⟩ := h
  simp only [V.cells, Value.cells, RelL, and_true]
  simpa only [RelV] using h'
 | cptr cs =>
  have h' := h
  simp only [RelV] at h
  obtain ⟨b, _, _, rfl, _⟩ := h
  simp only [V.cells, Value.cells, RelL, and_true]
  simpa only [RelV] using h'
 | tup vs =>
  have h' := h
  simp only [RelV] at h
  obtain ⟨xs, rfl, _⟩ := h
  simp only [V.cells, Value.cells, RelL, and_true]
  simpa only [RelV] using h'
 | fn f caps =>
  have h' := h
  simp only [RelV] at h
  obtain ⟨xs, rfl, _⟩ := h
  simp only [V.cells, Value.cells, RelL, and_true]
  simpa only [RelV] using h'
theorem RelL.plain : ∀ {vs : List V} {xs : List Value}, RelL w g vs xs -> RelL w g (vs.map V.plain) xs
 | [], [], _ => by simp [RelL]
 | v :: vs, x :: xs, h => by simp only [RelL] at h; simp only [List.map_cons, RelL]; exact ⟨h.1.plain, RelL.plain h.2⟩
 | [], _ :: _, h => by simp [RelL] at h
 | _ :: _, [], h => by simp [RelL] at h
inductive RelPs (w : World) (g : Gh) : List (Nat × V) -> List (Nat × Value) -> Prop
 | nil : RelPs w g [] []
 | cons {i : Nat} {v : V} {x : Value} {vs : List (Nat × V)} {xs : List (Nat × Value)} : RelV w g .nil v x -> v.still = true -> RelPs w g vs xs -> RelPs w g ((i, v) :: vs) ((i, x) :: xs)
theorem rdParts_rel (hE : SimE w g e a) : ∀ {ps : List (Nat × Operand)} {vs : List (Nat × V)}, rdParts (rd e) ps = some vs -> RelPs w g vs (ps.map fun (i, x) => (i, a.eval x))
 | [], vs, h => by simp only [rdParts, Option.some.injEq] at h; subst h; exact .nil
 | (i, x) :: r, vs, h => by
  simp only [rdParts] at h
  split at h
  ·rename_i v us h1 h2
   simp only [Option.some.injEq] at h; subst h
   exact .cons (rd_rel hE h1 _).1 (rd_rel hE h1 .nil).2 (rdParts_rel hE h2)
  ·simp at h
theorem fillV_rel {place : Nat -> Option (Nat × Nat)} : ∀ {ps : List (Nat × V)} {qs : List (Nat × Value)} {zs vs : List V} {cs : Array Value}, RelPs w g ps qs -> RelL w g zs cs.toList -> fillV place zs ps = some vs →
  ∃ ds, Instr.fill place cs qs = some ds /\ RelL w g vs ds.toList := by
 intro ps qs zs vs cs hp
 induction hp generalizing zs vs cs with
 | nil => intro h hv; simp only [fillV, Option.some.injEq] at hv; subst hv; exact ⟨cs, rfl, h⟩
 | cons hr hs hps ih =>
  rename_i i v x vs' xs'
  intro h hv
  simp only [fillV] at hv
  split at hv
  ·simp at hv
  ·rename_i off size hpl
   split at hv
   ·rename_i hc
    obtain ⟨ha, hc⟩ := hc
    have hcells := cells_rel hr hs ha
    have hlen := hcells.length
    have hlen2 := h.length
    have hx := (h.setCells off hcells.plain)
    have hfold := foldl_setL off x.cells.toList 0 cs
    simp only [Nat.add_zero] at hfold
    rw [<- hfold] at hx
    obtain ⟨ds, h1, h2⟩ := ih hx hv
    refine ⟨ds, ?_, h2⟩
    simp only [Instr.fill, hpl]
    have e1 : x.cells.size = size := by rw [<- hc.1, hlen]; simp
    have e2 : ¬ (off + x.cells.size > cs.size) := by
     rw [e1]; have := hc.2; have e3 : cs.size = zs.length := by rw [hlen2]; simp
     omega
    simp only [e1, ne_eq, not_true_eq_false, decide_false, Bool.false_or, gt_iff_lt]
    rw [if_neg (by simpa [e1] using e2)]
    rw [<- Array.foldl_toList]
    simpa [Array.toList_zipIdx] using h1
   ·simp at hv
theorem placesOf_run : ∀ {fs : List Field} {ps : List (Nat × Nat)}, placesOf P fs = some ps -> ∀ w : World, (fs.mapM fun f => (do pure (f.offset, <- sizeOf f.type) : Sem (Nat × Nat))).run P w = .ok ps w
 | [], ps, h, w => by simp only [placesOf, Option.some.injEq] at h; subst h; simp
 | f :: fs, ps, h, w => by
  simp only [placesOf] at h
  split at h
  ·rename_i n r h1 h2
   simp only [Option.some.injEq] at h; subst h
   have := placesOf_run h2 w
   simp only [List.mapM_cons, Sem.run_bind, tySize_run h1, Result.andThen_ok, Sem.run_pure, this]
  ·simp at h
theorem build_ok (hE : SimE w g e a) {o : Oper} {t : TypeId} {parts : Array (Nat × Operand)} (ho : o.op = .build t parts) {z : Value} (hz : tyZero P t = some z) {zs : List V} (hzs : cellsOf z.cells.toList = some zs)
  {ps : List (Nat × V)} (hps : rdParts (rd e) parts.toList = some ps) {vs : List V}
  (h : (∃ fs, tyPlaces P t = some fs /\ fillV (fun (i : Nat) => fs[i]?) zs ps = some vs) \/ ∃ n el sz, tyArr P t = some (n, el) /\ tySize P el = some sz /\ fillV (fun i => some (i * sz, sz)) zs ps = some vs) : NOk P w g a o (.agg vs) := by
 have hzr : (zeroValue t).run P w = .ok z w := by
  unfold tyZero at hz
  cases hi : P.info? t with
  | none => simp [hi] at hz
  | some i => simp [hi] at hz; simp [zeroValue, typeInfo, hi, hz]
 have hrel := rdParts_rel hE hps
 have hzrel : RelL w g zs z.cells.toList := cellsOf_rel hzs
 have hparts : (parts.map fun (i, x) => (i, a.eval x)).toList = parts.toList.map fun (i, x) => (i, a.eval x) := by simp
 rcases h with ⟨fs, hf, hfill⟩ | ⟨n, el, sz, harr, hsz, hfill⟩
 ·obtain ⟨ds, h1, h2⟩ := fillV_rel hrel hzrel hfill
  refine .same (x := .agg ds) ?_ fun l => by simp only [RelV]; exact ⟨ds, rfl, h2⟩
  unfold tyPlaces at hf
  split at hf
  ·rename_i fls hu
   have hm := placesOf_run hf w
   have hm2 : (fls.mapM fun f => (do pure (f.offset, <- sizeOf f.type) : Sem (Nat × Nat))).run P w = .ok fs.toArray w := by
    rw [Array.mapM_eq_mapM_toList]
    simp only [Sem.run_map, hm, Result.andThen_ok]
   have hg : (fun (i : Nat) => fs.toArray[i]?) = fun (i : Nat) => fs[i]? := by funext i; simp
   have h3 : Instr.fill (fun (i : Nat) => fs.toArray[i]?) z.cells (parts.toList.map fun (i, x) => (i, a.eval x)) = some ds := by rw [hg]; exact h1
   have hrun : (Instr.build t (parts.map fun (i, x) => (i, a.eval x))).run P w = .ok (.agg ds) w := by
    unfold Instr.build
    simp only [Sem.run_bind, hzr, Result.andThen_ok, run_underlying hu, hm2, hparts, h3, Sem.run_pure]
   simp only [execOp, ho, Sem.run_bind, hrun, Result.andThen_ok, Sem.run_pure]
  ·simp at hf
 ·obtain ⟨ds, h1, h2⟩ := fillV_rel hrel hzrel hfill
  refine .same (x := .agg ds) ?_ fun l => by simp only [RelV]; exact ⟨ds, rfl, h2⟩
  have hu := tyArr_spec harr
  have hrun : (Instr.build t (parts.map fun (i, x) => (i, a.eval x))).run P w = .ok (.agg ds) w := by
   unfold Instr.build
   simp only [Sem.run_bind, hzr, Result.andThen_ok, run_underlying hu, tySize_run hsz, hparts, h1, Sem.run_pure]
  simp only [execOp, ho, Sem.run_bind, hrun, Result.andThen_ok, Sem.run_pure]
theorem fill_row {size : Nat} : ∀ {ps : List (Nat × V)} {qs : List (Nat × Value)} {es : List T} (k : Nat) (cs : Array Value), RelPs w g ps qs -> partsInOrder k ps = some es -> (∀ y ∈ es, y.cells.length = size) -> cs.size = (k + es.length) * size →
  ∃ ds, Instr.fill (fun i => some (i * size, size)) cs qs = some ds /\ ds.size = cs.size /\ (∀ j, j < k * size -> ds[j]? = cs[j]?) ∧
   ∀ j x, (es.flatMap T.cells)[j]? = some x -> ∃ u, ds[k * size + j]? = some u /\ RT w g.F x u := by
 intro ps qs es k cs hp
 induction hp generalizing k cs es with
 | nil => intro h _ _; simp only [partsInOrder, Option.some.injEq] at h; subst h; exact ⟨cs, rfl, rfl, fun _ _ => rfl, by simp⟩
 | cons hr hs hps ih =>
  rename_i i v x vs' xs'
  intro h hsz hcs
  simp only [partsInOrder] at h
  split at h
  ·rename_i hik
   subst hik
   split at h
   ·rename_i y ys hy hys
    simp only [Option.some.injEq] at h; subst h
    have hpart : x.cells.size = size /\ ∀ (j : Nat) z, y.cells[j]? = some z -> ∃ u, x.cells[j]? = some u /\ RT w g.F z u := by
     have hcl := cells_rel hr hs (by cases v <;> first | rfl | simp [V.elem, V.toT] at hy)
     have hlen := hcl.length
     have hys := hsz y (by simp)
     unfold V.elem at hy
     split at hy
     ·rename_i us
      cases ha : allT us with
      | none => simp [ha] at hy
      | some ts =>
       simp [ha] at hy; subst hy
       have key : ∀ (us : List V) (ts : List T), allT us = some ts -> us.length = ts.length /\ ∀ (j : Nat) z, ts[j]? = some z -> ∃ q, us[j]? = some q /\ q.toT = some z := by
        intro us
        induction us with
        | nil => intro ts h; simp only [allT, Option.some.injEq] at h; subst h; simp
        | cons q qs ihq =>
         intro ts h
         simp only [allT] at h
         split at h
         ·rename_i z zs h1 h2
          simp only [Option.some.injEq] at h; subst h
          obtain ⟨k1, k2⟩ := ihq _ h2
          refine ⟨by simp [k1], ?_⟩
          intro j z' hj
          cases j with
          | zero => simp at hj; subst hj; exact ⟨q, by simp, h1⟩
          | succ j => simpa using k2 j z' (by simpa using hj)
         ·simp at h
       obtain ⟨k1, k2⟩ := key us ts ha
       simp only [V.cells, T.cells] at hlen hys hcl ⊢
       refine ⟨by rw [<- hys, <- k1, hlen]; simp, ?_⟩
       intro j z hj
       obtain ⟨q, hq, hqt⟩ := k2 j z hj
       obtain ⟨u, hu, hru⟩ := hcl.get hq
       exact ⟨u, by simpa using hu, hru.toT hqt⟩
     ·rename_i hna
      have hcells1 : v.cells = [v] := by cases v <;> first | rfl | exact absurd rfl (hna _)
      have hrt := hr.toT hy
      have hy1 : y.cells = [y] := by cases hrt <;> rfl
      rw [hcells1] at hlen hcl
      have hxs : x.cells.size = 1 := by have : x.cells.toList.length = 1 := by rw [<- hlen]; rfl
                                        simpa using this
      rw [hy1] at hys ⊢
      simp at hys
      refine ⟨by omega, ?_⟩
      intro j z hj
      cases j with
      | zero =>
       simp at hj; subst hj
       obtain ⟨u, hu, hru⟩ := hcl.get (k := 0) (v := v) (by simp)
       exact ⟨u, by simpa using hu, hru.toT hy⟩
      | succ j => simp at hj
    obtain ⟨hxs, hxc⟩ := hpart
    simp only [Instr.fill]
    have hle : i * size + x.cells.size <= cs.size := by
     rw [hxs, hcs]; simp only [List.length_cons]
     rw [show i + (ys.length + 1) = i + 1 + ys.length by omega, Nat.add_mul, Nat.add_mul, Nat.one_mul]; omega
    rw [if_neg (by simp [hxs]; omega)]
    rw [<- Array.foldl_toList, Array.toList_zipIdx]
    have hfold := foldl_setL (i * size) x.cells.toList 0 cs
    generalize hds : (x.cells.toList.zipIdx 0).foldl (fun cs (x : Value × Nat) => cs.setIfInBounds (i * size + x.2) x.1) cs = ds0 at hfold
    simp only [Nat.add_zero] at hfold
    have hset : ∀ (us xs : List Value) (off : Nat), (setL xs off us).length = xs.length /\ ∀ (j : Nat), (setL xs off us)[j]? = if off <= j /\ j < off + us.length /\ j < xs.length then us[j - off]? else xs[j]? := by
     intro us
     induction us with
     | nil => intro xs off; refine ⟨by simp [setL], fun j => ?_⟩; simp only [setL]; rw [if_neg (by simp; omega)]
     | cons u us ihu =>
      intro xs off
      obtain ⟨h1, h2⟩ := ihu (xs.set off u) (off + 1)
      refine ⟨by simp only [setL]; rw [h1]; simp, fun j => ?_⟩
      simp only [setL]
      rw [h2]
      simp only [List.length_set, List.length_cons]
      by_cases hj : off = j
      ·subst hj
       by_cases hl : off < xs.length
       ·rw [if_neg (by omega), if_pos (by omega)]
        simp [hl]
       ·rw [if_neg (by omega), if_neg (by omega)]
        rw [List.getElem?_eq_none (by simp; omega), List.getElem?_eq_none (by omega)]
      ·by_cases hc : off + 1 <= j /\ j < off + 1 + us.length /\ j < xs.length
       ·rw [if_pos hc, if_pos (by omega), show j - off = j - (off + 1) + 1 by omega]
        simp
       ·rw [if_neg hc, if_neg (by omega)]
        rw [List.getElem?_set_ne hj]
    obtain ⟨hl0, hg0⟩ := hset x.cells.toList cs.toList (i * size)
    have hsize0 : ds0.size = cs.size := by
     have : ds0.toList.length = cs.toList.length := by rw [hfold, hl0]
     simpa using this
    have hget0 : ∀ j, ds0[j]? = if i * size <= j /\ j < i * size + size /\ j < cs.size then x.cells[j - i * size]? else cs[j]? := by
     intro j
     have := hg0 j
     rw [<- hfold] at this
     simpa [hxs] using this
    obtain ⟨ds, h1, h2, h3, h4⟩ := ih (i + 1) ds0 hys (fun z hz => hsz z (by simp [hz])) (by rw [hsize0, hcs]; simp only [List.length_cons]; congr 1; omega)
    refine ⟨ds, h1, by rw [h2, hsize0], ?_, ?_⟩
    ·intro j hj
     have : (i + 1) * size = i * size + size := by rw [Nat.add_mul, Nat.one_mul]
     rw [h3 j (by omega), hget0, if_neg (by omega)]
    ·intro j z hj
     have hyl := hsz y (by simp)
     have e1 : (i + 1) * size = i * size + size := by rw [Nat.add_mul, Nat.one_mul]
     simp only [List.flatMap_cons] at hj
     by_cases hjs : j < size
     ·rw [List.getElem?_append_left (by omega)] at hj
      obtain ⟨u, hu, hru⟩ := hxc j z hj
      refine ⟨u, ?_, hru⟩
      rw [h3 _ (by omega), hget0, if_pos (by omega), show i * size + j - i * size = j by omega]
      exact hu
     ·rw [List.getElem?_append_right (by omega), hyl] at hj
      obtain ⟨u, hu, hru⟩ := h4 _ z hj
      exact ⟨u, by rw [<- hu]; congr 1; omega, hru⟩
   ·simp at h
  ·simp at h
theorem partsInOrder_length : ∀ {ps : List (Nat × V)} {es : List T} (k : Nat), partsInOrder k ps = some es -> ps.length = es.length
 | [], es, k, h => by simp only [partsInOrder, Option.some.injEq] at h; subst h; rfl
 | (i, v) :: r, es, k, h => by
  simp only [partsInOrder] at h
  split at h
  ·split at h
   ·rename_i y ys _ h2
    simp only [Option.some.injEq] at h; subst h
    simp [partsInOrder_length (k + 1) h2]
   ·simp at h
  ·simp at h
theorem newRow_own (hW : WF P w g) {cs : Array Value} {el : TypeId} {sz : Nat} {es : List T} (hsz : ∀ y ∈ es, y.cells.length = sz) (hp : 0 < sz) (hc : cs.size = es.length * sz)
  (h : ∀ (j : Nat) (x : T), (es.flatMap T.cells)[j]? = some x -> ∃ u : Value, cs[j]? = some u /\ RT w g.F x u) (l : Loc) :
  RelV (w.alloc (.cells cs el (0, 0))) { g with F := fun b => if b = w.heap.size then some (es.length * sz) else g.F b } l (.own sz es) (.slice (some ⟨w.heap.size, 0, none⟩) es.length es.length) := by
 simp only [RelV]
 right
 refine ⟨w.heap.size, 0, es.length, es.length * sz, rfl, Nat.le_refl _, ⟨by simp, by simp, hp, hsz, ?_⟩, .inl rfl⟩
 intro k x hk
 obtain ⟨u, hu, hr⟩ := h k x hk
 refine ⟨u, ?_, hr.keep (Keeps.alloc hW _ _)⟩
 rw [World.cell?_alloc_new]
 simpa using hu
theorem buildSlice_ok (hE : SimE w g e a) (hW : WF P w g) {o : Oper} {t el : TypeId} {len : Nat} {parts : Array (Nat × Operand)} (ho : o.op = .buildSlice t len parts) (ht : tyElem P t = some el) {ps : List (Nat × V)} (hps : rdParts (rd e) parts.toList = some ps)
  {es : List T} (hes : partsInOrder 0 ps = some es) {sz : Nat} (hs : tySize P el = some sz) (hl : es.length = len) (hp : 0 < sz) (hm : len * sz <= 16777216) (hall : es.all (fun y => y.cells.length == sz) = true) (hz : (tyZero P el).isSome = true) :
  NOk P w g a o (.own sz es) := by
 subst hl
 have hu := tyElem_spec ht
 have hrel := rdParts_rel hE hps
 have hsz := sized_all hall
 cases hz' : tyZero P el with
 | none => simp [hz'] at hz
 | some z =>
  have hzr : (zeroValue el).run P w = .ok z w := by
   unfold tyZero at hz'
   cases hi : P.info? el with
   | none => simp [hi] at hz'
   | some i => simp [hi] at hz'; simp [zeroValue, typeInfo, hi, hz']
  have hparts : (parts.map fun (i, x) => (i, a.eval x)).toList = parts.toList.map fun (i, x) => (i, a.eval x) := by simp
  have hfin : ∃ ds : Array Value, (Instr.buildSlice t es.length (parts.map fun (i, x) => (i, a.eval x))).run P w = .ok (.slice (some ⟨w.heap.size, 0, none⟩) es.length es.length) (w.alloc (.cells ds el (0, 0))) ∧
    ds.size = es.length * sz /\ ∀ j x, (es.flatMap T.cells)[j]? = some x -> ∃ u, ds[0 * sz + j]? = some u /\ RT w g.F x u := by
   by_cases h0 : es.length * sz = 0
   ·obtain ⟨ds, h1, h2, _, h4⟩ := fill_row (size := sz) 0 ((Array.range (es.length * sz)).map (fun i => (#[] : Array Value)[i % (#[] : Array Value).size]!)) hrel hes hsz (by simp)
    refine ⟨ds, ?_, by rw [h2]; simp, h4⟩
    unfold Instr.buildSlice
    simp only [Sem.run_bind, run_underlying hu, Result.andThen_ok, tySize_run hs]
    rw [if_neg (by omega), if_pos h0]
    simp only [Sem.run_bind, Sem.run_pure, Result.andThen_ok, hparts, h1]
    simp [newRow]
   ·obtain ⟨ds, h1, h2, _, h4⟩ := fill_row (size := sz) 0 ((Array.range (es.length * sz)).map (fun i => z.cells[i % z.cells.size]!)) hrel hes hsz (by simp)
    refine ⟨ds, ?_, by rw [h2]; simp, h4⟩
    unfold Instr.buildSlice
    simp only [Sem.run_bind, run_underlying hu, Result.andThen_ok, tySize_run hs]
    rw [if_neg (by omega), if_neg h0]
    simp only [Sem.run_bind, hzr, Sem.run_pure, Result.andThen_ok, hparts, h1]
    simp [newRow]
  obtain ⟨ds, hrun, h2, h4⟩ := hfin
  refine ⟨.slice (some ⟨w.heap.size, 0, none⟩) es.length es.length, _, _, by simp only [execOp, ho, Sem.run_bind, hrun, Result.andThen_ok, Sem.run_pure], ?_, .inr ⟨ds, el, es.length * sz, rfl, rfl, by rw [h2]; simp⟩⟩
  intro l
  refine newRow_own hW hsz hp h2 ?_ l
  intro j x hj
  simpa using h4 j x hj
theorem allT_toT : ∀ {us : List V} {ts : List T}, allT us = some ts -> us.length = ts.length /\ ∀ (j : Nat) (z : T), ts[j]? = some z -> ∃ q, us[j]? = some q /\ q.toT = some z
 | [], ts, h => by simp only [allT, Option.some.injEq] at h; subst h; simp
 | q :: qs, ts, h => by
  simp only [allT] at h
  split at h
  ·rename_i z zs h1 h2
   simp only [Option.some.injEq] at h; subst h
   obtain ⟨k1, k2⟩ := allT_toT h2
   refine ⟨by simp [k1], ?_⟩
   intro j z' hj
   cases j with
   | zero => simp at hj; subst hj; exact ⟨q, by simp, h1⟩
   | succ j => simpa using k2 j z' (by simpa using hj)
  ·simp at h
theorem makeSlice_ok (hE : SimE w g e a) (hW : WF P w g) {o : Oper} {t el : TypeId} {x y : Operand} (ho : o.op = .makeSlice t x y) (ht : tyElem P t = some el) {n : Int} (hx : rd e x = some (.t (.sc (.int .i64 n)))) (hy : rd e y = some (.t (.sc (.int .i64 n))))
  {sz by_ : Nat} {z : Value} (hs : tySize P el = some sz) (hb : tyBytes P el = some by_) (hz : tyZero P el = some z) {us : List V} {zs : List T} (hus : cellsOf z.cells.toList = some us) (hzs : allT us = some zs)
  (h0 : 0 <= n) (h1 : n <= 1073741824) (hby : by_ <= 1024) (hp : 0 < sz) (hlen : zs.length = sz) : NOk P w g a o (.own sz (List.replicate n.toNat (elemOfCells zs))) := by
 have hu := tyElem_spec ht
 unfold tySize at hs
 unfold tyBytes at hb
 unfold tyZero at hz
 cases hi : P.info? el with
 | none => simp [hi] at hs
 | some i =>
  simp [hi] at hs hb hz
  subst hs
  subst hb
  have hbytes : (i.bytes : Int) * n <= 281474976710656 := by
   have h2 : (i.bytes : Int) <= 1024 := by omega
   calc (i.bytes : Int) * n <= 1024 * n := Int.mul_le_mul_of_nonneg_right h2 h0
    _ <= 281474976710656 := by omega
  have hrun := run_make (P := P) w t el i z hu hi hz .i64 .i64 n n h0 (Int.le_refl _) hbytes (by omega)
  have hcells : ∀ (j : Nat) (q : T), zs[j]? = some q -> q.cells = [q] /\ ∃ v, z.cells[j]? = some v /\ ∀ g : Gh, ∀ w : World, RT w g.F q v := by
   intro j q hq
   obtain ⟨k1, k2⟩ := allT_toT hzs
   obtain ⟨u, hu1, hu2⟩ := k2 j q hq
   have key : ∀ (w : World) (g : Gh), ∃ v, z.cells[j]? = some v /\ RT w g.F q v := by
    intro w g
    obtain ⟨v, hv1, hv2⟩ := (cellsOf_rel (w := w) (g := g) hus).get hu1
    exact ⟨v, by simpa using hv1, hv2.toT hu2⟩
   obtain ⟨v, hv, hr⟩ := key w g
   refine ⟨by cases hr <;> rfl, v, hv, ?_⟩
   intro g' w'
   obtain ⟨v', hv', hr'⟩ := key w' g'
   rw [hv] at hv'
   simp only [Option.some.injEq] at hv'
   subst hv'; exact hr'
  have hEl : (elemOfCells zs).cells = zs := by
   match zs, hcells with
   | [], _ => rfl
   | [q], hc => exact (hc 0 q (by simp)).1
   | q :: r :: ts, _ => rfl
  have hzsize : z.cells.size = i.size := by
   have h3 := (cellsOf_rel (w := w) (g := g) hus).length
   have h4 := (allT_toT hzs).1
   simp at h3; omega
  have hall : ∀ y ∈ List.replicate n.toNat (elemOfCells zs), y.cells.length = i.size := by
   intro y hy
   rw [List.eq_of_mem_replicate hy, hEl, hlen]
  refine ⟨.slice (some ⟨w.heap.size, 0, none⟩) n.toNat n.toNat, w.alloc (.cells (madeCells z.cells (n.toNat * i.size)) el (0, 0)), _, ?_, fun l => ?_, .inr ⟨_, el, n.toNat * i.size, rfl, rfl, by simp [size_madeCells]⟩⟩
  ·simp only [execOp, ho, rd_int hE hx, rd_int hE hy, Sem.run_bind, hrun, Result.andThen_ok, Sem.run_pure]
  ·have hlr : (List.replicate n.toNat (elemOfCells zs)).length = n.toNat := by simp
   have := newRow_own (cs := madeCells z.cells (n.toNat * i.size)) (el := el) hW hall hp (by rw [hlr, size_madeCells]) ?_ l
   ·rw [hlr] at this; exact this
   ·intro j q hq
    have hj : j < n.toNat * i.size := by
     have := (List.getElem?_eq_some_iff.1 hq).1
     rw [length_flat hall, hlr] at this
     exact this
    have hflat : ∀ (m j : Nat) (q : T), ((List.replicate m (elemOfCells zs)).flatMap T.cells)[j]? = some q -> zs[j % i.size]? = some q := by
     intro m
     induction m with
     | zero => intro j q h; simp at h
     | succ m ihm =>
      intro j q h
      rw [List.replicate_succ, List.flatMap_cons, hEl] at h
      by_cases hjl : j < zs.length
      ·rw [List.getElem?_append_left hjl] at h
       rwa [Nat.mod_eq_of_lt (by omega)]
      ·rw [List.getElem?_append_right (by omega)] at h
       have := ihm _ _ h
       rwa [hlen, <- Nat.mod_eq_sub_mod (by omega)] at this
    obtain ⟨_, v, hv, hr⟩ := hcells _ _ (hflat _ _ _ hq)
    refine ⟨v, ?_, hr g w⟩
    have hjm : j % z.cells.size < z.cells.size := Nat.mod_lt _ (by omega)
    have hvv : z.cells[j % z.cells.size]! = v := by
     rw [hzsize]
     rw [getElem!_def, hv]
    simp [madeCells, hj, hvv]
end
end Go.Eng
