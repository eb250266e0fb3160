/- The engine, fifth part: what is cut, built and loaded; all the operations that turn nothing, together. -/
import Derived.Test.YtimkclpogbfciaaDoorEngN
set_option linter.unusedVariables false
set_option linter.unusedSimpArgs false
namespace Go.Eng
open Go.RowKit
section
variable {P : Program} {w : World} {g : Gh} {e : Env} {a : Act} {sig : Sig}
theorem Keeps.alloc (hW : WF P w g) (o : Obj) (n : Nat) : Keeps w g.F (w.alloc o) (fun b => if b = w.heap.size then some n else g.F b) := by
 intro b lim hb
 have hlt := hW.lt b lim hb
 refine ⟨lim, by simp [show b ≠ w.heap.size by omega, hb], Nat.le_refl _, fun o' _ => ?_⟩
 exact World.cell?_alloc_old _ _ _ (by simp; omega)
theorem RList.resize {F : Nat -> Option Nat} {sz sz' b o lim : Nat} (h : RList w F sz [] b o lim) (hp : 0 < sz') : RList w F sz' [] b o lim :=
 ⟨h.isLim, by have := h.le; simpa using this, hp, by simp, by intro k x hk; simp at hk⟩
theorem intOp_some (hE : SimE w g e a) {x : Option Operand} {i : Int} (h : intOp (rd e) x = some (some i)) : ∃ y k, x = some y /\ a.eval y = .int k i := by
 unfold intOp at h
 split at h
 ·simp at h
 ·rename_i y
  split at h
  ·rename_i k j hy
   simp only [Option.some.injEq] at h; subst h
   exact ⟨y, k, rfl, rd_int hE hy⟩
  ·simp at h
theorem intOp_none {x : Option Operand} (h : intOp (rd e) x = some none) : x = none := by
 unfold intOp at h
 split at h
 ·rfl
 ·split at h <;> simp at h
theorem sized_all {sz : Nat} {es : List T} (h : es.all (fun y => y.cells.length == sz) = true) : ∀ y ∈ es, y.cells.length = sz := by
 intro y hy
 simpa using List.all_eq_true.1 h y hy
theorem slice_run (hE : SimE w g e a) {t el : TypeId} {sz : Nat} (ht : tyElem P t = some el) (hs : tySize P el = some sz) {lo hi mx : Option Operand} {l h m : Option Int}
  (hl : intOp (rd e) lo = some l) (hh : intOp (rd e) hi = some h) (hm : intOp (rd e) mx = some m) (hmh : m.isSome -> h.isSome) {base : Option Addr} {len cap : Nat} (hc : len <= cap)
  (h1 : 0 <= l.getD 0) (h2 : l.getD 0 <= h.getD len) (h3 : h.getD len <= len) (h4 : h.getD len <= m.getD cap) (h5 : m.getD cap <= cap) :
  (Instr.sliceAt t (.slice base len cap) (lo.map a.eval) (hi.map a.eval) (mx.map a.eval)).run P w =
   .ok (sliced base (l.getD 0).toNat (h.getD len).toNat (m.getD cap).toNat sz) w := by
 have hu := tyElem_spec ht
 have hel : P.underlying t = some (.slice (P.elem t)) := by simp [Program.elem, hu]
 have he : P.elem t = el := by simp [Program.elem, hu]
 have hsz : (sizeOf (P.elem t)).run P w = .ok sz w := by rw [he]; exact tySize_run hs w
 rw [run_sliceAt_slice w t _ _ _ _ hel]
 cases l with
 | none =>
  cases intOp_none hl
  cases h with
  | none =>
   cases intOp_none hh
   cases m with
   | none => cases intOp_none hm; simpa [hsz] using run_slice_all w t base len cap hel
   | some m => simp at hmh
  | some h =>
   obtain ⟨y, k, rfl, hy⟩ := intOp_some hE hh
   cases m with
   | none =>
    cases intOp_none hm
    simp at h1 h2 h3 h4 h5
    simpa [hsz, hy] using run_slice_h w t base len cap hel k h (by omega) (by omega)
   | some m =>
    obtain ⟨z, k', rfl, hz⟩ := intOp_some hE hm
    simp at h1 h2 h3 h4 h5
    simpa [hsz, hy, hz] using run_slice_hm w t base len cap hel k k' h m (by omega) (by omega) (by omega)
 | some l =>
  obtain ⟨x, kx, rfl, hx⟩ := intOp_some hE hl
  cases h with
  | none =>
   cases intOp_none hh
   cases m with
   | none =>
    cases intOp_none hm
    simp at h1 h2 h3 h4 h5
    simpa [hsz, hx] using run_slice_l w t base len cap hel kx l (by omega) (by omega)
   | some m => simp at hmh
  | some h =>
   obtain ⟨y, k, rfl, hy⟩ := intOp_some hE hh
   cases m with
   | none =>
    cases intOp_none hm
    simp at h1 h2 h3 h4 h5
    simpa [hsz, hx, hy] using run_slice_lh w t base len cap hel kx k l h (by omega) (by omega) (by omega)
   | some m =>
    obtain ⟨z, k', rfl, hz⟩ := intOp_some hE hm
    simp at h1 h2 h3 h4 h5
    simpa [hsz, hx, hy, hz] using run_slice_lhm w t base len cap hel kx k k' l h m (by omega) (by omega) (by omega) (by omega)
theorem slice_list (hE : SimE w g e a) {o : Oper} {t el : TypeId} {sz : Nat} {x : Operand} {lo hi mx : Option Operand} (ho : o.op = .slice t x lo hi mx) {es : List T} (hx : rd e x = some (.t (.list es)))
  (ht : tyElem P t = some el) (hs : tySize P el = some sz) {l h m : Option Int} (hl : intOp (rd e) lo = some l) (hh : intOp (rd e) hi = some h) (hm : intOp (rd e) mx = some m)
  (h1 : 0 <= l.getD 0) (h2 : l.getD 0 <= h.getD es.length) (h3 : h.getD es.length <= es.length) (hp : 0 < sz) (hall : es.all (fun y => y.cells.length == sz) = true)
  (hmm : m = none \/ ∃ m', m = some m' /\ m' = h.getD es.length /\ h.isSome = true) :
  NOk P w g a o (if m.isSome then .own sz ((es.take (h.getD es.length).toNat).drop (l.getD 0).toNat) else .t (.list ((es.take (h.getD es.length).toNat).drop (l.getD 0).toNat))) := by
 have hr := (rd_rel hE hx .nil).1
 simp only [RelV] at hr
 have hlen : ((es.take (h.getD es.length).toNat).drop (l.getD 0).toNat).length = (h.getD es.length).toNat - (l.getD 0).toNat := by simp; omega
 have hmh : m.isSome -> h.isSome := by rcases hmm with rfl | ⟨m', rfl, _, h⟩ <;> simp_all
 rcases hr.toList with ⟨rfl, hv | ⟨a0, hv⟩⟩ | ⟨b, o', cap, sz', lim, hv, hcap, hR⟩
 ·simp at h2 h3
  have e1 : l.getD 0 = 0 := by omega
  have e2 : h.getD 0 = 0 := by omega
  have e3 : m.getD 0 = 0 := by rcases hmm with rfl | ⟨m', rfl, h, _⟩ <;> simp_all
  refine .same (x := .slice none 0 0) ?_ fun l' => ?_
  ·have := slice_run (P := P) (w := w) hE ht hs hl hh hm hmh (base := none) (len := 0) (cap := 0) (Nat.le_refl _) (by omega) (by simp; omega) (by simp; omega) (by simp; omega) (by simp; omega)
   simp only [execOp, ho, hv]
   simp at this
   simp [this, e1, e2, e3, sliced]
  ·split
   ·simp only [RelV]; exact .inl ⟨by simp, .inl rfl⟩
   ·simp only [RelV]; simpa using RT.nil
 ·simp at h2 h3
  have e1 : l.getD 0 = 0 := by omega
  have e2 : h.getD 0 = 0 := by omega
  have e3 : m.getD 0 = 0 := by rcases hmm with rfl | ⟨m', rfl, h, _⟩ <;> simp_all
  refine .same (x := .slice (some a0) 0 0) ?_ fun l' => ?_
  ·have := slice_run (P := P) (w := w) hE ht hs hl hh hm hmh (base := some a0) (len := 0) (cap := 0) (Nat.le_refl _) (by omega) (by simp; omega) (by simp; omega) (by simp; omega) (by simp; omega)
   simp only [execOp, ho, hv]
   simp at this
   simp [this, e1, e2, e3, sliced]
  ·split
   ·simp only [RelV]; exact .inl ⟨by simp, .inr ⟨a0, rfl⟩⟩
   ·simp only [RelV]; simpa using RT.empty a0
 ·have hrun := slice_run (P := P) (w := w) hE ht hs hl hh hm hmh (base := some ⟨b, o', none⟩) (len := es.length) (cap := cap) hcap h1 h2 h3
   (by rcases hmm with rfl | ⟨m', rfl, h, _⟩ <;> simp <;> omega) (by rcases hmm with rfl | ⟨m', rfl, h, _⟩ <;> simp <;> omega)
  have hsz : es ≠ [] -> sz' = sz := by
   intro hne
   obtain ⟨y, hy⟩ := List.exists_mem_of_ne_nil _ hne
   rw [<- hR.size y hy]; exact sized_all hall y hy
  have hcut := hR.cut (l := (l.getD 0).toNat) (k := (h.getD es.length).toNat) (by omega) (by omega)
  have hcut' : RList w g.F sz ((es.take (h.getD es.length).toNat).drop (l.getD 0).toNat) b (o' + (l.getD 0).toNat * sz) lim := by
   by_cases hne : es = []
   ·subst hne
    have e1 : l.getD 0 = 0 := by simp at h2 h3; omega
    simp only [List.take_nil, List.drop_nil, e1] at hcut ⊢
    simpa using hcut.resize hp
   ·rw [<- hsz hne]; exact hcut
  have hzero : (h.getD es.length).toNat <= (l.getD 0).toNat -> RList w g.F sz ((es.take (h.getD es.length).toNat).drop (l.getD 0).toNat) b o' lim := by
   intro hle
   have e : (es.take (h.getD es.length).toNat).drop (l.getD 0).toNat = [] := by apply List.eq_nil_of_length_eq_zero; omega
   rw [e]
   refine ⟨hR.isLim, by have := hR.le; simp; omega, hp, by simp, by intro k x hk; simp at hk⟩
  refine .same (x := sliced (some ⟨b, o', none⟩) (l.getD 0).toNat (h.getD es.length).toNat (m.getD cap).toNat sz) ?_ fun l' => ?_
  ·simp only [execOp, ho, hv]
   simp [hrun]
  ·have hcapm : (h.getD es.length).toNat <= (m.getD cap).toNat := by rcases hmm with rfl | ⟨m', rfl, h, _⟩ <;> simp <;> omega
   unfold sliced
   have hval : ∃ o'', (Value.slice (if (m.getD cap).toNat = (l.getD 0).toNat then some ⟨b, o', none⟩ else (some (⟨b, o', none⟩ : Addr)).map (·.add ((l.getD 0).toNat * sz))) ((h.getD es.length).toNat - (l.getD 0).toNat) ((m.getD cap).toNat - (l.getD 0).toNat)) =
     .slice (some ⟨b, o'', none⟩) ((es.take (h.getD es.length).toNat).drop (l.getD 0).toNat).length ((m.getD cap).toNat - (l.getD 0).toNat) /\ RList w g.F sz ((es.take (h.getD es.length).toNat).drop (l.getD 0).toNat) b o'' lim := by
    rw [hlen]
    by_cases hz : (m.getD cap).toNat = (l.getD 0).toNat
    ·exact ⟨o', by simp [hz], hzero (by omega)⟩
    ·exact ⟨o' + (l.getD 0).toNat * sz, by simp [hz, Addr.add_none], hcut'⟩
   obtain ⟨o'', hv2, hR2⟩ := hval
   rw [hv2]
   split
   ·rename_i hms
    simp only [RelV]
    right
    refine ⟨b, o'', _, lim, rfl, by rw [hlen]; omega, hR2, .inl ?_⟩
    rw [hlen]
    rcases hmm with rfl | ⟨m', rfl, h, _⟩
    ·simp at hms
    ·simp [h]
   ·simp only [RelV]
    exact RT.ofList hR2 (by rw [hlen]; omega)
theorem slice_nil (hE : SimE w g e a) {o : Oper} {t el : TypeId} {sz : Nat} {x : Operand} {lo hi mx : Option Operand} (ho : o.op = .slice t x lo hi mx) (hx : rd e x = some .nil)
  (ht : tyElem P t = some el) (hs : tySize P el = some sz) {l h m : Option Int} (hl : intOp (rd e) lo = some l) (hh : intOp (rd e) hi = some h) (hm : intOp (rd e) mx = some m)
  (h1 : l.getD 0 = 0) (h2 : h.getD 0 = 0) (h3 : m.getD 0 = 0) (hmh : m.isSome -> h.isSome) : NOk P w g a o .nil := by
 have hr := (rd_rel hE hx .nil).1
 simp only [RelV] at hr
 refine .same (x := .slice none 0 0) ?_ fun l' => by simp only [RelV]
 have := slice_run (P := P) (w := w) hE ht hs hl hh hm hmh (base := none) (len := 0) (cap := 0) (Nat.le_refl _) (by omega) (by simp; omega) (by simp; omega) (by simp; omega) (by simp; omega)
 simp at this
 simp only [execOp, ho, hr]
 simp [this, h1, h2, h3, sliced]
theorem eql_nil (hE : SimE w g e a) {o : Oper} {t el t2 : TypeId} {x y : Operand} (ho : o.op = .binOp .eql t x y t2) (ht : tyElem P t = some el) (hy : rd e y = some .nil) {b : Bool}
  (hx : (rd e x = some .nil /\ b = true \/ ∃ z zs, rd e x = some (.t (.list (z :: zs))) /\ b = false) \/ (rd e x = some (.t .vac) /\ b = false)) : NOk P w g a o (.t (.sc (.bool b))) := by
 have hr := (rd_rel hE hy .nil).1
 simp only [RelV] at hr
 refine .same (x := .bool b) ?_ fun l => by simp only [RelV]; exact .sc _ rfl
 have hu := tyElem_spec ht
 have heq : ∀ base n c, (Op.equal t (.slice base n c) (.slice none 0 0)).run P w = .ok base.isNone w := by
  intro base n c
  have key : ∀ d, (Op.equalIn (d + 1) t (.slice base n c) (.slice none 0 0)).run P w = .ok base.isNone w := by
   intro d
   cases base with
   | none => simp [Op.equalIn, run_underlying hu]
   | some q => simp [Op.equalIn, run_underlying hu]
  exact key 9999
 rcases hx with (⟨hx, rfl⟩ | ⟨z, zs, hx, rfl⟩) | ⟨hx, rfl⟩
 ·have hr2 := (rd_rel hE hx .nil).1
  simp only [RelV] at hr2
  simp [execOp, ho, hr, hr2, eqGuard, binOp, heq]
 ·have hr2 := (rd_rel hE hx .nil).1
  simp only [RelV] at hr2
  rcases hr2.toList with ⟨h, _⟩ | ⟨b, o', cap, sz', lim, hv, _, _⟩
  ·simp at h
  ·simp [execOp, ho, hr, hv, eqGuard, binOp, heq]
 ·have hr2 := (rd_rel hE hx .nil).1
  simp only [RelV] at hr2
  generalize hv : a.eval x = vx at hr2
  cases hr2 with
  | vacE a0 => simp [execOp, ho, hr, hv, eqGuard, binOp, heq]
  | vac b o' cap lim h1 h2 => simp [execOp, ho, hr, hv, eqGuard, binOp, heq]
theorem load_cptr (hE : SimE w g e a) {o : Oper} {t : TypeId} {x : Operand} (ho : o.op = .load t x) {cs : List T} (hx : rd e x = some (.cptr cs)) {b : Bool} {n : Nat} (ha : tyAgg P t = some b) (hn : tySize P t = some n)
  {v : V} (h : partV b n 0 (cs.map V.t) = some v) : NOk P w g a o v := by
 have h1 := (rd_rel hE hx .nil).1
 simp only [RelV] at h1
 obtain ⟨bl, o', lim, h2, h3, h4, h5⟩ := h1
 unfold partV at h
 cases b with
 | false =>
  simp only [Bool.false_eq_true, if_false, List.getElem?_map] at h
  cases hc : cs[0]? with
  | none => simp [hc] at h
  | some y =>
   simp [hc] at h; subst h
   obtain ⟨u, h6, h7⟩ := h5 0 y hc
   refine .same (x := u) ?_ fun l => by simp only [RelV]; exact h7
   simp only [Nat.add_zero] at h6
   simp [execOp, ho, h2, Instr.loadAt, Instr.sureAddr, loadVar, tyAgg_run ha, h6]
 | true =>
  simp only [if_true] at h
  split at h
  ·rename_i hle
   simp only [Option.some.injEq, List.drop_zero] at h
   subst h
   simp at hle
   have hcells : ∀ k, k < n -> ∃ u, w.cell? ⟨bl, o' + k, none⟩ = some u /\ RT w g.F (cs.getD k default) u := by
    intro k hk
    have hk2 : k < cs.length := by omega
    obtain ⟨u, h6, h7⟩ := h5 k cs[k] (by simp)
    exact ⟨u, h6, by simpa [List.getD, List.getElem?_eq_getElem hk2] using h7⟩
   have hrun := run_loadCells (P := P) w ⟨bl, o', none⟩ n (fun k => (w.cell? ⟨bl, o' + k, none⟩).getD undef) (fun k hk => by
    obtain ⟨u, h6, _⟩ := hcells k hk
    simp [Addr.add_none, h6])
   refine .same (x := .agg ((List.range n).map fun k => (w.cell? ⟨bl, o' + k, none⟩).getD undef).toArray) ?_ fun l => ?_
   ·simp [execOp, ho, h2, Instr.loadAt, Instr.sureAddr, loadVar, tyAgg_run ha, tySize_run hn, hrun]
   ·simp only [RelV]
    refine ⟨_, rfl, RelL.of (by simp; omega) ?_⟩
    intro k v x hv hx
    simp only [List.getElem?_take, List.getElem?_map] at hv
    split at hv
    ·rename_i hk
     obtain ⟨u, h6, h7⟩ := hcells k hk
     have hk2 : k < cs.length := by omega
     simp [List.getElem?_eq_getElem hk2] at hv
     subst hv
     simp [hk, h6] at hx
     subst hx
     simp only [RelV]
     simpa [List.getD, List.getElem?_eq_getElem hk2] using h7
    ·simp at hv
  ·simp at h
theorem load_at (hE : SimE w g e a) (hB : SimB w g sig) {o : Oper} {t : TypeId} {x : Operand} (ho : o.op = .load t x) {id off : Nat} {v0 : V} (hx : rd e x = some v0) (hv0 : v0.asPtr = some (id, off)) {b : Bool} {n : Nat} (ha : tyAgg P t = some b) (hn : tySize P t = some n)
  {cs : List V} (hs : sig[id]? = some (some cs)) {v : V} (h : partV b n off (cs.map V.plain) = some v) :
  ∃ u, (execOp a.eval o).run P w = .ok (.value u) w /\ (∀ l, RelV w g l v u) /\ (b = false -> ∃ bl, g.φ id = some bl /\ w.cell? ⟨bl, off, none⟩ = some u) := by
 obtain ⟨bl, h2, h3⟩ := (rd_rel hE hx .nil).1.asPtr hv0
 obtain ⟨cs', c, el, h4, h5, h6, h7⟩ := hB.box id bl h2
 rw [hs] at h4
 simp only [Option.some.injEq] at h4
 subst h4
 have hcell : ∀ k, w.cell? ⟨bl, k, none⟩ = c[k]? := by intro k; simp [World.cell?, h5]
 unfold partV at h
 cases b with
 | false =>
  simp only [Bool.false_eq_true, if_false, List.getElem?_map] at h
  cases hc : cs[off]? with
  | none => simp [hc] at h
  | some y =>
   simp [hc] at h; subst h
   have hlt : off < c.size := by rw [h6]; exact (List.getElem?_eq_some_iff.1 hc).1
   have hcu : c[off]? = some c[off] := by simp
   refine ⟨c[off], ?_, fun l => ((h7 off y _ hc hcu).1).plain, fun _ => ⟨bl, h2, by rw [hcell, hcu]⟩⟩
   simp [execOp, ho, h3, Instr.loadAt, Instr.sureAddr, loadVar, tyAgg_run ha, hcell, hcu]
 | true =>
  simp only [if_true] at h
  split at h
  ·rename_i hle
   simp only [Option.some.injEq] at h
   subst h
   simp at hle
   have hrun := run_loadCells (P := P) w ⟨bl, off, none⟩ n (fun k => c.getD (off + k) undef) (fun k hk => by
    have : off + k < c.size := by omega
    simp [Addr.add_none, hcell, this])
   refine ⟨.agg ((List.range n).map fun k => c.getD (off + k) undef).toArray, ?_, fun l => ?_, by simp⟩
   ·simp [execOp, ho, h3, Instr.loadAt, Instr.sureAddr, loadVar, tyAgg_run ha, tySize_run hn, hrun]
   ·simp only [RelV]
    refine ⟨_, rfl, RelL.of (by simp; omega) ?_⟩
    intro k v x hv hx
    simp only [List.getElem?_take, List.getElem?_drop, List.getElem?_map] at hv
    split at hv
    ·rename_i hk
     have hlt : off + k < cs.length := by omega
     have hlt2 : off + k < c.size := by omega
     simp [List.getElem?_eq_getElem hlt] at hv
     subst hv
     simp [hk, hlt2] at hx
     subst hx
     exact ((h7 (off + k) _ _ (List.getElem?_eq_getElem hlt) (by simp [hlt2])).1).plain
    ·simp at hv
  ·simp at h
theorem load_ptr (hE : SimE w g e a) (hB : SimB w g sig) {o : Oper} {t : TypeId} {x : Operand} (ho : o.op = .load t x) {id off : Nat} (hx : rd e x = some (.ptr id off)) {b : Bool} {n : Nat} (ha : tyAgg P t = some b) (hn : tySize P t = some n)
  {cs : List V} (hs : sig[id]? = some (some cs)) {v : V} (h : partV b n off (cs.map V.plain) = some v) :
  ∃ u, (execOp a.eval o).run P w = .ok (.value u) w /\ (∀ l, RelV w g l v u) /\ (b = false -> ∃ bl, g.φ id = some bl /\ w.cell? ⟨bl, off, none⟩ = some u) :=
 load_at hE hB ho hx rfl ha hn hs h
end
end Go.Eng
