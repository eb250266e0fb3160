/- The engine, seventh part: all operations that turn nothing. -/
import Derived.Test.YtimkclpogbfciaaDoorEngB
import Derived.Laws.BytesString
set_option linter.unusedVariables false
set_option linter.unusedSimpArgs false
namespace Go.Eng
open Go.RowKit
section
variable {P : Program} {w : World} {g : Gh} {e : Env} {a : Act} {sig : Sig}
theorem map_pair {α β : Type} {x : Option α} {v : α} {ld : Option β} (h : x.map (·, (none : Option β)) = some (v, ld)) : x = some v /\ ld = none := by
 cases x with
 | none => simp at h
 | some u => simp at h; exact ⟨by rw [h.1], h.2.symm⟩
theorem bytesL_get : ∀ {es : List T} {l : List UInt8}, bytesL es = some l -> es.length = l.length /\ (∀ y ∈ es, y.cells.length = 1) /\ ∀ (j : Nat) (b : UInt8), l[j]? = some b -> ∃ n : Int, (es.flatMap T.cells)[j]? = some (.sc (.int .u8 n)) /\ b = UInt8.ofNat n.toNat
 | [], l, h => by simp only [bytesL, Option.some.injEq] at h; subst h; simp
 | y :: es, l, h => by
  unfold bytesL at h
  split at h
  ·rename_i heq; cases heq
  ·rename_i n r heq
   cases heq
   cases hr : bytesL es with
   | none => simp [hr] at h
   | some l' =>
    simp [hr] at h
    subst h
    obtain ⟨h1, h2, h3⟩ := bytesL_get hr
    refine ⟨by simp [h1], fun y hy => ?_, fun j b hj => ?_⟩
    ·rcases List.mem_cons.1 hy with rfl | hy
     ·rfl
     ·exact h2 y hy
    ·cases j with
     | zero => simp at hj; subst hj; exact ⟨n, by simp [T.cells], rfl⟩
     | succ j =>
      obtain ⟨m, h4, h5⟩ := h3 j b (by simpa using hj)
      exact ⟨m, by simpa [T.cells] using h4, h5⟩
  ·cases h
theorem foldl_push_ints : ∀ (ns : List Int) (r : ByteArray), ns.foldl (fun r n => r.push (UInt8.ofNat n.toNat)) r = ⟨r.data ++ (ns.map fun n => UInt8.ofNat n.toNat).toArray⟩
 | [], r => by simp
 | n :: ns, r => by
  simp only [List.foldl_cons]
  rw [foldl_push_ints ns]
  simp [ByteArray.push]
theorem bytes_ok (hE : SimE w g e a) {o : Oper} {src dst el : TypeId} {x : Operand} (ho : o.op = .convert src dst x) {es : List T} {l : List UInt8} (hx : rd e x = some (.t (.list es))) (hel : tyElem P src = some el) (hd : P.underlying dst = some .string) (hu : P.underlying el = some (.int .u8)) (hl : bytesL es = some l) :
  NOk P w g a o (.t (.sc (.string ⟨l.toArray⟩))) := by
 have hr := (rd_rel hE hx .nil).1
 simp only [RelV] at hr
 have hsrc : P.underlying src = some (.slice el) := by
  unfold tyElem at hel
  split at hel
  ·rename_i q hq; simp only [Option.some.injEq] at hel; subst hel; exact hq
  ·cases hel
 obtain ⟨h1, h2, h3⟩ := bytesL_get hl
 refine .same (x := .string ⟨l.toArray⟩) ?_ fun l' => by simp only [RelV]; exact .sc _ rfl
 have key : (convert src dst (a.eval x)).run P w = .ok (.string ⟨l.toArray⟩) w := by
  rcases hr.toList with ⟨rfl, hv | ⟨a0, hv⟩⟩ | ⟨b, o', cap, sz, lim, hv, _, hrl⟩
  ·rw [hv, run_convert_bytes_string w src dst el none 0 0 hsrc hu hd]
   have : l = [] := by simpa [bytesL] using hl.symm
   subst this
   simp [Conv.bytesToString, Sem.run_pure]
   rfl
  ·rw [hv, run_convert_bytes_string w src dst el (some a0) 0 0 hsrc hu hd]
   have : l = [] := by simpa [bytesL] using hl.symm
   subst this
   simp [Conv.bytesToString, loadCells, loadCellsFrom, Sem.run_pure]
   rfl
  ·
   have hns : ∃ ns : List Int, ns.map (fun n => UInt8.ofNat n.toNat) = l /\ ∀ (j : Nat) (n : Int), ns[j]? = some n -> (es.flatMap T.cells)[j]? = some (.sc (.int .u8 n)) := by
    have : ∀ (es : List T) (l : List UInt8), bytesL es = some l -> ∃ ns : List Int, ns.map (fun n => UInt8.ofNat n.toNat) = l /\ ∀ (j : Nat) (n : Int), ns[j]? = some n -> (es.flatMap T.cells)[j]? = some (.sc (.int .u8 n)) := by
     intro es
     induction es with
     | nil => intro l h; simp only [bytesL, Option.some.injEq] at h; subst h; exact ⟨[], rfl, by simp⟩
     | cons y es ih =>
      intro l h
      unfold bytesL at h
      split at h
      ·rename_i heq; cases heq
      ·rename_i n r heq
       cases heq
       cases hr' : bytesL es with
       | none => simp [hr'] at h
       | some l' =>
        simp [hr'] at h
        subst h
        obtain ⟨ns, q1, q2⟩ := ih l' hr'
        refine ⟨n :: ns, by simp [q1], fun j m hj => ?_⟩
        cases j with
        | zero => simp at hj; subst hj; simp [T.cells]
        | succ j => simpa [T.cells] using q2 j m (by simpa using hj)
      ·cases h
    exact this es l hl
   obtain ⟨ns, q1, q2⟩ := hns
   have hlen : ns.length = es.length := by rw [h1, <- q1]; simp
   rw [hv, run_convert_bytes_string w src dst el _ _ _ hsrc hu hd]
   have hcells := run_loadCells_list (P := P) w ⟨b, o', none⟩ (ns.map (Value.int .u8)) (fun j v hj => by
    rw [List.getElem?_map] at hj
    cases hn : ns[j]? with
    | none => simp [hn] at hj
    | some n =>
     simp [hn] at hj
     subst hj
     obtain ⟨v, c1, c2⟩ := hrl.at_ j _ (q2 j n hn)
     rw [Addr.add_none, c1]
     rw [c2.toSc.1])
   simp only [List.length_map, hlen] at hcells
   rw [run_bytesToString w _ es.length cap ns hcells, foldl_push_ints, q1]
   have he0 : ByteArray.empty.data = #[] := rfl
   rw [he0]
   simp
 simp only [execOp, ho, Sem.run_bind, key, Result.andThen, Sem.run_pure]
set_option maxHeartbeats 2000000 in
theorem evN_sound (hE : SimE w g e a) (hB : SimB w g sig) (hW : WF P w g) {o : Oper} {v : V} {ld : Option Nat} (h : evN P (rd e) sig o = some (v, ld)) : NOk P w g a o v := by
 unfold evN at h
 cases hop : o.op with
 | move x =>
  simp only [hop] at h
  exact move_ok hE hop (map_pair h).1
 | pick c x y =>
  simp only [hop] at h
  split at h
  ·rename_i hc; exact pick_ok (b := true) hE hop hc (by simpa using (map_pair h).1)
  ·rename_i hc; exact pick_ok (b := false) hE hop hc (by simpa using (map_pair h).1)
  ·simp at h
 | extract x i =>
  simp only [hop] at h
  split at h
  ·rename_i vs hx; exact extract_ok hE hW hop hx (map_pair h).1
  ·simp at h
 | nilCheck x =>
  simp only [hop] at h
  split at h
  ·rename_i id off hx; simp only [Option.some.injEq, Prod.mk.injEq] at h; obtain ⟨rfl, -⟩ := h; exact nilCheck_ok hE hop hx (.inl ⟨_, _, rfl⟩)
  ·rename_i cs hx; simp only [Option.some.injEq, Prod.mk.injEq] at h; obtain ⟨rfl, -⟩ := h; exact nilCheck_ok hE hop hx (.inr (.inl ⟨_, rfl⟩))
  ·rename_i f caps hx; simp only [Option.some.injEq, Prod.mk.injEq] at h; obtain ⟨rfl, -⟩ := h; exact nilCheck_ok hE hop hx (.inr (.inr (.inr ⟨_, _, _, _, _, rfl⟩)))
  ·rename_i f caps hx; simp only [Option.some.injEq, Prod.mk.injEq] at h; obtain ⟨rfl, -⟩ := h; exact nilCheck_ok hE hop hx (.inr (.inr (.inl ⟨_, _, rfl⟩)))
  ·simp at h
 | field t x f =>
  simp only [hop] at h
  split at h
  ·rename_i vs fd hx hf
   split at h
   ·rename_i b n ha hn; exact field_ok hE hW hop hx hf ha hn (map_pair h).1
   ·simp at h
  ·simp at h
 | fieldAddr t x f =>
  simp only [hop] at h
  split at h
  ·rename_i id off fd hx hf
   split at h
   ·rename_i hn; simp only [Option.some.injEq, Prod.mk.injEq] at h; obtain ⟨rfl, -⟩ := h; exact fieldAddr_ptr hE hop hx hf hn
   ·simp at h
  ·rename_i cs fd hx hf
   split at h
   ·rename_i hn; simp only [Option.some.injEq, Prod.mk.injEq] at h; obtain ⟨rfl, -⟩ := h; exact fieldAddr_cptr hE hop hx hf hn.1 hn.2
   ·simp at h
  ·rename_i id off st n k fd hx hf
   split at h
   ·rename_i hn; simp only [Option.some.injEq, Prod.mk.injEq] at h; obtain ⟨rfl, -⟩ := h; exact fieldAddr_aptr hE hop hx hf hn
   ·simp at h
  ·simp at h
 | indexAddr t x i =>
  simp only [hop] at h
  split at h
  ·rename_i es kk k hx hi
   split at h
   ·rename_i sz hsz
    cases hel : tyElem P t with
    | none => simp [hel] at hsz
    | some el =>
     simp [hel] at hsz
     split at h
     ·rename_i h0
      split at h
      ·rename_i y hy
       split at h
       ·rename_i hc; simp only [Option.some.injEq, Prod.mk.injEq] at h; obtain ⟨rfl, -⟩ := h; exact indexAddr_list hE hop hx hi hel hsz h0 hy hc
       ·simp at h
      ·simp at h
     ·simp at h
   ·simp at h
  ·rename_i id off kk k hx hi
   split at h
   ·rename_i n el ht
    split at h
    ·rename_i sz hs
     split at h
     ·rename_i hk; simp only [Option.some.injEq, Prod.mk.injEq] at h; obtain ⟨rfl, -⟩ := h
      split
      ·exact indexAddr_ptr hE hop hx hi ht hs hk.1 hk.2
      ·exact indexAddr_aptr hE hop hx hi ht hs hk.1 hk.2
     ·simp at h
    ·simp at h
   ·simp at h
  ·simp at h
 | index t x i =>
  simp only [hop] at h
  split at h
  ·rename_i vs kk k hx hi
   split at h
   ·rename_i n el ht
    split at h
    ·rename_i b sz ha hs
     split at h
     ·rename_i hk; exact index_agg hE hW hop hx hi ht ha hs hk.1 hk.2 (map_pair h).1
     ·simp at h
    ·simp at h
   ·simp at h
  ·exact NOk.scalar hE (by simp [hop]) h
 | slice t x lo hi mx =>
  simp only [hop] at h
  split at h
  ·rename_i es hx
   split at h
   ·rename_i sz l hh m hsz hl hhi hm
    cases hel : tyElem P t with
    | none => simp [hel] at hsz
    | some el =>
     simp [hel] at hsz
     split at h
     ·rename_i hc
      obtain ⟨c1, c2, c3, c4, c5⟩ := hc
      cases m with
      | none =>
       simp only [Option.some.injEq, Prod.mk.injEq] at h
       obtain ⟨rfl, -⟩ := h
       simpa using slice_list hE hop hx hel hsz hl hhi hm c1 c2 c3 c4 c5 (.inl rfl)
      | some m' =>
       simp only at h
       split at h
       ·rename_i hm2
        simp only [Option.some.injEq, Prod.mk.injEq] at h
        obtain ⟨rfl, -⟩ := h
        simpa using slice_list hE hop hx hel hsz hl hhi hm c1 c2 c3 c4 c5 (.inr ⟨m', rfl, hm2.1, hm2.2⟩)
       ·simp at h
     ·simp at h
   ·simp at h
  ·rename_i hx
   split at h
   ·rename_i el l hh m hel hl hhi hm
    split at h
    ·rename_i hc
     simp only [Option.some.injEq, Prod.mk.injEq] at h
     obtain ⟨rfl, -⟩ := h
     obtain ⟨c1, c2, c3, c4, c5⟩ := hc
     cases hs : tySize P el with
     | none => simp [hs] at c5
     | some sz => exact slice_nil hE hop hx hel hs hl hhi hm c1 c2 c3 c4
    ·simp at h
   ·simp at h
  ·exact NOk.scalar hE (by simp [hop]) h
  ·simp at h
 | build t parts =>
  simp only [hop] at h
  split at h
  ·rename_i zs ps hz hps
   cases hz' : tyZero P t with
   | none => simp [hz'] at hz
   | some z =>
    simp [hz'] at hz
    split at h
    ·rename_i fs hf
     have h1 := (map_pair h).1
     cases hfl : fillV (fun (i : Nat) => fs[i]?) zs ps with
     | none => simp [hfl] at h1
     | some vs => simp [hfl] at h1; subst h1; exact build_ok hE hop hz' hz hps (.inl ⟨fs, hf, hfl⟩)
    ·split at h
     ·rename_i n el ha
      split at h
      ·rename_i sz hs
       have h1 := (map_pair h).1
       cases hfl : fillV (fun i => some (i * sz, sz)) zs ps with
       | none => simp [hfl] at h1
       | some vs => simp [hfl] at h1; subst h1; exact build_ok hE hop hz' hz hps (.inr ⟨n, el, sz, ha, hs, hfl⟩)
      ·simp at h
     ·simp at h
  ·simp at h
 | buildSlice t len parts =>
  simp only [hop] at h
  split at h
  ·rename_i el ps hel hps
   split at h
   ·rename_i es sz hes hs
    split at h
    ·rename_i hc
     simp only [Option.some.injEq, Prod.mk.injEq] at h
     obtain ⟨rfl, -⟩ := h
     exact buildSlice_ok hE hW hop hel hps hes hs hc.1 hc.2.1 hc.2.2.1 hc.2.2.2.1 hc.2.2.2.2
    ·simp at h
   ·simp at h
  ·simp at h
 | makeSlice t x y =>
  simp only [hop] at h
  split at h
  ·rename_i el n m hel hx hy
   split at h
   ·rename_i sz by_ z hs hb hz
    split at h
    ·rename_i zs hzs
     cases hus : cellsOf z.cells.toList with
     | none => simp [hus] at hzs
     | some us =>
      simp [hus] at hzs
      split at h
      ·rename_i hc
       obtain ⟨rfl, c1, c2, c3, c4, c5⟩ := hc
       simp only [Option.some.injEq, Prod.mk.injEq] at h
       obtain ⟨rfl, -⟩ := h
       exact makeSlice_ok hE hW hop hel hx hy hs hb hz hus hzs c1 c2 c3 c4 c5
      ·simp at h
    ·simp at h
   ·simp at h
  ·simp at h
 | makeFunc fn first caps =>
  simp only [hop] at h
  split at h
  ·rename_i f vs hf hv
   simp only [Option.some.injEq, Prod.mk.injEq] at h
   obtain ⟨rfl, -⟩ := h
   exact makeFunc_ok hE hop hf hv
  ·simp at h
 | load t x =>
  simp only [hop] at h
  split at h
  ·rename_i id off b n hx ha hn
   split at h
   ·rename_i cs hs
    cases hp : partV b n off (cs.map V.plain) with
    | none => simp [hp] at h
    | some u =>
     simp [hp] at h
     obtain ⟨rfl, -⟩ := h
     obtain ⟨y, h1, h2, _⟩ := load_ptr hE hB hop hx ha hn hs hp
     exact .same h1 h2
   ·simp at h
  ·rename_i cs b n hx ha hn
   exact load_cptr hE hop hx ha hn (map_pair h).1
  ·rename_i id off st m k b n hx ha hn
   split at h
   ·rename_i cs hs
    cases hp : partV b n (off + k.toNat * st) (cs.map V.plain) with
    | none => simp [hp] at h
    | some u =>
     simp [hp] at h
     obtain ⟨rfl, -⟩ := h
     obtain ⟨y, h1, h2, _⟩ := load_at hE hB hop hx rfl ha hn hs hp
     exact .same h1 h2
   ·simp at h
  ·simp at h
 | call c =>
  simp only [hop] at h
  split at h
  ·rename_i hcl
   split at h
   ·rename_i es t hx ht
    split at h
    ·rename_i hel
     simp only [Option.some.injEq, Prod.mk.injEq] at h
     obtain ⟨rfl, -⟩ := h
     cases h0 : c.args[0]? with
     | none => simp [h0] at hx
     | some x =>
      simp [h0] at hx
      cases hv : rd e x with
      | none => simp [hv] at hx
      | some v =>
       simp [hv] at hx
       cases hel' : tyElem P t with
       | none => simp [hel'] at hel
       | some el => exact len_ok hE hop hcl h0 hv hx ht hel'
    ·simp at h
   ·exact NOk.scalar hE (by simp [hop]) h
  ·simp at h
  ·exact NOk.scalar hE (by simp [hop]) h
  ·simp at h
 | binOp op t x y t2 =>
  simp only [hop] at h
  cases op <;> simp only at h <;> try exact NOk.scalar hE (by simp [hop]) h
  split at h
  ·rename_i el hx hy hel
   simp only [Option.some.injEq, Prod.mk.injEq] at h
   obtain ⟨rfl, -⟩ := h
   exact eql_nil hE hop hel hy (.inl (.inl ⟨hx, rfl⟩))
  ·rename_i z zs el hx hy hel
   simp only [Option.some.injEq, Prod.mk.injEq] at h
   obtain ⟨rfl, -⟩ := h
   exact eql_nil hE hop hel hy (.inl (.inr ⟨_, _, hx, rfl⟩))
  ·rename_i el hx hy hel
   simp only [Option.some.injEq, Prod.mk.injEq] at h
   obtain ⟨rfl, -⟩ := h
   exact eql_nil hE hop hel hy (.inr ⟨hx, rfl⟩)
  ·exact NOk.scalar hE (by simp [hop]) h
 | unOp op t x => simp only [hop] at h; exact NOk.scalar hE (by simp [hop]) h
 | convert s d x =>
  simp only [hop] at h
  split at h
  ·rename_i es el hx hel hd
   split at h
   ·rename_i l hu hl
    simp only [Option.some.injEq, Prod.mk.injEq] at h
    obtain ⟨rfl, -⟩ := h
    exact bytes_ok hE hop hx hel hd hu hl
   ·simp at h
  ·exact NOk.scalar hE (by simp [hop]) h
 | makeInterface t x => simp only [hop] at h; exact NOk.scalar hE (by simp [hop]) h
 | _ => simp [hop] at h
end
end Go.Eng
