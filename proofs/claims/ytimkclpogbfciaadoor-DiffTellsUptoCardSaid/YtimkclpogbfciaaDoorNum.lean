/- diff.number, diff.added, walked. No conditions but that texts are small. -/
import Derived.Test.YtimkclpogbfciaaDoorExt
import Derived.Test.YtimkclpogbfciaaDoorNxt
import Derived.Deep.QuietTactic
import Derived.BigQuiet
namespace Go.Proofs.YtimkclpogbfciaaDoor.W
open Go Go.Eng Go.RowKit Go.Shelf
set_option linter.unusedVariables false
set_option linter.unusedSimpArgs false

/-- What strconv.Atoi gives: a number, and whether there is no error. -/
def atoiP (s : ByteArray) : Int × Bool := match Lib.atoiAll s.data.toList with
  | .ok v => (v, true)
  | .range => (Lib.atoiSat s.data.toList, false)
  | _ => (0, false)

theorem tab_synt {w : World} (hT : Tabs Tryd.prog w) : ∃ t p, w.var? Tryd.prog "strconv.ErrSyntax" = some #[.iface t p] := by
  have hg : Tryd.prog.globalNamed "strconv.ErrSyntax" = some 1 := by kernel_rfl
  obtain ⟨cs, h1, h2⟩ := (hT 1 ⟨_, List.mem_cons_of_mem _ (List.mem_cons_of_mem _ (List.mem_cons_self ..)), hg⟩).2 _ (List.mem_cons_of_mem _ (List.mem_cons_of_mem _ (List.mem_cons_self ..))) hg
  simp only at h2
  obtain ⟨t, p, rfl⟩ := h2
  exact ⟨t, p, h1⟩

abbrev tab_ok (w : World) : Prop := Lib.TabIs Tryd.prog w "internal/strconv.uint64pow10" .u64 Lib.pow10Tab
theorem Tabs.below {w w' : World} (h : Tabs Tryd.prog w) (hb : Below w.heap.size w w') : Tabs Tryd.prog w' :=
  fun b hbt => ⟨Nat.lt_of_lt_of_le (h b hbt).1 hb.size, (h b hbt).2.keep (hb.block b (h b hbt).1)⟩

theorem atoi_calls (s : ByteArray) (hs : s.size ≤ 281474976710656) (w : World) (hT : Tabs Tryd.prog w) :
    Calls Tryd.prog 38 #[.string s] w fun e w' => (∃ v, e = .returned (.tuple #[.int .i64 (atoiP s).1, v]) ∧ ((atoiP s).2 = true ∧ v = .nilIface ∨ (atoiP s).2 = false ∧ ∃ t p, v = .iface t (.pointer (some p)))) ∧ Below w.heap.size w w' := by
  unfold atoiP
  cases h : Lib.atoiAll s.data.toList with
  | ok v =>
    refine (Tryd.strconv_Atoi_ok s (by omega) v h w).mono ?_
    rintro e w' ⟨he, hw⟩
    refine ⟨⟨_, he, .inl ⟨rfl, rfl⟩⟩, ?_⟩
    rcases hw with rfl | ⟨t, rfl⟩
    · exact Below.refl _ _
    · exact Lib.bytesWorld_below w _ t
  | range =>
    obtain ⟨tp, p, hvar⟩ := tab_range hT
    refine (Tryd.strconv_Atoi_range_var s hs h tp p w hvar).mono ?_
    rintro e w' ⟨N, he, _, _, hb⟩
    exact ⟨⟨_, he, .inr ⟨rfl, _, _, rfl⟩⟩, hb⟩
  | _ =>
    obtain ⟨tp, p, hvar⟩ := tab_synt hT
    have hc : Calls Tryd.prog 38 #[.string s] w fun e w' => ∃ N, e = .returned (.tuple #[.int .i64 0, .iface 79 (.pointer (some ⟨N, 0, none⟩))]) ∧ w.heap.size ≤ N ∧ w'.heap[N]? = some (.cells #[.string ⟨#[65, 116, 111, 105]⟩, .string s, .iface tp p] 96 (0, 0)) ∧ Below w.heap.size w w' := Any.strconv_Atoi_syntax_var Tryd.laysC172 s hs h tp p w hvar
    refine hc.mono ?_
    rintro e w' ⟨N, he, _, _, hb⟩
    exact ⟨⟨_, he, .inr ⟨rfl, _, _, rfl⟩⟩, hb⟩

theorem atoiP_ok (s : ByteArray) (h : (atoiP s).2 = true) : -9223372036854775808 ≤ (atoiP s).1 ∧ (atoiP s).1 ≤ 9223372036854775807 := by
  unfold atoiP at h ⊢
  cases e : Lib.atoiAll s.data.toList with
  | range => rw [e] at h; cases h
  | ok v =>
    show -9223372036854775808 ≤ v ∧ v ≤ 9223372036854775807
    clear h
    unfold Lib.atoiAll at e
    split at e
    · cases e
    · rename_i c r _
      simp only at e
      split at e
      · cases e
      · cases e
      · rename_i u _
        split at e
        · cases e
        · rename_i h1
          split at e
          · cases e
          · rename_i h2
            simp only [Lib.NumEnd.ok.injEq] at e
            subst e
            split <;> omega
  | _ => rw [e] at h; cases h

/-- The number that a text begins with, up to some byte. -/
def numP (s : ByteArray) (c : UInt8) : Int × ByteArray × Bool :=
  let k := Lib.indexByte s.data.toList c
  if k < 0 then (0, ByteArray.empty, false) else
    let d := s.extract 0 k.toNat
    ((atoiP d).1, s.extract (k.toNat + 1) s.size, (atoiP d).2 && (decide (0 < (atoiP d).1) && ((⟨(Lib.itoa (atoiP d).1).toArray⟩ : ByteArray).toList == d.toList)))

/-- Worlds in which all that was there stands as it stood. -/
def Bel (w : World) : Type := {w' : World // Below w.heap.size w w'}
instance (w : World) : Nonempty (Bel w) := ⟨⟨w, Below.refl _ _⟩⟩
theorem below_on {w w1 w2 : World} (h1 : Below w.heap.size w w1) (h2 : Below w1.heap.size w1 w2) : Below w.heap.size w w2 :=
  ⟨h2.os.trans h1.os, h2.tape.trans h1.tape, h2.output.trans h1.output, Nat.le_trans h1.size h2.size, fun k hk => (h2.block k (Nat.lt_of_lt_of_le hk h1.size)).trans (h1.block k hk)⟩
theorem wp_region_below {id : Nat} {Q : Exit → Act → World → Prop} {a : Act} {w : World} {l : List Oper} (hm : Tryd.prog.follows .mixedOrders = true) (hB : Region.lexB .any l.toArray = true)
    (h : wpQuiet Tryd.prog l.toArray (fun w' => ∃ s : Bel w, w' = s.1) (fun a' => ∀ w', (∃ s : Bel w, w' = s.1) → Q .normal a' w') l a) : (Code.region id l.toArray true).wp Tryd.prog Q a w :=
  wp_region_quiet (C := fun w' => ∃ s : Bel w, w' = s.1) hm hB ⟨⟨_, (Below.refl w.heap.size w).drew⟩, rfl⟩ (by simpa using h)
theorem calls_below {f : FuncId} {args : Array Value} {w : World} {s : Bel w} {v : Value} (h : Calls Tryd.prog f args s.1 fun e w' => e = .returned v ∧ Below s.1.heap.size s.1 w') :
    Calls Tryd.prog f args s.1 fun e w'' => e = .returned v ∧ ∃ s' : Bel w, w'' = s'.1 :=
  h.mono fun _ _ ⟨he, hb⟩ => ⟨he, ⟨_, below_on s.2 hb⟩, rfl⟩

set_option maxHeartbeats 1000000 in
set_option maxRecDepth 100000 in
theorem number_walk (s : ByteArray) (c : UInt8) (hs : s.size ≤ 281474976710656) (w : World) (hT : Tabs Tryd.prog w) :
    Calls Tryd.prog 23 #[.string s, .int .u8 c.toNat] w fun e w' => e = .returned (.tuple #[.int .i64 (numP s c).1, .string (numP s c).2.1, .bool (numP s c).2.2]) ∧ Below w.heap.size w w' := by
  have hix := Tryd.strings_IndexByte s c.toNat w
  have ec : ((c.toNat : Int).toNat.toUInt8) = c := by simp
  rw [ec] at hix
  unfold numP
  have hge := Lib.indexByte_ge s.data.toList c
  generalize hkk : Lib.indexByte s.data.toList c = k0 at *
  by_cases hk : k0 < 0
  · simp only [if_pos hk]
    go_enter Tryd.func23, Tryd.ntmps23
    go_wp2_with (first | (go_at_call 37; refine hix.mono ?_; rintro e w' ⟨rfl, hw⟩; rw [hw]))
    go_ret3
    exact ⟨rfl, Below.refl _ _⟩
  · obtain ⟨k, rfl⟩ : ∃ k : Nat, k0 = k := ⟨k0.toNat, by omega⟩
    have hlt : k < s.size := by
      have h1 := (Lib.indexByte_some hkk).1
      have h2 := (List.getElem?_eq_some_iff.1 h1).1
      simpa using h2
    simp only [if_neg hk, Int.toNat_natCast]
    have hd : (s.extract 0 k).size ≤ 281474976710656 := by rw [ByteArray.size_extract]; omega
    have hat := fun w1 h => atoi_calls (s.extract 0 k) hd w1 h
    have hwk : IntKind.i64.wrap ((k : Int) + 1) = (k : Int) + 1 := by rw [IntKind.wrap_i64]; omega
    have hk1 : (k : Int) + 1 ≤ (s.size : Int) := by omega
    have hk2 : (0 : Int) ≤ (k : Int) + 1 := by omega
    have hk3 : (k : Int) ≤ (s.size : Int) := by omega
    have hk4 : (0 : Int) ≤ (k : Int) := by omega
    clear hkk
    go_enter Tryd.func23, Tryd.ntmps23
    go_wp2_with (first | (go_at_call 37; refine hix.mono ?_; rintro e w' ⟨rfl, hw⟩; rw [hw]) | (go_at_call 38; refine (hat _ hT).mono ?_; rintro e w1 ⟨⟨v, rfl, hv⟩, hb1⟩))
    have hT1 := Tabs.below hT hb1
    have hrg := atoiP_ok (s.extract 0 k)
    generalize hn1 : (atoiP (s.extract 0 k)).1 = n at *
    generalize hn5 : (atoiP (s.extract 0 k)).2 = b at *
    clear hat hix
    have HN : Aside ((atoiP (s.extract 0 k)).1 = n ∧ (atoiP (s.extract 0 k)).2 = b) := ⟨hn1, hn5⟩
    clear hn1 hn5
    rcases hv with ⟨rfl, rfl⟩ | ⟨rfl, t, p, rfl⟩
    · obtain ⟨hr1, hr2⟩ := hrg rfl
      have hp1 : ∀ s : Bel w1, tab_ok s.1 := fun s => tab_pow (Tabs.below hT1 s.2)
      by_cases hn0 : 0 < n
      · have hn2 : decide ((0 : Int) < n) = true := decide_eq_true hn0
        have hit : ∀ s : Bel w1, Calls Tryd.prog 30 #[.int .i64 n] s.1 fun e w' => e = .returned (.string ⟨(Lib.itoa n).toArray⟩) ∧ Below s.1.heap.size s.1 w' := fun s => (Tryd.strconv_Itoa n hr1 hr2 s.1 (hp1 s)).mono fun e w' ⟨he, k, os, hw⟩ => ⟨he, by rw [hw]; exact below_grow s.1 k os⟩
        clear hrg hT1 hT hp1
        go_wp2_with fail
        refine wp_region_below (by kernel_rfl) (by kernel_rfl) ?_
        repeat (quiet_step (first | (go_at_call 30; refine calls_below (hit _))))
        refine wpQuiet_nil ?_
        rintro _ ⟨⟨w2, hb2⟩, rfl⟩
        go_wp2
        go_ret3
        exact ⟨by simp [HN.out.1, HN.out.2, hn0], below_on hb1 hb2⟩
      · have hn2 : decide ((0 : Int) < n) = false := decide_eq_false hn0
        clear hrg hp1 hT1 hT
        go_quiet (fail)
        go_wp2
        go_ret3
        exact ⟨by simp [HN.out.1, HN.out.2]; intro h; omega, ⟨hb1.os, hb1.tape, hb1.output, hb1.size, hb1.block⟩⟩
    · clear hrg hT1 hT
      go_quiet (fail)
      go_wp2
      go_ret3
      exact ⟨by simp [HN.out.1, HN.out.2], ⟨hb1.os, hb1.tape, hb1.output, hb1.size, hb1.block⟩⟩
end Go.Proofs.YtimkclpogbfciaaDoor.W
