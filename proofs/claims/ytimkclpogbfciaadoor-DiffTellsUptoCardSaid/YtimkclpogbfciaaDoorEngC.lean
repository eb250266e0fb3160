/- The engine, fourteenth part: calls. -/
import Derived.Test.YtimkclpogbfciaaDoorEngY
set_option linter.unusedVariables false
set_option linter.unusedSimpArgs false
namespace Go.Eng
open Go.RowKit
section
variable {P : Program} {w w' : World} {g g' : Gh} {e e' : Env} {a a' : Act} {sig sig' : Sig} {ops : List Oper} {base : Nat} {dn : Nat -> Prop} {r r' : R}
theorem Claims.handed {k : Nat} {v : V} {x : Value} {tl : List (Option (List Nat))} (hC : Claims P ops dn w g e tl a) (hH : Handed P w g k e sig a v x g' e' sig') : Claims P ops dn w g' e' tl a := by
 refine ⟨?_, ?_⟩
 ·intro j o s d hj hoj hop hdst huniq hs
  rcases hC.move j o s d hj hoj hop hdst huniq hs with h | h
  ·exact .inl ((hH.undef d).2 h)
  ·exact .inr h
 ·intro j o t ad d id off hj hoj hop hdst huniq hp hrd hag hids
  obtain ⟨p, rfl, hp⟩ := hp
  have hrd0 : rd e (.tmp p) = some (.ptr id off) := by
   simp only [rd, rdF] at hrd ⊢
   rw [<- hH.plain p]; exact hrd
  rcases hC.load j o t (.tmp p) d id off hj hoj hop hdst huniq ⟨p, rfl, hp⟩ hrd0 hag hids with h | ⟨b, h1, h2⟩
  ·exact .inl ((hH.undef d).2 h)
  ·exact .inr ⟨b, by rw [hH.same.2]; exact h1, h2⟩
structure HandedAll (P : Program) (w : World) (g : Gh) (k : Nat) (e : Env) (sig : Sig) (a : Act) (vs : List V) (xs : List Value) (g' : Gh) (e' : Env) (sig' : Sig) : Prop where
 same : g'.F = g.F /\ g'.φ = g.φ
 E : SimE w g' e' a
 B : SimB w g' sig'
 W : WF P w g'
 len : vs.length = xs.length
 rel : ∀ (j : Nat) (v : V) (x : Value), vs[j]? = some v -> xs[j]? = some x -> RelV w g' (.arg (k + j)) v x
 own : ∀ b l, g'.O b = some l -> (g.O b = some l /\ ∀ j, k <= j -> l ≠ .arg j) \/ (∃ j, j < vs.length /\ l = .arg (k + j)) /\ ∃ l', g.O b = some l' /\ ((∃ s, l' = .slot s) \/ ∃ id off, l' = .box id off)
 kept : ∀ b j, g.O b = some (.arg j) -> g'.O b = some (.arg j)
 undef : ∀ s, e'.at s = .undef ↔ e.at s = .undef
 plain : ∀ s, (e'.at s).plain = (e.at s).plain
 sigLen : sig'.length = sig.length
theorem handAll_sound {i : Nat} {tl : List (Option (List Nat))} (hbelow : ∀ k ok, dn k -> ops[k]? = some ok -> isE ok = true -> k < i) : ∀ (xs : List Operand) (k : Nat) {g : Gh} {e : Env} {sig : Sig} {vs : List V} {e' : Env} {sig' : Sig}, SimE w g e a -> SimB w g sig -> WF P w g →
  (∀ b j, k <= j -> g.O b ≠ some (.arg j)) -> Claims P ops dn w g e tl a -> (∀ x ∈ xs, ∀ (d j : Nat) (o : Oper), x = .tmp d -> j < i -> ops[j]? = some o -> o.dst = some d -> dn j) -> handAll P ops base i e sig tl xs = some (vs, e', sig') -> ∃ g', HandedAll P w g k e sig a vs (xs.map a.eval) g' e' sig'
 | [], k, g, e, sig, vs, e', sig', hE, hB, hW, hA, hC, hdep, h => by
  simp only [handAll, Option.some.injEq, Prod.mk.injEq] at h
  obtain ⟨rfl, rfl, rfl⟩ := h
  exact ⟨g, ⟨rfl, rfl⟩, hE, hB, hW, rfl, by simp, fun b l hb => .inl ⟨hb, fun j hj hl => hA b j hj (hl ▸ hb)⟩, fun _ _ h => h, fun _ => Iff.rfl, fun _ => rfl, rfl⟩
 | x :: xs, k, g, e, sig, vs, e', sig', hE, hB, hW, hA, hC, hdep, h => by
  simp only [handAll] at h
  split at h
  ·rename_i v e1 sig1 h1
   split at h
   ·rename_i us e2 sig2 h2
    simp only [Option.some.injEq, Prod.mk.injEq] at h
    obtain ⟨rfl, rfl, rfl⟩ := h
    obtain ⟨g1, hH⟩ := handOn_sound (k := k) hE hB hW (fun b => hA b k (Nat.le_refl _)) hC (hdep x (by simp)) hbelow h1
    have hA1 : ∀ b j, k + 1 <= j -> g1.O b ≠ some (.arg j) := by
     intro b j hj hb
     rcases hH.own b _ hb with ⟨h3, _⟩ | ⟨h3, _⟩
     ·exact hA b j (by omega) h3
     ·simp at h3; omega
    obtain ⟨g2, hG⟩ := handAll_sound hbelow xs (k + 1) hH.E hH.B hH.W hA1 (hC.handed hH) (fun y hy => hdep y (by simp [hy])) h2
    refine ⟨g2, ⟨hG.same.1.trans hH.same.1, hG.same.2.trans hH.same.2⟩, hG.E, hG.B, hG.W, by simp [hG.len], ?_, ?_, fun b j hb => hG.kept b j (hH.kept b j hb), fun s => (hG.undef s).trans (hH.undef s), fun s => (hG.plain s).trans (hH.plain s), hG.sigLen.trans hH.sigLen⟩
    ·intro j u y hu hy
     cases j with
     | zero =>
      simp at hu hy
      subst hu; subst hy
      have hl : Later w g1 w g2 := ⟨by rw [hG.same.1]; exact Keeps.refl _ _, fun _ _ h => by rw [hG.same.2]; exact h⟩
      refine RelV.later hl hH.W.noNil (fun b hb => ⟨?_, by rw [hG.same.1], rfl⟩) hH.rel
      exact hG.kept b k hb
     | succ j =>
      have := hG.rel j u y (by simpa using hu) (by simpa using hy)
      rw [show k + (j + 1) = k + 1 + j by omega]; exact this
    ·intro b l hb
     rcases hG.own b l hb with ⟨h3, h4⟩ | ⟨⟨j, hj, rfl⟩, l', h4, h5⟩
     ·rcases hH.own b l h3 with ⟨h6, h7⟩ | ⟨rfl, l', h6, h7⟩
      ·refine .inl ⟨h6, fun j hj hl => ?_⟩
       by_cases hjk : j = k
       ·subst hjk; exact h7 hl
       ·exact h4 j (by omega) hl
      ·exact .inr ⟨⟨0, by simp, rfl⟩, l', h6, h7⟩
     ·rcases hH.own b l' h4 with ⟨h6, _⟩ | ⟨rfl, _⟩
      ·exact .inr ⟨⟨j + 1, by simpa using hj, by congr 1; omega⟩, l', h6, h5⟩
      ·rcases h5 with ⟨s, h5⟩ | ⟨id, off, h5⟩ <;> cases h5
   ·simp at h
  ·simp at h
end
end Go.Eng
