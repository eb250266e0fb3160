/- The engine, sixteenth part: every step of a region; a region in its text's order. -/
import Derived.Test.YtimkclpogbfciaaDoorEngD
set_option linter.unusedVariables false
set_option linter.unusedSimpArgs false
namespace Go.Eng
open Go.RowKit
section
variable {P : Program} {w w' : World} {g g' : Gh} {e e' : Env} {a a' : Act} {sig sig' : Sig} {ops : List Oper} {base : Nat} {dn : Nat -> Prop} {r r' : R}
theorem step_none (hS : SimR P ops base dn r a w g) {i : Nat} (hR : Ready ops dn i) (hi : ops[i]? = none) : StepOk P ops base dn i r a w g := by
 intro Q K hK
 unfold wpOp
 simp only [List.getElem?_toArray, hi]
 exact hK _ _ g ⟨hS.E, hS.B, hS.W, hS.C.also_none hi, hS.noArg, hS.noRes, hS.defers, hS.tlen, hS.free, deps_also hS.deps (fun k o ok d h => by rw [hi] at h; cases h), fun j hj => hS.tnone j (fun h => hj (.inl h))⟩ (Ext.refl _ _)
theorem step_quiet (hS : SimR P ops base dn r a w g) {i : Nat} (hR : Ready ops dn i) {o : Oper} (hi : ops[i]? = some o) (hw : wantedV ops r.env o = some true)
  (h : (match evN P (rd r.env) r.sig o with | some (v, ld) => some { r with env := r.env.put o.dst v, ll := r.ll.set i ld } | none => none) = some r') : StepOk P ops base dn i r' a w g := by
 split at h
 ·rename_i v ld hv
  simp only [Option.some.injEq] at h
  subst h
  exact step_N hS hR hi hw hv _
 ·cases h
set_option maxHeartbeats 1000000 in
theorem step_sound {call : CallF} (hcall : CallFSound P call) (hS : SimR P ops base dn r a w g) {i : Nat} (hR : Ready ops dn i) (h : step P call ops base i r = some r') : StepOk P ops base dn i r' a w g := by
 unfold step at h
 split at h
 ·rename_i hi
  simp only [Option.some.injEq] at h
  subst h
  exact step_none hS hR hi
 rename_i o hi
 split at h
 ·cases h
 ·rename_i hw
  simp only [Option.some.injEq] at h
  subst h
  exact step_skip hS hR hi hw
 rename_i hw
 split at h
 ·rename_i t hop
  split at h
  ·rename_i cs hcs htl
   simp only [Option.some.injEq] at h
   subst h
   cases hz : tyZero P t with
   | none => simp [hz] at hcs
   | some z =>
    simp [hz] at hcs
    exact step_alloc hS hR hi hw hop hz hcs htl
  ·cases h
 ·rename_i t x hop
  split at h
  ·rename_i v n hv hn htl
   split at h
   ·rename_i hc
    simp only [Option.some.injEq] at h
    subst h
    exact step_box hS hR hi hw hop hv hc.2 htl
   ·cases h
  ·cases h
 ·rename_i x hop
  split at h
  ·rename_i v e1 s1 hh
   simp only [Option.some.injEq] at h
   subst h
   exact step_assign hS hR hi hw hop hh
  ·cases h
 ·rename_i t ad x hop
  split at h
  ·rename_i id off v e1 s1 n had hh hn
   split at h
   ·rename_i cs hcs
    split at h
    ·rename_i hc
     simp only [Option.some.injEq] at h
     subst h
     exact step_store hS hR hi hw hop had hh hn hcs hc.1 hc.2.1 hc.2.2
    ·cases h
   ·cases h
  ·cases h
 ·rename_i c hop
  split at h
  ·rename_i hcl
   split at h
   ·rename_i x y tx ty hxy htt
    split at h
    ·rename_i l sz es ys el hl hy ht
     split at h
     ·rename_i n hn
      split at h
      ·rename_i hc
       simp only [Option.some.injEq] at h
       subst h
       obtain ⟨hsz, hp, hb, hys, rfl, hz⟩ := hc
       exact step_append hS hR hi hw hop hcl hxy htt hl hy ht hn hsz hp hb hys hz
      ·cases h
     ·cases h
    ·cases h
   ·cases h
  ·rename_i fx hcl
   split at h
   ·rename_i f caps vs e1 s1 hf hh
    split at h
    ·rename_i v s2 roots hev
     simp only [Option.some.injEq] at h
     subst h
     exact step_call hS hR hi hw hop hcl hf hh hcall hev
    ·cases h
   ·cases h
  ·exact step_quiet hS hR hi hw h
  ·cases h
 ·exact step_quiet hS hR hi hw h
end
end Go.Eng
