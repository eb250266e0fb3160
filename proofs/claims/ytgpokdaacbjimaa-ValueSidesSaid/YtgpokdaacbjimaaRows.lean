/-
  No cell of these rows narrows 'for every input' (looked for: loops, veiled, ifaces, maps, wideKeys, modest, calm, conditions, laid).
  DERIVED. THE GIVEN ROWS OF THIS SEAT. 4 by the template 'for every input the law returns true; each argument reads behind the call as it read before'; 0 by the template 'total and deterministic' (their statements: YtgpokdaacbjimaaTotals.lean).
  GIVEN WITH THE SEED: the statements are not yours to turn. If you find one false, say at which input.
  Laid BY PROGRAM, IN A SANDBOX (cutbox-rows.mjs): the forced cells as the released guide's own fill.sh prints them over the translation f5e779d1a5b9ef55… (all of the seat's roots in one cut). By AI agents, Wed Nov 11 2026. No macro, syntax, notation, axiom, sorry.
-/
import Derived.Test.YtgpokdaacbjimaaChecked
import GoSem.Claim
import GoSem.ClaimJoined
import GoSem.ClaimMapViews
import Derived.JoinedTies
import Derived.KernelRfl
namespace Go.Proofs.Ytgpokdaacbjimaa
/- THE CELL 'sum', in the pinned program and in every row, IS THE sha256 OF THE DUMP (.gsa) THAT YtgpokdaacbjimaaProg.lean LOADS. Nothing in Lean hashes anything: it is a label: what it is worth is what the hold of that sum in a sandbox is worth. -/
noncomputable def Try.pinned : Pinned := { name := "ytgpokdaacbjimaa", sum := "f5e779d1a5b9ef552672a8099c337bab326f06c1e8ae8fb8e5ed2c8f67e5d3bc", checked := Try.checked }
namespace Rows
def none {H : Type} : Left H := { results := [], args := [] }

/-- 'suturelaw12.ValueKnown': WHATEVER THE INPUT: true; the input reads as it did. -/
def valueKnownSpec : ChangeSpec := { name := "valueKnown", fn := fun _ => fun
  | [] => { results := [.lit (.bool true)], args := [] }
  | _ => none }
def valueKnownRow : OpenClaim := { program := "ytgpokdaacbjimaa", sum := "f5e779d1a5b9ef552672a8099c337bab326f06c1e8ae8fb8e5ed2c8f67e5d3bc", func := "suture/suturelaw12.ValueKnown", spec := "valueKnown", apart := false }
def ValueKnownSaid : Prop := valueKnownRow.holds Try.pinned (OpenSpec.ofChange valueKnownSpec)

/-- ITS FALSE NEIGHBOUR: 'it returns false'. Refute it at one input. -/
def valueKnownWrong : ChangeSpec := { name := "valueKnown", fn := fun _ => fun
  | [] => { results := [.lit (.bool false)], args := [] }
  | _ => none }
def ValueKnownWrongFalsely : Prop := valueKnownRow.holds Try.pinned (OpenSpec.ofChange valueKnownWrong)

/-- 'suturelaw12.ValueTells': WHATEVER THE INPUT: true; the input reads as it did. -/
def valueTellsSpec : ChangeSpec := { name := "valueTells", fn := fun _ => fun
  | [d1, d2, d3] => { results := [.lit (.bool true)], args := [d1, d2, d3] }
  | _ => none }
def valueTellsRow : OpenClaim := { program := "ytgpokdaacbjimaa", sum := "f5e779d1a5b9ef552672a8099c337bab326f06c1e8ae8fb8e5ed2c8f67e5d3bc", func := "suture/suturelaw12.ValueTells", spec := "valueTells", apart := false }
def ValueTellsSaid : Prop := valueTellsRow.holds Try.pinned (OpenSpec.ofChange valueTellsSpec)

/-- ITS FALSE NEIGHBOUR: 'it returns false'. Refute it at one input. -/
def valueTellsWrong : ChangeSpec := { name := "valueTells", fn := fun _ => fun
  | [d1, d2, d3] => { results := [.lit (.bool false)], args := [d1, d2, d3] }
  | _ => none }
def ValueTellsWrongFalsely : Prop := valueTellsRow.holds Try.pinned (OpenSpec.ofChange valueTellsWrong)

/-- 'suturelaw12.ValueRings': WHATEVER THE INPUT: true; the input reads as it did. -/
def valueRingsSpec : ChangeSpec := { name := "valueRings", fn := fun _ => fun
  | [d1, d2, d3] => { results := [.lit (.bool true)], args := [d1, d2, d3] }
  | _ => none }
def valueRingsRow : OpenClaim := { program := "ytgpokdaacbjimaa", sum := "f5e779d1a5b9ef552672a8099c337bab326f06c1e8ae8fb8e5ed2c8f67e5d3bc", func := "suture/suturelaw12.ValueRings", spec := "valueRings", apart := false }
def ValueRingsSaid : Prop := valueRingsRow.holds Try.pinned (OpenSpec.ofChange valueRingsSpec)

/-- ITS FALSE NEIGHBOUR: 'it returns false'. Refute it at one input. -/
def valueRingsWrong : ChangeSpec := { name := "valueRings", fn := fun _ => fun
  | [d1, d2, d3] => { results := [.lit (.bool false)], args := [d1, d2, d3] }
  | _ => none }
def ValueRingsWrongFalsely : Prop := valueRingsRow.holds Try.pinned (OpenSpec.ofChange valueRingsWrong)

/-- 'suturelaw12.ValueSides': WHATEVER THE INPUT: true; the input reads as it did. -/
def valueSidesSpec : ChangeSpec := { name := "valueSides", fn := fun _ => fun
  | [d1, d2, d3] => { results := [.lit (.bool true)], args := [d1, d2, d3] }
  | _ => none }
def valueSidesRow : OpenClaim := { program := "ytgpokdaacbjimaa", sum := "f5e779d1a5b9ef552672a8099c337bab326f06c1e8ae8fb8e5ed2c8f67e5d3bc", func := "suture/suturelaw12.ValueSides", spec := "valueSides", apart := false }
def ValueSidesSaid : Prop := valueSidesRow.holds Try.pinned (OpenSpec.ofChange valueSidesSpec)

/-- ITS FALSE NEIGHBOUR: 'it returns false'. Refute it at one input. -/
def valueSidesWrong : ChangeSpec := { name := "valueSides", fn := fun _ => fun
  | [d1, d2, d3] => { results := [.lit (.bool false)], args := [d1, d2, d3] }
  | _ => none }
def ValueSidesWrongFalsely : Prop := valueSidesRow.holds Try.pinned (OpenSpec.ofChange valueSidesWrong)

/- THE SECOND FORM. 'bulk': how many values and letters a reading holds, each counted each time it is reached (what is shared counts as often as it is met; a slice's spare places count too). A statement '..UptoSaid' is the law's where the arguments, and the package variables that the reading takes, are together of bulk at most 1048576: NARROWER than '..Said'. Prove '..Said' where nothing that the law and all that it calls make is longer than what came in: it says more and counts as full. Else prove '..UptoSaid'. A law counts once. -/
mutual
def uptoBulk {H : Type} : DataW H → Nat
  | .lit (.string bytes) => bytes.length + 1
  | .lit _ => 1
  | .nil => 1
  | .ptr d => uptoBulk d + 1
  | .slice elems spare => uptoBulkAll elems + uptoBulkAll spare + 1
  | .agg parts => uptoBulkAll parts + 1
  | .iface _ d => uptoBulk d + 1
  | .map entries => uptoBulkEntries entries + 1
  | .held _ => 1
def uptoBulkAll {H : Type} : List (DataW H) → Nat
  | [] => 0
  | d :: r => uptoBulk d + uptoBulkAll r
def uptoBulkEntries {H : Type} : List (Lit × DataW H) → Nat
  | [] => 0
  | x :: r => uptoBulkEntry x + uptoBulkEntries r
def uptoBulkEntry {H : Type} : Lit × DataW H → Nat
  | (.string bytes, d) => bytes.length + uptoBulk d + 1
  | (_, d) => uptoBulk d + 1
 end
def uptoSmall : (H : Type) → List (DataW H) → Bool := fun _ ds => decide (uptoBulkAll ds ≤ 1048576)
def OpenSpec.upto (s : _root_.Go.ChangeSpec) : _root_.Go.OpenSpec := { _root_.Go.OpenSpec.ofChange s with cond := some uptoSmall }

/-- 'suturelaw12.ValueKnown', WHERE WHAT IT READS IS OF BULK AT MOST 1048576: true; the input reads as it did. -/
def valueKnownUptoRow : OpenClaim := { program := "ytgpokdaacbjimaa", sum := "f5e779d1a5b9ef552672a8099c337bab326f06c1e8ae8fb8e5ed2c8f67e5d3bc", func := "suture/suturelaw12.ValueKnown", spec := "valueKnown", apart := false, narrowed := true }
def ValueKnownUptoSaid : Prop := valueKnownUptoRow.holds Try.pinned (OpenSpec.upto valueKnownSpec)

/-- 'suturelaw12.ValueTells', WHERE WHAT IT READS IS OF BULK AT MOST 1048576: true; the input reads as it did. -/
def valueTellsUptoRow : OpenClaim := { program := "ytgpokdaacbjimaa", sum := "f5e779d1a5b9ef552672a8099c337bab326f06c1e8ae8fb8e5ed2c8f67e5d3bc", func := "suture/suturelaw12.ValueTells", spec := "valueTells", apart := false, narrowed := true }
def ValueTellsUptoSaid : Prop := valueTellsUptoRow.holds Try.pinned (OpenSpec.upto valueTellsSpec)

/-- 'suturelaw12.ValueRings', WHERE WHAT IT READS IS OF BULK AT MOST 1048576: true; the input reads as it did. -/
def valueRingsUptoRow : OpenClaim := { program := "ytgpokdaacbjimaa", sum := "f5e779d1a5b9ef552672a8099c337bab326f06c1e8ae8fb8e5ed2c8f67e5d3bc", func := "suture/suturelaw12.ValueRings", spec := "valueRings", apart := false, narrowed := true }
def ValueRingsUptoSaid : Prop := valueRingsUptoRow.holds Try.pinned (OpenSpec.upto valueRingsSpec)

/-- 'suturelaw12.ValueSides', WHERE WHAT IT READS IS OF BULK AT MOST 1048576: true; the input reads as it did. -/
def valueSidesUptoRow : OpenClaim := { program := "ytgpokdaacbjimaa", sum := "f5e779d1a5b9ef552672a8099c337bab326f06c1e8ae8fb8e5ed2c8f67e5d3bc", func := "suture/suturelaw12.ValueSides", spec := "valueSides", apart := false, narrowed := true }
def ValueSidesUptoSaid : Prop := valueSidesUptoRow.holds Try.pinned (OpenSpec.upto valueSidesSpec)

end Rows
end Go.Proofs.Ytgpokdaacbjimaa
