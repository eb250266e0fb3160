/-
  No cell of these rows narrows 'for every input' (looked for: loops, veiled, ifaces, maps, wideKeys, modest, calm, conditions, laid).
  DERIVED. THE GIVEN ROWS OF THIS SEAT. 4 by the template 'for every input the law returns true; each argument reads behind the call as it read before'; 0 by the template 'total and deterministic' (their statements: YtgpokdaacbjimacTotals.lean).
  GIVEN WITH THE SEED: the statements are not yours to turn. If you find one false, say at which input.
  Laid BY PROGRAM, IN A SANDBOX (cutbox-rows.mjs): the forced cells as the released guide's own fill.sh prints them over the translation 66e7f4ecf27291d1… (all of the seat's roots in one cut). By AI agents, Wed Nov 11 2026. No macro, syntax, notation, axiom, sorry.
-/
import Derived.Test.YtgpokdaacbjimacChecked
import GoSem.Claim
import GoSem.ClaimJoined
import GoSem.ClaimMapViews
import Derived.JoinedTies
import Derived.KernelRfl
namespace Go.Proofs.Ytgpokdaacbjimac
/- THE CELL 'sum', in the pinned program and in every row, IS THE sha256 OF THE DUMP (.gsa) THAT YtgpokdaacbjimacProg.lean LOADS. Nothing in Lean hashes anything: it is a label: what it is worth is what the hold of that sum in a sandbox is worth. -/
noncomputable def Try.pinned : Pinned := { name := "ytgpokdaacbjimac", sum := "66e7f4ecf27291d123e23788ff5fe8e0ef04511b6360723728fbfe0c5884c348", checked := Try.checked }
namespace Rows
def none {H : Type} : Left H := { results := [], args := [] }

/-- 'suturelaw28.JudgeKnown': WHATEVER THE INPUT: true; the input reads as it did. -/
def judgeKnownSpec : ChangeSpec := { name := "judgeKnown", fn := fun _ => fun
  | [] => { results := [.lit (.bool true)], args := [] }
  | _ => none }
def judgeKnownRow : OpenClaim := { program := "ytgpokdaacbjimac", sum := "66e7f4ecf27291d123e23788ff5fe8e0ef04511b6360723728fbfe0c5884c348", func := "suture/suturelaw28.JudgeKnown", spec := "judgeKnown", unfollowed := true, recurses := true, apart := false }
def JudgeKnownSaid : Prop := judgeKnownRow.holds Try.pinned (OpenSpec.ofChange judgeKnownSpec)

/-- ITS FALSE NEIGHBOUR: 'it returns false'. Refute it at one input. -/
def judgeKnownWrong : ChangeSpec := { name := "judgeKnown", fn := fun _ => fun
  | [] => { results := [.lit (.bool false)], args := [] }
  | _ => none }
def JudgeKnownWrongFalsely : Prop := judgeKnownRow.holds Try.pinned (OpenSpec.ofChange judgeKnownWrong)

/-- 'suturelaw28.JudgeTells': WHATEVER THE INPUT: true; the input reads as it did. -/
def judgeTellsSpec : ChangeSpec := { name := "judgeTells", fn := fun _ => fun
  | [d1, d2, d3, d4, d5, d6] => { results := [.lit (.bool true)], args := [d1, d2, d3, d4, d5, d6] }
  | _ => none }
def judgeTellsRow : OpenClaim := { program := "ytgpokdaacbjimac", sum := "66e7f4ecf27291d123e23788ff5fe8e0ef04511b6360723728fbfe0c5884c348", func := "suture/suturelaw28.JudgeTells", spec := "judgeTells", unfollowed := true, recurses := true, apart := false }
def JudgeTellsSaid : Prop := judgeTellsRow.holds Try.pinned (OpenSpec.ofChange judgeTellsSpec)

/-- ITS FALSE NEIGHBOUR: 'it returns false'. Refute it at one input. -/
def judgeTellsWrong : ChangeSpec := { name := "judgeTells", fn := fun _ => fun
  | [d1, d2, d3, d4, d5, d6] => { results := [.lit (.bool false)], args := [d1, d2, d3, d4, d5, d6] }
  | _ => none }
def JudgeTellsWrongFalsely : Prop := judgeTellsRow.holds Try.pinned (OpenSpec.ofChange judgeTellsWrong)

/-- 'suturelaw28.JudgeSteps': WHATEVER THE INPUT: true; the input reads as it did. -/
def judgeStepsSpec : ChangeSpec := { name := "judgeSteps", fn := fun _ => fun
  | [d1, d2, d3, d4, d5, d6, d7, d8] => { results := [.lit (.bool true)], args := [d1, d2, d3, d4, d5, d6, d7, d8] }
  | _ => none }
def judgeStepsRow : OpenClaim := { program := "ytgpokdaacbjimac", sum := "66e7f4ecf27291d123e23788ff5fe8e0ef04511b6360723728fbfe0c5884c348", func := "suture/suturelaw28.JudgeSteps", spec := "judgeSteps", unfollowed := true, recurses := true, apart := false }
def JudgeStepsSaid : Prop := judgeStepsRow.holds Try.pinned (OpenSpec.ofChange judgeStepsSpec)

/-- ITS FALSE NEIGHBOUR: 'it returns false'. Refute it at one input. -/
def judgeStepsWrong : ChangeSpec := { name := "judgeSteps", fn := fun _ => fun
  | [d1, d2, d3, d4, d5, d6, d7, d8] => { results := [.lit (.bool false)], args := [d1, d2, d3, d4, d5, d6, d7, d8] }
  | _ => none }
def JudgeStepsWrongFalsely : Prop := judgeStepsRow.holds Try.pinned (OpenSpec.ofChange judgeStepsWrong)

/-- 'suturelaw28.JudgeOrder': WHATEVER THE INPUT: true; the input reads as it did. -/
def judgeOrderSpec : ChangeSpec := { name := "judgeOrder", fn := fun _ => fun
  | [d1, d2, d3, d4, d5, d6, d7] => { results := [.lit (.bool true)], args := [d1, d2, d3, d4, d5, d6, d7] }
  | _ => none }
def judgeOrderRow : OpenClaim := { program := "ytgpokdaacbjimac", sum := "66e7f4ecf27291d123e23788ff5fe8e0ef04511b6360723728fbfe0c5884c348", func := "suture/suturelaw28.JudgeOrder", spec := "judgeOrder", unfollowed := true, recurses := true, apart := false }
def JudgeOrderSaid : Prop := judgeOrderRow.holds Try.pinned (OpenSpec.ofChange judgeOrderSpec)

/-- ITS FALSE NEIGHBOUR: 'it returns false'. Refute it at one input. -/
def judgeOrderWrong : ChangeSpec := { name := "judgeOrder", fn := fun _ => fun
  | [d1, d2, d3, d4, d5, d6, d7] => { results := [.lit (.bool false)], args := [d1, d2, d3, d4, d5, d6, d7] }
  | _ => none }
def JudgeOrderWrongFalsely : Prop := judgeOrderRow.holds Try.pinned (OpenSpec.ofChange judgeOrderWrong)

/- THE SECOND FORM. 'bulk': how many values and letters a reading holds, each counted each time it is reached (what is shared counts as often as it is met; a slice's spare places count too). A statement '..UptoSaid' is the law's where the arguments, and the package variables that the reading takes, are together of bulk at most 1048576: NARROWER than '..Said'. Prove '..Said' where nothing that the law and all that it calls make is longer than what came in: it says more and counts as full. Else prove '..UptoSaid'. A law counts once. -/
mutual
def uptoBulk {H : Type} : DataW H → Nat
  | .lit (.string bytes) => bytes.length + 1
  | .lit _ => 1
  | .nil => 1
  | .ptr d => uptoBulk d + 1
  | .slice elems spare => uptoBulkAll elems + uptoBulkAll spare + 1
  | .agg parts => uptoBulkAll parts + 1
  | .iface _ d => uptoBulk d + 1
  | .map entries => uptoBulkEntries entries + 1
  | .held _ => 1
def uptoBulkAll {H : Type} : List (DataW H) → Nat
  | [] => 0
  | d :: r => uptoBulk d + uptoBulkAll r
def uptoBulkEntries {H : Type} : List (Lit × DataW H) → Nat
  | [] => 0
  | x :: r => uptoBulkEntry x + uptoBulkEntries r
def uptoBulkEntry {H : Type} : Lit × DataW H → Nat
  | (.string bytes, d) => bytes.length + uptoBulk d + 1
  | (_, d) => uptoBulk d + 1
 end
def uptoSmall : (H : Type) → List (DataW H) → Bool := fun _ ds => decide (uptoBulkAll ds ≤ 1048576)
def OpenSpec.upto (s : _root_.Go.ChangeSpec) : _root_.Go.OpenSpec := { _root_.Go.OpenSpec.ofChange s with cond := some uptoSmall }

/-- 'suturelaw28.JudgeKnown', WHERE WHAT IT READS IS OF BULK AT MOST 1048576: true; the input reads as it did. -/
def judgeKnownUptoRow : OpenClaim := { program := "ytgpokdaacbjimac", sum := "66e7f4ecf27291d123e23788ff5fe8e0ef04511b6360723728fbfe0c5884c348", func := "suture/suturelaw28.JudgeKnown", spec := "judgeKnown", unfollowed := true, recurses := true, apart := false, narrowed := true }
def JudgeKnownUptoSaid : Prop := judgeKnownUptoRow.holds Try.pinned (OpenSpec.upto judgeKnownSpec)

/-- 'suturelaw28.JudgeTells', WHERE WHAT IT READS IS OF BULK AT MOST 1048576: true; the input reads as it did. -/
def judgeTellsUptoRow : OpenClaim := { program := "ytgpokdaacbjimac", sum := "66e7f4ecf27291d123e23788ff5fe8e0ef04511b6360723728fbfe0c5884c348", func := "suture/suturelaw28.JudgeTells", spec := "judgeTells", unfollowed := true, recurses := true, apart := false, narrowed := true }
def JudgeTellsUptoSaid : Prop := judgeTellsUptoRow.holds Try.pinned (OpenSpec.upto judgeTellsSpec)

/-- 'suturelaw28.JudgeSteps', WHERE WHAT IT READS IS OF BULK AT MOST 1048576: true; the input reads as it did. -/
def judgeStepsUptoRow : OpenClaim := { program := "ytgpokdaacbjimac", sum := "66e7f4ecf27291d123e23788ff5fe8e0ef04511b6360723728fbfe0c5884c348", func := "suture/suturelaw28.JudgeSteps", spec := "judgeSteps", unfollowed := true, recurses := true, apart := false, narrowed := true }
def JudgeStepsUptoSaid : Prop := judgeStepsUptoRow.holds Try.pinned (OpenSpec.upto judgeStepsSpec)

/-- 'suturelaw28.JudgeOrder', WHERE WHAT IT READS IS OF BULK AT MOST 1048576: true; the input reads as it did. -/
def judgeOrderUptoRow : OpenClaim := { program := "ytgpokdaacbjimac", sum := "66e7f4ecf27291d123e23788ff5fe8e0ef04511b6360723728fbfe0c5884c348", func := "suture/suturelaw28.JudgeOrder", spec := "judgeOrder", unfollowed := true, recurses := true, apart := false, narrowed := true }
def JudgeOrderUptoSaid : Prop := judgeOrderUptoRow.holds Try.pinned (OpenSpec.upto judgeOrderSpec)

end Rows
end Go.Proofs.Ytgpokdaacbjimac
