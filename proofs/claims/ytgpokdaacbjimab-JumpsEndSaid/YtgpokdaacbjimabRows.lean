/-
  No cell of these rows narrows 'for every input' (looked for: loops, veiled, ifaces, maps, wideKeys, modest, calm, conditions, laid).
  DERIVED. THE GIVEN ROWS OF THIS SEAT. 4 by the template 'for every input the law returns true; each argument reads behind the call as it read before'; 0 by the template 'total and deterministic' (their statements: YtgpokdaacbjimabTotals.lean).
  GIVEN WITH THE SEED: the statements are not yours to turn. If you find one false, say at which input.
  Laid BY PROGRAM, IN A SANDBOX (cutbox-rows.mjs): the forced cells as the released guide's own fill.sh prints them over the translation 20a8dd6bad64e17d… (all of the seat's roots in one cut). By AI agents, Wed Nov 11 2026. No macro, syntax, notation, axiom, sorry.
-/
import Derived.Test.YtgpokdaacbjimabChecked
import GoSem.Claim
import GoSem.ClaimJoined
import GoSem.ClaimMapViews
import Derived.JoinedTies
import Derived.KernelRfl
namespace Go.Proofs.Ytgpokdaacbjimab
/- THE CELL 'sum', in the pinned program and in every row, IS THE sha256 OF THE DUMP (.gsa) THAT YtgpokdaacbjimabProg.lean LOADS. Nothing in Lean hashes anything: it is a label: what it is worth is what the hold of that sum in a sandbox is worth. -/
noncomputable def Try.pinned : Pinned := { name := "ytgpokdaacbjimab", sum := "20a8dd6bad64e17d673d39017dc12fdddd5fb68d23e186d3e94ef91d0f5b69b1", checked := Try.checked }
namespace Rows
def none {H : Type} : Left H := { results := [], args := [] }

/-- 'suturelaw9.JumpsKnown': WHATEVER THE INPUT: true; the input reads as it did. -/
def jumpsKnownSpec : ChangeSpec := { name := "jumpsKnown", fn := fun _ => fun
  | [] => { results := [.lit (.bool true)], args := [] }
  | _ => none }
def jumpsKnownRow : OpenClaim := { program := "ytgpokdaacbjimab", sum := "20a8dd6bad64e17d673d39017dc12fdddd5fb68d23e186d3e94ef91d0f5b69b1", func := "suture/suturelaw9.JumpsKnown", spec := "jumpsKnown", unfollowed := true, recurses := true, apart := false }
def JumpsKnownSaid : Prop := jumpsKnownRow.holds Try.pinned (OpenSpec.ofChange jumpsKnownSpec)

/-- ITS FALSE NEIGHBOUR: 'it returns false'. Refute it at one input. -/
def jumpsKnownWrong : ChangeSpec := { name := "jumpsKnown", fn := fun _ => fun
  | [] => { results := [.lit (.bool false)], args := [] }
  | _ => none }
def JumpsKnownWrongFalsely : Prop := jumpsKnownRow.holds Try.pinned (OpenSpec.ofChange jumpsKnownWrong)

/-- 'suturelaw9.JumpsTells': WHATEVER THE INPUT: true; the input reads as it did. -/
def jumpsTellsSpec : ChangeSpec := { name := "jumpsTells", fn := fun _ => fun
  | [d1, d2, d3, d4, d5] => { results := [.lit (.bool true)], args := [d1, d2, d3, d4, d5] }
  | _ => none }
def jumpsTellsRow : OpenClaim := { program := "ytgpokdaacbjimab", sum := "20a8dd6bad64e17d673d39017dc12fdddd5fb68d23e186d3e94ef91d0f5b69b1", func := "suture/suturelaw9.JumpsTells", spec := "jumpsTells", unfollowed := true, recurses := true, apart := false }
def JumpsTellsSaid : Prop := jumpsTellsRow.holds Try.pinned (OpenSpec.ofChange jumpsTellsSpec)

/-- ITS FALSE NEIGHBOUR: 'it returns false'. Refute it at one input. -/
def jumpsTellsWrong : ChangeSpec := { name := "jumpsTells", fn := fun _ => fun
  | [d1, d2, d3, d4, d5] => { results := [.lit (.bool false)], args := [d1, d2, d3, d4, d5] }
  | _ => none }
def JumpsTellsWrongFalsely : Prop := jumpsTellsRow.holds Try.pinned (OpenSpec.ofChange jumpsTellsWrong)

/-- 'suturelaw9.JumpsOut': WHATEVER THE INPUT: true; the input reads as it did. -/
def jumpsOutSpec : ChangeSpec := { name := "jumpsOut", fn := fun _ => fun
  | [d] => { results := [.lit (.bool true)], args := [d] }
  | _ => none }
def jumpsOutRow : OpenClaim := { program := "ytgpokdaacbjimab", sum := "20a8dd6bad64e17d673d39017dc12fdddd5fb68d23e186d3e94ef91d0f5b69b1", func := "suture/suturelaw9.JumpsOut", spec := "jumpsOut", unfollowed := true, recurses := true, apart := false }
def JumpsOutSaid : Prop := jumpsOutRow.holds Try.pinned (OpenSpec.ofChange jumpsOutSpec)

/-- ITS FALSE NEIGHBOUR: 'it returns false'. Refute it at one input. -/
def jumpsOutWrong : ChangeSpec := { name := "jumpsOut", fn := fun _ => fun
  | [d] => { results := [.lit (.bool false)], args := [d] }
  | _ => none }
def JumpsOutWrongFalsely : Prop := jumpsOutRow.holds Try.pinned (OpenSpec.ofChange jumpsOutWrong)

/-- 'suturelaw9.JumpsEnd': WHATEVER THE INPUT: true; the input reads as it did. -/
def jumpsEndSpec : ChangeSpec := { name := "jumpsEnd", fn := fun _ => fun
  | [d] => { results := [.lit (.bool true)], args := [d] }
  | _ => none }
def jumpsEndRow : OpenClaim := { program := "ytgpokdaacbjimab", sum := "20a8dd6bad64e17d673d39017dc12fdddd5fb68d23e186d3e94ef91d0f5b69b1", func := "suture/suturelaw9.JumpsEnd", spec := "jumpsEnd", unfollowed := true, recurses := true, apart := false }
def JumpsEndSaid : Prop := jumpsEndRow.holds Try.pinned (OpenSpec.ofChange jumpsEndSpec)

/-- ITS FALSE NEIGHBOUR: 'it returns false'. Refute it at one input. -/
def jumpsEndWrong : ChangeSpec := { name := "jumpsEnd", fn := fun _ => fun
  | [d] => { results := [.lit (.bool false)], args := [d] }
  | _ => none }
def JumpsEndWrongFalsely : Prop := jumpsEndRow.holds Try.pinned (OpenSpec.ofChange jumpsEndWrong)

/- THE SECOND FORM. 'bulk': how many values and letters a reading holds, each counted each time it is reached (what is shared counts as often as it is met; a slice's spare places count too). A statement '..UptoSaid' is the law's where the arguments, and the package variables that the reading takes, are together of bulk at most 1048576: NARROWER than '..Said'. Prove '..Said' where nothing that the law and all that it calls make is longer than what came in: it says more and counts as full. Else prove '..UptoSaid'. A law counts once. -/
mutual
def uptoBulk {H : Type} : DataW H → Nat
  | .lit (.string bytes) => bytes.length + 1
  | .lit _ => 1
  | .nil => 1
  | .ptr d => uptoBulk d + 1
  | .slice elems spare => uptoBulkAll elems + uptoBulkAll spare + 1
  | .agg parts => uptoBulkAll parts + 1
  | .iface _ d => uptoBulk d + 1
  | .map entries => uptoBulkEntries entries + 1
  | .held _ => 1
def uptoBulkAll {H : Type} : List (DataW H) → Nat
  | [] => 0
  | d :: r => uptoBulk d + uptoBulkAll r
def uptoBulkEntries {H : Type} : List (Lit × DataW H) → Nat
  | [] => 0
  | x :: r => uptoBulkEntry x + uptoBulkEntries r
def uptoBulkEntry {H : Type} : Lit × DataW H → Nat
  | (.string bytes, d) => bytes.length + uptoBulk d + 1
  | (_, d) => uptoBulk d + 1
 end
def uptoSmall : (H : Type) → List (DataW H) → Bool := fun _ ds => decide (uptoBulkAll ds ≤ 1048576)
def OpenSpec.upto (s : _root_.Go.ChangeSpec) : _root_.Go.OpenSpec := { _root_.Go.OpenSpec.ofChange s with cond := some uptoSmall }

/-- 'suturelaw9.JumpsKnown', WHERE WHAT IT READS IS OF BULK AT MOST 1048576: true; the input reads as it did. -/
def jumpsKnownUptoRow : OpenClaim := { program := "ytgpokdaacbjimab", sum := "20a8dd6bad64e17d673d39017dc12fdddd5fb68d23e186d3e94ef91d0f5b69b1", func := "suture/suturelaw9.JumpsKnown", spec := "jumpsKnown", unfollowed := true, recurses := true, apart := false, narrowed := true }
def JumpsKnownUptoSaid : Prop := jumpsKnownUptoRow.holds Try.pinned (OpenSpec.upto jumpsKnownSpec)

/-- 'suturelaw9.JumpsTells', WHERE WHAT IT READS IS OF BULK AT MOST 1048576: true; the input reads as it did. -/
def jumpsTellsUptoRow : OpenClaim := { program := "ytgpokdaacbjimab", sum := "20a8dd6bad64e17d673d39017dc12fdddd5fb68d23e186d3e94ef91d0f5b69b1", func := "suture/suturelaw9.JumpsTells", spec := "jumpsTells", unfollowed := true, recurses := true, apart := false, narrowed := true }
def JumpsTellsUptoSaid : Prop := jumpsTellsUptoRow.holds Try.pinned (OpenSpec.upto jumpsTellsSpec)

/-- 'suturelaw9.JumpsOut', WHERE WHAT IT READS IS OF BULK AT MOST 1048576: true; the input reads as it did. -/
def jumpsOutUptoRow : OpenClaim := { program := "ytgpokdaacbjimab", sum := "20a8dd6bad64e17d673d39017dc12fdddd5fb68d23e186d3e94ef91d0f5b69b1", func := "suture/suturelaw9.JumpsOut", spec := "jumpsOut", unfollowed := true, recurses := true, apart := false, narrowed := true }
def JumpsOutUptoSaid : Prop := jumpsOutUptoRow.holds Try.pinned (OpenSpec.upto jumpsOutSpec)

/-- 'suturelaw9.JumpsEnd', WHERE WHAT IT READS IS OF BULK AT MOST 1048576: true; the input reads as it did. -/
def jumpsEndUptoRow : OpenClaim := { program := "ytgpokdaacbjimab", sum := "20a8dd6bad64e17d673d39017dc12fdddd5fb68d23e186d3e94ef91d0f5b69b1", func := "suture/suturelaw9.JumpsEnd", spec := "jumpsEnd", unfollowed := true, recurses := true, apart := false, narrowed := true }
def JumpsEndUptoSaid : Prop := jumpsEndUptoRow.holds Try.pinned (OpenSpec.upto jumpsEndSpec)

end Rows
end Go.Proofs.Ytgpokdaacbjimab
