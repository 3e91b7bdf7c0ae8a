/-
  No cell of these rows narrows 'for every input' (looked for: loops, veiled, ifaces, maps, wideKeys, modest, calm, conditions, laid).
  DERIVED. THE GIVEN ROWS OF THIS SEAT. 3 by the template 'for every input the law returns true; each argument reads behind the call as it read before'; 0 by the template 'total and deterministic' (their statements: YthnhjgeneeflaaaTotals.lean).
  GIVEN WITH THE SEED: the statements are not yours to turn. If you find one false, say at which input.
  Laid BY PROGRAM, IN A SANDBOX (cutbox-rows.mjs): the forced cells as the released guide's own fill.sh prints them over the translation 8b52caf72babcb2f… (all of the seat's roots in one cut). By AI agents, Wed Nov 11 2026. No macro, syntax, notation, axiom, sorry.
-/
import Derived.Test.YthnhjgeneeflaaaChecked
import GoSem.Claim
import GoSem.ClaimJoined
import GoSem.ClaimMapViews
import Derived.JoinedTies
import Derived.KernelRfl
namespace Go.Proofs.Ythnhjgeneeflaaa
/- THE CELL 'sum', in the pinned program and in every row, IS THE sha256 OF THE DUMP (.gsa) THAT YthnhjgeneeflaaaProg.lean LOADS. Nothing in Lean hashes anything: it is a label: what it is worth is what the hold of that sum in a sandbox is worth. -/
noncomputable def Try.pinned : Pinned := { name := "ythnhjgeneeflaaa", sum := "8b52caf72babcb2f0555e98fbcbf1cf31a8c52195d90a3aa001364a8f29a86a9", checked := Try.checked }
namespace Rows
def none {H : Type} : Left H := { results := [], args := [] }

/-- 'undergrowthlaw17.ViableTells': WHATEVER THE INPUT: true; the input reads as it did. -/
def viableTellsSpec : ChangeSpec := { name := "viableTells", fn := fun _ => fun
  | [d1, d2] => { results := [.lit (.bool true)], args := [d1, d2] }
  | _ => none }
def viableTellsRow : OpenClaim := { program := "ythnhjgeneeflaaa", sum := "8b52caf72babcb2f0555e98fbcbf1cf31a8c52195d90a3aa001364a8f29a86a9", func := "undergrowth/undergrowthlaw17.ViableTells", spec := "viableTells", unfollowed := true, recurses := true, plainKeys := false, apart := false }
def ViableTellsSaid : Prop := viableTellsRow.holds Try.pinned (OpenSpec.ofChange viableTellsSpec)

/-- ITS FALSE NEIGHBOUR: 'it returns false'. Refute it at one input. -/
def viableTellsWrong : ChangeSpec := { name := "viableTells", fn := fun _ => fun
  | [d1, d2] => { results := [.lit (.bool false)], args := [d1, d2] }
  | _ => none }
def ViableTellsWrongFalsely : Prop := viableTellsRow.holds Try.pinned (OpenSpec.ofChange viableTellsWrong)

/-- 'undergrowthlaw17.ViableSteps': WHATEVER THE INPUT: true; the input reads as it did. -/
def viableStepsSpec : ChangeSpec := { name := "viableSteps", fn := fun _ => fun
  | [d1, d2] => { results := [.lit (.bool true)], args := [d1, d2] }
  | _ => none }
def viableStepsRow : OpenClaim := { program := "ythnhjgeneeflaaa", sum := "8b52caf72babcb2f0555e98fbcbf1cf31a8c52195d90a3aa001364a8f29a86a9", func := "undergrowth/undergrowthlaw17.ViableSteps", spec := "viableSteps", unfollowed := true, recurses := true, plainKeys := false, apart := false }
def ViableStepsSaid : Prop := viableStepsRow.holds Try.pinned (OpenSpec.ofChange viableStepsSpec)

/-- ITS FALSE NEIGHBOUR: 'it returns false'. Refute it at one input. -/
def viableStepsWrong : ChangeSpec := { name := "viableSteps", fn := fun _ => fun
  | [d1, d2] => { results := [.lit (.bool false)], args := [d1, d2] }
  | _ => none }
def ViableStepsWrongFalsely : Prop := viableStepsRow.holds Try.pinned (OpenSpec.ofChange viableStepsWrong)

/-- 'undergrowthlaw17.ViableEnds': WHATEVER THE INPUT: true; the input reads as it did. -/
def viableEndsSpec : ChangeSpec := { name := "viableEnds", fn := fun _ => fun
  | [d1, d2] => { results := [.lit (.bool true)], args := [d1, d2] }
  | _ => none }
def viableEndsRow : OpenClaim := { program := "ythnhjgeneeflaaa", sum := "8b52caf72babcb2f0555e98fbcbf1cf31a8c52195d90a3aa001364a8f29a86a9", func := "undergrowth/undergrowthlaw17.ViableEnds", spec := "viableEnds", unfollowed := true, recurses := true, plainKeys := false, apart := false }
def ViableEndsSaid : Prop := viableEndsRow.holds Try.pinned (OpenSpec.ofChange viableEndsSpec)

/-- ITS FALSE NEIGHBOUR: 'it returns false'. Refute it at one input. -/
def viableEndsWrong : ChangeSpec := { name := "viableEnds", fn := fun _ => fun
  | [d1, d2] => { results := [.lit (.bool false)], args := [d1, d2] }
  | _ => none }
def ViableEndsWrongFalsely : Prop := viableEndsRow.holds Try.pinned (OpenSpec.ofChange viableEndsWrong)

/- THE SECOND FORM. 'bulk': how many values and letters a reading holds, each counted each time it is reached (what is shared counts as often as it is met; a slice's spare places count too). A statement '..UptoSaid' is the law's where the arguments, and the package variables that the reading takes, are together of bulk at most 1048576: NARROWER than '..Said'. Prove '..Said' where nothing that the law and all that it calls make is longer than what came in: it says more and counts as full. Else prove '..UptoSaid'. A law counts once. -/
mutual
def uptoBulk {H : Type} : DataW H → Nat
  | .lit (.string bytes) => bytes.length + 1
  | .lit _ => 1
  | .nil => 1
  | .ptr d => uptoBulk d + 1
  | .slice elems spare => uptoBulkAll elems + uptoBulkAll spare + 1
  | .agg parts => uptoBulkAll parts + 1
  | .iface _ d => uptoBulk d + 1
  | .map entries => uptoBulkEntries entries + 1
  | .held _ => 1
def uptoBulkAll {H : Type} : List (DataW H) → Nat
  | [] => 0
  | d :: r => uptoBulk d + uptoBulkAll r
def uptoBulkEntries {H : Type} : List (Lit × DataW H) → Nat
  | [] => 0
  | x :: r => uptoBulkEntry x + uptoBulkEntries r
def uptoBulkEntry {H : Type} : Lit × DataW H → Nat
  | (.string bytes, d) => bytes.length + uptoBulk d + 1
  | (_, d) => uptoBulk d + 1
 end
def uptoSmall : (H : Type) → List (DataW H) → Bool := fun _ ds => decide (uptoBulkAll ds ≤ 1048576)
def OpenSpec.upto (s : _root_.Go.ChangeSpec) : _root_.Go.OpenSpec := { _root_.Go.OpenSpec.ofChange s with cond := some uptoSmall }

/-- 'undergrowthlaw17.ViableTells', WHERE WHAT IT READS IS OF BULK AT MOST 1048576: true; the input reads as it did. -/
def viableTellsUptoRow : OpenClaim := { program := "ythnhjgeneeflaaa", sum := "8b52caf72babcb2f0555e98fbcbf1cf31a8c52195d90a3aa001364a8f29a86a9", func := "undergrowth/undergrowthlaw17.ViableTells", spec := "viableTells", unfollowed := true, recurses := true, plainKeys := false, apart := false, narrowed := true }
def ViableTellsUptoSaid : Prop := viableTellsUptoRow.holds Try.pinned (OpenSpec.upto viableTellsSpec)

/-- 'undergrowthlaw17.ViableSteps', WHERE WHAT IT READS IS OF BULK AT MOST 1048576: true; the input reads as it did. -/
def viableStepsUptoRow : OpenClaim := { program := "ythnhjgeneeflaaa", sum := "8b52caf72babcb2f0555e98fbcbf1cf31a8c52195d90a3aa001364a8f29a86a9", func := "undergrowth/undergrowthlaw17.ViableSteps", spec := "viableSteps", unfollowed := true, recurses := true, plainKeys := false, apart := false, narrowed := true }
def ViableStepsUptoSaid : Prop := viableStepsUptoRow.holds Try.pinned (OpenSpec.upto viableStepsSpec)

/-- 'undergrowthlaw17.ViableEnds', WHERE WHAT IT READS IS OF BULK AT MOST 1048576: true; the input reads as it did. -/
def viableEndsUptoRow : OpenClaim := { program := "ythnhjgeneeflaaa", sum := "8b52caf72babcb2f0555e98fbcbf1cf31a8c52195d90a3aa001364a8f29a86a9", func := "undergrowth/undergrowthlaw17.ViableEnds", spec := "viableEnds", unfollowed := true, recurses := true, plainKeys := false, apart := false, narrowed := true }
def ViableEndsUptoSaid : Prop := viableEndsUptoRow.holds Try.pinned (OpenSpec.upto viableEndsSpec)

end Rows
end Go.Proofs.Ythnhjgeneeflaaa
