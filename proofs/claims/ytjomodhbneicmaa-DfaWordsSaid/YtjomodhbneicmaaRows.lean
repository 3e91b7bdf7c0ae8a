/-
  NARROWER THAN 'FOR EVERY INPUT', by the rows' own cells (each row's printed sentence says how): PositOf: loops.
  DERIVED. THE GIVEN ROWS OF THIS SEAT. 10 by the template 'for every input the law returns true; each argument reads behind the call as it read before'; 0 by the template 'total and deterministic' (their statements: YtjomodhbneicmaaTotals.lean).
  GIVEN WITH THE SEED: the statements are not yours to turn. If you find one false, say at which input.
  Laid BY PROGRAM, IN A SANDBOX (cutbox-rows.mjs): the forced cells as the released guide's own fill.sh prints them over the translation 72ed7f784bff25f5… (all of the seat's roots in one cut). By AI agents, Wed Nov 11 2026. No macro, syntax, notation, axiom, sorry.
-/
import Derived.Test.YtjomodhbneicmaaChecked
import GoSem.Claim
import GoSem.ClaimJoined
import GoSem.ClaimMapViews
import Derived.JoinedTies
import Derived.KernelRfl
namespace Go.Proofs.Ytjomodhbneicmaa
/- THE CELL 'sum', in the pinned program and in every row, IS THE sha256 OF THE DUMP (.gsa) THAT YtjomodhbneicmaaProg.lean LOADS. Nothing in Lean hashes anything: it is a label: what it is worth is what the hold of that sum in a sandbox is worth. -/
noncomputable def Try.pinned : Pinned := { name := "ytjomodhbneicmaa", sum := "72ed7f784bff25f5cb2c0c350953d7be5182dcfc463725ecf253a7479edfa95a", checked := Try.checked }
namespace Rows
def none {H : Type} : Left H := { results := [], args := [] }

/-- 'undergrowthlaw5.DfaOf': WHATEVER THE INPUT: true; the input reads as it did. -/
def dfaOfSpec : ChangeSpec := { name := "dfaOf", fn := fun _ => fun
  | [d] => { results := [.lit (.bool true)], args := [d] }
  | _ => none }
def dfaOfRow : OpenClaim := { program := "ytjomodhbneicmaa", sum := "72ed7f784bff25f5cb2c0c350953d7be5182dcfc463725ecf253a7479edfa95a", func := "undergrowth/undergrowthlaw5.DfaOf", spec := "dfaOf", unfollowed := true, recurses := true, apart := false }
def DfaOfSaid : Prop := dfaOfRow.holds Try.pinned (OpenSpec.ofChange dfaOfSpec)

/-- ITS FALSE NEIGHBOUR: 'it returns false'. Refute it at one input. -/
def dfaOfWrong : ChangeSpec := { name := "dfaOf", fn := fun _ => fun
  | [d] => { results := [.lit (.bool false)], args := [d] }
  | _ => none }
def DfaOfWrongFalsely : Prop := dfaOfRow.holds Try.pinned (OpenSpec.ofChange dfaOfWrong)

/-- 'undergrowthlaw5.DfaRuns': WHATEVER THE INPUT: true; the input reads as it did. -/
def dfaRunsSpec : ChangeSpec := { name := "dfaRuns", fn := fun _ => fun
  | [d1, d2] => { results := [.lit (.bool true)], args := [d1, d2] }
  | _ => none }
def dfaRunsRow : OpenClaim := { program := "ytjomodhbneicmaa", sum := "72ed7f784bff25f5cb2c0c350953d7be5182dcfc463725ecf253a7479edfa95a", func := "undergrowth/undergrowthlaw5.DfaRuns", spec := "dfaRuns", unfollowed := true, recurses := true, apart := false }
def DfaRunsSaid : Prop := dfaRunsRow.holds Try.pinned (OpenSpec.ofChange dfaRunsSpec)

/-- ITS FALSE NEIGHBOUR: 'it returns false'. Refute it at one input. -/
def dfaRunsWrong : ChangeSpec := { name := "dfaRuns", fn := fun _ => fun
  | [d1, d2] => { results := [.lit (.bool false)], args := [d1, d2] }
  | _ => none }
def DfaRunsWrongFalsely : Prop := dfaRunsRow.holds Try.pinned (OpenSpec.ofChange dfaRunsWrong)

/-- 'undergrowthlaw5.DfaRun': WHATEVER THE INPUT: true; the input reads as it did. -/
def dfaRunSpec : ChangeSpec := { name := "dfaRun", fn := fun _ => fun
  | [d1, d2] => { results := [.lit (.bool true)], args := [d1, d2] }
  | _ => none }
def dfaRunRow : OpenClaim := { program := "ytjomodhbneicmaa", sum := "72ed7f784bff25f5cb2c0c350953d7be5182dcfc463725ecf253a7479edfa95a", func := "undergrowth/undergrowthlaw5.DfaRun", spec := "dfaRun", unfollowed := true, recurses := true, apart := false }
def DfaRunSaid : Prop := dfaRunRow.holds Try.pinned (OpenSpec.ofChange dfaRunSpec)

/-- ITS FALSE NEIGHBOUR: 'it returns false'. Refute it at one input. -/
def dfaRunWrong : ChangeSpec := { name := "dfaRun", fn := fun _ => fun
  | [d1, d2] => { results := [.lit (.bool false)], args := [d1, d2] }
  | _ => none }
def DfaRunWrongFalsely : Prop := dfaRunRow.holds Try.pinned (OpenSpec.ofChange dfaRunWrong)

/-- 'undergrowthlaw5.DfaLeast': WHATEVER THE INPUT: true; the input reads as it did. -/
def dfaLeastSpec : ChangeSpec := { name := "dfaLeast", fn := fun _ => fun
  | [d] => { results := [.lit (.bool true)], args := [d] }
  | _ => none }
def dfaLeastRow : OpenClaim := { program := "ytjomodhbneicmaa", sum := "72ed7f784bff25f5cb2c0c350953d7be5182dcfc463725ecf253a7479edfa95a", func := "undergrowth/undergrowthlaw5.DfaLeast", spec := "dfaLeast", unfollowed := true, recurses := true, apart := false }
def DfaLeastSaid : Prop := dfaLeastRow.holds Try.pinned (OpenSpec.ofChange dfaLeastSpec)

/-- ITS FALSE NEIGHBOUR: 'it returns false'. Refute it at one input. -/
def dfaLeastWrong : ChangeSpec := { name := "dfaLeast", fn := fun _ => fun
  | [d] => { results := [.lit (.bool false)], args := [d] }
  | _ => none }
def DfaLeastWrongFalsely : Prop := dfaLeastRow.holds Try.pinned (OpenSpec.ofChange dfaLeastWrong)

/-- 'undergrowthlaw5.DfaWords': WHATEVER THE INPUT: true; the input reads as it did. -/
def dfaWordsSpec : ChangeSpec := { name := "dfaWords", fn := fun _ => fun
  | [d1, d2] => { results := [.lit (.bool true)], args := [d1, d2] }
  | _ => none }
def dfaWordsRow : OpenClaim := { program := "ytjomodhbneicmaa", sum := "72ed7f784bff25f5cb2c0c350953d7be5182dcfc463725ecf253a7479edfa95a", func := "undergrowth/undergrowthlaw5.DfaWords", spec := "dfaWords", unfollowed := true, recurses := true, apart := false }
def DfaWordsSaid : Prop := dfaWordsRow.holds Try.pinned (OpenSpec.ofChange dfaWordsSpec)

/-- ITS FALSE NEIGHBOUR: 'it returns false'. Refute it at one input. -/
def dfaWordsWrong : ChangeSpec := { name := "dfaWords", fn := fun _ => fun
  | [d1, d2] => { results := [.lit (.bool false)], args := [d1, d2] }
  | _ => none }
def DfaWordsWrongFalsely : Prop := dfaWordsRow.holds Try.pinned (OpenSpec.ofChange dfaWordsWrong)

/-- 'undergrowthlaw4.PositOf': WHATEVER THE INPUT: true; the input reads as it did. -/
def positOfSpec : ChangeSpec := { name := "positOf", fn := fun _ => fun
  | [d] => { results := [.lit (.bool true)], args := [d] }
  | _ => none }
def positOfRow : OpenClaim := { program := "ytjomodhbneicmaa", sum := "72ed7f784bff25f5cb2c0c350953d7be5182dcfc463725ecf253a7479edfa95a", func := "undergrowth/undergrowthlaw4.PositOf", spec := "positOf", unfollowed := true, recurses := true, loops := true, apart := false }
def PositOfSaid : Prop := positOfRow.holds Try.pinned (OpenSpec.ofChange positOfSpec)

/-- ITS FALSE NEIGHBOUR: 'it returns false'. Refute it at one input. -/
def positOfWrong : ChangeSpec := { name := "positOf", fn := fun _ => fun
  | [d] => { results := [.lit (.bool false)], args := [d] }
  | _ => none }
def PositOfWrongFalsely : Prop := positOfRow.holds Try.pinned (OpenSpec.ofChange positOfWrong)

/-- 'undergrowthlaw4.PositTakes': WHATEVER THE INPUT: true; the input reads as it did. -/
def positTakesSpec : ChangeSpec := { name := "positTakes", fn := fun _ => fun
  | [d1, d2] => { results := [.lit (.bool true)], args := [d1, d2] }
  | _ => none }
def positTakesRow : OpenClaim := { program := "ytjomodhbneicmaa", sum := "72ed7f784bff25f5cb2c0c350953d7be5182dcfc463725ecf253a7479edfa95a", func := "undergrowth/undergrowthlaw4.PositTakes", spec := "positTakes", unfollowed := true, recurses := true, apart := false }
def PositTakesSaid : Prop := positTakesRow.holds Try.pinned (OpenSpec.ofChange positTakesSpec)

/-- ITS FALSE NEIGHBOUR: 'it returns false'. Refute it at one input. -/
def positTakesWrong : ChangeSpec := { name := "positTakes", fn := fun _ => fun
  | [d1, d2] => { results := [.lit (.bool false)], args := [d1, d2] }
  | _ => none }
def PositTakesWrongFalsely : Prop := positTakesRow.holds Try.pinned (OpenSpec.ofChange positTakesWrong)

/-- 'undergrowthlaw4.PositMeans': WHATEVER THE INPUT: true; the input reads as it did. -/
def positMeansSpec : ChangeSpec := { name := "positMeans", fn := fun _ => fun
  | [d1, d2] => { results := [.lit (.bool true)], args := [d1, d2] }
  | _ => none }
def positMeansRow : OpenClaim := { program := "ytjomodhbneicmaa", sum := "72ed7f784bff25f5cb2c0c350953d7be5182dcfc463725ecf253a7479edfa95a", func := "undergrowth/undergrowthlaw4.PositMeans", spec := "positMeans", unfollowed := true, recurses := true, apart := false }
def PositMeansSaid : Prop := positMeansRow.holds Try.pinned (OpenSpec.ofChange positMeansSpec)

/-- ITS FALSE NEIGHBOUR: 'it returns false'. Refute it at one input. -/
def positMeansWrong : ChangeSpec := { name := "positMeans", fn := fun _ => fun
  | [d1, d2] => { results := [.lit (.bool false)], args := [d1, d2] }
  | _ => none }
def PositMeansWrongFalsely : Prop := positMeansRow.holds Try.pinned (OpenSpec.ofChange positMeansWrong)

/-- 'undergrowthlaw4.PositRows': WHATEVER THE INPUT: true; the input reads as it did. -/
def positRowsSpec : ChangeSpec := { name := "positRows", fn := fun _ => fun
  | [d] => { results := [.lit (.bool true)], args := [d] }
  | _ => none }
def positRowsRow : OpenClaim := { program := "ytjomodhbneicmaa", sum := "72ed7f784bff25f5cb2c0c350953d7be5182dcfc463725ecf253a7479edfa95a", func := "undergrowth/undergrowthlaw4.PositRows", spec := "positRows", unfollowed := true, recurses := true, apart := false }
def PositRowsSaid : Prop := positRowsRow.holds Try.pinned (OpenSpec.ofChange positRowsSpec)

/-- ITS FALSE NEIGHBOUR: 'it returns false'. Refute it at one input. -/
def positRowsWrong : ChangeSpec := { name := "positRows", fn := fun _ => fun
  | [d] => { results := [.lit (.bool false)], args := [d] }
  | _ => none }
def PositRowsWrongFalsely : Prop := positRowsRow.holds Try.pinned (OpenSpec.ofChange positRowsWrong)

/-- 'undergrowthlaw4.PositLimits': WHATEVER THE INPUT: true; the input reads as it did. -/
def positLimitsSpec : ChangeSpec := { name := "positLimits", fn := fun _ => fun
  | [d1, d2] => { results := [.lit (.bool true)], args := [d1, d2] }
  | _ => none }
def positLimitsRow : OpenClaim := { program := "ytjomodhbneicmaa", sum := "72ed7f784bff25f5cb2c0c350953d7be5182dcfc463725ecf253a7479edfa95a", func := "undergrowth/undergrowthlaw4.PositLimits", spec := "positLimits", unfollowed := true, recurses := true, apart := false }
def PositLimitsSaid : Prop := positLimitsRow.holds Try.pinned (OpenSpec.ofChange positLimitsSpec)

/-- ITS FALSE NEIGHBOUR: 'it returns false'. Refute it at one input. -/
def positLimitsWrong : ChangeSpec := { name := "positLimits", fn := fun _ => fun
  | [d1, d2] => { results := [.lit (.bool false)], args := [d1, d2] }
  | _ => none }
def PositLimitsWrongFalsely : Prop := positLimitsRow.holds Try.pinned (OpenSpec.ofChange positLimitsWrong)

/- THE SECOND FORM. 'bulk': how many values and letters a reading holds, each counted each time it is reached (what is shared counts as often as it is met; a slice's spare places count too). A statement '..UptoSaid' is the law's where the arguments, and the package variables that the reading takes, are together of bulk at most 1048576: NARROWER than '..Said'. Prove '..Said' where nothing that the law and all that it calls make is longer than what came in: it says more and counts as full. Else prove '..UptoSaid'. A law counts once. -/
mutual
def uptoBulk {H : Type} : DataW H → Nat
  | .lit (.string bytes) => bytes.length + 1
  | .lit _ => 1
  | .nil => 1
  | .ptr d => uptoBulk d + 1
  | .slice elems spare => uptoBulkAll elems + uptoBulkAll spare + 1
  | .agg parts => uptoBulkAll parts + 1
  | .iface _ d => uptoBulk d + 1
  | .map entries => uptoBulkEntries entries + 1
  | .held _ => 1
def uptoBulkAll {H : Type} : List (DataW H) → Nat
  | [] => 0
  | d :: r => uptoBulk d + uptoBulkAll r
def uptoBulkEntries {H : Type} : List (Lit × DataW H) → Nat
  | [] => 0
  | x :: r => uptoBulkEntry x + uptoBulkEntries r
def uptoBulkEntry {H : Type} : Lit × DataW H → Nat
  | (.string bytes, d) => bytes.length + uptoBulk d + 1
  | (_, d) => uptoBulk d + 1
 end
def uptoSmall : (H : Type) → List (DataW H) → Bool := fun _ ds => decide (uptoBulkAll ds ≤ 1048576)
def OpenSpec.upto (s : _root_.Go.ChangeSpec) : _root_.Go.OpenSpec := { _root_.Go.OpenSpec.ofChange s with cond := some uptoSmall }

/-- 'undergrowthlaw5.DfaOf', WHERE WHAT IT READS IS OF BULK AT MOST 1048576: true; the input reads as it did. -/
def dfaOfUptoRow : OpenClaim := { program := "ytjomodhbneicmaa", sum := "72ed7f784bff25f5cb2c0c350953d7be5182dcfc463725ecf253a7479edfa95a", func := "undergrowth/undergrowthlaw5.DfaOf", spec := "dfaOf", unfollowed := true, recurses := true, apart := false, narrowed := true }
def DfaOfUptoSaid : Prop := dfaOfUptoRow.holds Try.pinned (OpenSpec.upto dfaOfSpec)

/-- 'undergrowthlaw5.DfaRuns', WHERE WHAT IT READS IS OF BULK AT MOST 1048576: true; the input reads as it did. -/
def dfaRunsUptoRow : OpenClaim := { program := "ytjomodhbneicmaa", sum := "72ed7f784bff25f5cb2c0c350953d7be5182dcfc463725ecf253a7479edfa95a", func := "undergrowth/undergrowthlaw5.DfaRuns", spec := "dfaRuns", unfollowed := true, recurses := true, apart := false, narrowed := true }
def DfaRunsUptoSaid : Prop := dfaRunsUptoRow.holds Try.pinned (OpenSpec.upto dfaRunsSpec)

/-- 'undergrowthlaw5.DfaRun', WHERE WHAT IT READS IS OF BULK AT MOST 1048576: true; the input reads as it did. -/
def dfaRunUptoRow : OpenClaim := { program := "ytjomodhbneicmaa", sum := "72ed7f784bff25f5cb2c0c350953d7be5182dcfc463725ecf253a7479edfa95a", func := "undergrowth/undergrowthlaw5.DfaRun", spec := "dfaRun", unfollowed := true, recurses := true, apart := false, narrowed := true }
def DfaRunUptoSaid : Prop := dfaRunUptoRow.holds Try.pinned (OpenSpec.upto dfaRunSpec)

/-- 'undergrowthlaw5.DfaLeast', WHERE WHAT IT READS IS OF BULK AT MOST 1048576: true; the input reads as it did. -/
def dfaLeastUptoRow : OpenClaim := { program := "ytjomodhbneicmaa", sum := "72ed7f784bff25f5cb2c0c350953d7be5182dcfc463725ecf253a7479edfa95a", func := "undergrowth/undergrowthlaw5.DfaLeast", spec := "dfaLeast", unfollowed := true, recurses := true, apart := false, narrowed := true }
def DfaLeastUptoSaid : Prop := dfaLeastUptoRow.holds Try.pinned (OpenSpec.upto dfaLeastSpec)

/-- 'undergrowthlaw5.DfaWords', WHERE WHAT IT READS IS OF BULK AT MOST 1048576: true; the input reads as it did. -/
def dfaWordsUptoRow : OpenClaim := { program := "ytjomodhbneicmaa", sum := "72ed7f784bff25f5cb2c0c350953d7be5182dcfc463725ecf253a7479edfa95a", func := "undergrowth/undergrowthlaw5.DfaWords", spec := "dfaWords", unfollowed := true, recurses := true, apart := false, narrowed := true }
def DfaWordsUptoSaid : Prop := dfaWordsUptoRow.holds Try.pinned (OpenSpec.upto dfaWordsSpec)

/-- 'undergrowthlaw4.PositOf', WHERE WHAT IT READS IS OF BULK AT MOST 1048576: true; the input reads as it did. -/
def positOfUptoRow : OpenClaim := { program := "ytjomodhbneicmaa", sum := "72ed7f784bff25f5cb2c0c350953d7be5182dcfc463725ecf253a7479edfa95a", func := "undergrowth/undergrowthlaw4.PositOf", spec := "positOf", unfollowed := true, recurses := true, loops := true, apart := false, narrowed := true }
def PositOfUptoSaid : Prop := positOfUptoRow.holds Try.pinned (OpenSpec.upto positOfSpec)

/-- 'undergrowthlaw4.PositTakes', WHERE WHAT IT READS IS OF BULK AT MOST 1048576: true; the input reads as it did. -/
def positTakesUptoRow : OpenClaim := { program := "ytjomodhbneicmaa", sum := "72ed7f784bff25f5cb2c0c350953d7be5182dcfc463725ecf253a7479edfa95a", func := "undergrowth/undergrowthlaw4.PositTakes", spec := "positTakes", unfollowed := true, recurses := true, apart := false, narrowed := true }
def PositTakesUptoSaid : Prop := positTakesUptoRow.holds Try.pinned (OpenSpec.upto positTakesSpec)

/-- 'undergrowthlaw4.PositMeans', WHERE WHAT IT READS IS OF BULK AT MOST 1048576: true; the input reads as it did. -/
def positMeansUptoRow : OpenClaim := { program := "ytjomodhbneicmaa", sum := "72ed7f784bff25f5cb2c0c350953d7be5182dcfc463725ecf253a7479edfa95a", func := "undergrowth/undergrowthlaw4.PositMeans", spec := "positMeans", unfollowed := true, recurses := true, apart := false, narrowed := true }
def PositMeansUptoSaid : Prop := positMeansUptoRow.holds Try.pinned (OpenSpec.upto positMeansSpec)

/-- 'undergrowthlaw4.PositRows', WHERE WHAT IT READS IS OF BULK AT MOST 1048576: true; the input reads as it did. -/
def positRowsUptoRow : OpenClaim := { program := "ytjomodhbneicmaa", sum := "72ed7f784bff25f5cb2c0c350953d7be5182dcfc463725ecf253a7479edfa95a", func := "undergrowth/undergrowthlaw4.PositRows", spec := "positRows", unfollowed := true, recurses := true, apart := false, narrowed := true }
def PositRowsUptoSaid : Prop := positRowsUptoRow.holds Try.pinned (OpenSpec.upto positRowsSpec)

/-- 'undergrowthlaw4.PositLimits', WHERE WHAT IT READS IS OF BULK AT MOST 1048576: true; the input reads as it did. -/
def positLimitsUptoRow : OpenClaim := { program := "ytjomodhbneicmaa", sum := "72ed7f784bff25f5cb2c0c350953d7be5182dcfc463725ecf253a7479edfa95a", func := "undergrowth/undergrowthlaw4.PositLimits", spec := "positLimits", unfollowed := true, recurses := true, apart := false, narrowed := true }
def PositLimitsUptoSaid : Prop := positLimitsUptoRow.holds Try.pinned (OpenSpec.upto positLimitsSpec)

end Rows
end Go.Proofs.Ytjomodhbneicmaa
