/-
  No cell of these rows narrows 'for every input' (looked for: loops, veiled, ifaces, maps, wideKeys, modest, calm, conditions, laid).
  DERIVED. THE GIVEN ROWS OF THIS SEAT. 12 by the template 'for every input the law returns true; each argument reads behind the call as it read before'; 0 by the template 'total and deterministic' (their statements: YtjfbmdhdcpdcbaaGreatTotals.lean).
  GIVEN WITH THE SEED: the statements are not yours to turn. If you find one false, say at which input.
  Laid BY PROGRAM, IN A SANDBOX (cutbox-rows.mjs): the forced cells as the released guide's own fill.sh prints them over the translation 9efd9ec03040cce5… (all of the seat's roots in one cut). By AI agents, Wed Nov 11 2026. No macro, syntax, notation, axiom, sorry.
-/
import Derived.Test.YtjfbmdhdcpdcbaaGreatChecked
import GoSem.Claim
import GoSem.ClaimJoined
import GoSem.ClaimMapViews
import Derived.JoinedTies
import Derived.KernelRfl
namespace Go.Proofs.YtjfbmdhdcpdcbaaGreat
/- THE CELL 'sum', in the pinned program and in every row, IS THE sha256 OF THE DUMP (.gsa) THAT YtjfbmdhdcpdcbaaGreatProg.lean LOADS. Nothing in Lean hashes anything: it is a label: what it is worth is what the hold of that sum in a sandbox is worth. -/
noncomputable def Tryz.pinned : Pinned := { name := "ytjfbmdhdcpdcbaagreat", sum := "9efd9ec03040cce5d9e2820669ce1e600f63e6169ed3cec22276728cd600abab", checked := Tryz.checked }
namespace Rows
def none {H : Type} : Left H := { results := [], args := [] }

/-- 'undergrowthlaw7.ModesCheck': WHATEVER THE INPUT: true; the input reads as it did. -/
def modesCheckSpec : ChangeSpec := { name := "modesCheck", fn := fun _ => fun
  | [d] => { results := [.lit (.bool true)], args := [d] }
  | _ => none }
def modesCheckRow : OpenClaim := { program := "ytjfbmdhdcpdcbaagreat", sum := "9efd9ec03040cce5d9e2820669ce1e600f63e6169ed3cec22276728cd600abab", func := "undergrowth/undergrowthlaw7.ModesCheck", spec := "modesCheck", inPlace := ["internal/bytealg.IndexByteString", "sync/atomic.LoadUint32", "(*internal/sync.Mutex).Lock", "internal/race.Disable", "sync/atomic.CompareAndSwapInt32", "internal/race.Enable", "internal/race.Acquire", "(*internal/sync.Mutex).lockSlow", "internal/sync.runtime_canSpin", "internal/sync.runtime_doSpin", "internal/sync.throw", "internal/sync.runtime_nanotime", "internal/sync.runtime_SemacquireMutex", "sync/atomic.AddInt32", "(*internal/sync.Mutex).Unlock", "internal/race.ReleaseMerge", "(*internal/sync.Mutex).unlockSlow", "internal/sync.fatal", "internal/sync.runtime_Semrelease", "sync/atomic.StoreUint32"], unfollowed := true, recurses := true, apart := false }
def ModesCheckSaid : Prop := modesCheckRow.holds Tryz.pinned (OpenSpec.ofChange modesCheckSpec)

/-- ITS FALSE NEIGHBOUR: 'it returns false'. Refute it at one input. -/
def modesCheckWrong : ChangeSpec := { name := "modesCheck", fn := fun _ => fun
  | [d] => { results := [.lit (.bool false)], args := [d] }
  | _ => none }
def ModesCheckWrongFalsely : Prop := modesCheckRow.holds Tryz.pinned (OpenSpec.ofChange modesCheckWrong)

/-- 'undergrowthlaw7.ModesOne': WHATEVER THE INPUT: true; the input reads as it did. -/
def modesOneSpec : ChangeSpec := { name := "modesOne", fn := fun _ => fun
  | [d1, d2, d3, d4] => { results := [.lit (.bool true)], args := [d1, d2, d3, d4] }
  | _ => none }
def modesOneRow : OpenClaim := { program := "ytjfbmdhdcpdcbaagreat", sum := "9efd9ec03040cce5d9e2820669ce1e600f63e6169ed3cec22276728cd600abab", func := "undergrowth/undergrowthlaw7.ModesOne", spec := "modesOne", inPlace := ["internal/bytealg.IndexByteString", "sync/atomic.LoadUint32", "(*internal/sync.Mutex).Lock", "internal/race.Disable", "sync/atomic.CompareAndSwapInt32", "internal/race.Enable", "internal/race.Acquire", "(*internal/sync.Mutex).lockSlow", "internal/sync.runtime_canSpin", "internal/sync.runtime_doSpin", "internal/sync.throw", "internal/sync.runtime_nanotime", "internal/sync.runtime_SemacquireMutex", "sync/atomic.AddInt32", "(*internal/sync.Mutex).Unlock", "internal/race.ReleaseMerge", "(*internal/sync.Mutex).unlockSlow", "internal/sync.fatal", "internal/sync.runtime_Semrelease", "sync/atomic.StoreUint32"], unfollowed := true, recurses := true, apart := false }
def ModesOneSaid : Prop := modesOneRow.holds Tryz.pinned (OpenSpec.ofChange modesOneSpec)

/-- ITS FALSE NEIGHBOUR: 'it returns false'. Refute it at one input. -/
def modesOneWrong : ChangeSpec := { name := "modesOne", fn := fun _ => fun
  | [d1, d2, d3, d4] => { results := [.lit (.bool false)], args := [d1, d2, d3, d4] }
  | _ => none }
def ModesOneWrongFalsely : Prop := modesOneRow.holds Tryz.pinned (OpenSpec.ofChange modesOneWrong)

/-- 'undergrowthlaw7.ModesFirst': WHATEVER THE INPUT: true; the input reads as it did. -/
def modesFirstSpec : ChangeSpec := { name := "modesFirst", fn := fun _ => fun
  | [d1, d2, d3, d4] => { results := [.lit (.bool true)], args := [d1, d2, d3, d4] }
  | _ => none }
def modesFirstRow : OpenClaim := { program := "ytjfbmdhdcpdcbaagreat", sum := "9efd9ec03040cce5d9e2820669ce1e600f63e6169ed3cec22276728cd600abab", func := "undergrowth/undergrowthlaw7.ModesFirst", spec := "modesFirst", inPlace := ["internal/bytealg.IndexByteString", "sync/atomic.LoadUint32", "(*internal/sync.Mutex).Lock", "internal/race.Disable", "sync/atomic.CompareAndSwapInt32", "internal/race.Enable", "internal/race.Acquire", "(*internal/sync.Mutex).lockSlow", "internal/sync.runtime_canSpin", "internal/sync.runtime_doSpin", "internal/sync.throw", "internal/sync.runtime_nanotime", "internal/sync.runtime_SemacquireMutex", "sync/atomic.AddInt32", "(*internal/sync.Mutex).Unlock", "internal/race.ReleaseMerge", "(*internal/sync.Mutex).unlockSlow", "internal/sync.fatal", "internal/sync.runtime_Semrelease", "sync/atomic.StoreUint32"], unfollowed := true, recurses := true, apart := false }
def ModesFirstSaid : Prop := modesFirstRow.holds Tryz.pinned (OpenSpec.ofChange modesFirstSpec)

/-- ITS FALSE NEIGHBOUR: 'it returns false'. Refute it at one input. -/
def modesFirstWrong : ChangeSpec := { name := "modesFirst", fn := fun _ => fun
  | [d1, d2, d3, d4] => { results := [.lit (.bool false)], args := [d1, d2, d3, d4] }
  | _ => none }
def ModesFirstWrongFalsely : Prop := modesFirstRow.holds Tryz.pinned (OpenSpec.ofChange modesFirstWrong)

/-- 'undergrowthlaw7.ModesEmpty': WHATEVER THE INPUT: true; the input reads as it did. -/
def modesEmptySpec : ChangeSpec := { name := "modesEmpty", fn := fun _ => fun
  | [d1, d2, d3] => { results := [.lit (.bool true)], args := [d1, d2, d3] }
  | _ => none }
def modesEmptyRow : OpenClaim := { program := "ytjfbmdhdcpdcbaagreat", sum := "9efd9ec03040cce5d9e2820669ce1e600f63e6169ed3cec22276728cd600abab", func := "undergrowth/undergrowthlaw7.ModesEmpty", spec := "modesEmpty", inPlace := ["internal/bytealg.IndexByteString", "sync/atomic.LoadUint32", "(*internal/sync.Mutex).Lock", "internal/race.Disable", "sync/atomic.CompareAndSwapInt32", "internal/race.Enable", "internal/race.Acquire", "(*internal/sync.Mutex).lockSlow", "internal/sync.runtime_canSpin", "internal/sync.runtime_doSpin", "internal/sync.throw", "internal/sync.runtime_nanotime", "internal/sync.runtime_SemacquireMutex", "sync/atomic.AddInt32", "(*internal/sync.Mutex).Unlock", "internal/race.ReleaseMerge", "(*internal/sync.Mutex).unlockSlow", "internal/sync.fatal", "internal/sync.runtime_Semrelease", "sync/atomic.StoreUint32"], unfollowed := true, recurses := true, apart := false }
def ModesEmptySaid : Prop := modesEmptyRow.holds Tryz.pinned (OpenSpec.ofChange modesEmptySpec)

/-- ITS FALSE NEIGHBOUR: 'it returns false'. Refute it at one input. -/
def modesEmptyWrong : ChangeSpec := { name := "modesEmpty", fn := fun _ => fun
  | [d1, d2, d3] => { results := [.lit (.bool false)], args := [d1, d2, d3] }
  | _ => none }
def ModesEmptyWrongFalsely : Prop := modesEmptyRow.holds Tryz.pinned (OpenSpec.ofChange modesEmptyWrong)

/-- 'undergrowthlaw8.TokensWhole': WHATEVER THE INPUT: true; the input reads as it did. -/
def tokensWholeSpec : ChangeSpec := { name := "tokensWhole", fn := fun _ => fun
  | [d1, d2] => { results := [.lit (.bool true)], args := [d1, d2] }
  | _ => none }
def tokensWholeRow : OpenClaim := { program := "ytjfbmdhdcpdcbaagreat", sum := "9efd9ec03040cce5d9e2820669ce1e600f63e6169ed3cec22276728cd600abab", func := "undergrowth/undergrowthlaw8.TokensWhole", spec := "tokensWhole", inPlace := ["internal/bytealg.IndexByteString", "sync/atomic.LoadUint32", "(*internal/sync.Mutex).Lock", "internal/race.Disable", "sync/atomic.CompareAndSwapInt32", "internal/race.Enable", "internal/race.Acquire", "(*internal/sync.Mutex).lockSlow", "internal/sync.runtime_canSpin", "internal/sync.runtime_doSpin", "internal/sync.throw", "internal/sync.runtime_nanotime", "internal/sync.runtime_SemacquireMutex", "sync/atomic.AddInt32", "(*internal/sync.Mutex).Unlock", "internal/race.ReleaseMerge", "(*internal/sync.Mutex).unlockSlow", "internal/sync.fatal", "internal/sync.runtime_Semrelease", "sync/atomic.StoreUint32"], unfollowed := true, recurses := true, apart := false }
def TokensWholeSaid : Prop := tokensWholeRow.holds Tryz.pinned (OpenSpec.ofChange tokensWholeSpec)

/-- ITS FALSE NEIGHBOUR: 'it returns false'. Refute it at one input. -/
def tokensWholeWrong : ChangeSpec := { name := "tokensWhole", fn := fun _ => fun
  | [d1, d2] => { results := [.lit (.bool false)], args := [d1, d2] }
  | _ => none }
def TokensWholeWrongFalsely : Prop := tokensWholeRow.holds Tryz.pinned (OpenSpec.ofChange tokensWholeWrong)

/-- 'undergrowthlaw8.TokensQuotes': WHATEVER THE INPUT: true; the input reads as it did. -/
def tokensQuotesSpec : ChangeSpec := { name := "tokensQuotes", fn := fun _ => fun
  | [d1, d2] => { results := [.lit (.bool true)], args := [d1, d2] }
  | _ => none }
def tokensQuotesRow : OpenClaim := { program := "ytjfbmdhdcpdcbaagreat", sum := "9efd9ec03040cce5d9e2820669ce1e600f63e6169ed3cec22276728cd600abab", func := "undergrowth/undergrowthlaw8.TokensQuotes", spec := "tokensQuotes", inPlace := ["internal/bytealg.IndexByteString", "sync/atomic.LoadUint32", "(*internal/sync.Mutex).Lock", "internal/race.Disable", "sync/atomic.CompareAndSwapInt32", "internal/race.Enable", "internal/race.Acquire", "(*internal/sync.Mutex).lockSlow", "internal/sync.runtime_canSpin", "internal/sync.runtime_doSpin", "internal/sync.throw", "internal/sync.runtime_nanotime", "internal/sync.runtime_SemacquireMutex", "sync/atomic.AddInt32", "(*internal/sync.Mutex).Unlock", "internal/race.ReleaseMerge", "(*internal/sync.Mutex).unlockSlow", "internal/sync.fatal", "internal/sync.runtime_Semrelease", "sync/atomic.StoreUint32"], unfollowed := true, recurses := true, apart := false }
def TokensQuotesSaid : Prop := tokensQuotesRow.holds Tryz.pinned (OpenSpec.ofChange tokensQuotesSpec)

/-- ITS FALSE NEIGHBOUR: 'it returns false'. Refute it at one input. -/
def tokensQuotesWrong : ChangeSpec := { name := "tokensQuotes", fn := fun _ => fun
  | [d1, d2] => { results := [.lit (.bool false)], args := [d1, d2] }
  | _ => none }
def TokensQuotesWrongFalsely : Prop := tokensQuotesRow.holds Tryz.pinned (OpenSpec.ofChange tokensQuotesWrong)

/-- 'undergrowthlaw8.TokensAll': WHATEVER THE INPUT: true; the input reads as it did. -/
def tokensAllSpec : ChangeSpec := { name := "tokensAll", fn := fun _ => fun
  | [d1, d2] => { results := [.lit (.bool true)], args := [d1, d2] }
  | _ => none }
def tokensAllRow : OpenClaim := { program := "ytjfbmdhdcpdcbaagreat", sum := "9efd9ec03040cce5d9e2820669ce1e600f63e6169ed3cec22276728cd600abab", func := "undergrowth/undergrowthlaw8.TokensAll", spec := "tokensAll", inPlace := ["internal/bytealg.IndexByteString", "sync/atomic.LoadUint32", "(*internal/sync.Mutex).Lock", "internal/race.Disable", "sync/atomic.CompareAndSwapInt32", "internal/race.Enable", "internal/race.Acquire", "(*internal/sync.Mutex).lockSlow", "internal/sync.runtime_canSpin", "internal/sync.runtime_doSpin", "internal/sync.throw", "internal/sync.runtime_nanotime", "internal/sync.runtime_SemacquireMutex", "sync/atomic.AddInt32", "(*internal/sync.Mutex).Unlock", "internal/race.ReleaseMerge", "(*internal/sync.Mutex).unlockSlow", "internal/sync.fatal", "internal/sync.runtime_Semrelease", "sync/atomic.StoreUint32"], unfollowed := true, recurses := true, apart := false }
def TokensAllSaid : Prop := tokensAllRow.holds Tryz.pinned (OpenSpec.ofChange tokensAllSpec)

/-- ITS FALSE NEIGHBOUR: 'it returns false'. Refute it at one input. -/
def tokensAllWrong : ChangeSpec := { name := "tokensAll", fn := fun _ => fun
  | [d1, d2] => { results := [.lit (.bool false)], args := [d1, d2] }
  | _ => none }
def TokensAllWrongFalsely : Prop := tokensAllRow.holds Tryz.pinned (OpenSpec.ofChange tokensAllWrong)

/-- 'undergrowthlaw8.TokensKept': WHATEVER THE INPUT: true; the input reads as it did. -/
def tokensKeptSpec : ChangeSpec := { name := "tokensKept", fn := fun _ => fun
  | [d] => { results := [.lit (.bool true)], args := [d] }
  | _ => none }
def tokensKeptRow : OpenClaim := { program := "ytjfbmdhdcpdcbaagreat", sum := "9efd9ec03040cce5d9e2820669ce1e600f63e6169ed3cec22276728cd600abab", func := "undergrowth/undergrowthlaw8.TokensKept", spec := "tokensKept", inPlace := ["internal/bytealg.IndexByteString", "sync/atomic.LoadUint32", "(*internal/sync.Mutex).Lock", "internal/race.Disable", "sync/atomic.CompareAndSwapInt32", "internal/race.Enable", "internal/race.Acquire", "(*internal/sync.Mutex).lockSlow", "internal/sync.runtime_canSpin", "internal/sync.runtime_doSpin", "internal/sync.throw", "internal/sync.runtime_nanotime", "internal/sync.runtime_SemacquireMutex", "sync/atomic.AddInt32", "(*internal/sync.Mutex).Unlock", "internal/race.ReleaseMerge", "(*internal/sync.Mutex).unlockSlow", "internal/sync.fatal", "internal/sync.runtime_Semrelease", "sync/atomic.StoreUint32"], unfollowed := true, recurses := true, apart := false }
def TokensKeptSaid : Prop := tokensKeptRow.holds Tryz.pinned (OpenSpec.ofChange tokensKeptSpec)

/-- ITS FALSE NEIGHBOUR: 'it returns false'. Refute it at one input. -/
def tokensKeptWrong : ChangeSpec := { name := "tokensKept", fn := fun _ => fun
  | [d] => { results := [.lit (.bool false)], args := [d] }
  | _ => none }
def TokensKeptWrongFalsely : Prop := tokensKeptRow.holds Tryz.pinned (OpenSpec.ofChange tokensKeptWrong)

/-- 'undergrowthlaw9.RelexAgain': WHATEVER THE INPUT: true; the input reads as it did. -/
def relexAgainSpec : ChangeSpec := { name := "relexAgain", fn := fun _ => fun
  | [d1, d2, d3] => { results := [.lit (.bool true)], args := [d1, d2, d3] }
  | _ => none }
def relexAgainRow : OpenClaim := { program := "ytjfbmdhdcpdcbaagreat", sum := "9efd9ec03040cce5d9e2820669ce1e600f63e6169ed3cec22276728cd600abab", func := "undergrowth/undergrowthlaw9.RelexAgain", spec := "relexAgain", inPlace := ["internal/bytealg.IndexByteString", "sync/atomic.LoadUint32", "(*internal/sync.Mutex).Lock", "internal/race.Disable", "sync/atomic.CompareAndSwapInt32", "internal/race.Enable", "internal/race.Acquire", "(*internal/sync.Mutex).lockSlow", "internal/sync.runtime_canSpin", "internal/sync.runtime_doSpin", "internal/sync.throw", "internal/sync.runtime_nanotime", "internal/sync.runtime_SemacquireMutex", "sync/atomic.AddInt32", "(*internal/sync.Mutex).Unlock", "internal/race.ReleaseMerge", "(*internal/sync.Mutex).unlockSlow", "internal/sync.fatal", "internal/sync.runtime_Semrelease", "sync/atomic.StoreUint32"], unfollowed := true, recurses := true, apart := false }
def RelexAgainSaid : Prop := relexAgainRow.holds Tryz.pinned (OpenSpec.ofChange relexAgainSpec)

/-- ITS FALSE NEIGHBOUR: 'it returns false'. Refute it at one input. -/
def relexAgainWrong : ChangeSpec := { name := "relexAgain", fn := fun _ => fun
  | [d1, d2, d3] => { results := [.lit (.bool false)], args := [d1, d2, d3] }
  | _ => none }
def RelexAgainWrongFalsely : Prop := relexAgainRow.holds Tryz.pinned (OpenSpec.ofChange relexAgainWrong)

/-- 'undergrowthlaw9.RelexErrors': WHATEVER THE INPUT: true; the input reads as it did. -/
def relexErrorsSpec : ChangeSpec := { name := "relexErrors", fn := fun _ => fun
  | [d1, d2, d3, d4] => { results := [.lit (.bool true)], args := [d1, d2, d3, d4] }
  | _ => none }
def relexErrorsRow : OpenClaim := { program := "ytjfbmdhdcpdcbaagreat", sum := "9efd9ec03040cce5d9e2820669ce1e600f63e6169ed3cec22276728cd600abab", func := "undergrowth/undergrowthlaw9.RelexErrors", spec := "relexErrors", inPlace := ["internal/bytealg.IndexByteString", "sync/atomic.LoadUint32", "(*internal/sync.Mutex).Lock", "internal/race.Disable", "sync/atomic.CompareAndSwapInt32", "internal/race.Enable", "internal/race.Acquire", "(*internal/sync.Mutex).lockSlow", "internal/sync.runtime_canSpin", "internal/sync.runtime_doSpin", "internal/sync.throw", "internal/sync.runtime_nanotime", "internal/sync.runtime_SemacquireMutex", "sync/atomic.AddInt32", "(*internal/sync.Mutex).Unlock", "internal/race.ReleaseMerge", "(*internal/sync.Mutex).unlockSlow", "internal/sync.fatal", "internal/sync.runtime_Semrelease", "sync/atomic.StoreUint32"], unfollowed := true, recurses := true, apart := false }
def RelexErrorsSaid : Prop := relexErrorsRow.holds Tryz.pinned (OpenSpec.ofChange relexErrorsSpec)

/-- ITS FALSE NEIGHBOUR: 'it returns false'. Refute it at one input. -/
def relexErrorsWrong : ChangeSpec := { name := "relexErrors", fn := fun _ => fun
  | [d1, d2, d3, d4] => { results := [.lit (.bool false)], args := [d1, d2, d3, d4] }
  | _ => none }
def RelexErrorsWrongFalsely : Prop := relexErrorsRow.holds Tryz.pinned (OpenSpec.ofChange relexErrorsWrong)

/-- 'undergrowthlaw9.RelexFew': WHATEVER THE INPUT: true; the input reads as it did. -/
def relexFewSpec : ChangeSpec := { name := "relexFew", fn := fun _ => fun
  | [d1, d2, d3] => { results := [.lit (.bool true)], args := [d1, d2, d3] }
  | _ => none }
def relexFewRow : OpenClaim := { program := "ytjfbmdhdcpdcbaagreat", sum := "9efd9ec03040cce5d9e2820669ce1e600f63e6169ed3cec22276728cd600abab", func := "undergrowth/undergrowthlaw9.RelexFew", spec := "relexFew", inPlace := ["internal/bytealg.IndexByteString", "sync/atomic.LoadUint32", "(*internal/sync.Mutex).Lock", "internal/race.Disable", "sync/atomic.CompareAndSwapInt32", "internal/race.Enable", "internal/race.Acquire", "(*internal/sync.Mutex).lockSlow", "internal/sync.runtime_canSpin", "internal/sync.runtime_doSpin", "internal/sync.throw", "internal/sync.runtime_nanotime", "internal/sync.runtime_SemacquireMutex", "sync/atomic.AddInt32", "(*internal/sync.Mutex).Unlock", "internal/race.ReleaseMerge", "(*internal/sync.Mutex).unlockSlow", "internal/sync.fatal", "internal/sync.runtime_Semrelease", "sync/atomic.StoreUint32"], unfollowed := true, recurses := true, apart := false }
def RelexFewSaid : Prop := relexFewRow.holds Tryz.pinned (OpenSpec.ofChange relexFewSpec)

/-- ITS FALSE NEIGHBOUR: 'it returns false'. Refute it at one input. -/
def relexFewWrong : ChangeSpec := { name := "relexFew", fn := fun _ => fun
  | [d1, d2, d3] => { results := [.lit (.bool false)], args := [d1, d2, d3] }
  | _ => none }
def RelexFewWrongFalsely : Prop := relexFewRow.holds Tryz.pinned (OpenSpec.ofChange relexFewWrong)

/-- 'undergrowthlaw9.RelexQuotes': WHATEVER THE INPUT: true; the input reads as it did. -/
def relexQuotesSpec : ChangeSpec := { name := "relexQuotes", fn := fun _ => fun
  | [d1, d2] => { results := [.lit (.bool true)], args := [d1, d2] }
  | _ => none }
def relexQuotesRow : OpenClaim := { program := "ytjfbmdhdcpdcbaagreat", sum := "9efd9ec03040cce5d9e2820669ce1e600f63e6169ed3cec22276728cd600abab", func := "undergrowth/undergrowthlaw9.RelexQuotes", spec := "relexQuotes", inPlace := ["internal/bytealg.IndexByteString", "sync/atomic.LoadUint32", "(*internal/sync.Mutex).Lock", "internal/race.Disable", "sync/atomic.CompareAndSwapInt32", "internal/race.Enable", "internal/race.Acquire", "(*internal/sync.Mutex).lockSlow", "internal/sync.runtime_canSpin", "internal/sync.runtime_doSpin", "internal/sync.throw", "internal/sync.runtime_nanotime", "internal/sync.runtime_SemacquireMutex", "sync/atomic.AddInt32", "(*internal/sync.Mutex).Unlock", "internal/race.ReleaseMerge", "(*internal/sync.Mutex).unlockSlow", "internal/sync.fatal", "internal/sync.runtime_Semrelease", "sync/atomic.StoreUint32"], unfollowed := true, recurses := true, apart := false }
def RelexQuotesSaid : Prop := relexQuotesRow.holds Tryz.pinned (OpenSpec.ofChange relexQuotesSpec)

/-- ITS FALSE NEIGHBOUR: 'it returns false'. Refute it at one input. -/
def relexQuotesWrong : ChangeSpec := { name := "relexQuotes", fn := fun _ => fun
  | [d1, d2] => { results := [.lit (.bool false)], args := [d1, d2] }
  | _ => none }
def RelexQuotesWrongFalsely : Prop := relexQuotesRow.holds Tryz.pinned (OpenSpec.ofChange relexQuotesWrong)

/- THE SECOND FORM. 'bulk': how many values and letters a reading holds, each counted each time it is reached (what is shared counts as often as it is met; a slice's spare places count too). A statement '..UptoSaid' is the law's where the arguments, and the package variables that the reading takes, are together of bulk at most 1048576: NARROWER than '..Said'. Prove '..Said' where nothing that the law and all that it calls make is longer than what came in: it says more and counts as full. Else prove '..UptoSaid'. A law counts once. -/
mutual
def uptoBulk {H : Type} : DataW H → Nat
  | .lit (.string bytes) => bytes.length + 1
  | .lit _ => 1
  | .nil => 1
  | .ptr d => uptoBulk d + 1
  | .slice elems spare => uptoBulkAll elems + uptoBulkAll spare + 1
  | .agg parts => uptoBulkAll parts + 1
  | .iface _ d => uptoBulk d + 1
  | .map entries => uptoBulkEntries entries + 1
  | .held _ => 1
def uptoBulkAll {H : Type} : List (DataW H) → Nat
  | [] => 0
  | d :: r => uptoBulk d + uptoBulkAll r
def uptoBulkEntries {H : Type} : List (Lit × DataW H) → Nat
  | [] => 0
  | x :: r => uptoBulkEntry x + uptoBulkEntries r
def uptoBulkEntry {H : Type} : Lit × DataW H → Nat
  | (.string bytes, d) => bytes.length + uptoBulk d + 1
  | (_, d) => uptoBulk d + 1
 end
def uptoSmall : (H : Type) → List (DataW H) → Bool := fun _ ds => decide (uptoBulkAll ds ≤ 1048576)
def OpenSpec.upto (s : _root_.Go.ChangeSpec) : _root_.Go.OpenSpec := { _root_.Go.OpenSpec.ofChange s with cond := some uptoSmall }

/-- 'undergrowthlaw7.ModesCheck', WHERE WHAT IT READS IS OF BULK AT MOST 1048576: true; the input reads as it did. -/
def modesCheckUptoRow : OpenClaim := { program := "ytjfbmdhdcpdcbaagreat", sum := "9efd9ec03040cce5d9e2820669ce1e600f63e6169ed3cec22276728cd600abab", func := "undergrowth/undergrowthlaw7.ModesCheck", spec := "modesCheck", inPlace := ["internal/bytealg.IndexByteString", "sync/atomic.LoadUint32", "(*internal/sync.Mutex).Lock", "internal/race.Disable", "sync/atomic.CompareAndSwapInt32", "internal/race.Enable", "internal/race.Acquire", "(*internal/sync.Mutex).lockSlow", "internal/sync.runtime_canSpin", "internal/sync.runtime_doSpin", "internal/sync.throw", "internal/sync.runtime_nanotime", "internal/sync.runtime_SemacquireMutex", "sync/atomic.AddInt32", "(*internal/sync.Mutex).Unlock", "internal/race.ReleaseMerge", "(*internal/sync.Mutex).unlockSlow", "internal/sync.fatal", "internal/sync.runtime_Semrelease", "sync/atomic.StoreUint32"], unfollowed := true, recurses := true, apart := false, narrowed := true }
def ModesCheckUptoSaid : Prop := modesCheckUptoRow.holds Tryz.pinned (OpenSpec.upto modesCheckSpec)

/-- 'undergrowthlaw7.ModesOne', WHERE WHAT IT READS IS OF BULK AT MOST 1048576: true; the input reads as it did. -/
def modesOneUptoRow : OpenClaim := { program := "ytjfbmdhdcpdcbaagreat", sum := "9efd9ec03040cce5d9e2820669ce1e600f63e6169ed3cec22276728cd600abab", func := "undergrowth/undergrowthlaw7.ModesOne", spec := "modesOne", inPlace := ["internal/bytealg.IndexByteString", "sync/atomic.LoadUint32", "(*internal/sync.Mutex).Lock", "internal/race.Disable", "sync/atomic.CompareAndSwapInt32", "internal/race.Enable", "internal/race.Acquire", "(*internal/sync.Mutex).lockSlow", "internal/sync.runtime_canSpin", "internal/sync.runtime_doSpin", "internal/sync.throw", "internal/sync.runtime_nanotime", "internal/sync.runtime_SemacquireMutex", "sync/atomic.AddInt32", "(*internal/sync.Mutex).Unlock", "internal/race.ReleaseMerge", "(*internal/sync.Mutex).unlockSlow", "internal/sync.fatal", "internal/sync.runtime_Semrelease", "sync/atomic.StoreUint32"], unfollowed := true, recurses := true, apart := false, narrowed := true }
def ModesOneUptoSaid : Prop := modesOneUptoRow.holds Tryz.pinned (OpenSpec.upto modesOneSpec)

/-- 'undergrowthlaw7.ModesFirst', WHERE WHAT IT READS IS OF BULK AT MOST 1048576: true; the input reads as it did. -/
def modesFirstUptoRow : OpenClaim := { program := "ytjfbmdhdcpdcbaagreat", sum := "9efd9ec03040cce5d9e2820669ce1e600f63e6169ed3cec22276728cd600abab", func := "undergrowth/undergrowthlaw7.ModesFirst", spec := "modesFirst", inPlace := ["internal/bytealg.IndexByteString", "sync/atomic.LoadUint32", "(*internal/sync.Mutex).Lock", "internal/race.Disable", "sync/atomic.CompareAndSwapInt32", "internal/race.Enable", "internal/race.Acquire", "(*internal/sync.Mutex).lockSlow", "internal/sync.runtime_canSpin", "internal/sync.runtime_doSpin", "internal/sync.throw", "internal/sync.runtime_nanotime", "internal/sync.runtime_SemacquireMutex", "sync/atomic.AddInt32", "(*internal/sync.Mutex).Unlock", "internal/race.ReleaseMerge", "(*internal/sync.Mutex).unlockSlow", "internal/sync.fatal", "internal/sync.runtime_Semrelease", "sync/atomic.StoreUint32"], unfollowed := true, recurses := true, apart := false, narrowed := true }
def ModesFirstUptoSaid : Prop := modesFirstUptoRow.holds Tryz.pinned (OpenSpec.upto modesFirstSpec)

/-- 'undergrowthlaw7.ModesEmpty', WHERE WHAT IT READS IS OF BULK AT MOST 1048576: true; the input reads as it did. -/
def modesEmptyUptoRow : OpenClaim := { program := "ytjfbmdhdcpdcbaagreat", sum := "9efd9ec03040cce5d9e2820669ce1e600f63e6169ed3cec22276728cd600abab", func := "undergrowth/undergrowthlaw7.ModesEmpty", spec := "modesEmpty", inPlace := ["internal/bytealg.IndexByteString", "sync/atomic.LoadUint32", "(*internal/sync.Mutex).Lock", "internal/race.Disable", "sync/atomic.CompareAndSwapInt32", "internal/race.Enable", "internal/race.Acquire", "(*internal/sync.Mutex).lockSlow", "internal/sync.runtime_canSpin", "internal/sync.runtime_doSpin", "internal/sync.throw", "internal/sync.runtime_nanotime", "internal/sync.runtime_SemacquireMutex", "sync/atomic.AddInt32", "(*internal/sync.Mutex).Unlock", "internal/race.ReleaseMerge", "(*internal/sync.Mutex).unlockSlow", "internal/sync.fatal", "internal/sync.runtime_Semrelease", "sync/atomic.StoreUint32"], unfollowed := true, recurses := true, apart := false, narrowed := true }
def ModesEmptyUptoSaid : Prop := modesEmptyUptoRow.holds Tryz.pinned (OpenSpec.upto modesEmptySpec)

/-- 'undergrowthlaw8.TokensWhole', WHERE WHAT IT READS IS OF BULK AT MOST 1048576: true; the input reads as it did. -/
def tokensWholeUptoRow : OpenClaim := { program := "ytjfbmdhdcpdcbaagreat", sum := "9efd9ec03040cce5d9e2820669ce1e600f63e6169ed3cec22276728cd600abab", func := "undergrowth/undergrowthlaw8.TokensWhole", spec := "tokensWhole", inPlace := ["internal/bytealg.IndexByteString", "sync/atomic.LoadUint32", "(*internal/sync.Mutex).Lock", "internal/race.Disable", "sync/atomic.CompareAndSwapInt32", "internal/race.Enable", "internal/race.Acquire", "(*internal/sync.Mutex).lockSlow", "internal/sync.runtime_canSpin", "internal/sync.runtime_doSpin", "internal/sync.throw", "internal/sync.runtime_nanotime", "internal/sync.runtime_SemacquireMutex", "sync/atomic.AddInt32", "(*internal/sync.Mutex).Unlock", "internal/race.ReleaseMerge", "(*internal/sync.Mutex).unlockSlow", "internal/sync.fatal", "internal/sync.runtime_Semrelease", "sync/atomic.StoreUint32"], unfollowed := true, recurses := true, apart := false, narrowed := true }
def TokensWholeUptoSaid : Prop := tokensWholeUptoRow.holds Tryz.pinned (OpenSpec.upto tokensWholeSpec)

/-- 'undergrowthlaw8.TokensQuotes', WHERE WHAT IT READS IS OF BULK AT MOST 1048576: true; the input reads as it did. -/
def tokensQuotesUptoRow : OpenClaim := { program := "ytjfbmdhdcpdcbaagreat", sum := "9efd9ec03040cce5d9e2820669ce1e600f63e6169ed3cec22276728cd600abab", func := "undergrowth/undergrowthlaw8.TokensQuotes", spec := "tokensQuotes", inPlace := ["internal/bytealg.IndexByteString", "sync/atomic.LoadUint32", "(*internal/sync.Mutex).Lock", "internal/race.Disable", "sync/atomic.CompareAndSwapInt32", "internal/race.Enable", "internal/race.Acquire", "(*internal/sync.Mutex).lockSlow", "internal/sync.runtime_canSpin", "internal/sync.runtime_doSpin", "internal/sync.throw", "internal/sync.runtime_nanotime", "internal/sync.runtime_SemacquireMutex", "sync/atomic.AddInt32", "(*internal/sync.Mutex).Unlock", "internal/race.ReleaseMerge", "(*internal/sync.Mutex).unlockSlow", "internal/sync.fatal", "internal/sync.runtime_Semrelease", "sync/atomic.StoreUint32"], unfollowed := true, recurses := true, apart := false, narrowed := true }
def TokensQuotesUptoSaid : Prop := tokensQuotesUptoRow.holds Tryz.pinned (OpenSpec.upto tokensQuotesSpec)

/-- 'undergrowthlaw8.TokensAll', WHERE WHAT IT READS IS OF BULK AT MOST 1048576: true; the input reads as it did. -/
def tokensAllUptoRow : OpenClaim := { program := "ytjfbmdhdcpdcbaagreat", sum := "9efd9ec03040cce5d9e2820669ce1e600f63e6169ed3cec22276728cd600abab", func := "undergrowth/undergrowthlaw8.TokensAll", spec := "tokensAll", inPlace := ["internal/bytealg.IndexByteString", "sync/atomic.LoadUint32", "(*internal/sync.Mutex).Lock", "internal/race.Disable", "sync/atomic.CompareAndSwapInt32", "internal/race.Enable", "internal/race.Acquire", "(*internal/sync.Mutex).lockSlow", "internal/sync.runtime_canSpin", "internal/sync.runtime_doSpin", "internal/sync.throw", "internal/sync.runtime_nanotime", "internal/sync.runtime_SemacquireMutex", "sync/atomic.AddInt32", "(*internal/sync.Mutex).Unlock", "internal/race.ReleaseMerge", "(*internal/sync.Mutex).unlockSlow", "internal/sync.fatal", "internal/sync.runtime_Semrelease", "sync/atomic.StoreUint32"], unfollowed := true, recurses := true, apart := false, narrowed := true }
def TokensAllUptoSaid : Prop := tokensAllUptoRow.holds Tryz.pinned (OpenSpec.upto tokensAllSpec)

/-- 'undergrowthlaw8.TokensKept', WHERE WHAT IT READS IS OF BULK AT MOST 1048576: true; the input reads as it did. -/
def tokensKeptUptoRow : OpenClaim := { program := "ytjfbmdhdcpdcbaagreat", sum := "9efd9ec03040cce5d9e2820669ce1e600f63e6169ed3cec22276728cd600abab", func := "undergrowth/undergrowthlaw8.TokensKept", spec := "tokensKept", inPlace := ["internal/bytealg.IndexByteString", "sync/atomic.LoadUint32", "(*internal/sync.Mutex).Lock", "internal/race.Disable", "sync/atomic.CompareAndSwapInt32", "internal/race.Enable", "internal/race.Acquire", "(*internal/sync.Mutex).lockSlow", "internal/sync.runtime_canSpin", "internal/sync.runtime_doSpin", "internal/sync.throw", "internal/sync.runtime_nanotime", "internal/sync.runtime_SemacquireMutex", "sync/atomic.AddInt32", "(*internal/sync.Mutex).Unlock", "internal/race.ReleaseMerge", "(*internal/sync.Mutex).unlockSlow", "internal/sync.fatal", "internal/sync.runtime_Semrelease", "sync/atomic.StoreUint32"], unfollowed := true, recurses := true, apart := false, narrowed := true }
def TokensKeptUptoSaid : Prop := tokensKeptUptoRow.holds Tryz.pinned (OpenSpec.upto tokensKeptSpec)

/-- 'undergrowthlaw9.RelexAgain', WHERE WHAT IT READS IS OF BULK AT MOST 1048576: true; the input reads as it did. -/
def relexAgainUptoRow : OpenClaim := { program := "ytjfbmdhdcpdcbaagreat", sum := "9efd9ec03040cce5d9e2820669ce1e600f63e6169ed3cec22276728cd600abab", func := "undergrowth/undergrowthlaw9.RelexAgain", spec := "relexAgain", inPlace := ["internal/bytealg.IndexByteString", "sync/atomic.LoadUint32", "(*internal/sync.Mutex).Lock", "internal/race.Disable", "sync/atomic.CompareAndSwapInt32", "internal/race.Enable", "internal/race.Acquire", "(*internal/sync.Mutex).lockSlow", "internal/sync.runtime_canSpin", "internal/sync.runtime_doSpin", "internal/sync.throw", "internal/sync.runtime_nanotime", "internal/sync.runtime_SemacquireMutex", "sync/atomic.AddInt32", "(*internal/sync.Mutex).Unlock", "internal/race.ReleaseMerge", "(*internal/sync.Mutex).unlockSlow", "internal/sync.fatal", "internal/sync.runtime_Semrelease", "sync/atomic.StoreUint32"], unfollowed := true, recurses := true, apart := false, narrowed := true }
def RelexAgainUptoSaid : Prop := relexAgainUptoRow.holds Tryz.pinned (OpenSpec.upto relexAgainSpec)

/-- 'undergrowthlaw9.RelexErrors', WHERE WHAT IT READS IS OF BULK AT MOST 1048576: true; the input reads as it did. -/
def relexErrorsUptoRow : OpenClaim := { program := "ytjfbmdhdcpdcbaagreat", sum := "9efd9ec03040cce5d9e2820669ce1e600f63e6169ed3cec22276728cd600abab", func := "undergrowth/undergrowthlaw9.RelexErrors", spec := "relexErrors", inPlace := ["internal/bytealg.IndexByteString", "sync/atomic.LoadUint32", "(*internal/sync.Mutex).Lock", "internal/race.Disable", "sync/atomic.CompareAndSwapInt32", "internal/race.Enable", "internal/race.Acquire", "(*internal/sync.Mutex).lockSlow", "internal/sync.runtime_canSpin", "internal/sync.runtime_doSpin", "internal/sync.throw", "internal/sync.runtime_nanotime", "internal/sync.runtime_SemacquireMutex", "sync/atomic.AddInt32", "(*internal/sync.Mutex).Unlock", "internal/race.ReleaseMerge", "(*internal/sync.Mutex).unlockSlow", "internal/sync.fatal", "internal/sync.runtime_Semrelease", "sync/atomic.StoreUint32"], unfollowed := true, recurses := true, apart := false, narrowed := true }
def RelexErrorsUptoSaid : Prop := relexErrorsUptoRow.holds Tryz.pinned (OpenSpec.upto relexErrorsSpec)

/-- 'undergrowthlaw9.RelexFew', WHERE WHAT IT READS IS OF BULK AT MOST 1048576: true; the input reads as it did. -/
def relexFewUptoRow : OpenClaim := { program := "ytjfbmdhdcpdcbaagreat", sum := "9efd9ec03040cce5d9e2820669ce1e600f63e6169ed3cec22276728cd600abab", func := "undergrowth/undergrowthlaw9.RelexFew", spec := "relexFew", inPlace := ["internal/bytealg.IndexByteString", "sync/atomic.LoadUint32", "(*internal/sync.Mutex).Lock", "internal/race.Disable", "sync/atomic.CompareAndSwapInt32", "internal/race.Enable", "internal/race.Acquire", "(*internal/sync.Mutex).lockSlow", "internal/sync.runtime_canSpin", "internal/sync.runtime_doSpin", "internal/sync.throw", "internal/sync.runtime_nanotime", "internal/sync.runtime_SemacquireMutex", "sync/atomic.AddInt32", "(*internal/sync.Mutex).Unlock", "internal/race.ReleaseMerge", "(*internal/sync.Mutex).unlockSlow", "internal/sync.fatal", "internal/sync.runtime_Semrelease", "sync/atomic.StoreUint32"], unfollowed := true, recurses := true, apart := false, narrowed := true }
def RelexFewUptoSaid : Prop := relexFewUptoRow.holds Tryz.pinned (OpenSpec.upto relexFewSpec)

/-- 'undergrowthlaw9.RelexQuotes', WHERE WHAT IT READS IS OF BULK AT MOST 1048576: true; the input reads as it did. -/
def relexQuotesUptoRow : OpenClaim := { program := "ytjfbmdhdcpdcbaagreat", sum := "9efd9ec03040cce5d9e2820669ce1e600f63e6169ed3cec22276728cd600abab", func := "undergrowth/undergrowthlaw9.RelexQuotes", spec := "relexQuotes", inPlace := ["internal/bytealg.IndexByteString", "sync/atomic.LoadUint32", "(*internal/sync.Mutex).Lock", "internal/race.Disable", "sync/atomic.CompareAndSwapInt32", "internal/race.Enable", "internal/race.Acquire", "(*internal/sync.Mutex).lockSlow", "internal/sync.runtime_canSpin", "internal/sync.runtime_doSpin", "internal/sync.throw", "internal/sync.runtime_nanotime", "internal/sync.runtime_SemacquireMutex", "sync/atomic.AddInt32", "(*internal/sync.Mutex).Unlock", "internal/race.ReleaseMerge", "(*internal/sync.Mutex).unlockSlow", "internal/sync.fatal", "internal/sync.runtime_Semrelease", "sync/atomic.StoreUint32"], unfollowed := true, recurses := true, apart := false, narrowed := true }
def RelexQuotesUptoSaid : Prop := relexQuotesUptoRow.holds Tryz.pinned (OpenSpec.upto relexQuotesSpec)

end Rows
end Go.Proofs.YtjfbmdhdcpdcbaaGreat
