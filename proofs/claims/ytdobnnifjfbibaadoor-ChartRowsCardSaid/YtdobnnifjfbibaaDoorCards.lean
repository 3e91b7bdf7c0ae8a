/-
  DERIVED. GIVEN WITH THE SEED: THE CARDS: each row of YtdobnnifjfbibaaDoorRows.lean that lists a variable, with what it lists TIED to the program's text (the seventh form; the later family's looks); each row that meets fmt, with fmt's text TOLD by the authors' own Lean function (tested against real Go, not proved from fmt's source: count such statements apart). THE CARD IS WHAT COUNTS. Prove the row's statement (the work); the ties are given (YtdobnnifjfbibaaDoorTie.lean); close each card by the builder's one call (the guide's Derived/Test/ToyasCard.lean, 'card_holds'). Laid BY PROGRAM, IN A SANDBOX (cutbox-door.mjs). By AI agents, Wed Nov 11 2026. No macro, syntax, notation, axiom, sorry.
-/
import Derived.Test.YtdobnnifjfbibaaDoorRows
import GoSem.ClaimSeven
namespace Go.Proofs.YtdobnnifjfbibaaDoor
namespace Rows

/-- THE TIED CARD OF 'undergrowthlaw18.ChartJoins'. -/
def chartJoinsCard : Claim7 := { stood := { row := chartJoinsRow, standIns := [], harness := (true, "35c6c94ace3821846d75153fdb48b636edde7b280153202b34493635925c4fd2"), looks := false }, kinds := [], alts := [], laidByText := true, laidKinds := [.data], laidTests := true, laidLooks := .later }
def ChartJoinsCardSaid : Prop := Claim7.holds Tryd.pinned (.plain (OpenSpec.ofChange chartJoinsSpec)) chartJoinsCard

/-- THE TIED CARD OF 'undergrowthlaw18.ChartRows'. -/
def chartRowsCard : Claim7 := { stood := { row := chartRowsRow, standIns := [], harness := (true, "35c6c94ace3821846d75153fdb48b636edde7b280153202b34493635925c4fd2"), looks := false }, kinds := [], alts := [], laidByText := true, laidKinds := [.data], laidTests := true, laidLooks := .later }
def ChartRowsCardSaid : Prop := Claim7.holds Tryd.pinned (.plain (OpenSpec.ofChange chartRowsSpec)) chartRowsCard

/-- THE TIED CARD OF 'undergrowthlaw18.ChartTells'. -/
def chartTellsCard : Claim7 := { stood := { row := chartTellsRow, standIns := [], harness := (true, "35c6c94ace3821846d75153fdb48b636edde7b280153202b34493635925c4fd2"), looks := false }, kinds := [], alts := [], laidByText := true, laidKinds := [.data], laidTests := true, laidLooks := .later }
def ChartTellsCardSaid : Prop := Claim7.holds Tryd.pinned (.plain (OpenSpec.ofChange chartTellsSpec)) chartTellsCard

/-- THE SECOND FORM's CARD OF 'undergrowthlaw18.ChartJoins'. -/
def chartJoinsUptoCard : Claim7 := { stood := { row := chartJoinsUptoRow, standIns := [], harness := (true, "35c6c94ace3821846d75153fdb48b636edde7b280153202b34493635925c4fd2"), looks := false }, kinds := [], alts := [], laidByText := true, laidKinds := [.data], laidTests := true, laidLooks := .later }
def ChartJoinsUptoCardSaid : Prop := Claim7.holds Tryd.pinned (.plain (OpenSpec.upto chartJoinsSpec)) chartJoinsUptoCard

/-- THE SECOND FORM's CARD OF 'undergrowthlaw18.ChartRows'. -/
def chartRowsUptoCard : Claim7 := { stood := { row := chartRowsUptoRow, standIns := [], harness := (true, "35c6c94ace3821846d75153fdb48b636edde7b280153202b34493635925c4fd2"), looks := false }, kinds := [], alts := [], laidByText := true, laidKinds := [.data], laidTests := true, laidLooks := .later }
def ChartRowsUptoCardSaid : Prop := Claim7.holds Tryd.pinned (.plain (OpenSpec.upto chartRowsSpec)) chartRowsUptoCard

/-- THE SECOND FORM's CARD OF 'undergrowthlaw18.ChartTells'. -/
def chartTellsUptoCard : Claim7 := { stood := { row := chartTellsUptoRow, standIns := [], harness := (true, "35c6c94ace3821846d75153fdb48b636edde7b280153202b34493635925c4fd2"), looks := false }, kinds := [], alts := [], laidByText := true, laidKinds := [.data], laidTests := true, laidLooks := .later }
def ChartTellsUptoCardSaid : Prop := Claim7.holds Tryd.pinned (.plain (OpenSpec.upto chartTellsSpec)) chartTellsUptoCard
end Rows
end Go.Proofs.YtdobnnifjfbibaaDoor
