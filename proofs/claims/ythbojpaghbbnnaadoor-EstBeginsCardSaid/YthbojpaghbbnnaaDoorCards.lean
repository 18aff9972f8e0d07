/-
  DERIVED. GIVEN WITH THE SEED: THE CARDS: each row of YthbojpaghbbnnaaDoorRows.lean that lists a variable, with what it lists TIED to the program's text (the seventh form; the later family's looks); each row that meets fmt, with fmt's text TOLD by the authors' own Lean function (tested against real Go, not proved from fmt's source: count such statements apart). THE CARD IS WHAT COUNTS. Prove the row's statement (the work); the ties are given (YthbojpaghbbnnaaDoorTie.lean); close each card by the builder's one call (the guide's Derived/Test/ToyasCard.lean, 'card_holds'). Laid BY PROGRAM, IN A SANDBOX (cutbox-door.mjs). By AI agents, Wed Nov 11 2026. No macro, syntax, notation, axiom, sorry.
-/
import Derived.Test.YthbojpaghbbnnaaDoorRows
import GoSem.ClaimSeven
namespace Go.Proofs.YthbojpaghbbnnaaDoor
namespace Rows

/-- THE TIED CARD OF 'pithlaw17.EstBegins'. -/
def estBeginsCard : Claim7 := { stood := { row := estBeginsRow, standIns := [], harness := (true, "d74856d3f72a1d03cbf6c09da30171d922ed12aedf22788c70527cda0fb29e9d"), looks := false }, kinds := [], alts := [], laidByText := true, laidKinds := [.data], laidTests := true, laidLooks := .later }
def EstBeginsCardSaid : Prop := Claim7.holds Tryd.pinned (.plain (OpenSpec.ofChange estBeginsSpec)) estBeginsCard

/-- THE TIED CARD OF 'pithlaw17.EstLayouts'. -/
def estLayoutsCard : Claim7 := { stood := { row := estLayoutsRow, standIns := [], harness := (true, "d74856d3f72a1d03cbf6c09da30171d922ed12aedf22788c70527cda0fb29e9d"), looks := false }, kinds := [], alts := [], laidByText := true, laidKinds := [.data], laidTests := true, laidLooks := .later }
def EstLayoutsCardSaid : Prop := Claim7.holds Tryd.pinned (.plain (OpenSpec.ofChange estLayoutsSpec)) estLayoutsCard

/-- THE TIED CARD OF 'pithlaw17.EstCalled'. -/
def estCalledCard : Claim7 := { stood := { row := estCalledRow, standIns := [], harness := (true, "d74856d3f72a1d03cbf6c09da30171d922ed12aedf22788c70527cda0fb29e9d"), looks := false }, kinds := [], alts := [], laidByText := true, laidKinds := [.data], laidTests := true, laidLooks := .later }
def EstCalledCardSaid : Prop := Claim7.holds Tryd.pinned (.plain (OpenSpec.ofChange estCalledSpec)) estCalledCard

/-- THE TIED CARD OF 'pithlaw17.EstGoes'. -/
def estGoesCard : Claim7 := { stood := { row := estGoesRow, standIns := [], harness := (true, "d74856d3f72a1d03cbf6c09da30171d922ed12aedf22788c70527cda0fb29e9d"), looks := false }, kinds := [], alts := [], laidByText := true, laidKinds := [.data], laidTests := true, laidLooks := .later }
def EstGoesCardSaid : Prop := Claim7.holds Tryd.pinned (.plain (OpenSpec.ofChange estGoesSpec)) estGoesCard

/-- THE TIED CARD OF 'pithlaw17.EstCores'. -/
def estCoresCard : Claim7 := { stood := { row := estCoresRow, standIns := [], harness := (true, "d74856d3f72a1d03cbf6c09da30171d922ed12aedf22788c70527cda0fb29e9d"), looks := false }, kinds := [], alts := [], laidByText := true, laidKinds := [.data], laidTests := true, laidLooks := .later }
def EstCoresCardSaid : Prop := Claim7.holds Tryd.pinned (.plain (OpenSpec.ofChange estCoresSpec)) estCoresCard

/-- THE TIED CARD OF 'pithlaw17.EstBounds'. -/
def estBoundsCard : Claim7 := { stood := { row := estBoundsRow, standIns := [], harness := (true, "d74856d3f72a1d03cbf6c09da30171d922ed12aedf22788c70527cda0fb29e9d"), looks := false }, kinds := [], alts := [], laidByText := true, laidKinds := [.data], laidTests := true, laidLooks := .later }
def EstBoundsCardSaid : Prop := Claim7.holds Tryd.pinned (.plain (OpenSpec.ofChange estBoundsSpec)) estBoundsCard

/-- THE SECOND FORM's CARD OF 'pithlaw17.EstBegins'. -/
def estBeginsUptoCard : Claim7 := { stood := { row := estBeginsUptoRow, standIns := [], harness := (true, "d74856d3f72a1d03cbf6c09da30171d922ed12aedf22788c70527cda0fb29e9d"), looks := false }, kinds := [], alts := [], laidByText := true, laidKinds := [.data], laidTests := true, laidLooks := .later }
def EstBeginsUptoCardSaid : Prop := Claim7.holds Tryd.pinned (.plain (OpenSpec.upto estBeginsSpec)) estBeginsUptoCard

/-- THE SECOND FORM's CARD OF 'pithlaw17.EstLayouts'. -/
def estLayoutsUptoCard : Claim7 := { stood := { row := estLayoutsUptoRow, standIns := [], harness := (true, "d74856d3f72a1d03cbf6c09da30171d922ed12aedf22788c70527cda0fb29e9d"), looks := false }, kinds := [], alts := [], laidByText := true, laidKinds := [.data], laidTests := true, laidLooks := .later }
def EstLayoutsUptoCardSaid : Prop := Claim7.holds Tryd.pinned (.plain (OpenSpec.upto estLayoutsSpec)) estLayoutsUptoCard

/-- THE SECOND FORM's CARD OF 'pithlaw17.EstCalled'. -/
def estCalledUptoCard : Claim7 := { stood := { row := estCalledUptoRow, standIns := [], harness := (true, "d74856d3f72a1d03cbf6c09da30171d922ed12aedf22788c70527cda0fb29e9d"), looks := false }, kinds := [], alts := [], laidByText := true, laidKinds := [.data], laidTests := true, laidLooks := .later }
def EstCalledUptoCardSaid : Prop := Claim7.holds Tryd.pinned (.plain (OpenSpec.upto estCalledSpec)) estCalledUptoCard

/-- THE SECOND FORM's CARD OF 'pithlaw17.EstGoes'. -/
def estGoesUptoCard : Claim7 := { stood := { row := estGoesUptoRow, standIns := [], harness := (true, "d74856d3f72a1d03cbf6c09da30171d922ed12aedf22788c70527cda0fb29e9d"), looks := false }, kinds := [], alts := [], laidByText := true, laidKinds := [.data], laidTests := true, laidLooks := .later }
def EstGoesUptoCardSaid : Prop := Claim7.holds Tryd.pinned (.plain (OpenSpec.upto estGoesSpec)) estGoesUptoCard

/-- THE SECOND FORM's CARD OF 'pithlaw17.EstCores'. -/
def estCoresUptoCard : Claim7 := { stood := { row := estCoresUptoRow, standIns := [], harness := (true, "d74856d3f72a1d03cbf6c09da30171d922ed12aedf22788c70527cda0fb29e9d"), looks := false }, kinds := [], alts := [], laidByText := true, laidKinds := [.data], laidTests := true, laidLooks := .later }
def EstCoresUptoCardSaid : Prop := Claim7.holds Tryd.pinned (.plain (OpenSpec.upto estCoresSpec)) estCoresUptoCard

/-- THE SECOND FORM's CARD OF 'pithlaw17.EstBounds'. -/
def estBoundsUptoCard : Claim7 := { stood := { row := estBoundsUptoRow, standIns := [], harness := (true, "d74856d3f72a1d03cbf6c09da30171d922ed12aedf22788c70527cda0fb29e9d"), looks := false }, kinds := [], alts := [], laidByText := true, laidKinds := [.data], laidTests := true, laidLooks := .later }
def EstBoundsUptoCardSaid : Prop := Claim7.holds Tryd.pinned (.plain (OpenSpec.upto estBoundsSpec)) estBoundsUptoCard
end Rows
end Go.Proofs.YthbojpaghbbnnaaDoor
