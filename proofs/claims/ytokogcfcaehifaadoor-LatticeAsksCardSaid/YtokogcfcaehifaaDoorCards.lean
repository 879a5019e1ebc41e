/-
  DERIVED. GIVEN WITH THE SEED: THE CARDS: each row of YtokogcfcaehifaaDoorRows.lean that lists a variable, with what it lists TIED to the program's text (the seventh form; the later family's looks); each row that meets fmt, with fmt's text TOLD by the authors' own Lean function (tested against real Go, not proved from fmt's source: count such statements apart). THE CARD IS WHAT COUNTS. Prove the row's statement (the work); the ties are given (YtokogcfcaehifaaDoorTie.lean); close each card by the builder's one call (the guide's Derived/Test/ToyasCard.lean, 'card_holds'). Laid BY PROGRAM, IN A SANDBOX (cutbox-door.mjs). By AI agents, Wed Nov 11 2026. No macro, syntax, notation, axiom, sorry.
-/
import Derived.Test.YtokogcfcaehifaaDoorRows
import GoSem.ClaimSeven
namespace Go.Proofs.YtokogcfcaehifaaDoor
namespace Rows

/-- THE TIED CARD OF 'palisadelaw01.LatticeFormed'. -/
def latticeFormedCard : Claim7 := { stood := { row := latticeFormedRow, standIns := [], harness := (true, "0c7773ac6ba6d284716338d9c51cfcf69fa0280bd195d93b844fe7b190f77026"), looks := false }, kinds := [], alts := [], laidByText := true, laidKinds := [.data, .pinned], laidTests := true, laidLooks := .later }
def LatticeFormedCardSaid : Prop := Claim7.holds Tryd.pinned (.plain (OpenSpec.ofChange latticeFormedSpec)) latticeFormedCard

/-- THE TIED CARD OF 'palisadelaw01.LatticeMakes'. -/
def latticeMakesCard : Claim7 := { stood := { row := latticeMakesRow, standIns := [], harness := (true, "0c7773ac6ba6d284716338d9c51cfcf69fa0280bd195d93b844fe7b190f77026"), looks := false }, kinds := [], alts := [], laidByText := true, laidKinds := [.data, .pinned], laidTests := true, laidLooks := .later }
def LatticeMakesCardSaid : Prop := Claim7.holds Tryd.pinned (.plain (OpenSpec.ofChange latticeMakesSpec)) latticeMakesCard

/-- THE TIED CARD OF 'palisadelaw01.LatticeLeast'. -/
def latticeLeastCard : Claim7 := { stood := { row := latticeLeastRow, standIns := [], harness := (true, "0c7773ac6ba6d284716338d9c51cfcf69fa0280bd195d93b844fe7b190f77026"), looks := false }, kinds := [], alts := [], laidByText := true, laidKinds := [.data, .pinned], laidTests := true, laidLooks := .later }
def LatticeLeastCardSaid : Prop := Claim7.holds Tryd.pinned (.plain (OpenSpec.ofChange latticeLeastSpec)) latticeLeastCard

/-- THE TIED CARD OF 'palisadelaw01.LatticeLaws'. -/
def latticeLawsCard : Claim7 := { stood := { row := latticeLawsRow, standIns := [], harness := (true, "0c7773ac6ba6d284716338d9c51cfcf69fa0280bd195d93b844fe7b190f77026"), looks := false }, kinds := [], alts := [], laidByText := true, laidKinds := [.data, .pinned], laidTests := true, laidLooks := .later }
def LatticeLawsCardSaid : Prop := Claim7.holds Tryd.pinned (.plain (OpenSpec.ofChange latticeLawsSpec)) latticeLawsCard

/-- THE TIED CARD OF 'palisadelaw01.LatticeNames'. -/
def latticeNamesCard : Claim7 := { stood := { row := latticeNamesRow, standIns := [], harness := (true, "0c7773ac6ba6d284716338d9c51cfcf69fa0280bd195d93b844fe7b190f77026"), looks := false }, kinds := [], alts := [], laidByText := true, laidKinds := [.data, .pinned], laidTests := true, laidLooks := .later }
def LatticeNamesCardSaid : Prop := Claim7.holds Tryd.pinned (.plain (OpenSpec.ofChange latticeNamesSpec)) latticeNamesCard

/-- THE TIED CARD OF 'palisadelaw01.LatticeAsks'. -/
def latticeAsksCard : Claim7 := { stood := { row := latticeAsksRow, standIns := [], harness := (true, "0c7773ac6ba6d284716338d9c51cfcf69fa0280bd195d93b844fe7b190f77026"), looks := false }, kinds := [], alts := [], laidByText := true, laidKinds := [.data, .pinned], laidTests := true, laidLooks := .later }
def LatticeAsksCardSaid : Prop := Claim7.holds Tryd.pinned (.plain (OpenSpec.ofChange latticeAsksSpec)) latticeAsksCard

/-- THE SECOND FORM's CARD OF 'palisadelaw01.LatticeFormed'. -/
def latticeFormedUptoCard : Claim7 := { stood := { row := latticeFormedUptoRow, standIns := [], harness := (true, "0c7773ac6ba6d284716338d9c51cfcf69fa0280bd195d93b844fe7b190f77026"), looks := false }, kinds := [], alts := [], laidByText := true, laidKinds := [.data, .pinned], laidTests := true, laidLooks := .later }
def LatticeFormedUptoCardSaid : Prop := Claim7.holds Tryd.pinned (.plain (OpenSpec.upto latticeFormedSpec)) latticeFormedUptoCard

/-- THE SECOND FORM's CARD OF 'palisadelaw01.LatticeMakes'. -/
def latticeMakesUptoCard : Claim7 := { stood := { row := latticeMakesUptoRow, standIns := [], harness := (true, "0c7773ac6ba6d284716338d9c51cfcf69fa0280bd195d93b844fe7b190f77026"), looks := false }, kinds := [], alts := [], laidByText := true, laidKinds := [.data, .pinned], laidTests := true, laidLooks := .later }
def LatticeMakesUptoCardSaid : Prop := Claim7.holds Tryd.pinned (.plain (OpenSpec.upto latticeMakesSpec)) latticeMakesUptoCard

/-- THE SECOND FORM's CARD OF 'palisadelaw01.LatticeLeast'. -/
def latticeLeastUptoCard : Claim7 := { stood := { row := latticeLeastUptoRow, standIns := [], harness := (true, "0c7773ac6ba6d284716338d9c51cfcf69fa0280bd195d93b844fe7b190f77026"), looks := false }, kinds := [], alts := [], laidByText := true, laidKinds := [.data, .pinned], laidTests := true, laidLooks := .later }
def LatticeLeastUptoCardSaid : Prop := Claim7.holds Tryd.pinned (.plain (OpenSpec.upto latticeLeastSpec)) latticeLeastUptoCard

/-- THE SECOND FORM's CARD OF 'palisadelaw01.LatticeLaws'. -/
def latticeLawsUptoCard : Claim7 := { stood := { row := latticeLawsUptoRow, standIns := [], harness := (true, "0c7773ac6ba6d284716338d9c51cfcf69fa0280bd195d93b844fe7b190f77026"), looks := false }, kinds := [], alts := [], laidByText := true, laidKinds := [.data, .pinned], laidTests := true, laidLooks := .later }
def LatticeLawsUptoCardSaid : Prop := Claim7.holds Tryd.pinned (.plain (OpenSpec.upto latticeLawsSpec)) latticeLawsUptoCard

/-- THE SECOND FORM's CARD OF 'palisadelaw01.LatticeNames'. -/
def latticeNamesUptoCard : Claim7 := { stood := { row := latticeNamesUptoRow, standIns := [], harness := (true, "0c7773ac6ba6d284716338d9c51cfcf69fa0280bd195d93b844fe7b190f77026"), looks := false }, kinds := [], alts := [], laidByText := true, laidKinds := [.data, .pinned], laidTests := true, laidLooks := .later }
def LatticeNamesUptoCardSaid : Prop := Claim7.holds Tryd.pinned (.plain (OpenSpec.upto latticeNamesSpec)) latticeNamesUptoCard

/-- THE SECOND FORM's CARD OF 'palisadelaw01.LatticeAsks'. -/
def latticeAsksUptoCard : Claim7 := { stood := { row := latticeAsksUptoRow, standIns := [], harness := (true, "0c7773ac6ba6d284716338d9c51cfcf69fa0280bd195d93b844fe7b190f77026"), looks := false }, kinds := [], alts := [], laidByText := true, laidKinds := [.data, .pinned], laidTests := true, laidLooks := .later }
def LatticeAsksUptoCardSaid : Prop := Claim7.holds Tryd.pinned (.plain (OpenSpec.upto latticeAsksSpec)) latticeAsksUptoCard
end Rows
end Go.Proofs.YtokogcfcaehifaaDoor
