/-
  DERIVED. GIVEN WITH THE SEED: THE CARDS: each row of YtbpkclopcoaikaaGreatDoorRows.lean that lists a variable, with what it lists TIED to the program's text (the seventh form; the later family's looks); each row that meets fmt, with fmt's text TOLD by the authors' own Lean function (tested against real Go, not proved from fmt's source: count such statements apart). THE CARD IS WHAT COUNTS. Prove the row's statement (the work); the ties are given (YtbpkclopcoaikaaGreatDoorTie.lean); close each card by the builder's one call (the guide's Derived/Test/ToyasCard.lean, 'card_holds'). Laid BY PROGRAM, IN A SANDBOX (cutbox-door.mjs). By AI agents, Wed Nov 11 2026. No macro, syntax, notation, axiom, sorry.
-/
import Derived.Test.YtbpkclopcoaikaaGreatDoorRows
import GoSem.ClaimSeven
namespace Go.Proofs.YtbpkclopcoaikaaGreatDoor
namespace Rows

/-- THE TIED CARD OF 'corporatop.TopNodes'. -/
def topNodesCard : Claim7 := { stood := { row := topNodesRow, standIns := [], harness := (true, "8ec3565745ec8a38ba77b5940ecfc3ee501e2b20e745bad34fc053256137856b"), looks := true }, kinds := [], alts := [], laidByText := true, laidKinds := [.data, .pinned], laidTests := true, laidLooks := .later }
def TopNodesCardSaid : Prop := Claim7.holds Tryz.pinned (.plain (OpenSpec.ofChange topNodesSpec)) topNodesCard

/-- THE TIED CARD OF 'corporatop.TopConstituents'. -/
def topConstituentsCard : Claim7 := { stood := { row := topConstituentsRow, standIns := [], harness := (true, "8ec3565745ec8a38ba77b5940ecfc3ee501e2b20e745bad34fc053256137856b"), looks := true }, kinds := [], alts := [], laidByText := true, laidKinds := [.data, .pinned], laidTests := true, laidLooks := .later }
def TopConstituentsCardSaid : Prop := Claim7.holds Tryz.pinned (.plain (OpenSpec.ofChange topConstituentsSpec)) topConstituentsCard

/-- THE TIED CARD OF 'corporatop.TopHeads'. -/
def topHeadsCard : Claim7 := { stood := { row := topHeadsRow, standIns := [], harness := (true, "8ec3565745ec8a38ba77b5940ecfc3ee501e2b20e745bad34fc053256137856b"), looks := true }, kinds := [], alts := [], laidByText := true, laidKinds := [.data, .pinned], laidTests := true, laidLooks := .later }
def TopHeadsCardSaid : Prop := Claim7.holds Tryz.pinned (.plain (OpenSpec.ofChange topHeadsSpec)) topHeadsCard

/-- THE SECOND FORM's CARD OF 'corporatop.TopNodes'. -/
def topNodesUptoCard : Claim7 := { stood := { row := topNodesUptoRow, standIns := [], harness := (true, "8ec3565745ec8a38ba77b5940ecfc3ee501e2b20e745bad34fc053256137856b"), looks := true }, kinds := [], alts := [], laidByText := true, laidKinds := [.data, .pinned], laidTests := true, laidLooks := .later }
def TopNodesUptoCardSaid : Prop := Claim7.holds Tryz.pinned (.plain (OpenSpec.upto topNodesSpec)) topNodesUptoCard

/-- THE SECOND FORM's CARD OF 'corporatop.TopConstituents'. -/
def topConstituentsUptoCard : Claim7 := { stood := { row := topConstituentsUptoRow, standIns := [], harness := (true, "8ec3565745ec8a38ba77b5940ecfc3ee501e2b20e745bad34fc053256137856b"), looks := true }, kinds := [], alts := [], laidByText := true, laidKinds := [.data, .pinned], laidTests := true, laidLooks := .later }
def TopConstituentsUptoCardSaid : Prop := Claim7.holds Tryz.pinned (.plain (OpenSpec.upto topConstituentsSpec)) topConstituentsUptoCard

/-- THE SECOND FORM's CARD OF 'corporatop.TopHeads'. -/
def topHeadsUptoCard : Claim7 := { stood := { row := topHeadsUptoRow, standIns := [], harness := (true, "8ec3565745ec8a38ba77b5940ecfc3ee501e2b20e745bad34fc053256137856b"), looks := true }, kinds := [], alts := [], laidByText := true, laidKinds := [.data, .pinned], laidTests := true, laidLooks := .later }
def TopHeadsUptoCardSaid : Prop := Claim7.holds Tryz.pinned (.plain (OpenSpec.upto topHeadsSpec)) topHeadsUptoCard
end Rows
end Go.Proofs.YtbpkclopcoaikaaGreatDoor
