/-
  DERIVED. GIVEN WITH THE SEED: THE CARDS: each row of YtdgjpncflkpjfaaDoorRows.lean that lists a variable, with what it lists TIED to the program's text (the seventh form; the later family's looks); each row that meets fmt, with fmt's text TOLD by the authors' own Lean function (tested against real Go, not proved from fmt's source: count such statements apart). THE CARD IS WHAT COUNTS. Prove the row's statement (the work); the ties are given (YtdgjpncflkpjfaaDoorTie.lean); close each card by the builder's one call (the guide's Derived/Test/ToyasCard.lean, 'card_holds'). Laid BY PROGRAM, IN A SANDBOX (cutbox-door.mjs). By AI agents, Wed Nov 11 2026. No macro, syntax, notation, axiom, sorry.
-/
import Derived.Test.YtdgjpncflkpjfaaDoorRows
import GoSem.ClaimSeven
namespace Go.Proofs.YtdgjpncflkpjfaaDoor
namespace Rows

/-- THE TIED CARD OF 'douanelaw15.CellFits'. -/
def cellFitsCard : Claim7 := { stood := { row := cellFitsRow, standIns := [], harness := (true, "c02bbe62cfac7476864142541a80429ae63076cf43f6b8abeda224ed5cd004f1"), looks := true }, kinds := [], alts := [], laidByText := true, laidKinds := [.data], laidTests := true, laidLooks := .later }
def CellFitsCardSaid : Prop := Claim7.holds Tryd.pinned (.plain (OpenSpec.ofChange cellFitsSpec)) cellFitsCard

/-- THE TIED CARD OF 'douanelaw15.CellLists'. -/
def cellListsCard : Claim7 := { stood := { row := cellListsRow, standIns := [], harness := (true, "c02bbe62cfac7476864142541a80429ae63076cf43f6b8abeda224ed5cd004f1"), looks := true }, kinds := [], alts := [], laidByText := true, laidKinds := [.data], laidTests := true, laidLooks := .later }
def CellListsCardSaid : Prop := Claim7.holds Tryd.pinned (.plain (OpenSpec.ofChange cellListsSpec)) cellListsCard

/-- THE SECOND FORM's CARD OF 'douanelaw15.CellFits'. -/
def cellFitsUptoCard : Claim7 := { stood := { row := cellFitsUptoRow, standIns := [], harness := (true, "c02bbe62cfac7476864142541a80429ae63076cf43f6b8abeda224ed5cd004f1"), looks := true }, kinds := [], alts := [], laidByText := true, laidKinds := [.data], laidTests := true, laidLooks := .later }
def CellFitsUptoCardSaid : Prop := Claim7.holds Tryd.pinned (.plain (OpenSpec.upto cellFitsSpec)) cellFitsUptoCard

/-- THE SECOND FORM's CARD OF 'douanelaw15.CellLists'. -/
def cellListsUptoCard : Claim7 := { stood := { row := cellListsUptoRow, standIns := [], harness := (true, "c02bbe62cfac7476864142541a80429ae63076cf43f6b8abeda224ed5cd004f1"), looks := true }, kinds := [], alts := [], laidByText := true, laidKinds := [.data], laidTests := true, laidLooks := .later }
def CellListsUptoCardSaid : Prop := Claim7.holds Tryd.pinned (.plain (OpenSpec.upto cellListsSpec)) cellListsUptoCard
end Rows
end Go.Proofs.YtdgjpncflkpjfaaDoor
