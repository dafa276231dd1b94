/-
  NARROWER THAN 'FOR EVERY INPUT', by the rows' own cells (each row's printed sentence says how): CellFits: loops, laid · CellLists: loops, laid.
  DERIVED. THE GIVEN ROWS OF THIS SEAT. 2 by the template 'for every input the law returns true; each argument reads behind the call as it read before'; 0 by the template 'total and deterministic' (their statements: YtdgjpncflkpjfaaDoorTotals.lean).
  GIVEN WITH THE SEED: the statements are not yours to turn. If you find one false, say at which input.
  Laid BY PROGRAM, IN A SANDBOX (cutbox-rows.mjs): the forced cells as the released guide's own fill.sh prints them over the translation 489ef640d50fa2c3… (all of the seat's roots in one cut). By AI agents, Wed Nov 11 2026. No macro, syntax, notation, axiom, sorry.
-/
import Derived.Test.YtdgjpncflkpjfaaDoorChecked
import GoSem.Claim
import GoSem.ClaimJoined
import GoSem.ClaimMapViews
import Derived.JoinedTies
import Derived.KernelRfl
namespace Go.Proofs.YtdgjpncflkpjfaaDoor
/- THE CELL 'sum', in the pinned program and in every row, IS THE sha256 OF THE DUMP (.gsa) THAT YtdgjpncflkpjfaaDoorProg.lean LOADS. Nothing in Lean hashes anything: it is a label: what it is worth is what the hold of that sum in a sandbox is worth. -/
noncomputable def Tryd.pinned : Pinned := { name := "ytdgjpncflkpjfaadoor", sum := "489ef640d50fa2c37e73792bac3ae54056a9d72bcf518b37e86eed8bdde28d83", checked := Tryd.checked }
namespace Rows
def none {H : Type} : Left H := { results := [], args := [] }

/- WHAT THE LISTED PACKAGE-LEVEL VARIABLES READ AS WHEN THE CALL BEGINS. Each datum BY PROGRAM (the guide's laid-datum.mjs) off the statement by which the dump's own 'gosem.cut.vars' lays the variable. In a bare row this is a premise. The card (YtdgjpncflkpjfaaDoorCards.lean) ties it to the program's text. -/
def laid_douane_cell_plain {H : Type} : DataW H := .agg [.lit (.bool true), .lit (.bool true), .lit (.bool true), .lit (.bool false), .lit (.bool true), .lit (.bool true), .lit (.bool false)]

/-- 'douanelaw15.CellFits': WHATEVER THE INPUT: true; the input reads as it did. -/
def cellFitsSpec : ChangeSpec := { name := "cellFits", fn := fun _ => fun
  | [d1, d2, d3] => { results := [.lit (.bool true)], args := [d1, d2, d3] }
  | _ => none }
def cellFitsRow : OpenClaim := { program := "ytdgjpncflkpjfaadoor", sum := "489ef640d50fa2c37e73792bac3ae54056a9d72bcf518b37e86eed8bdde28d83", func := "douane/douanelaw15.CellFits", spec := "cellFits", inPlace := ["internal/abi.NoEscape", "internal/bytealg.MakeNoZero"], unfollowed := true, recurses := true, named := ["douane/cell.plain"], loops := true, apart := false, laid := [("douane/cell.plain", laid_douane_cell_plain)] }
def CellFitsSaid : Prop := cellFitsRow.holds Tryd.pinned (OpenSpec.ofChange cellFitsSpec)

/-- ITS FALSE NEIGHBOUR: 'it returns false'. Refute it at one input. -/
def cellFitsWrong : ChangeSpec := { name := "cellFits", fn := fun _ => fun
  | [d1, d2, d3] => { results := [.lit (.bool false)], args := [d1, d2, d3] }
  | _ => none }
def CellFitsWrongFalsely : Prop := cellFitsRow.holds Tryd.pinned (OpenSpec.ofChange cellFitsWrong)

/-- 'douanelaw15.CellLists': WHATEVER THE INPUT: true; the input reads as it did. -/
def cellListsSpec : ChangeSpec := { name := "cellLists", fn := fun _ => fun
  | [d1, d2] => { results := [.lit (.bool true)], args := [d1, d2] }
  | _ => none }
def cellListsRow : OpenClaim := { program := "ytdgjpncflkpjfaadoor", sum := "489ef640d50fa2c37e73792bac3ae54056a9d72bcf518b37e86eed8bdde28d83", func := "douane/douanelaw15.CellLists", spec := "cellLists", inPlace := ["internal/abi.NoEscape", "internal/bytealg.MakeNoZero"], unfollowed := true, recurses := true, named := ["douane/cell.plain"], loops := true, apart := false, laid := [("douane/cell.plain", laid_douane_cell_plain)] }
def CellListsSaid : Prop := cellListsRow.holds Tryd.pinned (OpenSpec.ofChange cellListsSpec)

/-- ITS FALSE NEIGHBOUR: 'it returns false'. Refute it at one input. -/
def cellListsWrong : ChangeSpec := { name := "cellLists", fn := fun _ => fun
  | [d1, d2] => { results := [.lit (.bool false)], args := [d1, d2] }
  | _ => none }
def CellListsWrongFalsely : Prop := cellListsRow.holds Tryd.pinned (OpenSpec.ofChange cellListsWrong)

/- THE SECOND FORM. 'bulk': how many values and letters a reading holds, each counted each time it is reached (what is shared counts as often as it is met; a slice's spare places count too). A statement '..UptoSaid' is the law's where the arguments, and the package variables that the reading takes, are together of bulk at most 1048576: NARROWER than '..Said'. Prove '..Said' where nothing that the law and all that it calls make is longer than what came in: it says more and counts as full. Else prove '..UptoSaid'. A law counts once. -/
mutual
def uptoBulk {H : Type} : DataW H → Nat
  | .lit (.string bytes) => bytes.length + 1
  | .lit _ => 1
  | .nil => 1
  | .ptr d => uptoBulk d + 1
  | .slice elems spare => uptoBulkAll elems + uptoBulkAll spare + 1
  | .agg parts => uptoBulkAll parts + 1
  | .iface _ d => uptoBulk d + 1
  | .map entries => uptoBulkEntries entries + 1
  | .held _ => 1
def uptoBulkAll {H : Type} : List (DataW H) → Nat
  | [] => 0
  | d :: r => uptoBulk d + uptoBulkAll r
def uptoBulkEntries {H : Type} : List (Lit × DataW H) → Nat
  | [] => 0
  | x :: r => uptoBulkEntry x + uptoBulkEntries r
def uptoBulkEntry {H : Type} : Lit × DataW H → Nat
  | (.string bytes, d) => bytes.length + uptoBulk d + 1
  | (_, d) => uptoBulk d + 1
 end
def uptoSmall : (H : Type) → List (DataW H) → Bool := fun _ ds => decide (uptoBulkAll ds ≤ 1048576)
def OpenSpec.upto (s : _root_.Go.ChangeSpec) : _root_.Go.OpenSpec := { _root_.Go.OpenSpec.ofChange s with cond := some uptoSmall }

/-- 'douanelaw15.CellFits', WHERE WHAT IT READS IS OF BULK AT MOST 1048576: true; the input reads as it did. -/
def cellFitsUptoRow : OpenClaim := { program := "ytdgjpncflkpjfaadoor", sum := "489ef640d50fa2c37e73792bac3ae54056a9d72bcf518b37e86eed8bdde28d83", func := "douane/douanelaw15.CellFits", spec := "cellFits", inPlace := ["internal/abi.NoEscape", "internal/bytealg.MakeNoZero"], unfollowed := true, recurses := true, named := ["douane/cell.plain"], loops := true, apart := false, laid := [("douane/cell.plain", laid_douane_cell_plain)], narrowed := true }
def CellFitsUptoSaid : Prop := cellFitsUptoRow.holds Tryd.pinned (OpenSpec.upto cellFitsSpec)

/-- 'douanelaw15.CellLists', WHERE WHAT IT READS IS OF BULK AT MOST 1048576: true; the input reads as it did. -/
def cellListsUptoRow : OpenClaim := { program := "ytdgjpncflkpjfaadoor", sum := "489ef640d50fa2c37e73792bac3ae54056a9d72bcf518b37e86eed8bdde28d83", func := "douane/douanelaw15.CellLists", spec := "cellLists", inPlace := ["internal/abi.NoEscape", "internal/bytealg.MakeNoZero"], unfollowed := true, recurses := true, named := ["douane/cell.plain"], loops := true, apart := false, laid := [("douane/cell.plain", laid_douane_cell_plain)], narrowed := true }
def CellListsUptoSaid : Prop := cellListsUptoRow.holds Tryd.pinned (OpenSpec.upto cellListsSpec)

end Rows
end Go.Proofs.YtdgjpncflkpjfaaDoor
