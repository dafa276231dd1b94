/-
  NARROWER THAN 'FOR EVERY INPUT', by the rows' own cells (each row's printed sentence says how): VtextBack: loops · VtextBehind: loops · VtextLists: loops.
  DERIVED. THE GIVEN ROWS OF THIS SEAT. 5 by the template 'for every input the law returns true; each argument reads behind the call as it read before'; 0 by the template 'total and deterministic' (their statements: YtgdgfomoeohdeaaTotals.lean).
  GIVEN WITH THE SEED: the statements are not yours to turn. If you find one false, say at which input.
  Laid BY PROGRAM, IN A SANDBOX (cutbox-rows.mjs): the forced cells as the released guide's own fill.sh prints them over the translation 91fe46621d6ea97a… (all of the seat's roots in one cut). By AI agents, Wed Nov 11 2026. No macro, syntax, notation, axiom, sorry.
-/
import Derived.Test.YtgdgfomoeohdeaaChecked
import GoSem.Claim
import GoSem.ClaimJoined
import GoSem.ClaimMapViews
import Derived.JoinedTies
import Derived.KernelRfl
namespace Go.Proofs.Ytgdgfomoeohdeaa
/- THE CELL 'sum', in the pinned program and in every row, IS THE sha256 OF THE DUMP (.gsa) THAT YtgdgfomoeohdeaaProg.lean LOADS. Nothing in Lean hashes anything: it is a label: what it is worth is what the hold of that sum in a sandbox is worth. -/
noncomputable def Try.pinned : Pinned := { name := "ytgdgfomoeohdeaa", sum := "91fe46621d6ea97ac6281c2f3238c72746b33b5a8fd547542518b700a6826cea", checked := Try.checked }
namespace Rows
def none {H : Type} : Left H := { results := [], args := [] }

/-- 'douanelaw14.VtextScans': WHATEVER THE INPUT: true; the input reads as it did. -/
def vtextScansSpec : ChangeSpec := { name := "vtextScans", fn := fun _ => fun
  | [d1, d2] => { results := [.lit (.bool true)], args := [d1, d2] }
  | _ => none }
def vtextScansRow : OpenClaim := { program := "ytgdgfomoeohdeaa", sum := "91fe46621d6ea97ac6281c2f3238c72746b33b5a8fd547542518b700a6826cea", func := "douane/douanelaw14.VtextScans", spec := "vtextScans", inPlace := ["internal/abi.NoEscape"], unfollowed := true, recurses := true, apart := false }
def VtextScansSaid : Prop := vtextScansRow.holds Try.pinned (OpenSpec.ofChange vtextScansSpec)

/-- ITS FALSE NEIGHBOUR: 'it returns false'. Refute it at one input. -/
def vtextScansWrong : ChangeSpec := { name := "vtextScans", fn := fun _ => fun
  | [d1, d2] => { results := [.lit (.bool false)], args := [d1, d2] }
  | _ => none }
def VtextScansWrongFalsely : Prop := vtextScansRow.holds Try.pinned (OpenSpec.ofChange vtextScansWrong)

/-- 'douanelaw14.VtextParses': WHATEVER THE INPUT: true; the input reads as it did. -/
def vtextParsesSpec : ChangeSpec := { name := "vtextParses", fn := fun _ => fun
  | [d] => { results := [.lit (.bool true)], args := [d] }
  | _ => none }
def vtextParsesRow : OpenClaim := { program := "ytgdgfomoeohdeaa", sum := "91fe46621d6ea97ac6281c2f3238c72746b33b5a8fd547542518b700a6826cea", func := "douane/douanelaw14.VtextParses", spec := "vtextParses", inPlace := ["internal/abi.NoEscape"], unfollowed := true, recurses := true, apart := false }
def VtextParsesSaid : Prop := vtextParsesRow.holds Try.pinned (OpenSpec.ofChange vtextParsesSpec)

/-- ITS FALSE NEIGHBOUR: 'it returns false'. Refute it at one input. -/
def vtextParsesWrong : ChangeSpec := { name := "vtextParses", fn := fun _ => fun
  | [d] => { results := [.lit (.bool false)], args := [d] }
  | _ => none }
def VtextParsesWrongFalsely : Prop := vtextParsesRow.holds Try.pinned (OpenSpec.ofChange vtextParsesWrong)

/-- 'douanelaw14.VtextBack': WHATEVER THE INPUT: true; the input reads as it did. -/
def vtextBackSpec : ChangeSpec := { name := "vtextBack", fn := fun _ => fun
  | [d1, d2] => { results := [.lit (.bool true)], args := [d1, d2] }
  | _ => none }
def vtextBackRow : OpenClaim := { program := "ytgdgfomoeohdeaa", sum := "91fe46621d6ea97ac6281c2f3238c72746b33b5a8fd547542518b700a6826cea", func := "douane/douanelaw14.VtextBack", spec := "vtextBack", inPlace := ["internal/abi.NoEscape", "internal/bytealg.MakeNoZero"], unfollowed := true, recurses := true, loops := true, apart := false }
def VtextBackSaid : Prop := vtextBackRow.holds Try.pinned (OpenSpec.ofChange vtextBackSpec)

/-- ITS FALSE NEIGHBOUR: 'it returns false'. Refute it at one input. -/
def vtextBackWrong : ChangeSpec := { name := "vtextBack", fn := fun _ => fun
  | [d1, d2] => { results := [.lit (.bool false)], args := [d1, d2] }
  | _ => none }
def VtextBackWrongFalsely : Prop := vtextBackRow.holds Try.pinned (OpenSpec.ofChange vtextBackWrong)

/-- 'douanelaw14.VtextBehind': WHATEVER THE INPUT: true; the input reads as it did. -/
def vtextBehindSpec : ChangeSpec := { name := "vtextBehind", fn := fun _ => fun
  | [d1, d2] => { results := [.lit (.bool true)], args := [d1, d2] }
  | _ => none }
def vtextBehindRow : OpenClaim := { program := "ytgdgfomoeohdeaa", sum := "91fe46621d6ea97ac6281c2f3238c72746b33b5a8fd547542518b700a6826cea", func := "douane/douanelaw14.VtextBehind", spec := "vtextBehind", inPlace := ["internal/abi.NoEscape", "internal/bytealg.MakeNoZero"], unfollowed := true, recurses := true, loops := true, apart := false }
def VtextBehindSaid : Prop := vtextBehindRow.holds Try.pinned (OpenSpec.ofChange vtextBehindSpec)

/-- ITS FALSE NEIGHBOUR: 'it returns false'. Refute it at one input. -/
def vtextBehindWrong : ChangeSpec := { name := "vtextBehind", fn := fun _ => fun
  | [d1, d2] => { results := [.lit (.bool false)], args := [d1, d2] }
  | _ => none }
def VtextBehindWrongFalsely : Prop := vtextBehindRow.holds Try.pinned (OpenSpec.ofChange vtextBehindWrong)

/-- 'douanelaw14.VtextLists': WHATEVER THE INPUT: true; the input reads as it did. -/
def vtextListsSpec : ChangeSpec := { name := "vtextLists", fn := fun _ => fun
  | [d1, d2] => { results := [.lit (.bool true)], args := [d1, d2] }
  | _ => none }
def vtextListsRow : OpenClaim := { program := "ytgdgfomoeohdeaa", sum := "91fe46621d6ea97ac6281c2f3238c72746b33b5a8fd547542518b700a6826cea", func := "douane/douanelaw14.VtextLists", spec := "vtextLists", inPlace := ["internal/abi.NoEscape", "internal/bytealg.MakeNoZero"], unfollowed := true, recurses := true, loops := true, apart := false }
def VtextListsSaid : Prop := vtextListsRow.holds Try.pinned (OpenSpec.ofChange vtextListsSpec)

/-- ITS FALSE NEIGHBOUR: 'it returns false'. Refute it at one input. -/
def vtextListsWrong : ChangeSpec := { name := "vtextLists", fn := fun _ => fun
  | [d1, d2] => { results := [.lit (.bool false)], args := [d1, d2] }
  | _ => none }
def VtextListsWrongFalsely : Prop := vtextListsRow.holds Try.pinned (OpenSpec.ofChange vtextListsWrong)

/- THE SECOND FORM. 'bulk': how many values and letters a reading holds, each counted each time it is reached (what is shared counts as often as it is met; a slice's spare places count too). A statement '..UptoSaid' is the law's where the arguments, and the package variables that the reading takes, are together of bulk at most 1048576: NARROWER than '..Said'. Prove '..Said' where nothing that the law and all that it calls make is longer than what came in: it says more and counts as full. Else prove '..UptoSaid'. A law counts once. -/
mutual
def uptoBulk {H : Type} : DataW H → Nat
  | .lit (.string bytes) => bytes.length + 1
  | .lit _ => 1
  | .nil => 1
  | .ptr d => uptoBulk d + 1
  | .slice elems spare => uptoBulkAll elems + uptoBulkAll spare + 1
  | .agg parts => uptoBulkAll parts + 1
  | .iface _ d => uptoBulk d + 1
  | .map entries => uptoBulkEntries entries + 1
  | .held _ => 1
def uptoBulkAll {H : Type} : List (DataW H) → Nat
  | [] => 0
  | d :: r => uptoBulk d + uptoBulkAll r
def uptoBulkEntries {H : Type} : List (Lit × DataW H) → Nat
  | [] => 0
  | x :: r => uptoBulkEntry x + uptoBulkEntries r
def uptoBulkEntry {H : Type} : Lit × DataW H → Nat
  | (.string bytes, d) => bytes.length + uptoBulk d + 1
  | (_, d) => uptoBulk d + 1
 end
def uptoSmall : (H : Type) → List (DataW H) → Bool := fun _ ds => decide (uptoBulkAll ds ≤ 1048576)
def OpenSpec.upto (s : _root_.Go.ChangeSpec) : _root_.Go.OpenSpec := { _root_.Go.OpenSpec.ofChange s with cond := some uptoSmall }

/-- 'douanelaw14.VtextScans', WHERE WHAT IT READS IS OF BULK AT MOST 1048576: true; the input reads as it did. -/
def vtextScansUptoRow : OpenClaim := { program := "ytgdgfomoeohdeaa", sum := "91fe46621d6ea97ac6281c2f3238c72746b33b5a8fd547542518b700a6826cea", func := "douane/douanelaw14.VtextScans", spec := "vtextScans", inPlace := ["internal/abi.NoEscape"], unfollowed := true, recurses := true, apart := false, narrowed := true }
def VtextScansUptoSaid : Prop := vtextScansUptoRow.holds Try.pinned (OpenSpec.upto vtextScansSpec)

/-- 'douanelaw14.VtextParses', WHERE WHAT IT READS IS OF BULK AT MOST 1048576: true; the input reads as it did. -/
def vtextParsesUptoRow : OpenClaim := { program := "ytgdgfomoeohdeaa", sum := "91fe46621d6ea97ac6281c2f3238c72746b33b5a8fd547542518b700a6826cea", func := "douane/douanelaw14.VtextParses", spec := "vtextParses", inPlace := ["internal/abi.NoEscape"], unfollowed := true, recurses := true, apart := false, narrowed := true }
def VtextParsesUptoSaid : Prop := vtextParsesUptoRow.holds Try.pinned (OpenSpec.upto vtextParsesSpec)

/-- 'douanelaw14.VtextBack', WHERE WHAT IT READS IS OF BULK AT MOST 1048576: true; the input reads as it did. -/
def vtextBackUptoRow : OpenClaim := { program := "ytgdgfomoeohdeaa", sum := "91fe46621d6ea97ac6281c2f3238c72746b33b5a8fd547542518b700a6826cea", func := "douane/douanelaw14.VtextBack", spec := "vtextBack", inPlace := ["internal/abi.NoEscape", "internal/bytealg.MakeNoZero"], unfollowed := true, recurses := true, loops := true, apart := false, narrowed := true }
def VtextBackUptoSaid : Prop := vtextBackUptoRow.holds Try.pinned (OpenSpec.upto vtextBackSpec)

/-- 'douanelaw14.VtextBehind', WHERE WHAT IT READS IS OF BULK AT MOST 1048576: true; the input reads as it did. -/
def vtextBehindUptoRow : OpenClaim := { program := "ytgdgfomoeohdeaa", sum := "91fe46621d6ea97ac6281c2f3238c72746b33b5a8fd547542518b700a6826cea", func := "douane/douanelaw14.VtextBehind", spec := "vtextBehind", inPlace := ["internal/abi.NoEscape", "internal/bytealg.MakeNoZero"], unfollowed := true, recurses := true, loops := true, apart := false, narrowed := true }
def VtextBehindUptoSaid : Prop := vtextBehindUptoRow.holds Try.pinned (OpenSpec.upto vtextBehindSpec)

/-- 'douanelaw14.VtextLists', WHERE WHAT IT READS IS OF BULK AT MOST 1048576: true; the input reads as it did. -/
def vtextListsUptoRow : OpenClaim := { program := "ytgdgfomoeohdeaa", sum := "91fe46621d6ea97ac6281c2f3238c72746b33b5a8fd547542518b700a6826cea", func := "douane/douanelaw14.VtextLists", spec := "vtextLists", inPlace := ["internal/abi.NoEscape", "internal/bytealg.MakeNoZero"], unfollowed := true, recurses := true, loops := true, apart := false, narrowed := true }
def VtextListsUptoSaid : Prop := vtextListsUptoRow.holds Try.pinned (OpenSpec.upto vtextListsSpec)

end Rows
end Go.Proofs.Ytgdgfomoeohdeaa
