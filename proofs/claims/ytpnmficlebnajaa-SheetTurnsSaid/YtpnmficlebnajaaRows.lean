/-
  No cell of these rows narrows 'for every input' (looked for: loops, veiled, ifaces, maps, wideKeys, modest, calm, conditions, laid).
  DERIVED. THE GIVEN ROWS OF THIS SEAT. 5 by the template 'for every input the law returns true; each argument reads behind the call as it read before'; 0 by the template 'total and deterministic' (their statements: YtpnmficlebnajaaTotals.lean).
  GIVEN WITH THE SEED: the statements are not yours to turn. If you find one false, say at which input.
  Laid BY PROGRAM, IN A SANDBOX (cutbox-rows.mjs): the forced cells as the released guide's own fill.sh prints them over the translation 665f99839229434e… (all of the seat's roots in one cut). By AI agents, Wed Nov 11 2026. No macro, syntax, notation, axiom, sorry.
-/
import Derived.Test.YtpnmficlebnajaaChecked
import GoSem.Claim
import GoSem.ClaimJoined
import GoSem.ClaimMapViews
import Derived.JoinedTies
import Derived.KernelRfl
namespace Go.Proofs.Ytpnmficlebnajaa
/- THE CELL 'sum', in the pinned program and in every row, IS THE sha256 OF THE DUMP (.gsa) THAT YtpnmficlebnajaaProg.lean LOADS. Nothing in Lean hashes anything: it is a label: what it is worth is what the hold of that sum in a sandbox is worth. -/
noncomputable def Try.pinned : Pinned := { name := "ytpnmficlebnajaa", sum := "665f99839229434e78c36c04c124babccfa62c358ae7d42acb3464e8891aad39", checked := Try.checked }
namespace Rows
def none {H : Type} : Left H := { results := [], args := [] }

/-- 'vulgatelaw23.SheetPrints': WHATEVER THE INPUT: true; the input reads as it did. -/
def sheetPrintsSpec : ChangeSpec := { name := "sheetPrints", fn := fun _ => fun
  | [d] => { results := [.lit (.bool true)], args := [d] }
  | _ => none }
def sheetPrintsRow : OpenClaim := { program := "ytpnmficlebnajaa", sum := "665f99839229434e78c36c04c124babccfa62c358ae7d42acb3464e8891aad39", func := "vulgate/vulgatelaw23.SheetPrints", spec := "sheetPrints", inPlace := ["internal/bytealg.IndexByte", "internal/bytealg.Compare", "internal/abi.NoEscape", "internal/bytealg.IndexByteString"], plainKeys := false, apart := false }
def SheetPrintsSaid : Prop := sheetPrintsRow.holds Try.pinned (OpenSpec.ofChange sheetPrintsSpec)

/-- ITS FALSE NEIGHBOUR: 'it returns false'. Refute it at one input. -/
def sheetPrintsWrong : ChangeSpec := { name := "sheetPrints", fn := fun _ => fun
  | [d] => { results := [.lit (.bool false)], args := [d] }
  | _ => none }
def SheetPrintsWrongFalsely : Prop := sheetPrintsRow.holds Try.pinned (OpenSpec.ofChange sheetPrintsWrong)

/-- 'vulgatelaw23.SheetParses': WHATEVER THE INPUT: true; the input reads as it did. -/
def sheetParsesSpec : ChangeSpec := { name := "sheetParses", fn := fun _ => fun
  | [d] => { results := [.lit (.bool true)], args := [d] }
  | _ => none }
def sheetParsesRow : OpenClaim := { program := "ytpnmficlebnajaa", sum := "665f99839229434e78c36c04c124babccfa62c358ae7d42acb3464e8891aad39", func := "vulgate/vulgatelaw23.SheetParses", spec := "sheetParses", inPlace := ["internal/bytealg.IndexByteString", "internal/abi.NoEscape", "internal/bytealg.IndexByte", "internal/bytealg.Compare"], plainKeys := false, apart := false }
def SheetParsesSaid : Prop := sheetParsesRow.holds Try.pinned (OpenSpec.ofChange sheetParsesSpec)

/-- ITS FALSE NEIGHBOUR: 'it returns false'. Refute it at one input. -/
def sheetParsesWrong : ChangeSpec := { name := "sheetParses", fn := fun _ => fun
  | [d] => { results := [.lit (.bool false)], args := [d] }
  | _ => none }
def SheetParsesWrongFalsely : Prop := sheetParsesRow.holds Try.pinned (OpenSpec.ofChange sheetParsesWrong)

/-- 'vulgatelaw23.SheetBack': WHATEVER THE INPUT: true; the input reads as it did. -/
def sheetBackSpec : ChangeSpec := { name := "sheetBack", fn := fun _ => fun
  | [d1, d2] => { results := [.lit (.bool true)], args := [d1, d2] }
  | _ => none }
def sheetBackRow : OpenClaim := { program := "ytpnmficlebnajaa", sum := "665f99839229434e78c36c04c124babccfa62c358ae7d42acb3464e8891aad39", func := "vulgate/vulgatelaw23.SheetBack", spec := "sheetBack", inPlace := ["internal/bytealg.IndexByte", "internal/bytealg.Compare", "internal/abi.NoEscape", "internal/bytealg.IndexByteString"], plainKeys := false, apart := false }
def SheetBackSaid : Prop := sheetBackRow.holds Try.pinned (OpenSpec.ofChange sheetBackSpec)

/-- ITS FALSE NEIGHBOUR: 'it returns false'. Refute it at one input. -/
def sheetBackWrong : ChangeSpec := { name := "sheetBack", fn := fun _ => fun
  | [d1, d2] => { results := [.lit (.bool false)], args := [d1, d2] }
  | _ => none }
def SheetBackWrongFalsely : Prop := sheetBackRow.holds Try.pinned (OpenSpec.ofChange sheetBackWrong)

/-- 'vulgatelaw23.SheetDiffs': WHATEVER THE INPUT: true; the input reads as it did. -/
def sheetDiffsSpec : ChangeSpec := { name := "sheetDiffs", fn := fun _ => fun
  | [d1, d2, d3] => { results := [.lit (.bool true)], args := [d1, d2, d3] }
  | _ => none }
def sheetDiffsRow : OpenClaim := { program := "ytpnmficlebnajaa", sum := "665f99839229434e78c36c04c124babccfa62c358ae7d42acb3464e8891aad39", func := "vulgate/vulgatelaw23.SheetDiffs", spec := "sheetDiffs", inPlace := ["internal/bytealg.IndexByte", "internal/bytealg.Compare", "internal/abi.NoEscape", "internal/bytealg.IndexByteString"], unfollowed := true, recurses := true, plainKeys := false, apart := false }
def SheetDiffsSaid : Prop := sheetDiffsRow.holds Try.pinned (OpenSpec.ofChange sheetDiffsSpec)

/-- ITS FALSE NEIGHBOUR: 'it returns false'. Refute it at one input. -/
def sheetDiffsWrong : ChangeSpec := { name := "sheetDiffs", fn := fun _ => fun
  | [d1, d2, d3] => { results := [.lit (.bool false)], args := [d1, d2, d3] }
  | _ => none }
def SheetDiffsWrongFalsely : Prop := sheetDiffsRow.holds Try.pinned (OpenSpec.ofChange sheetDiffsWrong)

/-- 'vulgatelaw23.SheetTurns': WHATEVER THE INPUT: true; the input reads as it did. -/
def sheetTurnsSpec : ChangeSpec := { name := "sheetTurns", fn := fun _ => fun
  | [d1, d2] => { results := [.lit (.bool true)], args := [d1, d2] }
  | _ => none }
def sheetTurnsRow : OpenClaim := { program := "ytpnmficlebnajaa", sum := "665f99839229434e78c36c04c124babccfa62c358ae7d42acb3464e8891aad39", func := "vulgate/vulgatelaw23.SheetTurns", spec := "sheetTurns", inPlace := ["internal/bytealg.IndexByte", "internal/bytealg.Compare", "internal/abi.NoEscape", "internal/bytealg.IndexByteString"], unfollowed := true, recurses := true, plainKeys := false, apart := false }
def SheetTurnsSaid : Prop := sheetTurnsRow.holds Try.pinned (OpenSpec.ofChange sheetTurnsSpec)

/-- ITS FALSE NEIGHBOUR: 'it returns false'. Refute it at one input. -/
def sheetTurnsWrong : ChangeSpec := { name := "sheetTurns", fn := fun _ => fun
  | [d1, d2] => { results := [.lit (.bool false)], args := [d1, d2] }
  | _ => none }
def SheetTurnsWrongFalsely : Prop := sheetTurnsRow.holds Try.pinned (OpenSpec.ofChange sheetTurnsWrong)

/- THE SECOND FORM. 'bulk': how many values and letters a reading holds, each counted each time it is reached (what is shared counts as often as it is met; a slice's spare places count too). A statement '..UptoSaid' is the law's where the arguments, and the package variables that the reading takes, are together of bulk at most 1048576: NARROWER than '..Said'. Prove '..Said' where nothing that the law and all that it calls make is longer than what came in: it says more and counts as full. Else prove '..UptoSaid'. A law counts once. -/
mutual
def uptoBulk {H : Type} : DataW H → Nat
  | .lit (.string bytes) => bytes.length + 1
  | .lit _ => 1
  | .nil => 1
  | .ptr d => uptoBulk d + 1
  | .slice elems spare => uptoBulkAll elems + uptoBulkAll spare + 1
  | .agg parts => uptoBulkAll parts + 1
  | .iface _ d => uptoBulk d + 1
  | .map entries => uptoBulkEntries entries + 1
  | .held _ => 1
def uptoBulkAll {H : Type} : List (DataW H) → Nat
  | [] => 0
  | d :: r => uptoBulk d + uptoBulkAll r
def uptoBulkEntries {H : Type} : List (Lit × DataW H) → Nat
  | [] => 0
  | x :: r => uptoBulkEntry x + uptoBulkEntries r
def uptoBulkEntry {H : Type} : Lit × DataW H → Nat
  | (.string bytes, d) => bytes.length + uptoBulk d + 1
  | (_, d) => uptoBulk d + 1
 end
def uptoSmall : (H : Type) → List (DataW H) → Bool := fun _ ds => decide (uptoBulkAll ds ≤ 1048576)
def OpenSpec.upto (s : _root_.Go.ChangeSpec) : _root_.Go.OpenSpec := { _root_.Go.OpenSpec.ofChange s with cond := some uptoSmall }

/-- 'vulgatelaw23.SheetPrints', WHERE WHAT IT READS IS OF BULK AT MOST 1048576: true; the input reads as it did. -/
def sheetPrintsUptoRow : OpenClaim := { program := "ytpnmficlebnajaa", sum := "665f99839229434e78c36c04c124babccfa62c358ae7d42acb3464e8891aad39", func := "vulgate/vulgatelaw23.SheetPrints", spec := "sheetPrints", inPlace := ["internal/bytealg.IndexByte", "internal/bytealg.Compare", "internal/abi.NoEscape", "internal/bytealg.IndexByteString"], plainKeys := false, apart := false, narrowed := true }
def SheetPrintsUptoSaid : Prop := sheetPrintsUptoRow.holds Try.pinned (OpenSpec.upto sheetPrintsSpec)

/-- 'vulgatelaw23.SheetParses', WHERE WHAT IT READS IS OF BULK AT MOST 1048576: true; the input reads as it did. -/
def sheetParsesUptoRow : OpenClaim := { program := "ytpnmficlebnajaa", sum := "665f99839229434e78c36c04c124babccfa62c358ae7d42acb3464e8891aad39", func := "vulgate/vulgatelaw23.SheetParses", spec := "sheetParses", inPlace := ["internal/bytealg.IndexByteString", "internal/abi.NoEscape", "internal/bytealg.IndexByte", "internal/bytealg.Compare"], plainKeys := false, apart := false, narrowed := true }
def SheetParsesUptoSaid : Prop := sheetParsesUptoRow.holds Try.pinned (OpenSpec.upto sheetParsesSpec)

/-- 'vulgatelaw23.SheetBack', WHERE WHAT IT READS IS OF BULK AT MOST 1048576: true; the input reads as it did. -/
def sheetBackUptoRow : OpenClaim := { program := "ytpnmficlebnajaa", sum := "665f99839229434e78c36c04c124babccfa62c358ae7d42acb3464e8891aad39", func := "vulgate/vulgatelaw23.SheetBack", spec := "sheetBack", inPlace := ["internal/bytealg.IndexByte", "internal/bytealg.Compare", "internal/abi.NoEscape", "internal/bytealg.IndexByteString"], plainKeys := false, apart := false, narrowed := true }
def SheetBackUptoSaid : Prop := sheetBackUptoRow.holds Try.pinned (OpenSpec.upto sheetBackSpec)

/-- 'vulgatelaw23.SheetDiffs', WHERE WHAT IT READS IS OF BULK AT MOST 1048576: true; the input reads as it did. -/
def sheetDiffsUptoRow : OpenClaim := { program := "ytpnmficlebnajaa", sum := "665f99839229434e78c36c04c124babccfa62c358ae7d42acb3464e8891aad39", func := "vulgate/vulgatelaw23.SheetDiffs", spec := "sheetDiffs", inPlace := ["internal/bytealg.IndexByte", "internal/bytealg.Compare", "internal/abi.NoEscape", "internal/bytealg.IndexByteString"], unfollowed := true, recurses := true, plainKeys := false, apart := false, narrowed := true }
def SheetDiffsUptoSaid : Prop := sheetDiffsUptoRow.holds Try.pinned (OpenSpec.upto sheetDiffsSpec)

/-- 'vulgatelaw23.SheetTurns', WHERE WHAT IT READS IS OF BULK AT MOST 1048576: true; the input reads as it did. -/
def sheetTurnsUptoRow : OpenClaim := { program := "ytpnmficlebnajaa", sum := "665f99839229434e78c36c04c124babccfa62c358ae7d42acb3464e8891aad39", func := "vulgate/vulgatelaw23.SheetTurns", spec := "sheetTurns", inPlace := ["internal/bytealg.IndexByte", "internal/bytealg.Compare", "internal/abi.NoEscape", "internal/bytealg.IndexByteString"], unfollowed := true, recurses := true, plainKeys := false, apart := false, narrowed := true }
def SheetTurnsUptoSaid : Prop := sheetTurnsUptoRow.holds Try.pinned (OpenSpec.upto sheetTurnsSpec)

end Rows
end Go.Proofs.Ytpnmficlebnajaa
