/-
  NARROWER THAN 'FOR EVERY INPUT', by the rows' own cells (each row's printed sentence says how): RequestReads: laid · RequestReplySame: laid · RequestReplyReads: laid · RequestReplyBytes: laid.
  DERIVED. THE GIVEN ROWS OF THIS SEAT. 4 by the template 'for every input the law returns true; each argument reads behind the call as it read before'; 0 by the template 'total and deterministic' (their statements: YtbfefdedjcppaaaGreatDoorTotals.lean).
  GIVEN WITH THE SEED: the statements are not yours to turn. If you find one false, say at which input.
  Laid BY PROGRAM, IN A SANDBOX (cutbox-rows.mjs): the forced cells as the released guide's own fill.sh prints them over the translation 2c6360a2df2f35e4… (all of the seat's roots in one cut). By AI agents, Wed Nov 11 2026. No macro, syntax, notation, axiom, sorry.
-/
import Derived.Test.YtbfefdedjcppaaaGreatDoorChecked
import GoSem.PinnedTables
import GoSem.Claim
import GoSem.ClaimJoined
import GoSem.ClaimMapViews
import Derived.JoinedTies
import Derived.KernelRfl
namespace Go.Proofs.YtbfefdedjcppaaaGreatDoor
/- THE CELL 'sum', in the pinned program and in every row, IS THE sha256 OF THE DUMP (.gsa) THAT YtbfefdedjcppaaaGreatDoorProg.lean LOADS. Nothing in Lean hashes anything: it is a label: what it is worth is what the hold of that sum in a sandbox is worth. -/
noncomputable def Tryz.pinned : Pinned := { name := "ytbfefdedjcppaaagreatdoor", sum := "2c6360a2df2f35e414a7c7d0071661c548e1a3b7b14f12bf5dcc8f73978cc1b5", checked := Tryz.checked }
namespace Rows
def none {H : Type} : Left H := { results := [], args := [] }

/- WHAT THE LISTED PACKAGE-LEVEL VARIABLES READ AS WHEN THE CALL BEGINS. Each datum BY PROGRAM (the guide's laid-datum.mjs) off the statement by which the dump's own 'gosem.cut.vars' lays the variable. In a bare row this is a premise. The card (YtbfefdedjcppaaaGreatDoorCards.lean) ties it to the program's text. -/
def laid_unicode_utf8_acceptRanges {H : Type} : DataW H := .agg [.agg [.lit (.int .u8 128), .lit (.int .u8 191)], .agg [.lit (.int .u8 160), .lit (.int .u8 191)], .agg [.lit (.int .u8 128), .lit (.int .u8 159)], .agg [.lit (.int .u8 144), .lit (.int .u8 191)], .agg [.lit (.int .u8 128), .lit (.int .u8 143)], .agg [.lit (.int .u8 0), .lit (.int .u8 0)], .agg [.lit (.int .u8 0), .lit (.int .u8 0)], .agg [.lit (.int .u8 0), .lit (.int .u8 0)], .agg [.lit (.int .u8 0), .lit (.int .u8 0)], .agg [.lit (.int .u8 0), .lit (.int .u8 0)], .agg [.lit (.int .u8 0), .lit (.int .u8 0)], .agg [.lit (.int .u8 0), .lit (.int .u8 0)], .agg [.lit (.int .u8 0), .lit (.int .u8 0)], .agg [.lit (.int .u8 0), .lit (.int .u8 0)], .agg [.lit (.int .u8 0), .lit (.int .u8 0)], .agg [.lit (.int .u8 0), .lit (.int .u8 0)]]
/-- One of Go's own tables, pinned by name: the form's constant. -/
def laid_unicode_utf8_first : DataW Unit := Go.Pinned.utf8First

/-- 'vulgatelaw26.RequestReads': WHATEVER THE INPUT: true; the input reads as it did. -/
def requestReadsSpec : ChangeSpec := { name := "requestReads", fn := fun _ => fun
  | [d] => { results := [.lit (.bool true)], args := [d] }
  | _ => none }
def requestReadsRow : OpenClaim := { program := "ytbfefdedjcppaaagreatdoor", sum := "2c6360a2df2f35e414a7c7d0071661c548e1a3b7b14f12bf5dcc8f73978cc1b5", func := "vulgate/vulgatelaw26.RequestReads", spec := "requestReads", inPlace := ["internal/bytealg.CountString", "internal/bytealg.IndexByteString", "internal/bytealg.IndexString", "internal/bytealg.IndexByte"], unfollowed := true, recurses := true, named := ["unicode/utf8.first", "unicode/utf8.acceptRanges", "internal/bytealg.MaxLen"], apart := false, laid := [("unicode/utf8.acceptRanges", laid_unicode_utf8_acceptRanges), ("unicode/utf8.first", laid_unicode_utf8_first)] }
def RequestReadsSaid : Prop := requestReadsRow.holds Tryz.pinned (OpenSpec.ofChange requestReadsSpec)

/-- ITS FALSE NEIGHBOUR: 'it returns false'. Refute it at one input. -/
def requestReadsWrong : ChangeSpec := { name := "requestReads", fn := fun _ => fun
  | [d] => { results := [.lit (.bool false)], args := [d] }
  | _ => none }
def RequestReadsWrongFalsely : Prop := requestReadsRow.holds Tryz.pinned (OpenSpec.ofChange requestReadsWrong)

/-- 'vulgatelaw26.RequestReplySame': WHATEVER THE INPUT: true; the input reads as it did. -/
def requestReplySameSpec : ChangeSpec := { name := "requestReplySame", fn := fun _ => fun
  | [d1, d2, d3, d4] => { results := [.lit (.bool true)], args := [d1, d2, d3, d4] }
  | _ => none }
def requestReplySameRow : OpenClaim := { program := "ytbfefdedjcppaaagreatdoor", sum := "2c6360a2df2f35e414a7c7d0071661c548e1a3b7b14f12bf5dcc8f73978cc1b5", func := "vulgate/vulgatelaw26.RequestReplySame", spec := "requestReplySame", inPlace := ["internal/bytealg.IndexByte", "internal/bytealg.IndexByteString", "internal/bytealg.IndexString", "internal/bytealg.CountString"], unfollowed := true, recurses := true, named := ["unicode/utf8.first", "unicode/utf8.acceptRanges", "internal/bytealg.MaxLen"], apart := false, laid := [("unicode/utf8.acceptRanges", laid_unicode_utf8_acceptRanges), ("unicode/utf8.first", laid_unicode_utf8_first)] }
def RequestReplySameSaid : Prop := requestReplySameRow.holds Tryz.pinned (OpenSpec.ofChange requestReplySameSpec)

/-- ITS FALSE NEIGHBOUR: 'it returns false'. Refute it at one input. -/
def requestReplySameWrong : ChangeSpec := { name := "requestReplySame", fn := fun _ => fun
  | [d1, d2, d3, d4] => { results := [.lit (.bool false)], args := [d1, d2, d3, d4] }
  | _ => none }
def RequestReplySameWrongFalsely : Prop := requestReplySameRow.holds Tryz.pinned (OpenSpec.ofChange requestReplySameWrong)

/-- 'vulgatelaw26.RequestReplyReads': WHATEVER THE INPUT: true; the input reads as it did. -/
def requestReplyReadsSpec : ChangeSpec := { name := "requestReplyReads", fn := fun _ => fun
  | [d] => { results := [.lit (.bool true)], args := [d] }
  | _ => none }
def requestReplyReadsRow : OpenClaim := { program := "ytbfefdedjcppaaagreatdoor", sum := "2c6360a2df2f35e414a7c7d0071661c548e1a3b7b14f12bf5dcc8f73978cc1b5", func := "vulgate/vulgatelaw26.RequestReplyReads", spec := "requestReplyReads", inPlace := ["internal/bytealg.CountString", "internal/bytealg.IndexByteString", "internal/bytealg.IndexString", "internal/bytealg.IndexByte"], unfollowed := true, recurses := true, named := ["unicode/utf8.first", "unicode/utf8.acceptRanges", "internal/bytealg.MaxLen"], apart := false, laid := [("unicode/utf8.acceptRanges", laid_unicode_utf8_acceptRanges), ("unicode/utf8.first", laid_unicode_utf8_first)] }
def RequestReplyReadsSaid : Prop := requestReplyReadsRow.holds Tryz.pinned (OpenSpec.ofChange requestReplyReadsSpec)

/-- ITS FALSE NEIGHBOUR: 'it returns false'. Refute it at one input. -/
def requestReplyReadsWrong : ChangeSpec := { name := "requestReplyReads", fn := fun _ => fun
  | [d] => { results := [.lit (.bool false)], args := [d] }
  | _ => none }
def RequestReplyReadsWrongFalsely : Prop := requestReplyReadsRow.holds Tryz.pinned (OpenSpec.ofChange requestReplyReadsWrong)

/-- 'vulgatelaw26.RequestReplyBytes': WHATEVER THE INPUT: true; the input reads as it did. -/
def requestReplyBytesSpec : ChangeSpec := { name := "requestReplyBytes", fn := fun _ => fun
  | [d] => { results := [.lit (.bool true)], args := [d] }
  | _ => none }
def requestReplyBytesRow : OpenClaim := { program := "ytbfefdedjcppaaagreatdoor", sum := "2c6360a2df2f35e414a7c7d0071661c548e1a3b7b14f12bf5dcc8f73978cc1b5", func := "vulgate/vulgatelaw26.RequestReplyBytes", spec := "requestReplyBytes", inPlace := ["internal/bytealg.IndexByteString", "internal/bytealg.IndexString", "internal/bytealg.CountString", "internal/bytealg.IndexByte"], unfollowed := true, recurses := true, named := ["unicode/utf8.first", "unicode/utf8.acceptRanges", "internal/bytealg.MaxLen"], apart := false, laid := [("unicode/utf8.acceptRanges", laid_unicode_utf8_acceptRanges), ("unicode/utf8.first", laid_unicode_utf8_first)] }
def RequestReplyBytesSaid : Prop := requestReplyBytesRow.holds Tryz.pinned (OpenSpec.ofChange requestReplyBytesSpec)

/-- ITS FALSE NEIGHBOUR: 'it returns false'. Refute it at one input. -/
def requestReplyBytesWrong : ChangeSpec := { name := "requestReplyBytes", fn := fun _ => fun
  | [d] => { results := [.lit (.bool false)], args := [d] }
  | _ => none }
def RequestReplyBytesWrongFalsely : Prop := requestReplyBytesRow.holds Tryz.pinned (OpenSpec.ofChange requestReplyBytesWrong)

/- THE SECOND FORM. 'bulk': how many values and letters a reading holds, each counted each time it is reached (what is shared counts as often as it is met; a slice's spare places count too). A statement '..UptoSaid' is the law's where the arguments, and the package variables that the reading takes, are together of bulk at most 1048576: NARROWER than '..Said'. Prove '..Said' where nothing that the law and all that it calls make is longer than what came in: it says more and counts as full. Else prove '..UptoSaid'. A law counts once. -/
mutual
def uptoBulk {H : Type} : DataW H → Nat
  | .lit (.string bytes) => bytes.length + 1
  | .lit _ => 1
  | .nil => 1
  | .ptr d => uptoBulk d + 1
  | .slice elems spare => uptoBulkAll elems + uptoBulkAll spare + 1
  | .agg parts => uptoBulkAll parts + 1
  | .iface _ d => uptoBulk d + 1
  | .map entries => uptoBulkEntries entries + 1
  | .held _ => 1
def uptoBulkAll {H : Type} : List (DataW H) → Nat
  | [] => 0
  | d :: r => uptoBulk d + uptoBulkAll r
def uptoBulkEntries {H : Type} : List (Lit × DataW H) → Nat
  | [] => 0
  | x :: r => uptoBulkEntry x + uptoBulkEntries r
def uptoBulkEntry {H : Type} : Lit × DataW H → Nat
  | (.string bytes, d) => bytes.length + uptoBulk d + 1
  | (_, d) => uptoBulk d + 1
 end
def uptoSmall : (H : Type) → List (DataW H) → Bool := fun _ ds => decide (uptoBulkAll ds ≤ 1048576)
def OpenSpec.upto (s : _root_.Go.ChangeSpec) : _root_.Go.OpenSpec := { _root_.Go.OpenSpec.ofChange s with cond := some uptoSmall }

/-- 'vulgatelaw26.RequestReads', WHERE WHAT IT READS IS OF BULK AT MOST 1048576: true; the input reads as it did. -/
def requestReadsUptoRow : OpenClaim := { program := "ytbfefdedjcppaaagreatdoor", sum := "2c6360a2df2f35e414a7c7d0071661c548e1a3b7b14f12bf5dcc8f73978cc1b5", func := "vulgate/vulgatelaw26.RequestReads", spec := "requestReads", inPlace := ["internal/bytealg.CountString", "internal/bytealg.IndexByteString", "internal/bytealg.IndexString", "internal/bytealg.IndexByte"], unfollowed := true, recurses := true, named := ["unicode/utf8.first", "unicode/utf8.acceptRanges", "internal/bytealg.MaxLen"], apart := false, laid := [("unicode/utf8.acceptRanges", laid_unicode_utf8_acceptRanges), ("unicode/utf8.first", laid_unicode_utf8_first)], narrowed := true }
def RequestReadsUptoSaid : Prop := requestReadsUptoRow.holds Tryz.pinned (OpenSpec.upto requestReadsSpec)

/-- 'vulgatelaw26.RequestReplySame', WHERE WHAT IT READS IS OF BULK AT MOST 1048576: true; the input reads as it did. -/
def requestReplySameUptoRow : OpenClaim := { program := "ytbfefdedjcppaaagreatdoor", sum := "2c6360a2df2f35e414a7c7d0071661c548e1a3b7b14f12bf5dcc8f73978cc1b5", func := "vulgate/vulgatelaw26.RequestReplySame", spec := "requestReplySame", inPlace := ["internal/bytealg.IndexByte", "internal/bytealg.IndexByteString", "internal/bytealg.IndexString", "internal/bytealg.CountString"], unfollowed := true, recurses := true, named := ["unicode/utf8.first", "unicode/utf8.acceptRanges", "internal/bytealg.MaxLen"], apart := false, laid := [("unicode/utf8.acceptRanges", laid_unicode_utf8_acceptRanges), ("unicode/utf8.first", laid_unicode_utf8_first)], narrowed := true }
def RequestReplySameUptoSaid : Prop := requestReplySameUptoRow.holds Tryz.pinned (OpenSpec.upto requestReplySameSpec)

/-- 'vulgatelaw26.RequestReplyReads', WHERE WHAT IT READS IS OF BULK AT MOST 1048576: true; the input reads as it did. -/
def requestReplyReadsUptoRow : OpenClaim := { program := "ytbfefdedjcppaaagreatdoor", sum := "2c6360a2df2f35e414a7c7d0071661c548e1a3b7b14f12bf5dcc8f73978cc1b5", func := "vulgate/vulgatelaw26.RequestReplyReads", spec := "requestReplyReads", inPlace := ["internal/bytealg.CountString", "internal/bytealg.IndexByteString", "internal/bytealg.IndexString", "internal/bytealg.IndexByte"], unfollowed := true, recurses := true, named := ["unicode/utf8.first", "unicode/utf8.acceptRanges", "internal/bytealg.MaxLen"], apart := false, laid := [("unicode/utf8.acceptRanges", laid_unicode_utf8_acceptRanges), ("unicode/utf8.first", laid_unicode_utf8_first)], narrowed := true }
def RequestReplyReadsUptoSaid : Prop := requestReplyReadsUptoRow.holds Tryz.pinned (OpenSpec.upto requestReplyReadsSpec)

/-- 'vulgatelaw26.RequestReplyBytes', WHERE WHAT IT READS IS OF BULK AT MOST 1048576: true; the input reads as it did. -/
def requestReplyBytesUptoRow : OpenClaim := { program := "ytbfefdedjcppaaagreatdoor", sum := "2c6360a2df2f35e414a7c7d0071661c548e1a3b7b14f12bf5dcc8f73978cc1b5", func := "vulgate/vulgatelaw26.RequestReplyBytes", spec := "requestReplyBytes", inPlace := ["internal/bytealg.IndexByteString", "internal/bytealg.IndexString", "internal/bytealg.CountString", "internal/bytealg.IndexByte"], unfollowed := true, recurses := true, named := ["unicode/utf8.first", "unicode/utf8.acceptRanges", "internal/bytealg.MaxLen"], apart := false, laid := [("unicode/utf8.acceptRanges", laid_unicode_utf8_acceptRanges), ("unicode/utf8.first", laid_unicode_utf8_first)], narrowed := true }
def RequestReplyBytesUptoSaid : Prop := requestReplyBytesUptoRow.holds Tryz.pinned (OpenSpec.upto requestReplyBytesSpec)

end Rows
end Go.Proofs.YtbfefdedjcppaaaGreatDoor
