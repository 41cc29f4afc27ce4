/-
  DERIVED. GIVEN WITH THE SEED: THE CARDS: each row of YtbfefdedjcppaaaGreatDoorRows.lean that lists a variable, with what it lists TIED to the program's text (the seventh form; the later family's looks); each row that meets fmt, with fmt's text TOLD by the authors' own Lean function (tested against real Go, not proved from fmt's source: count such statements apart). THE CARD IS WHAT COUNTS. Prove the row's statement (the work); the ties are given (YtbfefdedjcppaaaGreatDoorTie.lean); close each card by the builder's one call (the guide's Derived/Test/ToyasCard.lean, 'card_holds'). Laid BY PROGRAM, IN A SANDBOX (cutbox-door.mjs). By AI agents, Wed Nov 11 2026. No macro, syntax, notation, axiom, sorry.
-/
import Derived.Test.YtbfefdedjcppaaaGreatDoorRows
import GoSem.ClaimSeven
namespace Go.Proofs.YtbfefdedjcppaaaGreatDoor
namespace Rows

/-- THE TIED CARD OF 'vulgatelaw26.RequestReads'. -/
def requestReadsCard : Claim7 := { stood := { row := requestReadsRow, standIns := [], harness := (true, "1c023a3aa007013105c7ec82101deace731d31b51de333fd9ba696ddd9477273"), looks := false }, kinds := [], alts := [], laidByText := true, laidKinds := [.data, .pinned], laidTests := true, laidLooks := .later }
def RequestReadsCardSaid : Prop := Claim7.holds Tryz.pinned (.plain (OpenSpec.ofChange requestReadsSpec)) requestReadsCard

/-- THE TIED CARD OF 'vulgatelaw26.RequestReplySame'. -/
def requestReplySameCard : Claim7 := { stood := { row := requestReplySameRow, standIns := [], harness := (true, "1c023a3aa007013105c7ec82101deace731d31b51de333fd9ba696ddd9477273"), looks := false }, kinds := [], alts := [], laidByText := true, laidKinds := [.data, .pinned], laidTests := true, laidLooks := .later }
def RequestReplySameCardSaid : Prop := Claim7.holds Tryz.pinned (.plain (OpenSpec.ofChange requestReplySameSpec)) requestReplySameCard

/-- THE TIED CARD OF 'vulgatelaw26.RequestReplyReads'. -/
def requestReplyReadsCard : Claim7 := { stood := { row := requestReplyReadsRow, standIns := [], harness := (true, "1c023a3aa007013105c7ec82101deace731d31b51de333fd9ba696ddd9477273"), looks := false }, kinds := [], alts := [], laidByText := true, laidKinds := [.data, .pinned], laidTests := true, laidLooks := .later }
def RequestReplyReadsCardSaid : Prop := Claim7.holds Tryz.pinned (.plain (OpenSpec.ofChange requestReplyReadsSpec)) requestReplyReadsCard

/-- THE TIED CARD OF 'vulgatelaw26.RequestReplyBytes'. -/
def requestReplyBytesCard : Claim7 := { stood := { row := requestReplyBytesRow, standIns := [], harness := (true, "1c023a3aa007013105c7ec82101deace731d31b51de333fd9ba696ddd9477273"), looks := false }, kinds := [], alts := [], laidByText := true, laidKinds := [.data, .pinned], laidTests := true, laidLooks := .later }
def RequestReplyBytesCardSaid : Prop := Claim7.holds Tryz.pinned (.plain (OpenSpec.ofChange requestReplyBytesSpec)) requestReplyBytesCard

/-- THE SECOND FORM's CARD OF 'vulgatelaw26.RequestReads'. -/
def requestReadsUptoCard : Claim7 := { stood := { row := requestReadsUptoRow, standIns := [], harness := (true, "1c023a3aa007013105c7ec82101deace731d31b51de333fd9ba696ddd9477273"), looks := false }, kinds := [], alts := [], laidByText := true, laidKinds := [.data, .pinned], laidTests := true, laidLooks := .later }
def RequestReadsUptoCardSaid : Prop := Claim7.holds Tryz.pinned (.plain (OpenSpec.upto requestReadsSpec)) requestReadsUptoCard

/-- THE SECOND FORM's CARD OF 'vulgatelaw26.RequestReplySame'. -/
def requestReplySameUptoCard : Claim7 := { stood := { row := requestReplySameUptoRow, standIns := [], harness := (true, "1c023a3aa007013105c7ec82101deace731d31b51de333fd9ba696ddd9477273"), looks := false }, kinds := [], alts := [], laidByText := true, laidKinds := [.data, .pinned], laidTests := true, laidLooks := .later }
def RequestReplySameUptoCardSaid : Prop := Claim7.holds Tryz.pinned (.plain (OpenSpec.upto requestReplySameSpec)) requestReplySameUptoCard

/-- THE SECOND FORM's CARD OF 'vulgatelaw26.RequestReplyReads'. -/
def requestReplyReadsUptoCard : Claim7 := { stood := { row := requestReplyReadsUptoRow, standIns := [], harness := (true, "1c023a3aa007013105c7ec82101deace731d31b51de333fd9ba696ddd9477273"), looks := false }, kinds := [], alts := [], laidByText := true, laidKinds := [.data, .pinned], laidTests := true, laidLooks := .later }
def RequestReplyReadsUptoCardSaid : Prop := Claim7.holds Tryz.pinned (.plain (OpenSpec.upto requestReplyReadsSpec)) requestReplyReadsUptoCard

/-- THE SECOND FORM's CARD OF 'vulgatelaw26.RequestReplyBytes'. -/
def requestReplyBytesUptoCard : Claim7 := { stood := { row := requestReplyBytesUptoRow, standIns := [], harness := (true, "1c023a3aa007013105c7ec82101deace731d31b51de333fd9ba696ddd9477273"), looks := false }, kinds := [], alts := [], laidByText := true, laidKinds := [.data, .pinned], laidTests := true, laidLooks := .later }
def RequestReplyBytesUptoCardSaid : Prop := Claim7.holds Tryz.pinned (.plain (OpenSpec.upto requestReplyBytesSpec)) requestReplyBytesUptoCard
end Rows
end Go.Proofs.YtbfefdedjcppaaaGreatDoor
