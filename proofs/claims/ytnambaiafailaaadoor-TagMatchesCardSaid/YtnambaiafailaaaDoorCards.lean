/-
  DERIVED. GIVEN WITH THE SEED: THE CARDS: each row of YtnambaiafailaaaDoorRows.lean that lists a variable, with what it lists TIED to the program's text (the seventh form; the later family's looks); each row that meets fmt, with fmt's text TOLD by the authors' own Lean function (tested against real Go, not proved from fmt's source: count such statements apart). THE CARD IS WHAT COUNTS. Prove the row's statement (the work); the ties are given (YtnambaiafailaaaDoorTie.lean); close each card by the builder's one call (the guide's Derived/Test/ToyasCard.lean, 'card_holds'). Laid BY PROGRAM, IN A SANDBOX (cutbox-door.mjs). By AI agents, Wed Nov 11 2026. No macro, syntax, notation, axiom, sorry.
-/
import Derived.Test.YtnambaiafailaaaDoorRows
import GoSem.ClaimSeven
namespace Go.Proofs.YtnambaiafailaaaDoor
namespace Rows

/-- THE TIED CARD OF 'vulgatelaw05.TagParses'. -/
def tagParsesCard : Claim7 := { stood := { row := tagParsesRow, standIns := [], harness := (true, "b1a9a310c122a71965cf6a0720d7d15e812adc47fd367ceac5edc0ac1d36f480"), looks := false }, kinds := [], alts := [], laidByText := true, laidKinds := [.data, .pinned], laidTests := true, laidLooks := .later }
def TagParsesCardSaid : Prop := Claim7.holds Tryd.pinned (.plain (OpenSpec.ofChange tagParsesSpec)) tagParsesCard

/-- THE TIED CARD OF 'vulgatelaw05.TagBytes'. -/
def tagBytesCard : Claim7 := { stood := { row := tagBytesRow, standIns := [], harness := (true, "b1a9a310c122a71965cf6a0720d7d15e812adc47fd367ceac5edc0ac1d36f480"), looks := false }, kinds := [], alts := [], laidByText := true, laidKinds := [.data, .pinned], laidTests := true, laidLooks := .later }
def TagBytesCardSaid : Prop := Claim7.holds Tryd.pinned (.plain (OpenSpec.ofChange tagBytesSpec)) tagBytesCard

/-- THE TIED CARD OF 'vulgatelaw05.TagChains'. -/
def tagChainsCard : Claim7 := { stood := { row := tagChainsRow, standIns := [], harness := (true, "b1a9a310c122a71965cf6a0720d7d15e812adc47fd367ceac5edc0ac1d36f480"), looks := false }, kinds := [], alts := [], laidByText := true, laidKinds := [.data, .pinned], laidTests := true, laidLooks := .later }
def TagChainsCardSaid : Prop := Claim7.holds Tryd.pinned (.plain (OpenSpec.ofChange tagChainsSpec)) tagChainsCard

/-- THE TIED CARD OF 'vulgatelaw07.PluralRounds'. -/
def pluralRoundsCard : Claim7 := { stood := { row := pluralRoundsRow, standIns := [], harness := (true, "b1a9a310c122a71965cf6a0720d7d15e812adc47fd367ceac5edc0ac1d36f480"), looks := false }, kinds := [], alts := [], laidByText := true, laidKinds := [.data, .pinned], laidTests := true, laidLooks := .later }
def PluralRoundsCardSaid : Prop := Claim7.holds Tryd.pinned (.plain (OpenSpec.ofChange pluralRoundsSpec)) pluralRoundsCard

/-- THE TIED CARD OF 'vulgatelaw05.TagMatches'. -/
def tagMatchesCard : Claim7 := { stood := { row := tagMatchesRow, standIns := [], harness := (true, "b1a9a310c122a71965cf6a0720d7d15e812adc47fd367ceac5edc0ac1d36f480"), looks := false }, kinds := [], alts := [], laidByText := true, laidKinds := [.data, .pinned], laidTests := true, laidLooks := .later }
def TagMatchesCardSaid : Prop := Claim7.holds Tryd.pinned (.plain (OpenSpec.ofChange tagMatchesSpec)) tagMatchesCard

/-- THE TIED CARD OF 'vulgatelaw07.PluralOf'. -/
def pluralOfCard : Claim7 := { stood := { row := pluralOfRow, standIns := [], harness := (true, "b1a9a310c122a71965cf6a0720d7d15e812adc47fd367ceac5edc0ac1d36f480"), looks := false }, kinds := [], alts := [], laidByText := true, laidKinds := [.data, .pinned], laidTests := true, laidLooks := .later }
def PluralOfCardSaid : Prop := Claim7.holds Tryd.pinned (.plain (OpenSpec.ofChange pluralOfSpec)) pluralOfCard

/-- THE TIED CARD OF 'vulgatelaw07.PluralPicks'. -/
def pluralPicksCard : Claim7 := { stood := { row := pluralPicksRow, standIns := [], harness := (true, "b1a9a310c122a71965cf6a0720d7d15e812adc47fd367ceac5edc0ac1d36f480"), looks := false }, kinds := [], alts := [], laidByText := true, laidKinds := [.data, .pinned], laidTests := true, laidLooks := .later }
def PluralPicksCardSaid : Prop := Claim7.holds Tryd.pinned (.plain (OpenSpec.ofChange pluralPicksSpec)) pluralPicksCard

/-- THE TIED CARD OF 'vulgatelaw07.PluralSets'. -/
def pluralSetsCard : Claim7 := { stood := { row := pluralSetsRow, standIns := [], harness := (true, "b1a9a310c122a71965cf6a0720d7d15e812adc47fd367ceac5edc0ac1d36f480"), looks := false }, kinds := [], alts := [], laidByText := true, laidKinds := [.data, .listed, .data, .pinned], laidTests := true, laidLooks := .later }
def PluralSetsCardSaid : Prop := Claim7.holds Tryd.pinned (.plain (OpenSpec.ofChange pluralSetsSpec)) pluralSetsCard

/-- THE SECOND FORM's CARD OF 'vulgatelaw05.TagParses'. -/
def tagParsesUptoCard : Claim7 := { stood := { row := tagParsesUptoRow, standIns := [], harness := (true, "b1a9a310c122a71965cf6a0720d7d15e812adc47fd367ceac5edc0ac1d36f480"), looks := false }, kinds := [], alts := [], laidByText := true, laidKinds := [.data, .pinned], laidTests := true, laidLooks := .later }
def TagParsesUptoCardSaid : Prop := Claim7.holds Tryd.pinned (.plain (OpenSpec.upto tagParsesSpec)) tagParsesUptoCard

/-- THE SECOND FORM's CARD OF 'vulgatelaw05.TagBytes'. -/
def tagBytesUptoCard : Claim7 := { stood := { row := tagBytesUptoRow, standIns := [], harness := (true, "b1a9a310c122a71965cf6a0720d7d15e812adc47fd367ceac5edc0ac1d36f480"), looks := false }, kinds := [], alts := [], laidByText := true, laidKinds := [.data, .pinned], laidTests := true, laidLooks := .later }
def TagBytesUptoCardSaid : Prop := Claim7.holds Tryd.pinned (.plain (OpenSpec.upto tagBytesSpec)) tagBytesUptoCard

/-- THE SECOND FORM's CARD OF 'vulgatelaw05.TagChains'. -/
def tagChainsUptoCard : Claim7 := { stood := { row := tagChainsUptoRow, standIns := [], harness := (true, "b1a9a310c122a71965cf6a0720d7d15e812adc47fd367ceac5edc0ac1d36f480"), looks := false }, kinds := [], alts := [], laidByText := true, laidKinds := [.data, .pinned], laidTests := true, laidLooks := .later }
def TagChainsUptoCardSaid : Prop := Claim7.holds Tryd.pinned (.plain (OpenSpec.upto tagChainsSpec)) tagChainsUptoCard

/-- THE SECOND FORM's CARD OF 'vulgatelaw07.PluralRounds'. -/
def pluralRoundsUptoCard : Claim7 := { stood := { row := pluralRoundsUptoRow, standIns := [], harness := (true, "b1a9a310c122a71965cf6a0720d7d15e812adc47fd367ceac5edc0ac1d36f480"), looks := false }, kinds := [], alts := [], laidByText := true, laidKinds := [.data, .pinned], laidTests := true, laidLooks := .later }
def PluralRoundsUptoCardSaid : Prop := Claim7.holds Tryd.pinned (.plain (OpenSpec.upto pluralRoundsSpec)) pluralRoundsUptoCard

/-- THE SECOND FORM's CARD OF 'vulgatelaw05.TagMatches'. -/
def tagMatchesUptoCard : Claim7 := { stood := { row := tagMatchesUptoRow, standIns := [], harness := (true, "b1a9a310c122a71965cf6a0720d7d15e812adc47fd367ceac5edc0ac1d36f480"), looks := false }, kinds := [], alts := [], laidByText := true, laidKinds := [.data, .pinned], laidTests := true, laidLooks := .later }
def TagMatchesUptoCardSaid : Prop := Claim7.holds Tryd.pinned (.plain (OpenSpec.upto tagMatchesSpec)) tagMatchesUptoCard

/-- THE SECOND FORM's CARD OF 'vulgatelaw07.PluralOf'. -/
def pluralOfUptoCard : Claim7 := { stood := { row := pluralOfUptoRow, standIns := [], harness := (true, "b1a9a310c122a71965cf6a0720d7d15e812adc47fd367ceac5edc0ac1d36f480"), looks := false }, kinds := [], alts := [], laidByText := true, laidKinds := [.data, .pinned], laidTests := true, laidLooks := .later }
def PluralOfUptoCardSaid : Prop := Claim7.holds Tryd.pinned (.plain (OpenSpec.upto pluralOfSpec)) pluralOfUptoCard

/-- THE SECOND FORM's CARD OF 'vulgatelaw07.PluralPicks'. -/
def pluralPicksUptoCard : Claim7 := { stood := { row := pluralPicksUptoRow, standIns := [], harness := (true, "b1a9a310c122a71965cf6a0720d7d15e812adc47fd367ceac5edc0ac1d36f480"), looks := false }, kinds := [], alts := [], laidByText := true, laidKinds := [.data, .pinned], laidTests := true, laidLooks := .later }
def PluralPicksUptoCardSaid : Prop := Claim7.holds Tryd.pinned (.plain (OpenSpec.upto pluralPicksSpec)) pluralPicksUptoCard

/-- THE SECOND FORM's CARD OF 'vulgatelaw07.PluralSets'. -/
def pluralSetsUptoCard : Claim7 := { stood := { row := pluralSetsUptoRow, standIns := [], harness := (true, "b1a9a310c122a71965cf6a0720d7d15e812adc47fd367ceac5edc0ac1d36f480"), looks := false }, kinds := [], alts := [], laidByText := true, laidKinds := [.data, .listed, .data, .pinned], laidTests := true, laidLooks := .later }
def PluralSetsUptoCardSaid : Prop := Claim7.holds Tryd.pinned (.plain (OpenSpec.upto pluralSetsSpec)) pluralSetsUptoCard
end Rows
end Go.Proofs.YtnambaiafailaaaDoor
