/-
  DERIVED. GIVEN WITH THE SEED: THE CARDS: each row of YtjgofoliikflaaaDoorRows.lean that lists a variable, with what it lists TIED to the program's text (the seventh form; the later family's looks); each row that meets fmt, with fmt's text TOLD by the authors' own Lean function (tested against real Go, not proved from fmt's source: count such statements apart). THE CARD IS WHAT COUNTS. Prove the row's statement (the work); the ties are given (YtjgofoliikflaaaDoorTie.lean); close each card by the builder's one call (the guide's Derived/Test/ToyasCard.lean, 'card_holds'). Laid BY PROGRAM, IN A SANDBOX (cutbox-door.mjs). By AI agents, Wed Nov 11 2026. No macro, syntax, notation, axiom, sorry.
-/
import Derived.Test.YtjgofoliikflaaaDoorRows
import GoSem.ClaimSeven
namespace Go.Proofs.YtjgofoliikflaaaDoor
namespace Rows

/-- THE TIED CARD OF 'replevinlaw03.LineageMakes'. -/
def lineageMakesCard : Claim7 := { stood := { row := lineageMakesRow, standIns := [], harness := (true, "9827873a10770d1e66ccf925a91f211b965a3ce38ba2e5b465292d568828759a"), looks := false }, kinds := [], alts := [], laidByText := true, laidKinds := [.data, .data, .data], laidTests := true, laidLooks := .later }
def LineageMakesCardSaid : Prop := Claim7.holds Tryd.pinned (.plain (OpenSpec.ofChange lineageMakesSpec)) lineageMakesCard

/-- THE TIED CARD OF 'replevinlaw03.LineageParses'. -/
def lineageParsesCard : Claim7 := { stood := { row := lineageParsesRow, standIns := [], harness := (true, "9827873a10770d1e66ccf925a91f211b965a3ce38ba2e5b465292d568828759a"), looks := false }, kinds := [], alts := [], laidByText := true, laidKinds := [.data, .data, .data], laidTests := true, laidLooks := .later }
def LineageParsesCardSaid : Prop := Claim7.holds Tryd.pinned (.plain (OpenSpec.ofChange lineageParsesSpec)) lineageParsesCard

/-- THE TIED CARD OF 'replevinlaw03.LineageWithin'. -/
def lineageWithinCard : Claim7 := { stood := { row := lineageWithinRow, standIns := [], harness := (true, "9827873a10770d1e66ccf925a91f211b965a3ce38ba2e5b465292d568828759a"), looks := false }, kinds := [], alts := [], laidByText := true, laidKinds := [.data, .data, .data], laidTests := true, laidLooks := .later }
def LineageWithinCardSaid : Prop := Claim7.holds Tryd.pinned (.plain (OpenSpec.ofChange lineageWithinSpec)) lineageWithinCard

/-- THE TIED CARD OF 'replevinlaw03.LineageCommon'. -/
def lineageCommonCard : Claim7 := { stood := { row := lineageCommonRow, standIns := [], harness := (true, "9827873a10770d1e66ccf925a91f211b965a3ce38ba2e5b465292d568828759a"), looks := false }, kinds := [], alts := [], laidByText := true, laidKinds := [.data, .data, .data], laidTests := true, laidLooks := .later }
def LineageCommonCardSaid : Prop := Claim7.holds Tryd.pinned (.plain (OpenSpec.ofChange lineageCommonSpec)) lineageCommonCard

/-- THE TIED CARD OF 'replevinlaw03.LineageCompares'. -/
def lineageComparesCard : Claim7 := { stood := { row := lineageComparesRow, standIns := [], harness := (true, "9827873a10770d1e66ccf925a91f211b965a3ce38ba2e5b465292d568828759a"), looks := false }, kinds := [], alts := [], laidByText := true, laidKinds := [.data, .data, .data], laidTests := true, laidLooks := .later }
def LineageComparesCardSaid : Prop := Claim7.holds Tryd.pinned (.plain (OpenSpec.ofChange lineageComparesSpec)) lineageComparesCard

/-- THE TIED CARD OF 'replevinlaw03.LineageChooses'. -/
def lineageChoosesCard : Claim7 := { stood := { row := lineageChoosesRow, standIns := [], harness := (true, "9827873a10770d1e66ccf925a91f211b965a3ce38ba2e5b465292d568828759a"), looks := false }, kinds := [], alts := [], laidByText := true, laidKinds := [.data, .data, .data, .data, .data], laidTests := true, laidLooks := .later }
def LineageChoosesCardSaid : Prop := Claim7.holds Tryd.pinned (.plain (OpenSpec.ofChange lineageChoosesSpec)) lineageChoosesCard

/-- THE TIED CARD OF 'replevinlaw03.LineageParts'. -/
def lineagePartsCard : Claim7 := { stood := { row := lineagePartsRow, standIns := [], harness := (true, "9827873a10770d1e66ccf925a91f211b965a3ce38ba2e5b465292d568828759a"), looks := false }, kinds := [], alts := [], laidByText := true, laidKinds := [.data, .data, .data], laidTests := true, laidLooks := .later }
def LineagePartsCardSaid : Prop := Claim7.holds Tryd.pinned (.plain (OpenSpec.ofChange lineagePartsSpec)) lineagePartsCard

/-- THE TIED CARD OF 'replevinlaw03.LineageSorts'. -/
def lineageSortsCard : Claim7 := { stood := { row := lineageSortsRow, standIns := [], harness := (true, "9827873a10770d1e66ccf925a91f211b965a3ce38ba2e5b465292d568828759a"), looks := false }, kinds := [], alts := [], laidByText := true, laidKinds := [.data, .data, .data], laidTests := true, laidLooks := .later }
def LineageSortsCardSaid : Prop := Claim7.holds Tryd.pinned (.plain (OpenSpec.ofChange lineageSortsSpec)) lineageSortsCard

/-- THE TIED CARD OF 'replevinlaw03.LineageCovers'. -/
def lineageCoversCard : Claim7 := { stood := { row := lineageCoversRow, standIns := [], harness := (true, "9827873a10770d1e66ccf925a91f211b965a3ce38ba2e5b465292d568828759a"), looks := false }, kinds := [], alts := [], laidByText := true, laidKinds := [.data, .data, .data], laidTests := true, laidLooks := .later }
def LineageCoversCardSaid : Prop := Claim7.holds Tryd.pinned (.plain (OpenSpec.ofChange lineageCoversSpec)) lineageCoversCard

/-- THE SECOND FORM's CARD OF 'replevinlaw03.LineageMakes'. -/
def lineageMakesUptoCard : Claim7 := { stood := { row := lineageMakesUptoRow, standIns := [], harness := (true, "9827873a10770d1e66ccf925a91f211b965a3ce38ba2e5b465292d568828759a"), looks := false }, kinds := [], alts := [], laidByText := true, laidKinds := [.data, .data, .data], laidTests := true, laidLooks := .later }
def LineageMakesUptoCardSaid : Prop := Claim7.holds Tryd.pinned (.plain (OpenSpec.upto lineageMakesSpec)) lineageMakesUptoCard

/-- THE SECOND FORM's CARD OF 'replevinlaw03.LineageParses'. -/
def lineageParsesUptoCard : Claim7 := { stood := { row := lineageParsesUptoRow, standIns := [], harness := (true, "9827873a10770d1e66ccf925a91f211b965a3ce38ba2e5b465292d568828759a"), looks := false }, kinds := [], alts := [], laidByText := true, laidKinds := [.data, .data, .data], laidTests := true, laidLooks := .later }
def LineageParsesUptoCardSaid : Prop := Claim7.holds Tryd.pinned (.plain (OpenSpec.upto lineageParsesSpec)) lineageParsesUptoCard

/-- THE SECOND FORM's CARD OF 'replevinlaw03.LineageWithin'. -/
def lineageWithinUptoCard : Claim7 := { stood := { row := lineageWithinUptoRow, standIns := [], harness := (true, "9827873a10770d1e66ccf925a91f211b965a3ce38ba2e5b465292d568828759a"), looks := false }, kinds := [], alts := [], laidByText := true, laidKinds := [.data, .data, .data], laidTests := true, laidLooks := .later }
def LineageWithinUptoCardSaid : Prop := Claim7.holds Tryd.pinned (.plain (OpenSpec.upto lineageWithinSpec)) lineageWithinUptoCard

/-- THE SECOND FORM's CARD OF 'replevinlaw03.LineageCommon'. -/
def lineageCommonUptoCard : Claim7 := { stood := { row := lineageCommonUptoRow, standIns := [], harness := (true, "9827873a10770d1e66ccf925a91f211b965a3ce38ba2e5b465292d568828759a"), looks := false }, kinds := [], alts := [], laidByText := true, laidKinds := [.data, .data, .data], laidTests := true, laidLooks := .later }
def LineageCommonUptoCardSaid : Prop := Claim7.holds Tryd.pinned (.plain (OpenSpec.upto lineageCommonSpec)) lineageCommonUptoCard

/-- THE SECOND FORM's CARD OF 'replevinlaw03.LineageCompares'. -/
def lineageComparesUptoCard : Claim7 := { stood := { row := lineageComparesUptoRow, standIns := [], harness := (true, "9827873a10770d1e66ccf925a91f211b965a3ce38ba2e5b465292d568828759a"), looks := false }, kinds := [], alts := [], laidByText := true, laidKinds := [.data, .data, .data], laidTests := true, laidLooks := .later }
def LineageComparesUptoCardSaid : Prop := Claim7.holds Tryd.pinned (.plain (OpenSpec.upto lineageComparesSpec)) lineageComparesUptoCard

/-- THE SECOND FORM's CARD OF 'replevinlaw03.LineageChooses'. -/
def lineageChoosesUptoCard : Claim7 := { stood := { row := lineageChoosesUptoRow, standIns := [], harness := (true, "9827873a10770d1e66ccf925a91f211b965a3ce38ba2e5b465292d568828759a"), looks := false }, kinds := [], alts := [], laidByText := true, laidKinds := [.data, .data, .data, .data, .data], laidTests := true, laidLooks := .later }
def LineageChoosesUptoCardSaid : Prop := Claim7.holds Tryd.pinned (.plain (OpenSpec.upto lineageChoosesSpec)) lineageChoosesUptoCard

/-- THE SECOND FORM's CARD OF 'replevinlaw03.LineageParts'. -/
def lineagePartsUptoCard : Claim7 := { stood := { row := lineagePartsUptoRow, standIns := [], harness := (true, "9827873a10770d1e66ccf925a91f211b965a3ce38ba2e5b465292d568828759a"), looks := false }, kinds := [], alts := [], laidByText := true, laidKinds := [.data, .data, .data], laidTests := true, laidLooks := .later }
def LineagePartsUptoCardSaid : Prop := Claim7.holds Tryd.pinned (.plain (OpenSpec.upto lineagePartsSpec)) lineagePartsUptoCard

/-- THE SECOND FORM's CARD OF 'replevinlaw03.LineageSorts'. -/
def lineageSortsUptoCard : Claim7 := { stood := { row := lineageSortsUptoRow, standIns := [], harness := (true, "9827873a10770d1e66ccf925a91f211b965a3ce38ba2e5b465292d568828759a"), looks := false }, kinds := [], alts := [], laidByText := true, laidKinds := [.data, .data, .data], laidTests := true, laidLooks := .later }
def LineageSortsUptoCardSaid : Prop := Claim7.holds Tryd.pinned (.plain (OpenSpec.upto lineageSortsSpec)) lineageSortsUptoCard

/-- THE SECOND FORM's CARD OF 'replevinlaw03.LineageCovers'. -/
def lineageCoversUptoCard : Claim7 := { stood := { row := lineageCoversUptoRow, standIns := [], harness := (true, "9827873a10770d1e66ccf925a91f211b965a3ce38ba2e5b465292d568828759a"), looks := false }, kinds := [], alts := [], laidByText := true, laidKinds := [.data, .data, .data], laidTests := true, laidLooks := .later }
def LineageCoversUptoCardSaid : Prop := Claim7.holds Tryd.pinned (.plain (OpenSpec.upto lineageCoversSpec)) lineageCoversUptoCard
end Rows
end Go.Proofs.YtjgofoliikflaaaDoor
