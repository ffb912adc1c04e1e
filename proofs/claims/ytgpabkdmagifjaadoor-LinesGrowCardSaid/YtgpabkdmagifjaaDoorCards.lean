/-
  DERIVED. GIVEN WITH THE SEED: THE CARDS: each row of YtgpabkdmagifjaaDoorRows.lean that lists a variable, with what it lists TIED to the program's text (the seventh form; the later family's looks); each row that meets fmt, with fmt's text TOLD by the authors' own Lean function (tested against real Go, not proved from fmt's source: count such statements apart). THE CARD IS WHAT COUNTS. Prove the row's statement (the work); the ties are given (YtgpabkdmagifjaaDoorTie.lean); close each card by the builder's one call (the guide's Derived/Test/ToyasCard.lean, 'card_holds'). Laid BY PROGRAM, IN A SANDBOX (cutbox-door.mjs). By AI agents, Wed Nov 11 2026. No macro, syntax, notation, axiom, sorry.
-/
import Derived.Test.YtgpabkdmagifjaaDoorRows
import GoSem.ClaimSeven
namespace Go.Proofs.YtgpabkdmagifjaaDoor
namespace Rows

/-- THE TIED CARD OF 'flatironlaw05.LexReads'. -/
def lexReadsCard : Claim7 := { stood := { row := lexReadsRow, standIns := [], harness := (true, "8e4c1f1bb61e204366dea21ad446f72a6bf8a1218b8158afd7aad09cca80b4f5"), looks := false }, kinds := [], alts := [], laidByText := true, laidKinds := [.data, .pinned], laidTests := true, laidLooks := .later }
def LexReadsCardSaid : Prop := Claim7.holds Tryd.pinned (.plain (OpenSpec.ofChange lexReadsSpec)) lexReadsCard

/-- THE TIED CARD OF 'flatironlaw08.LinesOf'. -/
def linesOfCard : Claim7 := { stood := { row := linesOfRow, standIns := [], harness := (true, "8e4c1f1bb61e204366dea21ad446f72a6bf8a1218b8158afd7aad09cca80b4f5"), looks := false }, kinds := [], alts := [], laidByText := true, laidKinds := [.data, .pinned], laidTests := true, laidLooks := .later }
def LinesOfCardSaid : Prop := Claim7.holds Tryd.pinned (.plain (OpenSpec.ofChange linesOfSpec)) linesOfCard

/-- THE TIED CARD OF 'flatironlaw08.LinesGrow'. -/
def linesGrowCard : Claim7 := { stood := { row := linesGrowRow, standIns := [], harness := (true, "8e4c1f1bb61e204366dea21ad446f72a6bf8a1218b8158afd7aad09cca80b4f5"), looks := false }, kinds := [], alts := [], laidByText := true, laidKinds := [.data, .pinned], laidTests := true, laidLooks := .later }
def LinesGrowCardSaid : Prop := Claim7.holds Tryd.pinned (.plain (OpenSpec.ofChange linesGrowSpec)) linesGrowCard

/-- THE TIED CARD OF 'flatironlaw06.ParseLines'. -/
def parseLinesCard : Claim7 := { stood := { row := parseLinesRow, standIns := [], harness := (true, "8e4c1f1bb61e204366dea21ad446f72a6bf8a1218b8158afd7aad09cca80b4f5"), looks := false }, kinds := [], alts := [], laidByText := true, laidKinds := [.data, .pinned], laidTests := true, laidLooks := .later }
def ParseLinesCardSaid : Prop := Claim7.holds Tryd.pinned (.plain (OpenSpec.ofChange parseLinesSpec)) parseLinesCard

/-- THE TIED CARD OF 'flatironlaw06.ParseShows'. -/
def parseShowsCard : Claim7 := { stood := { row := parseShowsRow, standIns := [], harness := (true, "8e4c1f1bb61e204366dea21ad446f72a6bf8a1218b8158afd7aad09cca80b4f5"), looks := false }, kinds := [], alts := [], laidByText := true, laidKinds := [.data, .pinned], laidTests := true, laidLooks := .later }
def ParseShowsCardSaid : Prop := Claim7.holds Tryd.pinned (.plain (OpenSpec.ofChange parseShowsSpec)) parseShowsCard

/-- THE TIED CARD OF 'flatironlaw02.GlobMatches'. -/
def globMatchesCard : Claim7 := { stood := { row := globMatchesRow, standIns := [], harness := (true, "8e4c1f1bb61e204366dea21ad446f72a6bf8a1218b8158afd7aad09cca80b4f5"), looks := false }, kinds := [], alts := [], laidByText := true, laidKinds := [.data, .pinned], laidTests := true, laidLooks := .later }
def GlobMatchesCardSaid : Prop := Claim7.holds Tryd.pinned (.plain (OpenSpec.ofChange globMatchesSpec)) globMatchesCard

/-- THE TIED CARD OF 'flatironlaw02.GlobPaths'. -/
def globPathsCard : Claim7 := { stood := { row := globPathsRow, standIns := [], harness := (true, "8e4c1f1bb61e204366dea21ad446f72a6bf8a1218b8158afd7aad09cca80b4f5"), looks := false }, kinds := [], alts := [], laidByText := true, laidKinds := [.data, .pinned], laidTests := true, laidLooks := .later }
def GlobPathsCardSaid : Prop := Claim7.holds Tryd.pinned (.plain (OpenSpec.ofChange globPathsSpec)) globPathsCard

/-- THE TIED CARD OF 'flatironlaw09.MakefileLines'. -/
def makefileLinesCard : Claim7 := { stood := { row := makefileLinesRow, standIns := [], harness := (true, "8e4c1f1bb61e204366dea21ad446f72a6bf8a1218b8158afd7aad09cca80b4f5"), looks := false }, kinds := [], alts := [], laidByText := true, laidKinds := [.data, .pinned], laidTests := true, laidLooks := .later }
def MakefileLinesCardSaid : Prop := Claim7.holds Tryd.pinned (.plain (OpenSpec.ofChange makefileLinesSpec)) makefileLinesCard

/-- THE TIED CARD OF 'flatironlaw10.ShowTexts'. -/
def showTextsCard : Claim7 := { stood := { row := showTextsRow, standIns := [], harness := (true, "8e4c1f1bb61e204366dea21ad446f72a6bf8a1218b8158afd7aad09cca80b4f5"), looks := false }, kinds := [], alts := [], laidByText := true, laidKinds := [.data, .pinned], laidTests := true, laidLooks := .later }
def ShowTextsCardSaid : Prop := Claim7.holds Tryd.pinned (.plain (OpenSpec.ofChange showTextsSpec)) showTextsCard

/-- THE SECOND FORM's CARD OF 'flatironlaw05.LexReads'. -/
def lexReadsUptoCard : Claim7 := { stood := { row := lexReadsUptoRow, standIns := [], harness := (true, "8e4c1f1bb61e204366dea21ad446f72a6bf8a1218b8158afd7aad09cca80b4f5"), looks := false }, kinds := [], alts := [], laidByText := true, laidKinds := [.data, .pinned], laidTests := true, laidLooks := .later }
def LexReadsUptoCardSaid : Prop := Claim7.holds Tryd.pinned (.plain (OpenSpec.upto lexReadsSpec)) lexReadsUptoCard

/-- THE SECOND FORM's CARD OF 'flatironlaw08.LinesOf'. -/
def linesOfUptoCard : Claim7 := { stood := { row := linesOfUptoRow, standIns := [], harness := (true, "8e4c1f1bb61e204366dea21ad446f72a6bf8a1218b8158afd7aad09cca80b4f5"), looks := false }, kinds := [], alts := [], laidByText := true, laidKinds := [.data, .pinned], laidTests := true, laidLooks := .later }
def LinesOfUptoCardSaid : Prop := Claim7.holds Tryd.pinned (.plain (OpenSpec.upto linesOfSpec)) linesOfUptoCard

/-- THE SECOND FORM's CARD OF 'flatironlaw08.LinesGrow'. -/
def linesGrowUptoCard : Claim7 := { stood := { row := linesGrowUptoRow, standIns := [], harness := (true, "8e4c1f1bb61e204366dea21ad446f72a6bf8a1218b8158afd7aad09cca80b4f5"), looks := false }, kinds := [], alts := [], laidByText := true, laidKinds := [.data, .pinned], laidTests := true, laidLooks := .later }
def LinesGrowUptoCardSaid : Prop := Claim7.holds Tryd.pinned (.plain (OpenSpec.upto linesGrowSpec)) linesGrowUptoCard

/-- THE SECOND FORM's CARD OF 'flatironlaw06.ParseLines'. -/
def parseLinesUptoCard : Claim7 := { stood := { row := parseLinesUptoRow, standIns := [], harness := (true, "8e4c1f1bb61e204366dea21ad446f72a6bf8a1218b8158afd7aad09cca80b4f5"), looks := false }, kinds := [], alts := [], laidByText := true, laidKinds := [.data, .pinned], laidTests := true, laidLooks := .later }
def ParseLinesUptoCardSaid : Prop := Claim7.holds Tryd.pinned (.plain (OpenSpec.upto parseLinesSpec)) parseLinesUptoCard

/-- THE SECOND FORM's CARD OF 'flatironlaw06.ParseShows'. -/
def parseShowsUptoCard : Claim7 := { stood := { row := parseShowsUptoRow, standIns := [], harness := (true, "8e4c1f1bb61e204366dea21ad446f72a6bf8a1218b8158afd7aad09cca80b4f5"), looks := false }, kinds := [], alts := [], laidByText := true, laidKinds := [.data, .pinned], laidTests := true, laidLooks := .later }
def ParseShowsUptoCardSaid : Prop := Claim7.holds Tryd.pinned (.plain (OpenSpec.upto parseShowsSpec)) parseShowsUptoCard

/-- THE SECOND FORM's CARD OF 'flatironlaw02.GlobMatches'. -/
def globMatchesUptoCard : Claim7 := { stood := { row := globMatchesUptoRow, standIns := [], harness := (true, "8e4c1f1bb61e204366dea21ad446f72a6bf8a1218b8158afd7aad09cca80b4f5"), looks := false }, kinds := [], alts := [], laidByText := true, laidKinds := [.data, .pinned], laidTests := true, laidLooks := .later }
def GlobMatchesUptoCardSaid : Prop := Claim7.holds Tryd.pinned (.plain (OpenSpec.upto globMatchesSpec)) globMatchesUptoCard

/-- THE SECOND FORM's CARD OF 'flatironlaw02.GlobPaths'. -/
def globPathsUptoCard : Claim7 := { stood := { row := globPathsUptoRow, standIns := [], harness := (true, "8e4c1f1bb61e204366dea21ad446f72a6bf8a1218b8158afd7aad09cca80b4f5"), looks := false }, kinds := [], alts := [], laidByText := true, laidKinds := [.data, .pinned], laidTests := true, laidLooks := .later }
def GlobPathsUptoCardSaid : Prop := Claim7.holds Tryd.pinned (.plain (OpenSpec.upto globPathsSpec)) globPathsUptoCard

/-- THE SECOND FORM's CARD OF 'flatironlaw09.MakefileLines'. -/
def makefileLinesUptoCard : Claim7 := { stood := { row := makefileLinesUptoRow, standIns := [], harness := (true, "8e4c1f1bb61e204366dea21ad446f72a6bf8a1218b8158afd7aad09cca80b4f5"), looks := false }, kinds := [], alts := [], laidByText := true, laidKinds := [.data, .pinned], laidTests := true, laidLooks := .later }
def MakefileLinesUptoCardSaid : Prop := Claim7.holds Tryd.pinned (.plain (OpenSpec.upto makefileLinesSpec)) makefileLinesUptoCard

/-- THE SECOND FORM's CARD OF 'flatironlaw10.ShowTexts'. -/
def showTextsUptoCard : Claim7 := { stood := { row := showTextsUptoRow, standIns := [], harness := (true, "8e4c1f1bb61e204366dea21ad446f72a6bf8a1218b8158afd7aad09cca80b4f5"), looks := false }, kinds := [], alts := [], laidByText := true, laidKinds := [.data, .pinned], laidTests := true, laidLooks := .later }
def ShowTextsUptoCardSaid : Prop := Claim7.holds Tryd.pinned (.plain (OpenSpec.upto showTextsSpec)) showTextsUptoCard
end Rows
end Go.Proofs.YtgpabkdmagifjaaDoor
