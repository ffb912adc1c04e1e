/-
  DERIVED. GIVEN WITH THE SEED: THE CARDS: each row of YtogbdjboblfokaaDoorRows.lean that lists a variable, with what it lists TIED to the program's text (the seventh form; the later family's looks); each row that meets fmt, with fmt's text TOLD by the authors' own Lean function (tested against real Go, not proved from fmt's source: count such statements apart). THE CARD IS WHAT COUNTS. Prove the row's statement (the work); the ties are given (YtogbdjboblfokaaDoorTie.lean); close each card by the builder's one call (the guide's Derived/Test/ToyasCard.lean, 'card_holds'). Laid BY PROGRAM, IN A SANDBOX (cutbox-door.mjs). By AI agents, Wed Nov 11 2026. No macro, syntax, notation, axiom, sorry.
-/
import Derived.Test.YtogbdjboblfokaaDoorRows
import GoSem.ClaimSeven
namespace Go.Proofs.YtogbdjboblfokaaDoor
namespace Rows

/-- THE TIED CARD OF 'flatironlaw06.ParseLines'. -/
def parseLinesCard : Claim7 := { stood := { row := parseLinesRow, standIns := [], harness := (true, "a07165a9d35b9ac5b6b2b62ff579ebc578ddbce3c2b28d931198012ea8128883"), looks := false }, kinds := [], alts := [], laidByText := true, laidKinds := [.data, .pinned], laidTests := true, laidLooks := .later }
def ParseLinesCardSaid : Prop := Claim7.holds Tryd.pinned (.plain (OpenSpec.ofChange parseLinesSpec)) parseLinesCard

/-- THE TIED CARD OF 'flatironlaw06.ParseShows'. -/
def parseShowsCard : Claim7 := { stood := { row := parseShowsRow, standIns := [], harness := (true, "a07165a9d35b9ac5b6b2b62ff579ebc578ddbce3c2b28d931198012ea8128883"), looks := false }, kinds := [], alts := [], laidByText := true, laidKinds := [.data, .pinned], laidTests := true, laidLooks := .later }
def ParseShowsCardSaid : Prop := Claim7.holds Tryd.pinned (.plain (OpenSpec.ofChange parseShowsSpec)) parseShowsCard

/-- THE TIED CARD OF 'flatironlaw09.MakefileLines'. -/
def makefileLinesCard : Claim7 := { stood := { row := makefileLinesRow, standIns := [], harness := (true, "a07165a9d35b9ac5b6b2b62ff579ebc578ddbce3c2b28d931198012ea8128883"), looks := false }, kinds := [], alts := [], laidByText := true, laidKinds := [.data, .pinned], laidTests := true, laidLooks := .later }
def MakefileLinesCardSaid : Prop := Claim7.holds Tryd.pinned (.plain (OpenSpec.ofChange makefileLinesSpec)) makefileLinesCard

/-- THE SECOND FORM's CARD OF 'flatironlaw06.ParseLines'. -/
def parseLinesUptoCard : Claim7 := { stood := { row := parseLinesUptoRow, standIns := [], harness := (true, "a07165a9d35b9ac5b6b2b62ff579ebc578ddbce3c2b28d931198012ea8128883"), looks := false }, kinds := [], alts := [], laidByText := true, laidKinds := [.data, .pinned], laidTests := true, laidLooks := .later }
def ParseLinesUptoCardSaid : Prop := Claim7.holds Tryd.pinned (.plain (OpenSpec.upto parseLinesSpec)) parseLinesUptoCard

/-- THE SECOND FORM's CARD OF 'flatironlaw06.ParseShows'. -/
def parseShowsUptoCard : Claim7 := { stood := { row := parseShowsUptoRow, standIns := [], harness := (true, "a07165a9d35b9ac5b6b2b62ff579ebc578ddbce3c2b28d931198012ea8128883"), looks := false }, kinds := [], alts := [], laidByText := true, laidKinds := [.data, .pinned], laidTests := true, laidLooks := .later }
def ParseShowsUptoCardSaid : Prop := Claim7.holds Tryd.pinned (.plain (OpenSpec.upto parseShowsSpec)) parseShowsUptoCard

/-- THE SECOND FORM's CARD OF 'flatironlaw09.MakefileLines'. -/
def makefileLinesUptoCard : Claim7 := { stood := { row := makefileLinesUptoRow, standIns := [], harness := (true, "a07165a9d35b9ac5b6b2b62ff579ebc578ddbce3c2b28d931198012ea8128883"), looks := false }, kinds := [], alts := [], laidByText := true, laidKinds := [.data, .pinned], laidTests := true, laidLooks := .later }
def MakefileLinesUptoCardSaid : Prop := Claim7.holds Tryd.pinned (.plain (OpenSpec.upto makefileLinesSpec)) makefileLinesUptoCard
end Rows
end Go.Proofs.YtogbdjboblfokaaDoor
