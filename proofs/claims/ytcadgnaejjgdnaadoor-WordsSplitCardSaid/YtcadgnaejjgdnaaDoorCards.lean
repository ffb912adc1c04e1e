/-
  DERIVED. GIVEN WITH THE SEED: THE CARDS: each row of YtcadgnaejjgdnaaDoorRows.lean that lists a variable, with what it lists TIED to the program's text (the seventh form; the later family's looks); each row that meets fmt, with fmt's text TOLD by the authors' own Lean function (tested against real Go, not proved from fmt's source: count such statements apart). THE CARD IS WHAT COUNTS. Prove the row's statement (the work); the ties are given (YtcadgnaejjgdnaaDoorTie.lean); close each card by the builder's one call (the guide's Derived/Test/ToyasCard.lean, 'card_holds'). Laid BY PROGRAM, IN A SANDBOX (cutbox-door.mjs). By AI agents, Wed Nov 11 2026. No macro, syntax, notation, axiom, sorry.
-/
import Derived.Test.YtcadgnaejjgdnaaDoorRows
import GoSem.ClaimSeven
namespace Go.Proofs.YtcadgnaejjgdnaaDoor
namespace Rows

/-- THE TIED CARD OF 'flatironlaw12.StemMatches'. -/
def stemMatchesCard : Claim7 := { stood := { row := stemMatchesRow, standIns := [], harness := (true, "9292c4413cfb4748e5566ec300141a1bad23bdfd5119933fe71f2202a57ae8c0"), looks := false }, kinds := [], alts := [], laidByText := true, laidKinds := [.data, .pinned], laidTests := true, laidLooks := .later }
def StemMatchesCardSaid : Prop := Claim7.holds Tryd.pinned (.plain (OpenSpec.ofChange stemMatchesSpec)) stemMatchesCard

/-- THE TIED CARD OF 'flatironlaw12.StemChanges'. -/
def stemChangesCard : Claim7 := { stood := { row := stemChangesRow, standIns := [], harness := (true, "9292c4413cfb4748e5566ec300141a1bad23bdfd5119933fe71f2202a57ae8c0"), looks := false }, kinds := [], alts := [], laidByText := true, laidKinds := [.data, .pinned], laidTests := true, laidLooks := .later }
def StemChangesCardSaid : Prop := Claim7.holds Tryd.pinned (.plain (OpenSpec.ofChange stemChangesSpec)) stemChangesCard

/-- THE TIED CARD OF 'flatironlaw04.WordsSplit'. -/
def wordsSplitCard : Claim7 := { stood := { row := wordsSplitRow, standIns := [], harness := (true, "9292c4413cfb4748e5566ec300141a1bad23bdfd5119933fe71f2202a57ae8c0"), looks := false }, kinds := [], alts := [], laidByText := true, laidKinds := [.data, .pinned], laidTests := true, laidLooks := .later }
def WordsSplitCardSaid : Prop := Claim7.holds Tryd.pinned (.plain (OpenSpec.ofChange wordsSplitSpec)) wordsSplitCard

/-- THE TIED CARD OF 'flatironlaw01.PathJoins'. -/
def pathJoinsCard : Claim7 := { stood := { row := pathJoinsRow, standIns := [], harness := (true, "9292c4413cfb4748e5566ec300141a1bad23bdfd5119933fe71f2202a57ae8c0"), looks := false }, kinds := [], alts := [], laidByText := true, laidKinds := [.data, .pinned], laidTests := true, laidLooks := .later }
def PathJoinsCardSaid : Prop := Claim7.holds Tryd.pinned (.plain (OpenSpec.ofChange pathJoinsSpec)) pathJoinsCard

/-- THE TIED CARD OF 'flatironlaw01.PathWays'. -/
def pathWaysCard : Claim7 := { stood := { row := pathWaysRow, standIns := [], harness := (true, "9292c4413cfb4748e5566ec300141a1bad23bdfd5119933fe71f2202a57ae8c0"), looks := false }, kinds := [], alts := [], laidByText := true, laidKinds := [.data, .pinned], laidTests := true, laidLooks := .later }
def PathWaysCardSaid : Prop := Claim7.holds Tryd.pinned (.plain (OpenSpec.ofChange pathWaysSpec)) pathWaysCard

/-- THE SECOND FORM's CARD OF 'flatironlaw12.StemMatches'. -/
def stemMatchesUptoCard : Claim7 := { stood := { row := stemMatchesUptoRow, standIns := [], harness := (true, "9292c4413cfb4748e5566ec300141a1bad23bdfd5119933fe71f2202a57ae8c0"), looks := false }, kinds := [], alts := [], laidByText := true, laidKinds := [.data, .pinned], laidTests := true, laidLooks := .later }
def StemMatchesUptoCardSaid : Prop := Claim7.holds Tryd.pinned (.plain (OpenSpec.upto stemMatchesSpec)) stemMatchesUptoCard

/-- THE SECOND FORM's CARD OF 'flatironlaw12.StemChanges'. -/
def stemChangesUptoCard : Claim7 := { stood := { row := stemChangesUptoRow, standIns := [], harness := (true, "9292c4413cfb4748e5566ec300141a1bad23bdfd5119933fe71f2202a57ae8c0"), looks := false }, kinds := [], alts := [], laidByText := true, laidKinds := [.data, .pinned], laidTests := true, laidLooks := .later }
def StemChangesUptoCardSaid : Prop := Claim7.holds Tryd.pinned (.plain (OpenSpec.upto stemChangesSpec)) stemChangesUptoCard

/-- THE SECOND FORM's CARD OF 'flatironlaw04.WordsSplit'. -/
def wordsSplitUptoCard : Claim7 := { stood := { row := wordsSplitUptoRow, standIns := [], harness := (true, "9292c4413cfb4748e5566ec300141a1bad23bdfd5119933fe71f2202a57ae8c0"), looks := false }, kinds := [], alts := [], laidByText := true, laidKinds := [.data, .pinned], laidTests := true, laidLooks := .later }
def WordsSplitUptoCardSaid : Prop := Claim7.holds Tryd.pinned (.plain (OpenSpec.upto wordsSplitSpec)) wordsSplitUptoCard

/-- THE SECOND FORM's CARD OF 'flatironlaw01.PathJoins'. -/
def pathJoinsUptoCard : Claim7 := { stood := { row := pathJoinsUptoRow, standIns := [], harness := (true, "9292c4413cfb4748e5566ec300141a1bad23bdfd5119933fe71f2202a57ae8c0"), looks := false }, kinds := [], alts := [], laidByText := true, laidKinds := [.data, .pinned], laidTests := true, laidLooks := .later }
def PathJoinsUptoCardSaid : Prop := Claim7.holds Tryd.pinned (.plain (OpenSpec.upto pathJoinsSpec)) pathJoinsUptoCard

/-- THE SECOND FORM's CARD OF 'flatironlaw01.PathWays'. -/
def pathWaysUptoCard : Claim7 := { stood := { row := pathWaysUptoRow, standIns := [], harness := (true, "9292c4413cfb4748e5566ec300141a1bad23bdfd5119933fe71f2202a57ae8c0"), looks := false }, kinds := [], alts := [], laidByText := true, laidKinds := [.data, .pinned], laidTests := true, laidLooks := .later }
def PathWaysUptoCardSaid : Prop := Claim7.holds Tryd.pinned (.plain (OpenSpec.upto pathWaysSpec)) pathWaysUptoCard
end Rows
end Go.Proofs.YtcadgnaejjgdnaaDoor
