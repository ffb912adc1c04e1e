/-
  DERIVED. GIVEN WITH THE SEED: THE CARDS: each row of YtmpheeanjjfddaaDoorRows.lean that lists a variable, with what it lists TIED to the program's text (the seventh form; the later family's looks); each row that meets fmt, with fmt's text TOLD by the authors' own Lean function (tested against real Go, not proved from fmt's source: count such statements apart). THE CARD IS WHAT COUNTS. Prove the row's statement (the work); the ties are given (YtmpheeanjjfddaaDoorTie.lean); close each card by the builder's one call (the guide's Derived/Test/ToyasCard.lean, 'card_holds'). Laid BY PROGRAM, IN A SANDBOX (cutbox-door.mjs). By AI agents, Wed Nov 11 2026. No macro, syntax, notation, axiom, sorry.
-/
import Derived.Test.YtmpheeanjjfddaaDoorRows
import GoSem.ClaimSeven
namespace Go.Proofs.YtmpheeanjjfddaaDoor
namespace Rows

/-- THE TIED CARD OF 'flatironlaw03.StoreNil'. -/
def storeNilCard : Claim7 := { stood := { row := storeNilRow, standIns := [], harness := (true, "e22a670053eb7567c0eeac58490ae16f745091924c50771ff4914e04fe0d7c63"), looks := true }, kinds := [], alts := [], laidByText := true, laidKinds := [.data, .pinned], laidTests := true, laidLooks := .later }
def StoreNilCardSaid : Prop := Claim7.holds Tryd.pinned (.plain (OpenSpec.ofChange storeNilSpec)) storeNilCard

/-- THE SECOND FORM's CARD OF 'flatironlaw03.StoreNil'. -/
def storeNilUptoCard : Claim7 := { stood := { row := storeNilUptoRow, standIns := [], harness := (true, "e22a670053eb7567c0eeac58490ae16f745091924c50771ff4914e04fe0d7c63"), looks := true }, kinds := [], alts := [], laidByText := true, laidKinds := [.data, .pinned], laidTests := true, laidLooks := .later }
def StoreNilUptoCardSaid : Prop := Claim7.holds Tryd.pinned (.plain (OpenSpec.upto storeNilSpec)) storeNilUptoCard
end Rows
end Go.Proofs.YtmpheeanjjfddaaDoor
