/-
  DERIVED. GIVEN WITH THE SEED: THE CARDS: each row of YtdkieabjjmhdlaaDoorRows.lean that lists a variable, with what it lists TIED to the program's text (the seventh form; the later family's looks); each row that meets fmt, with fmt's text TOLD by the authors' own Lean function (tested against real Go, not proved from fmt's source: count such statements apart). THE CARD IS WHAT COUNTS. Prove the row's statement (the work); the ties are given (YtdkieabjjmhdlaaDoorTie.lean); close each card by the builder's one call (the guide's Derived/Test/ToyasCard.lean, 'card_holds'). Laid BY PROGRAM, IN A SANDBOX (cutbox-door.mjs). By AI agents, Wed Nov 11 2026. No macro, syntax, notation, axiom, sorry.
-/
import Derived.Test.YtdkieabjjmhdlaaDoorRows
import GoSem.ClaimSeven
namespace Go.Proofs.YtdkieabjjmhdlaaDoor
namespace Rows

/-- THE TIED CARD OF 'sheaflaw5.LeafTells'. -/
def leafTellsCard : Claim7 := { stood := { row := leafTellsRow, standIns := [], harness := (true, "b006fb97a40d41b487695a8a9358ea25072c9a8ecc82d1128d17da768d2d55cc"), looks := false }, kinds := [], alts := [], laidByText := true, laidKinds := [.data, .pinned], laidTests := true, laidLooks := .later }
def LeafTellsCardSaid : Prop := Claim7.holds Tryd.pinned (.plain (OpenSpec.ofChange leafTellsSpec)) leafTellsCard

/-- THE SECOND FORM's CARD OF 'sheaflaw5.LeafTells'. -/
def leafTellsUptoCard : Claim7 := { stood := { row := leafTellsUptoRow, standIns := [], harness := (true, "b006fb97a40d41b487695a8a9358ea25072c9a8ecc82d1128d17da768d2d55cc"), looks := false }, kinds := [], alts := [], laidByText := true, laidKinds := [.data, .pinned], laidTests := true, laidLooks := .later }
def LeafTellsUptoCardSaid : Prop := Claim7.holds Tryd.pinned (.plain (OpenSpec.upto leafTellsSpec)) leafTellsUptoCard
end Rows
end Go.Proofs.YtdkieabjjmhdlaaDoor
