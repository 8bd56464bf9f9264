/-
  DERIVED. GIVEN WITH THE SEED: THE CARDS: each row of YtngolamlmjdpdaaDoorRows.lean that lists a variable, with what it lists TIED to the program's text (the seventh form; the later family's looks); each row that meets fmt, with fmt's text TOLD by the authors' own Lean function (tested against real Go, not proved from fmt's source: count such statements apart). THE CARD IS WHAT COUNTS. Prove the row's statement (the work); the ties are given (YtngolamlmjdpdaaDoorTie.lean); close each card by the builder's one call (the guide's Derived/Test/ToyasCard.lean, 'card_holds'). Laid BY PROGRAM, IN A SANDBOX (cutbox-door.mjs). By AI agents, Wed Nov 11 2026. No macro, syntax, notation, axiom, sorry.
-/
import Derived.Test.YtngolamlmjdpdaaDoorRows
import GoSem.ClaimSeven
namespace Go.Proofs.YtngolamlmjdpdaaDoor
namespace Rows

/-- THE TIED CARD OF 'sheaflaw5.LeafRuns'. -/
def leafRunsCard : Claim7 := { stood := { row := leafRunsRow, standIns := [], harness := (true, "6eba4963bfe3df247ed5f38e2c2fb56dd2ca9128d605f302ca644ead617e107a"), looks := false }, kinds := [], alts := [], laidByText := true, laidKinds := [.data, .pinned], laidTests := true, laidLooks := .later }
def LeafRunsCardSaid : Prop := Claim7.holds Tryd.pinned (.plain (OpenSpec.ofChange leafRunsSpec)) leafRunsCard

/-- THE TIED CARD OF 'sheaflaw6.CatalogRuns'. -/
def catalogRunsCard : Claim7 := { stood := { row := catalogRunsRow, standIns := [], harness := (true, "6eba4963bfe3df247ed5f38e2c2fb56dd2ca9128d605f302ca644ead617e107a"), looks := false }, kinds := [], alts := [], laidByText := true, laidKinds := [.data, .pinned], laidTests := true, laidLooks := .later }
def CatalogRunsCardSaid : Prop := Claim7.holds Tryd.pinned (.plain (OpenSpec.ofChange catalogRunsSpec)) catalogRunsCard

/-- THE TIED CARD OF 'sheaflaw7.StoreRuns'. -/
def storeRunsCard : Claim7 := { stood := { row := storeRunsRow, standIns := [], harness := (true, "6eba4963bfe3df247ed5f38e2c2fb56dd2ca9128d605f302ca644ead617e107a"), looks := false }, kinds := [], alts := [], laidByText := true, laidKinds := [.data, .pinned], laidTests := true, laidLooks := .later }
def StoreRunsCardSaid : Prop := Claim7.holds Tryd.pinned (.plain (OpenSpec.ofChange storeRunsSpec)) storeRunsCard

/-- THE SECOND FORM's CARD OF 'sheaflaw5.LeafRuns'. -/
def leafRunsUptoCard : Claim7 := { stood := { row := leafRunsUptoRow, standIns := [], harness := (true, "6eba4963bfe3df247ed5f38e2c2fb56dd2ca9128d605f302ca644ead617e107a"), looks := false }, kinds := [], alts := [], laidByText := true, laidKinds := [.data, .pinned], laidTests := true, laidLooks := .later }
def LeafRunsUptoCardSaid : Prop := Claim7.holds Tryd.pinned (.plain (OpenSpec.upto leafRunsSpec)) leafRunsUptoCard

/-- THE SECOND FORM's CARD OF 'sheaflaw6.CatalogRuns'. -/
def catalogRunsUptoCard : Claim7 := { stood := { row := catalogRunsUptoRow, standIns := [], harness := (true, "6eba4963bfe3df247ed5f38e2c2fb56dd2ca9128d605f302ca644ead617e107a"), looks := false }, kinds := [], alts := [], laidByText := true, laidKinds := [.data, .pinned], laidTests := true, laidLooks := .later }
def CatalogRunsUptoCardSaid : Prop := Claim7.holds Tryd.pinned (.plain (OpenSpec.upto catalogRunsSpec)) catalogRunsUptoCard

/-- THE SECOND FORM's CARD OF 'sheaflaw7.StoreRuns'. -/
def storeRunsUptoCard : Claim7 := { stood := { row := storeRunsUptoRow, standIns := [], harness := (true, "6eba4963bfe3df247ed5f38e2c2fb56dd2ca9128d605f302ca644ead617e107a"), looks := false }, kinds := [], alts := [], laidByText := true, laidKinds := [.data, .pinned], laidTests := true, laidLooks := .later }
def StoreRunsUptoCardSaid : Prop := Claim7.holds Tryd.pinned (.plain (OpenSpec.upto storeRunsSpec)) storeRunsUptoCard
end Rows
end Go.Proofs.YtngolamlmjdpdaaDoor
