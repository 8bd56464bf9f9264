/-
  DERIVED. GIVEN WITH THE SEED: THE CARDS: each row of YtngolamlmjdpdaaGreatDoorRows.lean that lists a variable, with what it lists TIED to the program's text (the seventh form; the later family's looks); each row that meets fmt, with fmt's text TOLD by the authors' own Lean function (tested against real Go, not proved from fmt's source: count such statements apart). THE CARD IS WHAT COUNTS. Prove the row's statement (the work); the ties are given (YtngolamlmjdpdaaGreatDoorTie.lean); close each card by the builder's one call (the guide's Derived/Test/ToyasCard.lean, 'card_holds'). Laid BY PROGRAM, IN A SANDBOX (cutbox-door.mjs). By AI agents, Wed Nov 11 2026. No macro, syntax, notation, axiom, sorry.
-/
import Derived.Test.YtngolamlmjdpdaaGreatDoorRows
import GoSem.ClaimSeven
namespace Go.Proofs.YtngolamlmjdpdaaGreatDoor
namespace Rows

/-- THE TIED CARD OF 'sheaflaw14.TableRuns'. -/
def tableRunsCard : Claim7 := { stood := { row := tableRunsRow, standIns := [], harness := (true, "c7137f037db65b9108b74133a56a678866cf119be894b9f39aecf2fcf7cb969d"), looks := false }, kinds := [], alts := [], laidByText := true, laidKinds := [.data, .pinned], laidTests := true, laidLooks := .later }
def TableRunsCardSaid : Prop := Claim7.holds Tryz.pinned (.plain (OpenSpec.ofChange tableRunsSpec)) tableRunsCard

/-- THE TIED CARD OF 'sheaflaw15.SorterRuns'. -/
def sorterRunsCard : Claim7 := { stood := { row := sorterRunsRow, standIns := [], harness := (true, "c7137f037db65b9108b74133a56a678866cf119be894b9f39aecf2fcf7cb969d"), looks := false }, kinds := [], alts := [], laidByText := true, laidKinds := [.data, .pinned], laidTests := true, laidLooks := .later }
def SorterRunsCardSaid : Prop := Claim7.holds Tryz.pinned (.plain (OpenSpec.ofChange sorterRunsSpec)) sorterRunsCard

/-- THE TIED CARD OF 'sheaflaw22.JobRuns'. -/
def jobRunsCard : Claim7 := { stood := { row := jobRunsRow, standIns := [], harness := (true, "c7137f037db65b9108b74133a56a678866cf119be894b9f39aecf2fcf7cb969d"), looks := false }, kinds := [], alts := [], laidByText := true, laidKinds := [.data, .pinned], laidTests := true, laidLooks := .later }
def JobRunsCardSaid : Prop := Claim7.holds Tryz.pinned (.plain (OpenSpec.ofChange jobRunsSpec)) jobRunsCard

/-- THE TIED CARD OF 'sheaflaw24.ScriptRuns'. -/
def scriptRunsCard : Claim7 := { stood := { row := scriptRunsRow, standIns := [], harness := (true, "c7137f037db65b9108b74133a56a678866cf119be894b9f39aecf2fcf7cb969d"), looks := false }, kinds := [], alts := [], laidByText := true, laidKinds := [.data, .pinned], laidTests := true, laidLooks := .later }
def ScriptRunsCardSaid : Prop := Claim7.holds Tryz.pinned (.plain (OpenSpec.ofChange scriptRunsSpec)) scriptRunsCard

/-- THE SECOND FORM's CARD OF 'sheaflaw14.TableRuns'. -/
def tableRunsUptoCard : Claim7 := { stood := { row := tableRunsUptoRow, standIns := [], harness := (true, "c7137f037db65b9108b74133a56a678866cf119be894b9f39aecf2fcf7cb969d"), looks := false }, kinds := [], alts := [], laidByText := true, laidKinds := [.data, .pinned], laidTests := true, laidLooks := .later }
def TableRunsUptoCardSaid : Prop := Claim7.holds Tryz.pinned (.plain (OpenSpec.upto tableRunsSpec)) tableRunsUptoCard

/-- THE SECOND FORM's CARD OF 'sheaflaw15.SorterRuns'. -/
def sorterRunsUptoCard : Claim7 := { stood := { row := sorterRunsUptoRow, standIns := [], harness := (true, "c7137f037db65b9108b74133a56a678866cf119be894b9f39aecf2fcf7cb969d"), looks := false }, kinds := [], alts := [], laidByText := true, laidKinds := [.data, .pinned], laidTests := true, laidLooks := .later }
def SorterRunsUptoCardSaid : Prop := Claim7.holds Tryz.pinned (.plain (OpenSpec.upto sorterRunsSpec)) sorterRunsUptoCard

/-- THE SECOND FORM's CARD OF 'sheaflaw22.JobRuns'. -/
def jobRunsUptoCard : Claim7 := { stood := { row := jobRunsUptoRow, standIns := [], harness := (true, "c7137f037db65b9108b74133a56a678866cf119be894b9f39aecf2fcf7cb969d"), looks := false }, kinds := [], alts := [], laidByText := true, laidKinds := [.data, .pinned], laidTests := true, laidLooks := .later }
def JobRunsUptoCardSaid : Prop := Claim7.holds Tryz.pinned (.plain (OpenSpec.upto jobRunsSpec)) jobRunsUptoCard

/-- THE SECOND FORM's CARD OF 'sheaflaw24.ScriptRuns'. -/
def scriptRunsUptoCard : Claim7 := { stood := { row := scriptRunsUptoRow, standIns := [], harness := (true, "c7137f037db65b9108b74133a56a678866cf119be894b9f39aecf2fcf7cb969d"), looks := false }, kinds := [], alts := [], laidByText := true, laidKinds := [.data, .pinned], laidTests := true, laidLooks := .later }
def ScriptRunsUptoCardSaid : Prop := Claim7.holds Tryz.pinned (.plain (OpenSpec.upto scriptRunsSpec)) scriptRunsUptoCard
end Rows
end Go.Proofs.YtngolamlmjdpdaaGreatDoor
