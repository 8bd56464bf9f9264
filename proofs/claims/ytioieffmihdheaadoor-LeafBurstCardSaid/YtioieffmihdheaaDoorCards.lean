/-
  DERIVED. GIVEN WITH THE SEED: THE CARDS: each row of YtioieffmihdheaaDoorRows.lean that lists a variable, with what it lists TIED to the program's text (the seventh form; the later family's looks); each row that meets fmt, with fmt's text TOLD by the authors' own Lean function (tested against real Go, not proved from fmt's source: count such statements apart). THE CARD IS WHAT COUNTS. Prove the row's statement (the work); the ties are given (YtioieffmihdheaaDoorTie.lean); close each card by the builder's one call (the guide's Derived/Test/ToyasCard.lean, 'card_holds'). Laid BY PROGRAM, IN A SANDBOX (cutbox-door.mjs). By AI agents, Wed Nov 11 2026. No macro, syntax, notation, axiom, sorry.
-/
import Derived.Test.YtioieffmihdheaaDoorRows
import GoSem.ClaimSeven
namespace Go.Proofs.YtioieffmihdheaaDoor
namespace Rows

/-- THE TIED CARD OF 'sheaflaw5.LeafRuns'. -/
def leafRunsCard : Claim7 := { stood := { row := leafRunsRow, standIns := [], harness := (true, "f409cbd75a39e2518997cd3e978b6de5635661d0611dae743bdc3cf4497fdb45"), looks := false }, kinds := [], alts := [], laidByText := true, laidKinds := [.data, .pinned], laidTests := true, laidLooks := .later }
def LeafRunsCardSaid : Prop := Claim7.holds Tryd.pinned (.plain (OpenSpec.ofChange leafRunsSpec)) leafRunsCard

/-- THE TIED CARD OF 'sheaflaw5.LeafTells'. -/
def leafTellsCard : Claim7 := { stood := { row := leafTellsRow, standIns := [], harness := (true, "f409cbd75a39e2518997cd3e978b6de5635661d0611dae743bdc3cf4497fdb45"), looks := false }, kinds := [], alts := [], laidByText := true, laidKinds := [.data, .pinned], laidTests := true, laidLooks := .later }
def LeafTellsCardSaid : Prop := Claim7.holds Tryd.pinned (.plain (OpenSpec.ofChange leafTellsSpec)) leafTellsCard

/-- THE TIED CARD OF 'sheaflaw5.LeafBurst'. -/
def leafBurstCard : Claim7 := { stood := { row := leafBurstRow, standIns := [], harness := (true, "f409cbd75a39e2518997cd3e978b6de5635661d0611dae743bdc3cf4497fdb45"), looks := false }, kinds := [], alts := [], laidByText := true, laidKinds := [.data, .pinned], laidTests := true, laidLooks := .later }
def LeafBurstCardSaid : Prop := Claim7.holds Tryd.pinned (.plain (OpenSpec.ofChange leafBurstSpec)) leafBurstCard

/-- THE TIED CARD OF 'sheaflaw5.LeafEdges'. -/
def leafEdgesCard : Claim7 := { stood := { row := leafEdgesRow, standIns := [], harness := (true, "f409cbd75a39e2518997cd3e978b6de5635661d0611dae743bdc3cf4497fdb45"), looks := false }, kinds := [], alts := [], laidByText := true, laidKinds := [.data, .pinned], laidTests := true, laidLooks := .later }
def LeafEdgesCardSaid : Prop := Claim7.holds Tryd.pinned (.plain (OpenSpec.ofChange leafEdgesSpec)) leafEdgesCard

/-- THE SECOND FORM's CARD OF 'sheaflaw5.LeafRuns'. -/
def leafRunsUptoCard : Claim7 := { stood := { row := leafRunsUptoRow, standIns := [], harness := (true, "f409cbd75a39e2518997cd3e978b6de5635661d0611dae743bdc3cf4497fdb45"), looks := false }, kinds := [], alts := [], laidByText := true, laidKinds := [.data, .pinned], laidTests := true, laidLooks := .later }
def LeafRunsUptoCardSaid : Prop := Claim7.holds Tryd.pinned (.plain (OpenSpec.upto leafRunsSpec)) leafRunsUptoCard

/-- THE SECOND FORM's CARD OF 'sheaflaw5.LeafTells'. -/
def leafTellsUptoCard : Claim7 := { stood := { row := leafTellsUptoRow, standIns := [], harness := (true, "f409cbd75a39e2518997cd3e978b6de5635661d0611dae743bdc3cf4497fdb45"), looks := false }, kinds := [], alts := [], laidByText := true, laidKinds := [.data, .pinned], laidTests := true, laidLooks := .later }
def LeafTellsUptoCardSaid : Prop := Claim7.holds Tryd.pinned (.plain (OpenSpec.upto leafTellsSpec)) leafTellsUptoCard

/-- THE SECOND FORM's CARD OF 'sheaflaw5.LeafBurst'. -/
def leafBurstUptoCard : Claim7 := { stood := { row := leafBurstUptoRow, standIns := [], harness := (true, "f409cbd75a39e2518997cd3e978b6de5635661d0611dae743bdc3cf4497fdb45"), looks := false }, kinds := [], alts := [], laidByText := true, laidKinds := [.data, .pinned], laidTests := true, laidLooks := .later }
def LeafBurstUptoCardSaid : Prop := Claim7.holds Tryd.pinned (.plain (OpenSpec.upto leafBurstSpec)) leafBurstUptoCard

/-- THE SECOND FORM's CARD OF 'sheaflaw5.LeafEdges'. -/
def leafEdgesUptoCard : Claim7 := { stood := { row := leafEdgesUptoRow, standIns := [], harness := (true, "f409cbd75a39e2518997cd3e978b6de5635661d0611dae743bdc3cf4497fdb45"), looks := false }, kinds := [], alts := [], laidByText := true, laidKinds := [.data, .pinned], laidTests := true, laidLooks := .later }
def LeafEdgesUptoCardSaid : Prop := Claim7.holds Tryd.pinned (.plain (OpenSpec.upto leafEdgesSpec)) leafEdgesUptoCard
end Rows
end Go.Proofs.YtioieffmihdheaaDoor
