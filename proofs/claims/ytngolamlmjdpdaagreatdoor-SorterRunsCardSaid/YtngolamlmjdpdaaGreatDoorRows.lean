/-
  NARROWER THAN 'FOR EVERY INPUT', by the rows' own cells (each row's printed sentence says how): TableRuns: laid · SorterRuns: laid · JobRuns: laid · ScriptRuns: laid.
  DERIVED. THE GIVEN ROWS OF THIS SEAT. 4 by the template 'for every input the law returns true; each argument reads behind the call as it read before'; 0 by the template 'total and deterministic' (their statements: YtngolamlmjdpdaaGreatDoorTotals.lean).
  GIVEN WITH THE SEED: the statements are not yours to turn. If you find one false, say at which input.
  Laid BY PROGRAM, IN A SANDBOX (cutbox-rows.mjs): the forced cells as the released guide's own fill.sh prints them over the translation 93e2d3f648a77afe… (all of the seat's roots in one cut). By AI agents, Wed Nov 11 2026. No macro, syntax, notation, axiom, sorry.
-/
import Derived.Test.YtngolamlmjdpdaaGreatDoorChecked
import GoSem.PinnedTables
import GoSem.Claim
import GoSem.ClaimJoined
import GoSem.ClaimMapViews
import Derived.JoinedTies
import Derived.KernelRfl
namespace Go.Proofs.YtngolamlmjdpdaaGreatDoor
/- THE CELL 'sum', in the pinned program and in every row, IS THE sha256 OF THE DUMP (.gsa) THAT YtngolamlmjdpdaaGreatDoorProg.lean LOADS. Nothing in Lean hashes anything: it is a label: what it is worth is what the hold of that sum in a sandbox is worth. -/
noncomputable def Tryz.pinned : Pinned := { name := "ytngolamlmjdpdaagreatdoor", sum := "93e2d3f648a77afefcb5f6ad5deec558aeb674f4ccbddedb6b65d32aad1d8d96", checked := Tryz.checked }
namespace Rows
def none {H : Type} : Left H := { results := [], args := [] }

/- WHAT THE LISTED PACKAGE-LEVEL VARIABLES READ AS WHEN THE CALL BEGINS. Each datum BY PROGRAM (the guide's laid-datum.mjs) off the statement by which the dump's own 'gosem.cut.vars' lays the variable. In a bare row this is a premise. The card (YtngolamlmjdpdaaGreatDoorCards.lean) ties it to the program's text. -/
def laid_unicode_utf8_acceptRanges {H : Type} : DataW H := .agg [.agg [.lit (.int .u8 128), .lit (.int .u8 191)], .agg [.lit (.int .u8 160), .lit (.int .u8 191)], .agg [.lit (.int .u8 128), .lit (.int .u8 159)], .agg [.lit (.int .u8 144), .lit (.int .u8 191)], .agg [.lit (.int .u8 128), .lit (.int .u8 143)], .agg [.lit (.int .u8 0), .lit (.int .u8 0)], .agg [.lit (.int .u8 0), .lit (.int .u8 0)], .agg [.lit (.int .u8 0), .lit (.int .u8 0)], .agg [.lit (.int .u8 0), .lit (.int .u8 0)], .agg [.lit (.int .u8 0), .lit (.int .u8 0)], .agg [.lit (.int .u8 0), .lit (.int .u8 0)], .agg [.lit (.int .u8 0), .lit (.int .u8 0)], .agg [.lit (.int .u8 0), .lit (.int .u8 0)], .agg [.lit (.int .u8 0), .lit (.int .u8 0)], .agg [.lit (.int .u8 0), .lit (.int .u8 0)], .agg [.lit (.int .u8 0), .lit (.int .u8 0)]]
/-- One of Go's own tables, pinned by name: the form's constant. -/
def laid_unicode_utf8_first : DataW Unit := Go.Pinned.utf8First

/-- 'sheaflaw14.TableRuns': WHATEVER THE INPUT: true; the input reads as it did. -/
def tableRunsSpec : ChangeSpec := { name := "tableRuns", fn := fun _ => fun
  | [] => { results := [.lit (.bool true)], args := [] }
  | _ => none }
def tableRunsRow : OpenClaim := { program := "ytngolamlmjdpdaagreatdoor", sum := "93e2d3f648a77afefcb5f6ad5deec558aeb674f4ccbddedb6b65d32aad1d8d96", func := "sheaf/sheaflaw14.TableRuns", spec := "tableRuns", unfollowed := true, recurses := true, named := ["unicode/utf8.first", "unicode/utf8.acceptRanges"], apart := false, laid := [("unicode/utf8.acceptRanges", laid_unicode_utf8_acceptRanges), ("unicode/utf8.first", laid_unicode_utf8_first)] }
def TableRunsSaid : Prop := tableRunsRow.holds Tryz.pinned (OpenSpec.ofChange tableRunsSpec)

/-- ITS FALSE NEIGHBOUR: 'it returns false'. Refute it at one input. -/
def tableRunsWrong : ChangeSpec := { name := "tableRuns", fn := fun _ => fun
  | [] => { results := [.lit (.bool false)], args := [] }
  | _ => none }
def TableRunsWrongFalsely : Prop := tableRunsRow.holds Tryz.pinned (OpenSpec.ofChange tableRunsWrong)

/-- 'sheaflaw15.SorterRuns': WHATEVER THE INPUT: true; the input reads as it did. -/
def sorterRunsSpec : ChangeSpec := { name := "sorterRuns", fn := fun _ => fun
  | [] => { results := [.lit (.bool true)], args := [] }
  | _ => none }
def sorterRunsRow : OpenClaim := { program := "ytngolamlmjdpdaagreatdoor", sum := "93e2d3f648a77afefcb5f6ad5deec558aeb674f4ccbddedb6b65d32aad1d8d96", func := "sheaf/sheaflaw15.SorterRuns", spec := "sorterRuns", unfollowed := true, recurses := true, named := ["unicode/utf8.first", "unicode/utf8.acceptRanges"], apart := false, laid := [("unicode/utf8.acceptRanges", laid_unicode_utf8_acceptRanges), ("unicode/utf8.first", laid_unicode_utf8_first)] }
def SorterRunsSaid : Prop := sorterRunsRow.holds Tryz.pinned (OpenSpec.ofChange sorterRunsSpec)

/-- ITS FALSE NEIGHBOUR: 'it returns false'. Refute it at one input. -/
def sorterRunsWrong : ChangeSpec := { name := "sorterRuns", fn := fun _ => fun
  | [] => { results := [.lit (.bool false)], args := [] }
  | _ => none }
def SorterRunsWrongFalsely : Prop := sorterRunsRow.holds Tryz.pinned (OpenSpec.ofChange sorterRunsWrong)

/-- 'sheaflaw22.JobRuns': WHATEVER THE INPUT: true; the input reads as it did. -/
def jobRunsSpec : ChangeSpec := { name := "jobRuns", fn := fun _ => fun
  | [] => { results := [.lit (.bool true)], args := [] }
  | _ => none }
def jobRunsRow : OpenClaim := { program := "ytngolamlmjdpdaagreatdoor", sum := "93e2d3f648a77afefcb5f6ad5deec558aeb674f4ccbddedb6b65d32aad1d8d96", func := "sheaf/sheaflaw22.JobRuns", spec := "jobRuns", inPlace := ["math/bits.Add64", "math/bits.Sub64"], unfollowed := true, recurses := true, named := ["unicode/utf8.first", "unicode/utf8.acceptRanges", "math/bits.divideError", "math/bits.overflowError"], apart := false, laid := [("unicode/utf8.acceptRanges", laid_unicode_utf8_acceptRanges), ("unicode/utf8.first", laid_unicode_utf8_first)] }
def JobRunsSaid : Prop := jobRunsRow.holds Tryz.pinned (OpenSpec.ofChange jobRunsSpec)

/-- ITS FALSE NEIGHBOUR: 'it returns false'. Refute it at one input. -/
def jobRunsWrong : ChangeSpec := { name := "jobRuns", fn := fun _ => fun
  | [] => { results := [.lit (.bool false)], args := [] }
  | _ => none }
def JobRunsWrongFalsely : Prop := jobRunsRow.holds Tryz.pinned (OpenSpec.ofChange jobRunsWrong)

/-- 'sheaflaw24.ScriptRuns': WHATEVER THE INPUT: true; the input reads as it did. -/
def scriptRunsSpec : ChangeSpec := { name := "scriptRuns", fn := fun _ => fun
  | [] => { results := [.lit (.bool true)], args := [] }
  | _ => none }
def scriptRunsRow : OpenClaim := { program := "ytngolamlmjdpdaagreatdoor", sum := "93e2d3f648a77afefcb5f6ad5deec558aeb674f4ccbddedb6b65d32aad1d8d96", func := "sheaf/sheaflaw24.ScriptRuns", spec := "scriptRuns", inPlace := ["math/bits.Add64", "math/bits.Sub64"], unfollowed := true, recurses := true, named := ["unicode/utf8.first", "unicode/utf8.acceptRanges", "math/bits.divideError", "math/bits.overflowError"], apart := false, laid := [("unicode/utf8.acceptRanges", laid_unicode_utf8_acceptRanges), ("unicode/utf8.first", laid_unicode_utf8_first)] }
def ScriptRunsSaid : Prop := scriptRunsRow.holds Tryz.pinned (OpenSpec.ofChange scriptRunsSpec)

/-- ITS FALSE NEIGHBOUR: 'it returns false'. Refute it at one input. -/
def scriptRunsWrong : ChangeSpec := { name := "scriptRuns", fn := fun _ => fun
  | [] => { results := [.lit (.bool false)], args := [] }
  | _ => none }
def ScriptRunsWrongFalsely : Prop := scriptRunsRow.holds Tryz.pinned (OpenSpec.ofChange scriptRunsWrong)

/- THE SECOND FORM. 'bulk': how many values and letters a reading holds, each counted each time it is reached (what is shared counts as often as it is met; a slice's spare places count too). A statement '..UptoSaid' is the law's where the arguments, and the package variables that the reading takes, are together of bulk at most 1048576: NARROWER than '..Said'. Prove '..Said' where nothing that the law and all that it calls make is longer than what came in: it says more and counts as full. Else prove '..UptoSaid'. A law counts once. -/
mutual
def uptoBulk {H : Type} : DataW H → Nat
  | .lit (.string bytes) => bytes.length + 1
  | .lit _ => 1
  | .nil => 1
  | .ptr d => uptoBulk d + 1
  | .slice elems spare => uptoBulkAll elems + uptoBulkAll spare + 1
  | .agg parts => uptoBulkAll parts + 1
  | .iface _ d => uptoBulk d + 1
  | .map entries => uptoBulkEntries entries + 1
  | .held _ => 1
def uptoBulkAll {H : Type} : List (DataW H) → Nat
  | [] => 0
  | d :: r => uptoBulk d + uptoBulkAll r
def uptoBulkEntries {H : Type} : List (Lit × DataW H) → Nat
  | [] => 0
  | x :: r => uptoBulkEntry x + uptoBulkEntries r
def uptoBulkEntry {H : Type} : Lit × DataW H → Nat
  | (.string bytes, d) => bytes.length + uptoBulk d + 1
  | (_, d) => uptoBulk d + 1
 end
def uptoSmall : (H : Type) → List (DataW H) → Bool := fun _ ds => decide (uptoBulkAll ds ≤ 1048576)
def OpenSpec.upto (s : _root_.Go.ChangeSpec) : _root_.Go.OpenSpec := { _root_.Go.OpenSpec.ofChange s with cond := some uptoSmall }

/-- 'sheaflaw14.TableRuns', WHERE WHAT IT READS IS OF BULK AT MOST 1048576: true; the input reads as it did. -/
def tableRunsUptoRow : OpenClaim := { program := "ytngolamlmjdpdaagreatdoor", sum := "93e2d3f648a77afefcb5f6ad5deec558aeb674f4ccbddedb6b65d32aad1d8d96", func := "sheaf/sheaflaw14.TableRuns", spec := "tableRuns", unfollowed := true, recurses := true, named := ["unicode/utf8.first", "unicode/utf8.acceptRanges"], apart := false, laid := [("unicode/utf8.acceptRanges", laid_unicode_utf8_acceptRanges), ("unicode/utf8.first", laid_unicode_utf8_first)], narrowed := true }
def TableRunsUptoSaid : Prop := tableRunsUptoRow.holds Tryz.pinned (OpenSpec.upto tableRunsSpec)

/-- 'sheaflaw15.SorterRuns', WHERE WHAT IT READS IS OF BULK AT MOST 1048576: true; the input reads as it did. -/
def sorterRunsUptoRow : OpenClaim := { program := "ytngolamlmjdpdaagreatdoor", sum := "93e2d3f648a77afefcb5f6ad5deec558aeb674f4ccbddedb6b65d32aad1d8d96", func := "sheaf/sheaflaw15.SorterRuns", spec := "sorterRuns", unfollowed := true, recurses := true, named := ["unicode/utf8.first", "unicode/utf8.acceptRanges"], apart := false, laid := [("unicode/utf8.acceptRanges", laid_unicode_utf8_acceptRanges), ("unicode/utf8.first", laid_unicode_utf8_first)], narrowed := true }
def SorterRunsUptoSaid : Prop := sorterRunsUptoRow.holds Tryz.pinned (OpenSpec.upto sorterRunsSpec)

/-- 'sheaflaw22.JobRuns', WHERE WHAT IT READS IS OF BULK AT MOST 1048576: true; the input reads as it did. -/
def jobRunsUptoRow : OpenClaim := { program := "ytngolamlmjdpdaagreatdoor", sum := "93e2d3f648a77afefcb5f6ad5deec558aeb674f4ccbddedb6b65d32aad1d8d96", func := "sheaf/sheaflaw22.JobRuns", spec := "jobRuns", inPlace := ["math/bits.Add64", "math/bits.Sub64"], unfollowed := true, recurses := true, named := ["unicode/utf8.first", "unicode/utf8.acceptRanges", "math/bits.divideError", "math/bits.overflowError"], apart := false, laid := [("unicode/utf8.acceptRanges", laid_unicode_utf8_acceptRanges), ("unicode/utf8.first", laid_unicode_utf8_first)], narrowed := true }
def JobRunsUptoSaid : Prop := jobRunsUptoRow.holds Tryz.pinned (OpenSpec.upto jobRunsSpec)

/-- 'sheaflaw24.ScriptRuns', WHERE WHAT IT READS IS OF BULK AT MOST 1048576: true; the input reads as it did. -/
def scriptRunsUptoRow : OpenClaim := { program := "ytngolamlmjdpdaagreatdoor", sum := "93e2d3f648a77afefcb5f6ad5deec558aeb674f4ccbddedb6b65d32aad1d8d96", func := "sheaf/sheaflaw24.ScriptRuns", spec := "scriptRuns", inPlace := ["math/bits.Add64", "math/bits.Sub64"], unfollowed := true, recurses := true, named := ["unicode/utf8.first", "unicode/utf8.acceptRanges", "math/bits.divideError", "math/bits.overflowError"], apart := false, laid := [("unicode/utf8.acceptRanges", laid_unicode_utf8_acceptRanges), ("unicode/utf8.first", laid_unicode_utf8_first)], narrowed := true }
def ScriptRunsUptoSaid : Prop := scriptRunsUptoRow.holds Tryz.pinned (OpenSpec.upto scriptRunsSpec)

end Rows
end Go.Proofs.YtngolamlmjdpdaaGreatDoor
