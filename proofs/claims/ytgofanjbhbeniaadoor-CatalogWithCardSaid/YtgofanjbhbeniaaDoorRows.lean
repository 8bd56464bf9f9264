/-
  NARROWER THAN 'FOR EVERY INPUT', by the rows' own cells (each row's printed sentence says how): CatalogTells: laid · CatalogEdges: laid · CatalogWith: laid · CatalogBack: laid.
  DERIVED. THE GIVEN ROWS OF THIS SEAT. 4 by the template 'for every input the law returns true; each argument reads behind the call as it read before'; 0 by the template 'total and deterministic' (their statements: YtgofanjbhbeniaaDoorTotals.lean).
  GIVEN WITH THE SEED: the statements are not yours to turn. If you find one false, say at which input.
  Laid BY PROGRAM, IN A SANDBOX (cutbox-rows.mjs): the forced cells as the released guide's own fill.sh prints them over the translation e9a525b57116c102… (all of the seat's roots in one cut). By AI agents, Wed Nov 11 2026. No macro, syntax, notation, axiom, sorry.
-/
import Derived.Test.YtgofanjbhbeniaaDoorChecked
import GoSem.PinnedTables
import GoSem.Claim
import GoSem.ClaimJoined
import GoSem.ClaimMapViews
import Derived.JoinedTies
import Derived.KernelRfl
namespace Go.Proofs.YtgofanjbhbeniaaDoor
/- THE CELL 'sum', in the pinned program and in every row, IS THE sha256 OF THE DUMP (.gsa) THAT YtgofanjbhbeniaaDoorProg.lean LOADS. Nothing in Lean hashes anything: it is a label: what it is worth is what the hold of that sum in a sandbox is worth. -/
noncomputable def Tryd.pinned : Pinned := { name := "ytgofanjbhbeniaadoor", sum := "e9a525b57116c102e425452c5515bd7f4a216d77fb7c892ada0406979a7cf6fd", checked := Tryd.checked }
namespace Rows
def none {H : Type} : Left H := { results := [], args := [] }

/- WHAT THE LISTED PACKAGE-LEVEL VARIABLES READ AS WHEN THE CALL BEGINS. Each datum BY PROGRAM (the guide's laid-datum.mjs) off the statement by which the dump's own 'gosem.cut.vars' lays the variable. In a bare row this is a premise. The card (YtgofanjbhbeniaaDoorCards.lean) ties it to the program's text. -/
def laid_unicode_utf8_acceptRanges {H : Type} : DataW H := .agg [.agg [.lit (.int .u8 128), .lit (.int .u8 191)], .agg [.lit (.int .u8 160), .lit (.int .u8 191)], .agg [.lit (.int .u8 128), .lit (.int .u8 159)], .agg [.lit (.int .u8 144), .lit (.int .u8 191)], .agg [.lit (.int .u8 128), .lit (.int .u8 143)], .agg [.lit (.int .u8 0), .lit (.int .u8 0)], .agg [.lit (.int .u8 0), .lit (.int .u8 0)], .agg [.lit (.int .u8 0), .lit (.int .u8 0)], .agg [.lit (.int .u8 0), .lit (.int .u8 0)], .agg [.lit (.int .u8 0), .lit (.int .u8 0)], .agg [.lit (.int .u8 0), .lit (.int .u8 0)], .agg [.lit (.int .u8 0), .lit (.int .u8 0)], .agg [.lit (.int .u8 0), .lit (.int .u8 0)], .agg [.lit (.int .u8 0), .lit (.int .u8 0)], .agg [.lit (.int .u8 0), .lit (.int .u8 0)], .agg [.lit (.int .u8 0), .lit (.int .u8 0)]]
/-- One of Go's own tables, pinned by name: the form's constant. -/
def laid_unicode_utf8_first : DataW Unit := Go.Pinned.utf8First

/-- 'sheaflaw6.CatalogTells': WHATEVER THE INPUT: true; the input reads as it did. -/
def catalogTellsSpec : ChangeSpec := { name := "catalogTells", fn := fun _ => fun
  | [d1, d2, d3, d4, d5] => { results := [.lit (.bool true)], args := [d1, d2, d3, d4, d5] }
  | _ => none }
def catalogTellsRow : OpenClaim := { program := "ytgofanjbhbeniaadoor", sum := "e9a525b57116c102e425452c5515bd7f4a216d77fb7c892ada0406979a7cf6fd", func := "sheaf/sheaflaw6.CatalogTells", spec := "catalogTells", unfollowed := true, recurses := true, named := ["unicode/utf8.first", "unicode/utf8.acceptRanges"], apart := false, laid := [("unicode/utf8.acceptRanges", laid_unicode_utf8_acceptRanges), ("unicode/utf8.first", laid_unicode_utf8_first)] }
def CatalogTellsSaid : Prop := catalogTellsRow.holds Tryd.pinned (OpenSpec.ofChange catalogTellsSpec)

/-- ITS FALSE NEIGHBOUR: 'it returns false'. Refute it at one input. -/
def catalogTellsWrong : ChangeSpec := { name := "catalogTells", fn := fun _ => fun
  | [d1, d2, d3, d4, d5] => { results := [.lit (.bool false)], args := [d1, d2, d3, d4, d5] }
  | _ => none }
def CatalogTellsWrongFalsely : Prop := catalogTellsRow.holds Tryd.pinned (OpenSpec.ofChange catalogTellsWrong)

/-- 'sheaflaw6.CatalogEdges': WHATEVER THE INPUT: true; the input reads as it did. -/
def catalogEdgesSpec : ChangeSpec := { name := "catalogEdges", fn := fun _ => fun
  | [d1, d2] => { results := [.lit (.bool true)], args := [d1, d2] }
  | _ => none }
def catalogEdgesRow : OpenClaim := { program := "ytgofanjbhbeniaadoor", sum := "e9a525b57116c102e425452c5515bd7f4a216d77fb7c892ada0406979a7cf6fd", func := "sheaf/sheaflaw6.CatalogEdges", spec := "catalogEdges", unfollowed := true, recurses := true, named := ["unicode/utf8.first", "unicode/utf8.acceptRanges"], apart := false, laid := [("unicode/utf8.acceptRanges", laid_unicode_utf8_acceptRanges), ("unicode/utf8.first", laid_unicode_utf8_first)] }
def CatalogEdgesSaid : Prop := catalogEdgesRow.holds Tryd.pinned (OpenSpec.ofChange catalogEdgesSpec)

/-- ITS FALSE NEIGHBOUR: 'it returns false'. Refute it at one input. -/
def catalogEdgesWrong : ChangeSpec := { name := "catalogEdges", fn := fun _ => fun
  | [d1, d2] => { results := [.lit (.bool false)], args := [d1, d2] }
  | _ => none }
def CatalogEdgesWrongFalsely : Prop := catalogEdgesRow.holds Tryd.pinned (OpenSpec.ofChange catalogEdgesWrong)

/-- 'sheaflaw6.CatalogWith': WHATEVER THE INPUT: true; the input reads as it did. -/
def catalogWithSpec : ChangeSpec := { name := "catalogWith", fn := fun _ => fun
  | [d1, d2, d3, d4] => { results := [.lit (.bool true)], args := [d1, d2, d3, d4] }
  | _ => none }
def catalogWithRow : OpenClaim := { program := "ytgofanjbhbeniaadoor", sum := "e9a525b57116c102e425452c5515bd7f4a216d77fb7c892ada0406979a7cf6fd", func := "sheaf/sheaflaw6.CatalogWith", spec := "catalogWith", unfollowed := true, recurses := true, named := ["unicode/utf8.first", "unicode/utf8.acceptRanges"], apart := false, laid := [("unicode/utf8.acceptRanges", laid_unicode_utf8_acceptRanges), ("unicode/utf8.first", laid_unicode_utf8_first)] }
def CatalogWithSaid : Prop := catalogWithRow.holds Tryd.pinned (OpenSpec.ofChange catalogWithSpec)

/-- ITS FALSE NEIGHBOUR: 'it returns false'. Refute it at one input. -/
def catalogWithWrong : ChangeSpec := { name := "catalogWith", fn := fun _ => fun
  | [d1, d2, d3, d4] => { results := [.lit (.bool false)], args := [d1, d2, d3, d4] }
  | _ => none }
def CatalogWithWrongFalsely : Prop := catalogWithRow.holds Tryd.pinned (OpenSpec.ofChange catalogWithWrong)

/-- 'sheaflaw6.CatalogBack': WHATEVER THE INPUT: true; the input reads as it did. -/
def catalogBackSpec : ChangeSpec := { name := "catalogBack", fn := fun _ => fun
  | [d1, d2] => { results := [.lit (.bool true)], args := [d1, d2] }
  | _ => none }
def catalogBackRow : OpenClaim := { program := "ytgofanjbhbeniaadoor", sum := "e9a525b57116c102e425452c5515bd7f4a216d77fb7c892ada0406979a7cf6fd", func := "sheaf/sheaflaw6.CatalogBack", spec := "catalogBack", unfollowed := true, recurses := true, named := ["unicode/utf8.first", "unicode/utf8.acceptRanges"], apart := false, laid := [("unicode/utf8.acceptRanges", laid_unicode_utf8_acceptRanges), ("unicode/utf8.first", laid_unicode_utf8_first)] }
def CatalogBackSaid : Prop := catalogBackRow.holds Tryd.pinned (OpenSpec.ofChange catalogBackSpec)

/-- ITS FALSE NEIGHBOUR: 'it returns false'. Refute it at one input. -/
def catalogBackWrong : ChangeSpec := { name := "catalogBack", fn := fun _ => fun
  | [d1, d2] => { results := [.lit (.bool false)], args := [d1, d2] }
  | _ => none }
def CatalogBackWrongFalsely : Prop := catalogBackRow.holds Tryd.pinned (OpenSpec.ofChange catalogBackWrong)

/- THE SECOND FORM. 'bulk': how many values and letters a reading holds, each counted each time it is reached (what is shared counts as often as it is met; a slice's spare places count too). A statement '..UptoSaid' is the law's where the arguments, and the package variables that the reading takes, are together of bulk at most 1048576: NARROWER than '..Said'. Prove '..Said' where nothing that the law and all that it calls make is longer than what came in: it says more and counts as full. Else prove '..UptoSaid'. A law counts once. -/
mutual
def uptoBulk {H : Type} : DataW H → Nat
  | .lit (.string bytes) => bytes.length + 1
  | .lit _ => 1
  | .nil => 1
  | .ptr d => uptoBulk d + 1
  | .slice elems spare => uptoBulkAll elems + uptoBulkAll spare + 1
  | .agg parts => uptoBulkAll parts + 1
  | .iface _ d => uptoBulk d + 1
  | .map entries => uptoBulkEntries entries + 1
  | .held _ => 1
def uptoBulkAll {H : Type} : List (DataW H) → Nat
  | [] => 0
  | d :: r => uptoBulk d + uptoBulkAll r
def uptoBulkEntries {H : Type} : List (Lit × DataW H) → Nat
  | [] => 0
  | x :: r => uptoBulkEntry x + uptoBulkEntries r
def uptoBulkEntry {H : Type} : Lit × DataW H → Nat
  | (.string bytes, d) => bytes.length + uptoBulk d + 1
  | (_, d) => uptoBulk d + 1
 end
def uptoSmall : (H : Type) → List (DataW H) → Bool := fun _ ds => decide (uptoBulkAll ds ≤ 1048576)
def OpenSpec.upto (s : _root_.Go.ChangeSpec) : _root_.Go.OpenSpec := { _root_.Go.OpenSpec.ofChange s with cond := some uptoSmall }

/-- 'sheaflaw6.CatalogTells', WHERE WHAT IT READS IS OF BULK AT MOST 1048576: true; the input reads as it did. -/
def catalogTellsUptoRow : OpenClaim := { program := "ytgofanjbhbeniaadoor", sum := "e9a525b57116c102e425452c5515bd7f4a216d77fb7c892ada0406979a7cf6fd", func := "sheaf/sheaflaw6.CatalogTells", spec := "catalogTells", unfollowed := true, recurses := true, named := ["unicode/utf8.first", "unicode/utf8.acceptRanges"], apart := false, laid := [("unicode/utf8.acceptRanges", laid_unicode_utf8_acceptRanges), ("unicode/utf8.first", laid_unicode_utf8_first)], narrowed := true }
def CatalogTellsUptoSaid : Prop := catalogTellsUptoRow.holds Tryd.pinned (OpenSpec.upto catalogTellsSpec)

/-- 'sheaflaw6.CatalogEdges', WHERE WHAT IT READS IS OF BULK AT MOST 1048576: true; the input reads as it did. -/
def catalogEdgesUptoRow : OpenClaim := { program := "ytgofanjbhbeniaadoor", sum := "e9a525b57116c102e425452c5515bd7f4a216d77fb7c892ada0406979a7cf6fd", func := "sheaf/sheaflaw6.CatalogEdges", spec := "catalogEdges", unfollowed := true, recurses := true, named := ["unicode/utf8.first", "unicode/utf8.acceptRanges"], apart := false, laid := [("unicode/utf8.acceptRanges", laid_unicode_utf8_acceptRanges), ("unicode/utf8.first", laid_unicode_utf8_first)], narrowed := true }
def CatalogEdgesUptoSaid : Prop := catalogEdgesUptoRow.holds Tryd.pinned (OpenSpec.upto catalogEdgesSpec)

/-- 'sheaflaw6.CatalogWith', WHERE WHAT IT READS IS OF BULK AT MOST 1048576: true; the input reads as it did. -/
def catalogWithUptoRow : OpenClaim := { program := "ytgofanjbhbeniaadoor", sum := "e9a525b57116c102e425452c5515bd7f4a216d77fb7c892ada0406979a7cf6fd", func := "sheaf/sheaflaw6.CatalogWith", spec := "catalogWith", unfollowed := true, recurses := true, named := ["unicode/utf8.first", "unicode/utf8.acceptRanges"], apart := false, laid := [("unicode/utf8.acceptRanges", laid_unicode_utf8_acceptRanges), ("unicode/utf8.first", laid_unicode_utf8_first)], narrowed := true }
def CatalogWithUptoSaid : Prop := catalogWithUptoRow.holds Tryd.pinned (OpenSpec.upto catalogWithSpec)

/-- 'sheaflaw6.CatalogBack', WHERE WHAT IT READS IS OF BULK AT MOST 1048576: true; the input reads as it did. -/
def catalogBackUptoRow : OpenClaim := { program := "ytgofanjbhbeniaadoor", sum := "e9a525b57116c102e425452c5515bd7f4a216d77fb7c892ada0406979a7cf6fd", func := "sheaf/sheaflaw6.CatalogBack", spec := "catalogBack", unfollowed := true, recurses := true, named := ["unicode/utf8.first", "unicode/utf8.acceptRanges"], apart := false, laid := [("unicode/utf8.acceptRanges", laid_unicode_utf8_acceptRanges), ("unicode/utf8.first", laid_unicode_utf8_first)], narrowed := true }
def CatalogBackUptoSaid : Prop := catalogBackUptoRow.holds Tryd.pinned (OpenSpec.upto catalogBackSpec)

end Rows
end Go.Proofs.YtgofanjbhbeniaaDoor
