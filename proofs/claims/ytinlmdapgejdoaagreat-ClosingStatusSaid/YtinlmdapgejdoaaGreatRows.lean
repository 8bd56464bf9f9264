/-
  No cell of these rows narrows 'for every input' (looked for: loops, veiled, ifaces, maps, wideKeys, modest, calm, conditions, laid).
  DERIVED. THE GIVEN ROWS OF THIS SEAT. 2 by the template 'for every input the law returns true; each argument reads behind the call as it read before'; 0 by the template 'total and deterministic' (their statements: YtinlmdapgejdoaaGreatTotals.lean).
  GIVEN WITH THE SEED: the statements are not yours to turn. If you find one false, say at which input.
  Laid BY PROGRAM, IN A SANDBOX (cutbox-rows.mjs): the forced cells as the released guide's own fill.sh prints them over the translation aa619d936b4ee23b… (all of the seat's roots in one cut). By AI agents, Wed Nov 11 2026. No macro, syntax, notation, axiom, sorry.
-/
import Derived.Test.YtinlmdapgejdoaaGreatChecked
import GoSem.Claim
import GoSem.ClaimJoined
import GoSem.ClaimMapViews
import Derived.JoinedTies
import Derived.KernelRfl
namespace Go.Proofs.YtinlmdapgejdoaaGreat
/- THE CELL 'sum', in the pinned program and in every row, IS THE sha256 OF THE DUMP (.gsa) THAT YtinlmdapgejdoaaGreatProg.lean LOADS. Nothing in Lean hashes anything: it is a label: what it is worth is what the hold of that sum in a sandbox is worth. -/
noncomputable def Tryz.pinned : Pinned := { name := "ytinlmdapgejdoaagreat", sum := "aa619d936b4ee23b472a2e53f7f6f4b1bf0a0ea105c355ce0b8e58c390f36190", checked := Tryz.checked }
namespace Rows
def none {H : Type} : Left H := { results := [], args := [] }

/-- 'sheaflaw20.ClosingPairs': WHATEVER THE INPUT: true; the input reads as it did. -/
def closingPairsSpec : ChangeSpec := { name := "closingPairs", fn := fun _ => fun
  | [d1, d2] => { results := [.lit (.bool true)], args := [d1, d2] }
  | _ => none }
def closingPairsRow : OpenClaim := { program := "ytinlmdapgejdoaagreat", sum := "aa619d936b4ee23b472a2e53f7f6f4b1bf0a0ea105c355ce0b8e58c390f36190", func := "sheaf/sheaflaw20.ClosingPairs", spec := "closingPairs", inPlace := ["math/bits.Sub64", "math/bits.Add64"], unfollowed := true, recurses := true, named := ["math/bits.divideError", "math/bits.overflowError"], apart := false }
def ClosingPairsSaid : Prop := closingPairsRow.holds Tryz.pinned (OpenSpec.ofChange closingPairsSpec)

/-- ITS FALSE NEIGHBOUR: 'it returns false'. Refute it at one input. -/
def closingPairsWrong : ChangeSpec := { name := "closingPairs", fn := fun _ => fun
  | [d1, d2] => { results := [.lit (.bool false)], args := [d1, d2] }
  | _ => none }
def ClosingPairsWrongFalsely : Prop := closingPairsRow.holds Tryz.pinned (OpenSpec.ofChange closingPairsWrong)

/-- 'sheaflaw20.ClosingStatus': WHATEVER THE INPUT: true; the input reads as it did. -/
def closingStatusSpec : ChangeSpec := { name := "closingStatus", fn := fun _ => fun
  | [d1, d2] => { results := [.lit (.bool true)], args := [d1, d2] }
  | _ => none }
def closingStatusRow : OpenClaim := { program := "ytinlmdapgejdoaagreat", sum := "aa619d936b4ee23b472a2e53f7f6f4b1bf0a0ea105c355ce0b8e58c390f36190", func := "sheaf/sheaflaw20.ClosingStatus", spec := "closingStatus", inPlace := ["math/bits.Sub64", "math/bits.Add64"], unfollowed := true, recurses := true, named := ["math/bits.divideError", "math/bits.overflowError"], apart := false }
def ClosingStatusSaid : Prop := closingStatusRow.holds Tryz.pinned (OpenSpec.ofChange closingStatusSpec)

/-- ITS FALSE NEIGHBOUR: 'it returns false'. Refute it at one input. -/
def closingStatusWrong : ChangeSpec := { name := "closingStatus", fn := fun _ => fun
  | [d1, d2] => { results := [.lit (.bool false)], args := [d1, d2] }
  | _ => none }
def ClosingStatusWrongFalsely : Prop := closingStatusRow.holds Tryz.pinned (OpenSpec.ofChange closingStatusWrong)

/- THE SECOND FORM. 'bulk': how many values and letters a reading holds, each counted each time it is reached (what is shared counts as often as it is met; a slice's spare places count too). A statement '..UptoSaid' is the law's where the arguments, and the package variables that the reading takes, are together of bulk at most 1048576: NARROWER than '..Said'. Prove '..Said' where nothing that the law and all that it calls make is longer than what came in: it says more and counts as full. Else prove '..UptoSaid'. A law counts once. -/
mutual
def uptoBulk {H : Type} : DataW H → Nat
  | .lit (.string bytes) => bytes.length + 1
  | .lit _ => 1
  | .nil => 1
  | .ptr d => uptoBulk d + 1
  | .slice elems spare => uptoBulkAll elems + uptoBulkAll spare + 1
  | .agg parts => uptoBulkAll parts + 1
  | .iface _ d => uptoBulk d + 1
  | .map entries => uptoBulkEntries entries + 1
  | .held _ => 1
def uptoBulkAll {H : Type} : List (DataW H) → Nat
  | [] => 0
  | d :: r => uptoBulk d + uptoBulkAll r
def uptoBulkEntries {H : Type} : List (Lit × DataW H) → Nat
  | [] => 0
  | x :: r => uptoBulkEntry x + uptoBulkEntries r
def uptoBulkEntry {H : Type} : Lit × DataW H → Nat
  | (.string bytes, d) => bytes.length + uptoBulk d + 1
  | (_, d) => uptoBulk d + 1
 end
def uptoSmall : (H : Type) → List (DataW H) → Bool := fun _ ds => decide (uptoBulkAll ds ≤ 1048576)
def OpenSpec.upto (s : _root_.Go.ChangeSpec) : _root_.Go.OpenSpec := { _root_.Go.OpenSpec.ofChange s with cond := some uptoSmall }

/-- 'sheaflaw20.ClosingPairs', WHERE WHAT IT READS IS OF BULK AT MOST 1048576: true; the input reads as it did. -/
def closingPairsUptoRow : OpenClaim := { program := "ytinlmdapgejdoaagreat", sum := "aa619d936b4ee23b472a2e53f7f6f4b1bf0a0ea105c355ce0b8e58c390f36190", func := "sheaf/sheaflaw20.ClosingPairs", spec := "closingPairs", inPlace := ["math/bits.Sub64", "math/bits.Add64"], unfollowed := true, recurses := true, named := ["math/bits.divideError", "math/bits.overflowError"], apart := false, narrowed := true }
def ClosingPairsUptoSaid : Prop := closingPairsUptoRow.holds Tryz.pinned (OpenSpec.upto closingPairsSpec)

/-- 'sheaflaw20.ClosingStatus', WHERE WHAT IT READS IS OF BULK AT MOST 1048576: true; the input reads as it did. -/
def closingStatusUptoRow : OpenClaim := { program := "ytinlmdapgejdoaagreat", sum := "aa619d936b4ee23b472a2e53f7f6f4b1bf0a0ea105c355ce0b8e58c390f36190", func := "sheaf/sheaflaw20.ClosingStatus", spec := "closingStatus", inPlace := ["math/bits.Sub64", "math/bits.Add64"], unfollowed := true, recurses := true, named := ["math/bits.divideError", "math/bits.overflowError"], apart := false, narrowed := true }
def ClosingStatusUptoSaid : Prop := closingStatusUptoRow.holds Tryz.pinned (OpenSpec.upto closingStatusSpec)

end Rows
end Go.Proofs.YtinlmdapgejdoaaGreat
