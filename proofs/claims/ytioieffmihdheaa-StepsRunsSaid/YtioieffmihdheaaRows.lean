/-
  No cell of these rows narrows 'for every input' (looked for: loops, veiled, ifaces, maps, wideKeys, modest, calm, conditions, laid).
  DERIVED. THE GIVEN ROWS OF THIS SEAT. 8 by the template 'for every input the law returns true; each argument reads behind the call as it read before'; 0 by the template 'total and deterministic' (their statements: YtioieffmihdheaaTotals.lean).
  GIVEN WITH THE SEED: the statements are not yours to turn. If you find one false, say at which input.
  Laid BY PROGRAM, IN A SANDBOX (cutbox-rows.mjs): the forced cells as the released guide's own fill.sh prints them over the translation 7de30fa7afba4b76… (all of the seat's roots in one cut). By AI agents, Wed Nov 11 2026. No macro, syntax, notation, axiom, sorry.
-/
import Derived.Test.YtioieffmihdheaaChecked
import GoSem.Claim
import GoSem.ClaimJoined
import GoSem.ClaimMapViews
import Derived.JoinedTies
import Derived.KernelRfl
namespace Go.Proofs.Ytioieffmihdheaa
/- THE CELL 'sum', in the pinned program and in every row, IS THE sha256 OF THE DUMP (.gsa) THAT YtioieffmihdheaaProg.lean LOADS. Nothing in Lean hashes anything: it is a label: what it is worth is what the hold of that sum in a sandbox is worth. -/
noncomputable def Try.pinned : Pinned := { name := "ytioieffmihdheaa", sum := "7de30fa7afba4b76b98504cf2c0c85399eafc549f71db854923bec17a6527fc8", checked := Try.checked }
namespace Rows
def none {H : Type} : Left H := { results := [], args := [] }

/-- 'sheaflaw21.StepsRuns': WHATEVER THE INPUT: true; the input reads as it did. -/
def stepsRunsSpec : ChangeSpec := { name := "stepsRuns", fn := fun _ => fun
  | [] => { results := [.lit (.bool true)], args := [] }
  | _ => none }
def stepsRunsRow : OpenClaim := { program := "ytioieffmihdheaa", sum := "7de30fa7afba4b76b98504cf2c0c85399eafc549f71db854923bec17a6527fc8", func := "sheaf/sheaflaw21.StepsRuns", spec := "stepsRuns", unfollowed := true, recurses := true, apart := false }
def StepsRunsSaid : Prop := stepsRunsRow.holds Try.pinned (OpenSpec.ofChange stepsRunsSpec)

/-- ITS FALSE NEIGHBOUR: 'it returns false'. Refute it at one input. -/
def stepsRunsWrong : ChangeSpec := { name := "stepsRuns", fn := fun _ => fun
  | [] => { results := [.lit (.bool false)], args := [] }
  | _ => none }
def StepsRunsWrongFalsely : Prop := stepsRunsRow.holds Try.pinned (OpenSpec.ofChange stepsRunsWrong)

/-- 'sheaflaw21.StepsStand': WHATEVER THE INPUT: true; the input reads as it did. -/
def stepsStandSpec : ChangeSpec := { name := "stepsStand", fn := fun _ => fun
  | [d1, d2] => { results := [.lit (.bool true)], args := [d1, d2] }
  | _ => none }
def stepsStandRow : OpenClaim := { program := "ytioieffmihdheaa", sum := "7de30fa7afba4b76b98504cf2c0c85399eafc549f71db854923bec17a6527fc8", func := "sheaf/sheaflaw21.StepsStand", spec := "stepsStand", unfollowed := true, recurses := true, apart := false }
def StepsStandSaid : Prop := stepsStandRow.holds Try.pinned (OpenSpec.ofChange stepsStandSpec)

/-- ITS FALSE NEIGHBOUR: 'it returns false'. Refute it at one input. -/
def stepsStandWrong : ChangeSpec := { name := "stepsStand", fn := fun _ => fun
  | [d1, d2] => { results := [.lit (.bool false)], args := [d1, d2] }
  | _ => none }
def StepsStandWrongFalsely : Prop := stepsStandRow.holds Try.pinned (OpenSpec.ofChange stepsStandWrong)

/-- 'sheaflaw4.DiskRuns': WHATEVER THE INPUT: true; the input reads as it did. -/
def diskRunsSpec : ChangeSpec := { name := "diskRuns", fn := fun _ => fun
  | [] => { results := [.lit (.bool true)], args := [] }
  | _ => none }
def diskRunsRow : OpenClaim := { program := "ytioieffmihdheaa", sum := "7de30fa7afba4b76b98504cf2c0c85399eafc549f71db854923bec17a6527fc8", func := "sheaf/sheaflaw4.DiskRuns", spec := "diskRuns", unfollowed := true, recurses := true, apart := false }
def DiskRunsSaid : Prop := diskRunsRow.holds Try.pinned (OpenSpec.ofChange diskRunsSpec)

/-- ITS FALSE NEIGHBOUR: 'it returns false'. Refute it at one input. -/
def diskRunsWrong : ChangeSpec := { name := "diskRuns", fn := fun _ => fun
  | [] => { results := [.lit (.bool false)], args := [] }
  | _ => none }
def DiskRunsWrongFalsely : Prop := diskRunsRow.holds Try.pinned (OpenSpec.ofChange diskRunsWrong)

/-- 'sheaflaw4.DiskLast': WHATEVER THE INPUT: true; the input reads as it did. -/
def diskLastSpec : ChangeSpec := { name := "diskLast", fn := fun _ => fun
  | [d1, d2] => { results := [.lit (.bool true)], args := [d1, d2] }
  | _ => none }
def diskLastRow : OpenClaim := { program := "ytioieffmihdheaa", sum := "7de30fa7afba4b76b98504cf2c0c85399eafc549f71db854923bec17a6527fc8", func := "sheaf/sheaflaw4.DiskLast", spec := "diskLast", unfollowed := true, recurses := true, apart := false }
def DiskLastSaid : Prop := diskLastRow.holds Try.pinned (OpenSpec.ofChange diskLastSpec)

/-- ITS FALSE NEIGHBOUR: 'it returns false'. Refute it at one input. -/
def diskLastWrong : ChangeSpec := { name := "diskLast", fn := fun _ => fun
  | [d1, d2] => { results := [.lit (.bool false)], args := [d1, d2] }
  | _ => none }
def DiskLastWrongFalsely : Prop := diskLastRow.holds Try.pinned (OpenSpec.ofChange diskLastWrong)

/-- 'sheaflaw4.DiskKeeps': WHATEVER THE INPUT: true; the input reads as it did. -/
def diskKeepsSpec : ChangeSpec := { name := "diskKeeps", fn := fun _ => fun
  | [d1, d2, d3] => { results := [.lit (.bool true)], args := [d1, d2, d3] }
  | _ => none }
def diskKeepsRow : OpenClaim := { program := "ytioieffmihdheaa", sum := "7de30fa7afba4b76b98504cf2c0c85399eafc549f71db854923bec17a6527fc8", func := "sheaf/sheaflaw4.DiskKeeps", spec := "diskKeeps", unfollowed := true, recurses := true, apart := false }
def DiskKeepsSaid : Prop := diskKeepsRow.holds Try.pinned (OpenSpec.ofChange diskKeepsSpec)

/-- ITS FALSE NEIGHBOUR: 'it returns false'. Refute it at one input. -/
def diskKeepsWrong : ChangeSpec := { name := "diskKeeps", fn := fun _ => fun
  | [d1, d2, d3] => { results := [.lit (.bool false)], args := [d1, d2, d3] }
  | _ => none }
def DiskKeepsWrongFalsely : Prop := diskKeepsRow.holds Try.pinned (OpenSpec.ofChange diskKeepsWrong)

/-- 'sheaflaw4.DiskFuse': WHATEVER THE INPUT: true; the input reads as it did. -/
def diskFuseSpec : ChangeSpec := { name := "diskFuse", fn := fun _ => fun
  | [d1, d2] => { results := [.lit (.bool true)], args := [d1, d2] }
  | _ => none }
def diskFuseRow : OpenClaim := { program := "ytioieffmihdheaa", sum := "7de30fa7afba4b76b98504cf2c0c85399eafc549f71db854923bec17a6527fc8", func := "sheaf/sheaflaw4.DiskFuse", spec := "diskFuse", unfollowed := true, recurses := true, apart := false }
def DiskFuseSaid : Prop := diskFuseRow.holds Try.pinned (OpenSpec.ofChange diskFuseSpec)

/-- ITS FALSE NEIGHBOUR: 'it returns false'. Refute it at one input. -/
def diskFuseWrong : ChangeSpec := { name := "diskFuse", fn := fun _ => fun
  | [d1, d2] => { results := [.lit (.bool false)], args := [d1, d2] }
  | _ => none }
def DiskFuseWrongFalsely : Prop := diskFuseRow.holds Try.pinned (OpenSpec.ofChange diskFuseWrong)

/-- 'sheaflaw4.DiskBursts': WHATEVER THE INPUT: true; the input reads as it did. -/
def diskBurstsSpec : ChangeSpec := { name := "diskBursts", fn := fun _ => fun
  | [d1, d2, d3, d4] => { results := [.lit (.bool true)], args := [d1, d2, d3, d4] }
  | _ => none }
def diskBurstsRow : OpenClaim := { program := "ytioieffmihdheaa", sum := "7de30fa7afba4b76b98504cf2c0c85399eafc549f71db854923bec17a6527fc8", func := "sheaf/sheaflaw4.DiskBursts", spec := "diskBursts", unfollowed := true, recurses := true, apart := false }
def DiskBurstsSaid : Prop := diskBurstsRow.holds Try.pinned (OpenSpec.ofChange diskBurstsSpec)

/-- ITS FALSE NEIGHBOUR: 'it returns false'. Refute it at one input. -/
def diskBurstsWrong : ChangeSpec := { name := "diskBursts", fn := fun _ => fun
  | [d1, d2, d3, d4] => { results := [.lit (.bool false)], args := [d1, d2, d3, d4] }
  | _ => none }
def DiskBurstsWrongFalsely : Prop := diskBurstsRow.holds Try.pinned (OpenSpec.ofChange diskBurstsWrong)

/-- 'sheaflaw4.DiskPlays': WHATEVER THE INPUT: true; the input reads as it did. -/
def diskPlaysSpec : ChangeSpec := { name := "diskPlays", fn := fun _ => fun
  | [d1, d2] => { results := [.lit (.bool true)], args := [d1, d2] }
  | _ => none }
def diskPlaysRow : OpenClaim := { program := "ytioieffmihdheaa", sum := "7de30fa7afba4b76b98504cf2c0c85399eafc549f71db854923bec17a6527fc8", func := "sheaf/sheaflaw4.DiskPlays", spec := "diskPlays", unfollowed := true, recurses := true, apart := false }
def DiskPlaysSaid : Prop := diskPlaysRow.holds Try.pinned (OpenSpec.ofChange diskPlaysSpec)

/-- ITS FALSE NEIGHBOUR: 'it returns false'. Refute it at one input. -/
def diskPlaysWrong : ChangeSpec := { name := "diskPlays", fn := fun _ => fun
  | [d1, d2] => { results := [.lit (.bool false)], args := [d1, d2] }
  | _ => none }
def DiskPlaysWrongFalsely : Prop := diskPlaysRow.holds Try.pinned (OpenSpec.ofChange diskPlaysWrong)

/- THE SECOND FORM. 'bulk': how many values and letters a reading holds, each counted each time it is reached (what is shared counts as often as it is met; a slice's spare places count too). A statement '..UptoSaid' is the law's where the arguments, and the package variables that the reading takes, are together of bulk at most 1048576: NARROWER than '..Said'. Prove '..Said' where nothing that the law and all that it calls make is longer than what came in: it says more and counts as full. Else prove '..UptoSaid'. A law counts once. -/
mutual
def uptoBulk {H : Type} : DataW H → Nat
  | .lit (.string bytes) => bytes.length + 1
  | .lit _ => 1
  | .nil => 1
  | .ptr d => uptoBulk d + 1
  | .slice elems spare => uptoBulkAll elems + uptoBulkAll spare + 1
  | .agg parts => uptoBulkAll parts + 1
  | .iface _ d => uptoBulk d + 1
  | .map entries => uptoBulkEntries entries + 1
  | .held _ => 1
def uptoBulkAll {H : Type} : List (DataW H) → Nat
  | [] => 0
  | d :: r => uptoBulk d + uptoBulkAll r
def uptoBulkEntries {H : Type} : List (Lit × DataW H) → Nat
  | [] => 0
  | x :: r => uptoBulkEntry x + uptoBulkEntries r
def uptoBulkEntry {H : Type} : Lit × DataW H → Nat
  | (.string bytes, d) => bytes.length + uptoBulk d + 1
  | (_, d) => uptoBulk d + 1
 end
def uptoSmall : (H : Type) → List (DataW H) → Bool := fun _ ds => decide (uptoBulkAll ds ≤ 1048576)
def OpenSpec.upto (s : _root_.Go.ChangeSpec) : _root_.Go.OpenSpec := { _root_.Go.OpenSpec.ofChange s with cond := some uptoSmall }

/-- 'sheaflaw21.StepsRuns', WHERE WHAT IT READS IS OF BULK AT MOST 1048576: true; the input reads as it did. -/
def stepsRunsUptoRow : OpenClaim := { program := "ytioieffmihdheaa", sum := "7de30fa7afba4b76b98504cf2c0c85399eafc549f71db854923bec17a6527fc8", func := "sheaf/sheaflaw21.StepsRuns", spec := "stepsRuns", unfollowed := true, recurses := true, apart := false, narrowed := true }
def StepsRunsUptoSaid : Prop := stepsRunsUptoRow.holds Try.pinned (OpenSpec.upto stepsRunsSpec)

/-- 'sheaflaw21.StepsStand', WHERE WHAT IT READS IS OF BULK AT MOST 1048576: true; the input reads as it did. -/
def stepsStandUptoRow : OpenClaim := { program := "ytioieffmihdheaa", sum := "7de30fa7afba4b76b98504cf2c0c85399eafc549f71db854923bec17a6527fc8", func := "sheaf/sheaflaw21.StepsStand", spec := "stepsStand", unfollowed := true, recurses := true, apart := false, narrowed := true }
def StepsStandUptoSaid : Prop := stepsStandUptoRow.holds Try.pinned (OpenSpec.upto stepsStandSpec)

/-- 'sheaflaw4.DiskRuns', WHERE WHAT IT READS IS OF BULK AT MOST 1048576: true; the input reads as it did. -/
def diskRunsUptoRow : OpenClaim := { program := "ytioieffmihdheaa", sum := "7de30fa7afba4b76b98504cf2c0c85399eafc549f71db854923bec17a6527fc8", func := "sheaf/sheaflaw4.DiskRuns", spec := "diskRuns", unfollowed := true, recurses := true, apart := false, narrowed := true }
def DiskRunsUptoSaid : Prop := diskRunsUptoRow.holds Try.pinned (OpenSpec.upto diskRunsSpec)

/-- 'sheaflaw4.DiskLast', WHERE WHAT IT READS IS OF BULK AT MOST 1048576: true; the input reads as it did. -/
def diskLastUptoRow : OpenClaim := { program := "ytioieffmihdheaa", sum := "7de30fa7afba4b76b98504cf2c0c85399eafc549f71db854923bec17a6527fc8", func := "sheaf/sheaflaw4.DiskLast", spec := "diskLast", unfollowed := true, recurses := true, apart := false, narrowed := true }
def DiskLastUptoSaid : Prop := diskLastUptoRow.holds Try.pinned (OpenSpec.upto diskLastSpec)

/-- 'sheaflaw4.DiskKeeps', WHERE WHAT IT READS IS OF BULK AT MOST 1048576: true; the input reads as it did. -/
def diskKeepsUptoRow : OpenClaim := { program := "ytioieffmihdheaa", sum := "7de30fa7afba4b76b98504cf2c0c85399eafc549f71db854923bec17a6527fc8", func := "sheaf/sheaflaw4.DiskKeeps", spec := "diskKeeps", unfollowed := true, recurses := true, apart := false, narrowed := true }
def DiskKeepsUptoSaid : Prop := diskKeepsUptoRow.holds Try.pinned (OpenSpec.upto diskKeepsSpec)

/-- 'sheaflaw4.DiskFuse', WHERE WHAT IT READS IS OF BULK AT MOST 1048576: true; the input reads as it did. -/
def diskFuseUptoRow : OpenClaim := { program := "ytioieffmihdheaa", sum := "7de30fa7afba4b76b98504cf2c0c85399eafc549f71db854923bec17a6527fc8", func := "sheaf/sheaflaw4.DiskFuse", spec := "diskFuse", unfollowed := true, recurses := true, apart := false, narrowed := true }
def DiskFuseUptoSaid : Prop := diskFuseUptoRow.holds Try.pinned (OpenSpec.upto diskFuseSpec)

/-- 'sheaflaw4.DiskBursts', WHERE WHAT IT READS IS OF BULK AT MOST 1048576: true; the input reads as it did. -/
def diskBurstsUptoRow : OpenClaim := { program := "ytioieffmihdheaa", sum := "7de30fa7afba4b76b98504cf2c0c85399eafc549f71db854923bec17a6527fc8", func := "sheaf/sheaflaw4.DiskBursts", spec := "diskBursts", unfollowed := true, recurses := true, apart := false, narrowed := true }
def DiskBurstsUptoSaid : Prop := diskBurstsUptoRow.holds Try.pinned (OpenSpec.upto diskBurstsSpec)

/-- 'sheaflaw4.DiskPlays', WHERE WHAT IT READS IS OF BULK AT MOST 1048576: true; the input reads as it did. -/
def diskPlaysUptoRow : OpenClaim := { program := "ytioieffmihdheaa", sum := "7de30fa7afba4b76b98504cf2c0c85399eafc549f71db854923bec17a6527fc8", func := "sheaf/sheaflaw4.DiskPlays", spec := "diskPlays", unfollowed := true, recurses := true, apart := false, narrowed := true }
def DiskPlaysUptoSaid : Prop := diskPlaysUptoRow.holds Try.pinned (OpenSpec.upto diskPlaysSpec)

end Rows
end Go.Proofs.Ytioieffmihdheaa
