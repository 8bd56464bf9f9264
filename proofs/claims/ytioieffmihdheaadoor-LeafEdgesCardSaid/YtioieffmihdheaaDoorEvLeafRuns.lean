/- Chapter 5's runs, evaluated over the named memory. -/
import Derived.Test.YtioieffmihdheaaDoorRows
import Derived.Test.YtioieffmihdheaaDoorEvSum
import Derived.Test.YtioieffmihdheaaDoorAe29
namespace Go.Proofs.YtioieffmihdheaaDoor

theorem leafRuns_lawful : AE.lawful Tryd.prog = true := by kernel_rfl
set_option maxRecDepth 100000 in
set_option maxHeartbeats 100000000 in
theorem leafRuns_run : AE.isTrue (AE.evF (AE.Env.of Tryd.prog) sum.sums 100000 (.next (.enter 3 [])) AE.s0) = true := by kernel_rfl
theorem leafRuns_any (w0 : World) : Calls Tryd.prog 3 #[] w0 fun e w' => e = .returned (.bool true) ∧ Go.RowKit.Below w0.heap.size w0 w' :=
  AE.callsF_true leafRuns_lawful (Checked.mixed Tryd.checked) sum.sums_ok leafRuns_run w0
end Go.Proofs.YtioieffmihdheaaDoor
