/- Chapter 7's runs, evaluated over the named memory. -/
import Derived.Test.YtngolamlmjdpdaaDoorRows
import Derived.Test.YtngolamlmjdpdaaDoorEvSum
namespace Go.Proofs.YtngolamlmjdpdaaDoor

theorem storeRuns_lawful : AE.lawful Tryd.prog = true := by kernel_rfl
set_option maxRecDepth 100000 in
set_option maxHeartbeats 100000000 in
theorem storeRuns_run : AE.isTrue (AE.evS (AE.Env.of Tryd.prog) sum.sums 100000 (.next (.enter 5 [])) AE.s0) = true := by kernel_rfl
theorem storeRuns_any (w0 : World) : Calls Tryd.prog 5 #[] w0 fun e w' => e = .returned (.bool true) ∧ Go.RowKit.Below w0.heap.size w0 w' :=
  AE.callsS_true storeRuns_lawful (Checked.mixed Tryd.checked) sum.sums_ok storeRuns_run w0
end Go.Proofs.YtngolamlmjdpdaaDoor
