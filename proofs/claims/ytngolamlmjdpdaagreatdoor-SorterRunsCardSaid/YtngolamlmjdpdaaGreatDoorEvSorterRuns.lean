/- Chapter 15's runs, evaluated over the named memory. -/
import Derived.Test.YtngolamlmjdpdaaGreatDoorRows
import Derived.Test.YtngolamlmjdpdaaGreatDoorEvSum
import Derived.Test.YtngolamlmjdpdaaGreatDoorAe29
namespace Go.Proofs.YtngolamlmjdpdaaGreatDoor

theorem sorterRuns_lawful : AE.lawful Tryz.prog = true := by kernel_rfl
set_option maxRecDepth 100000 in
set_option maxHeartbeats 100000000 in
theorem sorterRuns_run : AE.isTrue (AE.evF (AE.Env.of Tryz.prog) sum.sums 100000 (.next (.enter 4 [])) AE.s0) = true := by kernel_rfl
theorem sorterRuns_any (w0 : World) : Calls Tryz.prog 4 #[] w0 fun e w' => e = .returned (.bool true) ∧ Go.RowKit.Below w0.heap.size w0 w' :=
  AE.callsF_true sorterRuns_lawful (Checked.mixed Tryz.checked) sum.sums_ok sorterRuns_run w0
end Go.Proofs.YtngolamlmjdpdaaGreatDoor
