/- Chapter 6's runs, evaluated over the named memory. -/
import Derived.Test.YtngolamlmjdpdaaDoorRows
import Derived.Test.YtngolamlmjdpdaaDoorAe24
namespace Go.Proofs.YtngolamlmjdpdaaDoor

theorem catalogRuns_lawful : AE.lawful Tryd.prog = true := by kernel_rfl
set_option maxRecDepth 100000 in
theorem catalogRuns_run : AE.isTrue (AE.ev (AE.Env.of Tryd.prog) 100000 (.next (.enter 4 [])) AE.s0) = true := by kernel_rfl
theorem catalogRuns_any (w0 : World) : Calls Tryd.prog 4 #[] w0 fun e w' => e = .returned (.bool true) ∧ Go.RowKit.Below w0.heap.size w0 w' :=
  AE.calls_true catalogRuns_lawful (Checked.mixed Tryd.checked) catalogRuns_run w0
end Go.Proofs.YtngolamlmjdpdaaDoor
