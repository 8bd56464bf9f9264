/- Chapter 21's runs, evaluated over the named memory. -/
import Derived.Test.YteaoeloobbmdaaaRows
import Derived.Test.YteaoeloobbmdaaaAe24
namespace Go.Proofs.Yteaoeloobbmdaaa

theorem lawful : AE.lawful Try.prog = true := by kernel_rfl
set_option maxRecDepth 100000 in
theorem stepsRuns_run : AE.isTrue (AE.ev (AE.Env.of Try.prog) 100000 (.next (.enter 9 [])) AE.s0) = true := by kernel_rfl
theorem stepsRuns_any (w0 : World) : Calls Try.prog 9 #[] w0 fun e w' => e = .returned (.bool true) ∧ Go.RowKit.Below w0.heap.size w0 w' :=
  AE.calls_true lawful (Checked.mixed Try.checked) stepsRuns_run w0
end Go.Proofs.Yteaoeloobbmdaaa
