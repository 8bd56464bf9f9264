/- Chapter 20's runs, evaluated over the named memory. -/
import Derived.Test.YtldelmmaimbbmaaGreatRows
import Derived.Test.YtldelmmaimbbmaaGreatAe24
namespace Go.Proofs.YtldelmmaimbbmaaGreat

theorem closingRuns_lawful : AE.lawful Tryz.prog = true := by kernel_rfl
set_option maxRecDepth 100000 in
theorem closingRuns_run : AE.isTrue (AE.ev (AE.Env.of Tryz.prog) 100000 (.next (.enter 6 [])) AE.s0) = true := by kernel_rfl
theorem closingRuns_any (w0 : World) : Calls Tryz.prog 6 #[] w0 fun e w' => e = .returned (.bool true) ∧ Go.RowKit.Below w0.heap.size w0 w' :=
  AE.calls_true closingRuns_lawful (Checked.mixed Tryz.checked) closingRuns_run w0
end Go.Proofs.YtldelmmaimbbmaaGreat
