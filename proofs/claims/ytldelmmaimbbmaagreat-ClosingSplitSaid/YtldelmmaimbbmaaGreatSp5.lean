/- A sum is split: the law's own calls. -/
import Derived.Test.YtldelmmaimbbmaaGreatSp4
noncomputable section
namespace Go.Proofs.YtldelmmaimbbmaaGreat.sp
open AE
set_option linter.unusedSimpArgs false
set_option linter.unusedVariables false
set_option maxRecDepth 10000

def sigZ : List (FuncId × (List Value → AM Value)) := [(7, splitA), (6, constA (.bool true))]
noncomputable def lawE (e p g n : Int) (told : List (Nat × Option Bool)) : Option (List (Bool × Bool)) :=
  asks (evNextO (evO E (gatesOf []) (sumsOf sigZ) 200) E (.enter 3 [.int .i64 e, .int .i64 p, .int .i64 g, .int .i64 n]) s0 ⟨told, []⟩)
end Go.Proofs.YtldelmmaimbbmaaGreat.sp
