/- A sum is split: the law. -/
import Derived.Test.YtldelmmaimbbmaaGreatSp5
import Derived.Test.YtldelmmaimbbmaaGreatSp6
import Derived.Test.YtldelmmaimbbmaaGreatEvClosingRuns
noncomputable section
namespace Go.Proofs.YtldelmmaimbbmaaGreat.sp
open AE
set_option linter.unusedSimpArgs false
set_option linter.unusedVariables false
set_option maxRecDepth 10000

theorem told_runs : AE.Told Tryz.prog 6 (constA (.bool true)) := told_of_calls rfl closingRuns_any
theorem tolds_Z : Tolds Tryz.prog (gated (gatesOf []) (sumsOf sigZ)) := tolds_gates (tolds_cons told_split (tolds_cons told_runs tolds_nil)) (fun p hp => by cases hp)
def rem0 (p : Int) : Int := Int.tmod p (wrapA .i64 (Int.add (wrapA .i64 (Int.sub 10000 0)) 1))
def pPos (p : Int) : Int := wrapA .i64 (Int.add 0 (rem0 p))
def pNeg (p : Int) : Int := wrapA .i64 (Int.add 0 (wrapA .i64 (Int.add (wrapA .i64 (Int.sub (wrapA .i64 (Int.add (rem0 p) 10000)) 0)) 1)))
def sumB (q n : Int) : Bool := !eqI (wrapA .i64 (Int.add (scI n (cl q)) (wrapA .i64 (Int.sub n (scI n (cl q)))))) n
theorem law_pos (e p g n : Int) : lawE e p g n [(0, some false), (22, some false), (17, some false), (13, some false), (17, some false), (13, some false), (17, some false), (1, some true), (5, some true)] =
    some [(true, true), (eqI (scI n (cl 0)) 0, true), (eqI (wrapA .i64 (Int.sub n (scI n (cl 10000)))) 0, true), (sumB 0 n, false), (!eqI g g, false), (sumB 10000 n, false), (!eqI g g, false), (sumB (pPos p) n, false), (!eqI g g, false), (ltI (rem0 p) 0, false)] := by kernel_rfl
theorem law_neg (e p g n : Int) : lawE e p g n [(0, some true), (22, some false), (17, some false), (13, some false), (17, some false), (13, some false), (17, some false), (1, some true), (5, some true)] =
    some [(true, true), (eqI (scI n (cl 0)) 0, true), (eqI (wrapA .i64 (Int.sub n (scI n (cl 10000)))) 0, true), (sumB 0 n, false), (!eqI g g, false), (sumB 10000 n, false), (!eqI g g, false), (sumB (pNeg p) n, false), (!eqI g g, false), (ltI (rem0 p) 0, true)] := by kernel_rfl
theorem sumB_no (q n : Int) (hn : wrapA .i64 n = n) : sumB q n = false := by
  unfold sumB
  rw [sum_back _ n hn, eqI_self]
  rfl
theorem closingSplit_any (e p g n : Int) (hn : wrapA .i64 n = n) (W : World) : Calls Tryz.prog 3 #[.int .i64 e, .int .i64 p, .int .i64 g, .int .i64 n] W fun x w' => x = .returned (.bool true) ∧ Go.RowKit.Below W.heap.size W w' := by
  have ha : LR (fun _ => none) [Value.int .i64 e, .int .i64 p, .int .i64 g, .int .i64 n] [.int .i64 e, .int .i64 p, .int .i64 g, .int .i64 n] :=
    .cons ((plain_int _ _).1 _) (.cons ((plain_int _ _).1 _) (.cons ((plain_int _ _).1 _) (.cons ((plain_int _ _).1 _) .nil)))
  have h1 : eqI (scI n (cl 0)) 0 = true := by rw [sc_none, eqI_self]
  have h2 : eqI (wrapA .i64 (Int.sub n (scI n (cl 10000)))) 0 = true := by
    rw [sc_all n hn]
    have : Int.sub n n = 0 := Int.sub_self n
    rw [this]
    rfl
  have h3 : (!eqI g g) = false := by rw [eqI_self]; rfl
  cases hl : ltI (rem0 p) 0 with
  | true => exact callsO_true hP hmix tolds_Z (law_neg e p g n) (qcons rfl (qcons h1 (qcons h2 (qcons (sumB_no _ n hn) (qcons h3 (qcons (sumB_no _ n hn) (qcons h3 (qcons (sumB_no _ n hn) (qcons h3 (qcons hl qnil)))))))))) ha W
  | false => exact callsO_true hP hmix tolds_Z (law_pos e p g n) (qcons rfl (qcons h1 (qcons h2 (qcons (sumB_no _ n hn) (qcons h3 (qcons (sumB_no _ n hn) (qcons h3 (qcons (sumB_no _ n hn) (qcons h3 (qcons hl qnil)))))))))) ha W
end Go.Proofs.YtldelmmaimbbmaaGreat.sp
