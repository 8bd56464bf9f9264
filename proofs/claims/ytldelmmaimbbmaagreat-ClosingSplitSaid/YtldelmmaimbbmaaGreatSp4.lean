/- A sum is split: an amount's fraction. -/
import Derived.Test.YtldelmmaimbbmaaGreatSp3
noncomputable section
namespace Go.Proofs.YtldelmmaimbbmaaGreat.sp
open AE
set_option linter.unusedSimpArgs false
set_option linter.unusedVariables false
set_option maxRecDepth 10000

def qI : Value → Int
  | .tuple ⟨[.int _ n, _]⟩ => n
  | _ => 0
def qB : Value → Bool
  | .tuple ⟨[_, .bool b]⟩ => b
  | _ => false
def quoW (h : Int) (lo : Nat) : Value := .tuple ⟨[.int .i64 (qI (quoV h lo)), .bool (qB (quoV h lo))]⟩
theorem quoX_eq : ∀ (q0 c1 c2 c3 c4 m fU fD gU gD : Bool) (q : Nat), quoX q0 c1 c2 c3 c4 m fU fD gU gD q = .tuple ⟨[.int .i64 (qI (quoX q0 c1 c2 c3 c4 m fU fD gU gD q)), .bool (qB (quoX q0 c1 c2 c3 c4 m fU fD gU gD q))]⟩ := by
  intro q0 c1 c2 c3 c4 m fU fD gU gD q
  cases q0 with
  | true => rfl
  | false =>
    unfold quoX
    dsimp only
    generalize upX c1 c2 c3 c4 = up
    cases m <;> cases up <;> cases fU <;> cases fD <;> cases gU <;> cases gD <;> rfl
theorem quoV_eq (h : Int) (lo : Nat) : quoV h lo = quoW h lo := quoX_eq _ _ _ _ _ _ _ _ _ _ _
theorem plain_quoW (h : Int) (lo : Nat) : Plain (quoW h lo) := plain_tuple fun v hv => by
  simp only [List.mem_cons, List.not_mem_nil, or_false] at hv
  rcases hv with rfl | rfl
  · exact plain_int _ _
  · exact plain_bool _
def quoG : List Value → Option (Bool × Value)
  | [.agg ⟨[.int .i64 h, .int .u64 (.ofNat lo)]⟩, .int .i64 (.ofNat 10000)] => some (Nat.blt lo 18446744073709551616, quoW h lo)
  | _ => none
theorem told_quoG : AE.Told Tryz.prog 30 (gA quoG) := by
  refine told_pure hE hmix tolds_Q ?_
  intro args s v s' hr
  obtain ⟨h1, rfl⟩ := gA_run hr
  unfold quoG at h1
  split at h1
  · rename_i h lo
    have hb : Nat.blt lo 18446744073709551616 = true := congrArg (fun x => match x with | some (b, _) => b | none => false) h1
    have hv : quoW h lo = v := congrArg (fun x => match x with | some (_, v) => v | none => undefV) h1
    subst hv
    refine ⟨plain_quoW h lo, Less'.refl _, fun v hv => ?_, 100, ?_⟩
    · simp only [List.mem_cons, List.not_mem_nil, or_false] at hv
      rcases hv with rfl | rfl
      · exact plain_agg (ints_plain (by simp))
      · exact plain_int _ _
    · rw [← quoV_eq]
      exact quo_ev h lo (blt_iff.1 hb)
  · cases h1

/-- a fraction of an amount -/
def lN (n p : Int) : Nat := modN 18446744073709551616 (Int.mul (wrapA .u64 n) (wrapA .u64 p))
def scW (n p : Int) : Value := quoW (hW n p) (lN n p)
def scI (n p : Int) : Int := qI (quoV (hW n p) (lN n p))
def scaleA : List Value → AM Value
  | [.int .i64 n, .int .i64 p, .int .i64 (.ofNat 10000)] => .pure (scW n p)
  | _ => .fail
def gateS : List (Nat × (List Value → Option (Bool × Value))) := [(30, quoG)]
def sigS : List (FuncId × (List Value → AM Value)) := [(31, mulWA)]
theorem tolds_S : Tolds Tryz.prog (gated (gatesOf gateS) (sumsOf sigS)) := tolds_gates (tolds_cons told_mulW tolds_nil) (by
  intro p hp
  simp only [gateS, List.mem_cons, List.not_mem_nil, or_false] at hp
  subst hp
  exact told_quoG)
theorem scale_ev (n p : Int) : evVO E (gatesOf gateS) (sumsOf sigS) 100 10 [.int .i64 n, .int .i64 p, .int .i64 (.ofNat 10000)] [(0, some true)] = some (scW n p, [(Nat.blt (lN n p) 18446744073709551616, true)]) := by kernel_rfl
theorem lN_lt (n p : Int) : lN n p < 18446744073709551616 := by
  have := modN_eq 18446744073709551616 (by decide) (Int.mul (wrapA .u64 n) (wrapA .u64 p))
  unfold lN
  omega
theorem told_scale : AE.Told Tryz.prog 10 scaleA := by
  refine told_pure hE hmix tolds_S ?_
  intro args s v s' h
  unfold scaleA at h
  split at h
  · rename_i n p
    cases h
    exact ⟨plain_quoW _ _, Less'.refl _, ints_plain (by simp), 100, evV_of (scale_ev n p) (qcons (blt_iff.2 (lN_lt n p)) qnil)⟩
  · cases h
/-- an amount, split -/
def cl (p : Int) : Int :=
  let m := match ltI (.ofNat 10000) p with | true => .ofNat 10000 | false => p
  match ltI (.ofNat 0) m with | true => m | false => .ofNat 0
def spV (n p : Int) : Value := .tuple ⟨[.int .i64 (scI n (cl p)), .int .i64 (wrapA .i64 (Int.sub n (scI n (cl p))))]⟩
def splitA : List Value → AM Value
  | [.int .i64 n, .int .i64 p] => .pure (spV n p)
  | _ => .fail
def sigT : List (FuncId × (List Value → AM Value)) := [(10, scaleA)]
theorem tolds_T : Tolds Tryz.prog (sumsOf sigT) := tolds_cons told_scale tolds_nil
theorem split_ev (n p : Int) : evV E (sumsOf sigT) 100 7 [.int .i64 n, .int .i64 p] = some (spV n p) := by kernel_rfl
theorem told_split : AE.Told Tryz.prog 7 splitA := by
  refine told_pure hE hmix tolds_T ?_
  intro args s v s' h
  unfold splitA at h
  split at h
  · rename_i n p
    cases h
    exact ⟨plain_tuple (ints_plain (by simp)), Less'.refl _, ints_plain (by simp), 100, split_ev n p⟩
  · cases h
end Go.Proofs.YtldelmmaimbbmaaGreat.sp
