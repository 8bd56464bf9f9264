/- A sum is split: the quotient by ten thousand, as the code finds it. -/
import Derived.Test.YtldelmmaimbbmaaGreatSp1
import Derived.Test.YtldelmmaimbbmaaGreatAe40
noncomputable section
namespace Go.Proofs.YtldelmmaimbbmaaGreat.sp
open AE
set_option linter.unusedSimpArgs false
set_option linter.unusedVariables false
set_option maxRecDepth 10000

/-- a number of 128 bits without its sign: its upper and its lower part; is it below nought? -/
def szH (h : Int) (lo : Nat) : Nat := match h with | .ofNat k => k % 18446744073709551616 | .negSucc k => szHi k lo
def szL (h : Int) (lo : Nat) : Nat := match h with | .ofNat k => lo | .negSucc k => szLo lo
def szM (h : Int) : Bool := match h with | .ofNat k => false | .negSucc k => true
theorem sizeV_eq (h : Int) (lo : Nat) : sizeV h lo = .tuple ⟨[.int .u64 (.ofNat (szH h lo)), .int .u64 (.ofNat (szL h lo)), .bool (szM h)]⟩ := by
  cases h with
  | ofNat k => rfl
  | negSucc k => rfl
def sizeB : List Value → AM Value
  | [.agg ⟨[.int .i64 h, .int .u64 (.ofNat lo)]⟩] => .pure (.tuple ⟨[.int .u64 (.ofNat (szH h lo)), .int .u64 (.ofNat (szL h lo)), .bool (szM h)]⟩)
  | _ => .fail
theorem told_sizeB : AE.Told Tryz.prog 60 sizeB := by
  refine AE.Told.mono told_size ?_
  intro args s v s' h
  unfold sizeB at h
  split at h
  · cases h
    show some (sizeV _ _, s) = _
    rw [sizeV_eq]
  · cases h
def divG : List Value → Option (Bool × Value)
  | [.int .u64 (.ofNat hi), .int .u64 (.ofNat lo), .int .u64 (.ofNat d)] => some (Nat.beq d 10000 && Nat.blt hi 10000 && Nat.blt lo 18446744073709551616,
      .tuple ⟨[.int .u64 (.ofNat ((hi * 18446744073709551616 + lo) / 10000)), .int .u64 (.ofNat ((hi * 18446744073709551616 + lo) % 10000))]⟩)
  | _ => none
theorem told_divG : AE.Told Tryz.prog 61 (gA divG) := by
  refine AE.Told.mono told_div64 ?_
  intro args s v s' h
  obtain ⟨h1, rfl⟩ := gA_run h
  unfold divG at h1
  split at h1
  · rename_i hi lo d
    cases hb : (Nat.beq d 10000 && Nat.blt hi 10000 && Nat.blt lo 18446744073709551616) with
    | false => rw [hb] at h1; cases h1
    | true =>
      rw [hb] at h1
      cases h1
      unfold div64A
      dsimp only
      rw [hb]
      rfl
  · cases h1
def gateQ : List (Nat × (List Value → Option (Bool × Value))) := [(61, divG)]
def sigQ : List (FuncId × (List Value → AM Value)) := [(60, sizeB)]
theorem tolds_Q : Tolds Tryz.prog (gated (gatesOf gateQ) (sumsOf sigQ)) := tolds_gates (tolds_cons told_sizeB tolds_nil) (by
  intro p hp
  simp only [gateQ, List.mem_cons, List.not_mem_nil, or_false] at hp
  subst hp
  exact told_divG)
end Go.Proofs.YtldelmmaimbbmaaGreat.sp
