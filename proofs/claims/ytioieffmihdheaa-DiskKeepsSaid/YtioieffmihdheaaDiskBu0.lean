/- What chapter 4's law on bursts says, of plain data. -/
import Derived.Test.YtioieffmihdheaaDiskRuns
namespace Go.Proofs.Ytioieffmihdheaa
open Go.RowKit
set_option linter.unusedVariables false
set_option linter.unusedSimpArgs false

theorem burstK_get (b : List UInt8) (a x : Nat) : ∀ k j, (burstK b a x k)[j]? = if a ≤ j ∧ j < a + k then (b[j]?).map (· ^^^ byteOf x (j - a)) else b[j]?
  | 0, j => by rw [if_neg (by omega)]; rfl
  | k + 1, j => by
    unfold burstK
    rw [List.getElem?_set, burstK_len]
    by_cases h : a + k = j
    · subst h
      have h1 := burstK_get b a x k (a + k)
      rw [if_neg (show ¬ (a ≤ a + k ∧ a + k < a + k) by omega)] at h1
      rw [if_pos rfl, h1, if_pos (show a ≤ a + k ∧ a + k < a + (k + 1) by omega), Nat.add_sub_cancel_left]
      by_cases hl : a + k < b.length
      · rw [if_pos hl, List.getElem?_eq_getElem hl]; rfl
      · rw [if_neg hl, List.getElem?_eq_none (by omega)]; rfl
    · rw [if_neg h, burstK_get b a x k j]
      by_cases h1 : a ≤ j ∧ j < a + k
      · rw [if_pos h1, if_pos (by omega)]
      · rw [if_neg h1, if_neg (by omega)]
theorem burstK_twice (b : List UInt8) (a x k : Nat) : burstK (burstK b a x k) a x k = b := by
  apply List.ext_getElem?
  intro j
  rw [burstK_get, burstK_get]
  by_cases h : a ≤ j ∧ j < a + k
  · rw [if_pos h, if_pos h]
    cases b[j]? with
    | none => rfl
    | some y => simp [UInt8.xor_assoc]
  · rw [if_neg h, if_neg h]

/-- a disk of three blocks, of which k has the bytes b -/
def bu (k : Nat) (b : List UInt8) : PD := { blocks := (PD.new 3).blocks.set k (some b), waits := [], fuse := -1, off := false, wrote := 1 }
def bu1 (k : Nat) (b : List UInt8) : PD := { PD.new 3 with waits := [(k, b)], wrote := 1 }

section
variable (k a x : Nat) (s : UInt8) (b : List UInt8)
theorem bu_write (hk : k ≤ 2) (hb : b.length = 128) : (PD.new 3).write k b = (0, bu1 k b) := by
  unfold PD.write
  rw [if_pos (by simp [PD.new]; omega)]
  simp [PD.goes, PD.new, bu1]
  rfl
theorem bu1_burst (i aa : Int) : (bu1 k b).burst i aa x = (false, bu1 k b) := by
  unfold PD.burst
  rw [if_neg (by simp [bu1])]
theorem bu1_flush : (bu1 k b).flush = (0, bu k b) := by
  unfold PD.flush
  simp [PD.goes, bu1, bu, PD.new, landAll]
  rfl
theorem bu_burst (hk : k ≤ 2) (ha : a ≤ 124) : (bu k b).burst k a x = (true, bu k (burstK b a x 4)) := by
  unfold PD.burst
  rw [if_pos ⟨by omega, by simp [bu, PD.new]; omega, by omega, by omega, rfl⟩]
  have h1 : ((bu k b).blocks[(k : Int).toNat]?).getD none = some b := by
    simp only [bu, PD.new, Int.toNat_natCast]
    rw [List.getElem?_set_self (by simp; omega)]
    rfl
  rw [h1]
  simp [bu]
theorem bu_burst_no (i aa : Int) (h : ¬ (0 ≤ i ∧ i < 3 ∧ 0 ≤ aa ∧ aa ≤ 124)) : (bu k b).burst i aa x = (false, bu k b) := by
  unfold PD.burst
  rw [if_neg]
  intro ⟨h1, h2, h3, h4, _⟩
  simp [bu, PD.new] at h2
  exact h ⟨h1, by omega, h3, h4⟩
theorem bu_read (hk : k ≤ 2) : (bu k b).read k = some b := by
  unfold PD.read
  rw [if_pos ⟨by omega, by simp [bu, PD.new]; omega, rfl⟩]
  have h1 : lastOf (bu k b).waits (k : Int).toNat = none := by simp [bu, lastOf]
  rw [h1]
  simp only [bu, PD.new, Int.toNat_natCast]
  rw [List.getElem?_set_self (by simp; omega)]
  rfl
theorem bu_read_other (j : Nat) (hj : j ≤ 2) (hne : j ≠ k) : (bu k b).read j = some (rep 0) := by
  unfold PD.read
  rw [if_pos ⟨by omega, by simp [bu, PD.new]; omega, rfl⟩]
  have h1 : lastOf (bu k b).waits (j : Int).toNat = none := by simp [bu, lastOf]
  rw [h1]
  simp only [bu, PD.new, Int.toNat_natCast]
  rw [List.getElem?_set, if_neg (by omega), List.getElem?_replicate, if_pos (by omega)]
  rfl
end

end Go.Proofs.Ytioieffmihdheaa
