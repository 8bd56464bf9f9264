/- What a boot leaves, of plain data. -/
import Derived.Test.YtioieffmihdheaaDiskLi
namespace Go.Proofs.Ytioieffmihdheaa
open Go.RowKit
set_option linter.unusedVariables false
set_option linter.unusedSimpArgs false

theorem bootAll_cons (bs : List (Option (List UInt8))) (y : Nat × List UInt8) (l : List (Nat × List UInt8)) (h : UInt8) (how : List UInt8) : bootAll bs (y :: l) (h :: how) = bootAll (bootStep bs y h) l how := rfl
theorem bootAll_nil (bs : List (Option (List UInt8))) (l : List (Nat × List UInt8)) : bootAll bs l [] = bs := by unfold bootAll; simp
theorem bootAll_snoc (x : Nat × List UInt8) : ∀ (l : List (Nat × List UInt8)) (bs : List (Option (List UInt8))) (how : List UInt8),
    bootAll bs (l ++ [x]) how = (match how[l.length]? with | some h => bootStep (bootAll bs l how) x h | none => bootAll bs l how)
  | [], bs, how => by
    cases how with
    | nil => rfl
    | cons h how => rfl
  | y :: l, bs, how => by
    cases how with
    | nil => rw [bootAll_nil, bootAll_nil]; simp
    | cons h how =>
      rw [List.cons_append, bootAll_cons, bootAll_cons, bootAll_snoc x l (bootStep bs y h) how]
      simp
theorem bootStep_len (bs : List (Option (List UInt8))) (x : Nat × List UInt8) (h : UInt8) : (bootStep bs x h).length = bs.length := by
  unfold bootStep
  split
  · simp
  · split <;> simp
theorem bootAll_len (how : List UInt8) : ∀ (l : List (Nat × List UInt8)) (bs : List (Option (List UInt8))), (bootAll bs l how).length = bs.length := by
  induction how with
  | nil => intro l bs; rw [bootAll_nil]
  | cons h how ih =>
    intro l bs
    cases l with
    | nil => rfl
    | cons y l => rw [bootAll_cons, ih, bootStep_len]

/-- what a block is to be: torn, or a byte's -/
def want (x : UInt8) (t : Bool) : Option (List UInt8) := if t then none else some (rep x)

/-- what a boot with 'how' would leave is what the two variables tell -/
def KeepsAs (how : List UInt8) (D : PD) (has : List UInt8) (torn : List Bool) : Prop :=
  ∀ (j : Nat) (x : UInt8) (t : Bool), has[j]? = some x → torn[j]? = some t → (bootAll D.blocks D.waits how)[j]? = some (want x t)

theorem keepsAs_write {how : List UInt8} {D : PD} {has : List UInt8} {torn : List Bool} {n m : Nat} (h : KeepsAs how D has torn) (hl : Live D n m) {k : Nat} (hk : k < n) (hh : has.length = n) (ht : torn.length = n) (x : UInt8) :
    KeepsAs how (D.write k (rep x)).2
      (match how[D.waits.length]? with | some y => if y.toNat % 3 = 1 then has.set k x else has | none => has)
      (match how[D.waits.length]? with | some y => if y.toNat % 3 = 1 then torn.set k false else if y.toNat % 3 = 2 then torn.set k true else torn | none => torn) := by
  intro j x' t' hx ht'
  rw [hl.write hk (rep_len x)]
  simp only [bootAll_snoc]
  have hbl := hl.len
  cases hhow : how[D.waits.length]? with
  | none =>
    rw [hhow] at hx ht'
    exact h j x' t' hx ht'
  | some y =>
    rw [hhow] at hx ht'
    simp only at hx ht' ⊢
    have hlen : (bootAll D.blocks D.waits how).length = n := by rw [bootAll_len]; exact hbl
    unfold bootStep
    by_cases h1 : y.toNat % 3 = 1
    · rw [if_pos h1] at hx ht' ⊢
      by_cases e : k = j
      · subst e
        rw [List.getElem?_set_self (by omega)] at hx ht' ⊢
        rw [← Option.some.inj hx, ← Option.some.inj ht']
        rfl
      · rw [List.getElem?_set_ne e] at hx ht' ⊢
        exact h j x' t' hx ht'
    · rw [if_neg h1] at hx ht' ⊢
      by_cases h2 : y.toNat % 3 = 2
      · rw [if_pos h2] at ht' ⊢
        by_cases e : k = j
        · subst e
          rw [List.getElem?_set_self (by omega)] at ht' ⊢
          rw [← Option.some.inj ht']
          rfl
        · rw [List.getElem?_set_ne e] at ht' ⊢
          exact h j x' t' hx ht'
      · rw [if_neg h2] at ht' ⊢
        exact h j x' t' hx ht'

/-- behind the boot -/
theorem boot_live {D : PD} {n m : Nat} (h : Live D n m) (how : List UInt8) : Live (D.boot how) n m := ⟨by show (bootAll _ _ _).length = n; rw [bootAll_len]; exact h.len, rfl, rfl, by simp [PD.boot], h.wro, by simp [PD.boot]⟩
theorem boot_read {D : PD} {n m : Nat} (h : Live D n m) {how : List UInt8} {has : List UInt8} {torn : List Bool} (hk : KeepsAs how D has torn) {j : Nat} (hj : j < n) {x : UInt8} {t : Bool} (hx : has[j]? = some x) (ht : torn[j]? = some t) : (D.boot how).read j = want x t := by
  rw [(boot_live h how).read hj]
  simp only [PD.boot, lastOf, List.reverse_nil, List.find?_nil, Option.map_none]
  rw [hk j x t hx ht]
  rfl
/-- nothing waits: a boot leaves the blocks -/
theorem keepsAs_start {D : PD} {n m : Nat} {how has : List UInt8} (h : Live D n m) (hw : D.waits = []) (hr : ∀ (j : Nat) (x : UInt8), has[j]? = some x → D.read j = some (rep x)) (hh : has.length = n) : KeepsAs how D has (List.replicate n false) := by
  intro j x t hx ht
  have hj : j < n := by
    rcases Nat.lt_or_ge j n with h | h
    · exact h
    · rw [List.getElem?_eq_none (by omega)] at hx; cases hx
  have h1 := hr j x hx
  rw [h.read hj, hw] at h1
  simp only [lastOf, List.reverse_nil, List.find?_nil, Option.map_none] at h1
  rw [List.getElem?_replicate, if_pos hj] at ht
  rw [hw, ← Option.some.inj ht]
  have h2 : bootAll D.blocks [] how = D.blocks := by unfold bootAll; rfl
  rw [h2]
  obtain ⟨o, ho⟩ : ∃ o, D.blocks[j]? = some o := ⟨_, List.getElem?_eq_getElem (by rw [h.len]; exact hj)⟩
  rw [ho] at h1 ⊢
  simp only [Option.getD_some] at h1
  rw [h1]
  rfl

end Go.Proofs.Ytioieffmihdheaa
