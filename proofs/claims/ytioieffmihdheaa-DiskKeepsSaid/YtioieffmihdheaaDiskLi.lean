/- A disk that is on, in plain words: what is read behind writes, flushes, boots. -/
import Derived.Test.YtioieffmihdheaaDiskBursts
import Derived.Test.YtioieffmihdheaaAsk
namespace Go.Proofs.Ytioieffmihdheaa
open Go.RowKit
set_option linter.unusedVariables false
set_option linter.unusedSimpArgs false

theorem lastOf_snoc (l : List (Nat × List UInt8)) (k : Nat) (b : List UInt8) (j : Nat) : lastOf (l ++ [(k, b)]) j = if k = j then some b else lastOf l j := by
  unfold lastOf
  rw [List.reverse_append, List.reverse_singleton, List.singleton_append, List.find?_cons]
  by_cases h : k = j
  · simp [h]
  · simp [h]
theorem lastOf_cons (l : List (Nat × List UInt8)) (x : Nat × List UInt8) (j : Nat) : lastOf (x :: l) j = (lastOf l j).or (if x.1 = j then some x.2 else none) := by
  unfold lastOf
  rw [List.reverse_cons, List.find?_append]
  cases h : l.reverse.find? (fun y => decide (y.1 = j)) with
  | some y => simp
  | none => by_cases h2 : x.1 = j <;> simp [h2]
theorem landAll_len (l : List (Nat × List UInt8)) : ∀ bs, (landAll bs l).length = bs.length := by
  induction l with
  | nil => intro bs; rfl
  | cons x l ih => intro bs; unfold landAll; rw [List.foldl_cons]; exact (ih _).trans List.length_set
theorem landAll_get (l : List (Nat × List UInt8)) (j : Nat) : ∀ bs : List (Option (List UInt8)), j < bs.length → (landAll bs l)[j]? = (match lastOf l j with | some b => some (some b) | none => bs[j]?) := by
  induction l with
  | nil => intro bs _; rfl
  | cons x l ih =>
    intro bs hj
    have h1 : landAll bs (x :: l) = landAll (bs.set x.1 (some x.2)) l := rfl
    rw [h1, ih _ (by rw [List.length_set]; exact hj), lastOf_cons]
    cases lastOf l j with
    | some b => rfl
    | none =>
      simp only [Option.none_or]
      by_cases h2 : x.1 = j
      · rw [if_pos h2]
        simp only
        rw [← h2, List.getElem?_set_self (by omega)]
      · rw [if_neg h2]
        simp only
        rw [List.getElem?_set_ne h2]

/-- a disk of n blocks that is on, without a fuse, on which at most m writes went -/
structure Live (D : PD) (n m : Nat) : Prop where
  len : D.blocks.length = n
  on : D.off = false
  nofuse : D.fuse = -1
  few : D.waits.length ≤ m
  wro : D.wrote ≤ m
  idx : ∀ x ∈ D.waits, x.1 < n
theorem Live.more {D : PD} {n m m' : Nat} (h : Live D n m) (hm : m ≤ m') : Live D n m' := ⟨h.len, h.on, h.nofuse, by have := h.few; omega, by have := h.wro; omega, h.idx⟩

theorem Live.goes {D : PD} {n m : Nat} (h : Live D n m) : D.goes = (true, D) := by
  unfold PD.goes
  have h1 := h.on
  have h2 := h.nofuse
  rw [if_neg (by simp [h1, h2])]
  cases D with
  | mk bl wa fu of wr =>
    simp only at h1 h2
    subst h1 h2
    rfl
theorem Live.write {D : PD} {n m : Nat} (h : Live D n m) {k : Nat} (hk : k < n) {b : List UInt8} (hb : b.length = 128) : D.write k b = (0, { D with waits := D.waits ++ [(k, b)], wrote := D.wrote + 1 }) := by
  unfold PD.write
  rw [if_pos ⟨by omega, by rw [h.len]; omega, hb⟩, h.goes]
  simp
theorem Live.write_live {D : PD} {n m : Nat} (h : Live D n m) {k : Nat} (hk : k < n) {b : List UInt8} (hb : b.length = 128) : Live (D.write k b).2 n (m + 1) := by
  rw [h.write hk hb]
  refine ⟨h.len, h.on, h.nofuse, ?_, ?_, ?_⟩
  · simp only [List.length_append, List.length_singleton]
    have := h.few
    omega
  · simp only
    have := h.wro
    omega
  · intro x hx
    simp only [List.mem_append, List.mem_singleton] at hx
    rcases hx with hx | rfl
    · exact h.idx x hx
    · exact hk
theorem Live.read {D : PD} {n m : Nat} (h : Live D n m) {j : Nat} (hj : j < n) : D.read j = (match lastOf D.waits j with | some b => some b | none => (D.blocks[j]?).getD none) := by
  unfold PD.read
  rw [if_pos ⟨by omega, by rw [h.len]; omega, h.on⟩]
  rfl
theorem Live.read_write {D : PD} {n m : Nat} (h : Live D n m) {k j : Nat} (hk : k < n) (hj : j < n) {b : List UInt8} (hb : b.length = 128) : (D.write k b).2.read j = if k = j then some b else D.read j := by
  rw [(h.write_live hk hb).read hj, h.write hk hb, h.read hj]
  simp only [lastOf_snoc]
  by_cases e : k = j
  · rw [if_pos e, if_pos e]
  · rw [if_neg e, if_neg e]
theorem Live.flush {D : PD} {n m : Nat} (h : Live D n m) : D.flush = (0, { D with blocks := landAll D.blocks D.waits, waits := [] }) := by
  unfold PD.flush
  rw [h.goes]
  simp
theorem Live.flush_live {D : PD} {n m : Nat} (h : Live D n m) : Live (D.flush).2 n m := by
  rw [h.flush]
  exact ⟨by rw [landAll_len]; exact h.len, h.on, h.nofuse, by simp, h.wro, by simp⟩
theorem Live.read_flush {D : PD} {n m : Nat} (h : Live D n m) {j : Nat} (hj : j < n) : (D.flush).2.read j = D.read j := by
  rw [h.flush_live.read hj, h.flush, h.read hj]
  simp only [lastOf, List.reverse_nil, List.find?_nil, Option.map_none]
  rw [landAll_get _ _ _ (by rw [h.len]; exact hj)]
  simp only [lastOf]
  cases (D.waits.reverse.find? fun x => decide (x.1 = j)).map (·.2) with
  | some b => rfl
  | none => rfl
theorem live_new (n : Nat) (h : 0 < n) : Live (PD.new n) n 0 := ⟨by simp [PD.new], rfl, rfl, by simp [PD.new], by simp [PD.new], by simp [PD.new]⟩
theorem read_new (n j : Nat) (hj : j < n) : (PD.new n).read j = some (rep 0) := by
  rw [(live_new n (by omega)).read hj]
  simp only [PD.new, lastOf, List.reverse_nil, List.find?_nil, Option.map_none]
  rw [List.getElem?_replicate, if_pos hj]
  rfl

end Go.Proofs.Ytioieffmihdheaa
