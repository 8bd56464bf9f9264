/- Blocks of noughts, of a byte; are two lists of bytes the same; Within. -/
import Derived.Test.YtioieffmihdheaaD4
namespace Go.Proofs.Ytioieffmihdheaa
open Go.RowKit
set_option linter.unusedVariables false
set_option linter.unusedSimpArgs false

theorem ret_int {k : IntKind} {a b : Int} (h : a = b) : Ending.returned (.int k a) = .returned (.int k b) := by rw [h]

theorem ret_bool {a b : Bool} (h : a = b) : Ending.returned (.bool a) = .returned (.bool b) := by rw [h]

/-- 128 noughts -/
def zeros : Array Value := ((List.replicate 128 (0 : UInt8)).map BV).toArray

theorem make_zeros : ∀ W : World, (Instr.makeSlice 34 (.int .i64 128) (.int .i64 128)).run Try.prog W = .ok (.slice (some ⟨W.heap.size, 0, none⟩) 128 128) (W.alloc (.cells zeros 5)) := fun _ => by kernel_rfl

theorem owns_of_blk {w : World} {g c : Nat} {e : TypeId} {cs : List Value} (h : Blk w g e cs.toArray) (hc : cs.length = c) (hm : c ≤ maxLen) (base : Nat) (hb : base ≤ g) : w.ownsRow base e 1 (.slice (some ⟨g, 0, none⟩) c c) c cs := by
  refine ⟨by omega, .inr ⟨g, c, _, rfl, hb, h, Nat.le_refl _, hm, by simp [hc], ?_⟩⟩
  simp [← hc]

/-- what a block holds while it is filled -/
def filled (x : UInt8) (k : Nat) : List UInt8 := List.replicate k x ++ List.replicate (128 - k) 0

theorem filled_len (x : UInt8) {k : Nat} (hk : k ≤ 128) : (filled x k).length = 128 := by simp [filled]; omega
theorem filled_set (x : UInt8) {k : Nat} (hk : k < 128) : (filled x k).set k x = filled x (k + 1) := by
  unfold filled
  rw [List.set_append_right _ _ (by simp)]
  simp only [List.length_replicate, Nat.sub_self]
  obtain ⟨m, hm⟩ : ∃ m, 128 - k = m + 1 := ⟨128 - k - 1, by omega⟩
  rw [hm, show 128 - (k + 1) = m by omega, List.replicate_succ, List.set_cons_zero, List.replicate_succ', List.append_assoc]
  rfl

def fillC (x : UInt8) (k : Nat) : Array Value := ((filled x k).map BV).toArray
theorem fillC_set (x : UInt8) {k : Nat} (hk : k < 128) : (fillC x k).setIfInBounds k (BV x) = fillC x (k + 1) := by
  unfold fillC
  rw [← filled_set x hk]
  apply Array.ext'
  simp [List.map_set]
theorem fillC_at (x : UInt8) {k j : Nat} (hk : k ≤ 128) (hj : j < 128) : ∃ u, (fillC x k)[j]? = some u := by
  have : (filled x k).length = 128 := filled_len x hk
  exact ⟨_, Array.getElem?_eq_getElem (by simp [fillC]; omega)⟩

/-- a block of a byte, in new memory -/
def Filled (w : World) (x : UInt8) (e : Ending) (w' : World) : Prop :=
  ∃ g, e = .returned (.slice (some ⟨g, 0, none⟩) 128 128) ∧ w'.ownsRow w.heap.size 5 1 (.slice (some ⟨g, 0, none⟩) 128 128) 128 ((List.replicate 128 x).map BV) ∧ Below w.heap.size w w'

set_option maxRecDepth 100000 in
set_option maxHeartbeats 800000 in
theorem fill_any (x : UInt8) (w : World) : Calls Try.prog 19 #[.int .u8 (x.toNat : Int)] w (Filled w x) := by
  have hmk := make_zeros
  have hz : Blk (w.alloc (.cells zeros 5)) w.heap.size 5 (fillC x 0) := Blk.new w _ _
  have hB : Below w.heap.size w (w.alloc (.cells zeros 5)) := (Below.refl _ _).alloc (Nat.le_refl _) _
  go_enter Try.func19, Try.ntmps19
  go_wp2
  go_loopw [4, 8] (fun _ i wr => ∃ k : Nat, k ≤ 128 ∧ i = .int .i64 k ∧ Below w.heap.size w wr ∧ Blk wr w.heap.size 5 (fillC x k)) (fun _ i _ => 128 - (intOf i).toNat)
  case atStart => exact ⟨0, by omega, rfl, hB, hz⟩
  case round =>
    obtain ⟨k, hk, rfl, hb, hblk⟩ := hrel
    by_cases hlt : k < 128
    · obtain ⟨u0, hc0⟩ := fillC_at x (k := k) (j := k) hk hlt
      have hcell : wr.cell? ⟨w.heap.size, k, none⟩ = some u0 := by rw [hblk.cell]; exact hc0
      have hfr := hblk.frozen k
      have HB := Lib.hid hb
      have HK := Lib.hid hblk
      clear hb hblk hc0
      go_wp2
      go_roundw
      case rel => exact ⟨k + 1, by omega, by go_num, HB.out.setCell (Nat.le_refl _) _, by rw [← fillC_set x hlt]; exact HK.out.set_ k (BV x)⟩
      case measure => simp [intOf]; omega
    · obtain rfl : k = 128 := by omega
      have HB := Lib.hid hb
      have HK := Lib.hid hblk
      clear hb hblk
      go_wp2
      go_ret
      refine ⟨w.heap.size, rfl, ?_, HB.out⟩
      have h1 := owns_of_blk (c := 128) HK.out (by simp [filled]) (by unfold maxLen; omega) w.heap.size (Nat.le_refl _)
      simpa [filled] using h1

theorem within_math (n lo hi : Int) (h1 : lo ≤ hi) : lo ≤ lo + (n % (hi - lo + 1)) ∧ lo + (n % (hi - lo + 1)) ≤ hi := by
  have h2 := Int.emod_nonneg n (show hi - lo + 1 ≠ 0 by omega)
  have h3 := Int.emod_lt_of_pos n (show 0 < hi - lo + 1 by omega)
  omega

theorem tmod_neg (n m : Int) (hn : n < 0) (hm : 0 < m) : -m < n.tmod m ∧ n.tmod m ≤ 0 ∧ n % m = (if n.tmod m < 0 then n.tmod m + m else 0) := by
  obtain ⟨k, rfl⟩ : ∃ k, n = -k := ⟨-n, by omega⟩
  have h1 : (-k).tmod m = -(k % m) := by rw [Int.neg_tmod, Int.tmod_eq_emod_of_nonneg (by omega)]
  have h2 := Int.emod_nonneg k (show m ≠ 0 by omega)
  have h3 := Int.emod_lt_of_pos k hm
  have h4 : (-k) % m = (if k % m = 0 then 0 else m - k % m) := by
    by_cases h : k % m = 0
    · rw [if_pos h]
      exact Int.emod_eq_zero_of_dvd (Int.dvd_neg.2 (Int.dvd_of_emod_eq_zero h))
    · rw [if_neg h]
      have h5 : (-k) = (m - k % m) + m * (-(k / m) - 1) := by
        have := Int.emod_add_mul_ediv k m
        rw [Int.mul_sub, Int.mul_neg]
        omega
      rw [h5, Int.add_mul_emod_self_left, Int.emod_eq_of_lt (by omega) (by omega)]
  rw [h1, h4]
  refine ⟨by omega, by omega, ?_⟩
  by_cases h : k % m = 0
  · rw [if_pos h, if_neg (by omega)]
  · rw [if_neg h, if_pos (by omega)]
    omega

/-- Within, in plain words -/
def within (n lo hi : Int) : Int := lo + n % (hi - lo + 1)

set_option maxRecDepth 100000 in
set_option maxHeartbeats 800000 in
theorem within_any (n lo hi : Int) (w : World) (h0 : 0 ≤ lo) (h1 : lo ≤ hi) (h2 : hi ≤ 1000000) (h3 : -9223372036854775808 ≤ n) (h4 : n ≤ 9223372036854775807) :
    Calls Try.prog 16 #[.int .i64 n, .int .i64 lo, .int .i64 hi] w fun e w' => e = .returned (.int .i64 (within n lo hi)) ∧ w = w' := by
  by_cases hn : 0 ≤ n
  · have hm := Int.emod_lt_of_pos n (show 0 < hi - lo + 1 by omega)
    have hp := Int.emod_nonneg n (show hi - lo + 1 ≠ 0 by omega)
    go_enter Try.func16, Try.ntmps16
    go_wp2
    go_ret
    exact ⟨rfl, rfl⟩
  · have ht := tmod_neg n (hi - lo + 1) (by omega) (by omega)
    have ht1 := ht.1
    have ht2 := ht.2.1
    have HT := Lib.hid ht.2.2
    clear ht
    go_enter Try.func16, Try.ntmps16
    go_wp2
    all_goals go_ret
    · have h9 : n.tmod (hi - lo + 1) < 0 := by assumption
      have h8 := HT.out
      rw [if_pos h9] at h8
      exact ⟨ret_int (by unfold within; rw [h8]; omega), rfl⟩
    · have h9 : 0 ≤ n.tmod (hi - lo + 1) := by assumption
      have h8 := HT.out
      rw [if_neg (by omega)] at h8
      exact ⟨ret_int (by unfold within; rw [h8]; omega), rfl⟩

/-- two lists of bytes that came from anywhere -/
def SameAt (w : World) (n : Nat) (A : Option Addr) (l : List UInt8) : Prop := n = l.length ∧ ∀ k x, l[k]? = some x → ∃ ad, A = some ad ∧ w.cell? (ad.add k) = some (BV x)

set_option maxRecDepth 100000 in
set_option maxHeartbeats 800000 in
theorem same_any (A A' : Option Addr) (c c' : Nat) (l l' : List UInt8) (w : World) (r : Bool) (hr : decide (l = l') = r) (h : SameAt w l.length A l) (h' : SameAt w l'.length A' l') (hb : l.length ≤ 9223372036854775807) (hb' : l'.length ≤ 9223372036854775807) :
    Calls Try.prog 23 #[.slice A l.length c, .slice A' l'.length c'] w fun e w' => e = .returned (.bool r) ∧ ∃ n, w' = w.drewN n := by
  subst hr
  by_cases hlen : l.length = l'.length
  · have hq : ((l.length : Int) != l'.length) = false := by rw [bne_eq_false_iff_eq]; omega
    have H := Lib.hid h
    have H' := Lib.hid h'
    have HL := Lib.hid hlen
    clear h h' hlen
    go_enter Try.func23, Try.ntmps23
    go_wp2
    go_loopw [5] (fun i wr => ∃ k : Nat, k ≤ l.length ∧ i = .int .i64 k ∧ l.take k = l'.take k ∧ ∃ n, wr = w.drewN n) (fun i _ => l.length - (intOf i).toNat)
    case atStart => exact ⟨0, by omega, rfl, by simp, 0, rfl⟩
    case round =>
      obtain ⟨k, hk, rfl, ht, nd, rfl⟩ := hrel
      have HT := Lib.hid ht
      clear ht
      by_cases hlt : k < l.length
      · obtain ⟨x, hx⟩ : ∃ x, l[k]? = some x := ⟨_, List.getElem?_eq_getElem hlt⟩
        obtain ⟨y, hy⟩ : ∃ y, l'[k]? = some y := ⟨_, List.getElem?_eq_getElem (by have := HL.out; omega)⟩
        obtain ⟨ad, rfl, hc⟩ := H.out.2 k x hx
        obtain ⟨ad', rfl, hc'⟩ := H'.out.2 k y hy
        have hi0 : (0 : Int) ≤ (k : Int) := by omega
        have hi1 : (k : Int) < (l.length : Int) := by omega
        have hi2 : (k : Int) < (l'.length : Int) := by have := HL.out; omega
        have hk2 : k < l'.length := by have := HL.out; omega
        have HX := Lib.hid hx
        have HY := Lib.hid hy
        unfold BV at hc hc'
        clear hx hy
        by_cases hxy : x = y
        · have hn : ((x.toNat : Int) != y.toNat) = false := by rw [hxy]; simp
          have HXY := Lib.hid hxy
          clear hxy
          go_wp2
          go_region
          all_goals go_wp2
          all_goals go_roundw
          all_goals first | (case rel => exact ⟨k + 1, by omega, by go_num, by rw [List.take_add_one, List.take_add_one, HT.out, HX.out, HY.out, HXY.out], _, rfl⟩) | (case measure => simp [intOf]; omega)
        · have hn : ((x.toNat : Int) != y.toNat) = true := by rw [bne_iff_ne]; intro e; exact hxy (UInt8.toNat_inj.1 (by omega))
          have HXY := Lib.hid hxy
          clear hxy
          go_wp2
          go_region
          all_goals go_wp2
          all_goals go_ret
          all_goals exact ⟨ret_bool (Eq.symm (decide_eq_false (fun e => HXY.out (by have h1 := HX.out; rw [e, HY.out] at h1; exact (Option.some.inj h1).symm)))), _, rfl⟩
      · obtain rfl : k = l.length := by omega
        go_wp2
        go_ret
        refine ⟨ret_bool (Eq.symm (decide_eq_true ?_)), nd, rfl⟩
        have h1 := HT.out
        rw [List.take_length, HL.out, List.take_length] at h1
        exact h1
  · have hq : ((l.length : Int) != l'.length) = true := by rw [bne_iff_ne]; omega
    have hll : decide (l = l') = false := by simpa using fun e => hlen (by rw [e])
    rw [hll]
    clear h h' hlen hll
    go_enter Try.func23, Try.ntmps23
    go_wp2
    go_ret
    exact ⟨rfl, 0, rfl⟩

end Go.Proofs.Ytioieffmihdheaa
