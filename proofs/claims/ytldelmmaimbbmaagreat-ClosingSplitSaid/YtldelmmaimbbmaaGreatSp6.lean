/- A sum is split: all of it, and nothing of it: plain numbers. -/
import Derived.Test.YtldelmmaimbbmaaGreatSp4
noncomputable section
namespace Go.Proofs.YtldelmmaimbbmaaGreat.sp
open AE
set_option linter.unusedSimpArgs false
set_option linter.unusedVariables false
set_option maxRecDepth 10000

theorem andE {a : Nat} (ha : a < 18446744073709551616) : andU (.ofNat a) 4294967295 = .ofNat (a % 4294967296) := by
  show wrapA .u64 (.ofNat (Nat.land (a % 18446744073709551616) (4294967295 % 18446744073709551616))) = _
  rw [Nat.mod_eq_of_lt ha]
  have e : Nat.land a (4294967295 % 18446744073709551616) = a % 4294967296 := Nat.and_two_pow_sub_one_eq_mod a 32
  rw [e, wU (by omega)]
theorem shrE (a : Nat) : shrU (.ofNat a) 32 = .ofNat (a / 4294967296) := by
  show Int.fdiv (a : Int) ((2 ^ 32 : Nat) : Int) = _
  rw [Int.fdiv_eq_ediv_of_nonneg _ (Int.natCast_nonneg _)]
  rfl
theorem mulE {a b : Nat} (h : a * b < 18446744073709551616) : mulU (.ofNat a) (.ofNat b) = .ofNat (a * b) := by
  show wrapA .u64 (.ofNat (a * b)) = _
  exact wU h
theorem addE {a b : Nat} (h : a + b < 18446744073709551616) : addU (.ofNat a) (.ofNat b) = .ofNat (a + b) := by
  show wrapA .u64 (.ofNat (a + b)) = _
  exact wU h
theorem hiE_nat {x y : Nat} (hx : x < 18446744073709551616) (hy : y < 18446744073709551616) : hiE (.ofNat x) (.ofNat y) = .ofNat (x * y / 18446744073709551616) := by
  have h0 : x % 4294967296 < 4294967296 := Nat.mod_lt _ (by decide)
  have h1 : x / 4294967296 < 4294967296 := by omega
  have g0 : y % 4294967296 < 4294967296 := Nat.mod_lt _ (by decide)
  have g1 : y / 4294967296 < 4294967296 := by omega
  have hh := wd.mul64_hi x y hx hy
  unfold hiE
  simp only [andE hx, andE hy, shrE]
  generalize x % 4294967296 = x0 at *
  generalize x / 4294967296 = x1 at *
  generalize y % 4294967296 = y0 at *
  generalize y / 4294967296 = y1 at *
  obtain ⟨b1, b2, b3⟩ := wd.mul64_bounds x0 x1 y0 y1 h0 h1 g0 g1
  have m : ∀ a b : Nat, a < 4294967296 → b < 4294967296 → a * b ≤ 18446744065119617025 := fun a b ha hb => by
    have := Nat.mul_le_mul (show a ≤ 4294967295 by omega) (show b ≤ 4294967295 by omega)
    omega
  have c1 := m x1 y0 h1 g0
  have c2 := m x0 y1 h0 g1
  have c3 := m x1 y1 h1 g1
  have k1 : mulU (.ofNat x1) (.ofNat y0) = .ofNat (x1 * y0) := mulE (by omega)
  have k2 : mulU (.ofNat x0) (.ofNat y1) = .ofNat (x0 * y1) := mulE (by omega)
  have k3 : mulU (.ofNat x1) (.ofNat y1) = .ofNat (x1 * y1) := mulE (by omega)
  rw [mulE b1, k1, k2, k3, shrE, addE b2, andE b2, shrE, addE b3, shrE]
  have d1 : (x1 * y0 + x0 * y0 / 4294967296) / 4294967296 < 4294967296 := by
    generalize x1 * y0 + x0 * y0 / 4294967296 = z at *
    omega
  have d2 : ((x1 * y0 + x0 * y0 / 4294967296) % 4294967296 + x0 * y1) / 4294967296 < 4294967296 := by
    generalize (x1 * y0 + x0 * y0 / 4294967296) % 4294967296 + x0 * y1 = z at *
    omega
  have d3 : x1 * y1 + (x1 * y0 + x0 * y0 / 4294967296) / 4294967296 < 18446744073709551616 := by omega
  have d4 : x1 * y1 + (x1 * y0 + x0 * y0 / 4294967296) / 4294967296 + ((x1 * y0 + x0 * y0 / 4294967296) % 4294967296 + x0 * y1) / 4294967296 < 18446744073709551616 := by omega
  rw [addE d3, addE d4, hh]

theorem ltI_nat (a b : Nat) : ltI (.ofNat a) (.ofNat b) = decide (a < b) := by
  rw [ltI_eq]
  simp
/-- a quotient that leaves nothing -/
theorem quo_exact {h : Int} {lo q : Nat} (hs : szH h lo * 18446744073709551616 + szL h lo = q * 10000) (hh : szH h lo < 10000) (hq : q ≤ 9223372036854775808) (hp : szM h = false → q ≤ 9223372036854775807) :
    qI (quoV h lo) = match szM h with | true => wrapA .i64 (wrapA .u64 (Int.sub 0 (.ofNat q))) | false => wrapA .i64 (.ofNat q) := by
  have e1 : qq h lo = q := by
    unfold qq
    rw [hs]
    exact Nat.mul_div_cancel q (by decide)
  have e2 : rr h lo = 0 := by
    unfold rr
    rw [hs]
    exact Nat.mul_mod_left q 10000
  have f0 : Q0 h lo = false := by
    unfold Q0
    have e : wrapA IntKind.u64 (Int.ofNat 10000) = Int.ofNat 10000 := rfl
    rw [e, ltI_nat, decide_eq_true hh]
    rfl
  have f1 : C1 q = true := by
    unfold C1
    have e : (9223372036854775808 : Int) = Int.ofNat 9223372036854775808 := rfl
    rw [e, ltI_nat, decide_eq_false (by omega)]
    rfl
  have f2 : C2 0 = false := rfl
  have f3 : C3 0 = false := rfl
  have f4 : FM (xD q) = true := by
    unfold FM xD
    have e : (9223372036854775808 : Int) = Int.ofNat 9223372036854775808 := rfl
    rw [e, ltI_nat, decide_eq_false (by omega)]
    rfl
  have f5 : szM h = false → FP (xD q) = true := by
    intro hm
    have := hp hm
    unfold FP xD
    have e : (9223372036854775807 : Int) = Int.ofNat 9223372036854775807 := rfl
    rw [e, ltI_nat, decide_eq_false (by omega)]
    rfl
  unfold quoV
  rw [e1, e2, f0, f1, f2, f3, f4]
  generalize C4 q = c4
  generalize FM (xU q) = a1
  generalize FP (xU q) = a2
  cases hm : szM h with
  | true => rfl
  | false =>
    rw [f5 hm]
    rfl

theorem wrapI {x : Int} (h1 : -9223372036854775808 ≤ x) (h2 : x < 9223372036854775808) : wrapA .i64 x = x := by
  show wrapS 18446744073709551616 9223372036854775808 x = x
  rw [wrapS_eq _ _ (by decide) (by decide)]
  split <;> omega
theorem modN_neg {k : Nat} (h : k < 18446744073709551616) : modN 18446744073709551616 (.negSucc k) = 18446744073709551615 - k := by
  have := modN_eq 18446744073709551616 (by decide) (.negSucc k)
  have e : (Int.negSucc k) % ((18446744073709551616 : Nat) : Int) = ((18446744073709551615 - k : Nat) : Int) := by
    rw [Int.negSucc_eq]
    omega
  rw [e] at this
  omega
theorem wU_neg {k : Nat} (h : k < 18446744073709551616) : wrapA .u64 (.negSucc k) = .ofNat (18446744073709551615 - k) := by
  show Int.ofNat (modN 18446744073709551616 (.negSucc k)) = _
  have := modN_eq 18446744073709551616 (by decide) (.negSucc k)
  have e : (Int.negSucc k) % ((18446744073709551616 : Nat) : Int) = ((18446744073709551615 - k : Nat) : Int) := by
    rw [Int.negSucc_eq]
    omega
  rw [e] at this
  have : modN 18446744073709551616 (.negSucc k) = 18446744073709551615 - k := by omega
  rw [this]
theorem lN_nat (a b : Nat) (n p : Int) (hn : wrapA .u64 n = .ofNat a) (hp : wrapA .u64 p = .ofNat b) : lN n p = a * b % 18446744073709551616 := by
  unfold lN
  rw [hn, hp]
  rfl
theorem wU_some (n : Int) : ∃ m, wrapA .u64 n = .ofNat m ∧ m < 18446744073709551616 := by
  refine ⟨modN 18446744073709551616 n, rfl, ?_⟩
  have := modN_eq 18446744073709551616 (by decide) n
  omega
/-- of none all is the rest -/
theorem sc_none (n : Int) : scI n (cl 0) = 0 := by
  obtain ⟨m, e1, hm⟩ := wU_some n
  have e0 : cl 0 = 0 := rfl
  have e2 : wrapA .u64 0 = .ofNat 0 := rfl
  have hl := lN_nat m 0 n 0 e1 e2
  have hh : hW n 0 = .ofNat 0 := by
    unfold hW
    rw [e1, e2, hiE_nat hm (by omega), Nat.mul_zero]
    cases ltI n 0 <;> rfl
  rw [e0]
  unfold scI
  rw [hh, hl, Nat.mul_zero]
  rfl
theorem cl_all : cl 10000 = 10000 := rfl
theorem sc_pos (k : Nat) (hk : k < 9223372036854775808) : scI (.ofNat k) 10000 = .ofNat k := by
  have e1 : wrapA .u64 (.ofNat k) = .ofNat k := wU (by omega)
  have e2 : wrapA .u64 10000 = .ofNat 10000 := rfl
  have hl := lN_nat k 10000 (.ofNat k) 10000 e1 e2
  have hm := Nat.div_add_mod (k * 10000) 18446744073709551616
  have hb : k * 10000 / 18446744073709551616 < 10000 := by omega
  have hh : hW (.ofNat k) 10000 = .ofNat (k * 10000 / 18446744073709551616) := by
    unfold hW
    rw [e1, e2, hiE_nat (by omega) (by omega)]
    have a1 : ltI (.ofNat k) 0 = false := by rw [show (0 : Int) = .ofNat 0 from rfl, ltI_nat, decide_eq_false (by omega)]
    have a2 : ltI 10000 0 = false := rfl
    rw [a1, a2]
    exact wrapI (by first | (simp; done) | (simp; omega)) (by first | (simp; done) | (simp; omega))
  unfold scI
  rw [hh, hl]
  generalize k * 10000 / 18446744073709551616 = a at *
  generalize k * 10000 % 18446744073709551616 = b at *
  have hs : szH (.ofNat a) b = a := Nat.mod_eq_of_lt (by omega)
  have hL : szL (.ofNat a) b = b := rfl
  rw [quo_exact (q := k) (by rw [hs, hL]; omega) (by rw [hs]; exact hb) (by omega) (fun _ => by omega)]
  show wrapA .i64 (.ofNat k) = _
  exact wrapI (by first | (simp; done) | (simp; omega)) (by first | (simp; done) | (simp; omega))
theorem sz_neg (j lo : Nat) (hj : j < 10000) (hlo : lo < 18446744073709551616) : szH (.negSucc j) lo = (if lo = 0 then j + 1 else j) ∧ szL (.negSucc j) lo = if lo = 0 then 0 else 18446744073709551616 - lo := by
  have em := modN_neg (k := j) (by omega)
  constructor
  · cases lo with
    | zero =>
      rw [if_pos rfl]
      show (18446744073709551616 - modN 18446744073709551616 (.negSucc j) - 0) % 18446744073709551616 = j + 1
      rw [em]
      show (18446744073709551616 - (18446744073709551615 - j) - 0) % 18446744073709551616 = j + 1
      omega
    | succ l =>
      rw [if_neg (by omega)]
      show (18446744073709551616 - modN 18446744073709551616 (.negSucc j) - 1) % 18446744073709551616 = j
      rw [em]
      show (18446744073709551616 - (18446744073709551615 - j) - 1) % 18446744073709551616 = j
      omega
  · show (18446744073709551616 - lo) % 18446744073709551616 = _
    split <;> omega
theorem neg_back {k : Nat} (hk : k < 9223372036854775808) : wrapA .i64 (wrapA .u64 (Int.sub 0 (.ofNat (k + 1)))) = .negSucc k := by
  have e : Int.sub 0 (.ofNat (k + 1)) = .negSucc k := by
    show (0 : Int) - ((k + 1 : Nat) : Int) = _
    rw [Int.negSucc_eq]
    omega
  rw [e, wU_neg (by omega)]
  show wrapS 18446744073709551616 9223372036854775808 (.ofNat (18446744073709551615 - k)) = _
  rw [wrapS_eq _ _ (by decide) (by decide), Int.negSucc_eq]
  have e2 : (Int.ofNat (18446744073709551615 - k)) = 18446744073709551615 - (k : Int) := by
    show ((18446744073709551615 - k : Nat) : Int) = _
    omega
  rw [e2]
  split <;> omega
theorem neg_sum (k a b : Nat) (hk : k < 9223372036854775808) (hm : 18446744073709551616 * a + b = (18446744073709551615 - k) * 10000) (hb : b < 18446744073709551616) (ha : a < 10000) :
    (if b = 0 then 9999 - a + 1 else 9999 - a) * 18446744073709551616 + (if b = 0 then 0 else 18446744073709551616 - b) = (k + 1) * 10000 := by
  obtain ⟨u, hu⟩ : ∃ u, u = 18446744073709551615 - k := ⟨_, rfl⟩
  rw [← hu] at hm
  have h1 : u + k = 18446744073709551615 := by omega
  obtain ⟨c, hc⟩ : ∃ c, c = 9999 - a := ⟨_, rfl⟩
  have h2 : c + a = 9999 := by omega
  rw [← hc]
  clear hu hc
  split
  · omega
  · obtain ⟨d, hd⟩ : ∃ d, d = 18446744073709551616 - b := ⟨_, rfl⟩
    have h3 : d + b = 18446744073709551616 := by omega
    rw [← hd]
    clear hd
    omega
theorem sc_neg (k : Nat) (hk : k < 9223372036854775808) : scI (.negSucc k) 10000 = .negSucc k := by
  have e1 : wrapA .u64 (.negSucc k) = .ofNat (18446744073709551615 - k) := wU_neg (by omega)
  have e2 : wrapA .u64 10000 = .ofNat 10000 := rfl
  have hl := lN_nat (18446744073709551615 - k) 10000 (.negSucc k) 10000 e1 e2
  have hm := Nat.div_add_mod ((18446744073709551615 - k) * 10000) 18446744073709551616
  have hlt : (18446744073709551615 - k) * 10000 % 18446744073709551616 < 18446744073709551616 := Nat.mod_lt _ (by decide)
  have hb : (18446744073709551615 - k) * 10000 / 18446744073709551616 < 10000 := by omega
  have hx := hiE_nat (x := 18446744073709551615 - k) (y := 10000) (by omega) (by omega)
  generalize ha : (18446744073709551615 - k) * 10000 / 18446744073709551616 = a at *
  generalize hb' : (18446744073709551615 - k) * 10000 % 18446744073709551616 = b at *
  have hh : hW (.negSucc k) 10000 = .negSucc (9999 - a) := by
    unfold hW
    rw [e1, e2, hx]
    have a1 : ltI (.negSucc k) 0 = true := rfl
    have a2 : ltI 10000 0 = false := rfl
    have a3 : wrapA .i64 (.ofNat a) = .ofNat a := wrapI (by first | (simp; done) | (simp; omega)) (by first | (simp; done) | (simp; omega))
    rw [a1, a2, a3]
    have a4 : Int.sub (.ofNat a) 10000 = .negSucc (9999 - a) := by
      show (a : Int) - 10000 = _
      rw [Int.negSucc_eq]
      omega
    show wrapA .i64 (Int.sub (.ofNat a) 10000) = _
    rw [a4, Int.negSucc_eq]
    exact wrapI (by omega) (by omega)
  unfold scI
  rw [hh, hl]
  obtain ⟨s1, s2⟩ := sz_neg (9999 - a) b (by omega) hlt
  have hs : szH (.negSucc (9999 - a)) b * 18446744073709551616 + szL (.negSucc (9999 - a)) b = (k + 1) * 10000 := by
    rw [s1, s2]
    exact neg_sum k a b hk hm hlt hb
  have hH : szH (.negSucc (9999 - a)) b < 10000 := by
    generalize szH (.negSucc (9999 - a)) b = x at *
    generalize szL (.negSucc (9999 - a)) b = y at *
    omega
  rw [quo_exact (q := k + 1) hs hH (by omega) (fun h => by cases h)]
  exact neg_back hk
/-- of all parts it is all -/
theorem sc_all (n : Int) (hn : wrapA .i64 n = n) : scI n (cl 10000) = n := by
  have hr : -9223372036854775808 ≤ n ∧ n < 9223372036854775808 := by
    have : wrapS 18446744073709551616 9223372036854775808 n = n := hn
    rw [wrapS_eq _ _ (by decide) (by decide)] at this
    split at this <;> omega
  rw [cl_all]
  cases n with
  | ofNat k => exact sc_pos k (by have := hr.2; simp at this; omega)
  | negSucc k => exact sc_neg k (by have := hr.1; rw [Int.negSucc_eq] at this; omega)
theorem wrap_is (x : Int) : ∃ t : Int, wrapA .i64 x = x - 18446744073709551616 * t := by
  have e : wrapA .i64 x = wrapS 18446744073709551616 9223372036854775808 x := rfl
  rw [e, wrapS_eq _ _ (by decide) (by decide)]
  split
  · exact ⟨x / 18446744073709551616 + 1, by omega⟩
  · exact ⟨x / 18446744073709551616, by omega⟩
theorem wrap_less (x t : Int) : wrapA .i64 (x - 18446744073709551616 * t) = wrapA .i64 x := by
  have e : ∀ x, wrapA .i64 x = wrapS 18446744073709551616 9223372036854775808 x := fun x => rfl
  rw [e, e, wrapS_eq _ _ (by decide) (by decide), wrapS_eq _ _ (by decide) (by decide)]
  have : (x - 18446744073709551616 * t) % ((18446744073709551616 : Nat) : Int) = x % ((18446744073709551616 : Nat) : Int) := by omega
  rw [this]
/-- both rows together are the amount -/
theorem sum_back (a n : Int) (hn : wrapA .i64 n = n) : wrapA .i64 (Int.add a (wrapA .i64 (Int.sub n a))) = n := by
  obtain ⟨t, ht⟩ := wrap_is (Int.sub n a)
  rw [ht]
  have e : Int.add a (Int.sub n a - 18446744073709551616 * t) = n - 18446744073709551616 * t := by
    show a + ((n - a) - 18446744073709551616 * t) = _
    omega
  rw [e, wrap_less, hn]
theorem eqI_self (n : Int) : eqI n n = true := by
  rw [eqI_eq]
  simp
end Go.Proofs.YtldelmmaimbbmaaGreat.sp
