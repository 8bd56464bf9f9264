/- Whole numbers of 128 bits by one below 2^32, and products of 64 by 64 bits: the plain laws behind math/bits' Mul64 and Div64. No program is named here. -/
import Derived.Test.YtldelmmaimbbmaaGreatAe0
namespace Go.Proofs.YtldelmmaimbbmaaGreat.wd
set_option linter.unusedVariables false

theorem mul64_all (x0 x1 y0 y1 : Nat) (h0 : x0 < 4294967296) (h1 : x1 < 4294967296) (g0 : y0 < 4294967296) (g1 : y1 < 4294967296) :
    x1 * y1 + (x1 * y0 + x0 * y0 / 4294967296) / 4294967296 + ((x1 * y0 + x0 * y0 / 4294967296) % 4294967296 + x0 * y1) / 4294967296 = (x1 * 4294967296 + x0) * (y1 * 4294967296 + y0) / 18446744073709551616 := by
  have e : (x1 * 4294967296 + x0) * (y1 * 4294967296 + y0) = (x1 * y1) * 18446744073709551616 + (x1 * y0 + x0 * y1) * 4294967296 + x0 * y0 := by
    simp only [Nat.add_mul, Nat.mul_add]
    have a1 : x1 * 4294967296 * (y1 * 4294967296) = x1 * y1 * 18446744073709551616 := by
      rw [Nat.mul_mul_mul_comm]
    have a2 : x1 * 4294967296 * y0 = x1 * y0 * 4294967296 := by rw [Nat.mul_right_comm]
    have a3 : x0 * (y1 * 4294967296) = x0 * y1 * 4294967296 := by rw [Nat.mul_assoc]
    rw [a1, a2, a3]
    omega
  rw [e]
  generalize x1 * y1 = d
  generalize x1 * y0 = b
  generalize x0 * y1 = c
  generalize x0 * y0 = a
  omega
/-- the bounds on the way -/
theorem mul64_bounds (x0 x1 y0 y1 : Nat) (h0 : x0 < 4294967296) (h1 : x1 < 4294967296) (g0 : y0 < 4294967296) (g1 : y1 < 4294967296) :
    x0 * y0 < 18446744073709551616 ∧ x1 * y0 + x0 * y0 / 4294967296 < 18446744073709551616 ∧ (x1 * y0 + x0 * y0 / 4294967296) % 4294967296 + x0 * y1 < 18446744073709551616 := by
  have m : ∀ a b : Nat, a < 4294967296 → b < 4294967296 → a * b ≤ 18446744065119617025 := fun a b ha hb => by
    have := Nat.mul_le_mul (show a ≤ 4294967295 by omega) (show b ≤ 4294967295 by omega)
    omega
  have := m x0 y0 h0 g0
  have := m x1 y0 h1 g0
  have := m x0 y1 h0 g1
  omega
theorem mul64_hi (x y : Nat) (hx : x < 18446744073709551616) (hy : y < 18446744073709551616) :
    x / 4294967296 * (y / 4294967296) + (x / 4294967296 * (y % 4294967296) + x % 4294967296 * (y % 4294967296) / 4294967296) / 4294967296 +
      ((x / 4294967296 * (y % 4294967296) + x % 4294967296 * (y % 4294967296) / 4294967296) % 4294967296 + x % 4294967296 * (y / 4294967296)) / 4294967296 = x * y / 18446744073709551616 := by
  have h := mul64_all (x % 4294967296) (x / 4294967296) (y % 4294967296) (y / 4294967296) (Nat.mod_lt _ (by omega)) (by omega) (Nat.mod_lt _ (by omega)) (by omega)
  rw [h]
  rw [Nat.div_add_mod' x, Nat.div_add_mod' y]

/-- a division in two steps of 32 bits by M -/
theorem div_two (u v M : Nat) (hM : 0 < M) (hv : v < 4294967296) : (u * 4294967296 + v) / M = u / M * 4294967296 + (u % M * 4294967296 + v) / M ∧ (u * 4294967296 + v) % M = (u % M * 4294967296 + v) % M := by
  have e : u * 4294967296 + v = M * (u / M * 4294967296) + (u % M * 4294967296 + v) := by
    have h := Nat.div_add_mod u M
    rw [← Nat.mul_assoc, ← Nat.add_assoc, ← Nat.add_mul, h]
  constructor
  · rw [e, Nat.mul_add_div hM]
  · rw [e, Nat.mul_add_mod]
theorem div_lt (u M : Nat) (hM : 0 < M) (h : u < M * 4294967296) : u / M < 4294967296 := by
  rw [Nat.div_lt_iff_lt_mul hM]
  rw [Nat.mul_comm]; exact h
/-- what is shifted: s bits of it go up -/
theorem shift_up (lo s : Nat) (hs : s ≤ 64) : lo / 2 ^ (64 - s) * 2 ^ 64 + lo * 2 ^ s % 2 ^ 64 = lo * 2 ^ s := by
  have e : (2 : Nat) ^ 64 = 2 ^ (64 - s) * 2 ^ s := by rw [← Nat.pow_add]; congr 1; omega
  have h1 : lo * 2 ^ s / 2 ^ 64 = lo / 2 ^ (64 - s) := by
    rw [e, Nat.mul_div_mul_right _ _ (Nat.two_pow_pos s)]
  rw [← h1]
  exact Nat.div_add_mod' _ _
theorem quo_aux (N U z M d p B : Nat) (hM : 0 < M) (hp : 0 < p) (hB : 0 < B) (hz : z < B) (hall : N * p = U * B + z) (hpw : d * p = M * B) : N / d = U / M ∧ N % d = (U % M * B + z) / p := by
  constructor
  · rw [← Nat.mul_div_mul_right N d hp, hall, hpw, Nat.mul_comm M, ← Nat.div_div_eq_div_mul]
    congr 1
    rw [Nat.mul_comm U, Nat.mul_add_div hB, Nat.div_eq_of_lt hz, Nat.add_zero]
  · rw [← Nat.mul_div_cancel (N % d) hp]
    congr 1
    rw [← Nat.mul_mod_mul_right, hall, hpw]
    have hmd := Nat.div_add_mod U M
    have hlt := Nat.mod_lt U hM
    have e3 : U * B + z = M * B * (U / M) + (U % M * B + z) := by
      have h4 : U * B = (M * (U / M) + U % M) * B := by rw [hmd]
      rw [h4, Nat.add_mul, Nat.mul_right_comm, Nat.add_assoc]
    rw [e3, Nat.mul_add_mod]
    refine Nat.mod_eq_of_lt ?_
    have h5 : U % M * B + B ≤ M * B := by
      have := Nat.mul_le_mul_right B (show U % M + 1 ≤ M from hlt)
      rw [Nat.add_mul, Nat.one_mul] at this
      exact this
    exact Nat.lt_of_lt_of_le (Nat.add_lt_add_left hz _) h5
/-- the quotient by a small number, as math/bits finds it -/
theorem quo_small (hi lo d s : Nat) (hd : 0 < d) (h32 : 32 ≤ s) (hs : s ≤ 64) :
    (hi * 2 ^ s + lo / 2 ^ (64 - s)) / (d * 2 ^ (s - 32)) * 4294967296 + ((hi * 2 ^ s + lo / 2 ^ (64 - s)) % (d * 2 ^ (s - 32)) * 4294967296 + lo * 2 ^ s % 2 ^ 64 / 4294967296) / (d * 2 ^ (s - 32)) = (hi * 2 ^ 64 + lo) / d ∧
      (((hi * 2 ^ s + lo / 2 ^ (64 - s)) % (d * 2 ^ (s - 32)) * 4294967296 + lo * 2 ^ s % 2 ^ 64 / 4294967296) % (d * 2 ^ (s - 32)) * 4294967296 + lo * 2 ^ s % 2 ^ 64 % 4294967296) / 2 ^ s = (hi * 2 ^ 64 + lo) % d := by
  have hM : 0 < d * 2 ^ (s - 32) := Nat.mul_pos hd (Nat.two_pow_pos _)
  have hup := shift_up lo s hs
  have hv : lo * 2 ^ s % 2 ^ 64 / 4294967296 < 4294967296 := by
    have : lo * 2 ^ s % 2 ^ 64 < 2 ^ 64 := Nat.mod_lt _ (Nat.two_pow_pos _)
    rw [Nat.div_lt_iff_lt_mul (by decide)]
    exact this
  have hpw : d * 2 ^ s = d * 2 ^ (s - 32) * 4294967296 := by
    rw [Nat.mul_assoc]
    congr 1
    show 2 ^ s = 2 ^ (s - 32) * 2 ^ 32
    rw [← Nat.pow_add]; congr 1; omega
  obtain ⟨e1, e2⟩ := div_two (hi * 2 ^ s + lo / 2 ^ (64 - s)) (lo * 2 ^ s % 2 ^ 64 / 4294967296) (d * 2 ^ (s - 32)) hM hv
  rw [← e1, ← e2]
  have hw := Nat.div_add_mod' (lo * 2 ^ s % 2 ^ 64) 4294967296
  have hall : (hi * 2 ^ 64 + lo) * 2 ^ s = ((hi * 2 ^ s + lo / 2 ^ (64 - s)) * 4294967296 + lo * 2 ^ s % 2 ^ 64 / 4294967296) * 4294967296 + lo * 2 ^ s % 2 ^ 64 % 4294967296 := by
    rw [Nat.add_mul, Nat.add_mul (_ * 4294967296), Nat.add_assoc _ (_ * 4294967296), hw, Nat.mul_assoc _ 4294967296 4294967296, Nat.add_mul (hi * 2 ^ s)]
    have e64 : (4294967296 : Nat) * 4294967296 = 2 ^ 64 := by decide
    rw [e64, Nat.add_assoc, hup, Nat.mul_right_comm]
  obtain ⟨q1, q2⟩ := quo_aux (hi * 2 ^ 64 + lo) _ _ (d * 2 ^ (s - 32)) d (2 ^ s) 4294967296 hM (Nat.two_pow_pos s) (by decide) (Nat.mod_lt _ (by decide)) hall hpw
  exact ⟨q1.symm, q2.symm⟩
end Go.Proofs.YtldelmmaimbbmaaGreat.wd
