/- The sum of bytes, bit by bit: it is linear; a burst of bits is found. No program is named here. -/
import Derived.Test.YtgofanjbhbeniaaDoorAe32
namespace Go.AE
set_option linter.unusedVariables false
set_option linter.unusedSimpArgs false

def poly : Nat := 3988292384
theorem crcBit_def (r : Nat) : crcBit r = (r >>> 1) ^^^ (if r % 2 = 1 then poly else 0) := by
  unfold crcBit
  have h : Nat.land r 1 = r % 2 := Nat.and_one_is_mod r
  rw [h]
  have : r % 2 = 0 ∨ r % 2 = 1 := by omega
  rcases this with e | e
  · rw [e, if_neg (by omega), Nat.xor_zero]; rfl
  · rw [e, if_pos rfl]; rfl
theorem crcBit_xor (a b : Nat) : crcBit (a ^^^ b) = crcBit a ^^^ crcBit b := by
  rw [crcBit_def, crcBit_def a, crcBit_def b, Nat.shiftRight_xor_distrib]
  have h : (a ^^^ b) % 2 = (a % 2 + b % 2) % 2 := by
    have h1 := Nat.testBit_xor (x := a) (y := b) (i := 0)
    simp only [Nat.testBit_zero] at h1
    have ha : a % 2 = 0 ∨ a % 2 = 1 := by omega
    have hb : b % 2 = 0 ∨ b % 2 = 1 := by omega
    have hc : (a ^^^ b) % 2 = 0 ∨ (a ^^^ b) % 2 = 1 := by omega
    rcases ha with e | e <;> rcases hb with e' | e' <;> rcases hc with e'' | e'' <;> simp_all
  rw [h]
  have ha : a % 2 = 0 ∨ a % 2 = 1 := by omega
  have hb : b % 2 = 0 ∨ b % 2 = 1 := by omega
  rcases ha with e | e <;> rcases hb with e' | e' <;> rw [e, e'] <;> simp
  · rw [Nat.xor_assoc]
  · rw [Nat.xor_assoc, Nat.xor_assoc, Nat.xor_comm poly]
  · rw [Nat.xor_assoc, ← Nat.xor_assoc poly, Nat.xor_comm poly, Nat.xor_assoc, Nat.xor_self, Nat.xor_zero]
theorem crcBit_double (y : Nat) : crcBit (2 * y) = y := by
  rw [crcBit_def, if_neg (by omega), Nat.xor_zero, Nat.shiftRight_eq_div_pow]
  omega
theorem crcBit_zero {r : Nat} (hr : r < 4294967296) (h : crcBit r = 0) : r = 0 := by
  rw [crcBit_def] at h
  by_cases e : r % 2 = 1
  · rw [if_pos e] at h
    have h1 : r >>> 1 = poly := by
      have := congrArg (· ^^^ poly) h
      simpa [Nat.xor_assoc] using this
    rw [Nat.shiftRight_eq_div_pow] at h1
    unfold poly at h1
    omega
  · rw [if_neg e, Nat.xor_zero, Nat.shiftRight_eq_div_pow] at h
    omega

/-- so many steps -/
def steps : Nat → Nat → Nat
  | 0, r => r
  | n + 1, r => steps n (crcBit r)
theorem steps_lt : ∀ (n r : Nat), r < 4294967296 → steps n r < 4294967296
  | 0, r, h => h
  | n + 1, r, h => steps_lt n _ (crcBit_lt h)
theorem steps_zero : ∀ (n r : Nat), r < 4294967296 → steps n r = 0 → r = 0
  | 0, r, _, h => h
  | n + 1, r, hr, h => crcBit_zero hr (steps_zero n _ (crcBit_lt hr) h)
/-- so many bits of a number, the lowest first -/
def crcN : Nat → Nat → Nat → Nat
  | 0, _, r => r
  | n + 1, x, r => crcN n (x / 2) (crcBit (r ^^^ (x % 2)))
theorem low_bit (r x : Nat) : r ^^^ x = (r ^^^ (x % 2)) ^^^ (2 * (x / 2)) := by
  have h : x = (x % 2) ^^^ (2 * (x / 2)) := by
    have h1 : 2 ^ 1 * (x / 2) ||| x % 2 = 2 ^ 1 * (x / 2) + x % 2 := (Nat.two_pow_add_eq_or_of_lt (by omega) _).symm
    have h2 : (x % 2) ^^^ (2 * (x / 2)) = x % 2 + 2 * (x / 2) := by
      apply Nat.eq_of_testBit_eq
      intro i
      have e : x % 2 + 2 * (x / 2) = x := by omega
      rw [e, Nat.testBit_xor]
      cases i with
      | zero =>
        rw [Nat.testBit_zero, Nat.testBit_zero, Nat.testBit_zero]
        have : 2 * (x / 2) % 2 = 0 := by omega
        rw [this]
        have hx : x % 2 = 0 ∨ x % 2 = 1 := by omega
        rcases hx with e | e <;> rw [e] <;> rfl
      | succ i =>
        rw [Nat.testBit_succ, Nat.testBit_succ, Nat.testBit_succ]
        have e1 : x % 2 / 2 = 0 := by omega
        have e2 : 2 * (x / 2) / 2 = x / 2 := by omega
        rw [e1, e2, Nat.zero_testBit, Bool.false_xor]
    rw [h2]; omega
  conv => lhs; rw [h]
  rw [Nat.xor_assoc]
theorem steps_xor : ∀ (n r x : Nat), steps n (r ^^^ x) = crcN n x r ^^^ (x / 2 ^ n)
  | 0, r, x => by simp [steps, crcN]
  | n + 1, r, x => by
    show steps n (crcBit (r ^^^ x)) = crcN n (x / 2) (crcBit (r ^^^ (x % 2))) ^^^ (x / 2 ^ (n + 1))
    rw [low_bit r x, crcBit_xor, crcBit_double, steps_xor n _ (x / 2), Nat.div_div_eq_div_mul, Nat.pow_succ, Nat.mul_comm 2]
theorem crcN_xor : ∀ (n x y r s : Nat), crcN n (x ^^^ y) (r ^^^ s) = crcN n x r ^^^ crcN n y s
  | 0, x, y, r, s => rfl
  | n + 1, x, y, r, s => by
    simp only [crcN]
    have h1 : (x ^^^ y) / 2 = (x / 2) ^^^ (y / 2) := by
      have := Nat.shiftRight_xor_distrib (a := x) (b := y) (i := 1)
      simpa [Nat.shiftRight_eq_div_pow] using this
    have h2 : (x ^^^ y) % 2 = (x % 2) ^^^ (y % 2) := by
      have h := Nat.xor_mod_two_pow (a := x) (b := y) (n := 1)
      simpa using h
    rw [h1, h2]
    have h3 : (r ^^^ s) ^^^ ((x % 2) ^^^ (y % 2)) = (r ^^^ (x % 2)) ^^^ (s ^^^ (y % 2)) := by
      rw [Nat.xor_assoc, Nat.xor_assoc, ← Nat.xor_assoc s, ← Nat.xor_assoc (x % 2), Nat.xor_comm s]
    rw [h3, crcBit_xor, crcN_xor n]
theorem crcN_add : ∀ (a b x r : Nat), crcN (a + b) x r = crcN b (x / 2 ^ a) (crcN a x r)
  | 0, b, x, r => by simp [crcN]
  | a + 1, b, x, r => by
    rw [show a + 1 + b = (a + b) + 1 by omega]
    simp only [crcN]
    rw [crcN_add a b, Nat.div_div_eq_div_mul, Nat.pow_succ, Nat.mul_comm 2]
theorem crcN_zeros : ∀ (b e : Nat), crcN b (e * 2 ^ b) 0 = 0
  | 0, e => rfl
  | b + 1, e => by
    have h1 : e * 2 ^ (b + 1) / 2 = e * 2 ^ b := by rw [Nat.pow_succ, ← Nat.mul_assoc]; omega
    have h2 : e * 2 ^ (b + 1) % 2 = 0 := by rw [Nat.pow_succ, ← Nat.mul_assoc]; omega
    simp only [crcN, h1, h2]
    exact crcN_zeros b e
/-- a burst that leaves the sum as it was is none -/
theorem burst_none (n b e : Nat) (he : e < 4294967296) (hn : b + 32 ≤ n) (h : crcN n (e * 2 ^ b) 0 = 0) : e = 0 := by
  obtain ⟨m, rfl⟩ : ∃ m, n = b + m := ⟨n - b, by omega⟩
  rw [crcN_add, crcN_zeros, Nat.mul_div_cancel _ (Nat.two_pow_pos b)] at h
  have h1 := steps_xor m 0 e
  have h2 : e / 2 ^ m = 0 := Nat.div_eq_of_lt (Nat.lt_of_lt_of_le he (by
    have : (4294967296 : Nat) = 2 ^ 32 := by decide
    rw [this]
    exact Nat.pow_le_pow_right (by omega) (by omega)))
  rw [h, h2, Nat.zero_xor] at h1
  exact steps_zero m e he h1

/-! of lists of bytes -/
def valL : List UInt8 → Nat
  | [] => 0
  | x :: l => x.toNat + 256 * valL l
def crcL : List UInt8 → Nat → Nat
  | [], r => r
  | x :: l, r => crcL l (crcByte r x.toNat)
theorem crcByte_steps (r x : Nat) : crcByte r x = steps 8 (r ^^^ x) := by
  simp only [crcByte, force_eq]
  rfl
theorem crcByte_N (r : Nat) (x : UInt8) : crcByte r x.toNat = crcN 8 x.toNat r := by
  rw [crcByte_steps, steps_xor]
  have : x.toNat / 2 ^ 8 = 0 := Nat.div_eq_of_lt x.toNat_lt
  rw [this, Nat.xor_zero]
theorem crcN_mod : ∀ (n x y r : Nat), x % 2 ^ n = y % 2 ^ n → crcN n x r = crcN n y r
  | 0, x, y, r, _ => rfl
  | n + 1, x, y, r, h => by
    have h1 : x % 2 = y % 2 := by
      have := congrArg (· % 2) h
      simp only [Nat.pow_succ, Nat.mod_mul_left_mod] at this
      exact this
    have h2 : x / 2 % 2 ^ n = y / 2 % 2 ^ n := by
      have := congrArg (· / 2) h
      simp only [Nat.pow_succ, Nat.mod_mul_left_div_self] at this
      exact this
    simp only [crcN, h1]
    exact crcN_mod n _ _ _ h2
theorem crcL_N : ∀ (l : List UInt8) (r : Nat), crcL l r = crcN (8 * l.length) (valL l) r
  | [], r => rfl
  | x :: l, r => by
    have h8 : x.toNat < 2 ^ 8 := x.toNat_lt
    rw [show 8 * (x :: l).length = 8 + 8 * l.length by simp [Nat.mul_add]; omega, crcN_add]
    show crcL l (crcByte r x.toNat) = _
    rw [crcL_N l, crcByte_N]
    have e1 : valL (x :: l) / 2 ^ 8 = valL l := by
      show (x.toNat + 256 * valL l) / 2 ^ 8 = _
      omega
    have e2 : crcN 8 (valL (x :: l)) r = crcN 8 x.toNat r := crcN_mod 8 _ _ r (by
      show (x.toNat + 256 * valL l) % 2 ^ 8 = _
      omega)
    rw [e1, e2]
theorem valL_set : ∀ (l : List UInt8) (i : Nat) (x m : UInt8), l[i]? = some x → valL (l.set i (x ^^^ m)) = valL l ^^^ (m.toNat * 2 ^ (8 * i))
  | [], i, x, m, h => by simp at h
  | y :: l, 0, x, m, h => by
    have : y = x := by simpa using h
    subst this
    show (y ^^^ m).toNat + 256 * valL l = (y.toNat + 256 * valL l) ^^^ (m.toNat * 2 ^ 0)
    rw [UInt8.toNat_xor, Nat.mul_one]
    have h1 : ∀ a : Nat, a < 256 → a + 256 * valL l = (256 * valL l) ||| a := fun a ha => by
      rw [Nat.add_comm]
      exact Nat.two_pow_add_eq_or_of_lt (i := 8) ha (valL l)
    have hy : y.toNat < 256 := y.toNat_lt
    have hm : m.toNat < 256 := m.toNat_lt
    have hx : y.toNat ^^^ m.toNat < 256 := Nat.xor_lt_two_pow (n := 8) hy hm
    rw [h1 _ hx, h1 _ hy]
    apply Nat.eq_of_testBit_eq
    intro j
    rw [Nat.testBit_or, Nat.testBit_xor, Nat.testBit_xor, Nat.testBit_or]
    by_cases hj : j < 8
    · have : Nat.testBit (256 * valL l) j = false := by
        have := Nat.testBit_two_pow_mul (i := 8) (a := valL l) (j := j)
        rw [show (256 : Nat) = 2 ^ 8 by decide, this]
        simp; omega
      rw [this]; simp
    · have e1 : Nat.testBit y.toNat j = false := Nat.testBit_lt_two_pow (Nat.lt_of_lt_of_le hy (by
        have : (256 : Nat) = 2 ^ 8 := by decide
        rw [this]; exact Nat.pow_le_pow_right (by omega) (by omega)))
      have e2 : Nat.testBit m.toNat j = false := Nat.testBit_lt_two_pow (Nat.lt_of_lt_of_le hm (by
        have : (256 : Nat) = 2 ^ 8 := by decide
        rw [this]; exact Nat.pow_le_pow_right (by omega) (by omega)))
      rw [e1, e2]; simp
  | y :: l, i + 1, x, m, h => by
    have ih := valL_set l i x m (by simpa using h)
    show y.toNat + 256 * valL (l.set i (x ^^^ m)) = (y.toNat + 256 * valL l) ^^^ (m.toNat * 2 ^ (8 * (i + 1)))
    rw [ih]
    have hy : y.toNat < 256 := y.toNat_lt
    have h1 : ∀ a : Nat, y.toNat + 256 * a = (256 * a) ||| y.toNat := fun a => by
      rw [Nat.add_comm]
      exact Nat.two_pow_add_eq_or_of_lt (i := 8) hy a
    rw [h1, h1]
    have e : m.toNat * 2 ^ (8 * (i + 1)) = 256 * (m.toNat * 2 ^ (8 * i)) := by
      have h8 : 2 ^ (8 * (i + 1)) = 2 ^ (8 * i) * 256 := by
        rw [show 8 * (i + 1) = 8 * i + 8 by omega, Nat.pow_add]
      rw [h8, ← Nat.mul_assoc, Nat.mul_comm]
    rw [e]
    apply Nat.eq_of_testBit_eq
    intro j
    have t : ∀ a : Nat, Nat.testBit (256 * a) j = (decide (8 ≤ j) && Nat.testBit a (j - 8)) := fun a => by
      have := Nat.testBit_two_pow_mul (i := 8) (a := a) (j := j)
      rw [show (256 : Nat) = 2 ^ 8 by decide, this]
    rw [Nat.testBit_or, Nat.testBit_xor, Nat.testBit_or, t, t, t, Nat.testBit_xor]
    by_cases hj : 8 ≤ j
    · have e1 : Nat.testBit y.toNat j = false := Nat.testBit_lt_two_pow (Nat.lt_of_lt_of_le hy (by
        have : (256 : Nat) = 2 ^ 8 := by decide
        rw [this]; exact Nat.pow_le_pow_right (by omega) hj))
      rw [e1]; simp [hj]
    · simp [hj]
end Go.AE
