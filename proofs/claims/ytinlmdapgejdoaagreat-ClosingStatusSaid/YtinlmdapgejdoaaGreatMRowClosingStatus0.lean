/- A sum is split: the quotient by ten thousand, as the code finds it. -/
import Derived.Test.YtinlmdapgejdoaaGreatRows
import Derived.Test.YtinlmdapgejdoaaGreatAe39
import Derived.Test.YtinlmdapgejdoaaGreatAe0
import Derived.Test.YtinlmdapgejdoaaGreatAe40
section
/- A sum is split: products of 64 by 64 bits, and a number of 128 bits without its sign, as the code finds them. -/
noncomputable section
namespace Go.Proofs.YtinlmdapgejdoaaGreat.sp
open AE
set_option linter.unusedSimpArgs false
set_option linter.unusedVariables false
set_option maxRecDepth 10000

noncomputable def E : Env := Env.of Tryz.prog
theorem hP : lawful Tryz.prog = true := by kernel_rfl
theorem hmix : Tryz.prog.follows .mixedOrders = true := Checked.mixed Tryz.checked
theorem hE : EnvOK Tryz.prog E := env_ok hP

def andU (x y : Int) : Int := wrapA .u64 (.ofNat (Nat.land (modN 18446744073709551616 x) (modN 18446744073709551616 y)))
def shrU (x : Int) (n : Nat) : Int := Int.fdiv x (pow2 n)
def mulU (x y : Int) : Int := wrapA .u64 (Int.mul x y)
def addU (x y : Int) : Int := wrapA .u64 (Int.add x y)
def hiE (x y : Int) : Int :=
  let x0 := andU x 4294967295
  let x1 := shrU x 32
  let y0 := andU y 4294967295
  let y1 := shrU y 32
  let w0 := mulU x0 y0
  let t := addU (mulU x1 y0) (shrU w0 32)
  let w1 := andU t 4294967295
  let w2 := shrU t 32
  let w1 := addU w1 (mulU x0 y1)
  addU (addU (mulU x1 y1) w2) (shrU w1 32)
def mul64A : List Value → AM Value
  | [.int .u64 x, .int .u64 y] => .pure (.tuple ⟨[.int .u64 (hiE x y), .int .u64 (mulU x y)]⟩)
  | _ => .fail
theorem mul64_ev (x y : Int) : evV E (sumsOf []) 100 93 [.int .u64 x, .int .u64 y] = some (.tuple ⟨[.int .u64 (hiE x y), .int .u64 (mulU x y)]⟩) := by kernel_rfl
theorem ints_plain {l : List Value} (h : ∀ v ∈ l, ∃ k n, v = .int k n) : ∀ v ∈ l, Plain v := fun v hv => by
  obtain ⟨k, n, rfl⟩ := h v hv
  exact plain_int k n
theorem told_mul64 : AE.Told Tryz.prog 93 mul64A := by
  refine told_pure hE hmix tolds_nil ?_
  intro args s v s' h
  unfold mul64A at h
  split at h
  · rename_i x y
    cases h
    exact ⟨plain_tuple (ints_plain (by simp)), Less'.refl _, ints_plain (by simp), 100, mul64_ev x y⟩
  · cases h

/-- a product of two numbers with signs -/
def hW (a b : Int) : Int :=
  let h := wrapA .i64 (hiE (wrapA .u64 a) (wrapA .u64 b))
  let h := match ltI a 0 with | true => wrapA .i64 (Int.sub h b) | false => h
  match ltI b 0 with | true => wrapA .i64 (Int.sub h a) | false => h
def lW (a b : Int) : Int := mulU (wrapA .u64 a) (wrapA .u64 b)
def mulWA : List Value → AM Value
  | [.int .i64 a, .int .i64 b] => .pure (.agg ⟨[.int .i64 (hW a b), .int .u64 (lW a b)]⟩)
  | _ => .fail
noncomputable def sigM : List (FuncId × (List Value → AM Value)) := [(93, mul64A)]
theorem tolds_M : Tolds Tryz.prog (sumsOf sigM) := tolds_cons told_mul64 tolds_nil
theorem mulW_ev (a b : Int) : evV E (sumsOf sigM) 100 72 [.int .i64 a, .int .i64 b] = some (.agg ⟨[.int .i64 (hW a b), .int .u64 (lW a b)]⟩) := by
  cases a with
  | ofNat a => cases b with
    | ofNat b => kernel_rfl
    | negSucc b => kernel_rfl
  | negSucc a => cases b with
    | ofNat b => kernel_rfl
    | negSucc b => kernel_rfl
theorem told_mulW : AE.Told Tryz.prog 72 mulWA := by
  refine told_pure hE hmix tolds_M ?_
  intro args s v s' h
  unfold mulWA at h
  split at h
  · rename_i x y
    cases h
    exact ⟨plain_agg (ints_plain (by simp)), Less'.refl _, ints_plain (by simp), 100, mulW_ev x y⟩
  · cases h

/-- a number of 128 bits without its sign -/
def szHi (k lo : Nat) : Nat := Nat.mod (Nat.sub (Nat.sub 18446744073709551616 (modN 18446744073709551616 (.negSucc k))) (match lo with | 0 => 0 | _ + 1 => 1)) 18446744073709551616
def szLo (lo : Nat) : Nat := Nat.mod (Nat.sub 18446744073709551616 lo) 18446744073709551616
def sizeV (h : Int) (lo : Nat) : Value := match h with
  | .ofNat k => .tuple ⟨[.int .u64 (wrapA .u64 (.ofNat k)), .int .u64 (.ofNat lo), .bool false]⟩
  | .negSucc k => .tuple ⟨[.int .u64 (.ofNat (szHi k lo)), .int .u64 (.ofNat (szLo lo)), .bool true]⟩
def sizeA : List Value → AM Value
  | [.agg ⟨[.int .i64 h, .int .u64 (.ofNat lo)]⟩] => .pure (sizeV h lo)
  | _ => .fail
theorem size_ev (h : Int) (lo : Nat) : evV E (sumsOf []) 100 91 [.agg ⟨[.int .i64 h, .int .u64 (.ofNat lo)]⟩] = some (sizeV h lo) := by
  cases h with
  | ofNat k => kernel_rfl
  | negSucc k => cases lo with
    | zero => kernel_rfl
    | succ lo => kernel_rfl
theorem plain_size (h : Int) (lo : Nat) : Plain (sizeV h lo) := by
  cases h with
  | _ => 
    refine plain_tuple fun v hv => ?_
    simp only [List.mem_cons, List.not_mem_nil, or_false] at hv
    rcases hv with rfl | rfl | rfl
    · exact plain_int _ _
    · exact plain_int _ _
    · exact plain_bool _
theorem told_size : AE.Told Tryz.prog 91 sizeA := by
  refine told_pure hE hmix tolds_nil ?_
  intro args s v s' h
  unfold sizeA at h
  split at h
  · rename_i x y
    cases h
    refine ⟨plain_size x y, Less'.refl _, fun v hv => ?_, 100, size_ev x y⟩
    simp only [List.mem_cons, List.not_mem_nil, or_false] at hv
    subst hv
    exact plain_agg (ints_plain (by simp))
  · cases h
/-- noughts ahead of ten thousand -/
def lzA : List Value → AM Value
  | [.int .u64 (.ofNat 10000)] => .pure (.int .i64 (.ofNat 50))
  | _ => .fail
theorem lz_ev : evV E (sumsOf []) 100 119 [.int .u64 (.ofNat 10000)] = some (.int .i64 (.ofNat 50)) := by kernel_rfl
theorem told_lz : AE.Told Tryz.prog 119 lzA := by
  refine told_pure hE hmix tolds_nil ?_
  intro args s v s' h
  unfold lzA at h
  split at h
  · cases h
    exact ⟨plain_int _ _, Less'.refl _, ints_plain (by simp), 100, lz_ev⟩
  · cases h
end Go.Proofs.YtinlmdapgejdoaaGreat.sp
end
end

section
/- Whole numbers of 128 bits by one below 2^32, and products of 64 by 64 bits: the plain laws behind math/bits' Mul64 and Div64. No program is named here. -/
namespace Go.Proofs.YtinlmdapgejdoaaGreat.wd
set_option linter.unusedVariables false

theorem mul64_all (x0 x1 y0 y1 : Nat) (h0 : x0 < 4294967296) (h1 : x1 < 4294967296) (g0 : y0 < 4294967296) (g1 : y1 < 4294967296) :
    x1 * y1 + (x1 * y0 + x0 * y0 / 4294967296) / 4294967296 + ((x1 * y0 + x0 * y0 / 4294967296) % 4294967296 + x0 * y1) / 4294967296 = (x1 * 4294967296 + x0) * (y1 * 4294967296 + y0) / 18446744073709551616 := by
  have e : (x1 * 4294967296 + x0) * (y1 * 4294967296 + y0) = (x1 * y1) * 18446744073709551616 + (x1 * y0 + x0 * y1) * 4294967296 + x0 * y0 := by
    simp only [Nat.add_mul, Nat.mul_add]
    have a1 : x1 * 4294967296 * (y1 * 4294967296) = x1 * y1 * 18446744073709551616 := by
      rw [Nat.mul_mul_mul_comm]
    have a2 : x1 * 4294967296 * y0 = x1 * y0 * 4294967296 := by rw [Nat.mul_right_comm]
    have a3 : x0 * (y1 * 4294967296) = x0 * y1 * 4294967296 := by rw [Nat.mul_assoc]
    rw [a1, a2, a3]
    omega
  rw [e]
  generalize x1 * y1 = d
  generalize x1 * y0 = b
  generalize x0 * y1 = c
  generalize x0 * y0 = a
  omega
/-- the bounds on the way -/
theorem mul64_bounds (x0 x1 y0 y1 : Nat) (h0 : x0 < 4294967296) (h1 : x1 < 4294967296) (g0 : y0 < 4294967296) (g1 : y1 < 4294967296) :
    x0 * y0 < 18446744073709551616 ∧ x1 * y0 + x0 * y0 / 4294967296 < 18446744073709551616 ∧ (x1 * y0 + x0 * y0 / 4294967296) % 4294967296 + x0 * y1 < 18446744073709551616 := by
  have m : ∀ a b : Nat, a < 4294967296 → b < 4294967296 → a * b ≤ 18446744065119617025 := fun a b ha hb => by
    have := Nat.mul_le_mul (show a ≤ 4294967295 by omega) (show b ≤ 4294967295 by omega)
    omega
  have := m x0 y0 h0 g0
  have := m x1 y0 h1 g0
  have := m x0 y1 h0 g1
  omega
theorem mul64_hi (x y : Nat) (hx : x < 18446744073709551616) (hy : y < 18446744073709551616) :
    x / 4294967296 * (y / 4294967296) + (x / 4294967296 * (y % 4294967296) + x % 4294967296 * (y % 4294967296) / 4294967296) / 4294967296 +
      ((x / 4294967296 * (y % 4294967296) + x % 4294967296 * (y % 4294967296) / 4294967296) % 4294967296 + x % 4294967296 * (y / 4294967296)) / 4294967296 = x * y / 18446744073709551616 := by
  have h := mul64_all (x % 4294967296) (x / 4294967296) (y % 4294967296) (y / 4294967296) (Nat.mod_lt _ (by omega)) (by omega) (Nat.mod_lt _ (by omega)) (by omega)
  rw [h]
  rw [Nat.div_add_mod' x, Nat.div_add_mod' y]

/-- a division in two steps of 32 bits by M -/
theorem div_two (u v M : Nat) (hM : 0 < M) (hv : v < 4294967296) : (u * 4294967296 + v) / M = u / M * 4294967296 + (u % M * 4294967296 + v) / M ∧ (u * 4294967296 + v) % M = (u % M * 4294967296 + v) % M := by
  have e : u * 4294967296 + v = M * (u / M * 4294967296) + (u % M * 4294967296 + v) := by
    have h := Nat.div_add_mod u M
    rw [← Nat.mul_assoc, ← Nat.add_assoc, ← Nat.add_mul, h]
  constructor
  · rw [e, Nat.mul_add_div hM]
  · rw [e, Nat.mul_add_mod]
theorem div_lt (u M : Nat) (hM : 0 < M) (h : u < M * 4294967296) : u / M < 4294967296 := by
  rw [Nat.div_lt_iff_lt_mul hM]
  rw [Nat.mul_comm]; exact h
/-- what is shifted: s bits of it go up -/
theorem shift_up (lo s : Nat) (hs : s ≤ 64) : lo / 2 ^ (64 - s) * 2 ^ 64 + lo * 2 ^ s % 2 ^ 64 = lo * 2 ^ s := by
  have e : (2 : Nat) ^ 64 = 2 ^ (64 - s) * 2 ^ s := by rw [← Nat.pow_add]; congr 1; omega
  have h1 : lo * 2 ^ s / 2 ^ 64 = lo / 2 ^ (64 - s) := by
    rw [e, Nat.mul_div_mul_right _ _ (Nat.two_pow_pos s)]
  rw [← h1]
  exact Nat.div_add_mod' _ _
theorem quo_aux (N U z M d p B : Nat) (hM : 0 < M) (hp : 0 < p) (hB : 0 < B) (hz : z < B) (hall : N * p = U * B + z) (hpw : d * p = M * B) : N / d = U / M ∧ N % d = (U % M * B + z) / p := by
  constructor
  · rw [← Nat.mul_div_mul_right N d hp, hall, hpw, Nat.mul_comm M, ← Nat.div_div_eq_div_mul]
    congr 1
    rw [Nat.mul_comm U, Nat.mul_add_div hB, Nat.div_eq_of_lt hz, Nat.add_zero]
  · rw [← Nat.mul_div_cancel (N % d) hp]
    congr 1
    rw [← Nat.mul_mod_mul_right, hall, hpw]
    have hmd := Nat.div_add_mod U M
    have hlt := Nat.mod_lt U hM
    have e3 : U * B + z = M * B * (U / M) + (U % M * B + z) := by
      have h4 : U * B = (M * (U / M) + U % M) * B := by rw [hmd]
      rw [h4, Nat.add_mul, Nat.mul_right_comm, Nat.add_assoc]
    rw [e3, Nat.mul_add_mod]
    refine Nat.mod_eq_of_lt ?_
    have h5 : U % M * B + B ≤ M * B := by
      have := Nat.mul_le_mul_right B (show U % M + 1 ≤ M from hlt)
      rw [Nat.add_mul, Nat.one_mul] at this
      exact this
    exact Nat.lt_of_lt_of_le (Nat.add_lt_add_left hz _) h5
/-- the quotient by a small number, as math/bits finds it -/
theorem quo_small (hi lo d s : Nat) (hd : 0 < d) (h32 : 32 ≤ s) (hs : s ≤ 64) :
    (hi * 2 ^ s + lo / 2 ^ (64 - s)) / (d * 2 ^ (s - 32)) * 4294967296 + ((hi * 2 ^ s + lo / 2 ^ (64 - s)) % (d * 2 ^ (s - 32)) * 4294967296 + lo * 2 ^ s % 2 ^ 64 / 4294967296) / (d * 2 ^ (s - 32)) = (hi * 2 ^ 64 + lo) / d ∧
      (((hi * 2 ^ s + lo / 2 ^ (64 - s)) % (d * 2 ^ (s - 32)) * 4294967296 + lo * 2 ^ s % 2 ^ 64 / 4294967296) % (d * 2 ^ (s - 32)) * 4294967296 + lo * 2 ^ s % 2 ^ 64 % 4294967296) / 2 ^ s = (hi * 2 ^ 64 + lo) % d := by
  have hM : 0 < d * 2 ^ (s - 32) := Nat.mul_pos hd (Nat.two_pow_pos _)
  have hup := shift_up lo s hs
  have hv : lo * 2 ^ s % 2 ^ 64 / 4294967296 < 4294967296 := by
    have : lo * 2 ^ s % 2 ^ 64 < 2 ^ 64 := Nat.mod_lt _ (Nat.two_pow_pos _)
    rw [Nat.div_lt_iff_lt_mul (by decide)]
    exact this
  have hpw : d * 2 ^ s = d * 2 ^ (s - 32) * 4294967296 := by
    rw [Nat.mul_assoc]
    congr 1
    show 2 ^ s = 2 ^ (s - 32) * 2 ^ 32
    rw [← Nat.pow_add]; congr 1; omega
  obtain ⟨e1, e2⟩ := div_two (hi * 2 ^ s + lo / 2 ^ (64 - s)) (lo * 2 ^ s % 2 ^ 64 / 4294967296) (d * 2 ^ (s - 32)) hM hv
  rw [← e1, ← e2]
  have hw := Nat.div_add_mod' (lo * 2 ^ s % 2 ^ 64) 4294967296
  have hall : (hi * 2 ^ 64 + lo) * 2 ^ s = ((hi * 2 ^ s + lo / 2 ^ (64 - s)) * 4294967296 + lo * 2 ^ s % 2 ^ 64 / 4294967296) * 4294967296 + lo * 2 ^ s % 2 ^ 64 % 4294967296 := by
    rw [Nat.add_mul, Nat.add_mul (_ * 4294967296), Nat.add_assoc _ (_ * 4294967296), hw, Nat.mul_assoc _ 4294967296 4294967296, Nat.add_mul (hi * 2 ^ s)]
    have e64 : (4294967296 : Nat) * 4294967296 = 2 ^ 64 := by decide
    rw [e64, Nat.add_assoc, hup, Nat.mul_right_comm]
  obtain ⟨q1, q2⟩ := quo_aux (hi * 2 ^ 64 + lo) _ _ (d * 2 ^ (s - 32)) d (2 ^ s) 4294967296 hM (Nat.two_pow_pos s) (by decide) (Nat.mod_lt _ (by decide)) hall hpw
  exact ⟨q1.symm, q2.symm⟩
end Go.Proofs.YtinlmdapgejdoaaGreat.wd
end

section
/- The numbers on math/bits' way through a quotient by ten thousand. No program is named here. -/
namespace Go.Proofs.YtinlmdapgejdoaaGreat.wd
set_option linter.unusedVariables false
set_option maxRecDepth 10000

theorem sub_mod (a b c M : Int) : (((a % M + b) % M) - c % M) % M = (a + b - c) % M := by
  rw [Int.sub_emod, Int.emod_emod, Int.emod_emod, Int.add_emod, Int.emod_emod, ← Int.add_emod, ← Int.sub_emod]
theorem step_sub (u q r z : Nat) (hu : u = 2621440000 * q + r) (hr : r < 2621440000) (hz : z < 4294967296) :
    ((((u * 4294967296 % 18446744073709551616 + z) % 18446744073709551616 : Nat) : Int) - ((q * 11258999068426240000 % 18446744073709551616 : Nat) : Int)) % 18446744073709551616 = ((r * 4294967296 + z : Nat) : Int) := by
  rw [Int.natCast_emod, Int.natCast_add, Int.natCast_emod, Int.natCast_emod]
  rw [show ((18446744073709551616 : Nat) : Int) = 18446744073709551616 from rfl, sub_mod]
  have e : ((u * 4294967296 : Nat) : Int) + (z : Int) - ((q * 11258999068426240000 : Nat) : Int) = ((r * 4294967296 + z : Nat) : Int) := by
    subst hu
    omega
  rw [e]
  have hb : r * 4294967296 + z < 18446744073709551616 := by omega
  generalize r * 4294967296 + z = x at *
  omega
theorem step_bounds (u q r z : Nat) (hu : u = 2621440000 * q + r) (hr : r < 2621440000) (hz : z < 4294967296) (hb : u < 11258999068426240000) :
    q < 4294967296 ∧ q * 2621440000 % 18446744073709551616 = q * 2621440000 ∧ ((u : Int) - ((q * 2621440000 : Nat) : Int)) % 18446744073709551616 = (r : Int) ∧ 4294967296 * r % 18446744073709551616 = 4294967296 * r ∧
      (4294967296 * r + z) % 18446744073709551616 = 4294967296 * r + z ∧ r * 4294967296 + z < 11258999068426240000 := by
  have h1 : q < 4294967296 := by omega
  refine ⟨h1, ?_, ?_, ?_, ?_, ?_⟩
  · exact Nat.mod_eq_of_lt (by omega)
  · have : (u : Int) - ((q * 2621440000 : Nat) : Int) = (r : Int) := by omega
    rw [this]
    exact Int.emod_eq_of_lt (by omega) (by omega)
  · exact Nat.mod_eq_of_lt (by omega)
  · exact Nat.mod_eq_of_lt (by omega)
  · omega
theorem first (hi lo : Nat) (hhi : hi < 10000) (hlo : lo < 18446744073709551616) :
    hi * 1125899906842624 % 18446744073709551616 = hi * 1125899906842624 ∧ (hi * 1125899906842624 ||| lo / 16384) = hi * 1125899906842624 + lo / 16384 ∧ hi * 1125899906842624 + lo / 16384 < 11258999068426240000 ∧ lo / 16384 < 18446744073709551616 ∧ hi * 1125899906842624 < 18446744073709551616 := by
  have hb : lo / 16384 < 1125899906842624 := by omega
  refine ⟨Nat.mod_eq_of_lt (by omega), ?_, by omega, by omega, by omega⟩
  have hp50 : (2 : Nat) ^ 50 = 1125899906842624 := by decide
  have := Nat.shiftLeft_add_eq_or_of_lt (b := lo / 16384) (i := 50) (by rw [hp50]; exact hb) hi
  rw [Nat.shiftLeft_eq, hp50] at this
  exact this.symm
theorem quo_of (hi lo : Nat) (hhi : hi < 10000) (hlo : lo < 18446744073709551616) :
    (hi * 1125899906842624 + lo / 16384) / 2621440000 * 4294967296 + ((hi * 1125899906842624 + lo / 16384) % 2621440000 * 4294967296 + lo * 1125899906842624 % 18446744073709551616 / 4294967296) / 2621440000 = (hi * 18446744073709551616 + lo) / 10000 ∧
      (((hi * 1125899906842624 + lo / 16384) % 2621440000 * 4294967296 + lo * 1125899906842624 % 18446744073709551616 / 4294967296) % 2621440000 * 4294967296 + lo * 1125899906842624 % 18446744073709551616 % 4294967296) / 1125899906842624 = (hi * 18446744073709551616 + lo) % 10000 := by
  have h := quo_small hi lo 10000 50 (by decide) (by decide) (by decide)
  have e1 : (2 : Nat) ^ 50 = 1125899906842624 := by decide
  have e2 : (2 : Nat) ^ (64 - 50) = 16384 := by decide
  have e3 : 10000 * (2 : Nat) ^ (50 - 32) = 2621440000 := by decide
  have e4 : (2 : Nat) ^ 64 = 18446744073709551616 := by decide
  rw [e1, e2, e3, e4] at h
  exact h
theorem quo_lt (hi lo : Nat) (hhi : hi < 10000) (hlo : lo < 18446744073709551616) : (hi * 18446744073709551616 + lo) / 10000 < 18446744073709551616 := by omega

theorem small_mul (q : Nat) (h : q < 4294967296) : q * 4294967296 % 18446744073709551616 = q * 4294967296 := Nat.mod_eq_of_lt (by omega)
/-- the numbers on the way, each with a name -/
structure Nums (hi lo u w z1 z0 q1 r1 v q0 r0 : Nat) : Prop where
  shl : hi * 1125899906842624 % 18446744073709551616 = hi * 1125899906842624
  bhi : hi * 1125899906842624 < 18446744073709551616
  blo : lo / 16384 < 18446744073709551616
  eo : (hi * 1125899906842624 ||| lo / 16384) = u
  bu : u < 11258999068426240000
  ew : lo * 1125899906842624 % 18446744073709551616 = w
  bw : w < 18446744073709551616
  ez1 : w / 4294967296 = z1
  ez0 : w % 4294967296 = z0
  eq1 : u / 2621440000 = q1
  a1 : q1 < 4294967296
  a2 : q1 * 2621440000 % 18446744073709551616 = q1 * 2621440000
  a3 : ((u : Int) - ((q1 * 2621440000 : Nat) : Int)) % 18446744073709551616 = (r1 : Int)
  a4 : 4294967296 * r1 % 18446744073709551616 = 4294967296 * r1
  a5 : (4294967296 * r1 + z1) % 18446744073709551616 = 4294967296 * r1 + z1
  a6 : ((((u * 4294967296 % 18446744073709551616 + z1) % 18446744073709551616 : Nat) : Int) - ((q1 * 11258999068426240000 % 18446744073709551616 : Nat) : Int)) % 18446744073709551616 = (v : Int)
  bv : v < 11258999068426240000
  eq0 : v / 2621440000 = q0
  c1 : q0 < 4294967296
  c2 : q0 * 2621440000 % 18446744073709551616 = q0 * 2621440000
  c3 : ((v : Int) - ((q0 * 2621440000 : Nat) : Int)) % 18446744073709551616 = (r0 : Int)
  c4 : 4294967296 * r0 % 18446744073709551616 = 4294967296 * r0
  c5 : (4294967296 * r0 + z0) % 18446744073709551616 = 4294967296 * r0 + z0
  c6 : ((((v * 4294967296 % 18446744073709551616 + z0) % 18446744073709551616 : Nat) : Int) - ((q0 * 11258999068426240000 % 18446744073709551616 : Nat) : Int)) % 18446744073709551616 = ((r0 * 4294967296 + z0 : Nat) : Int)
  d1 : q1 * 4294967296 % 18446744073709551616 = q1 * 4294967296
  d2 : (q1 * 4294967296 + q0) % 18446744073709551616 = (hi * 18446744073709551616 + lo) / 10000
  d3 : (r0 * 4294967296 + z0) / 1125899906842624 = (hi * 18446744073709551616 + lo) % 10000
theorem nums (hi lo : Nat) (hhi : hi < 10000) (hlo : lo < 18446744073709551616) : ∃ u w u1 u0 q1 r1 v q0 r0, Nums hi lo u w u1 u0 q1 r1 v q0 r0 := by
  obtain ⟨e1, e2, e3, e4, e5⟩ := first hi lo hhi hlo
  obtain ⟨k1, k2⟩ := quo_of hi lo hhi hlo
  have hlt := quo_lt hi lo hhi hlo
  obtain ⟨u, hu⟩ : ∃ y, hi * 1125899906842624 + lo / 16384 = y := ⟨_, rfl⟩
  rw [hu] at e2 e3 k1 k2
  obtain ⟨w, hw⟩ : ∃ y, lo * 1125899906842624 % 18446744073709551616 = y := ⟨_, rfl⟩
  rw [hw] at k1 k2
  have bw : w < 18446744073709551616 := by rw [← hw]; exact Nat.mod_lt _ (by decide)
  have b1 : w / 4294967296 < 4294967296 := by omega
  have b0 : w % 4294967296 < 4294967296 := Nat.mod_lt _ (by decide)
  have du : u = 2621440000 * (u / 2621440000) + u % 2621440000 := (Nat.div_add_mod u 2621440000).symm
  have ru : u % 2621440000 < 2621440000 := Nat.mod_lt _ (by decide)
  obtain ⟨q1, hq1⟩ : ∃ y, u / 2621440000 = y := ⟨_, rfl⟩
  rw [hq1] at k1 du
  obtain ⟨r1, hr1⟩ : ∃ y, u % 2621440000 = y := ⟨_, rfl⟩
  rw [hr1] at k1 k2 du ru
  obtain ⟨u1, hu1⟩ : ∃ y, w / 4294967296 = y := ⟨_, rfl⟩
  rw [hu1] at k1 k2 b1
  obtain ⟨u0, hu0⟩ : ∃ y, w % 4294967296 = y := ⟨_, rfl⟩
  rw [hu0] at k2 b0
  obtain ⟨a1, a2, a3, a4, a5, a7⟩ := step_bounds u q1 r1 u1 du ru b1 e3
  have a6 := step_sub u q1 r1 u1 du ru b1
  obtain ⟨v, hv⟩ : ∃ y, r1 * 4294967296 + u1 = y := ⟨_, rfl⟩
  rw [hv] at k1 k2 a6 a7
  have dv : v = 2621440000 * (v / 2621440000) + v % 2621440000 := (Nat.div_add_mod v 2621440000).symm
  have rv : v % 2621440000 < 2621440000 := Nat.mod_lt _ (by decide)
  obtain ⟨q0, hq0⟩ : ∃ y, v / 2621440000 = y := ⟨_, rfl⟩
  rw [hq0] at k1 dv
  obtain ⟨r0, hr0⟩ : ∃ y, v % 2621440000 = y := ⟨_, rfl⟩
  rw [hr0] at k2 dv rv
  obtain ⟨c1, c2, c3, c4, c5, c7⟩ := step_bounds v q0 r0 u0 dv rv b0 a7
  have c6 := step_sub v q0 r0 u0 dv rv b0
  refine ⟨u, w, u1, u0, q1, r1, v, q0, r0, ⟨e1, e5, e4, e2, e3, hw, bw, hu1, hu0, hq1, a1, a2, a3, a4, a5, a6, a7, hq0, c1, c2, c3, c4, c5, c6, ?_, ?_, k2⟩⟩
  · exact small_mul q1 a1
  · rw [k1]; exact Nat.mod_eq_of_lt hlt
end Go.Proofs.YtinlmdapgejdoaaGreat.wd
end

section
/- A sum is split: the quotient of 128 bits by ten thousand, as the code finds it. -/
noncomputable section
namespace Go.Proofs.YtinlmdapgejdoaaGreat.sp
open AE
set_option linter.unusedSimpArgs false
set_option linter.unusedVariables false
set_option maxRecDepth 10000

theorem clash_reads (rd b i r : Nat) (seen : List (Nat × Nat × Nat)) : clash rd 0 b (keepLog i r 0 seen) = clash rd 0 b seen := by
  unfold keepLog
  split
  · rfl
  · show (match Nat.beq (Nat.lor (Nat.land 0 (Nat.lor rd 0)) (Nat.land r 0)) 0 with | true => clash rd 0 b seen | false => _) = _
    have h1 : Nat.land 0 (Nat.lor rd 0) = 0 := Nat.zero_and _
    have h2 : Nat.land r 0 = 0 := Nat.and_zero _
    rw [h1, h2]
theorem created_self (n : Nat) : created n n = 0 := by
  unfold created
  rw [beq_iff.2 rfl]
theorem clash_nil (rd wr b : Nat) : clash rd wr b [] = false := rfl
theorem keep_none (i : Nat) (seen : List (Nat × Nat × Nat)) : keepLog i 0 0 seen = seen := rfl
theorem lor_zero (n : Nat) : Nat.lor 0 n = n := Nat.zero_or _
theorem lor_zero' (n : Nat) : Nat.lor n 0 = n := Nat.or_zero _

theorem wU {n : Nat} (h : n < 18446744073709551616) : wrapA .u64 (.ofNat n) = .ofNat n := by
  show Int.ofNat (n % 18446744073709551616) = _
  rw [Nat.mod_eq_of_lt h]
theorem b_mulU {a b c : Nat} (h : a * b % 18446744073709551616 = c) : ∀ E t, binA E .mul t (.int .u64 (.ofNat a)) (.int .u64 (.ofNat b)) = some (.int .u64 (.ofNat c)) := fun E t => by
  subst h; rfl
theorem b_addU {a b c : Nat} (h : (a + b) % 18446744073709551616 = c) : ∀ E t, binA E .add t (.int .u64 (.ofNat a)) (.int .u64 (.ofNat b)) = some (.int .u64 (.ofNat c)) := fun E t => by
  subst h; rfl
theorem modN_int {x : Int} {c : Nat} (h : x % 18446744073709551616 = c) : modN 18446744073709551616 x = c := by
  have := modN_eq 18446744073709551616 (by decide) x
  have h2 : ((18446744073709551616 : Nat) : Int) = 18446744073709551616 := rfl
  rw [h2] at this
  omega
theorem b_subU {a b c : Nat} (h : ((a : Int) - b) % 18446744073709551616 = c) : ∀ E t, binA E .sub t (.int .u64 (.ofNat a)) (.int .u64 (.ofNat b)) = some (.int .u64 (.ofNat c)) := fun E t => by
  have e : modN 18446744073709551616 (Int.sub (.ofNat a) (.ofNat b)) = c := modN_int h
  show some (Value.int .u64 (.ofNat (modN 18446744073709551616 (Int.sub (.ofNat a) (.ofNat b))))) = _
  rw [e]
theorem b_shlU {a b c p : Nat} (hb : b ≤ 64) (hp : 2 ^ b = p) (h : a * p % 18446744073709551616 = c) : ∀ E t k, binA E .shl t (.int .u64 (.ofNat a)) (.int k (.ofNat b)) = some (.int .u64 (.ofNat c)) := fun E t k => by
  subst hp
  subst h
  show some (Value.int .u64 (wrapA .u64 (Int.mul (.ofNat a) (pow2 (minN b 64))))) = _
  rw [minN_eq, Nat.min_eq_left hb]
  rfl
theorem b_shrU {a b c p : Nat} (hb : b ≤ 64) (hp : 2 ^ b = p) (h : a / p = c) : ∀ E t k, binA E .shr t (.int .u64 (.ofNat a)) (.int k (.ofNat b)) = some (.int .u64 (.ofNat c)) := fun E t k => by
  subst hp
  subst h
  show some (Value.int .u64 (Int.fdiv (.ofNat a) (pow2 (minN b 64)))) = _
  rw [minN_eq, Nat.min_eq_left hb]
  show some (Value.int .u64 (Int.fdiv (a : Int) ((2 ^ b : Nat) : Int))) = _
  rw [Int.fdiv_eq_ediv_of_nonneg _ (Int.natCast_nonneg _)]
  rfl
theorem b_andU {a c : Nat} (ha : a < 18446744073709551616) (h : a % 4294967296 = c) : ∀ E t, binA E .and t (.int .u64 (.ofNat a)) (.int .u64 (.ofNat 4294967295)) = some (.int .u64 (.ofNat c)) := fun E t => by
  subst h
  show some (Value.int .u64 (wrapA .u64 (.ofNat (Nat.land (a % 18446744073709551616) (4294967295 % 18446744073709551616))))) = _
  rw [Nat.mod_eq_of_lt ha]
  have e : Nat.land a (4294967295 % 18446744073709551616) = a % 4294967296 := Nat.and_two_pow_sub_one_eq_mod a 32
  rw [e, wU (by omega)]
theorem b_orU {a b c : Nat} (ha : a < 18446744073709551616) (hb : b < 18446744073709551616) (h : a ||| b = c) (hc : c < 18446744073709551616) : ∀ E t, binA E .or t (.int .u64 (.ofNat a)) (.int .u64 (.ofNat b)) = some (.int .u64 (.ofNat c)) := fun E t => by
  show some (Value.int .u64 (wrapA .u64 (.ofNat (Nat.lor (a % 18446744073709551616) (b % 18446744073709551616))))) = _
  rw [Nat.mod_eq_of_lt ha, Nat.mod_eq_of_lt hb]
  have e : Nat.lor a b = c := h
  rw [e, wU hc]
theorem b_quoU {a b c : Nat} (h : a / (b + 1) = c) (ha : a < 18446744073709551616) : ∀ E t, binA E .quo t (.int .u64 (.ofNat a)) (.int .u64 (.ofNat (b + 1))) = some (.int .u64 (.ofNat c)) := fun E t => by
  subst h
  show some (Value.int .u64 (wrapA .u64 (.ofNat (a / (b + 1))))) = _
  rw [wU]
  exact Nat.lt_of_le_of_lt (Nat.div_le_self _ _) ha
theorem b_remU {a b c : Nat} (h : a % (b + 1) = c) : ∀ E t, binA E .rem t (.int .u64 (.ofNat a)) (.int .u64 (.ofNat (b + 1))) = some (.int .u64 (.ofNat c)) := fun E t => by
  subst h
  rfl
theorem b_eqlU (a b : Nat) : ∀ E t, binA E .eql t (.int .u64 (.ofNat a)) (.int .u64 (.ofNat b)) = some (.bool (decide (a = b))) := fun E t => by
  show some (Value.bool (eqI (.ofNat a) (.ofNat b))) = _
  rw [eqI_eq]
  simp
  omega
theorem b_leqU (a b : Nat) : ∀ E t, binA E .leq t (.int .u64 (.ofNat a)) (.int .u64 (.ofNat b)) = some (.bool (decide (a ≤ b))) := fun E t => by
  show some (Value.bool (not (ltI (.ofNat b) (.ofNat a)))) = _
  rw [ltI_not]
  simp
theorem b_geqU (a b : Nat) : ∀ E t, binA E .geq t (.int .u64 (.ofNat a)) (.int .u64 (.ofNat b)) = some (.bool (decide (b ≤ a))) := fun E t => by
  show some (Value.bool (not (ltI (.ofNat a) (.ofNat b)))) = _
  rw [ltI_not]
  simp
theorem b_gtrU (a b : Nat) : ∀ E t, binA E .gtr t (.int .u64 (.ofNat a)) (.int .u64 (.ofNat b)) = some (.bool (decide (b < a))) := fun E t => by
  show some (Value.bool (ltI (.ofNat b) (.ofNat a))) = _
  rw [ltI_eq]
  simp
theorem intLit (n : Nat) : (OfNat.ofNat n : Int) = Int.ofNat n := rfl

def div64A : List Value → AM Value
  | [.int .u64 (.ofNat hi), .int .u64 (.ofNat lo), .int .u64 (.ofNat d)] => when (Nat.beq d 10000 && Nat.blt hi 10000 && Nat.blt lo 18446744073709551616)
      (.pure (.tuple ⟨[.int .u64 (.ofNat ((hi * 18446744073709551616 + lo) / 10000)), .int .u64 (.ofNat ((hi * 18446744073709551616 + lo) % 10000))]⟩))
  | _ => .fail
noncomputable def fiD : FI := FI.of Tryz.f92
noncomputable def cdD : Code := bodyOf Tryz.f92
theorem resD : fiD.results = [.tmp 6, .tmp 7] := rfl
noncomputable def sigD : List (FuncId × (List Value → AM Value)) := [(119, lzA)]
theorem tolds_D : Tolds Tryz.prog (sumsOf sigD) := tolds_cons told_lz tolds_nil
theorem suD : sumsOf sigD 119 = some lzA := rfl
theorem tgt {f : FuncId} {fi : FI} {c : Code} (hf : E.fn.get f = some fi) (hb : fi.body = some c) : ∀ a b, targetA E (.func f) a b = .pure (.enter f (b ++ a)) := by
  intro a b
  simp only [targetA, hf, opt, hb]
noncomputable def fiLz : FI := FI.of Tryz.f119
noncomputable def cdLz : Code := bodyOf Tryz.f119
theorem tgD : ∀ a b, targetA E (.func 119) a b = .pure (.enter 119 (b ++ a)) := tgt (fi := fiLz) (c := cdLz) (by kernel_rfl) (by kernel_rfl)
theorem seen_heap (s : S) (n : Nat) : (s.seen n).heap = s.heap := rfl
theorem seen_next (s : S) (n : Nat) : (s.seen n).next = s.next := rfl
theorem seen_mark (s : S) (n : Nat) : (s.seen n).mark = s.mark := rfl
theorem agg_cells (cs : List Value) : (Value.agg ⟨cs⟩).cells.toList = cs := rfl
theorem int_cells (k : IntKind) (n : Int) : (Value.int k n).cells.toList = [.int k n] := rfl
noncomputable def tiU64 : TI := TI.of Tryz.prog 94
theorem tyU64 : E.ty.get 94 = some tiU64 := by kernel_rfl
theorem dsU64 : tiU64.desc = .int .u64 := by kernel_rfl
noncomputable def tiUn : TI := TI.of Tryz.prog 81
theorem tyUn : E.ty.get 81 = some tiUn := by kernel_rfl
theorem dsUn : tiUn.desc = .int .u64 := by kernel_rfl
noncomputable def tiI : TI := TI.of Tryz.prog 3
theorem tyI : E.ty.get 3 = some tiI := by kernel_rfl
theorem dsI : tiI.desc = .int .i64 := by kernel_rfl
theorem lz_run (s : S) : (lzA [.int .u64 (.ofNat 10000)]).run s = some (.int .i64 (.ofNat 50), s) := rfl

set_option maxHeartbeats 4000000 in
theorem walk_small (vhi vlo vd vQ vR : Value) (e1 : ∀ E t, binA E .eql t vd (.int .u64 0) = some (.bool false)) (e2 : ∀ E t, binA E .leq t vd vhi = some (.bool false)) (e3 : ∀ E t, binA E .eql t vhi (.int .u64 0) = some (.bool true))
    (f1 : ∀ E t, binA E .quo t vlo vd = some vQ) (f2 : ∀ E t, binA E .rem t vlo vd = some vR) (s : S) :
    ∃ v1 s1, (v1 = .tuple ⟨[vQ, vR]⟩ ∧ Less' s1 s) ∧ ∃ n0, ∀ n, n0 ≤ n → evNext (evT E (sumsOf sigD) n) E (.enter 92 [vhi, vlo, vd]) s = some (.val v1, s1) := by
  refine go_enter (fi := fiD) (c := cdD) (by kernel_rfl) (by kernel_rfl) 135 rfl rfl ?_
  simp only [cdD, Tryz.f92, bodyOf]
  have h0 : (Tr.ofList [vhi, vlo, vd]).get 0 = some vhi := rfl
  have h1 : (Tr.ofList [vhi, vlo, vd]).get 1 = some vlo := rfl
  have h2 : (Tr.ofList [vhi, vlo, vd]).get 2 = some vd := rfl
  generalize Tr.ofList [vhi, vlo, vd] = t at *
  repeat apply go_seq
  apply go_region
  case h => intro m; simp (maxSteps := 2000000) (disch := decide) only [opsLoop, evOper, wantedA, nth, aop, aPick, aBin, aIndexAddr, aFieldAddr, aLoad, aStore, aExtract, aConvert, aAlloc, aBox, aIndex, callA, builtinA, Fr.evs, opt, val, when, AM.run, outV, newA, ptr, force_eq, seen_heap, seen_next, seen_mark, seen_seen, agg_cells, int_cells, Fr.ev, Fr.put, onFr, gps, gpn, bltT, still, flat, List.append_nil, List.nil_append, List.cons_append, Nat.reduceEqDiff, ne_eq, not_false_eq_true, reduceCtorEq, Bool.and_true, Bool.true_and, Bool.and_false, Bool.false_and, Bool.not_true, Bool.not_false, Bool.and_self]; rfl
  repeat apply go_seq
  apply go_region
  case h => intro m; simp (maxSteps := 2000000) (disch := decide) only [opsLoop, evOper, wantedA, nth, aop, aPick, aBin, aIndexAddr, aFieldAddr, aLoad, aStore, aExtract, aConvert, aAlloc, aBox, aIndex, callA, builtinA, Fr.evs, opt, val, when, AM.run, outV, newA, ptr, force_eq, seen_heap, seen_next, seen_mark, seen_seen, agg_cells, int_cells, Fr.ev, Fr.put, onFr, gps, gpn, bltT, still, flat, List.append_nil, List.nil_append, List.cons_append, Nat.reduceEqDiff, ne_eq, not_false_eq_true, reduceCtorEq, Bool.and_true, Bool.true_and, Bool.and_false, Bool.false_and, Bool.not_true, Bool.not_false, Bool.and_self, h2, e1]; rfl
  repeat apply go_seq
  apply go_cond
  case hc => simp (disch := decide) only [opsLoop, evOper, wantedA, nth, aop, aPick, aBin, aIndexAddr, aFieldAddr, aLoad, aStore, aExtract, aConvert, aAlloc, aBox, aIndex, callA, builtinA, Fr.evs, opt, val, when, AM.run, outV, newA, ptr, force_eq, seen_heap, seen_next, seen_mark, seen_seen, agg_cells, int_cells, Fr.ev, Fr.put, onFr, gps, gpn, bltT, still, flat, List.append_nil, List.nil_append, List.cons_append, Nat.reduceEqDiff, ne_eq, not_false_eq_true, reduceCtorEq, Bool.and_true, Bool.true_and, Bool.and_false, Bool.false_and, Bool.not_true, Bool.not_false, Bool.and_self]; rfl
  case h1 => intro h; cases h
  intro _
  apply go_skip
  repeat apply go_seq
  apply go_region
  case h => intro m; simp (maxSteps := 2000000) (disch := decide) only [opsLoop, evOper, wantedA, nth, aop, aPick, aBin, aIndexAddr, aFieldAddr, aLoad, aStore, aExtract, aConvert, aAlloc, aBox, aIndex, callA, builtinA, Fr.evs, opt, val, when, AM.run, outV, newA, ptr, force_eq, seen_heap, seen_next, seen_mark, seen_seen, agg_cells, int_cells, Fr.ev, Fr.put, onFr, gps, gpn, bltT, still, flat, List.append_nil, List.nil_append, List.cons_append, Nat.reduceEqDiff, ne_eq, not_false_eq_true, reduceCtorEq, Bool.and_true, Bool.true_and, Bool.and_false, Bool.false_and, Bool.not_true, Bool.not_false, Bool.and_self, h0, h2, e2]; rfl
  repeat apply go_seq
  apply go_cond
  case hc => simp (disch := decide) only [opsLoop, evOper, wantedA, nth, aop, aPick, aBin, aIndexAddr, aFieldAddr, aLoad, aStore, aExtract, aConvert, aAlloc, aBox, aIndex, callA, builtinA, Fr.evs, opt, val, when, AM.run, outV, newA, ptr, force_eq, seen_heap, seen_next, seen_mark, seen_seen, agg_cells, int_cells, Fr.ev, Fr.put, onFr, gps, gpn, bltT, still, flat, List.append_nil, List.nil_append, List.cons_append, Nat.reduceEqDiff, ne_eq, not_false_eq_true, reduceCtorEq, Bool.and_true, Bool.true_and, Bool.and_false, Bool.false_and, Bool.not_true, Bool.not_false, Bool.and_self]; rfl
  case h1 => intro h; cases h
  intro _
  apply go_skip
  repeat apply go_seq
  apply go_region
  case h => intro m; simp (maxSteps := 2000000) (disch := decide) only [opsLoop, evOper, wantedA, nth, aop, aPick, aBin, aIndexAddr, aFieldAddr, aLoad, aStore, aExtract, aConvert, aAlloc, aBox, aIndex, callA, builtinA, Fr.evs, opt, val, when, AM.run, outV, newA, ptr, force_eq, seen_heap, seen_next, seen_mark, seen_seen, agg_cells, int_cells, Fr.ev, Fr.put, onFr, gps, gpn, bltT, still, flat, List.append_nil, List.nil_append, List.cons_append, Nat.reduceEqDiff, ne_eq, not_false_eq_true, reduceCtorEq, Bool.and_true, Bool.true_and, Bool.and_false, Bool.false_and, Bool.not_true, Bool.not_false, Bool.and_self, h0, e3]; rfl
  repeat apply go_seq
  apply go_cond
  case hc => simp (disch := decide) only [opsLoop, evOper, wantedA, nth, aop, aPick, aBin, aIndexAddr, aFieldAddr, aLoad, aStore, aExtract, aConvert, aAlloc, aBox, aIndex, callA, builtinA, Fr.evs, opt, val, when, AM.run, outV, newA, ptr, force_eq, seen_heap, seen_next, seen_mark, seen_seen, agg_cells, int_cells, Fr.ev, Fr.put, onFr, gps, gpn, bltT, still, flat, List.append_nil, List.nil_append, List.cons_append, Nat.reduceEqDiff, ne_eq, not_false_eq_true, reduceCtorEq, Bool.and_true, Bool.true_and, Bool.and_false, Bool.false_and, Bool.not_true, Bool.not_false, Bool.and_self]; rfl
  case h2 => intro h; cases h
  intro _
  repeat apply go_seq
  apply go_drawn
  case hs => rfl
  case h => intro m; simp (maxSteps := 2000000) (disch := decide) only [opsLoop, evOper, wantedA, nth, aop, aPick, aBin, aIndexAddr, aFieldAddr, aLoad, aStore, aExtract, aConvert, aAlloc, aBox, aIndex, callA, builtinA, Fr.evs, opt, val, when, AM.run, outV, newA, ptr, force_eq, seen_heap, seen_next, seen_mark, seen_seen, agg_cells, int_cells, Fr.ev, Fr.put, onFr, gps, gpn, bltT, still, flat, List.append_nil, List.nil_append, List.cons_append, Nat.reduceEqDiff, ne_eq, not_false_eq_true, reduceCtorEq, Bool.and_true, Bool.true_and, Bool.and_false, Bool.false_and, Bool.not_true, Bool.not_false, Bool.and_self, drawnLoop, force_eq, S.seen, keep_none, clash_nil, clash_reads, created_self, lor_zero, lor_zero', h1, h2, f1, f2]; rfl
  repeat apply go_seq
  apply go_ret
  apply ret_intro rfl rfl
  case run => simp (disch := decide) only [resultsM, resultsA, resD, opsLoop, evOper, wantedA, nth, aop, aPick, aBin, aIndexAddr, aFieldAddr, aLoad, aStore, aExtract, aConvert, aAlloc, aBox, aIndex, callA, builtinA, Fr.evs, opt, val, when, AM.run, outV, newA, ptr, force_eq, seen_heap, seen_next, seen_mark, seen_seen, agg_cells, int_cells, Fr.ev, Fr.put, onFr, gps, gpn, bltT, still, flat, List.append_nil, List.nil_append, List.cons_append, Nat.reduceEqDiff, ne_eq, not_false_eq_true, reduceCtorEq, Bool.and_true, Bool.true_and, Bool.and_false, Bool.false_and, Bool.not_true, Bool.not_false, Bool.and_self]; rfl
  exact ⟨rfl, Nat.le_refl _, fun m o ho => ⟨o, ho, .refl o⟩⟩
set_option maxHeartbeats 4000000 in
/-- the way through the text, whatever the numbers -/
theorem walk_big (vd vhi vs vy vn1 vn0 x1 vt vlo x2 vu vw vu1 vu0 vq1 x3 vr1 x4 x5 x6 x7 x8 x9 vv vq0 x10 vr0 x11 x12 x13 x14 vQ x15 x16 x17 x18 vR : Value) (e1 : ∀ E t, binA E .eql t vd (.int .u64 0) = some (.bool false))
    (e2 : ∀ E t, binA E .leq t vd vhi = some (.bool false))
    (e3 : ∀ E t, binA E .eql t vhi (.int .u64 0) = some (.bool false))
    (f3 : ∀ E t, binA E .shl t vd vs = some vy)
    (f4 : ∀ E t k, binA E .shr t vy (.int k 32) = some vn1)
    (f5 : ∀ E t, binA E .and t vy (.int .u64 4294967295) = some vn0)
    (f6 : ∀ E t, binA E .shl t vhi vs = some x1)
    (f7 : ∀ E t, binA E .sub t (.int .u64 64) vs = some vt)
    (f8 : ∀ E t, binA E .shr t vlo vt = some x2)
    (f9 : ∀ E t, binA E .or t x1 x2 = some vu)
    (g1 : ∀ E t, binA E .shl t vlo vs = some vw)
    (g2 : ∀ E t k, binA E .shr t vw (.int k 32) = some vu1)
    (g3 : ∀ E t, binA E .and t vw (.int .u64 4294967295) = some vu0)
    (g4 : ∀ E t, binA E .quo t vu vn1 = some vq1)
    (g5 : ∀ E t, binA E .mul t vq1 vn1 = some x3)
    (g6 : ∀ E t, binA E .sub t vu x3 = some vr1)
    (g7 : ∀ E t, binA E .geq t vq1 (.int .u64 4294967296) = some (.bool false))
    (g8 : ∀ E t, binA E .mul t vq1 vn0 = some x4)
    (g9 : ∀ E t, binA E .mul t (.int .u64 4294967296) vr1 = some x5)
    (k1 : ∀ E t, binA E .add t x5 vu1 = some x6)
    (k2 : ∀ E t, binA E .gtr t x4 x6 = some (.bool false))
    (k3 : ∀ E t, binA E .mul t vu (.int .u64 4294967296) = some x7)
    (k4 : ∀ E t, binA E .add t x7 vu1 = some x8)
    (k5 : ∀ E t, binA E .mul t vq1 vy = some x9)
    (k6 : ∀ E t, binA E .sub t x8 x9 = some vv)
    (k7 : ∀ E t, binA E .quo t vv vn1 = some vq0)
    (k8 : ∀ E t, binA E .mul t vq0 vn1 = some x10)
    (k9 : ∀ E t, binA E .sub t vv x10 = some vr0)
    (l1 : ∀ E t, binA E .geq t vq0 (.int .u64 4294967296) = some (.bool false))
    (l2 : ∀ E t, binA E .mul t vq0 vn0 = some x11)
    (l3 : ∀ E t, binA E .mul t (.int .u64 4294967296) vr0 = some x12)
    (l4 : ∀ E t, binA E .add t x12 vu0 = some x13)
    (l5 : ∀ E t, binA E .gtr t x11 x13 = some (.bool false))
    (l6 : ∀ E t, binA E .mul t vq1 (.int .u64 4294967296) = some x14)
    (l7 : ∀ E t, binA E .add t x14 vq0 = some vQ)
    (l8 : ∀ E t, binA E .mul t vv (.int .u64 4294967296) = some x15)
    (l9 : ∀ E t, binA E .add t x15 vu0 = some x16)
    (m1 : ∀ E t, binA E .mul t vq0 vy = some x17)
    (m2 : ∀ E t, binA E .sub t x16 x17 = some x18)
    (m3 : ∀ E t, binA E .shr t x18 vs = some vR)
    (hlz : ∀ s, (lzA [vd]).run s = some (.int .i64 (.ofNat 50), s)) (hs : vs = .int .u64 (.ofNat 50)) (s : S) :
    ∃ v1 s1, (v1 = .tuple ⟨[vQ, vR]⟩ ∧ Less' s1 s) ∧ ∃ n0, ∀ n, n0 ≤ n → evNext (evT E (sumsOf sigD) n) E (.enter 92 [vhi, vlo, vd]) s = some (.val v1, s1) := by
  refine go_enter (fi := fiD) (c := cdD) (by kernel_rfl) (by kernel_rfl) 135 rfl rfl ?_
  simp only [cdD, Tryz.f92, bodyOf]
  have h0 : (Tr.ofList [vhi, vlo, vd]).get 0 = some vhi := rfl
  have h1 : (Tr.ofList [vhi, vlo, vd]).get 1 = some vlo := rfl
  have h2 : (Tr.ofList [vhi, vlo, vd]).get 2 = some vd := rfl
  generalize Tr.ofList [vhi, vlo, vd] = t at *
  have fc : Value.int .u64 (wrapA .u64 (.ofNat 50)) = vs := hs.symm
  repeat apply go_seq
  apply go_region
  case h => intro m; simp (maxSteps := 2000000) (disch := decide) only [opsLoop, evOper, wantedA, nth, aop, aPick, aBin, aIndexAddr, aFieldAddr, aLoad, aStore, aExtract, aConvert, aAlloc, aBox, aIndex, callA, builtinA, Fr.evs, opt, val, when, AM.run, outV, newA, ptr, force_eq, seen_heap, seen_next, seen_mark, seen_seen, agg_cells, int_cells, Fr.ev, Fr.put, onFr, gps, gpn, bltT, still, flat, List.append_nil, List.nil_append, List.cons_append, Nat.reduceEqDiff, ne_eq, not_false_eq_true, reduceCtorEq, Bool.and_true, Bool.true_and, Bool.and_false, Bool.false_and, Bool.not_true, Bool.not_false, Bool.and_self]; rfl
  repeat apply go_seq
  apply go_region
  case h => intro m; simp (maxSteps := 2000000) (disch := decide) only [opsLoop, evOper, wantedA, nth, aop, aPick, aBin, aIndexAddr, aFieldAddr, aLoad, aStore, aExtract, aConvert, aAlloc, aBox, aIndex, callA, builtinA, Fr.evs, opt, val, when, AM.run, outV, newA, ptr, force_eq, seen_heap, seen_next, seen_mark, seen_seen, agg_cells, int_cells, Fr.ev, Fr.put, onFr, gps, gpn, bltT, still, flat, List.append_nil, List.nil_append, List.cons_append, Nat.reduceEqDiff, ne_eq, not_false_eq_true, reduceCtorEq, Bool.and_true, Bool.true_and, Bool.and_false, Bool.false_and, Bool.not_true, Bool.not_false, Bool.and_self, h2, e1]; rfl
  repeat apply go_seq
  apply go_cond
  case hc => simp (disch := decide) only [opsLoop, evOper, wantedA, nth, aop, aPick, aBin, aIndexAddr, aFieldAddr, aLoad, aStore, aExtract, aConvert, aAlloc, aBox, aIndex, callA, builtinA, Fr.evs, opt, val, when, AM.run, outV, newA, ptr, force_eq, seen_heap, seen_next, seen_mark, seen_seen, agg_cells, int_cells, Fr.ev, Fr.put, onFr, gps, gpn, bltT, still, flat, List.append_nil, List.nil_append, List.cons_append, Nat.reduceEqDiff, ne_eq, not_false_eq_true, reduceCtorEq, Bool.and_true, Bool.true_and, Bool.and_false, Bool.false_and, Bool.not_true, Bool.not_false, Bool.and_self]; rfl
  case h1 => intro h; cases h
  intro _
  apply go_skip
  repeat apply go_seq
  apply go_region
  case h => intro m; simp (maxSteps := 2000000) (disch := decide) only [opsLoop, evOper, wantedA, nth, aop, aPick, aBin, aIndexAddr, aFieldAddr, aLoad, aStore, aExtract, aConvert, aAlloc, aBox, aIndex, callA, builtinA, Fr.evs, opt, val, when, AM.run, outV, newA, ptr, force_eq, seen_heap, seen_next, seen_mark, seen_seen, agg_cells, int_cells, Fr.ev, Fr.put, onFr, gps, gpn, bltT, still, flat, List.append_nil, List.nil_append, List.cons_append, Nat.reduceEqDiff, ne_eq, not_false_eq_true, reduceCtorEq, Bool.and_true, Bool.true_and, Bool.and_false, Bool.false_and, Bool.not_true, Bool.not_false, Bool.and_self, h0, h2, e2]; rfl
  repeat apply go_seq
  apply go_cond
  case hc => simp (disch := decide) only [opsLoop, evOper, wantedA, nth, aop, aPick, aBin, aIndexAddr, aFieldAddr, aLoad, aStore, aExtract, aConvert, aAlloc, aBox, aIndex, callA, builtinA, Fr.evs, opt, val, when, AM.run, outV, newA, ptr, force_eq, seen_heap, seen_next, seen_mark, seen_seen, agg_cells, int_cells, Fr.ev, Fr.put, onFr, gps, gpn, bltT, still, flat, List.append_nil, List.nil_append, List.cons_append, Nat.reduceEqDiff, ne_eq, not_false_eq_true, reduceCtorEq, Bool.and_true, Bool.true_and, Bool.and_false, Bool.false_and, Bool.not_true, Bool.not_false, Bool.and_self]; rfl
  case h1 => intro h; cases h
  intro _
  apply go_skip
  repeat apply go_seq
  apply go_region
  case h => intro m; simp (maxSteps := 2000000) (disch := decide) only [opsLoop, evOper, wantedA, nth, aop, aPick, aBin, aIndexAddr, aFieldAddr, aLoad, aStore, aExtract, aConvert, aAlloc, aBox, aIndex, callA, builtinA, Fr.evs, opt, val, when, AM.run, outV, newA, ptr, force_eq, seen_heap, seen_next, seen_mark, seen_seen, agg_cells, int_cells, Fr.ev, Fr.put, onFr, gps, gpn, bltT, still, flat, List.append_nil, List.nil_append, List.cons_append, Nat.reduceEqDiff, ne_eq, not_false_eq_true, reduceCtorEq, Bool.and_true, Bool.true_and, Bool.and_false, Bool.false_and, Bool.not_true, Bool.not_false, Bool.and_self, h0, e3]; rfl
  repeat apply go_seq
  apply go_cond
  case hc => simp (disch := decide) only [opsLoop, evOper, wantedA, nth, aop, aPick, aBin, aIndexAddr, aFieldAddr, aLoad, aStore, aExtract, aConvert, aAlloc, aBox, aIndex, callA, builtinA, Fr.evs, opt, val, when, AM.run, outV, newA, ptr, force_eq, seen_heap, seen_next, seen_mark, seen_seen, agg_cells, int_cells, Fr.ev, Fr.put, onFr, gps, gpn, bltT, still, flat, List.append_nil, List.nil_append, List.cons_append, Nat.reduceEqDiff, ne_eq, not_false_eq_true, reduceCtorEq, Bool.and_true, Bool.true_and, Bool.and_false, Bool.false_and, Bool.not_true, Bool.not_false, Bool.and_self]; rfl
  case h1 => intro h; cases h
  intro _
  apply go_skip
  repeat apply go_seq
  apply go_region
  case h => intro m; simp (maxSteps := 2000000) (disch := decide) only [opsLoop, evOper, wantedA, nth, aop, aPick, aBin, aIndexAddr, aFieldAddr, aLoad, aStore, aExtract, aConvert, aAlloc, aBox, aIndex, callA, builtinA, Fr.evs, opt, val, when, AM.run, outV, newA, ptr, force_eq, seen_heap, seen_next, seen_mark, seen_seen, agg_cells, int_cells, Fr.ev, Fr.put, onFr, gps, gpn, bltT, still, flat, List.append_nil, List.nil_append, List.cons_append, Nat.reduceEqDiff, ne_eq, not_false_eq_true, reduceCtorEq, Bool.and_true, Bool.true_and, Bool.and_false, Bool.false_and, Bool.not_true, Bool.not_false, Bool.and_self, h2, tgD, evT_told suD, hlz, tyI, tyUn, dsI, dsUn, fc]; rfl
  repeat apply go_seq
  apply go_region
  case h => intro m; simp (maxSteps := 2000000) (disch := decide) only [opsLoop, evOper, wantedA, nth, aop, aPick, aBin, aIndexAddr, aFieldAddr, aLoad, aStore, aExtract, aConvert, aAlloc, aBox, aIndex, callA, builtinA, Fr.evs, opt, val, when, AM.run, outV, newA, ptr, force_eq, seen_heap, seen_next, seen_mark, seen_seen, agg_cells, int_cells, Fr.ev, Fr.put, onFr, gps, gpn, bltT, still, flat, List.append_nil, List.nil_append, List.cons_append, Nat.reduceEqDiff, ne_eq, not_false_eq_true, reduceCtorEq, Bool.and_true, Bool.true_and, Bool.and_false, Bool.false_and, Bool.not_true, Bool.not_false, Bool.and_self, h2, f3]; rfl
  repeat apply go_seq
  apply go_region
  case h => intro m; simp (maxSteps := 2000000) (disch := decide) only [opsLoop, evOper, wantedA, nth, aop, aPick, aBin, aIndexAddr, aFieldAddr, aLoad, aStore, aExtract, aConvert, aAlloc, aBox, aIndex, callA, builtinA, Fr.evs, opt, val, when, AM.run, outV, newA, ptr, force_eq, seen_heap, seen_next, seen_mark, seen_seen, agg_cells, int_cells, Fr.ev, Fr.put, onFr, gps, gpn, bltT, still, flat, List.append_nil, List.nil_append, List.cons_append, Nat.reduceEqDiff, ne_eq, not_false_eq_true, reduceCtorEq, Bool.and_true, Bool.true_and, Bool.and_false, Bool.false_and, Bool.not_true, Bool.not_false, Bool.and_self, f4]; rfl
  repeat apply go_seq
  apply go_region
  case h => intro m; simp (maxSteps := 2000000) (disch := decide) only [opsLoop, evOper, wantedA, nth, aop, aPick, aBin, aIndexAddr, aFieldAddr, aLoad, aStore, aExtract, aConvert, aAlloc, aBox, aIndex, callA, builtinA, Fr.evs, opt, val, when, AM.run, outV, newA, ptr, force_eq, seen_heap, seen_next, seen_mark, seen_seen, agg_cells, int_cells, Fr.ev, Fr.put, onFr, gps, gpn, bltT, still, flat, List.append_nil, List.nil_append, List.cons_append, Nat.reduceEqDiff, ne_eq, not_false_eq_true, reduceCtorEq, Bool.and_true, Bool.true_and, Bool.and_false, Bool.false_and, Bool.not_true, Bool.not_false, Bool.and_self, f5]; rfl
  repeat apply go_seq
  apply go_region
  case h => intro m; simp (maxSteps := 2000000) (disch := decide) only [opsLoop, evOper, wantedA, nth, aop, aPick, aBin, aIndexAddr, aFieldAddr, aLoad, aStore, aExtract, aConvert, aAlloc, aBox, aIndex, callA, builtinA, Fr.evs, opt, val, when, AM.run, outV, newA, ptr, force_eq, seen_heap, seen_next, seen_mark, seen_seen, agg_cells, int_cells, Fr.ev, Fr.put, onFr, gps, gpn, bltT, still, flat, List.append_nil, List.nil_append, List.cons_append, Nat.reduceEqDiff, ne_eq, not_false_eq_true, reduceCtorEq, Bool.and_true, Bool.true_and, Bool.and_false, Bool.false_and, Bool.not_true, Bool.not_false, Bool.and_self, h0, h1, f6, f7, f8, f9]; rfl
  repeat apply go_seq
  apply go_region
  case h => intro m; simp (maxSteps := 2000000) (disch := decide) only [opsLoop, evOper, wantedA, nth, aop, aPick, aBin, aIndexAddr, aFieldAddr, aLoad, aStore, aExtract, aConvert, aAlloc, aBox, aIndex, callA, builtinA, Fr.evs, opt, val, when, AM.run, outV, newA, ptr, force_eq, seen_heap, seen_next, seen_mark, seen_seen, agg_cells, int_cells, Fr.ev, Fr.put, onFr, gps, gpn, bltT, still, flat, List.append_nil, List.nil_append, List.cons_append, Nat.reduceEqDiff, ne_eq, not_false_eq_true, reduceCtorEq, Bool.and_true, Bool.true_and, Bool.and_false, Bool.false_and, Bool.not_true, Bool.not_false, Bool.and_self, h1, g1]; rfl
  repeat apply go_seq
  apply go_region
  case h => intro m; simp (maxSteps := 2000000) (disch := decide) only [opsLoop, evOper, wantedA, nth, aop, aPick, aBin, aIndexAddr, aFieldAddr, aLoad, aStore, aExtract, aConvert, aAlloc, aBox, aIndex, callA, builtinA, Fr.evs, opt, val, when, AM.run, outV, newA, ptr, force_eq, seen_heap, seen_next, seen_mark, seen_seen, agg_cells, int_cells, Fr.ev, Fr.put, onFr, gps, gpn, bltT, still, flat, List.append_nil, List.nil_append, List.cons_append, Nat.reduceEqDiff, ne_eq, not_false_eq_true, reduceCtorEq, Bool.and_true, Bool.true_and, Bool.and_false, Bool.false_and, Bool.not_true, Bool.not_false, Bool.and_self, g2]; rfl
  repeat apply go_seq
  apply go_region
  case h => intro m; simp (maxSteps := 2000000) (disch := decide) only [opsLoop, evOper, wantedA, nth, aop, aPick, aBin, aIndexAddr, aFieldAddr, aLoad, aStore, aExtract, aConvert, aAlloc, aBox, aIndex, callA, builtinA, Fr.evs, opt, val, when, AM.run, outV, newA, ptr, force_eq, seen_heap, seen_next, seen_mark, seen_seen, agg_cells, int_cells, Fr.ev, Fr.put, onFr, gps, gpn, bltT, still, flat, List.append_nil, List.nil_append, List.cons_append, Nat.reduceEqDiff, ne_eq, not_false_eq_true, reduceCtorEq, Bool.and_true, Bool.true_and, Bool.and_false, Bool.false_and, Bool.not_true, Bool.not_false, Bool.and_self, g3]; rfl
  repeat apply go_seq
  apply go_region
  case h => intro m; simp (maxSteps := 2000000) (disch := decide) only [opsLoop, evOper, wantedA, nth, aop, aPick, aBin, aIndexAddr, aFieldAddr, aLoad, aStore, aExtract, aConvert, aAlloc, aBox, aIndex, callA, builtinA, Fr.evs, opt, val, when, AM.run, outV, newA, ptr, force_eq, seen_heap, seen_next, seen_mark, seen_seen, agg_cells, int_cells, Fr.ev, Fr.put, onFr, gps, gpn, bltT, still, flat, List.append_nil, List.nil_append, List.cons_append, Nat.reduceEqDiff, ne_eq, not_false_eq_true, reduceCtorEq, Bool.and_true, Bool.true_and, Bool.and_false, Bool.false_and, Bool.not_true, Bool.not_false, Bool.and_self, g4]; rfl
  repeat apply go_seq
  apply go_region
  case h => intro m; simp (maxSteps := 2000000) (disch := decide) only [opsLoop, evOper, wantedA, nth, aop, aPick, aBin, aIndexAddr, aFieldAddr, aLoad, aStore, aExtract, aConvert, aAlloc, aBox, aIndex, callA, builtinA, Fr.evs, opt, val, when, AM.run, outV, newA, ptr, force_eq, seen_heap, seen_next, seen_mark, seen_seen, agg_cells, int_cells, Fr.ev, Fr.put, onFr, gps, gpn, bltT, still, flat, List.append_nil, List.nil_append, List.cons_append, Nat.reduceEqDiff, ne_eq, not_false_eq_true, reduceCtorEq, Bool.and_true, Bool.true_and, Bool.and_false, Bool.false_and, Bool.not_true, Bool.not_false, Bool.and_self, g5, g6]; rfl
  repeat apply go_seq
  apply go_block
  apply go_loop
  repeat apply go_seq
  apply go_region
  case h => intro m; simp (maxSteps := 2000000) (disch := decide) only [opsLoop, evOper, wantedA, nth, aop, aPick, aBin, aIndexAddr, aFieldAddr, aLoad, aStore, aExtract, aConvert, aAlloc, aBox, aIndex, callA, builtinA, Fr.evs, opt, val, when, AM.run, outV, newA, ptr, force_eq, seen_heap, seen_next, seen_mark, seen_seen, agg_cells, int_cells, Fr.ev, Fr.put, onFr, gps, gpn, bltT, still, flat, List.append_nil, List.nil_append, List.cons_append, Nat.reduceEqDiff, ne_eq, not_false_eq_true, reduceCtorEq, Bool.and_true, Bool.true_and, Bool.and_false, Bool.false_and, Bool.not_true, Bool.not_false, Bool.and_self, g7, g8, g9, k1, k2]; rfl
  repeat apply go_seq
  apply go_cond
  case hc => simp (disch := decide) only [opsLoop, evOper, wantedA, nth, aop, aPick, aBin, aIndexAddr, aFieldAddr, aLoad, aStore, aExtract, aConvert, aAlloc, aBox, aIndex, callA, builtinA, Fr.evs, opt, val, when, AM.run, outV, newA, ptr, force_eq, seen_heap, seen_next, seen_mark, seen_seen, agg_cells, int_cells, Fr.ev, Fr.put, onFr, gps, gpn, bltT, still, flat, List.append_nil, List.nil_append, List.cons_append, Nat.reduceEqDiff, ne_eq, not_false_eq_true, reduceCtorEq, Bool.and_true, Bool.true_and, Bool.and_false, Bool.false_and, Bool.not_true, Bool.not_false, Bool.and_self]; rfl
  case h1 => intro h; cases h
  intro _
  apply go_exit
  repeat apply go_seq
  apply go_region
  case h => intro m; simp (maxSteps := 2000000) (disch := decide) only [opsLoop, evOper, wantedA, nth, aop, aPick, aBin, aIndexAddr, aFieldAddr, aLoad, aStore, aExtract, aConvert, aAlloc, aBox, aIndex, callA, builtinA, Fr.evs, opt, val, when, AM.run, outV, newA, ptr, force_eq, seen_heap, seen_next, seen_mark, seen_seen, agg_cells, int_cells, Fr.ev, Fr.put, onFr, gps, gpn, bltT, still, flat, List.append_nil, List.nil_append, List.cons_append, Nat.reduceEqDiff, ne_eq, not_false_eq_true, reduceCtorEq, Bool.and_true, Bool.true_and, Bool.and_false, Bool.false_and, Bool.not_true, Bool.not_false, Bool.and_self, k3, k4, k5, k6]; rfl
  repeat apply go_seq
  apply go_region
  case h => intro m; simp (maxSteps := 2000000) (disch := decide) only [opsLoop, evOper, wantedA, nth, aop, aPick, aBin, aIndexAddr, aFieldAddr, aLoad, aStore, aExtract, aConvert, aAlloc, aBox, aIndex, callA, builtinA, Fr.evs, opt, val, when, AM.run, outV, newA, ptr, force_eq, seen_heap, seen_next, seen_mark, seen_seen, agg_cells, int_cells, Fr.ev, Fr.put, onFr, gps, gpn, bltT, still, flat, List.append_nil, List.nil_append, List.cons_append, Nat.reduceEqDiff, ne_eq, not_false_eq_true, reduceCtorEq, Bool.and_true, Bool.true_and, Bool.and_false, Bool.false_and, Bool.not_true, Bool.not_false, Bool.and_self, k7]; rfl
  repeat apply go_seq
  apply go_region
  case h => intro m; simp (maxSteps := 2000000) (disch := decide) only [opsLoop, evOper, wantedA, nth, aop, aPick, aBin, aIndexAddr, aFieldAddr, aLoad, aStore, aExtract, aConvert, aAlloc, aBox, aIndex, callA, builtinA, Fr.evs, opt, val, when, AM.run, outV, newA, ptr, force_eq, seen_heap, seen_next, seen_mark, seen_seen, agg_cells, int_cells, Fr.ev, Fr.put, onFr, gps, gpn, bltT, still, flat, List.append_nil, List.nil_append, List.cons_append, Nat.reduceEqDiff, ne_eq, not_false_eq_true, reduceCtorEq, Bool.and_true, Bool.true_and, Bool.and_false, Bool.false_and, Bool.not_true, Bool.not_false, Bool.and_self, k8, k9]; rfl
  repeat apply go_seq
  apply go_block
  apply go_loop
  repeat apply go_seq
  apply go_region
  case h => intro m; simp (maxSteps := 2000000) (disch := decide) only [opsLoop, evOper, wantedA, nth, aop, aPick, aBin, aIndexAddr, aFieldAddr, aLoad, aStore, aExtract, aConvert, aAlloc, aBox, aIndex, callA, builtinA, Fr.evs, opt, val, when, AM.run, outV, newA, ptr, force_eq, seen_heap, seen_next, seen_mark, seen_seen, agg_cells, int_cells, Fr.ev, Fr.put, onFr, gps, gpn, bltT, still, flat, List.append_nil, List.nil_append, List.cons_append, Nat.reduceEqDiff, ne_eq, not_false_eq_true, reduceCtorEq, Bool.and_true, Bool.true_and, Bool.and_false, Bool.false_and, Bool.not_true, Bool.not_false, Bool.and_self, l1, l2, l3, l4, l5]; rfl
  repeat apply go_seq
  apply go_cond
  case hc => simp (disch := decide) only [opsLoop, evOper, wantedA, nth, aop, aPick, aBin, aIndexAddr, aFieldAddr, aLoad, aStore, aExtract, aConvert, aAlloc, aBox, aIndex, callA, builtinA, Fr.evs, opt, val, when, AM.run, outV, newA, ptr, force_eq, seen_heap, seen_next, seen_mark, seen_seen, agg_cells, int_cells, Fr.ev, Fr.put, onFr, gps, gpn, bltT, still, flat, List.append_nil, List.nil_append, List.cons_append, Nat.reduceEqDiff, ne_eq, not_false_eq_true, reduceCtorEq, Bool.and_true, Bool.true_and, Bool.and_false, Bool.false_and, Bool.not_true, Bool.not_false, Bool.and_self]; rfl
  case h1 => intro h; cases h
  intro _
  apply go_exit
  repeat apply go_seq
  apply go_region
  case h => intro m; simp (maxSteps := 2000000) (disch := decide) only [opsLoop, evOper, wantedA, nth, aop, aPick, aBin, aIndexAddr, aFieldAddr, aLoad, aStore, aExtract, aConvert, aAlloc, aBox, aIndex, callA, builtinA, Fr.evs, opt, val, when, AM.run, outV, newA, ptr, force_eq, seen_heap, seen_next, seen_mark, seen_seen, agg_cells, int_cells, Fr.ev, Fr.put, onFr, gps, gpn, bltT, still, flat, List.append_nil, List.nil_append, List.cons_append, Nat.reduceEqDiff, ne_eq, not_false_eq_true, reduceCtorEq, Bool.and_true, Bool.true_and, Bool.and_false, Bool.false_and, Bool.not_true, Bool.not_false, Bool.and_self, l6, l7, l8, l9, m1, m2, m3]; rfl
  repeat apply go_seq
  apply go_ret
  apply ret_intro rfl rfl
  case run => simp (disch := decide) only [resultsM, resultsA, resD, opsLoop, evOper, wantedA, nth, aop, aPick, aBin, aIndexAddr, aFieldAddr, aLoad, aStore, aExtract, aConvert, aAlloc, aBox, aIndex, callA, builtinA, Fr.evs, opt, val, when, AM.run, outV, newA, ptr, force_eq, seen_heap, seen_next, seen_mark, seen_seen, agg_cells, int_cells, Fr.ev, Fr.put, onFr, gps, gpn, bltT, still, flat, List.append_nil, List.nil_append, List.cons_append, Nat.reduceEqDiff, ne_eq, not_false_eq_true, reduceCtorEq, Bool.and_true, Bool.true_and, Bool.and_false, Bool.false_and, Bool.not_true, Bool.not_false, Bool.and_self]; rfl
  exact ⟨rfl, Less'.refl _⟩
set_option maxHeartbeats 4000000 in
theorem told_div64 : AE.Told Tryz.prog 92 div64A := by
  refine told_go hE hmix tolds_D ?_
  intro args s v s' h hm
  unfold div64A at h
  split at h
  · rename_i hi lo d
    obtain ⟨hc, h2⟩ := run_when h
    cases h2
    simp only [Bool.and_eq_true, beq_iff, blt_iff] at hc
    obtain ⟨⟨rfl, hhi⟩, hlo⟩ := hc
    have e1 := b_eqlU 10000 0
    simp only [show decide (10000 = 0) = false from rfl] at e1
    have e2 := b_leqU 10000 hi
    rw [decide_eq_false (by omega : ¬ 10000 ≤ hi)] at e2
    have e3 := b_eqlU hi 0
    by_cases hz : hi = 0
    · subst hz
      simp only [decide_true] at e3
      have f1 := b_quoU (a := lo) (b := 9999) rfl hlo
      have f2 := b_remU (a := lo) (b := 9999) rfl
      simp only [Nat.reduceAdd] at f1 f2
      rw [Nat.zero_mul, Nat.zero_add]
      exact walk_small _ _ _ _ _ e1 e2 e3 f1 f2 s
    · rw [decide_eq_false hz] at e3
      -- the numbers on the way
      obtain ⟨u, w, u1, u0, q1, r1, v, q0, r0, N⟩ := wd.nums hi lo hhi hlo
      have b1 : u < 18446744073709551616 := by have := N.bu; omega
      have b2 : v < 18446744073709551616 := by have := N.bv; omega
      have f3 := b_shlU (a := 10000) (b := 50) (c := 11258999068426240000) (by decide) rfl (by decide)
      have f4 := b_shrU (a := 11258999068426240000) (b := 32) (c := 2621440000) (by decide) rfl (by decide)
      have f5 := b_andU (a := 11258999068426240000) (c := 0) (by decide) (by decide)
      have f6 := b_shlU (a := hi) (b := 50) (p := 1125899906842624) (by decide) rfl N.shl
      have f7 := b_subU (a := 64) (b := 50) (c := 14) (by decide)
      have f8 := b_shrU (a := lo) (b := 14) (p := 16384) (by decide) rfl rfl
      have f9 := b_orU N.bhi N.blo N.eo b1
      have g1 := b_shlU (a := lo) (b := 50) (p := 1125899906842624) (by decide) rfl N.ew
      have g2 := b_shrU (a := w) (b := 32) (p := 4294967296) (by decide) rfl N.ez1
      have g3 := b_andU (a := w) N.bw N.ez0
      have g4 := b_quoU (a := u) (b := 2621439999) N.eq1 b1
      have g5 := b_mulU (a := q1) (b := 2621440000) N.a2
      have g6 := b_subU (a := u) (b := q1 * 2621440000) N.a3
      have g7 := b_geqU q1 4294967296
      rw [decide_eq_false (Nat.not_le.2 N.a1)] at g7
      have g8 := b_mulU (a := q1) (b := 0) (c := 0) (by rw [Nat.mul_zero])
      have g9 := b_mulU (a := 4294967296) (b := r1) N.a4
      have k1 := b_addU (a := 4294967296 * r1) (b := u1) N.a5
      have k2 := b_gtrU 0 (4294967296 * r1 + u1)
      rw [decide_eq_false (Nat.not_lt.2 (Nat.zero_le _))] at k2
      have k3 := b_mulU (a := u) (b := 4294967296) rfl
      have k4 := b_addU (a := u * 4294967296 % 18446744073709551616) (b := u1) rfl
      have k5 := b_mulU (a := q1) (b := 11258999068426240000) rfl
      have k6 := b_subU N.a6
      have k7 := b_quoU (a := v) (b := 2621439999) N.eq0 b2
      have k8 := b_mulU (a := q0) (b := 2621440000) N.c2
      have k9 := b_subU (a := v) (b := q0 * 2621440000) N.c3
      have l1 := b_geqU q0 4294967296
      rw [decide_eq_false (Nat.not_le.2 N.c1)] at l1
      have l2 := b_mulU (a := q0) (b := 0) (c := 0) (by rw [Nat.mul_zero])
      have l3 := b_mulU (a := 4294967296) (b := r0) N.c4
      have l4 := b_addU (a := 4294967296 * r0) (b := u0) N.c5
      have l5 := b_gtrU 0 (4294967296 * r0 + u0)
      rw [decide_eq_false (Nat.not_lt.2 (Nat.zero_le _))] at l5
      have l6 := b_mulU (a := q1) (b := 4294967296) N.d1
      have l7 := b_addU (a := q1 * 4294967296) (b := q0) N.d2
      have l8 := b_mulU (a := v) (b := 4294967296) rfl
      have l9 := b_addU (a := v * 4294967296 % 18446744073709551616) (b := u0) rfl
      have m1 := b_mulU (a := q0) (b := 11258999068426240000) rfl
      have m2 := b_subU N.c6
      have m3 := b_shrU (a := r0 * 4294967296 + u0) (b := 50) (p := 1125899906842624) (by decide) rfl N.d3
      simp only [Nat.reduceAdd] at g4 k7
      exact walk_big _ _ _ _ _ _ _ _ _ _ _ _ _ _ _ _ _ _ _ _ _ _ _ _ _ _ _ _ _ _ _ _ _ _ _ _ _ e1 e2 e3 (fun E t => f3 E t _) f4 f5 (fun E t => f6 E t _) f7 (fun E t => f8 E t _) f9 (fun E t => g1 E t _) g2 g3 g4 g5 g6 g7 g8 g9 k1 k2 k3 k4 k5 k6 k7 k8 k9 l1 l2 l3 l4 l5 l6 l7 l8 l9 m1 m2 (fun E t => m3 E t _) (fun s => lz_run s) rfl s
  · cases h
end Go.Proofs.YtinlmdapgejdoaaGreat.sp
end
end

section
/- A sum is split: the quotient by ten thousand, as the code finds it. -/
noncomputable section
namespace Go.Proofs.YtinlmdapgejdoaaGreat.sp
open AE
set_option linter.unusedSimpArgs false
set_option linter.unusedVariables false
set_option maxRecDepth 10000

/-- a number of 128 bits without its sign: its upper and its lower part; is it below nought? -/
def szH (h : Int) (lo : Nat) : Nat := match h with | .ofNat k => k % 18446744073709551616 | .negSucc k => szHi k lo
def szL (h : Int) (lo : Nat) : Nat := match h with | .ofNat k => lo | .negSucc k => szLo lo
def szM (h : Int) : Bool := match h with | .ofNat k => false | .negSucc k => true
theorem sizeV_eq (h : Int) (lo : Nat) : sizeV h lo = .tuple ⟨[.int .u64 (.ofNat (szH h lo)), .int .u64 (.ofNat (szL h lo)), .bool (szM h)]⟩ := by
  cases h with
  | ofNat k => rfl
  | negSucc k => rfl
def sizeB : List Value → AM Value
  | [.agg ⟨[.int .i64 h, .int .u64 (.ofNat lo)]⟩] => .pure (.tuple ⟨[.int .u64 (.ofNat (szH h lo)), .int .u64 (.ofNat (szL h lo)), .bool (szM h)]⟩)
  | _ => .fail
theorem told_sizeB : AE.Told Tryz.prog 91 sizeB := by
  refine AE.Told.mono told_size ?_
  intro args s v s' h
  unfold sizeB at h
  split at h
  · cases h
    show some (sizeV _ _, s) = _
    rw [sizeV_eq]
  · cases h
def divG : List Value → Option (Bool × Value)
  | [.int .u64 (.ofNat hi), .int .u64 (.ofNat lo), .int .u64 (.ofNat d)] => some (Nat.beq d 10000 && Nat.blt hi 10000 && Nat.blt lo 18446744073709551616,
      .tuple ⟨[.int .u64 (.ofNat ((hi * 18446744073709551616 + lo) / 10000)), .int .u64 (.ofNat ((hi * 18446744073709551616 + lo) % 10000))]⟩)
  | _ => none
theorem told_divG : AE.Told Tryz.prog 92 (gA divG) := by
  refine AE.Told.mono told_div64 ?_
  intro args s v s' h
  obtain ⟨h1, rfl⟩ := gA_run h
  unfold divG at h1
  split at h1
  · rename_i hi lo d
    cases hb : (Nat.beq d 10000 && Nat.blt hi 10000 && Nat.blt lo 18446744073709551616) with
    | false => rw [hb] at h1; cases h1
    | true =>
      rw [hb] at h1
      cases h1
      unfold div64A
      dsimp only
      rw [hb]
      rfl
  · cases h1
def gateQ : List (Nat × (List Value → Option (Bool × Value))) := [(92, divG)]
def sigQ : List (FuncId × (List Value → AM Value)) := [(91, sizeB)]
theorem tolds_Q : Tolds Tryz.prog (gated (gatesOf gateQ) (sumsOf sigQ)) := tolds_gates (tolds_cons told_sizeB tolds_nil) (by
  intro p hp
  simp only [gateQ, List.mem_cons, List.not_mem_nil, or_false] at hp
  subst hp
  exact told_divG)
end Go.Proofs.YtinlmdapgejdoaaGreat.sp
end
end
