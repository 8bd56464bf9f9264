/- The numbers on math/bits' way through a quotient by ten thousand. No program is named here. -/
import Derived.Test.YtldelmmaimbbmaaGreatDv0
namespace Go.Proofs.YtldelmmaimbbmaaGreat.wd
set_option linter.unusedVariables false
set_option maxRecDepth 10000

theorem sub_mod (a b c M : Int) : (((a % M + b) % M) - c % M) % M = (a + b - c) % M := by
  rw [Int.sub_emod, Int.emod_emod, Int.emod_emod, Int.add_emod, Int.emod_emod, ← Int.add_emod, ← Int.sub_emod]
theorem step_sub (u q r z : Nat) (hu : u = 2621440000 * q + r) (hr : r < 2621440000) (hz : z < 4294967296) :
    ((((u * 4294967296 % 18446744073709551616 + z) % 18446744073709551616 : Nat) : Int) - ((q * 11258999068426240000 % 18446744073709551616 : Nat) : Int)) % 18446744073709551616 = ((r * 4294967296 + z : Nat) : Int) := by
  rw [Int.natCast_emod, Int.natCast_add, Int.natCast_emod, Int.natCast_emod]
  rw [show ((18446744073709551616 : Nat) : Int) = 18446744073709551616 from rfl, sub_mod]
  have e : ((u * 4294967296 : Nat) : Int) + (z : Int) - ((q * 11258999068426240000 : Nat) : Int) = ((r * 4294967296 + z : Nat) : Int) := by
    subst hu
    omega
  rw [e]
  have hb : r * 4294967296 + z < 18446744073709551616 := by omega
  generalize r * 4294967296 + z = x at *
  omega
theorem step_bounds (u q r z : Nat) (hu : u = 2621440000 * q + r) (hr : r < 2621440000) (hz : z < 4294967296) (hb : u < 11258999068426240000) :
    q < 4294967296 ∧ q * 2621440000 % 18446744073709551616 = q * 2621440000 ∧ ((u : Int) - ((q * 2621440000 : Nat) : Int)) % 18446744073709551616 = (r : Int) ∧ 4294967296 * r % 18446744073709551616 = 4294967296 * r ∧
      (4294967296 * r + z) % 18446744073709551616 = 4294967296 * r + z ∧ r * 4294967296 + z < 11258999068426240000 := by
  have h1 : q < 4294967296 := by omega
  refine ⟨h1, ?_, ?_, ?_, ?_, ?_⟩
  · exact Nat.mod_eq_of_lt (by omega)
  · have : (u : Int) - ((q * 2621440000 : Nat) : Int) = (r : Int) := by omega
    rw [this]
    exact Int.emod_eq_of_lt (by omega) (by omega)
  · exact Nat.mod_eq_of_lt (by omega)
  · exact Nat.mod_eq_of_lt (by omega)
  · omega
theorem first (hi lo : Nat) (hhi : hi < 10000) (hlo : lo < 18446744073709551616) :
    hi * 1125899906842624 % 18446744073709551616 = hi * 1125899906842624 ∧ (hi * 1125899906842624 ||| lo / 16384) = hi * 1125899906842624 + lo / 16384 ∧ hi * 1125899906842624 + lo / 16384 < 11258999068426240000 ∧ lo / 16384 < 18446744073709551616 ∧ hi * 1125899906842624 < 18446744073709551616 := by
  have hb : lo / 16384 < 1125899906842624 := by omega
  refine ⟨Nat.mod_eq_of_lt (by omega), ?_, by omega, by omega, by omega⟩
  have hp50 : (2 : Nat) ^ 50 = 1125899906842624 := by decide
  have := Nat.shiftLeft_add_eq_or_of_lt (b := lo / 16384) (i := 50) (by rw [hp50]; exact hb) hi
  rw [Nat.shiftLeft_eq, hp50] at this
  exact this.symm
theorem quo_of (hi lo : Nat) (hhi : hi < 10000) (hlo : lo < 18446744073709551616) :
    (hi * 1125899906842624 + lo / 16384) / 2621440000 * 4294967296 + ((hi * 1125899906842624 + lo / 16384) % 2621440000 * 4294967296 + lo * 1125899906842624 % 18446744073709551616 / 4294967296) / 2621440000 = (hi * 18446744073709551616 + lo) / 10000 ∧
      (((hi * 1125899906842624 + lo / 16384) % 2621440000 * 4294967296 + lo * 1125899906842624 % 18446744073709551616 / 4294967296) % 2621440000 * 4294967296 + lo * 1125899906842624 % 18446744073709551616 % 4294967296) / 1125899906842624 = (hi * 18446744073709551616 + lo) % 10000 := by
  have h := quo_small hi lo 10000 50 (by decide) (by decide) (by decide)
  have e1 : (2 : Nat) ^ 50 = 1125899906842624 := by decide
  have e2 : (2 : Nat) ^ (64 - 50) = 16384 := by decide
  have e3 : 10000 * (2 : Nat) ^ (50 - 32) = 2621440000 := by decide
  have e4 : (2 : Nat) ^ 64 = 18446744073709551616 := by decide
  rw [e1, e2, e3, e4] at h
  exact h
theorem quo_lt (hi lo : Nat) (hhi : hi < 10000) (hlo : lo < 18446744073709551616) : (hi * 18446744073709551616 + lo) / 10000 < 18446744073709551616 := by omega

theorem small_mul (q : Nat) (h : q < 4294967296) : q * 4294967296 % 18446744073709551616 = q * 4294967296 := Nat.mod_eq_of_lt (by omega)
/-- the numbers on the way, each with a name -/
structure Nums (hi lo u w z1 z0 q1 r1 v q0 r0 : Nat) : Prop where
  shl : hi * 1125899906842624 % 18446744073709551616 = hi * 1125899906842624
  bhi : hi * 1125899906842624 < 18446744073709551616
  blo : lo / 16384 < 18446744073709551616
  eo : (hi * 1125899906842624 ||| lo / 16384) = u
  bu : u < 11258999068426240000
  ew : lo * 1125899906842624 % 18446744073709551616 = w
  bw : w < 18446744073709551616
  ez1 : w / 4294967296 = z1
  ez0 : w % 4294967296 = z0
  eq1 : u / 2621440000 = q1
  a1 : q1 < 4294967296
  a2 : q1 * 2621440000 % 18446744073709551616 = q1 * 2621440000
  a3 : ((u : Int) - ((q1 * 2621440000 : Nat) : Int)) % 18446744073709551616 = (r1 : Int)
  a4 : 4294967296 * r1 % 18446744073709551616 = 4294967296 * r1
  a5 : (4294967296 * r1 + z1) % 18446744073709551616 = 4294967296 * r1 + z1
  a6 : ((((u * 4294967296 % 18446744073709551616 + z1) % 18446744073709551616 : Nat) : Int) - ((q1 * 11258999068426240000 % 18446744073709551616 : Nat) : Int)) % 18446744073709551616 = (v : Int)
  bv : v < 11258999068426240000
  eq0 : v / 2621440000 = q0
  c1 : q0 < 4294967296
  c2 : q0 * 2621440000 % 18446744073709551616 = q0 * 2621440000
  c3 : ((v : Int) - ((q0 * 2621440000 : Nat) : Int)) % 18446744073709551616 = (r0 : Int)
  c4 : 4294967296 * r0 % 18446744073709551616 = 4294967296 * r0
  c5 : (4294967296 * r0 + z0) % 18446744073709551616 = 4294967296 * r0 + z0
  c6 : ((((v * 4294967296 % 18446744073709551616 + z0) % 18446744073709551616 : Nat) : Int) - ((q0 * 11258999068426240000 % 18446744073709551616 : Nat) : Int)) % 18446744073709551616 = ((r0 * 4294967296 + z0 : Nat) : Int)
  d1 : q1 * 4294967296 % 18446744073709551616 = q1 * 4294967296
  d2 : (q1 * 4294967296 + q0) % 18446744073709551616 = (hi * 18446744073709551616 + lo) / 10000
  d3 : (r0 * 4294967296 + z0) / 1125899906842624 = (hi * 18446744073709551616 + lo) % 10000
theorem nums (hi lo : Nat) (hhi : hi < 10000) (hlo : lo < 18446744073709551616) : ∃ u w u1 u0 q1 r1 v q0 r0, Nums hi lo u w u1 u0 q1 r1 v q0 r0 := by
  obtain ⟨e1, e2, e3, e4, e5⟩ := first hi lo hhi hlo
  obtain ⟨k1, k2⟩ := quo_of hi lo hhi hlo
  have hlt := quo_lt hi lo hhi hlo
  obtain ⟨u, hu⟩ : ∃ y, hi * 1125899906842624 + lo / 16384 = y := ⟨_, rfl⟩
  rw [hu] at e2 e3 k1 k2
  obtain ⟨w, hw⟩ : ∃ y, lo * 1125899906842624 % 18446744073709551616 = y := ⟨_, rfl⟩
  rw [hw] at k1 k2
  have bw : w < 18446744073709551616 := by rw [← hw]; exact Nat.mod_lt _ (by decide)
  have b1 : w / 4294967296 < 4294967296 := by omega
  have b0 : w % 4294967296 < 4294967296 := Nat.mod_lt _ (by decide)
  have du : u = 2621440000 * (u / 2621440000) + u % 2621440000 := (Nat.div_add_mod u 2621440000).symm
  have ru : u % 2621440000 < 2621440000 := Nat.mod_lt _ (by decide)
  obtain ⟨q1, hq1⟩ : ∃ y, u / 2621440000 = y := ⟨_, rfl⟩
  rw [hq1] at k1 du
  obtain ⟨r1, hr1⟩ : ∃ y, u % 2621440000 = y := ⟨_, rfl⟩
  rw [hr1] at k1 k2 du ru
  obtain ⟨u1, hu1⟩ : ∃ y, w / 4294967296 = y := ⟨_, rfl⟩
  rw [hu1] at k1 k2 b1
  obtain ⟨u0, hu0⟩ : ∃ y, w % 4294967296 = y := ⟨_, rfl⟩
  rw [hu0] at k2 b0
  obtain ⟨a1, a2, a3, a4, a5, a7⟩ := step_bounds u q1 r1 u1 du ru b1 e3
  have a6 := step_sub u q1 r1 u1 du ru b1
  obtain ⟨v, hv⟩ : ∃ y, r1 * 4294967296 + u1 = y := ⟨_, rfl⟩
  rw [hv] at k1 k2 a6 a7
  have dv : v = 2621440000 * (v / 2621440000) + v % 2621440000 := (Nat.div_add_mod v 2621440000).symm
  have rv : v % 2621440000 < 2621440000 := Nat.mod_lt _ (by decide)
  obtain ⟨q0, hq0⟩ : ∃ y, v / 2621440000 = y := ⟨_, rfl⟩
  rw [hq0] at k1 dv
  obtain ⟨r0, hr0⟩ : ∃ y, v % 2621440000 = y := ⟨_, rfl⟩
  rw [hr0] at k2 dv rv
  obtain ⟨c1, c2, c3, c4, c5, c7⟩ := step_bounds v q0 r0 u0 dv rv b0 a7
  have c6 := step_sub v q0 r0 u0 dv rv b0
  refine ⟨u, w, u1, u0, q1, r1, v, q0, r0, ⟨e1, e5, e4, e2, e3, hw, bw, hu1, hu0, hq1, a1, a2, a3, a4, a5, a6, a7, hq0, c1, c2, c3, c4, c5, c6, ?_, ?_, k2⟩⟩
  · exact small_mul q1 a1
  · rw [k1]; exact Nat.mod_eq_of_lt hlt
end Go.Proofs.YtldelmmaimbbmaaGreat.wd
