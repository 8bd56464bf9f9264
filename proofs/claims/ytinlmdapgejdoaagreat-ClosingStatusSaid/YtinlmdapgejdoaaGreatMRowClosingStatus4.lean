/- What is wrong is told: a file's row that can't be, or is there twice; an amount beyond all ints; an entity out of balance: at all numbers. -/
import Derived.Test.YtinlmdapgejdoaaGreatMRowClosingStatus3
import Derived.Test.YtinlmdapgejdoaaGreatRows
import Derived.WalkKit
import Derived.ProofKit
import Derived.OpenShut
import Derived.ShutString
import Derived.ChangeOld
import Derived.Below
section
/- What is wrong is told: one way through (printed by wip/gen/asks2lean.py). -/
noncomputable section
namespace Go.Proofs.YtinlmdapgejdoaaGreat.sp
open AE
set_option linter.unusedSimpArgs false
set_option linter.unusedVariables false
set_option maxRecDepth 100000
theorem bS6_4 (a b : Int) (hc : w6 a = 6) : (eqI (Int.ofNat (w6 a)) 0) = false := by
  obtain ⟨x1, x2, x3, x4, x5, x6, x7, x8⟩ := k_facts b
  refine eq_n ?_
  show ¬ ((((w6 a) : Nat) : Int) = 0)
  omega
theorem bS6_6 (a b : Int) (hc : w6 a = 6) : (eqI (Int.ofNat (w6 a)) 1) = false := by
  obtain ⟨x1, x2, x3, x4, x5, x6, x7, x8⟩ := k_facts b
  refine eq_n ?_
  show ¬ ((((w6 a) : Nat) : Int) = 1)
  omega
theorem bS6_8 (a b : Int) (hc : w6 a = 6) : (eqI (Int.ofNat (w6 a)) 2) = false := by
  obtain ⟨x1, x2, x3, x4, x5, x6, x7, x8⟩ := k_facts b
  refine eq_n ?_
  show ¬ ((((w6 a) : Nat) : Int) = 2)
  omega
theorem bS6_10 (a b : Int) (hc : w6 a = 6) : (eqI (Int.ofNat (w6 a)) 3) = false := by
  obtain ⟨x1, x2, x3, x4, x5, x6, x7, x8⟩ := k_facts b
  refine eq_n ?_
  show ¬ ((((w6 a) : Nat) : Int) = 3)
  omega
theorem bS6_12 (a b : Int) (hc : w6 a = 6) : (eqI (Int.ofNat (w6 a)) 4) = false := by
  obtain ⟨x1, x2, x3, x4, x5, x6, x7, x8⟩ := k_facts b
  refine eq_n ?_
  show ¬ ((((w6 a) : Nat) : Int) = 4)
  omega
theorem bS6_14 (a b : Int) (hc : w6 a = 6) : (eqI (Int.ofNat (w6 a)) 5) = false := by
  obtain ⟨x1, x2, x3, x4, x5, x6, x7, x8⟩ := k_facts b
  refine eq_n ?_
  show ¬ ((((w6 a) : Nat) : Int) = 5)
  omega
theorem bS6_20 (a b : Int) (hc : w6 a = 6) : (ltI (Int.ofNat (wk b)) (-9223372036854775807)) = false := by
  obtain ⟨x1, x2, x3, x4, x5, x6, x7, x8⟩ := k_facts b
  refine lt_n ?_
  show ¬ ((((wk b) : Nat) : Int) < (-9223372036854775807))
  omega
theorem bS6_21 (a b : Int) (hc : w6 a = 6) : (ltI 9223372036854775807 (Int.ofNat (wk b))) = false := by
  obtain ⟨x1, x2, x3, x4, x5, x6, x7, x8⟩ := k_facts b
  refine lt_n ?_
  show ¬ (9223372036854775807 < (((wk b) : Nat) : Int))
  omega
def nS6_24 (a b : Int) : Int := (Int.sub 0 (Int.ofNat (wk b)))
theorem eS6_24 (a b : Int) (hc : w6 a = 6) : nS6_24 a b = -((wk b : Nat) : Int) := by
  obtain ⟨x1, x2, x3, x4, x5, x6, x7, x8⟩ := k_facts b
  show (0 - (((wk b) : Nat) : Int)) = _
  omega
def nS6_25 (a b : Int) : Int := (wrapA .i64 (nS6_24 a b))
theorem eS6_25 (a b : Int) (hc : w6 a = 6) : nS6_25 a b = -((wk b : Nat) : Int) := by
  obtain ⟨x1, x2, x3, x4, x5, x6, x7, x8⟩ := k_facts b
  show (wrapA .i64 (nS6_24 a b)) = _
  rw [eS6_24 a b hc]
  exact wrapI (by omega) (by omega)
theorem bS6_26 (a b : Int) (hc : w6 a = 6) : (ltI (nS6_25 a b) (-9223372036854775807)) = false := by
  obtain ⟨x1, x2, x3, x4, x5, x6, x7, x8⟩ := k_facts b
  have h25 := eS6_25 a b hc
  refine lt_n ?_
  show ¬ ((nS6_25 a b) < (-9223372036854775807))
  omega
theorem bS6_27 (a b : Int) (hc : w6 a = 6) : (ltI 9223372036854775807 (nS6_25 a b)) = false := by
  obtain ⟨x1, x2, x3, x4, x5, x6, x7, x8⟩ := k_facts b
  have h25 := eS6_25 a b hc
  refine lt_n ?_
  show ¬ (9223372036854775807 < (nS6_25 a b))
  omega
theorem bS6_28 (a b : Int) (hc : w6 a = 6) : (k3 (Int.ofNat (wk b))) = true := by
  obtain ⟨x1, x2, x3, x4, x5, x6, x7, x8⟩ := k_facts b
  exact k3_K b
theorem bS6_29 (a b : Int) (hc : w6 a = 6) : (k3 (nS6_25 a b)) = true := by
  obtain ⟨x1, x2, x3, x4, x5, x6, x7, x8⟩ := k_facts b
  rw [eS6_25 a b hc]
  exact k3_mK b
theorem bS6_30 (a b : Int) (hc : w6 a = 6) : (inI (Int.ofNat (wk b))) = true := by
  obtain ⟨x1, x2, x3, x4, x5, x6, x7, x8⟩ := k_facts b
  exact in_of (by show _ ≤ (((wk b) : Nat) : Int); omega) (by show (((wk b) : Nat) : Int) < _; omega)
theorem bS6_34 (a b : Int) (hc : w6 a = 6) : (gAdd 0 0 (hiZ (Int.ofNat (wk b))) (loZ (Int.ofNat (wk b)))) = true := by
  obtain ⟨x1, x2, x3, x4, x5, x6, x7, x8⟩ := k_facts b
  exact gAdd_0 (by show _ ≤ (((wk b) : Nat) : Int); omega) (by show (((wk b) : Nat) : Int) < _; omega)
def nS6_35 (a b : Int) : Int := (s3 (Int.ofNat (wk b)))
theorem eS6_35 (a b : Int) (hc : w6 a = 6) : nS6_35 a b = ((kS b : Nat) : Int) := by
  obtain ⟨x1, x2, x3, x4, x5, x6, x7, x8⟩ := k_facts b
  show (s3 (((wk b) : Nat) : Int)) = _
  exact s3_K b
theorem bS6_36 (a b : Int) (hc : w6 a = 6) : (inI (nS6_35 a b)) = true := by
  obtain ⟨x1, x2, x3, x4, x5, x6, x7, x8⟩ := k_facts b
  have h35 := eS6_35 a b hc
  exact in_of (by show _ ≤ (nS6_35 a b); omega) (by show (nS6_35 a b) < _; omega)
theorem bS6_39 (a b : Int) (hc : w6 a = 6) : (gAdd 0 0 (hiZ (nS6_35 a b)) (loZ (nS6_35 a b))) = true := by
  obtain ⟨x1, x2, x3, x4, x5, x6, x7, x8⟩ := k_facts b
  have h35 := eS6_35 a b hc
  exact gAdd_0 (by show _ ≤ (nS6_35 a b); omega) (by show (nS6_35 a b) < _; omega)
theorem bS6_40 (a b : Int) (hc : w6 a = 6) : (inI (nS6_25 a b)) = true := by
  obtain ⟨x1, x2, x3, x4, x5, x6, x7, x8⟩ := k_facts b
  have h25 := eS6_25 a b hc
  exact in_of (by show _ ≤ (nS6_25 a b); omega) (by show (nS6_25 a b) < _; omega)
def nS6_41 (a b : Int) : Int := (valW 0 0)
theorem eS6_41 (a b : Int) (hc : w6 a = 6) : nS6_41 a b = 0 := by
  obtain ⟨x1, x2, x3, x4, x5, x6, x7, x8⟩ := k_facts b
  rfl
def nS6_42 (a b : Int) : Int := (valW (hiZ (Int.ofNat (wk b))) (loZ (Int.ofNat (wk b))))
theorem eS6_42 (a b : Int) (hc : w6 a = 6) : nS6_42 a b = ((wk b : Nat) : Int) := by
  obtain ⟨x1, x2, x3, x4, x5, x6, x7, x8⟩ := k_facts b
  exact val_wz _
def nS6_43 (a b : Int) : Int := ((nS6_41 a b) + (nS6_42 a b))
theorem eS6_43 (a b : Int) (hc : w6 a = 6) : nS6_43 a b = ((wk b : Nat) : Int) := by
  obtain ⟨x1, x2, x3, x4, x5, x6, x7, x8⟩ := k_facts b
  have h41 := eS6_41 a b hc
  have h42 := eS6_42 a b hc
  show ((nS6_41 a b) + (nS6_42 a b)) = _
  omega
theorem bS6_48 (a b : Int) (hc : w6 a = 6) : (gAdd (hiZ (nS6_43 a b)) (loZ (nS6_43 a b)) (hiZ (nS6_25 a b)) (loZ (nS6_25 a b))) = true := by
  obtain ⟨x1, x2, x3, x4, x5, x6, x7, x8⟩ := k_facts b
  have h25 := eS6_25 a b hc
  have h43 := eS6_43 a b hc
  exact gAdd_of (by show _ ≤ (nS6_43 a b); omega) (by show (nS6_43 a b) < _; omega) (by show _ ≤ (nS6_25 a b); omega) (by show (nS6_25 a b) < _; omega)
def nS6_49 (a b : Int) : Int := (s3 (nS6_25 a b))
theorem eS6_49 (a b : Int) (hc : w6 a = 6) : nS6_49 a b = -((kS b : Nat) : Int) := by
  obtain ⟨x1, x2, x3, x4, x5, x6, x7, x8⟩ := k_facts b
  show (s3 (nS6_25 a b)) = _
  rw [eS6_25 a b hc]
  exact s3_mK b
theorem bS6_50 (a b : Int) (hc : w6 a = 6) : (inI (nS6_49 a b)) = true := by
  obtain ⟨x1, x2, x3, x4, x5, x6, x7, x8⟩ := k_facts b
  have h49 := eS6_49 a b hc
  exact in_of (by show _ ≤ (nS6_49 a b); omega) (by show (nS6_49 a b) < _; omega)
def nS6_51 (a b : Int) : Int := (valW (hiZ (nS6_35 a b)) (loZ (nS6_35 a b)))
theorem eS6_51 (a b : Int) (hc : w6 a = 6) : nS6_51 a b = ((kS b : Nat) : Int) := by
  obtain ⟨x1, x2, x3, x4, x5, x6, x7, x8⟩ := k_facts b
  exact (val_wz _).trans (eS6_35 a b hc)
def nS6_52 (a b : Int) : Int := ((nS6_41 a b) + (nS6_51 a b))
theorem eS6_52 (a b : Int) (hc : w6 a = 6) : nS6_52 a b = ((kS b : Nat) : Int) := by
  obtain ⟨x1, x2, x3, x4, x5, x6, x7, x8⟩ := k_facts b
  have h41 := eS6_41 a b hc
  have h51 := eS6_51 a b hc
  show ((nS6_41 a b) + (nS6_51 a b)) = _
  omega
theorem bS6_57 (a b : Int) (hc : w6 a = 6) : (gAdd (hiZ (nS6_52 a b)) (loZ (nS6_52 a b)) (hiZ (nS6_49 a b)) (loZ (nS6_49 a b))) = true := by
  obtain ⟨x1, x2, x3, x4, x5, x6, x7, x8⟩ := k_facts b
  have h49 := eS6_49 a b hc
  have h52 := eS6_52 a b hc
  exact gAdd_of (by show _ ≤ (nS6_52 a b); omega) (by show (nS6_52 a b) < _; omega) (by show _ ≤ (nS6_49 a b); omega) (by show (nS6_49 a b) < _; omega)
def nS6_60 (a b : Int) : Int := (valW (hiZ (nS6_43 a b)) (loZ (nS6_43 a b)))
theorem eS6_60 (a b : Int) (hc : w6 a = 6) : nS6_60 a b = ((wk b : Nat) : Int) := by
  obtain ⟨x1, x2, x3, x4, x5, x6, x7, x8⟩ := k_facts b
  exact (val_wz _).trans (eS6_43 a b hc)
def nS6_61 (a b : Int) : Int := (valW (hiZ (nS6_25 a b)) (loZ (nS6_25 a b)))
theorem eS6_61 (a b : Int) (hc : w6 a = 6) : nS6_61 a b = -((wk b : Nat) : Int) := by
  obtain ⟨x1, x2, x3, x4, x5, x6, x7, x8⟩ := k_facts b
  exact (val_wz _).trans (eS6_25 a b hc)
def nS6_62 (a b : Int) : Int := ((nS6_60 a b) + (nS6_61 a b))
theorem eS6_62 (a b : Int) (hc : w6 a = 6) : nS6_62 a b = 0 := by
  obtain ⟨x1, x2, x3, x4, x5, x6, x7, x8⟩ := k_facts b
  have h60 := eS6_60 a b hc
  have h61 := eS6_61 a b hc
  show ((nS6_60 a b) + (nS6_61 a b)) = _
  omega
theorem bS6_85 (a b : Int) (hc : w6 a = 6) : (eq0 (nS6_62 a b)).isSome = true := by
  rw [eq0_is]
  rfl
theorem bS6_87 (a b : Int) (hc : w6 a = 6) : (eqB false (eq0 (nS6_62 a b))) = false := by
  obtain ⟨x1, x2, x3, x4, x5, x6, x7, x8⟩ := k_facts b
  have h62 := eS6_62 a b hc
  rw [eq0_is, decide_eq_true (by omega)]
  rfl
def nS6_88 (a b : Int) : Int := (valW (hiZ (nS6_52 a b)) (loZ (nS6_52 a b)))
theorem eS6_88 (a b : Int) (hc : w6 a = 6) : nS6_88 a b = ((kS b : Nat) : Int) := by
  obtain ⟨x1, x2, x3, x4, x5, x6, x7, x8⟩ := k_facts b
  exact (val_wz _).trans (eS6_52 a b hc)
def nS6_89 (a b : Int) : Int := (valW (hiZ (nS6_49 a b)) (loZ (nS6_49 a b)))
theorem eS6_89 (a b : Int) (hc : w6 a = 6) : nS6_89 a b = -((kS b : Nat) : Int) := by
  obtain ⟨x1, x2, x3, x4, x5, x6, x7, x8⟩ := k_facts b
  exact (val_wz _).trans (eS6_49 a b hc)
def nS6_90 (a b : Int) : Int := ((nS6_88 a b) + (nS6_89 a b))
theorem eS6_90 (a b : Int) (hc : w6 a = 6) : nS6_90 a b = 0 := by
  obtain ⟨x1, x2, x3, x4, x5, x6, x7, x8⟩ := k_facts b
  have h88 := eS6_88 a b hc
  have h89 := eS6_89 a b hc
  show ((nS6_88 a b) + (nS6_89 a b)) = _
  omega
theorem bS6_96 (a b : Int) (hc : w6 a = 6) : ((smallH (hiZ (nS6_90 a b))) && (Nat.blt (loZ (nS6_90 a b)) 18446744073709551616)) = true := by
  obtain ⟨x1, x2, x3, x4, x5, x6, x7, x8⟩ := k_facts b
  have h90 := eS6_90 a b hc
  exact opp_of (by show _ ≤ (nS6_90 a b); omega) (by show (nS6_90 a b) < _; omega)
def nS6_97 (a b : Int) : Int := (valW (hiZ (nS6_90 a b)) (loZ (nS6_90 a b)))
theorem eS6_97 (a b : Int) (hc : w6 a = 6) : nS6_97 a b = 0 := by
  obtain ⟨x1, x2, x3, x4, x5, x6, x7, x8⟩ := k_facts b
  exact (val_wz _).trans (eS6_90 a b hc)
def nS6_98 (a b : Int) : Int := (-(nS6_97 a b))
theorem eS6_98 (a b : Int) (hc : w6 a = 6) : nS6_98 a b = 0 := by
  obtain ⟨x1, x2, x3, x4, x5, x6, x7, x8⟩ := k_facts b
  have h97 := eS6_97 a b hc
  show (-(nS6_97 a b)) = _
  omega
theorem bS6_99 (a b : Int) (hc : w6 a = 6) : (inI (nS6_98 a b)) = true := by
  obtain ⟨x1, x2, x3, x4, x5, x6, x7, x8⟩ := k_facts b
  have h98 := eS6_98 a b hc
  exact in_of (by show _ ≤ (nS6_98 a b); omega) (by show (nS6_98 a b) < _; omega)
theorem bS6_100 (a b : Int) (hc : w6 a = 6) : (!(inI (nS6_98 a b))) = false := by
  rw [bS6_99 a b hc]
  rfl
def nS6_101 (a b : Int) : Int := (intZ (nS6_98 a b))
theorem eS6_101 (a b : Int) (hc : w6 a = 6) : nS6_101 a b = 0 := by
  obtain ⟨x1, x2, x3, x4, x5, x6, x7, x8⟩ := k_facts b
  show (intZ (nS6_98 a b)) = _
  rw [eS6_98 a b hc]
  exact intZ_of (in_of (by omega) (by omega))
theorem bS6_102 (a b : Int) (hc : w6 a = 6) : (eqI (nS6_101 a b) 0) = true := by
  obtain ⟨x1, x2, x3, x4, x5, x6, x7, x8⟩ := k_facts b
  have h101 := eS6_101 a b hc
  refine eq_y ?_
  show (nS6_101 a b) = 0
  omega
theorem bS6_103 (a b : Int) (hc : w6 a = 6) : (Nat.blt (loZ (nS6_52 a b)) 18446744073709551616) = true := by
  obtain ⟨x1, x2, x3, x4, x5, x6, x7, x8⟩ := k_facts b
  exact lo_lt _
theorem bS6_104 (a b : Int) (hc : w6 a = 6) : (inI (nS6_88 a b)) = true := by
  obtain ⟨x1, x2, x3, x4, x5, x6, x7, x8⟩ := k_facts b
  have h88 := eS6_88 a b hc
  exact in_of (by show _ ≤ (nS6_88 a b); omega) (by show (nS6_88 a b) < _; omega)
theorem bS6_105 (a b : Int) (hc : w6 a = 6) : (!(inI (nS6_88 a b))) = false := by
  rw [bS6_104 a b hc]
  rfl
theorem bS6_106 (a b : Int) (hc : w6 a = 6) : (gAdd 0 0 (hiZ (nS6_49 a b)) (loZ (nS6_49 a b))) = true := by
  obtain ⟨x1, x2, x3, x4, x5, x6, x7, x8⟩ := k_facts b
  have h49 := eS6_49 a b hc
  exact gAdd_0 (by show _ ≤ (nS6_49 a b); omega) (by show (nS6_49 a b) < _; omega)
def nS6_107 (a b : Int) : Int := ((nS6_41 a b) + (nS6_89 a b))
theorem eS6_107 (a b : Int) (hc : w6 a = 6) : nS6_107 a b = -((kS b : Nat) : Int) := by
  obtain ⟨x1, x2, x3, x4, x5, x6, x7, x8⟩ := k_facts b
  have h41 := eS6_41 a b hc
  have h89 := eS6_89 a b hc
  show ((nS6_41 a b) + (nS6_89 a b)) = _
  omega
theorem bS6_109 (a b : Int) (hc : w6 a = 6) : (Nat.blt (loZ (nS6_107 a b)) 18446744073709551616) = true := by
  obtain ⟨x1, x2, x3, x4, x5, x6, x7, x8⟩ := k_facts b
  exact lo_lt _
def nS6_111 (a b : Int) : Int := (valW (hiZ (nS6_107 a b)) (loZ (nS6_107 a b)))
theorem eS6_111 (a b : Int) (hc : w6 a = 6) : nS6_111 a b = -((kS b : Nat) : Int) := by
  obtain ⟨x1, x2, x3, x4, x5, x6, x7, x8⟩ := k_facts b
  exact (val_wz _).trans (eS6_107 a b hc)
theorem bS6_112 (a b : Int) (hc : w6 a = 6) : (inI (nS6_111 a b)) = true := by
  obtain ⟨x1, x2, x3, x4, x5, x6, x7, x8⟩ := k_facts b
  have h111 := eS6_111 a b hc
  exact in_of (by show _ ≤ (nS6_111 a b); omega) (by show (nS6_111 a b) < _; omega)
theorem bS6_113 (a b : Int) (hc : w6 a = 6) : (!(inI (nS6_111 a b))) = false := by
  rw [bS6_112 a b hc]
  rfl
def nS6_114 (a b : Int) : Int := (intZ (nS6_111 a b))
theorem eS6_114 (a b : Int) (hc : w6 a = 6) : nS6_114 a b = -((kS b : Nat) : Int) := by
  obtain ⟨x1, x2, x3, x4, x5, x6, x7, x8⟩ := k_facts b
  show (intZ (nS6_111 a b)) = _
  rw [eS6_111 a b hc]
  exact intZ_of (in_of (by omega) (by omega))
def nS6_117 (a b : Int) : Int := (scI (nS6_114 a b) (cl 5000))
theorem eS6_117 (a b : Int) (hc : w6 a = 6) : nS6_117 a b = -((kT b : Nat) : Int) := by
  obtain ⟨x1, x2, x3, x4, x5, x6, x7, x8⟩ := k_facts b
  show (scI (nS6_114 a b) (cl 5000)) = _
  rw [eS6_114 a b hc]
  exact sc_mS b
def nS6_118 (a b : Int) : Int := (Int.sub (nS6_114 a b) (nS6_117 a b))
theorem eS6_118 (a b : Int) (hc : w6 a = 6) : nS6_118 a b = -((kS b : Nat) : Int) + ((kT b : Nat) : Int) := by
  obtain ⟨x1, x2, x3, x4, x5, x6, x7, x8⟩ := k_facts b
  have h114 := eS6_114 a b hc
  have h117 := eS6_117 a b hc
  show ((nS6_114 a b) - (nS6_117 a b)) = _
  omega
def nS6_119 (a b : Int) : Int := (wrapA .i64 (nS6_118 a b))
theorem eS6_119 (a b : Int) (hc : w6 a = 6) : nS6_119 a b = -((kS b : Nat) : Int) + ((kT b : Nat) : Int) := by
  obtain ⟨x1, x2, x3, x4, x5, x6, x7, x8⟩ := k_facts b
  show (wrapA .i64 (nS6_118 a b)) = _
  rw [eS6_118 a b hc]
  exact wrapI (by omega) (by omega)
theorem bS6_120 (a b : Int) (hc : w6 a = 6) : (eqI (nS6_119 a b) (nS6_119 a b)) = true := by
  obtain ⟨x1, x2, x3, x4, x5, x6, x7, x8⟩ := k_facts b
  exact eq_y rfl
theorem bS6_121 (a b : Int) (hc : w6 a = 6) : (!(eqI (nS6_119 a b) (nS6_119 a b))) = false := by
  rw [bS6_120 a b hc]
  rfl
def nS6_122 (a b : Int) : Int := (intZ (nS6_88 a b))
theorem eS6_122 (a b : Int) (hc : w6 a = 6) : nS6_122 a b = ((kS b : Nat) : Int) := by
  obtain ⟨x1, x2, x3, x4, x5, x6, x7, x8⟩ := k_facts b
  show (intZ (nS6_88 a b)) = _
  rw [eS6_88 a b hc]
  exact intZ_of (in_of (by omega) (by omega))
def nS6_123 (a b : Int) : Int := (scI (nS6_122 a b) (cl 5000))
theorem eS6_123 (a b : Int) (hc : w6 a = 6) : nS6_123 a b = ((kT b : Nat) : Int) := by
  obtain ⟨x1, x2, x3, x4, x5, x6, x7, x8⟩ := k_facts b
  show (scI (nS6_122 a b) (cl 5000)) = _
  rw [eS6_122 a b hc]
  exact sc_S b
def nS6_124 (a b : Int) : Int := (Int.sub (nS6_122 a b) (nS6_123 a b))
theorem eS6_124 (a b : Int) (hc : w6 a = 6) : nS6_124 a b = ((kS b : Nat) : Int) - ((kT b : Nat) : Int) := by
  obtain ⟨x1, x2, x3, x4, x5, x6, x7, x8⟩ := k_facts b
  have h122 := eS6_122 a b hc
  have h123 := eS6_123 a b hc
  show ((nS6_122 a b) - (nS6_123 a b)) = _
  omega
def nS6_125 (a b : Int) : Int := (wrapA .i64 (nS6_124 a b))
theorem eS6_125 (a b : Int) (hc : w6 a = 6) : nS6_125 a b = ((kS b : Nat) : Int) - ((kT b : Nat) : Int) := by
  obtain ⟨x1, x2, x3, x4, x5, x6, x7, x8⟩ := k_facts b
  show (wrapA .i64 (nS6_124 a b)) = _
  rw [eS6_124 a b hc]
  exact wrapI (by omega) (by omega)
theorem bS6_126 (a b : Int) (hc : w6 a = 6) : (eqI (nS6_125 a b) (nS6_125 a b)) = true := by
  obtain ⟨x1, x2, x3, x4, x5, x6, x7, x8⟩ := k_facts b
  exact eq_y rfl
theorem bS6_127 (a b : Int) (hc : w6 a = 6) : (!(eqI (nS6_125 a b) (nS6_125 a b))) = false := by
  rw [bS6_126 a b hc]
  rfl
theorem bS6_128 (a b : Int) (hc : w6 a = 6) : (ltI (nS6_119 a b) (nS6_125 a b)) = true := by
  obtain ⟨x1, x2, x3, x4, x5, x6, x7, x8⟩ := k_facts b
  have h119 := eS6_119 a b hc
  have h125 := eS6_125 a b hc
  refine lt_y ?_
  show (nS6_119 a b) < (nS6_125 a b)
  omega
theorem bS6_129 (a b : Int) (hc : w6 a = 6) : (inI (nS6_123 a b)) = true := by
  obtain ⟨x1, x2, x3, x4, x5, x6, x7, x8⟩ := k_facts b
  have h123 := eS6_123 a b hc
  exact in_of (by show _ ≤ (nS6_123 a b); omega) (by show (nS6_123 a b) < _; omega)
theorem bS6_132 (a b : Int) (hc : w6 a = 6) : (gAdd 0 0 (hiZ (nS6_123 a b)) (loZ (nS6_123 a b))) = true := by
  obtain ⟨x1, x2, x3, x4, x5, x6, x7, x8⟩ := k_facts b
  have h123 := eS6_123 a b hc
  exact gAdd_0 (by show _ ≤ (nS6_123 a b); omega) (by show (nS6_123 a b) < _; omega)
def nS6_133 (a b : Int) : Int := (valW (hiZ (nS6_123 a b)) (loZ (nS6_123 a b)))
theorem eS6_133 (a b : Int) (hc : w6 a = 6) : nS6_133 a b = ((kT b : Nat) : Int) := by
  obtain ⟨x1, x2, x3, x4, x5, x6, x7, x8⟩ := k_facts b
  exact (val_wz _).trans (eS6_123 a b hc)
def nS6_134 (a b : Int) : Int := ((nS6_41 a b) + (nS6_133 a b))
theorem eS6_134 (a b : Int) (hc : w6 a = 6) : nS6_134 a b = ((kT b : Nat) : Int) := by
  obtain ⟨x1, x2, x3, x4, x5, x6, x7, x8⟩ := k_facts b
  have h41 := eS6_41 a b hc
  have h133 := eS6_133 a b hc
  show ((nS6_41 a b) + (nS6_133 a b)) = _
  omega
theorem bS6_136 (a b : Int) (hc : w6 a = 6) : (Nat.blt (loZ (nS6_134 a b)) 18446744073709551616) = true := by
  obtain ⟨x1, x2, x3, x4, x5, x6, x7, x8⟩ := k_facts b
  exact lo_lt _
def nS6_138 (a b : Int) : Int := (valW (hiZ (nS6_134 a b)) (loZ (nS6_134 a b)))
theorem eS6_138 (a b : Int) (hc : w6 a = 6) : nS6_138 a b = ((kT b : Nat) : Int) := by
  obtain ⟨x1, x2, x3, x4, x5, x6, x7, x8⟩ := k_facts b
  exact (val_wz _).trans (eS6_134 a b hc)
theorem bS6_139 (a b : Int) (hc : w6 a = 6) : (inI (nS6_138 a b)) = true := by
  obtain ⟨x1, x2, x3, x4, x5, x6, x7, x8⟩ := k_facts b
  have h138 := eS6_138 a b hc
  exact in_of (by show _ ≤ (nS6_138 a b); omega) (by show (nS6_138 a b) < _; omega)
theorem bS6_140 (a b : Int) (hc : w6 a = 6) : (!(inI (nS6_138 a b))) = false := by
  rw [bS6_139 a b hc]
  rfl
theorem bS6_141 (a b : Int) (hc : w6 a = 6) : (inI (nS6_117 a b)) = true := by
  obtain ⟨x1, x2, x3, x4, x5, x6, x7, x8⟩ := k_facts b
  have h117 := eS6_117 a b hc
  exact in_of (by show _ ≤ (nS6_117 a b); omega) (by show (nS6_117 a b) < _; omega)
theorem bS6_144 (a b : Int) (hc : w6 a = 6) : (gAdd 0 0 (hiZ (nS6_117 a b)) (loZ (nS6_117 a b))) = true := by
  obtain ⟨x1, x2, x3, x4, x5, x6, x7, x8⟩ := k_facts b
  have h117 := eS6_117 a b hc
  exact gAdd_0 (by show _ ≤ (nS6_117 a b); omega) (by show (nS6_117 a b) < _; omega)
def nS6_145 (a b : Int) : Int := (valW (hiZ (nS6_117 a b)) (loZ (nS6_117 a b)))
theorem eS6_145 (a b : Int) (hc : w6 a = 6) : nS6_145 a b = -((kT b : Nat) : Int) := by
  obtain ⟨x1, x2, x3, x4, x5, x6, x7, x8⟩ := k_facts b
  exact (val_wz _).trans (eS6_117 a b hc)
def nS6_146 (a b : Int) : Int := ((nS6_41 a b) + (nS6_145 a b))
theorem eS6_146 (a b : Int) (hc : w6 a = 6) : nS6_146 a b = -((kT b : Nat) : Int) := by
  obtain ⟨x1, x2, x3, x4, x5, x6, x7, x8⟩ := k_facts b
  have h41 := eS6_41 a b hc
  have h145 := eS6_145 a b hc
  show ((nS6_41 a b) + (nS6_145 a b)) = _
  omega
theorem bS6_148 (a b : Int) (hc : w6 a = 6) : (Nat.blt (loZ (nS6_146 a b)) 18446744073709551616) = true := by
  obtain ⟨x1, x2, x3, x4, x5, x6, x7, x8⟩ := k_facts b
  exact lo_lt _
def nS6_150 (a b : Int) : Int := (valW (hiZ (nS6_146 a b)) (loZ (nS6_146 a b)))
theorem eS6_150 (a b : Int) (hc : w6 a = 6) : nS6_150 a b = -((kT b : Nat) : Int) := by
  obtain ⟨x1, x2, x3, x4, x5, x6, x7, x8⟩ := k_facts b
  exact (val_wz _).trans (eS6_146 a b hc)
theorem bS6_151 (a b : Int) (hc : w6 a = 6) : (inI (nS6_150 a b)) = true := by
  obtain ⟨x1, x2, x3, x4, x5, x6, x7, x8⟩ := k_facts b
  have h150 := eS6_150 a b hc
  exact in_of (by show _ ≤ (nS6_150 a b); omega) (by show (nS6_150 a b) < _; omega)
theorem bS6_152 (a b : Int) (hc : w6 a = 6) : (!(inI (nS6_150 a b))) = false := by
  rw [bS6_151 a b hc]
  rfl
theorem bS6_153 (a b : Int) (hc : w6 a = 6) : (inI (nS6_119 a b)) = true := by
  obtain ⟨x1, x2, x3, x4, x5, x6, x7, x8⟩ := k_facts b
  have h119 := eS6_119 a b hc
  exact in_of (by show _ ≤ (nS6_119 a b); omega) (by show (nS6_119 a b) < _; omega)
theorem bS6_156 (a b : Int) (hc : w6 a = 6) : (gAdd 0 0 (hiZ (nS6_119 a b)) (loZ (nS6_119 a b))) = true := by
  obtain ⟨x1, x2, x3, x4, x5, x6, x7, x8⟩ := k_facts b
  have h119 := eS6_119 a b hc
  exact gAdd_0 (by show _ ≤ (nS6_119 a b); omega) (by show (nS6_119 a b) < _; omega)
theorem bS6_157 (a b : Int) (hc : w6 a = 6) : (inI (nS6_125 a b)) = true := by
  obtain ⟨x1, x2, x3, x4, x5, x6, x7, x8⟩ := k_facts b
  have h125 := eS6_125 a b hc
  exact in_of (by show _ ≤ (nS6_125 a b); omega) (by show (nS6_125 a b) < _; omega)
def nS6_158 (a b : Int) : Int := (valW (hiZ (nS6_119 a b)) (loZ (nS6_119 a b)))
theorem eS6_158 (a b : Int) (hc : w6 a = 6) : nS6_158 a b = -((kS b : Nat) : Int) + ((kT b : Nat) : Int) := by
  obtain ⟨x1, x2, x3, x4, x5, x6, x7, x8⟩ := k_facts b
  exact (val_wz _).trans (eS6_119 a b hc)
def nS6_159 (a b : Int) : Int := ((nS6_41 a b) + (nS6_158 a b))
theorem eS6_159 (a b : Int) (hc : w6 a = 6) : nS6_159 a b = -((kS b : Nat) : Int) + ((kT b : Nat) : Int) := by
  obtain ⟨x1, x2, x3, x4, x5, x6, x7, x8⟩ := k_facts b
  have h41 := eS6_41 a b hc
  have h158 := eS6_158 a b hc
  show ((nS6_41 a b) + (nS6_158 a b)) = _
  omega
theorem bS6_164 (a b : Int) (hc : w6 a = 6) : (gAdd (hiZ (nS6_159 a b)) (loZ (nS6_159 a b)) (hiZ (nS6_125 a b)) (loZ (nS6_125 a b))) = true := by
  obtain ⟨x1, x2, x3, x4, x5, x6, x7, x8⟩ := k_facts b
  have h125 := eS6_125 a b hc
  have h159 := eS6_159 a b hc
  exact gAdd_of (by show _ ≤ (nS6_159 a b); omega) (by show (nS6_159 a b) < _; omega) (by show _ ≤ (nS6_125 a b); omega) (by show (nS6_125 a b) < _; omega)
def nS6_165 (a b : Int) : Int := (valW (hiZ (nS6_159 a b)) (loZ (nS6_159 a b)))
theorem eS6_165 (a b : Int) (hc : w6 a = 6) : nS6_165 a b = -((kS b : Nat) : Int) + ((kT b : Nat) : Int) := by
  obtain ⟨x1, x2, x3, x4, x5, x6, x7, x8⟩ := k_facts b
  exact (val_wz _).trans (eS6_159 a b hc)
def nS6_166 (a b : Int) : Int := (valW (hiZ (nS6_125 a b)) (loZ (nS6_125 a b)))
theorem eS6_166 (a b : Int) (hc : w6 a = 6) : nS6_166 a b = ((kS b : Nat) : Int) - ((kT b : Nat) : Int) := by
  obtain ⟨x1, x2, x3, x4, x5, x6, x7, x8⟩ := k_facts b
  exact (val_wz _).trans (eS6_125 a b hc)
def nS6_167 (a b : Int) : Int := ((nS6_165 a b) + (nS6_166 a b))
theorem eS6_167 (a b : Int) (hc : w6 a = 6) : nS6_167 a b = 0 := by
  obtain ⟨x1, x2, x3, x4, x5, x6, x7, x8⟩ := k_facts b
  have h165 := eS6_165 a b hc
  have h166 := eS6_166 a b hc
  show ((nS6_165 a b) + (nS6_166 a b)) = _
  omega
theorem bS6_169 (a b : Int) (hc : w6 a = 6) : (Nat.blt (loZ (nS6_167 a b)) 18446744073709551616) = true := by
  obtain ⟨x1, x2, x3, x4, x5, x6, x7, x8⟩ := k_facts b
  exact lo_lt _
def nS6_171 (a b : Int) : Int := (valW (hiZ (nS6_167 a b)) (loZ (nS6_167 a b)))
theorem eS6_171 (a b : Int) (hc : w6 a = 6) : nS6_171 a b = 0 := by
  obtain ⟨x1, x2, x3, x4, x5, x6, x7, x8⟩ := k_facts b
  exact (val_wz _).trans (eS6_167 a b hc)
theorem bS6_172 (a b : Int) (hc : w6 a = 6) : (inI (nS6_171 a b)) = true := by
  obtain ⟨x1, x2, x3, x4, x5, x6, x7, x8⟩ := k_facts b
  have h171 := eS6_171 a b hc
  exact in_of (by show _ ≤ (nS6_171 a b); omega) (by show (nS6_171 a b) < _; omega)
theorem bS6_173 (a b : Int) (hc : w6 a = 6) : (!(inI (nS6_171 a b))) = false := by
  rw [bS6_172 a b hc]
  rfl
def nS6_174 (a b : Int) : Int := (intZ (nS6_138 a b))
theorem eS6_174 (a b : Int) (hc : w6 a = 6) : nS6_174 a b = ((kT b : Nat) : Int) := by
  obtain ⟨x1, x2, x3, x4, x5, x6, x7, x8⟩ := k_facts b
  show (intZ (nS6_138 a b)) = _
  rw [eS6_138 a b hc]
  exact intZ_of (in_of (by omega) (by omega))
theorem bS6_175 (a b : Int) (hc : w6 a = 6) : (eqI (nS6_174 a b) 0) = false := by
  obtain ⟨x1, x2, x3, x4, x5, x6, x7, x8⟩ := k_facts b
  have h174 := eS6_174 a b hc
  refine eq_n ?_
  show ¬ ((nS6_174 a b) = 0)
  omega
def nS6_176 (a b : Int) : Int := (intZ (nS6_150 a b))
theorem eS6_176 (a b : Int) (hc : w6 a = 6) : nS6_176 a b = -((kT b : Nat) : Int) := by
  obtain ⟨x1, x2, x3, x4, x5, x6, x7, x8⟩ := k_facts b
  show (intZ (nS6_150 a b)) = _
  rw [eS6_150 a b hc]
  exact intZ_of (in_of (by omega) (by omega))
theorem bS6_177 (a b : Int) (hc : w6 a = 6) : (eqI (nS6_176 a b) 0) = false := by
  obtain ⟨x1, x2, x3, x4, x5, x6, x7, x8⟩ := k_facts b
  have h176 := eS6_176 a b hc
  refine eq_n ?_
  show ¬ ((nS6_176 a b) = 0)
  omega
def nS6_178 (a b : Int) : Int := (intZ (nS6_171 a b))
theorem eS6_178 (a b : Int) (hc : w6 a = 6) : nS6_178 a b = 0 := by
  obtain ⟨x1, x2, x3, x4, x5, x6, x7, x8⟩ := k_facts b
  show (intZ (nS6_171 a b)) = _
  rw [eS6_171 a b hc]
  exact intZ_of (in_of (by omega) (by omega))
theorem bS6_179 (a b : Int) (hc : w6 a = 6) : (eqI (nS6_178 a b) 0) = true := by
  obtain ⟨x1, x2, x3, x4, x5, x6, x7, x8⟩ := k_facts b
  have h178 := eS6_178 a b hc
  refine eq_y ?_
  show (nS6_178 a b) = 0
  omega
theorem runS6 (a b : Int) : statE a b [(0, some false), (0, some false), (0, some false), (0, some false), (0, some false), (0, some false), (397, some false), (7, some false), (77, some false), (7, some false), (714, some true), (23, some true), (107, some true), (0, some true), (6, some true), (0, some true), (28, some true), (0, some true), (6, some true), (0, some true), (3, some true), (0, some false), (0, some true), (3, some false), (2, some true), (2, some false), (288, some true), (0, some true), (38, some true), (0, some false), (8, some true), (0, some true), (3, some true), (0, some false), (162, some false), (0, some false), (0, some true), (62, some true), (0, some true), (20, some true), (0, some false), (8, some true), (0, some true), (20, some true), (0, some false), (8, some true), (0, some true), (26, some true), (0, some true), (3, some true), (0, some false), (3, some false), (1, some false), (1, some true)] =
  some [(true, true), ((eqI (nS6_178 a b) 0), true),
    ((eqI (nS6_176 a b) 0), false),
    ((eqI (nS6_174 a b) 0), false),
    ((!(inI (nS6_171 a b))), false),
    ((Nat.blt (loZ (nS6_167 a b)) 18446744073709551616), true),
    ((gAdd (hiZ (nS6_159 a b)) (loZ (nS6_159 a b)) (hiZ (nS6_125 a b)) (loZ (nS6_125 a b))), true),
    ((inI (nS6_125 a b)), true),
    ((gAdd 0 0 (hiZ (nS6_119 a b)) (loZ (nS6_119 a b))), true),
    ((inI (nS6_119 a b)), true),
    ((!(inI (nS6_150 a b))), false),
    ((Nat.blt (loZ (nS6_146 a b)) 18446744073709551616), true),
    ((gAdd 0 0 (hiZ (nS6_117 a b)) (loZ (nS6_117 a b))), true),
    ((inI (nS6_117 a b)), true),
    ((!(inI (nS6_138 a b))), false),
    ((Nat.blt (loZ (nS6_134 a b)) 18446744073709551616), true),
    ((gAdd 0 0 (hiZ (nS6_123 a b)) (loZ (nS6_123 a b))), true),
    ((inI (nS6_123 a b)), true),
    ((ltI (nS6_119 a b) (nS6_125 a b)), true),
    ((!(eqI (nS6_125 a b) (nS6_125 a b))), false),
    ((!(eqI (nS6_119 a b) (nS6_119 a b))), false),
    ((!(inI (nS6_111 a b))), false),
    ((Nat.blt (loZ (nS6_107 a b)) 18446744073709551616), true),
    ((gAdd 0 0 (hiZ (nS6_49 a b)) (loZ (nS6_49 a b))), true),
    ((inI (nS6_49 a b)), true),
    ((!(inI (nS6_88 a b))), false),
    ((Nat.blt (loZ (nS6_52 a b)) 18446744073709551616), true),
    ((gAdd 0 0 (hiZ (nS6_35 a b)) (loZ (nS6_35 a b))), true),
    ((inI (nS6_35 a b)), true),
    ((!(inI (nS6_98 a b))), false),
    ((eqI (nS6_101 a b) 0), true),
    ((!(inI (nS6_98 a b))), false),
    (((smallH (hiZ (nS6_90 a b))) && (Nat.blt (loZ (nS6_90 a b)) 18446744073709551616)), true),
    ((eqB false (eq0 (nS6_62 a b))), false),
    ((eq0 (nS6_62 a b)).isSome, true),
    ((gAdd (hiZ (nS6_52 a b)) (loZ (nS6_52 a b)) (hiZ (nS6_49 a b)) (loZ (nS6_49 a b))), true),
    ((inI (nS6_49 a b)), true),
    ((gAdd (hiZ (nS6_43 a b)) (loZ (nS6_43 a b)) (hiZ (nS6_25 a b)) (loZ (nS6_25 a b))), true),
    ((inI (nS6_25 a b)), true),
    ((gAdd 0 0 (hiZ (nS6_35 a b)) (loZ (nS6_35 a b))), true),
    ((inI (nS6_35 a b)), true),
    ((gAdd 0 0 (hiZ (Int.ofNat (wk b))) (loZ (Int.ofNat (wk b)))), true),
    ((inI (Int.ofNat (wk b))), true),
    ((k3 (nS6_25 a b)), true),
    ((k3 (Int.ofNat (wk b))), true),
    ((ltI 9223372036854775807 (nS6_25 a b)), false),
    ((ltI (nS6_25 a b) (-9223372036854775807)), false),
    ((ltI 9223372036854775807 (Int.ofNat (wk b))), false),
    ((ltI (Int.ofNat (wk b)) (-9223372036854775807)), false),
    ((eqI (Int.ofNat (w6 a)) 5), false),
    ((eqI (Int.ofNat (w6 a)) 4), false),
    ((eqI (Int.ofNat (w6 a)) 3), false),
    ((eqI (Int.ofNat (w6 a)) 2), false),
    ((eqI (Int.ofNat (w6 a)) 1), false),
    ((eqI (Int.ofNat (w6 a)) 0), false)] := by kernel_rfl
theorem statS6 (a b : Int) (hc : w6 a = 6) (W : World) : Calls Tryz.prog 4 #[.int .i64 a, .int .i64 b] W fun x w' => x = .returned (.bool true) ∧ Go.RowKit.Below W.heap.size W w' :=
  callsO_true hP hmix tolds_TT (runS6 a b) (qcons rfl (qcons (bS6_179 a b hc) (qcons (bS6_177 a b hc) (qcons (bS6_175 a b hc) (qcons (bS6_173 a b hc) (qcons (bS6_169 a b hc) (qcons (bS6_164 a b hc) (qcons (bS6_157 a b hc) (qcons (bS6_156 a b hc) (qcons (bS6_153 a b hc) (qcons (bS6_152 a b hc) (qcons (bS6_148 a b hc) (qcons (bS6_144 a b hc) (qcons (bS6_141 a b hc) (qcons (bS6_140 a b hc) (qcons (bS6_136 a b hc) (qcons (bS6_132 a b hc) (qcons (bS6_129 a b hc) (qcons (bS6_128 a b hc) (qcons (bS6_127 a b hc) (qcons (bS6_121 a b hc) (qcons (bS6_113 a b hc) (qcons (bS6_109 a b hc) (qcons (bS6_106 a b hc) (qcons (bS6_50 a b hc) (qcons (bS6_105 a b hc) (qcons (bS6_103 a b hc) (qcons (bS6_39 a b hc) (qcons (bS6_36 a b hc) (qcons (bS6_100 a b hc) (qcons (bS6_102 a b hc) (qcons (bS6_100 a b hc) (qcons (bS6_96 a b hc) (qcons (bS6_87 a b hc) (qcons (bS6_85 a b hc) (qcons (bS6_57 a b hc) (qcons (bS6_50 a b hc) (qcons (bS6_48 a b hc) (qcons (bS6_40 a b hc) (qcons (bS6_39 a b hc) (qcons (bS6_36 a b hc) (qcons (bS6_34 a b hc) (qcons (bS6_30 a b hc) (qcons (bS6_29 a b hc) (qcons (bS6_28 a b hc) (qcons (bS6_27 a b hc) (qcons (bS6_26 a b hc) (qcons (bS6_21 a b hc) (qcons (bS6_20 a b hc) (qcons (bS6_14 a b hc) (qcons (bS6_12 a b hc) (qcons (bS6_10 a b hc) (qcons (bS6_8 a b hc) (qcons (bS6_6 a b hc) (qcons (bS6_4 a b hc) qnil))))))))))))))))))))))))))))))))))))))))))))))))))))))) (.cons ((plain_int _ _).1 _) (.cons ((plain_int _ _).1 _) .nil)) W
end Go.Proofs.YtinlmdapgejdoaaGreat.sp
end
end

section
/- What is wrong is told: the law, all ways. -/
noncomputable section
namespace Go.Proofs.YtinlmdapgejdoaaGreat.sp
open AE
theorem closingStatus_any (a b : Int) (W : World) : Calls Tryz.prog 4 #[.int .i64 a, .int .i64 b] W fun x w' => x = .returned (.bool true) ∧ Go.RowKit.Below W.heap.size W w' := by
  have h := w6_le a
  have h : w6 a = 0 ∨ w6 a = 1 ∨ w6 a = 2 ∨ w6 a = 3 ∨ w6 a = 4 ∨ w6 a = 5 ∨ w6 a = 6 := by omega
  rcases h with h | h | h | h | h | h | h
  · exact statS0 a b h W
  · exact statS1 a b h W
  · exact statS2 a b h W
  · exact statS3 a b h W
  · exact statS4 a b h W
  · exact statS5 a b h W
  · exact statS6 a b h W
end Go.Proofs.YtinlmdapgejdoaaGreat.sp
end
end

section
/- What is wrong is told: a file's row that can't be, or is there twice; an amount beyond all ints; an entity out of balance: at all numbers. -/
namespace Go.Proofs.YtinlmdapgejdoaaGreat.closingStatus
open Go.ChangeShapes Go.WideShapes Go.ChangeAt Go.RowKit
set_option linter.unusedVariables false

theorem own : ownKnob Tryz.prog.godebug = none := by kernel_rfl
theorem laidOut : laidOutB Tryz.prog = true := by kernel_rfl

set_option maxRecDepth 100000 in
set_option maxHeartbeats 1600000 in
theorem lifted (os : Os) (started : os.Started) (H : Type) (enc : TypeId × Value → H) :
    ReturnsInHanded {} Tryz.checked os 4 .any (Rows.closingStatusSpec.pre6 enc Tryz.prog Tryz.f4 Rows.closingStatusRow.domain false) (Rows.closingStatusSpec.post enc Tryz.prog Tryz.f4 false true false false) := by
  refine returnsInHanded_of_change (C := Tryz.checked) own started (by kernel_rfl) Tryz.func4
    (ChangeSpec.witness6 (enc := enc) (C := Tryz.checked) false ⟨#[], #[.int .i64 0, .int .i64 0], []⟩ 8 (by kernel_rfl) (by kernel_rfl) (by kernel_rfl) (by kernel_rfl)) ?_
  intro W base args ds gs before hval0 hW hcnd _
  have hval : ∀ (j : Nat) t v, Tryz.f4.params[j]? = some t → args[j]? = some v → Value.okWide Tryz.prog W .any base t v := hval0
  have hW' := hW
  obtain ⟨p, q, hA0, hV, rfl, hfz, hnd⟩ := hW
  have hA : DataW.TrodAll enc Tryz.prog W 0 (fun _ => true) true Tryz.f4.params.toList args.toList ds p := hA0
  rw [Tryz.params4] at hA hval
  obtain ⟨v0, vs0, d0, ds0, p0, q0, hargs, rfl, rfl, h0, r0⟩ := trodAll_cons hA
  obtain ⟨v1, vs1, d1, ds1, p1, q1, rfl, rfl, rfl, h1, r1⟩ := trodAll_cons r0
  obtain ⟨rfl, rfl, rfl⟩ := trodAll_nil r1
  obtain rfl : args = #[v0, v1] := by cases args; simp_all
  obtain ⟨rfl, rfl⟩ := trodVars_none hV
  have k0 := h0
  have lt0 : ∀ x ∈ p0, x.block < W.heap.size := by obtain ⟨m, hm⟩ := k0; exact DataW.trod_lt m _ _ _ hm
  have k1 := h1
  have lt1 : ∀ x ∈ p1, x.block < W.heap.size := by obtain ⟨m, hm⟩ := k1; exact DataW.trod_lt m _ _ _ hm
  obtain ⟨a0, rfl, rfl, rfl, w0⟩ := open_int Tryz.underlying3 (hval 0 3 v0 rfl rfl) h0
  obtain ⟨a1, rfl, rfl, rfl, w1⟩ := open_int Tryz.underlying3 (hval 1 3 v1 rfl rfl) h1
  clear hA0 hval0
  refine (sp.closingStatus_any a0 a1 W).mono fun e W' ⟨he, bel⟩ => ?_
  subst he
  exact ⟨_, rfl, _, _, _, [], _, [], hW', trodAll_mk1 (shut_bool Tryz.underlying4 _), (trodAll_cons_mk (Below.trod laidOut (by kernel_rfl) (of_decide_eq_true (by kernel_rfl)) k0 bel lt0) (trodAll_cons_mk (Below.trod laidOut (by kernel_rfl) (of_decide_eq_true (by kernel_rfl)) k1 bel lt1) trodAll_mk0)), rfl, bel.frame _, fun h => by cases h⟩

theorem over : Rows.closingStatusRow.holds Tryz.pinned (OpenSpec.ofChange Rows.closingStatusSpec) :=
  OpenClaim.holds_of_wide 4 Tryz.f4 rfl rfl rfl rfl rfl rfl rfl ⟨rfl, rfl, rfl, rfl, rfl⟩ rfl rfl rfl rfl rfl (by kernel_rfl) Tryz.func4 (by kernel_rfl)
    (of_decide_eq_true (by kernel_rfl)) (by unfold Func.isWrapper; first | (rw [if_pos (by decide +kernel)]; kernel_rfl) | (rw [if_neg (by decide +kernel)]; exact ⟨rfl, rfl⟩))
    (fun os started H enc _ => lifted os started H enc)

/-- the statement -/
theorem proved : Rows.ClosingStatusSaid := over
#print axioms proved
end Go.Proofs.YtinlmdapgejdoaaGreat.closingStatus
end
