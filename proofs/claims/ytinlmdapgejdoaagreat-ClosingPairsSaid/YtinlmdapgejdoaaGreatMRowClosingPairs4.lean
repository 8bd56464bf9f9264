/- What two entities that are all ours owe each other in one group, in one currency, isn't in the statement; what one owes alone is: at all numbers. -/
import Derived.Test.YtinlmdapgejdoaaGreatMRowClosingPairs3
import Derived.Test.YtinlmdapgejdoaaGreatRows
import Derived.WalkKit
import Derived.ProofKit
import Derived.OpenShut
import Derived.ShutString
import Derived.ChangeOld
import Derived.Below
section
/- What two entities owe each other: one way through (printed by wip/gen/asks2lean.py). -/
noncomputable section
namespace Go.Proofs.YtinlmdapgejdoaaGreat.sp
open AE
set_option linter.unusedSimpArgs false
set_option linter.unusedVariables false
set_option maxRecDepth 100000
theorem bC_5 (a b : Int) (hc : wx a = wx b) : (ltI (Int.ofNat (wx a)) (-9223372036854775807)) = false := by
  have x1 := wx_ge a
  have x2 := wx_le a
  have y1 := wx_ge b
  have y2 := wx_le b
  refine lt_n ?_
  show ¬ ((((wx a) : Nat) : Int) < (-9223372036854775807))
  omega
theorem bC_6 (a b : Int) (hc : wx a = wx b) : (ltI 9223372036854775807 (Int.ofNat (wx a))) = false := by
  have x1 := wx_ge a
  have x2 := wx_le a
  have y1 := wx_ge b
  have y2 := wx_le b
  refine lt_n ?_
  show ¬ (9223372036854775807 < (((wx a) : Nat) : Int))
  omega
def nC_9 (a b : Int) : Int := (Int.sub 0 (Int.ofNat (wx a)))
theorem eC_9 (a b : Int) (hc : wx a = wx b) : nC_9 a b = -((wx a : Nat) : Int) := by
  have x1 := wx_ge a
  have x2 := wx_le a
  have y1 := wx_ge b
  have y2 := wx_le b
  show (0 - (((wx a) : Nat) : Int)) = _
  omega
def nC_10 (a b : Int) : Int := (wrapA .i64 (nC_9 a b))
theorem eC_10 (a b : Int) (hc : wx a = wx b) : nC_10 a b = -((wx a : Nat) : Int) := by
  have x1 := wx_ge a
  have x2 := wx_le a
  have y1 := wx_ge b
  have y2 := wx_le b
  show (wrapA .i64 (nC_9 a b)) = _
  rw [eC_9 a b hc]
  exact wrapI (by omega) (by omega)
theorem bC_11 (a b : Int) (hc : wx a = wx b) : (ltI (nC_10 a b) (-9223372036854775807)) = false := by
  have x1 := wx_ge a
  have x2 := wx_le a
  have y1 := wx_ge b
  have y2 := wx_le b
  have h10 := eC_10 a b hc
  refine lt_n ?_
  show ¬ ((nC_10 a b) < (-9223372036854775807))
  omega
theorem bC_12 (a b : Int) (hc : wx a = wx b) : (ltI 9223372036854775807 (nC_10 a b)) = false := by
  have x1 := wx_ge a
  have x2 := wx_le a
  have y1 := wx_ge b
  have y2 := wx_le b
  have h10 := eC_10 a b hc
  refine lt_n ?_
  show ¬ (9223372036854775807 < (nC_10 a b))
  omega
def nC_16 (a b : Int) : Int := (Int.sub 0 (Int.ofNat (wx b)))
theorem eC_16 (a b : Int) (hc : wx a = wx b) : nC_16 a b = -((wx b : Nat) : Int) := by
  have x1 := wx_ge a
  have x2 := wx_le a
  have y1 := wx_ge b
  have y2 := wx_le b
  show (0 - (((wx b) : Nat) : Int)) = _
  omega
def nC_17 (a b : Int) : Int := (wrapA .i64 (nC_16 a b))
theorem eC_17 (a b : Int) (hc : wx a = wx b) : nC_17 a b = -((wx b : Nat) : Int) := by
  have x1 := wx_ge a
  have x2 := wx_le a
  have y1 := wx_ge b
  have y2 := wx_le b
  show (wrapA .i64 (nC_16 a b)) = _
  rw [eC_16 a b hc]
  exact wrapI (by omega) (by omega)
theorem bC_18 (a b : Int) (hc : wx a = wx b) : (ltI (nC_17 a b) (-9223372036854775807)) = false := by
  have x1 := wx_ge a
  have x2 := wx_le a
  have y1 := wx_ge b
  have y2 := wx_le b
  have h17 := eC_17 a b hc
  refine lt_n ?_
  show ¬ ((nC_17 a b) < (-9223372036854775807))
  omega
theorem bC_19 (a b : Int) (hc : wx a = wx b) : (ltI 9223372036854775807 (nC_17 a b)) = false := by
  have x1 := wx_ge a
  have x2 := wx_le a
  have y1 := wx_ge b
  have y2 := wx_le b
  have h17 := eC_17 a b hc
  refine lt_n ?_
  show ¬ (9223372036854775807 < (nC_17 a b))
  omega
theorem bC_20 (a b : Int) (hc : wx a = wx b) : (ltI (Int.ofNat (wx b)) (-9223372036854775807)) = false := by
  have x1 := wx_ge a
  have x2 := wx_le a
  have y1 := wx_ge b
  have y2 := wx_le b
  refine lt_n ?_
  show ¬ ((((wx b) : Nat) : Int) < (-9223372036854775807))
  omega
theorem bC_21 (a b : Int) (hc : wx a = wx b) : (ltI 9223372036854775807 (Int.ofNat (wx b))) = false := by
  have x1 := wx_ge a
  have x2 := wx_le a
  have y1 := wx_ge b
  have y2 := wx_le b
  refine lt_n ?_
  show ¬ (9223372036854775807 < (((wx b) : Nat) : Int))
  omega
theorem bC_22 (a b : Int) (hc : wx a = wx b) : (inI (Int.ofNat (wx a))) = true := by
  have x1 := wx_ge a
  have x2 := wx_le a
  have y1 := wx_ge b
  have y2 := wx_le b
  exact in_of (by show _ ≤ (((wx a) : Nat) : Int); omega) (by show (((wx a) : Nat) : Int) < _; omega)
theorem bC_23 (a b : Int) (hc : wx a = wx b) : (inI (nC_10 a b)) = true := by
  have x1 := wx_ge a
  have x2 := wx_le a
  have y1 := wx_ge b
  have y2 := wx_le b
  have h10 := eC_10 a b hc
  exact in_of (by show _ ≤ (nC_10 a b); omega) (by show (nC_10 a b) < _; omega)
theorem bC_24 (a b : Int) (hc : wx a = wx b) : (inI (nC_17 a b)) = true := by
  have x1 := wx_ge a
  have x2 := wx_le a
  have y1 := wx_ge b
  have y2 := wx_le b
  have h17 := eC_17 a b hc
  exact in_of (by show _ ≤ (nC_17 a b); omega) (by show (nC_17 a b) < _; omega)
theorem bC_25 (a b : Int) (hc : wx a = wx b) : (inI (Int.ofNat (wx b))) = true := by
  have x1 := wx_ge a
  have x2 := wx_le a
  have y1 := wx_ge b
  have y2 := wx_le b
  exact in_of (by show _ ≤ (((wx b) : Nat) : Int); omega) (by show (((wx b) : Nat) : Int) < _; omega)
theorem bC_30 (a b : Int) (hc : wx a = wx b) : (gAdd 0 0 (hiZ (Int.ofNat (wx a))) (loZ (Int.ofNat (wx a)))) = true := by
  have x1 := wx_ge a
  have x2 := wx_le a
  have y1 := wx_ge b
  have y2 := wx_le b
  exact gAdd_0 (by show _ ≤ (((wx a) : Nat) : Int); omega) (by show (((wx a) : Nat) : Int) < _; omega)
def nC_31 (a b : Int) : Int := (valW 0 0)
theorem eC_31 (a b : Int) (hc : wx a = wx b) : nC_31 a b = 0 := by
  have x1 := wx_ge a
  have x2 := wx_le a
  have y1 := wx_ge b
  have y2 := wx_le b
  rfl
def nC_32 (a b : Int) : Int := (valW (hiZ (Int.ofNat (wx a))) (loZ (Int.ofNat (wx a))))
theorem eC_32 (a b : Int) (hc : wx a = wx b) : nC_32 a b = ((wx a : Nat) : Int) := by
  have x1 := wx_ge a
  have x2 := wx_le a
  have y1 := wx_ge b
  have y2 := wx_le b
  exact val_wz _
def nC_33 (a b : Int) : Int := ((nC_31 a b) + (nC_32 a b))
theorem eC_33 (a b : Int) (hc : wx a = wx b) : nC_33 a b = ((wx a : Nat) : Int) := by
  have x1 := wx_ge a
  have x2 := wx_le a
  have y1 := wx_ge b
  have y2 := wx_le b
  have h31 := eC_31 a b hc
  have h32 := eC_32 a b hc
  show ((nC_31 a b) + (nC_32 a b)) = _
  omega
theorem bC_38 (a b : Int) (hc : wx a = wx b) : (gAdd (hiZ (nC_33 a b)) (loZ (nC_33 a b)) (hiZ (nC_10 a b)) (loZ (nC_10 a b))) = true := by
  have x1 := wx_ge a
  have x2 := wx_le a
  have y1 := wx_ge b
  have y2 := wx_le b
  have h10 := eC_10 a b hc
  have h33 := eC_33 a b hc
  exact gAdd_of (by show _ ≤ (nC_33 a b); omega) (by show (nC_33 a b) < _; omega) (by show _ ≤ (nC_10 a b); omega) (by show (nC_10 a b) < _; omega)
def nC_41 (a b : Int) : Int := (valW (hiZ (nC_33 a b)) (loZ (nC_33 a b)))
theorem eC_41 (a b : Int) (hc : wx a = wx b) : nC_41 a b = ((wx a : Nat) : Int) := by
  have x1 := wx_ge a
  have x2 := wx_le a
  have y1 := wx_ge b
  have y2 := wx_le b
  exact (val_wz _).trans (eC_33 a b hc)
def nC_42 (a b : Int) : Int := (valW (hiZ (nC_10 a b)) (loZ (nC_10 a b)))
theorem eC_42 (a b : Int) (hc : wx a = wx b) : nC_42 a b = -((wx a : Nat) : Int) := by
  have x1 := wx_ge a
  have x2 := wx_le a
  have y1 := wx_ge b
  have y2 := wx_le b
  exact (val_wz _).trans (eC_10 a b hc)
def nC_43 (a b : Int) : Int := ((nC_41 a b) + (nC_42 a b))
theorem eC_43 (a b : Int) (hc : wx a = wx b) : nC_43 a b = 0 := by
  have x1 := wx_ge a
  have x2 := wx_le a
  have y1 := wx_ge b
  have y2 := wx_le b
  have h41 := eC_41 a b hc
  have h42 := eC_42 a b hc
  show ((nC_41 a b) + (nC_42 a b)) = _
  omega
theorem bC_66 (a b : Int) (hc : wx a = wx b) : (eq0 (nC_43 a b)).isSome = true := by
  rw [eq0_is]
  rfl
theorem bC_68 (a b : Int) (hc : wx a = wx b) : (eqB false (eq0 (nC_43 a b))) = false := by
  have x1 := wx_ge a
  have x2 := wx_le a
  have y1 := wx_ge b
  have y2 := wx_le b
  have h43 := eC_43 a b hc
  rw [eq0_is, decide_eq_true (by omega)]
  rfl
theorem bC_72 (a b : Int) (hc : wx a = wx b) : ((smallH (hiZ (nC_43 a b))) && (Nat.blt (loZ (nC_43 a b)) 18446744073709551616)) = true := by
  have x1 := wx_ge a
  have x2 := wx_le a
  have y1 := wx_ge b
  have y2 := wx_le b
  have h43 := eC_43 a b hc
  exact opp_of (by show _ ≤ (nC_43 a b); omega) (by show (nC_43 a b) < _; omega)
def nC_73 (a b : Int) : Int := (valW (hiZ (nC_43 a b)) (loZ (nC_43 a b)))
theorem eC_73 (a b : Int) (hc : wx a = wx b) : nC_73 a b = 0 := by
  have x1 := wx_ge a
  have x2 := wx_le a
  have y1 := wx_ge b
  have y2 := wx_le b
  exact (val_wz _).trans (eC_43 a b hc)
def nC_74 (a b : Int) : Int := (-(nC_73 a b))
theorem eC_74 (a b : Int) (hc : wx a = wx b) : nC_74 a b = 0 := by
  have x1 := wx_ge a
  have x2 := wx_le a
  have y1 := wx_ge b
  have y2 := wx_le b
  have h73 := eC_73 a b hc
  show (-(nC_73 a b)) = _
  omega
theorem bC_75 (a b : Int) (hc : wx a = wx b) : (inI (nC_74 a b)) = true := by
  have x1 := wx_ge a
  have x2 := wx_le a
  have y1 := wx_ge b
  have y2 := wx_le b
  have h74 := eC_74 a b hc
  exact in_of (by show _ ≤ (nC_74 a b); omega) (by show (nC_74 a b) < _; omega)
theorem bC_76 (a b : Int) (hc : wx a = wx b) : (!(inI (nC_74 a b))) = false := by
  rw [bC_75 a b hc]
  rfl
def nC_77 (a b : Int) : Int := (intZ (nC_74 a b))
theorem eC_77 (a b : Int) (hc : wx a = wx b) : nC_77 a b = 0 := by
  have x1 := wx_ge a
  have x2 := wx_le a
  have y1 := wx_ge b
  have y2 := wx_le b
  show (intZ (nC_74 a b)) = _
  rw [eC_74 a b hc]
  exact intZ_of (in_of (by omega) (by omega))
theorem bC_78 (a b : Int) (hc : wx a = wx b) : (eqI (nC_77 a b) 0) = true := by
  have x1 := wx_ge a
  have x2 := wx_le a
  have y1 := wx_ge b
  have y2 := wx_le b
  have h77 := eC_77 a b hc
  refine eq_y ?_
  show (nC_77 a b) = 0
  omega
theorem bC_81 (a b : Int) (hc : wx a = wx b) : (gAdd 0 0 (hiZ (nC_17 a b)) (loZ (nC_17 a b))) = true := by
  have x1 := wx_ge a
  have x2 := wx_le a
  have y1 := wx_ge b
  have y2 := wx_le b
  have h17 := eC_17 a b hc
  exact gAdd_0 (by show _ ≤ (nC_17 a b); omega) (by show (nC_17 a b) < _; omega)
def nC_82 (a b : Int) : Int := (valW (hiZ (nC_17 a b)) (loZ (nC_17 a b)))
theorem eC_82 (a b : Int) (hc : wx a = wx b) : nC_82 a b = -((wx b : Nat) : Int) := by
  have x1 := wx_ge a
  have x2 := wx_le a
  have y1 := wx_ge b
  have y2 := wx_le b
  exact (val_wz _).trans (eC_17 a b hc)
def nC_83 (a b : Int) : Int := ((nC_31 a b) + (nC_82 a b))
theorem eC_83 (a b : Int) (hc : wx a = wx b) : nC_83 a b = -((wx b : Nat) : Int) := by
  have x1 := wx_ge a
  have x2 := wx_le a
  have y1 := wx_ge b
  have y2 := wx_le b
  have h31 := eC_31 a b hc
  have h82 := eC_82 a b hc
  show ((nC_31 a b) + (nC_82 a b)) = _
  omega
theorem bC_88 (a b : Int) (hc : wx a = wx b) : (gAdd (hiZ (nC_83 a b)) (loZ (nC_83 a b)) (hiZ (Int.ofNat (wx b))) (loZ (Int.ofNat (wx b)))) = true := by
  have x1 := wx_ge a
  have x2 := wx_le a
  have y1 := wx_ge b
  have y2 := wx_le b
  have h83 := eC_83 a b hc
  exact gAdd_of (by show _ ≤ (nC_83 a b); omega) (by show (nC_83 a b) < _; omega) (by show _ ≤ (((wx b) : Nat) : Int); omega) (by show (((wx b) : Nat) : Int) < _; omega)
def nC_89 (a b : Int) : Int := (valW (hiZ (nC_83 a b)) (loZ (nC_83 a b)))
theorem eC_89 (a b : Int) (hc : wx a = wx b) : nC_89 a b = -((wx b : Nat) : Int) := by
  have x1 := wx_ge a
  have x2 := wx_le a
  have y1 := wx_ge b
  have y2 := wx_le b
  exact (val_wz _).trans (eC_83 a b hc)
def nC_90 (a b : Int) : Int := (valW (hiZ (Int.ofNat (wx b))) (loZ (Int.ofNat (wx b))))
theorem eC_90 (a b : Int) (hc : wx a = wx b) : nC_90 a b = ((wx b : Nat) : Int) := by
  have x1 := wx_ge a
  have x2 := wx_le a
  have y1 := wx_ge b
  have y2 := wx_le b
  exact val_wz _
def nC_91 (a b : Int) : Int := ((nC_89 a b) + (nC_90 a b))
theorem eC_91 (a b : Int) (hc : wx a = wx b) : nC_91 a b = 0 := by
  have x1 := wx_ge a
  have x2 := wx_le a
  have y1 := wx_ge b
  have y2 := wx_le b
  have h89 := eC_89 a b hc
  have h90 := eC_90 a b hc
  show ((nC_89 a b) + (nC_90 a b)) = _
  omega
theorem bC_102 (a b : Int) (hc : wx a = wx b) : (eq0 (nC_91 a b)).isSome = true := by
  rw [eq0_is]
  rfl
theorem bC_103 (a b : Int) (hc : wx a = wx b) : (eqB false (eq0 (nC_91 a b))) = false := by
  have x1 := wx_ge a
  have x2 := wx_le a
  have y1 := wx_ge b
  have y2 := wx_le b
  have h91 := eC_91 a b hc
  rw [eq0_is, decide_eq_true (by omega)]
  rfl
theorem bC_106 (a b : Int) (hc : wx a = wx b) : ((smallH (hiZ (nC_91 a b))) && (Nat.blt (loZ (nC_91 a b)) 18446744073709551616)) = true := by
  have x1 := wx_ge a
  have x2 := wx_le a
  have y1 := wx_ge b
  have y2 := wx_le b
  have h91 := eC_91 a b hc
  exact opp_of (by show _ ≤ (nC_91 a b); omega) (by show (nC_91 a b) < _; omega)
def nC_107 (a b : Int) : Int := (valW (hiZ (nC_91 a b)) (loZ (nC_91 a b)))
theorem eC_107 (a b : Int) (hc : wx a = wx b) : nC_107 a b = 0 := by
  have x1 := wx_ge a
  have x2 := wx_le a
  have y1 := wx_ge b
  have y2 := wx_le b
  exact (val_wz _).trans (eC_91 a b hc)
def nC_108 (a b : Int) : Int := (-(nC_107 a b))
theorem eC_108 (a b : Int) (hc : wx a = wx b) : nC_108 a b = 0 := by
  have x1 := wx_ge a
  have x2 := wx_le a
  have y1 := wx_ge b
  have y2 := wx_le b
  have h107 := eC_107 a b hc
  show (-(nC_107 a b)) = _
  omega
theorem bC_109 (a b : Int) (hc : wx a = wx b) : (inI (nC_108 a b)) = true := by
  have x1 := wx_ge a
  have x2 := wx_le a
  have y1 := wx_ge b
  have y2 := wx_le b
  have h108 := eC_108 a b hc
  exact in_of (by show _ ≤ (nC_108 a b); omega) (by show (nC_108 a b) < _; omega)
theorem bC_110 (a b : Int) (hc : wx a = wx b) : (!(inI (nC_108 a b))) = false := by
  rw [bC_109 a b hc]
  rfl
def nC_111 (a b : Int) : Int := (intZ (nC_108 a b))
theorem eC_111 (a b : Int) (hc : wx a = wx b) : nC_111 a b = 0 := by
  have x1 := wx_ge a
  have x2 := wx_le a
  have y1 := wx_ge b
  have y2 := wx_le b
  show (intZ (nC_108 a b)) = _
  rw [eC_108 a b hc]
  exact intZ_of (in_of (by omega) (by omega))
theorem bC_112 (a b : Int) (hc : wx a = wx b) : (eqI (nC_111 a b) 0) = true := by
  have x1 := wx_ge a
  have x2 := wx_le a
  have y1 := wx_ge b
  have y2 := wx_le b
  have h111 := eC_111 a b hc
  refine eq_y ?_
  show (nC_111 a b) = 0
  omega
theorem bC_113 (a b : Int) (hc : wx a = wx b) : (eqI (hiZ (nC_33 a b)) (hiZ (nC_33 a b))) = true := by
  have x1 := wx_ge a
  have x2 := wx_le a
  have y1 := wx_ge b
  have y2 := wx_le b
  exact eq_y rfl
theorem bC_114 (a b : Int) (hc : wx a = wx b) : (!(eqI (hiZ (nC_33 a b)) (hiZ (nC_33 a b)))) = false := by
  rw [bC_113 a b hc]
  rfl
theorem bC_115 (a b : Int) (hc : wx a = wx b) : (ltI (hiZ (nC_33 a b)) 0) = false := by
  have x1 := wx_ge a
  have x2 := wx_le a
  have y1 := wx_ge b
  have y2 := wx_le b
  have h33 := eC_33 a b hc
  refine lt_n ?_
  show ¬ ((hiZ (nC_33 a b)) < 0)
  unfold hiZ
  omega
theorem bC_116 (a b : Int) (hc : wx a = wx b) : (ltI 0 (hiZ (nC_33 a b))) = false := by
  have x1 := wx_ge a
  have x2 := wx_le a
  have y1 := wx_ge b
  have y2 := wx_le b
  have h33 := eC_33 a b hc
  refine lt_n ?_
  show ¬ (0 < (hiZ (nC_33 a b)))
  unfold hiZ
  omega
theorem bC_118 (a b : Int) (hc : wx a = wx b) : (eqI (Int.ofNat (loZ (nC_33 a b))) (Int.ofNat (loZ (nC_33 a b)))) = true := by
  have x1 := wx_ge a
  have x2 := wx_le a
  have y1 := wx_ge b
  have y2 := wx_le b
  exact eq_y rfl
theorem bC_119 (a b : Int) (hc : wx a = wx b) : (!(eqI (Int.ofNat (loZ (nC_33 a b))) (Int.ofNat (loZ (nC_33 a b))))) = false := by
  rw [bC_118 a b hc]
  rfl
theorem bC_120 (a b : Int) (hc : wx a = wx b) : (ltI (Int.ofNat (loZ (nC_33 a b))) 0) = false := by
  have x1 := wx_ge a
  have x2 := wx_le a
  have y1 := wx_ge b
  have y2 := wx_le b
  have h33 := eC_33 a b hc
  refine lt_n ?_
  show ¬ ((((loZ (nC_33 a b)) : Nat) : Int) < 0)
  unfold loZ
  omega
theorem bC_121 (a b : Int) (hc : wx a = wx b) : (ltI 0 (Int.ofNat (loZ (nC_33 a b)))) = true := by
  have x1 := wx_ge a
  have x2 := wx_le a
  have y1 := wx_ge b
  have y2 := wx_le b
  have h33 := eC_33 a b hc
  refine lt_y ?_
  show 0 < (((loZ (nC_33 a b)) : Nat) : Int)
  unfold loZ
  omega
theorem bC_122 (a b : Int) (hc : wx a = wx b) : (eqI (hiZ (nC_83 a b)) (hiZ (nC_83 a b))) = true := by
  have x1 := wx_ge a
  have x2 := wx_le a
  have y1 := wx_ge b
  have y2 := wx_le b
  exact eq_y rfl
theorem bC_123 (a b : Int) (hc : wx a = wx b) : (!(eqI (hiZ (nC_83 a b)) (hiZ (nC_83 a b)))) = false := by
  rw [bC_122 a b hc]
  rfl
theorem bC_124 (a b : Int) (hc : wx a = wx b) : (ltI (hiZ (nC_83 a b)) 0) = true := by
  have x1 := wx_ge a
  have x2 := wx_le a
  have y1 := wx_ge b
  have y2 := wx_le b
  have h83 := eC_83 a b hc
  refine lt_y ?_
  show (hiZ (nC_83 a b)) < 0
  unfold hiZ
  omega
theorem bC_125 (a b : Int) (hc : wx a = wx b) : (gAdd (hiZ (nC_33 a b)) (loZ (nC_33 a b)) (hiZ (nC_83 a b)) (loZ (nC_83 a b))) = true := by
  have x1 := wx_ge a
  have x2 := wx_le a
  have y1 := wx_ge b
  have y2 := wx_le b
  have h33 := eC_33 a b hc
  have h83 := eC_83 a b hc
  exact gAdd_of (by show _ ≤ (nC_33 a b); omega) (by show (nC_33 a b) < _; omega) (by show _ ≤ (nC_83 a b); omega) (by show (nC_83 a b) < _; omega)
def nC_126 (a b : Int) : Int := ((nC_41 a b) + (nC_89 a b))
theorem eC_126 (a b : Int) (hc : wx a = wx b) : nC_126 a b = ((wx a : Nat) : Int) - ((wx b : Nat) : Int) := by
  have x1 := wx_ge a
  have x2 := wx_le a
  have y1 := wx_ge b
  have y2 := wx_le b
  have h41 := eC_41 a b hc
  have h89 := eC_89 a b hc
  show ((nC_41 a b) + (nC_89 a b)) = _
  omega
theorem bC_128 (a b : Int) (hc : wx a = wx b) : (eqI (hiZ (nC_126 a b)) (hiZ (nC_126 a b))) = true := by
  have x1 := wx_ge a
  have x2 := wx_le a
  have y1 := wx_ge b
  have y2 := wx_le b
  exact eq_y rfl
theorem bC_129 (a b : Int) (hc : wx a = wx b) : (!(eqI (hiZ (nC_126 a b)) (hiZ (nC_126 a b)))) = false := by
  rw [bC_128 a b hc]
  rfl
theorem bC_130 (a b : Int) (hc : wx a = wx b) : (ltI (hiZ (nC_126 a b)) 0) = false := by
  have x1 := wx_ge a
  have x2 := wx_le a
  have y1 := wx_ge b
  have y2 := wx_le b
  have h126 := eC_126 a b hc
  refine lt_n ?_
  show ¬ ((hiZ (nC_126 a b)) < 0)
  unfold hiZ
  omega
theorem bC_131 (a b : Int) (hc : wx a = wx b) : (ltI 0 (hiZ (nC_126 a b))) = false := by
  have x1 := wx_ge a
  have x2 := wx_le a
  have y1 := wx_ge b
  have y2 := wx_le b
  have h126 := eC_126 a b hc
  refine lt_n ?_
  show ¬ (0 < (hiZ (nC_126 a b)))
  unfold hiZ
  omega
theorem bC_134 (a b : Int) (hc : wx a = wx b) : (eqI (Int.ofNat (loZ (nC_126 a b))) (Int.ofNat (loZ (nC_126 a b)))) = true := by
  have x1 := wx_ge a
  have x2 := wx_le a
  have y1 := wx_ge b
  have y2 := wx_le b
  exact eq_y rfl
theorem bC_135 (a b : Int) (hc : wx a = wx b) : (!(eqI (Int.ofNat (loZ (nC_126 a b))) (Int.ofNat (loZ (nC_126 a b))))) = false := by
  rw [bC_134 a b hc]
  rfl
theorem bC_136 (a b : Int) (hc : wx a = wx b) : (ltI (Int.ofNat (loZ (nC_126 a b))) 0) = false := by
  have x1 := wx_ge a
  have x2 := wx_le a
  have y1 := wx_ge b
  have y2 := wx_le b
  have h126 := eC_126 a b hc
  refine lt_n ?_
  show ¬ ((((loZ (nC_126 a b)) : Nat) : Int) < 0)
  unfold loZ
  omega
theorem bC_137 (a b : Int) (hc : wx a = wx b) : (ltI 0 (Int.ofNat (loZ (nC_126 a b)))) = false := by
  have x1 := wx_ge a
  have x2 := wx_le a
  have y1 := wx_ge b
  have y2 := wx_le b
  have h126 := eC_126 a b hc
  refine lt_n ?_
  show ¬ (0 < (((loZ (nC_126 a b)) : Nat) : Int))
  unfold loZ
  omega
theorem bC_138 (a b : Int) (hc : wx a = wx b) : (Nat.blt (loZ (nC_126 a b)) 18446744073709551616) = true := by
  have x1 := wx_ge a
  have x2 := wx_le a
  have y1 := wx_ge b
  have y2 := wx_le b
  exact lo_lt _
def nC_139 (a b : Int) : Int := (valW (hiZ (nC_126 a b)) (loZ (nC_126 a b)))
theorem eC_139 (a b : Int) (hc : wx a = wx b) : nC_139 a b = ((wx a : Nat) : Int) - ((wx b : Nat) : Int) := by
  have x1 := wx_ge a
  have x2 := wx_le a
  have y1 := wx_ge b
  have y2 := wx_le b
  exact (val_wz _).trans (eC_126 a b hc)
theorem bC_140 (a b : Int) (hc : wx a = wx b) : (inI (nC_139 a b)) = true := by
  have x1 := wx_ge a
  have x2 := wx_le a
  have y1 := wx_ge b
  have y2 := wx_le b
  have h139 := eC_139 a b hc
  exact in_of (by show _ ≤ (nC_139 a b); omega) (by show (nC_139 a b) < _; omega)
theorem bC_141 (a b : Int) (hc : wx a = wx b) : (!(inI (nC_139 a b))) = false := by
  rw [bC_140 a b hc]
  rfl
theorem bC_142 (a b : Int) (hc : wx a = wx b) : (gAdd 0 0 (hiZ (nC_10 a b)) (loZ (nC_10 a b))) = true := by
  have x1 := wx_ge a
  have x2 := wx_le a
  have y1 := wx_ge b
  have y2 := wx_le b
  have h10 := eC_10 a b hc
  exact gAdd_0 (by show _ ≤ (nC_10 a b); omega) (by show (nC_10 a b) < _; omega)
def nC_143 (a b : Int) : Int := ((nC_31 a b) + (nC_42 a b))
theorem eC_143 (a b : Int) (hc : wx a = wx b) : nC_143 a b = -((wx a : Nat) : Int) := by
  have x1 := wx_ge a
  have x2 := wx_le a
  have y1 := wx_ge b
  have y2 := wx_le b
  have h31 := eC_31 a b hc
  have h42 := eC_42 a b hc
  show ((nC_31 a b) + (nC_42 a b)) = _
  omega
theorem bC_145 (a b : Int) (hc : wx a = wx b) : (Nat.blt (loZ (nC_143 a b)) 18446744073709551616) = true := by
  have x1 := wx_ge a
  have x2 := wx_le a
  have y1 := wx_ge b
  have y2 := wx_le b
  exact lo_lt _
def nC_147 (a b : Int) : Int := (valW (hiZ (nC_143 a b)) (loZ (nC_143 a b)))
theorem eC_147 (a b : Int) (hc : wx a = wx b) : nC_147 a b = -((wx a : Nat) : Int) := by
  have x1 := wx_ge a
  have x2 := wx_le a
  have y1 := wx_ge b
  have y2 := wx_le b
  exact (val_wz _).trans (eC_143 a b hc)
theorem bC_148 (a b : Int) (hc : wx a = wx b) : (inI (nC_147 a b)) = true := by
  have x1 := wx_ge a
  have x2 := wx_le a
  have y1 := wx_ge b
  have y2 := wx_le b
  have h147 := eC_147 a b hc
  exact in_of (by show _ ≤ (nC_147 a b); omega) (by show (nC_147 a b) < _; omega)
theorem bC_149 (a b : Int) (hc : wx a = wx b) : (!(inI (nC_147 a b))) = false := by
  rw [bC_148 a b hc]
  rfl
def nC_150 (a b : Int) : Int := (intZ (nC_139 a b))
theorem eC_150 (a b : Int) (hc : wx a = wx b) : nC_150 a b = ((wx a : Nat) : Int) - ((wx b : Nat) : Int) := by
  have x1 := wx_ge a
  have x2 := wx_le a
  have y1 := wx_ge b
  have y2 := wx_le b
  show (intZ (nC_139 a b)) = _
  rw [eC_139 a b hc]
  exact intZ_of (in_of (by omega) (by omega))
theorem bC_151 (a b : Int) (hc : wx a = wx b) : (inI (nC_150 a b)) = true := by
  have x1 := wx_ge a
  have x2 := wx_le a
  have y1 := wx_ge b
  have y2 := wx_le b
  have h150 := eC_150 a b hc
  exact in_of (by show _ ≤ (nC_150 a b); omega) (by show (nC_150 a b) < _; omega)
theorem bC_154 (a b : Int) (hc : wx a = wx b) : (gAdd 0 0 (hiZ (nC_150 a b)) (loZ (nC_150 a b))) = true := by
  have x1 := wx_ge a
  have x2 := wx_le a
  have y1 := wx_ge b
  have y2 := wx_le b
  have h150 := eC_150 a b hc
  exact gAdd_0 (by show _ ≤ (nC_150 a b); omega) (by show (nC_150 a b) < _; omega)
def nC_155 (a b : Int) : Int := (valW (hiZ (nC_150 a b)) (loZ (nC_150 a b)))
theorem eC_155 (a b : Int) (hc : wx a = wx b) : nC_155 a b = ((wx a : Nat) : Int) - ((wx b : Nat) : Int) := by
  have x1 := wx_ge a
  have x2 := wx_le a
  have y1 := wx_ge b
  have y2 := wx_le b
  exact (val_wz _).trans (eC_150 a b hc)
def nC_156 (a b : Int) : Int := ((nC_31 a b) + (nC_155 a b))
theorem eC_156 (a b : Int) (hc : wx a = wx b) : nC_156 a b = ((wx a : Nat) : Int) - ((wx b : Nat) : Int) := by
  have x1 := wx_ge a
  have x2 := wx_le a
  have y1 := wx_ge b
  have y2 := wx_le b
  have h31 := eC_31 a b hc
  have h155 := eC_155 a b hc
  show ((nC_31 a b) + (nC_155 a b)) = _
  omega
theorem bC_158 (a b : Int) (hc : wx a = wx b) : (Nat.blt (loZ (nC_156 a b)) 18446744073709551616) = true := by
  have x1 := wx_ge a
  have x2 := wx_le a
  have y1 := wx_ge b
  have y2 := wx_le b
  exact lo_lt _
def nC_160 (a b : Int) : Int := (valW (hiZ (nC_156 a b)) (loZ (nC_156 a b)))
theorem eC_160 (a b : Int) (hc : wx a = wx b) : nC_160 a b = ((wx a : Nat) : Int) - ((wx b : Nat) : Int) := by
  have x1 := wx_ge a
  have x2 := wx_le a
  have y1 := wx_ge b
  have y2 := wx_le b
  exact (val_wz _).trans (eC_156 a b hc)
theorem bC_161 (a b : Int) (hc : wx a = wx b) : (inI (nC_160 a b)) = true := by
  have x1 := wx_ge a
  have x2 := wx_le a
  have y1 := wx_ge b
  have y2 := wx_le b
  have h160 := eC_160 a b hc
  exact in_of (by show _ ≤ (nC_160 a b); omega) (by show (nC_160 a b) < _; omega)
theorem bC_162 (a b : Int) (hc : wx a = wx b) : (!(inI (nC_160 a b))) = false := by
  rw [bC_161 a b hc]
  rfl
theorem bC_163 (a b : Int) (hc : wx a = wx b) : (gAdd 0 0 (hiZ (Int.ofNat (wx b))) (loZ (Int.ofNat (wx b)))) = true := by
  have x1 := wx_ge a
  have x2 := wx_le a
  have y1 := wx_ge b
  have y2 := wx_le b
  exact gAdd_0 (by show _ ≤ (((wx b) : Nat) : Int); omega) (by show (((wx b) : Nat) : Int) < _; omega)
def nC_164 (a b : Int) : Int := ((nC_31 a b) + (nC_90 a b))
theorem eC_164 (a b : Int) (hc : wx a = wx b) : nC_164 a b = ((wx b : Nat) : Int) := by
  have x1 := wx_ge a
  have x2 := wx_le a
  have y1 := wx_ge b
  have y2 := wx_le b
  have h31 := eC_31 a b hc
  have h90 := eC_90 a b hc
  show ((nC_31 a b) + (nC_90 a b)) = _
  omega
theorem bC_166 (a b : Int) (hc : wx a = wx b) : (Nat.blt (loZ (nC_164 a b)) 18446744073709551616) = true := by
  have x1 := wx_ge a
  have x2 := wx_le a
  have y1 := wx_ge b
  have y2 := wx_le b
  exact lo_lt _
def nC_168 (a b : Int) : Int := (valW (hiZ (nC_164 a b)) (loZ (nC_164 a b)))
theorem eC_168 (a b : Int) (hc : wx a = wx b) : nC_168 a b = ((wx b : Nat) : Int) := by
  have x1 := wx_ge a
  have x2 := wx_le a
  have y1 := wx_ge b
  have y2 := wx_le b
  exact (val_wz _).trans (eC_164 a b hc)
theorem bC_169 (a b : Int) (hc : wx a = wx b) : (inI (nC_168 a b)) = true := by
  have x1 := wx_ge a
  have x2 := wx_le a
  have y1 := wx_ge b
  have y2 := wx_le b
  have h168 := eC_168 a b hc
  exact in_of (by show _ ≤ (nC_168 a b); omega) (by show (nC_168 a b) < _; omega)
theorem bC_170 (a b : Int) (hc : wx a = wx b) : (!(inI (nC_168 a b))) = false := by
  rw [bC_169 a b hc]
  rfl
def nC_171 (a b : Int) : Int := (intZ (nC_147 a b))
theorem eC_171 (a b : Int) (hc : wx a = wx b) : nC_171 a b = -((wx a : Nat) : Int) := by
  have x1 := wx_ge a
  have x2 := wx_le a
  have y1 := wx_ge b
  have y2 := wx_le b
  show (intZ (nC_147 a b)) = _
  rw [eC_147 a b hc]
  exact intZ_of (in_of (by omega) (by omega))
def nC_174 (a b : Int) : Int := (scI (nC_171 a b) (cl 10000))
theorem eC_174 (a b : Int) (hc : wx a = wx b) : nC_174 a b = -((wx a : Nat) : Int) := by
  have x1 := wx_ge a
  have x2 := wx_le a
  have y1 := wx_ge b
  have y2 := wx_le b
  show (scI (nC_171 a b) (cl 10000)) = _
  rw [eC_171 a b hc]
  exact sc_of (by omega) (by omega)
def nC_175 (a b : Int) : Int := (Int.sub (nC_171 a b) (nC_174 a b))
theorem eC_175 (a b : Int) (hc : wx a = wx b) : nC_175 a b = 0 := by
  have x1 := wx_ge a
  have x2 := wx_le a
  have y1 := wx_ge b
  have y2 := wx_le b
  have h171 := eC_171 a b hc
  have h174 := eC_174 a b hc
  show ((nC_171 a b) - (nC_174 a b)) = _
  omega
def nC_176 (a b : Int) : Int := (wrapA .i64 (nC_175 a b))
theorem eC_176 (a b : Int) (hc : wx a = wx b) : nC_176 a b = 0 := by
  have x1 := wx_ge a
  have x2 := wx_le a
  have y1 := wx_ge b
  have y2 := wx_le b
  show (wrapA .i64 (nC_175 a b)) = _
  rw [eC_175 a b hc]
  exact wrapI (by omega) (by omega)
theorem bC_177 (a b : Int) (hc : wx a = wx b) : (eqI (nC_176 a b) (nC_176 a b)) = true := by
  have x1 := wx_ge a
  have x2 := wx_le a
  have y1 := wx_ge b
  have y2 := wx_le b
  exact eq_y rfl
theorem bC_178 (a b : Int) (hc : wx a = wx b) : (!(eqI (nC_176 a b) (nC_176 a b))) = false := by
  rw [bC_177 a b hc]
  rfl
def nC_179 (a b : Int) : Int := (intZ (nC_31 a b))
theorem eC_179 (a b : Int) (hc : wx a = wx b) : nC_179 a b = 0 := by
  have x1 := wx_ge a
  have x2 := wx_le a
  have y1 := wx_ge b
  have y2 := wx_le b
  show (intZ (nC_31 a b)) = _
  rw [eC_31 a b hc]
  exact intZ_of (in_of (by omega) (by omega))
def nC_182 (a b : Int) : Int := (valW (hiZ (nC_179 a b)) (loZ (nC_179 a b)))
theorem eC_182 (a b : Int) (hc : wx a = wx b) : nC_182 a b = 0 := by
  have x1 := wx_ge a
  have x2 := wx_le a
  have y1 := wx_ge b
  have y2 := wx_le b
  exact (val_wz _).trans (eC_179 a b hc)
def nC_183 (a b : Int) : Int := ((nC_31 a b) + (nC_182 a b))
theorem eC_183 (a b : Int) (hc : wx a = wx b) : nC_183 a b = 0 := by
  have x1 := wx_ge a
  have x2 := wx_le a
  have y1 := wx_ge b
  have y2 := wx_le b
  have h31 := eC_31 a b hc
  have h182 := eC_182 a b hc
  show ((nC_31 a b) + (nC_182 a b)) = _
  omega
def nC_186 (a b : Int) : Int := (valW (hiZ (nC_183 a b)) (loZ (nC_183 a b)))
theorem eC_186 (a b : Int) (hc : wx a = wx b) : nC_186 a b = 0 := by
  have x1 := wx_ge a
  have x2 := wx_le a
  have y1 := wx_ge b
  have y2 := wx_le b
  exact (val_wz _).trans (eC_183 a b hc)
def nC_187 (a b : Int) : Int := (intZ (nC_186 a b))
theorem eC_187 (a b : Int) (hc : wx a = wx b) : nC_187 a b = 0 := by
  have x1 := wx_ge a
  have x2 := wx_le a
  have y1 := wx_ge b
  have y2 := wx_le b
  show (intZ (nC_186 a b)) = _
  rw [eC_186 a b hc]
  exact intZ_of (in_of (by omega) (by omega))
def nC_188 (a b : Int) : Int := (scI (nC_187 a b) (cl 10000))
theorem eC_188 (a b : Int) (hc : wx a = wx b) : nC_188 a b = 0 := by
  have x1 := wx_ge a
  have x2 := wx_le a
  have y1 := wx_ge b
  have y2 := wx_le b
  show (scI (nC_187 a b) (cl 10000)) = _
  rw [eC_187 a b hc]
  exact sc_of (by omega) (by omega)
def nC_189 (a b : Int) : Int := (Int.sub (nC_187 a b) (nC_188 a b))
theorem eC_189 (a b : Int) (hc : wx a = wx b) : nC_189 a b = 0 := by
  have x1 := wx_ge a
  have x2 := wx_le a
  have y1 := wx_ge b
  have y2 := wx_le b
  have h187 := eC_187 a b hc
  have h188 := eC_188 a b hc
  show ((nC_187 a b) - (nC_188 a b)) = _
  omega
def nC_190 (a b : Int) : Int := (wrapA .i64 (nC_189 a b))
theorem eC_190 (a b : Int) (hc : wx a = wx b) : nC_190 a b = 0 := by
  have x1 := wx_ge a
  have x2 := wx_le a
  have y1 := wx_ge b
  have y2 := wx_le b
  show (wrapA .i64 (nC_189 a b)) = _
  rw [eC_189 a b hc]
  exact wrapI (by omega) (by omega)
theorem bC_191 (a b : Int) (hc : wx a = wx b) : (ltI (nC_176 a b) (nC_190 a b)) = false := by
  have x1 := wx_ge a
  have x2 := wx_le a
  have y1 := wx_ge b
  have y2 := wx_le b
  have h176 := eC_176 a b hc
  have h190 := eC_190 a b hc
  refine lt_n ?_
  show ¬ ((nC_176 a b) < (nC_190 a b))
  omega
theorem bC_192 (a b : Int) (hc : wx a = wx b) : (ltI (nC_190 a b) (nC_176 a b)) = false := by
  have x1 := wx_ge a
  have x2 := wx_le a
  have y1 := wx_ge b
  have y2 := wx_le b
  have h176 := eC_176 a b hc
  have h190 := eC_190 a b hc
  refine lt_n ?_
  show ¬ ((nC_190 a b) < (nC_176 a b))
  omega
def nC_193 (a b : Int) : Int := (intZ (nC_160 a b))
theorem eC_193 (a b : Int) (hc : wx a = wx b) : nC_193 a b = ((wx a : Nat) : Int) - ((wx b : Nat) : Int) := by
  have x1 := wx_ge a
  have x2 := wx_le a
  have y1 := wx_ge b
  have y2 := wx_le b
  show (intZ (nC_160 a b)) = _
  rw [eC_160 a b hc]
  exact intZ_of (in_of (by omega) (by omega))
def nC_194 (a b : Int) : Int := (scI (nC_193 a b) (cl 10000))
theorem eC_194 (a b : Int) (hc : wx a = wx b) : nC_194 a b = ((wx a : Nat) : Int) - ((wx b : Nat) : Int) := by
  have x1 := wx_ge a
  have x2 := wx_le a
  have y1 := wx_ge b
  have y2 := wx_le b
  show (scI (nC_193 a b) (cl 10000)) = _
  rw [eC_193 a b hc]
  exact sc_of (by omega) (by omega)
theorem bC_195 (a b : Int) (hc : wx a = wx b) : (eqI (nC_194 a b) (nC_194 a b)) = true := by
  have x1 := wx_ge a
  have x2 := wx_le a
  have y1 := wx_ge b
  have y2 := wx_le b
  exact eq_y rfl
theorem bC_196 (a b : Int) (hc : wx a = wx b) : (!(eqI (nC_194 a b) (nC_194 a b))) = false := by
  rw [bC_195 a b hc]
  rfl
theorem bC_197 (a b : Int) (hc : wx a = wx b) : (ltI (nC_194 a b) (nC_188 a b)) = false := by
  have x1 := wx_ge a
  have x2 := wx_le a
  have y1 := wx_ge b
  have y2 := wx_le b
  have h188 := eC_188 a b hc
  have h194 := eC_194 a b hc
  refine lt_n ?_
  show ¬ ((nC_194 a b) < (nC_188 a b))
  omega
theorem bC_198 (a b : Int) (hc : wx a = wx b) : (ltI (nC_188 a b) (nC_194 a b)) = false := by
  have x1 := wx_ge a
  have x2 := wx_le a
  have y1 := wx_ge b
  have y2 := wx_le b
  have h188 := eC_188 a b hc
  have h194 := eC_194 a b hc
  refine lt_n ?_
  show ¬ ((nC_188 a b) < (nC_194 a b))
  omega
def nC_199 (a b : Int) : Int := (Int.sub (nC_193 a b) (nC_194 a b))
theorem eC_199 (a b : Int) (hc : wx a = wx b) : nC_199 a b = 0 := by
  have x1 := wx_ge a
  have x2 := wx_le a
  have y1 := wx_ge b
  have y2 := wx_le b
  have h193 := eC_193 a b hc
  have h194 := eC_194 a b hc
  show ((nC_193 a b) - (nC_194 a b)) = _
  omega
def nC_200 (a b : Int) : Int := (wrapA .i64 (nC_199 a b))
theorem eC_200 (a b : Int) (hc : wx a = wx b) : nC_200 a b = 0 := by
  have x1 := wx_ge a
  have x2 := wx_le a
  have y1 := wx_ge b
  have y2 := wx_le b
  show (wrapA .i64 (nC_199 a b)) = _
  rw [eC_199 a b hc]
  exact wrapI (by omega) (by omega)
theorem bC_201 (a b : Int) (hc : wx a = wx b) : (eqI (nC_200 a b) (nC_200 a b)) = true := by
  have x1 := wx_ge a
  have x2 := wx_le a
  have y1 := wx_ge b
  have y2 := wx_le b
  exact eq_y rfl
theorem bC_202 (a b : Int) (hc : wx a = wx b) : (!(eqI (nC_200 a b) (nC_200 a b))) = false := by
  rw [bC_201 a b hc]
  rfl
theorem bC_203 (a b : Int) (hc : wx a = wx b) : (ltI (nC_200 a b) (nC_176 a b)) = false := by
  have x1 := wx_ge a
  have x2 := wx_le a
  have y1 := wx_ge b
  have y2 := wx_le b
  have h176 := eC_176 a b hc
  have h200 := eC_200 a b hc
  refine lt_n ?_
  show ¬ ((nC_200 a b) < (nC_176 a b))
  omega
theorem bC_204 (a b : Int) (hc : wx a = wx b) : (ltI (nC_176 a b) (nC_200 a b)) = false := by
  have x1 := wx_ge a
  have x2 := wx_le a
  have y1 := wx_ge b
  have y2 := wx_le b
  have h176 := eC_176 a b hc
  have h200 := eC_200 a b hc
  refine lt_n ?_
  show ¬ ((nC_176 a b) < (nC_200 a b))
  omega
def nC_205 (a b : Int) : Int := (intZ (nC_168 a b))
theorem eC_205 (a b : Int) (hc : wx a = wx b) : nC_205 a b = ((wx b : Nat) : Int) := by
  have x1 := wx_ge a
  have x2 := wx_le a
  have y1 := wx_ge b
  have y2 := wx_le b
  show (intZ (nC_168 a b)) = _
  rw [eC_168 a b hc]
  exact intZ_of (in_of (by omega) (by omega))
def nC_206 (a b : Int) : Int := (scI (nC_205 a b) (cl 10000))
theorem eC_206 (a b : Int) (hc : wx a = wx b) : nC_206 a b = ((wx b : Nat) : Int) := by
  have x1 := wx_ge a
  have x2 := wx_le a
  have y1 := wx_ge b
  have y2 := wx_le b
  show (scI (nC_205 a b) (cl 10000)) = _
  rw [eC_205 a b hc]
  exact sc_of (by omega) (by omega)
theorem bC_207 (a b : Int) (hc : wx a = wx b) : (eqI (nC_206 a b) (nC_206 a b)) = true := by
  have x1 := wx_ge a
  have x2 := wx_le a
  have y1 := wx_ge b
  have y2 := wx_le b
  exact eq_y rfl
theorem bC_208 (a b : Int) (hc : wx a = wx b) : (!(eqI (nC_206 a b) (nC_206 a b))) = false := by
  rw [bC_207 a b hc]
  rfl
theorem bC_209 (a b : Int) (hc : wx a = wx b) : (eqI (nC_174 a b) (nC_174 a b)) = true := by
  have x1 := wx_ge a
  have x2 := wx_le a
  have y1 := wx_ge b
  have y2 := wx_le b
  exact eq_y rfl
theorem bC_210 (a b : Int) (hc : wx a = wx b) : (!(eqI (nC_174 a b) (nC_174 a b))) = false := by
  rw [bC_209 a b hc]
  rfl
theorem bC_211 (a b : Int) (hc : wx a = wx b) : (ltI (nC_206 a b) (nC_174 a b)) = false := by
  have x1 := wx_ge a
  have x2 := wx_le a
  have y1 := wx_ge b
  have y2 := wx_le b
  have h174 := eC_174 a b hc
  have h206 := eC_206 a b hc
  refine lt_n ?_
  show ¬ ((nC_206 a b) < (nC_174 a b))
  omega
theorem bC_212 (a b : Int) (hc : wx a = wx b) : (ltI (nC_174 a b) (nC_206 a b)) = true := by
  have x1 := wx_ge a
  have x2 := wx_le a
  have y1 := wx_ge b
  have y2 := wx_le b
  have h174 := eC_174 a b hc
  have h206 := eC_206 a b hc
  refine lt_y ?_
  show (nC_174 a b) < (nC_206 a b)
  omega
def nC_213 (a b : Int) : Int := (Int.sub (nC_205 a b) (nC_206 a b))
theorem eC_213 (a b : Int) (hc : wx a = wx b) : nC_213 a b = 0 := by
  have x1 := wx_ge a
  have x2 := wx_le a
  have y1 := wx_ge b
  have y2 := wx_le b
  have h205 := eC_205 a b hc
  have h206 := eC_206 a b hc
  show ((nC_205 a b) - (nC_206 a b)) = _
  omega
def nC_214 (a b : Int) : Int := (wrapA .i64 (nC_213 a b))
theorem eC_214 (a b : Int) (hc : wx a = wx b) : nC_214 a b = 0 := by
  have x1 := wx_ge a
  have x2 := wx_le a
  have y1 := wx_ge b
  have y2 := wx_le b
  show (wrapA .i64 (nC_213 a b)) = _
  rw [eC_213 a b hc]
  exact wrapI (by omega) (by omega)
theorem bC_215 (a b : Int) (hc : wx a = wx b) : (eqI (nC_214 a b) (nC_214 a b)) = true := by
  have x1 := wx_ge a
  have x2 := wx_le a
  have y1 := wx_ge b
  have y2 := wx_le b
  exact eq_y rfl
theorem bC_216 (a b : Int) (hc : wx a = wx b) : (!(eqI (nC_214 a b) (nC_214 a b))) = false := by
  rw [bC_215 a b hc]
  rfl
theorem bC_217 (a b : Int) (hc : wx a = wx b) : (ltI (nC_214 a b) (nC_200 a b)) = false := by
  have x1 := wx_ge a
  have x2 := wx_le a
  have y1 := wx_ge b
  have y2 := wx_le b
  have h200 := eC_200 a b hc
  have h214 := eC_214 a b hc
  refine lt_n ?_
  show ¬ ((nC_214 a b) < (nC_200 a b))
  omega
theorem bC_218 (a b : Int) (hc : wx a = wx b) : (ltI (nC_200 a b) (nC_214 a b)) = false := by
  have x1 := wx_ge a
  have x2 := wx_le a
  have y1 := wx_ge b
  have y2 := wx_le b
  have h200 := eC_200 a b hc
  have h214 := eC_214 a b hc
  refine lt_n ?_
  show ¬ ((nC_200 a b) < (nC_214 a b))
  omega
theorem bC_219 (a b : Int) (hc : wx a = wx b) : (inI (nC_194 a b)) = true := by
  have x1 := wx_ge a
  have x2 := wx_le a
  have y1 := wx_ge b
  have y2 := wx_le b
  have h194 := eC_194 a b hc
  exact in_of (by show _ ≤ (nC_194 a b); omega) (by show (nC_194 a b) < _; omega)
def nC_222 (a b : Int) : Int := (valW (hiZ (nC_188 a b)) (loZ (nC_188 a b)))
theorem eC_222 (a b : Int) (hc : wx a = wx b) : nC_222 a b = 0 := by
  have x1 := wx_ge a
  have x2 := wx_le a
  have y1 := wx_ge b
  have y2 := wx_le b
  exact (val_wz _).trans (eC_188 a b hc)
def nC_223 (a b : Int) : Int := ((nC_31 a b) + (nC_222 a b))
theorem eC_223 (a b : Int) (hc : wx a = wx b) : nC_223 a b = 0 := by
  have x1 := wx_ge a
  have x2 := wx_le a
  have y1 := wx_ge b
  have y2 := wx_le b
  have h31 := eC_31 a b hc
  have h222 := eC_222 a b hc
  show ((nC_31 a b) + (nC_222 a b)) = _
  omega
theorem bC_228 (a b : Int) (hc : wx a = wx b) : (gAdd (hiZ (nC_223 a b)) (loZ (nC_223 a b)) (hiZ (nC_194 a b)) (loZ (nC_194 a b))) = true := by
  have x1 := wx_ge a
  have x2 := wx_le a
  have y1 := wx_ge b
  have y2 := wx_le b
  have h194 := eC_194 a b hc
  have h223 := eC_223 a b hc
  exact gAdd_of (by show _ ≤ (nC_223 a b); omega) (by show (nC_223 a b) < _; omega) (by show _ ≤ (nC_194 a b); omega) (by show (nC_194 a b) < _; omega)
def nC_229 (a b : Int) : Int := (valW (hiZ (nC_223 a b)) (loZ (nC_223 a b)))
theorem eC_229 (a b : Int) (hc : wx a = wx b) : nC_229 a b = 0 := by
  have x1 := wx_ge a
  have x2 := wx_le a
  have y1 := wx_ge b
  have y2 := wx_le b
  exact (val_wz _).trans (eC_223 a b hc)
def nC_230 (a b : Int) : Int := (valW (hiZ (nC_194 a b)) (loZ (nC_194 a b)))
theorem eC_230 (a b : Int) (hc : wx a = wx b) : nC_230 a b = ((wx a : Nat) : Int) - ((wx b : Nat) : Int) := by
  have x1 := wx_ge a
  have x2 := wx_le a
  have y1 := wx_ge b
  have y2 := wx_le b
  exact (val_wz _).trans (eC_194 a b hc)
def nC_231 (a b : Int) : Int := ((nC_229 a b) + (nC_230 a b))
theorem eC_231 (a b : Int) (hc : wx a = wx b) : nC_231 a b = ((wx a : Nat) : Int) - ((wx b : Nat) : Int) := by
  have x1 := wx_ge a
  have x2 := wx_le a
  have y1 := wx_ge b
  have y2 := wx_le b
  have h229 := eC_229 a b hc
  have h230 := eC_230 a b hc
  show ((nC_229 a b) + (nC_230 a b)) = _
  omega
theorem bC_233 (a b : Int) (hc : wx a = wx b) : (Nat.blt (loZ (nC_231 a b)) 18446744073709551616) = true := by
  have x1 := wx_ge a
  have x2 := wx_le a
  have y1 := wx_ge b
  have y2 := wx_le b
  exact lo_lt _
def nC_235 (a b : Int) : Int := (valW (hiZ (nC_231 a b)) (loZ (nC_231 a b)))
theorem eC_235 (a b : Int) (hc : wx a = wx b) : nC_235 a b = ((wx a : Nat) : Int) - ((wx b : Nat) : Int) := by
  have x1 := wx_ge a
  have x2 := wx_le a
  have y1 := wx_ge b
  have y2 := wx_le b
  exact (val_wz _).trans (eC_231 a b hc)
theorem bC_236 (a b : Int) (hc : wx a = wx b) : (inI (nC_235 a b)) = true := by
  have x1 := wx_ge a
  have x2 := wx_le a
  have y1 := wx_ge b
  have y2 := wx_le b
  have h235 := eC_235 a b hc
  exact in_of (by show _ ≤ (nC_235 a b); omega) (by show (nC_235 a b) < _; omega)
theorem bC_237 (a b : Int) (hc : wx a = wx b) : (!(inI (nC_235 a b))) = false := by
  rw [bC_236 a b hc]
  rfl
theorem bC_238 (a b : Int) (hc : wx a = wx b) : (inI (nC_174 a b)) = true := by
  have x1 := wx_ge a
  have x2 := wx_le a
  have y1 := wx_ge b
  have y2 := wx_le b
  have h174 := eC_174 a b hc
  exact in_of (by show _ ≤ (nC_174 a b); omega) (by show (nC_174 a b) < _; omega)
theorem bC_241 (a b : Int) (hc : wx a = wx b) : (gAdd 0 0 (hiZ (nC_174 a b)) (loZ (nC_174 a b))) = true := by
  have x1 := wx_ge a
  have x2 := wx_le a
  have y1 := wx_ge b
  have y2 := wx_le b
  have h174 := eC_174 a b hc
  exact gAdd_0 (by show _ ≤ (nC_174 a b); omega) (by show (nC_174 a b) < _; omega)
theorem bC_242 (a b : Int) (hc : wx a = wx b) : (inI (nC_206 a b)) = true := by
  have x1 := wx_ge a
  have x2 := wx_le a
  have y1 := wx_ge b
  have y2 := wx_le b
  have h206 := eC_206 a b hc
  exact in_of (by show _ ≤ (nC_206 a b); omega) (by show (nC_206 a b) < _; omega)
def nC_243 (a b : Int) : Int := (valW (hiZ (nC_174 a b)) (loZ (nC_174 a b)))
theorem eC_243 (a b : Int) (hc : wx a = wx b) : nC_243 a b = -((wx a : Nat) : Int) := by
  have x1 := wx_ge a
  have x2 := wx_le a
  have y1 := wx_ge b
  have y2 := wx_le b
  exact (val_wz _).trans (eC_174 a b hc)
def nC_244 (a b : Int) : Int := ((nC_31 a b) + (nC_243 a b))
theorem eC_244 (a b : Int) (hc : wx a = wx b) : nC_244 a b = -((wx a : Nat) : Int) := by
  have x1 := wx_ge a
  have x2 := wx_le a
  have y1 := wx_ge b
  have y2 := wx_le b
  have h31 := eC_31 a b hc
  have h243 := eC_243 a b hc
  show ((nC_31 a b) + (nC_243 a b)) = _
  omega
theorem bC_249 (a b : Int) (hc : wx a = wx b) : (gAdd (hiZ (nC_244 a b)) (loZ (nC_244 a b)) (hiZ (nC_206 a b)) (loZ (nC_206 a b))) = true := by
  have x1 := wx_ge a
  have x2 := wx_le a
  have y1 := wx_ge b
  have y2 := wx_le b
  have h206 := eC_206 a b hc
  have h244 := eC_244 a b hc
  exact gAdd_of (by show _ ≤ (nC_244 a b); omega) (by show (nC_244 a b) < _; omega) (by show _ ≤ (nC_206 a b); omega) (by show (nC_206 a b) < _; omega)
def nC_250 (a b : Int) : Int := (valW (hiZ (nC_244 a b)) (loZ (nC_244 a b)))
theorem eC_250 (a b : Int) (hc : wx a = wx b) : nC_250 a b = -((wx a : Nat) : Int) := by
  have x1 := wx_ge a
  have x2 := wx_le a
  have y1 := wx_ge b
  have y2 := wx_le b
  exact (val_wz _).trans (eC_244 a b hc)
def nC_251 (a b : Int) : Int := (valW (hiZ (nC_206 a b)) (loZ (nC_206 a b)))
theorem eC_251 (a b : Int) (hc : wx a = wx b) : nC_251 a b = ((wx b : Nat) : Int) := by
  have x1 := wx_ge a
  have x2 := wx_le a
  have y1 := wx_ge b
  have y2 := wx_le b
  exact (val_wz _).trans (eC_206 a b hc)
def nC_252 (a b : Int) : Int := ((nC_250 a b) + (nC_251 a b))
theorem eC_252 (a b : Int) (hc : wx a = wx b) : nC_252 a b = -((wx a : Nat) : Int) + ((wx b : Nat) : Int) := by
  have x1 := wx_ge a
  have x2 := wx_le a
  have y1 := wx_ge b
  have y2 := wx_le b
  have h250 := eC_250 a b hc
  have h251 := eC_251 a b hc
  show ((nC_250 a b) + (nC_251 a b)) = _
  omega
theorem bC_254 (a b : Int) (hc : wx a = wx b) : (Nat.blt (loZ (nC_252 a b)) 18446744073709551616) = true := by
  have x1 := wx_ge a
  have x2 := wx_le a
  have y1 := wx_ge b
  have y2 := wx_le b
  exact lo_lt _
def nC_256 (a b : Int) : Int := (valW (hiZ (nC_252 a b)) (loZ (nC_252 a b)))
theorem eC_256 (a b : Int) (hc : wx a = wx b) : nC_256 a b = -((wx a : Nat) : Int) + ((wx b : Nat) : Int) := by
  have x1 := wx_ge a
  have x2 := wx_le a
  have y1 := wx_ge b
  have y2 := wx_le b
  exact (val_wz _).trans (eC_252 a b hc)
theorem bC_257 (a b : Int) (hc : wx a = wx b) : (inI (nC_256 a b)) = true := by
  have x1 := wx_ge a
  have x2 := wx_le a
  have y1 := wx_ge b
  have y2 := wx_le b
  have h256 := eC_256 a b hc
  exact in_of (by show _ ≤ (nC_256 a b); omega) (by show (nC_256 a b) < _; omega)
theorem bC_258 (a b : Int) (hc : wx a = wx b) : (!(inI (nC_256 a b))) = false := by
  rw [bC_257 a b hc]
  rfl
theorem bC_259 (a b : Int) (hc : wx a = wx b) : (inI (nC_176 a b)) = true := by
  have x1 := wx_ge a
  have x2 := wx_le a
  have y1 := wx_ge b
  have y2 := wx_le b
  have h176 := eC_176 a b hc
  exact in_of (by show _ ≤ (nC_176 a b); omega) (by show (nC_176 a b) < _; omega)
def nC_262 (a b : Int) : Int := (valW (hiZ (nC_190 a b)) (loZ (nC_190 a b)))
theorem eC_262 (a b : Int) (hc : wx a = wx b) : nC_262 a b = 0 := by
  have x1 := wx_ge a
  have x2 := wx_le a
  have y1 := wx_ge b
  have y2 := wx_le b
  exact (val_wz _).trans (eC_190 a b hc)
def nC_263 (a b : Int) : Int := ((nC_31 a b) + (nC_262 a b))
theorem eC_263 (a b : Int) (hc : wx a = wx b) : nC_263 a b = 0 := by
  have x1 := wx_ge a
  have x2 := wx_le a
  have y1 := wx_ge b
  have y2 := wx_le b
  have h31 := eC_31 a b hc
  have h262 := eC_262 a b hc
  show ((nC_31 a b) + (nC_262 a b)) = _
  omega
theorem bC_268 (a b : Int) (hc : wx a = wx b) : (gAdd (hiZ (nC_263 a b)) (loZ (nC_263 a b)) (hiZ (nC_176 a b)) (loZ (nC_176 a b))) = true := by
  have x1 := wx_ge a
  have x2 := wx_le a
  have y1 := wx_ge b
  have y2 := wx_le b
  have h176 := eC_176 a b hc
  have h263 := eC_263 a b hc
  exact gAdd_of (by show _ ≤ (nC_263 a b); omega) (by show (nC_263 a b) < _; omega) (by show _ ≤ (nC_176 a b); omega) (by show (nC_176 a b) < _; omega)
theorem bC_269 (a b : Int) (hc : wx a = wx b) : (inI (nC_200 a b)) = true := by
  have x1 := wx_ge a
  have x2 := wx_le a
  have y1 := wx_ge b
  have y2 := wx_le b
  have h200 := eC_200 a b hc
  exact in_of (by show _ ≤ (nC_200 a b); omega) (by show (nC_200 a b) < _; omega)
def nC_270 (a b : Int) : Int := (valW (hiZ (nC_263 a b)) (loZ (nC_263 a b)))
theorem eC_270 (a b : Int) (hc : wx a = wx b) : nC_270 a b = 0 := by
  have x1 := wx_ge a
  have x2 := wx_le a
  have y1 := wx_ge b
  have y2 := wx_le b
  exact (val_wz _).trans (eC_263 a b hc)
def nC_271 (a b : Int) : Int := (valW (hiZ (nC_176 a b)) (loZ (nC_176 a b)))
theorem eC_271 (a b : Int) (hc : wx a = wx b) : nC_271 a b = 0 := by
  have x1 := wx_ge a
  have x2 := wx_le a
  have y1 := wx_ge b
  have y2 := wx_le b
  exact (val_wz _).trans (eC_176 a b hc)
def nC_272 (a b : Int) : Int := ((nC_270 a b) + (nC_271 a b))
theorem eC_272 (a b : Int) (hc : wx a = wx b) : nC_272 a b = 0 := by
  have x1 := wx_ge a
  have x2 := wx_le a
  have y1 := wx_ge b
  have y2 := wx_le b
  have h270 := eC_270 a b hc
  have h271 := eC_271 a b hc
  show ((nC_270 a b) + (nC_271 a b)) = _
  omega
theorem bC_277 (a b : Int) (hc : wx a = wx b) : (gAdd (hiZ (nC_272 a b)) (loZ (nC_272 a b)) (hiZ (nC_200 a b)) (loZ (nC_200 a b))) = true := by
  have x1 := wx_ge a
  have x2 := wx_le a
  have y1 := wx_ge b
  have y2 := wx_le b
  have h200 := eC_200 a b hc
  have h272 := eC_272 a b hc
  exact gAdd_of (by show _ ≤ (nC_272 a b); omega) (by show (nC_272 a b) < _; omega) (by show _ ≤ (nC_200 a b); omega) (by show (nC_200 a b) < _; omega)
theorem bC_278 (a b : Int) (hc : wx a = wx b) : (inI (nC_214 a b)) = true := by
  have x1 := wx_ge a
  have x2 := wx_le a
  have y1 := wx_ge b
  have y2 := wx_le b
  have h214 := eC_214 a b hc
  exact in_of (by show _ ≤ (nC_214 a b); omega) (by show (nC_214 a b) < _; omega)
def nC_279 (a b : Int) : Int := (valW (hiZ (nC_272 a b)) (loZ (nC_272 a b)))
theorem eC_279 (a b : Int) (hc : wx a = wx b) : nC_279 a b = 0 := by
  have x1 := wx_ge a
  have x2 := wx_le a
  have y1 := wx_ge b
  have y2 := wx_le b
  exact (val_wz _).trans (eC_272 a b hc)
def nC_280 (a b : Int) : Int := (valW (hiZ (nC_200 a b)) (loZ (nC_200 a b)))
theorem eC_280 (a b : Int) (hc : wx a = wx b) : nC_280 a b = 0 := by
  have x1 := wx_ge a
  have x2 := wx_le a
  have y1 := wx_ge b
  have y2 := wx_le b
  exact (val_wz _).trans (eC_200 a b hc)
def nC_281 (a b : Int) : Int := ((nC_279 a b) + (nC_280 a b))
theorem eC_281 (a b : Int) (hc : wx a = wx b) : nC_281 a b = 0 := by
  have x1 := wx_ge a
  have x2 := wx_le a
  have y1 := wx_ge b
  have y2 := wx_le b
  have h279 := eC_279 a b hc
  have h280 := eC_280 a b hc
  show ((nC_279 a b) + (nC_280 a b)) = _
  omega
theorem bC_286 (a b : Int) (hc : wx a = wx b) : (gAdd (hiZ (nC_281 a b)) (loZ (nC_281 a b)) (hiZ (nC_214 a b)) (loZ (nC_214 a b))) = true := by
  have x1 := wx_ge a
  have x2 := wx_le a
  have y1 := wx_ge b
  have y2 := wx_le b
  have h214 := eC_214 a b hc
  have h281 := eC_281 a b hc
  exact gAdd_of (by show _ ≤ (nC_281 a b); omega) (by show (nC_281 a b) < _; omega) (by show _ ≤ (nC_214 a b); omega) (by show (nC_214 a b) < _; omega)
def nC_287 (a b : Int) : Int := (valW (hiZ (nC_281 a b)) (loZ (nC_281 a b)))
theorem eC_287 (a b : Int) (hc : wx a = wx b) : nC_287 a b = 0 := by
  have x1 := wx_ge a
  have x2 := wx_le a
  have y1 := wx_ge b
  have y2 := wx_le b
  exact (val_wz _).trans (eC_281 a b hc)
def nC_288 (a b : Int) : Int := (valW (hiZ (nC_214 a b)) (loZ (nC_214 a b)))
theorem eC_288 (a b : Int) (hc : wx a = wx b) : nC_288 a b = 0 := by
  have x1 := wx_ge a
  have x2 := wx_le a
  have y1 := wx_ge b
  have y2 := wx_le b
  exact (val_wz _).trans (eC_214 a b hc)
def nC_289 (a b : Int) : Int := ((nC_287 a b) + (nC_288 a b))
theorem eC_289 (a b : Int) (hc : wx a = wx b) : nC_289 a b = 0 := by
  have x1 := wx_ge a
  have x2 := wx_le a
  have y1 := wx_ge b
  have y2 := wx_le b
  have h287 := eC_287 a b hc
  have h288 := eC_288 a b hc
  show ((nC_287 a b) + (nC_288 a b)) = _
  omega
theorem bC_291 (a b : Int) (hc : wx a = wx b) : (Nat.blt (loZ (nC_289 a b)) 18446744073709551616) = true := by
  have x1 := wx_ge a
  have x2 := wx_le a
  have y1 := wx_ge b
  have y2 := wx_le b
  exact lo_lt _
def nC_293 (a b : Int) : Int := (valW (hiZ (nC_289 a b)) (loZ (nC_289 a b)))
theorem eC_293 (a b : Int) (hc : wx a = wx b) : nC_293 a b = 0 := by
  have x1 := wx_ge a
  have x2 := wx_le a
  have y1 := wx_ge b
  have y2 := wx_le b
  exact (val_wz _).trans (eC_289 a b hc)
theorem bC_294 (a b : Int) (hc : wx a = wx b) : (inI (nC_293 a b)) = true := by
  have x1 := wx_ge a
  have x2 := wx_le a
  have y1 := wx_ge b
  have y2 := wx_le b
  have h293 := eC_293 a b hc
  exact in_of (by show _ ≤ (nC_293 a b); omega) (by show (nC_293 a b) < _; omega)
theorem bC_295 (a b : Int) (hc : wx a = wx b) : (!(inI (nC_293 a b))) = false := by
  rw [bC_294 a b hc]
  rfl
def nC_296 (a b : Int) : Int := (intZ (nC_235 a b))
theorem eC_296 (a b : Int) (hc : wx a = wx b) : nC_296 a b = ((wx a : Nat) : Int) - ((wx b : Nat) : Int) := by
  have x1 := wx_ge a
  have x2 := wx_le a
  have y1 := wx_ge b
  have y2 := wx_le b
  show (intZ (nC_235 a b)) = _
  rw [eC_235 a b hc]
  exact intZ_of (in_of (by omega) (by omega))
theorem bC_297 (a b : Int) (hc : wx a = wx b) : (eqI (nC_296 a b) 0) = true := by
  have x1 := wx_ge a
  have x2 := wx_le a
  have y1 := wx_ge b
  have y2 := wx_le b
  have h296 := eC_296 a b hc
  refine eq_y ?_
  show (nC_296 a b) = 0
  omega
def nC_298 (a b : Int) : Int := (intZ (nC_256 a b))
theorem eC_298 (a b : Int) (hc : wx a = wx b) : nC_298 a b = -((wx a : Nat) : Int) + ((wx b : Nat) : Int) := by
  have x1 := wx_ge a
  have x2 := wx_le a
  have y1 := wx_ge b
  have y2 := wx_le b
  show (intZ (nC_256 a b)) = _
  rw [eC_256 a b hc]
  exact intZ_of (in_of (by omega) (by omega))
theorem bC_299 (a b : Int) (hc : wx a = wx b) : (eqI (nC_298 a b) 0) = true := by
  have x1 := wx_ge a
  have x2 := wx_le a
  have y1 := wx_ge b
  have y2 := wx_le b
  have h298 := eC_298 a b hc
  refine eq_y ?_
  show (nC_298 a b) = 0
  omega
theorem bC_300 (a b : Int) (hc : wx a = wx b) : (!(eqI (nC_298 a b) 0)) = false := by
  rw [bC_299 a b hc]
  rfl
def nC_301 (a b : Int) : Int := (intZ (nC_293 a b))
theorem eC_301 (a b : Int) (hc : wx a = wx b) : nC_301 a b = 0 := by
  have x1 := wx_ge a
  have x2 := wx_le a
  have y1 := wx_ge b
  have y2 := wx_le b
  show (intZ (nC_293 a b)) = _
  rw [eC_293 a b hc]
  exact intZ_of (in_of (by omega) (by omega))
theorem bC_302 (a b : Int) (hc : wx a = wx b) : (eqI (nC_301 a b) 0) = true := by
  have x1 := wx_ge a
  have x2 := wx_le a
  have y1 := wx_ge b
  have y2 := wx_le b
  have h301 := eC_301 a b hc
  refine eq_y ?_
  show (nC_301 a b) = 0
  omega
theorem bC_303 (a b : Int) (hc : wx a = wx b) : (!(eqI (nC_301 a b) 0)) = false := by
  rw [bC_302 a b hc]
  rfl
theorem bC_304 (a b : Int) (hc : wx a = wx b) : (eqI (Int.ofNat (wx a)) (Int.ofNat (wx b))) = true := by
  have x1 := wx_ge a
  have x2 := wx_le a
  have y1 := wx_ge b
  have y2 := wx_le b
  refine eq_y ?_
  show (((wx a) : Nat) : Int) = (((wx b) : Nat) : Int)
  omega
theorem bC_305 (a b : Int) (hc : wx a = wx b) : (!(eqI (Int.ofNat (wx a)) (Int.ofNat (wx b)))) = false := by
  rw [bC_304 a b hc]
  rfl
theorem runC (a b : Int) : pairsE a b [(504, some false), (7, some false), (77, some false), (7, some false), (77, some false), (7, some false), (77, some false), (7, some false), (1900, some true), (24, some true), (24, some true), (24, some true), (200, some true), (0, some true), (6, some true), (0, some true), (28, some true), (0, some true), (6, some true), (0, some true), (17, some true), (0, some false), (0, some true), (3, some false), (2, some true), (13, some true), (0, some true), (6, some true), (0, some true), (28, some true), (0, some true), (6, some true), (0, some true), (3, some true), (0, some false), (0, some true), (0, some false), (2, some false), (2, some true), (2, some false), (299, some true), (0, some true), (35, some true), (0, some true), (3, some false), (1, some false), (0, some false), (1, some false), (1, some false), (0, some true), (0, some false), (1, some true), (2, some true), (0, some false), (1, some false), (0, some false), (1, some false), (1, some false), (0, some false), (0, some false), (1, some false), (0, some false), (1, some false), (1, some false), (0, some true), (2, some true), (3, some false), (365, some true), (0, some true), (34, some true), (0, some false), (8, some true), (0, some true), (38, some true), (0, some false), (8, some true), (0, some true), (3, some true), (0, some false), (166, some false), (1, some false), (0, some false), (150, some false), (1, some false), (0, some false), (51, some false), (0, some false), (0, some false), (0, some false), (150, some false), (0, some false), (0, some false), (0, some true), (50, some false), (0, some false), (0, some false), (0, some false), (57, some true), (0, some true), (20, some true), (0, some false), (8, some true), (0, some true), (26, some true), (0, some true), (20, some true), (0, some false), (36, some true), (0, some true), (26, some true), (0, some true), (26, some true), (0, some true), (3, some true), (0, some false), (3, some true), (2, some false), (1, some false), (1, some false)] =
  some [(true, true), ((!(eqI (Int.ofNat (wx a)) (Int.ofNat (wx b)))), false),
    ((!(eqI (nC_301 a b) 0)), false),
    ((!(eqI (nC_298 a b) 0)), false),
    ((eqI (nC_296 a b) 0), true),
    ((!(inI (nC_293 a b))), false),
    ((Nat.blt (loZ (nC_289 a b)) 18446744073709551616), true),
    ((gAdd (hiZ (nC_281 a b)) (loZ (nC_281 a b)) (hiZ (nC_214 a b)) (loZ (nC_214 a b))), true),
    ((inI (nC_214 a b)), true),
    ((gAdd (hiZ (nC_272 a b)) (loZ (nC_272 a b)) (hiZ (nC_200 a b)) (loZ (nC_200 a b))), true),
    ((inI (nC_200 a b)), true),
    ((gAdd (hiZ (nC_263 a b)) (loZ (nC_263 a b)) (hiZ (nC_176 a b)) (loZ (nC_176 a b))), true),
    ((inI (nC_176 a b)), true),
    ((!(inI (nC_256 a b))), false),
    ((Nat.blt (loZ (nC_252 a b)) 18446744073709551616), true),
    ((gAdd (hiZ (nC_244 a b)) (loZ (nC_244 a b)) (hiZ (nC_206 a b)) (loZ (nC_206 a b))), true),
    ((inI (nC_206 a b)), true),
    ((gAdd 0 0 (hiZ (nC_174 a b)) (loZ (nC_174 a b))), true),
    ((inI (nC_174 a b)), true),
    ((!(inI (nC_235 a b))), false),
    ((Nat.blt (loZ (nC_231 a b)) 18446744073709551616), true),
    ((gAdd (hiZ (nC_223 a b)) (loZ (nC_223 a b)) (hiZ (nC_194 a b)) (loZ (nC_194 a b))), true),
    ((inI (nC_194 a b)), true),
    ((ltI (nC_200 a b) (nC_214 a b)), false),
    ((ltI (nC_214 a b) (nC_200 a b)), false),
    ((!(eqI (nC_200 a b) (nC_200 a b))), false),
    ((!(eqI (nC_214 a b) (nC_214 a b))), false),
    ((ltI (nC_174 a b) (nC_206 a b)), true),
    ((ltI (nC_206 a b) (nC_174 a b)), false),
    ((!(eqI (nC_174 a b) (nC_174 a b))), false),
    ((!(eqI (nC_206 a b) (nC_206 a b))), false),
    ((ltI (nC_176 a b) (nC_200 a b)), false),
    ((ltI (nC_200 a b) (nC_176 a b)), false),
    ((!(eqI (nC_176 a b) (nC_176 a b))), false),
    ((!(eqI (nC_200 a b) (nC_200 a b))), false),
    ((ltI (nC_188 a b) (nC_194 a b)), false),
    ((ltI (nC_194 a b) (nC_188 a b)), false),
    ((!(eqI (nC_194 a b) (nC_194 a b))), false),
    ((ltI (nC_190 a b) (nC_176 a b)), false),
    ((ltI (nC_176 a b) (nC_190 a b)), false),
    ((!(eqI (nC_176 a b) (nC_176 a b))), false),
    ((!(inI (nC_168 a b))), false),
    ((Nat.blt (loZ (nC_164 a b)) 18446744073709551616), true),
    ((gAdd 0 0 (hiZ (Int.ofNat (wx b))) (loZ (Int.ofNat (wx b)))), true),
    ((inI (Int.ofNat (wx b))), true),
    ((!(inI (nC_160 a b))), false),
    ((Nat.blt (loZ (nC_156 a b)) 18446744073709551616), true),
    ((gAdd 0 0 (hiZ (nC_150 a b)) (loZ (nC_150 a b))), true),
    ((inI (nC_150 a b)), true),
    ((!(inI (nC_147 a b))), false),
    ((Nat.blt (loZ (nC_143 a b)) 18446744073709551616), true),
    ((gAdd 0 0 (hiZ (nC_10 a b)) (loZ (nC_10 a b))), true),
    ((inI (nC_10 a b)), true),
    ((!(inI (nC_139 a b))), false),
    ((Nat.blt (loZ (nC_126 a b)) 18446744073709551616), true),
    ((ltI 0 (Int.ofNat (loZ (nC_33 a b)))), true),
    ((ltI (Int.ofNat (loZ (nC_33 a b))) 0), false),
    ((!(eqI (Int.ofNat (loZ (nC_33 a b))) (Int.ofNat (loZ (nC_33 a b))))), false),
    ((ltI 0 (hiZ (nC_33 a b))), false),
    ((ltI (hiZ (nC_33 a b)) 0), false),
    ((!(eqI (hiZ (nC_33 a b)) (hiZ (nC_33 a b)))), false),
    ((ltI 0 (Int.ofNat (loZ (nC_126 a b)))), false),
    ((ltI (Int.ofNat (loZ (nC_126 a b))) 0), false),
    ((!(eqI (Int.ofNat (loZ (nC_126 a b))) (Int.ofNat (loZ (nC_126 a b))))), false),
    ((ltI 0 (hiZ (nC_126 a b))), false),
    ((ltI (hiZ (nC_126 a b)) 0), false),
    ((!(eqI (hiZ (nC_126 a b)) (hiZ (nC_126 a b)))), false),
    ((gAdd (hiZ (nC_33 a b)) (loZ (nC_33 a b)) (hiZ (nC_83 a b)) (loZ (nC_83 a b))), true),
    ((ltI (hiZ (nC_83 a b)) 0), true),
    ((!(eqI (hiZ (nC_83 a b)) (hiZ (nC_83 a b)))), false),
    ((ltI 0 (Int.ofNat (loZ (nC_33 a b)))), true),
    ((ltI (Int.ofNat (loZ (nC_33 a b))) 0), false),
    ((!(eqI (Int.ofNat (loZ (nC_33 a b))) (Int.ofNat (loZ (nC_33 a b))))), false),
    ((ltI 0 (hiZ (nC_33 a b))), false),
    ((ltI (hiZ (nC_33 a b)) 0), false),
    ((!(eqI (hiZ (nC_33 a b)) (hiZ (nC_33 a b)))), false),
    ((gAdd 0 0 (hiZ (nC_17 a b)) (loZ (nC_17 a b))), true),
    ((inI (nC_17 a b)), true),
    ((gAdd 0 0 (hiZ (Int.ofNat (wx a))) (loZ (Int.ofNat (wx a)))), true),
    ((inI (Int.ofNat (wx a))), true),
    ((!(inI (nC_108 a b))), false),
    ((eqI (nC_111 a b) 0), true),
    ((!(inI (nC_108 a b))), false),
    ((!(inI (nC_74 a b))), false),
    (((smallH (hiZ (nC_91 a b))) && (Nat.blt (loZ (nC_91 a b)) 18446744073709551616)), true),
    ((eqB false (eq0 (nC_91 a b))), false),
    ((eq0 (nC_91 a b)).isSome, true),
    ((gAdd (hiZ (nC_83 a b)) (loZ (nC_83 a b)) (hiZ (Int.ofNat (wx b))) (loZ (Int.ofNat (wx b)))), true),
    ((inI (Int.ofNat (wx b))), true),
    ((gAdd (hiZ (nC_83 a b)) (loZ (nC_83 a b)) (hiZ (Int.ofNat (wx b))) (loZ (Int.ofNat (wx b)))), true),
    ((inI (Int.ofNat (wx b))), true),
    ((gAdd 0 0 (hiZ (nC_17 a b)) (loZ (nC_17 a b))), true),
    ((inI (nC_17 a b)), true),
    ((gAdd 0 0 (hiZ (nC_17 a b)) (loZ (nC_17 a b))), true),
    ((inI (nC_17 a b)), true),
    ((eqI (nC_77 a b) 0), true),
    ((!(inI (nC_74 a b))), false),
    (((smallH (hiZ (nC_43 a b))) && (Nat.blt (loZ (nC_43 a b)) 18446744073709551616)), true),
    ((eqB false (eq0 (nC_43 a b))), false),
    ((eq0 (nC_43 a b)).isSome, true),
    ((gAdd (hiZ (nC_33 a b)) (loZ (nC_33 a b)) (hiZ (nC_10 a b)) (loZ (nC_10 a b))), true),
    ((inI (nC_10 a b)), true),
    ((gAdd (hiZ (nC_33 a b)) (loZ (nC_33 a b)) (hiZ (nC_10 a b)) (loZ (nC_10 a b))), true),
    ((inI (nC_10 a b)), true),
    ((gAdd 0 0 (hiZ (Int.ofNat (wx a))) (loZ (Int.ofNat (wx a)))), true),
    ((inI (Int.ofNat (wx a))), true),
    ((gAdd 0 0 (hiZ (Int.ofNat (wx a))) (loZ (Int.ofNat (wx a)))), true),
    ((inI (Int.ofNat (wx a))), true),
    ((inI (Int.ofNat (wx b))), true),
    ((inI (nC_17 a b)), true),
    ((inI (nC_10 a b)), true),
    ((inI (Int.ofNat (wx a))), true),
    ((ltI 9223372036854775807 (Int.ofNat (wx b))), false),
    ((ltI (Int.ofNat (wx b)) (-9223372036854775807)), false),
    ((ltI 9223372036854775807 (nC_17 a b)), false),
    ((ltI (nC_17 a b) (-9223372036854775807)), false),
    ((ltI 9223372036854775807 (nC_10 a b)), false),
    ((ltI (nC_10 a b) (-9223372036854775807)), false),
    ((ltI 9223372036854775807 (Int.ofNat (wx a))), false),
    ((ltI (Int.ofNat (wx a)) (-9223372036854775807)), false)] := by kernel_rfl
theorem pairsC (a b : Int) (hc : wx a = wx b) (W : World) : Calls Tryz.prog 3 #[.int .i64 a, .int .i64 b] W fun x w' => x = .returned (.bool true) ∧ Go.RowKit.Below W.heap.size W w' :=
  callsO_true hP hmix tolds_P (runC a b) (qcons rfl (qcons (bC_305 a b hc) (qcons (bC_303 a b hc) (qcons (bC_300 a b hc) (qcons (bC_297 a b hc) (qcons (bC_295 a b hc) (qcons (bC_291 a b hc) (qcons (bC_286 a b hc) (qcons (bC_278 a b hc) (qcons (bC_277 a b hc) (qcons (bC_269 a b hc) (qcons (bC_268 a b hc) (qcons (bC_259 a b hc) (qcons (bC_258 a b hc) (qcons (bC_254 a b hc) (qcons (bC_249 a b hc) (qcons (bC_242 a b hc) (qcons (bC_241 a b hc) (qcons (bC_238 a b hc) (qcons (bC_237 a b hc) (qcons (bC_233 a b hc) (qcons (bC_228 a b hc) (qcons (bC_219 a b hc) (qcons (bC_218 a b hc) (qcons (bC_217 a b hc) (qcons (bC_202 a b hc) (qcons (bC_216 a b hc) (qcons (bC_212 a b hc) (qcons (bC_211 a b hc) (qcons (bC_210 a b hc) (qcons (bC_208 a b hc) (qcons (bC_204 a b hc) (qcons (bC_203 a b hc) (qcons (bC_178 a b hc) (qcons (bC_202 a b hc) (qcons (bC_198 a b hc) (qcons (bC_197 a b hc) (qcons (bC_196 a b hc) (qcons (bC_192 a b hc) (qcons (bC_191 a b hc) (qcons (bC_178 a b hc) (qcons (bC_170 a b hc) (qcons (bC_166 a b hc) (qcons (bC_163 a b hc) (qcons (bC_25 a b hc) (qcons (bC_162 a b hc) (qcons (bC_158 a b hc) (qcons (bC_154 a b hc) (qcons (bC_151 a b hc) (qcons (bC_149 a b hc) (qcons (bC_145 a b hc) (qcons (bC_142 a b hc) (qcons (bC_23 a b hc) (qcons (bC_141 a b hc) (qcons (bC_138 a b hc) (qcons (bC_121 a b hc) (qcons (bC_120 a b hc) (qcons (bC_119 a b hc) (qcons (bC_116 a b hc) (qcons (bC_115 a b hc) (qcons (bC_114 a b hc) (qcons (bC_137 a b hc) (qcons (bC_136 a b hc) (qcons (bC_135 a b hc) (qcons (bC_131 a b hc) (qcons (bC_130 a b hc) (qcons (bC_129 a b hc) (qcons (bC_125 a b hc) (qcons (bC_124 a b hc) (qcons (bC_123 a b hc) (qcons (bC_121 a b hc) (qcons (bC_120 a b hc) (qcons (bC_119 a b hc) (qcons (bC_116 a b hc) (qcons (bC_115 a b hc) (qcons (bC_114 a b hc) (qcons (bC_81 a b hc) (qcons (bC_24 a b hc) (qcons (bC_30 a b hc) (qcons (bC_22 a b hc) (qcons (bC_110 a b hc) (qcons (bC_112 a b hc) (qcons (bC_110 a b hc) (qcons (bC_76 a b hc) (qcons (bC_106 a b hc) (qcons (bC_103 a b hc) (qcons (bC_102 a b hc) (qcons (bC_88 a b hc) (qcons (bC_25 a b hc) (qcons (bC_88 a b hc) (qcons (bC_25 a b hc) (qcons (bC_81 a b hc) (qcons (bC_24 a b hc) (qcons (bC_81 a b hc) (qcons (bC_24 a b hc) (qcons (bC_78 a b hc) (qcons (bC_76 a b hc) (qcons (bC_72 a b hc) (qcons (bC_68 a b hc) (qcons (bC_66 a b hc) (qcons (bC_38 a b hc) (qcons (bC_23 a b hc) (qcons (bC_38 a b hc) (qcons (bC_23 a b hc) (qcons (bC_30 a b hc) (qcons (bC_22 a b hc) (qcons (bC_30 a b hc) (qcons (bC_22 a b hc) (qcons (bC_25 a b hc) (qcons (bC_24 a b hc) (qcons (bC_23 a b hc) (qcons (bC_22 a b hc) (qcons (bC_21 a b hc) (qcons (bC_20 a b hc) (qcons (bC_19 a b hc) (qcons (bC_18 a b hc) (qcons (bC_12 a b hc) (qcons (bC_11 a b hc) (qcons (bC_6 a b hc) (qcons (bC_5 a b hc) qnil)))))))))))))))))))))))))))))))))))))))))))))))))))))))))))))))))))))))))))))))))))))))))))))))))))))))))))))))))))))))) (.cons ((plain_int _ _).1 _) (.cons ((plain_int _ _).1 _) .nil)) W
end Go.Proofs.YtinlmdapgejdoaaGreat.sp
end
end

section
/- What two entities owe each other: the law, all ways. -/
noncomputable section
namespace Go.Proofs.YtinlmdapgejdoaaGreat.sp
open AE
theorem closingPairs_any (a b : Int) (W : World) : Calls Tryz.prog 3 #[.int .i64 a, .int .i64 b] W fun x w' => x = .returned (.bool true) ∧ Go.RowKit.Below W.heap.size W w' := by
  rcases Nat.lt_trichotomy (wx a) (wx b) with h | h | h
  · exact pairsB a b h W
  · exact pairsC a b h W
  · exact pairsA a b h W
end Go.Proofs.YtinlmdapgejdoaaGreat.sp
end
end

section
/- What two entities that are all ours owe each other in one group, in one currency, isn't in the statement; what one owes alone is: at all numbers. -/
namespace Go.Proofs.YtinlmdapgejdoaaGreat.closingPairs
open Go.ChangeShapes Go.WideShapes Go.ChangeAt Go.RowKit
set_option linter.unusedVariables false

theorem own : ownKnob Tryz.prog.godebug = none := by kernel_rfl
theorem laidOut : laidOutB Tryz.prog = true := by kernel_rfl

set_option maxRecDepth 100000 in
set_option maxHeartbeats 1600000 in
theorem lifted (os : Os) (started : os.Started) (H : Type) (enc : TypeId × Value → H) :
    ReturnsInHanded {} Tryz.checked os 3 .any (Rows.closingPairsSpec.pre6 enc Tryz.prog Tryz.f3 Rows.closingPairsRow.domain false) (Rows.closingPairsSpec.post enc Tryz.prog Tryz.f3 false true false false) := by
  refine returnsInHanded_of_change (C := Tryz.checked) own started (by kernel_rfl) Tryz.func3
    (ChangeSpec.witness6 (enc := enc) (C := Tryz.checked) false ⟨#[], #[.int .i64 0, .int .i64 0], []⟩ 8 (by kernel_rfl) (by kernel_rfl) (by kernel_rfl) (by kernel_rfl)) ?_
  intro W base args ds gs before hval0 hW hcnd _
  have hval : ∀ (j : Nat) t v, Tryz.f3.params[j]? = some t → args[j]? = some v → Value.okWide Tryz.prog W .any base t v := hval0
  have hW' := hW
  obtain ⟨p, q, hA0, hV, rfl, hfz, hnd⟩ := hW
  have hA : DataW.TrodAll enc Tryz.prog W 0 (fun _ => true) true Tryz.f3.params.toList args.toList ds p := hA0
  rw [Tryz.params3] at hA hval
  obtain ⟨v0, vs0, d0, ds0, p0, q0, hargs, rfl, rfl, h0, r0⟩ := trodAll_cons hA
  obtain ⟨v1, vs1, d1, ds1, p1, q1, rfl, rfl, rfl, h1, r1⟩ := trodAll_cons r0
  obtain ⟨rfl, rfl, rfl⟩ := trodAll_nil r1
  obtain rfl : args = #[v0, v1] := by cases args; simp_all
  obtain ⟨rfl, rfl⟩ := trodVars_none hV
  have k0 := h0
  have lt0 : ∀ x ∈ p0, x.block < W.heap.size := by obtain ⟨m, hm⟩ := k0; exact DataW.trod_lt m _ _ _ hm
  have k1 := h1
  have lt1 : ∀ x ∈ p1, x.block < W.heap.size := by obtain ⟨m, hm⟩ := k1; exact DataW.trod_lt m _ _ _ hm
  obtain ⟨a0, rfl, rfl, rfl, w0⟩ := open_int Tryz.underlying3 (hval 0 3 v0 rfl rfl) h0
  obtain ⟨a1, rfl, rfl, rfl, w1⟩ := open_int Tryz.underlying3 (hval 1 3 v1 rfl rfl) h1
  clear hA0 hval0
  refine (sp.closingPairs_any a0 a1 W).mono fun e W' ⟨he, bel⟩ => ?_
  subst he
  exact ⟨_, rfl, _, _, _, [], _, [], hW', trodAll_mk1 (shut_bool Tryz.underlying4 _), (trodAll_cons_mk (Below.trod laidOut (by kernel_rfl) (of_decide_eq_true (by kernel_rfl)) k0 bel lt0) (trodAll_cons_mk (Below.trod laidOut (by kernel_rfl) (of_decide_eq_true (by kernel_rfl)) k1 bel lt1) trodAll_mk0)), rfl, bel.frame _, fun h => by cases h⟩

theorem over : Rows.closingPairsRow.holds Tryz.pinned (OpenSpec.ofChange Rows.closingPairsSpec) :=
  OpenClaim.holds_of_wide 3 Tryz.f3 rfl rfl rfl rfl rfl rfl rfl ⟨rfl, rfl, rfl, rfl, rfl⟩ rfl rfl rfl rfl rfl (by kernel_rfl) Tryz.func3 (by kernel_rfl)
    (of_decide_eq_true (by kernel_rfl)) (by unfold Func.isWrapper; first | (rw [if_pos (by decide +kernel)]; kernel_rfl) | (rw [if_neg (by decide +kernel)]; exact ⟨rfl, rfl⟩))
    (fun os started H enc _ => lifted os started H enc)

/-- the statement -/
theorem proved : Rows.ClosingPairsSaid := over
#print axioms proved
end Go.Proofs.YtinlmdapgejdoaaGreat.closingPairs
end
