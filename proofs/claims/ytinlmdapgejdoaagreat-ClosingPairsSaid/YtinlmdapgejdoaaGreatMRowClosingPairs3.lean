/- What two entities owe each other: one way through (printed by wip/gen/asks2lean.py). -/
import Derived.Test.YtinlmdapgejdoaaGreatMRowClosingPairs2
section
/- What two entities owe each other: one way through (printed by wip/gen/asks2lean.py). -/
noncomputable section
namespace Go.Proofs.YtinlmdapgejdoaaGreat.sp
open AE
set_option linter.unusedSimpArgs false
set_option linter.unusedVariables false
set_option maxRecDepth 100000
theorem bB_5 (a b : Int) (hc : wx a < wx b) : (ltI (Int.ofNat (wx a)) (-9223372036854775807)) = false := by
  have x1 := wx_ge a
  have x2 := wx_le a
  have y1 := wx_ge b
  have y2 := wx_le b
  refine lt_n ?_
  show ¬ ((((wx a) : Nat) : Int) < (-9223372036854775807))
  omega
theorem bB_6 (a b : Int) (hc : wx a < wx b) : (ltI 9223372036854775807 (Int.ofNat (wx a))) = false := by
  have x1 := wx_ge a
  have x2 := wx_le a
  have y1 := wx_ge b
  have y2 := wx_le b
  refine lt_n ?_
  show ¬ (9223372036854775807 < (((wx a) : Nat) : Int))
  omega
def nB_9 (a b : Int) : Int := (Int.sub 0 (Int.ofNat (wx a)))
theorem eB_9 (a b : Int) (hc : wx a < wx b) : nB_9 a b = -((wx a : Nat) : Int) := by
  have x1 := wx_ge a
  have x2 := wx_le a
  have y1 := wx_ge b
  have y2 := wx_le b
  show (0 - (((wx a) : Nat) : Int)) = _
  omega
def nB_10 (a b : Int) : Int := (wrapA .i64 (nB_9 a b))
theorem eB_10 (a b : Int) (hc : wx a < wx b) : nB_10 a b = -((wx a : Nat) : Int) := by
  have x1 := wx_ge a
  have x2 := wx_le a
  have y1 := wx_ge b
  have y2 := wx_le b
  show (wrapA .i64 (nB_9 a b)) = _
  rw [eB_9 a b hc]
  exact wrapI (by omega) (by omega)
theorem bB_11 (a b : Int) (hc : wx a < wx b) : (ltI (nB_10 a b) (-9223372036854775807)) = false := by
  have x1 := wx_ge a
  have x2 := wx_le a
  have y1 := wx_ge b
  have y2 := wx_le b
  have h10 := eB_10 a b hc
  refine lt_n ?_
  show ¬ ((nB_10 a b) < (-9223372036854775807))
  omega
theorem bB_12 (a b : Int) (hc : wx a < wx b) : (ltI 9223372036854775807 (nB_10 a b)) = false := by
  have x1 := wx_ge a
  have x2 := wx_le a
  have y1 := wx_ge b
  have y2 := wx_le b
  have h10 := eB_10 a b hc
  refine lt_n ?_
  show ¬ (9223372036854775807 < (nB_10 a b))
  omega
def nB_16 (a b : Int) : Int := (Int.sub 0 (Int.ofNat (wx b)))
theorem eB_16 (a b : Int) (hc : wx a < wx b) : nB_16 a b = -((wx b : Nat) : Int) := by
  have x1 := wx_ge a
  have x2 := wx_le a
  have y1 := wx_ge b
  have y2 := wx_le b
  show (0 - (((wx b) : Nat) : Int)) = _
  omega
def nB_17 (a b : Int) : Int := (wrapA .i64 (nB_16 a b))
theorem eB_17 (a b : Int) (hc : wx a < wx b) : nB_17 a b = -((wx b : Nat) : Int) := by
  have x1 := wx_ge a
  have x2 := wx_le a
  have y1 := wx_ge b
  have y2 := wx_le b
  show (wrapA .i64 (nB_16 a b)) = _
  rw [eB_16 a b hc]
  exact wrapI (by omega) (by omega)
theorem bB_18 (a b : Int) (hc : wx a < wx b) : (ltI (nB_17 a b) (-9223372036854775807)) = false := by
  have x1 := wx_ge a
  have x2 := wx_le a
  have y1 := wx_ge b
  have y2 := wx_le b
  have h17 := eB_17 a b hc
  refine lt_n ?_
  show ¬ ((nB_17 a b) < (-9223372036854775807))
  omega
theorem bB_19 (a b : Int) (hc : wx a < wx b) : (ltI 9223372036854775807 (nB_17 a b)) = false := by
  have x1 := wx_ge a
  have x2 := wx_le a
  have y1 := wx_ge b
  have y2 := wx_le b
  have h17 := eB_17 a b hc
  refine lt_n ?_
  show ¬ (9223372036854775807 < (nB_17 a b))
  omega
theorem bB_20 (a b : Int) (hc : wx a < wx b) : (ltI (Int.ofNat (wx b)) (-9223372036854775807)) = false := by
  have x1 := wx_ge a
  have x2 := wx_le a
  have y1 := wx_ge b
  have y2 := wx_le b
  refine lt_n ?_
  show ¬ ((((wx b) : Nat) : Int) < (-9223372036854775807))
  omega
theorem bB_21 (a b : Int) (hc : wx a < wx b) : (ltI 9223372036854775807 (Int.ofNat (wx b))) = false := by
  have x1 := wx_ge a
  have x2 := wx_le a
  have y1 := wx_ge b
  have y2 := wx_le b
  refine lt_n ?_
  show ¬ (9223372036854775807 < (((wx b) : Nat) : Int))
  omega
theorem bB_22 (a b : Int) (hc : wx a < wx b) : (inI (Int.ofNat (wx a))) = true := by
  have x1 := wx_ge a
  have x2 := wx_le a
  have y1 := wx_ge b
  have y2 := wx_le b
  exact in_of (by show _ ≤ (((wx a) : Nat) : Int); omega) (by show (((wx a) : Nat) : Int) < _; omega)
theorem bB_23 (a b : Int) (hc : wx a < wx b) : (inI (nB_10 a b)) = true := by
  have x1 := wx_ge a
  have x2 := wx_le a
  have y1 := wx_ge b
  have y2 := wx_le b
  have h10 := eB_10 a b hc
  exact in_of (by show _ ≤ (nB_10 a b); omega) (by show (nB_10 a b) < _; omega)
theorem bB_24 (a b : Int) (hc : wx a < wx b) : (inI (nB_17 a b)) = true := by
  have x1 := wx_ge a
  have x2 := wx_le a
  have y1 := wx_ge b
  have y2 := wx_le b
  have h17 := eB_17 a b hc
  exact in_of (by show _ ≤ (nB_17 a b); omega) (by show (nB_17 a b) < _; omega)
theorem bB_25 (a b : Int) (hc : wx a < wx b) : (inI (Int.ofNat (wx b))) = true := by
  have x1 := wx_ge a
  have x2 := wx_le a
  have y1 := wx_ge b
  have y2 := wx_le b
  exact in_of (by show _ ≤ (((wx b) : Nat) : Int); omega) (by show (((wx b) : Nat) : Int) < _; omega)
theorem bB_30 (a b : Int) (hc : wx a < wx b) : (gAdd 0 0 (hiZ (Int.ofNat (wx a))) (loZ (Int.ofNat (wx a)))) = true := by
  have x1 := wx_ge a
  have x2 := wx_le a
  have y1 := wx_ge b
  have y2 := wx_le b
  exact gAdd_0 (by show _ ≤ (((wx a) : Nat) : Int); omega) (by show (((wx a) : Nat) : Int) < _; omega)
def nB_31 (a b : Int) : Int := (valW 0 0)
theorem eB_31 (a b : Int) (hc : wx a < wx b) : nB_31 a b = 0 := by
  have x1 := wx_ge a
  have x2 := wx_le a
  have y1 := wx_ge b
  have y2 := wx_le b
  rfl
def nB_32 (a b : Int) : Int := (valW (hiZ (Int.ofNat (wx a))) (loZ (Int.ofNat (wx a))))
theorem eB_32 (a b : Int) (hc : wx a < wx b) : nB_32 a b = ((wx a : Nat) : Int) := by
  have x1 := wx_ge a
  have x2 := wx_le a
  have y1 := wx_ge b
  have y2 := wx_le b
  exact val_wz _
def nB_33 (a b : Int) : Int := ((nB_31 a b) + (nB_32 a b))
theorem eB_33 (a b : Int) (hc : wx a < wx b) : nB_33 a b = ((wx a : Nat) : Int) := by
  have x1 := wx_ge a
  have x2 := wx_le a
  have y1 := wx_ge b
  have y2 := wx_le b
  have h31 := eB_31 a b hc
  have h32 := eB_32 a b hc
  show ((nB_31 a b) + (nB_32 a b)) = _
  omega
theorem bB_38 (a b : Int) (hc : wx a < wx b) : (gAdd (hiZ (nB_33 a b)) (loZ (nB_33 a b)) (hiZ (nB_10 a b)) (loZ (nB_10 a b))) = true := by
  have x1 := wx_ge a
  have x2 := wx_le a
  have y1 := wx_ge b
  have y2 := wx_le b
  have h10 := eB_10 a b hc
  have h33 := eB_33 a b hc
  exact gAdd_of (by show _ ≤ (nB_33 a b); omega) (by show (nB_33 a b) < _; omega) (by show _ ≤ (nB_10 a b); omega) (by show (nB_10 a b) < _; omega)
def nB_41 (a b : Int) : Int := (valW (hiZ (nB_33 a b)) (loZ (nB_33 a b)))
theorem eB_41 (a b : Int) (hc : wx a < wx b) : nB_41 a b = ((wx a : Nat) : Int) := by
  have x1 := wx_ge a
  have x2 := wx_le a
  have y1 := wx_ge b
  have y2 := wx_le b
  exact (val_wz _).trans (eB_33 a b hc)
def nB_42 (a b : Int) : Int := (valW (hiZ (nB_10 a b)) (loZ (nB_10 a b)))
theorem eB_42 (a b : Int) (hc : wx a < wx b) : nB_42 a b = -((wx a : Nat) : Int) := by
  have x1 := wx_ge a
  have x2 := wx_le a
  have y1 := wx_ge b
  have y2 := wx_le b
  exact (val_wz _).trans (eB_10 a b hc)
def nB_43 (a b : Int) : Int := ((nB_41 a b) + (nB_42 a b))
theorem eB_43 (a b : Int) (hc : wx a < wx b) : nB_43 a b = 0 := by
  have x1 := wx_ge a
  have x2 := wx_le a
  have y1 := wx_ge b
  have y2 := wx_le b
  have h41 := eB_41 a b hc
  have h42 := eB_42 a b hc
  show ((nB_41 a b) + (nB_42 a b)) = _
  omega
theorem bB_66 (a b : Int) (hc : wx a < wx b) : (eq0 (nB_43 a b)).isSome = true := by
  rw [eq0_is]
  rfl
theorem bB_68 (a b : Int) (hc : wx a < wx b) : (eqB false (eq0 (nB_43 a b))) = false := by
  have x1 := wx_ge a
  have x2 := wx_le a
  have y1 := wx_ge b
  have y2 := wx_le b
  have h43 := eB_43 a b hc
  rw [eq0_is, decide_eq_true (by omega)]
  rfl
theorem bB_72 (a b : Int) (hc : wx a < wx b) : ((smallH (hiZ (nB_43 a b))) && (Nat.blt (loZ (nB_43 a b)) 18446744073709551616)) = true := by
  have x1 := wx_ge a
  have x2 := wx_le a
  have y1 := wx_ge b
  have y2 := wx_le b
  have h43 := eB_43 a b hc
  exact opp_of (by show _ ≤ (nB_43 a b); omega) (by show (nB_43 a b) < _; omega)
def nB_73 (a b : Int) : Int := (valW (hiZ (nB_43 a b)) (loZ (nB_43 a b)))
theorem eB_73 (a b : Int) (hc : wx a < wx b) : nB_73 a b = 0 := by
  have x1 := wx_ge a
  have x2 := wx_le a
  have y1 := wx_ge b
  have y2 := wx_le b
  exact (val_wz _).trans (eB_43 a b hc)
def nB_74 (a b : Int) : Int := (-(nB_73 a b))
theorem eB_74 (a b : Int) (hc : wx a < wx b) : nB_74 a b = 0 := by
  have x1 := wx_ge a
  have x2 := wx_le a
  have y1 := wx_ge b
  have y2 := wx_le b
  have h73 := eB_73 a b hc
  show (-(nB_73 a b)) = _
  omega
theorem bB_75 (a b : Int) (hc : wx a < wx b) : (inI (nB_74 a b)) = true := by
  have x1 := wx_ge a
  have x2 := wx_le a
  have y1 := wx_ge b
  have y2 := wx_le b
  have h74 := eB_74 a b hc
  exact in_of (by show _ ≤ (nB_74 a b); omega) (by show (nB_74 a b) < _; omega)
theorem bB_76 (a b : Int) (hc : wx a < wx b) : (!(inI (nB_74 a b))) = false := by
  rw [bB_75 a b hc]
  rfl
def nB_77 (a b : Int) : Int := (intZ (nB_74 a b))
theorem eB_77 (a b : Int) (hc : wx a < wx b) : nB_77 a b = 0 := by
  have x1 := wx_ge a
  have x2 := wx_le a
  have y1 := wx_ge b
  have y2 := wx_le b
  show (intZ (nB_74 a b)) = _
  rw [eB_74 a b hc]
  exact intZ_of (in_of (by omega) (by omega))
theorem bB_78 (a b : Int) (hc : wx a < wx b) : (eqI (nB_77 a b) 0) = true := by
  have x1 := wx_ge a
  have x2 := wx_le a
  have y1 := wx_ge b
  have y2 := wx_le b
  have h77 := eB_77 a b hc
  refine eq_y ?_
  show (nB_77 a b) = 0
  omega
theorem bB_81 (a b : Int) (hc : wx a < wx b) : (gAdd 0 0 (hiZ (nB_17 a b)) (loZ (nB_17 a b))) = true := by
  have x1 := wx_ge a
  have x2 := wx_le a
  have y1 := wx_ge b
  have y2 := wx_le b
  have h17 := eB_17 a b hc
  exact gAdd_0 (by show _ ≤ (nB_17 a b); omega) (by show (nB_17 a b) < _; omega)
def nB_82 (a b : Int) : Int := (valW (hiZ (nB_17 a b)) (loZ (nB_17 a b)))
theorem eB_82 (a b : Int) (hc : wx a < wx b) : nB_82 a b = -((wx b : Nat) : Int) := by
  have x1 := wx_ge a
  have x2 := wx_le a
  have y1 := wx_ge b
  have y2 := wx_le b
  exact (val_wz _).trans (eB_17 a b hc)
def nB_83 (a b : Int) : Int := ((nB_31 a b) + (nB_82 a b))
theorem eB_83 (a b : Int) (hc : wx a < wx b) : nB_83 a b = -((wx b : Nat) : Int) := by
  have x1 := wx_ge a
  have x2 := wx_le a
  have y1 := wx_ge b
  have y2 := wx_le b
  have h31 := eB_31 a b hc
  have h82 := eB_82 a b hc
  show ((nB_31 a b) + (nB_82 a b)) = _
  omega
theorem bB_88 (a b : Int) (hc : wx a < wx b) : (gAdd (hiZ (nB_83 a b)) (loZ (nB_83 a b)) (hiZ (Int.ofNat (wx b))) (loZ (Int.ofNat (wx b)))) = true := by
  have x1 := wx_ge a
  have x2 := wx_le a
  have y1 := wx_ge b
  have y2 := wx_le b
  have h83 := eB_83 a b hc
  exact gAdd_of (by show _ ≤ (nB_83 a b); omega) (by show (nB_83 a b) < _; omega) (by show _ ≤ (((wx b) : Nat) : Int); omega) (by show (((wx b) : Nat) : Int) < _; omega)
def nB_89 (a b : Int) : Int := (valW (hiZ (nB_83 a b)) (loZ (nB_83 a b)))
theorem eB_89 (a b : Int) (hc : wx a < wx b) : nB_89 a b = -((wx b : Nat) : Int) := by
  have x1 := wx_ge a
  have x2 := wx_le a
  have y1 := wx_ge b
  have y2 := wx_le b
  exact (val_wz _).trans (eB_83 a b hc)
def nB_90 (a b : Int) : Int := (valW (hiZ (Int.ofNat (wx b))) (loZ (Int.ofNat (wx b))))
theorem eB_90 (a b : Int) (hc : wx a < wx b) : nB_90 a b = ((wx b : Nat) : Int) := by
  have x1 := wx_ge a
  have x2 := wx_le a
  have y1 := wx_ge b
  have y2 := wx_le b
  exact val_wz _
def nB_91 (a b : Int) : Int := ((nB_89 a b) + (nB_90 a b))
theorem eB_91 (a b : Int) (hc : wx a < wx b) : nB_91 a b = 0 := by
  have x1 := wx_ge a
  have x2 := wx_le a
  have y1 := wx_ge b
  have y2 := wx_le b
  have h89 := eB_89 a b hc
  have h90 := eB_90 a b hc
  show ((nB_89 a b) + (nB_90 a b)) = _
  omega
theorem bB_102 (a b : Int) (hc : wx a < wx b) : (eq0 (nB_91 a b)).isSome = true := by
  rw [eq0_is]
  rfl
theorem bB_103 (a b : Int) (hc : wx a < wx b) : (eqB false (eq0 (nB_91 a b))) = false := by
  have x1 := wx_ge a
  have x2 := wx_le a
  have y1 := wx_ge b
  have y2 := wx_le b
  have h91 := eB_91 a b hc
  rw [eq0_is, decide_eq_true (by omega)]
  rfl
theorem bB_106 (a b : Int) (hc : wx a < wx b) : ((smallH (hiZ (nB_91 a b))) && (Nat.blt (loZ (nB_91 a b)) 18446744073709551616)) = true := by
  have x1 := wx_ge a
  have x2 := wx_le a
  have y1 := wx_ge b
  have y2 := wx_le b
  have h91 := eB_91 a b hc
  exact opp_of (by show _ ≤ (nB_91 a b); omega) (by show (nB_91 a b) < _; omega)
def nB_107 (a b : Int) : Int := (valW (hiZ (nB_91 a b)) (loZ (nB_91 a b)))
theorem eB_107 (a b : Int) (hc : wx a < wx b) : nB_107 a b = 0 := by
  have x1 := wx_ge a
  have x2 := wx_le a
  have y1 := wx_ge b
  have y2 := wx_le b
  exact (val_wz _).trans (eB_91 a b hc)
def nB_108 (a b : Int) : Int := (-(nB_107 a b))
theorem eB_108 (a b : Int) (hc : wx a < wx b) : nB_108 a b = 0 := by
  have x1 := wx_ge a
  have x2 := wx_le a
  have y1 := wx_ge b
  have y2 := wx_le b
  have h107 := eB_107 a b hc
  show (-(nB_107 a b)) = _
  omega
theorem bB_109 (a b : Int) (hc : wx a < wx b) : (inI (nB_108 a b)) = true := by
  have x1 := wx_ge a
  have x2 := wx_le a
  have y1 := wx_ge b
  have y2 := wx_le b
  have h108 := eB_108 a b hc
  exact in_of (by show _ ≤ (nB_108 a b); omega) (by show (nB_108 a b) < _; omega)
theorem bB_110 (a b : Int) (hc : wx a < wx b) : (!(inI (nB_108 a b))) = false := by
  rw [bB_109 a b hc]
  rfl
def nB_111 (a b : Int) : Int := (intZ (nB_108 a b))
theorem eB_111 (a b : Int) (hc : wx a < wx b) : nB_111 a b = 0 := by
  have x1 := wx_ge a
  have x2 := wx_le a
  have y1 := wx_ge b
  have y2 := wx_le b
  show (intZ (nB_108 a b)) = _
  rw [eB_108 a b hc]
  exact intZ_of (in_of (by omega) (by omega))
theorem bB_112 (a b : Int) (hc : wx a < wx b) : (eqI (nB_111 a b) 0) = true := by
  have x1 := wx_ge a
  have x2 := wx_le a
  have y1 := wx_ge b
  have y2 := wx_le b
  have h111 := eB_111 a b hc
  refine eq_y ?_
  show (nB_111 a b) = 0
  omega
theorem bB_113 (a b : Int) (hc : wx a < wx b) : (eqI (hiZ (nB_33 a b)) (hiZ (nB_33 a b))) = true := by
  have x1 := wx_ge a
  have x2 := wx_le a
  have y1 := wx_ge b
  have y2 := wx_le b
  exact eq_y rfl
theorem bB_114 (a b : Int) (hc : wx a < wx b) : (!(eqI (hiZ (nB_33 a b)) (hiZ (nB_33 a b)))) = false := by
  rw [bB_113 a b hc]
  rfl
theorem bB_115 (a b : Int) (hc : wx a < wx b) : (ltI (hiZ (nB_33 a b)) 0) = false := by
  have x1 := wx_ge a
  have x2 := wx_le a
  have y1 := wx_ge b
  have y2 := wx_le b
  have h33 := eB_33 a b hc
  refine lt_n ?_
  show ¬ ((hiZ (nB_33 a b)) < 0)
  unfold hiZ
  omega
theorem bB_116 (a b : Int) (hc : wx a < wx b) : (ltI 0 (hiZ (nB_33 a b))) = false := by
  have x1 := wx_ge a
  have x2 := wx_le a
  have y1 := wx_ge b
  have y2 := wx_le b
  have h33 := eB_33 a b hc
  refine lt_n ?_
  show ¬ (0 < (hiZ (nB_33 a b)))
  unfold hiZ
  omega
theorem bB_118 (a b : Int) (hc : wx a < wx b) : (eqI (Int.ofNat (loZ (nB_33 a b))) (Int.ofNat (loZ (nB_33 a b)))) = true := by
  have x1 := wx_ge a
  have x2 := wx_le a
  have y1 := wx_ge b
  have y2 := wx_le b
  exact eq_y rfl
theorem bB_119 (a b : Int) (hc : wx a < wx b) : (!(eqI (Int.ofNat (loZ (nB_33 a b))) (Int.ofNat (loZ (nB_33 a b))))) = false := by
  rw [bB_118 a b hc]
  rfl
theorem bB_120 (a b : Int) (hc : wx a < wx b) : (ltI (Int.ofNat (loZ (nB_33 a b))) 0) = false := by
  have x1 := wx_ge a
  have x2 := wx_le a
  have y1 := wx_ge b
  have y2 := wx_le b
  have h33 := eB_33 a b hc
  refine lt_n ?_
  show ¬ ((((loZ (nB_33 a b)) : Nat) : Int) < 0)
  unfold loZ
  omega
theorem bB_121 (a b : Int) (hc : wx a < wx b) : (ltI 0 (Int.ofNat (loZ (nB_33 a b)))) = true := by
  have x1 := wx_ge a
  have x2 := wx_le a
  have y1 := wx_ge b
  have y2 := wx_le b
  have h33 := eB_33 a b hc
  refine lt_y ?_
  show 0 < (((loZ (nB_33 a b)) : Nat) : Int)
  unfold loZ
  omega
theorem bB_122 (a b : Int) (hc : wx a < wx b) : (eqI (hiZ (nB_83 a b)) (hiZ (nB_83 a b))) = true := by
  have x1 := wx_ge a
  have x2 := wx_le a
  have y1 := wx_ge b
  have y2 := wx_le b
  exact eq_y rfl
theorem bB_123 (a b : Int) (hc : wx a < wx b) : (!(eqI (hiZ (nB_83 a b)) (hiZ (nB_83 a b)))) = false := by
  rw [bB_122 a b hc]
  rfl
theorem bB_124 (a b : Int) (hc : wx a < wx b) : (ltI (hiZ (nB_83 a b)) 0) = true := by
  have x1 := wx_ge a
  have x2 := wx_le a
  have y1 := wx_ge b
  have y2 := wx_le b
  have h83 := eB_83 a b hc
  refine lt_y ?_
  show (hiZ (nB_83 a b)) < 0
  unfold hiZ
  omega
theorem bB_125 (a b : Int) (hc : wx a < wx b) : (gAdd (hiZ (nB_33 a b)) (loZ (nB_33 a b)) (hiZ (nB_83 a b)) (loZ (nB_83 a b))) = true := by
  have x1 := wx_ge a
  have x2 := wx_le a
  have y1 := wx_ge b
  have y2 := wx_le b
  have h33 := eB_33 a b hc
  have h83 := eB_83 a b hc
  exact gAdd_of (by show _ ≤ (nB_33 a b); omega) (by show (nB_33 a b) < _; omega) (by show _ ≤ (nB_83 a b); omega) (by show (nB_83 a b) < _; omega)
def nB_126 (a b : Int) : Int := ((nB_41 a b) + (nB_89 a b))
theorem eB_126 (a b : Int) (hc : wx a < wx b) : nB_126 a b = ((wx a : Nat) : Int) - ((wx b : Nat) : Int) := by
  have x1 := wx_ge a
  have x2 := wx_le a
  have y1 := wx_ge b
  have y2 := wx_le b
  have h41 := eB_41 a b hc
  have h89 := eB_89 a b hc
  show ((nB_41 a b) + (nB_89 a b)) = _
  omega
theorem bB_128 (a b : Int) (hc : wx a < wx b) : (eqI (hiZ (nB_126 a b)) (hiZ (nB_126 a b))) = true := by
  have x1 := wx_ge a
  have x2 := wx_le a
  have y1 := wx_ge b
  have y2 := wx_le b
  exact eq_y rfl
theorem bB_129 (a b : Int) (hc : wx a < wx b) : (!(eqI (hiZ (nB_126 a b)) (hiZ (nB_126 a b)))) = false := by
  rw [bB_128 a b hc]
  rfl
theorem bB_130 (a b : Int) (hc : wx a < wx b) : (ltI (hiZ (nB_126 a b)) 0) = true := by
  have x1 := wx_ge a
  have x2 := wx_le a
  have y1 := wx_ge b
  have y2 := wx_le b
  have h126 := eB_126 a b hc
  refine lt_y ?_
  show (hiZ (nB_126 a b)) < 0
  unfold hiZ
  omega
theorem bB_132 (a b : Int) (hc : wx a < wx b) : (Nat.blt (loZ (nB_126 a b)) 18446744073709551616) = true := by
  have x1 := wx_ge a
  have x2 := wx_le a
  have y1 := wx_ge b
  have y2 := wx_le b
  exact lo_lt _
def nB_133 (a b : Int) : Int := (valW (hiZ (nB_126 a b)) (loZ (nB_126 a b)))
theorem eB_133 (a b : Int) (hc : wx a < wx b) : nB_133 a b = ((wx a : Nat) : Int) - ((wx b : Nat) : Int) := by
  have x1 := wx_ge a
  have x2 := wx_le a
  have y1 := wx_ge b
  have y2 := wx_le b
  exact (val_wz _).trans (eB_126 a b hc)
theorem bB_134 (a b : Int) (hc : wx a < wx b) : (inI (nB_133 a b)) = true := by
  have x1 := wx_ge a
  have x2 := wx_le a
  have y1 := wx_ge b
  have y2 := wx_le b
  have h133 := eB_133 a b hc
  exact in_of (by show _ ≤ (nB_133 a b); omega) (by show (nB_133 a b) < _; omega)
theorem bB_135 (a b : Int) (hc : wx a < wx b) : (!(inI (nB_133 a b))) = false := by
  rw [bB_134 a b hc]
  rfl
theorem bB_136 (a b : Int) (hc : wx a < wx b) : (gAdd 0 0 (hiZ (nB_10 a b)) (loZ (nB_10 a b))) = true := by
  have x1 := wx_ge a
  have x2 := wx_le a
  have y1 := wx_ge b
  have y2 := wx_le b
  have h10 := eB_10 a b hc
  exact gAdd_0 (by show _ ≤ (nB_10 a b); omega) (by show (nB_10 a b) < _; omega)
def nB_137 (a b : Int) : Int := ((nB_31 a b) + (nB_42 a b))
theorem eB_137 (a b : Int) (hc : wx a < wx b) : nB_137 a b = -((wx a : Nat) : Int) := by
  have x1 := wx_ge a
  have x2 := wx_le a
  have y1 := wx_ge b
  have y2 := wx_le b
  have h31 := eB_31 a b hc
  have h42 := eB_42 a b hc
  show ((nB_31 a b) + (nB_42 a b)) = _
  omega
theorem bB_139 (a b : Int) (hc : wx a < wx b) : (Nat.blt (loZ (nB_137 a b)) 18446744073709551616) = true := by
  have x1 := wx_ge a
  have x2 := wx_le a
  have y1 := wx_ge b
  have y2 := wx_le b
  exact lo_lt _
def nB_141 (a b : Int) : Int := (valW (hiZ (nB_137 a b)) (loZ (nB_137 a b)))
theorem eB_141 (a b : Int) (hc : wx a < wx b) : nB_141 a b = -((wx a : Nat) : Int) := by
  have x1 := wx_ge a
  have x2 := wx_le a
  have y1 := wx_ge b
  have y2 := wx_le b
  exact (val_wz _).trans (eB_137 a b hc)
theorem bB_142 (a b : Int) (hc : wx a < wx b) : (inI (nB_141 a b)) = true := by
  have x1 := wx_ge a
  have x2 := wx_le a
  have y1 := wx_ge b
  have y2 := wx_le b
  have h141 := eB_141 a b hc
  exact in_of (by show _ ≤ (nB_141 a b); omega) (by show (nB_141 a b) < _; omega)
theorem bB_143 (a b : Int) (hc : wx a < wx b) : (!(inI (nB_141 a b))) = false := by
  rw [bB_142 a b hc]
  rfl
def nB_144 (a b : Int) : Int := (intZ (nB_133 a b))
theorem eB_144 (a b : Int) (hc : wx a < wx b) : nB_144 a b = ((wx a : Nat) : Int) - ((wx b : Nat) : Int) := by
  have x1 := wx_ge a
  have x2 := wx_le a
  have y1 := wx_ge b
  have y2 := wx_le b
  show (intZ (nB_133 a b)) = _
  rw [eB_133 a b hc]
  exact intZ_of (in_of (by omega) (by omega))
theorem bB_145 (a b : Int) (hc : wx a < wx b) : (inI (nB_144 a b)) = true := by
  have x1 := wx_ge a
  have x2 := wx_le a
  have y1 := wx_ge b
  have y2 := wx_le b
  have h144 := eB_144 a b hc
  exact in_of (by show _ ≤ (nB_144 a b); omega) (by show (nB_144 a b) < _; omega)
theorem bB_148 (a b : Int) (hc : wx a < wx b) : (gAdd 0 0 (hiZ (nB_144 a b)) (loZ (nB_144 a b))) = true := by
  have x1 := wx_ge a
  have x2 := wx_le a
  have y1 := wx_ge b
  have y2 := wx_le b
  have h144 := eB_144 a b hc
  exact gAdd_0 (by show _ ≤ (nB_144 a b); omega) (by show (nB_144 a b) < _; omega)
def nB_149 (a b : Int) : Int := (valW (hiZ (nB_144 a b)) (loZ (nB_144 a b)))
theorem eB_149 (a b : Int) (hc : wx a < wx b) : nB_149 a b = ((wx a : Nat) : Int) - ((wx b : Nat) : Int) := by
  have x1 := wx_ge a
  have x2 := wx_le a
  have y1 := wx_ge b
  have y2 := wx_le b
  exact (val_wz _).trans (eB_144 a b hc)
def nB_150 (a b : Int) : Int := ((nB_31 a b) + (nB_149 a b))
theorem eB_150 (a b : Int) (hc : wx a < wx b) : nB_150 a b = ((wx a : Nat) : Int) - ((wx b : Nat) : Int) := by
  have x1 := wx_ge a
  have x2 := wx_le a
  have y1 := wx_ge b
  have y2 := wx_le b
  have h31 := eB_31 a b hc
  have h149 := eB_149 a b hc
  show ((nB_31 a b) + (nB_149 a b)) = _
  omega
theorem bB_152 (a b : Int) (hc : wx a < wx b) : (Nat.blt (loZ (nB_150 a b)) 18446744073709551616) = true := by
  have x1 := wx_ge a
  have x2 := wx_le a
  have y1 := wx_ge b
  have y2 := wx_le b
  exact lo_lt _
def nB_154 (a b : Int) : Int := (valW (hiZ (nB_150 a b)) (loZ (nB_150 a b)))
theorem eB_154 (a b : Int) (hc : wx a < wx b) : nB_154 a b = ((wx a : Nat) : Int) - ((wx b : Nat) : Int) := by
  have x1 := wx_ge a
  have x2 := wx_le a
  have y1 := wx_ge b
  have y2 := wx_le b
  exact (val_wz _).trans (eB_150 a b hc)
theorem bB_155 (a b : Int) (hc : wx a < wx b) : (inI (nB_154 a b)) = true := by
  have x1 := wx_ge a
  have x2 := wx_le a
  have y1 := wx_ge b
  have y2 := wx_le b
  have h154 := eB_154 a b hc
  exact in_of (by show _ ≤ (nB_154 a b); omega) (by show (nB_154 a b) < _; omega)
theorem bB_156 (a b : Int) (hc : wx a < wx b) : (!(inI (nB_154 a b))) = false := by
  rw [bB_155 a b hc]
  rfl
theorem bB_157 (a b : Int) (hc : wx a < wx b) : (gAdd 0 0 (hiZ (Int.ofNat (wx b))) (loZ (Int.ofNat (wx b)))) = true := by
  have x1 := wx_ge a
  have x2 := wx_le a
  have y1 := wx_ge b
  have y2 := wx_le b
  exact gAdd_0 (by show _ ≤ (((wx b) : Nat) : Int); omega) (by show (((wx b) : Nat) : Int) < _; omega)
def nB_158 (a b : Int) : Int := ((nB_31 a b) + (nB_90 a b))
theorem eB_158 (a b : Int) (hc : wx a < wx b) : nB_158 a b = ((wx b : Nat) : Int) := by
  have x1 := wx_ge a
  have x2 := wx_le a
  have y1 := wx_ge b
  have y2 := wx_le b
  have h31 := eB_31 a b hc
  have h90 := eB_90 a b hc
  show ((nB_31 a b) + (nB_90 a b)) = _
  omega
theorem bB_160 (a b : Int) (hc : wx a < wx b) : (Nat.blt (loZ (nB_158 a b)) 18446744073709551616) = true := by
  have x1 := wx_ge a
  have x2 := wx_le a
  have y1 := wx_ge b
  have y2 := wx_le b
  exact lo_lt _
def nB_162 (a b : Int) : Int := (valW (hiZ (nB_158 a b)) (loZ (nB_158 a b)))
theorem eB_162 (a b : Int) (hc : wx a < wx b) : nB_162 a b = ((wx b : Nat) : Int) := by
  have x1 := wx_ge a
  have x2 := wx_le a
  have y1 := wx_ge b
  have y2 := wx_le b
  exact (val_wz _).trans (eB_158 a b hc)
theorem bB_163 (a b : Int) (hc : wx a < wx b) : (inI (nB_162 a b)) = true := by
  have x1 := wx_ge a
  have x2 := wx_le a
  have y1 := wx_ge b
  have y2 := wx_le b
  have h162 := eB_162 a b hc
  exact in_of (by show _ ≤ (nB_162 a b); omega) (by show (nB_162 a b) < _; omega)
theorem bB_164 (a b : Int) (hc : wx a < wx b) : (!(inI (nB_162 a b))) = false := by
  rw [bB_163 a b hc]
  rfl
def nB_165 (a b : Int) : Int := (intZ (nB_141 a b))
theorem eB_165 (a b : Int) (hc : wx a < wx b) : nB_165 a b = -((wx a : Nat) : Int) := by
  have x1 := wx_ge a
  have x2 := wx_le a
  have y1 := wx_ge b
  have y2 := wx_le b
  show (intZ (nB_141 a b)) = _
  rw [eB_141 a b hc]
  exact intZ_of (in_of (by omega) (by omega))
def nB_168 (a b : Int) : Int := (scI (nB_165 a b) (cl 10000))
theorem eB_168 (a b : Int) (hc : wx a < wx b) : nB_168 a b = -((wx a : Nat) : Int) := by
  have x1 := wx_ge a
  have x2 := wx_le a
  have y1 := wx_ge b
  have y2 := wx_le b
  show (scI (nB_165 a b) (cl 10000)) = _
  rw [eB_165 a b hc]
  exact sc_of (by omega) (by omega)
def nB_169 (a b : Int) : Int := (Int.sub (nB_165 a b) (nB_168 a b))
theorem eB_169 (a b : Int) (hc : wx a < wx b) : nB_169 a b = 0 := by
  have x1 := wx_ge a
  have x2 := wx_le a
  have y1 := wx_ge b
  have y2 := wx_le b
  have h165 := eB_165 a b hc
  have h168 := eB_168 a b hc
  show ((nB_165 a b) - (nB_168 a b)) = _
  omega
def nB_170 (a b : Int) : Int := (wrapA .i64 (nB_169 a b))
theorem eB_170 (a b : Int) (hc : wx a < wx b) : nB_170 a b = 0 := by
  have x1 := wx_ge a
  have x2 := wx_le a
  have y1 := wx_ge b
  have y2 := wx_le b
  show (wrapA .i64 (nB_169 a b)) = _
  rw [eB_169 a b hc]
  exact wrapI (by omega) (by omega)
theorem bB_171 (a b : Int) (hc : wx a < wx b) : (eqI (nB_170 a b) (nB_170 a b)) = true := by
  have x1 := wx_ge a
  have x2 := wx_le a
  have y1 := wx_ge b
  have y2 := wx_le b
  exact eq_y rfl
theorem bB_172 (a b : Int) (hc : wx a < wx b) : (!(eqI (nB_170 a b) (nB_170 a b))) = false := by
  rw [bB_171 a b hc]
  rfl
def nB_173 (a b : Int) : Int := (intZ (nB_31 a b))
theorem eB_173 (a b : Int) (hc : wx a < wx b) : nB_173 a b = 0 := by
  have x1 := wx_ge a
  have x2 := wx_le a
  have y1 := wx_ge b
  have y2 := wx_le b
  show (intZ (nB_31 a b)) = _
  rw [eB_31 a b hc]
  exact intZ_of (in_of (by omega) (by omega))
def nB_176 (a b : Int) : Int := (valW (hiZ (nB_173 a b)) (loZ (nB_173 a b)))
theorem eB_176 (a b : Int) (hc : wx a < wx b) : nB_176 a b = 0 := by
  have x1 := wx_ge a
  have x2 := wx_le a
  have y1 := wx_ge b
  have y2 := wx_le b
  exact (val_wz _).trans (eB_173 a b hc)
def nB_177 (a b : Int) : Int := ((nB_31 a b) + (nB_176 a b))
theorem eB_177 (a b : Int) (hc : wx a < wx b) : nB_177 a b = 0 := by
  have x1 := wx_ge a
  have x2 := wx_le a
  have y1 := wx_ge b
  have y2 := wx_le b
  have h31 := eB_31 a b hc
  have h176 := eB_176 a b hc
  show ((nB_31 a b) + (nB_176 a b)) = _
  omega
def nB_180 (a b : Int) : Int := (valW (hiZ (nB_177 a b)) (loZ (nB_177 a b)))
theorem eB_180 (a b : Int) (hc : wx a < wx b) : nB_180 a b = 0 := by
  have x1 := wx_ge a
  have x2 := wx_le a
  have y1 := wx_ge b
  have y2 := wx_le b
  exact (val_wz _).trans (eB_177 a b hc)
def nB_181 (a b : Int) : Int := (intZ (nB_180 a b))
theorem eB_181 (a b : Int) (hc : wx a < wx b) : nB_181 a b = 0 := by
  have x1 := wx_ge a
  have x2 := wx_le a
  have y1 := wx_ge b
  have y2 := wx_le b
  show (intZ (nB_180 a b)) = _
  rw [eB_180 a b hc]
  exact intZ_of (in_of (by omega) (by omega))
def nB_182 (a b : Int) : Int := (scI (nB_181 a b) (cl 10000))
theorem eB_182 (a b : Int) (hc : wx a < wx b) : nB_182 a b = 0 := by
  have x1 := wx_ge a
  have x2 := wx_le a
  have y1 := wx_ge b
  have y2 := wx_le b
  show (scI (nB_181 a b) (cl 10000)) = _
  rw [eB_181 a b hc]
  exact sc_of (by omega) (by omega)
def nB_183 (a b : Int) : Int := (Int.sub (nB_181 a b) (nB_182 a b))
theorem eB_183 (a b : Int) (hc : wx a < wx b) : nB_183 a b = 0 := by
  have x1 := wx_ge a
  have x2 := wx_le a
  have y1 := wx_ge b
  have y2 := wx_le b
  have h181 := eB_181 a b hc
  have h182 := eB_182 a b hc
  show ((nB_181 a b) - (nB_182 a b)) = _
  omega
def nB_184 (a b : Int) : Int := (wrapA .i64 (nB_183 a b))
theorem eB_184 (a b : Int) (hc : wx a < wx b) : nB_184 a b = 0 := by
  have x1 := wx_ge a
  have x2 := wx_le a
  have y1 := wx_ge b
  have y2 := wx_le b
  show (wrapA .i64 (nB_183 a b)) = _
  rw [eB_183 a b hc]
  exact wrapI (by omega) (by omega)
theorem bB_185 (a b : Int) (hc : wx a < wx b) : (ltI (nB_170 a b) (nB_184 a b)) = false := by
  have x1 := wx_ge a
  have x2 := wx_le a
  have y1 := wx_ge b
  have y2 := wx_le b
  have h170 := eB_170 a b hc
  have h184 := eB_184 a b hc
  refine lt_n ?_
  show ¬ ((nB_170 a b) < (nB_184 a b))
  omega
theorem bB_186 (a b : Int) (hc : wx a < wx b) : (ltI (nB_184 a b) (nB_170 a b)) = false := by
  have x1 := wx_ge a
  have x2 := wx_le a
  have y1 := wx_ge b
  have y2 := wx_le b
  have h170 := eB_170 a b hc
  have h184 := eB_184 a b hc
  refine lt_n ?_
  show ¬ ((nB_184 a b) < (nB_170 a b))
  omega
def nB_187 (a b : Int) : Int := (intZ (nB_154 a b))
theorem eB_187 (a b : Int) (hc : wx a < wx b) : nB_187 a b = ((wx a : Nat) : Int) - ((wx b : Nat) : Int) := by
  have x1 := wx_ge a
  have x2 := wx_le a
  have y1 := wx_ge b
  have y2 := wx_le b
  show (intZ (nB_154 a b)) = _
  rw [eB_154 a b hc]
  exact intZ_of (in_of (by omega) (by omega))
def nB_188 (a b : Int) : Int := (scI (nB_187 a b) (cl 10000))
theorem eB_188 (a b : Int) (hc : wx a < wx b) : nB_188 a b = ((wx a : Nat) : Int) - ((wx b : Nat) : Int) := by
  have x1 := wx_ge a
  have x2 := wx_le a
  have y1 := wx_ge b
  have y2 := wx_le b
  show (scI (nB_187 a b) (cl 10000)) = _
  rw [eB_187 a b hc]
  exact sc_of (by omega) (by omega)
theorem bB_189 (a b : Int) (hc : wx a < wx b) : (eqI (nB_188 a b) (nB_188 a b)) = true := by
  have x1 := wx_ge a
  have x2 := wx_le a
  have y1 := wx_ge b
  have y2 := wx_le b
  exact eq_y rfl
theorem bB_190 (a b : Int) (hc : wx a < wx b) : (!(eqI (nB_188 a b) (nB_188 a b))) = false := by
  rw [bB_189 a b hc]
  rfl
theorem bB_191 (a b : Int) (hc : wx a < wx b) : (ltI (nB_188 a b) (nB_182 a b)) = true := by
  have x1 := wx_ge a
  have x2 := wx_le a
  have y1 := wx_ge b
  have y2 := wx_le b
  have h182 := eB_182 a b hc
  have h188 := eB_188 a b hc
  refine lt_y ?_
  show (nB_188 a b) < (nB_182 a b)
  omega
def nB_192 (a b : Int) : Int := (Int.sub (nB_187 a b) (nB_188 a b))
theorem eB_192 (a b : Int) (hc : wx a < wx b) : nB_192 a b = 0 := by
  have x1 := wx_ge a
  have x2 := wx_le a
  have y1 := wx_ge b
  have y2 := wx_le b
  have h187 := eB_187 a b hc
  have h188 := eB_188 a b hc
  show ((nB_187 a b) - (nB_188 a b)) = _
  omega
def nB_193 (a b : Int) : Int := (wrapA .i64 (nB_192 a b))
theorem eB_193 (a b : Int) (hc : wx a < wx b) : nB_193 a b = 0 := by
  have x1 := wx_ge a
  have x2 := wx_le a
  have y1 := wx_ge b
  have y2 := wx_le b
  show (wrapA .i64 (nB_192 a b)) = _
  rw [eB_192 a b hc]
  exact wrapI (by omega) (by omega)
theorem bB_194 (a b : Int) (hc : wx a < wx b) : (eqI (nB_193 a b) (nB_193 a b)) = true := by
  have x1 := wx_ge a
  have x2 := wx_le a
  have y1 := wx_ge b
  have y2 := wx_le b
  exact eq_y rfl
theorem bB_195 (a b : Int) (hc : wx a < wx b) : (!(eqI (nB_193 a b) (nB_193 a b))) = false := by
  rw [bB_194 a b hc]
  rfl
theorem bB_196 (a b : Int) (hc : wx a < wx b) : (ltI (nB_193 a b) (nB_170 a b)) = false := by
  have x1 := wx_ge a
  have x2 := wx_le a
  have y1 := wx_ge b
  have y2 := wx_le b
  have h170 := eB_170 a b hc
  have h193 := eB_193 a b hc
  refine lt_n ?_
  show ¬ ((nB_193 a b) < (nB_170 a b))
  omega
theorem bB_197 (a b : Int) (hc : wx a < wx b) : (ltI (nB_170 a b) (nB_193 a b)) = false := by
  have x1 := wx_ge a
  have x2 := wx_le a
  have y1 := wx_ge b
  have y2 := wx_le b
  have h170 := eB_170 a b hc
  have h193 := eB_193 a b hc
  refine lt_n ?_
  show ¬ ((nB_170 a b) < (nB_193 a b))
  omega
def nB_198 (a b : Int) : Int := (intZ (nB_162 a b))
theorem eB_198 (a b : Int) (hc : wx a < wx b) : nB_198 a b = ((wx b : Nat) : Int) := by
  have x1 := wx_ge a
  have x2 := wx_le a
  have y1 := wx_ge b
  have y2 := wx_le b
  show (intZ (nB_162 a b)) = _
  rw [eB_162 a b hc]
  exact intZ_of (in_of (by omega) (by omega))
def nB_199 (a b : Int) : Int := (scI (nB_198 a b) (cl 10000))
theorem eB_199 (a b : Int) (hc : wx a < wx b) : nB_199 a b = ((wx b : Nat) : Int) := by
  have x1 := wx_ge a
  have x2 := wx_le a
  have y1 := wx_ge b
  have y2 := wx_le b
  show (scI (nB_198 a b) (cl 10000)) = _
  rw [eB_198 a b hc]
  exact sc_of (by omega) (by omega)
theorem bB_200 (a b : Int) (hc : wx a < wx b) : (eqI (nB_199 a b) (nB_199 a b)) = true := by
  have x1 := wx_ge a
  have x2 := wx_le a
  have y1 := wx_ge b
  have y2 := wx_le b
  exact eq_y rfl
theorem bB_201 (a b : Int) (hc : wx a < wx b) : (!(eqI (nB_199 a b) (nB_199 a b))) = false := by
  rw [bB_200 a b hc]
  rfl
theorem bB_202 (a b : Int) (hc : wx a < wx b) : (eqI (nB_168 a b) (nB_168 a b)) = true := by
  have x1 := wx_ge a
  have x2 := wx_le a
  have y1 := wx_ge b
  have y2 := wx_le b
  exact eq_y rfl
theorem bB_203 (a b : Int) (hc : wx a < wx b) : (!(eqI (nB_168 a b) (nB_168 a b))) = false := by
  rw [bB_202 a b hc]
  rfl
theorem bB_204 (a b : Int) (hc : wx a < wx b) : (ltI (nB_199 a b) (nB_168 a b)) = false := by
  have x1 := wx_ge a
  have x2 := wx_le a
  have y1 := wx_ge b
  have y2 := wx_le b
  have h168 := eB_168 a b hc
  have h199 := eB_199 a b hc
  refine lt_n ?_
  show ¬ ((nB_199 a b) < (nB_168 a b))
  omega
theorem bB_205 (a b : Int) (hc : wx a < wx b) : (ltI (nB_168 a b) (nB_199 a b)) = true := by
  have x1 := wx_ge a
  have x2 := wx_le a
  have y1 := wx_ge b
  have y2 := wx_le b
  have h168 := eB_168 a b hc
  have h199 := eB_199 a b hc
  refine lt_y ?_
  show (nB_168 a b) < (nB_199 a b)
  omega
def nB_206 (a b : Int) : Int := (Int.sub (nB_198 a b) (nB_199 a b))
theorem eB_206 (a b : Int) (hc : wx a < wx b) : nB_206 a b = 0 := by
  have x1 := wx_ge a
  have x2 := wx_le a
  have y1 := wx_ge b
  have y2 := wx_le b
  have h198 := eB_198 a b hc
  have h199 := eB_199 a b hc
  show ((nB_198 a b) - (nB_199 a b)) = _
  omega
def nB_207 (a b : Int) : Int := (wrapA .i64 (nB_206 a b))
theorem eB_207 (a b : Int) (hc : wx a < wx b) : nB_207 a b = 0 := by
  have x1 := wx_ge a
  have x2 := wx_le a
  have y1 := wx_ge b
  have y2 := wx_le b
  show (wrapA .i64 (nB_206 a b)) = _
  rw [eB_206 a b hc]
  exact wrapI (by omega) (by omega)
theorem bB_208 (a b : Int) (hc : wx a < wx b) : (eqI (nB_207 a b) (nB_207 a b)) = true := by
  have x1 := wx_ge a
  have x2 := wx_le a
  have y1 := wx_ge b
  have y2 := wx_le b
  exact eq_y rfl
theorem bB_209 (a b : Int) (hc : wx a < wx b) : (!(eqI (nB_207 a b) (nB_207 a b))) = false := by
  rw [bB_208 a b hc]
  rfl
theorem bB_210 (a b : Int) (hc : wx a < wx b) : (ltI (nB_207 a b) (nB_193 a b)) = false := by
  have x1 := wx_ge a
  have x2 := wx_le a
  have y1 := wx_ge b
  have y2 := wx_le b
  have h193 := eB_193 a b hc
  have h207 := eB_207 a b hc
  refine lt_n ?_
  show ¬ ((nB_207 a b) < (nB_193 a b))
  omega
theorem bB_211 (a b : Int) (hc : wx a < wx b) : (ltI (nB_193 a b) (nB_207 a b)) = false := by
  have x1 := wx_ge a
  have x2 := wx_le a
  have y1 := wx_ge b
  have y2 := wx_le b
  have h193 := eB_193 a b hc
  have h207 := eB_207 a b hc
  refine lt_n ?_
  show ¬ ((nB_193 a b) < (nB_207 a b))
  omega
theorem bB_212 (a b : Int) (hc : wx a < wx b) : (inI (nB_188 a b)) = true := by
  have x1 := wx_ge a
  have x2 := wx_le a
  have y1 := wx_ge b
  have y2 := wx_le b
  have h188 := eB_188 a b hc
  exact in_of (by show _ ≤ (nB_188 a b); omega) (by show (nB_188 a b) < _; omega)
theorem bB_215 (a b : Int) (hc : wx a < wx b) : (gAdd 0 0 (hiZ (nB_188 a b)) (loZ (nB_188 a b))) = true := by
  have x1 := wx_ge a
  have x2 := wx_le a
  have y1 := wx_ge b
  have y2 := wx_le b
  have h188 := eB_188 a b hc
  exact gAdd_0 (by show _ ≤ (nB_188 a b); omega) (by show (nB_188 a b) < _; omega)
def nB_216 (a b : Int) : Int := (valW (hiZ (nB_188 a b)) (loZ (nB_188 a b)))
theorem eB_216 (a b : Int) (hc : wx a < wx b) : nB_216 a b = ((wx a : Nat) : Int) - ((wx b : Nat) : Int) := by
  have x1 := wx_ge a
  have x2 := wx_le a
  have y1 := wx_ge b
  have y2 := wx_le b
  exact (val_wz _).trans (eB_188 a b hc)
def nB_217 (a b : Int) : Int := ((nB_31 a b) + (nB_216 a b))
theorem eB_217 (a b : Int) (hc : wx a < wx b) : nB_217 a b = ((wx a : Nat) : Int) - ((wx b : Nat) : Int) := by
  have x1 := wx_ge a
  have x2 := wx_le a
  have y1 := wx_ge b
  have y2 := wx_le b
  have h31 := eB_31 a b hc
  have h216 := eB_216 a b hc
  show ((nB_31 a b) + (nB_216 a b)) = _
  omega
theorem bB_222 (a b : Int) (hc : wx a < wx b) : (gAdd (hiZ (nB_217 a b)) (loZ (nB_217 a b)) (hiZ (nB_182 a b)) (loZ (nB_182 a b))) = true := by
  have x1 := wx_ge a
  have x2 := wx_le a
  have y1 := wx_ge b
  have y2 := wx_le b
  have h182 := eB_182 a b hc
  have h217 := eB_217 a b hc
  exact gAdd_of (by show _ ≤ (nB_217 a b); omega) (by show (nB_217 a b) < _; omega) (by show _ ≤ (nB_182 a b); omega) (by show (nB_182 a b) < _; omega)
def nB_223 (a b : Int) : Int := (valW (hiZ (nB_217 a b)) (loZ (nB_217 a b)))
theorem eB_223 (a b : Int) (hc : wx a < wx b) : nB_223 a b = ((wx a : Nat) : Int) - ((wx b : Nat) : Int) := by
  have x1 := wx_ge a
  have x2 := wx_le a
  have y1 := wx_ge b
  have y2 := wx_le b
  exact (val_wz _).trans (eB_217 a b hc)
def nB_224 (a b : Int) : Int := (valW (hiZ (nB_182 a b)) (loZ (nB_182 a b)))
theorem eB_224 (a b : Int) (hc : wx a < wx b) : nB_224 a b = 0 := by
  have x1 := wx_ge a
  have x2 := wx_le a
  have y1 := wx_ge b
  have y2 := wx_le b
  exact (val_wz _).trans (eB_182 a b hc)
def nB_225 (a b : Int) : Int := ((nB_223 a b) + (nB_224 a b))
theorem eB_225 (a b : Int) (hc : wx a < wx b) : nB_225 a b = ((wx a : Nat) : Int) - ((wx b : Nat) : Int) := by
  have x1 := wx_ge a
  have x2 := wx_le a
  have y1 := wx_ge b
  have y2 := wx_le b
  have h223 := eB_223 a b hc
  have h224 := eB_224 a b hc
  show ((nB_223 a b) + (nB_224 a b)) = _
  omega
theorem bB_227 (a b : Int) (hc : wx a < wx b) : (Nat.blt (loZ (nB_225 a b)) 18446744073709551616) = true := by
  have x1 := wx_ge a
  have x2 := wx_le a
  have y1 := wx_ge b
  have y2 := wx_le b
  exact lo_lt _
def nB_229 (a b : Int) : Int := (valW (hiZ (nB_225 a b)) (loZ (nB_225 a b)))
theorem eB_229 (a b : Int) (hc : wx a < wx b) : nB_229 a b = ((wx a : Nat) : Int) - ((wx b : Nat) : Int) := by
  have x1 := wx_ge a
  have x2 := wx_le a
  have y1 := wx_ge b
  have y2 := wx_le b
  exact (val_wz _).trans (eB_225 a b hc)
theorem bB_230 (a b : Int) (hc : wx a < wx b) : (inI (nB_229 a b)) = true := by
  have x1 := wx_ge a
  have x2 := wx_le a
  have y1 := wx_ge b
  have y2 := wx_le b
  have h229 := eB_229 a b hc
  exact in_of (by show _ ≤ (nB_229 a b); omega) (by show (nB_229 a b) < _; omega)
theorem bB_231 (a b : Int) (hc : wx a < wx b) : (!(inI (nB_229 a b))) = false := by
  rw [bB_230 a b hc]
  rfl
theorem bB_232 (a b : Int) (hc : wx a < wx b) : (inI (nB_168 a b)) = true := by
  have x1 := wx_ge a
  have x2 := wx_le a
  have y1 := wx_ge b
  have y2 := wx_le b
  have h168 := eB_168 a b hc
  exact in_of (by show _ ≤ (nB_168 a b); omega) (by show (nB_168 a b) < _; omega)
theorem bB_235 (a b : Int) (hc : wx a < wx b) : (gAdd 0 0 (hiZ (nB_168 a b)) (loZ (nB_168 a b))) = true := by
  have x1 := wx_ge a
  have x2 := wx_le a
  have y1 := wx_ge b
  have y2 := wx_le b
  have h168 := eB_168 a b hc
  exact gAdd_0 (by show _ ≤ (nB_168 a b); omega) (by show (nB_168 a b) < _; omega)
theorem bB_236 (a b : Int) (hc : wx a < wx b) : (inI (nB_199 a b)) = true := by
  have x1 := wx_ge a
  have x2 := wx_le a
  have y1 := wx_ge b
  have y2 := wx_le b
  have h199 := eB_199 a b hc
  exact in_of (by show _ ≤ (nB_199 a b); omega) (by show (nB_199 a b) < _; omega)
def nB_237 (a b : Int) : Int := (valW (hiZ (nB_168 a b)) (loZ (nB_168 a b)))
theorem eB_237 (a b : Int) (hc : wx a < wx b) : nB_237 a b = -((wx a : Nat) : Int) := by
  have x1 := wx_ge a
  have x2 := wx_le a
  have y1 := wx_ge b
  have y2 := wx_le b
  exact (val_wz _).trans (eB_168 a b hc)
def nB_238 (a b : Int) : Int := ((nB_31 a b) + (nB_237 a b))
theorem eB_238 (a b : Int) (hc : wx a < wx b) : nB_238 a b = -((wx a : Nat) : Int) := by
  have x1 := wx_ge a
  have x2 := wx_le a
  have y1 := wx_ge b
  have y2 := wx_le b
  have h31 := eB_31 a b hc
  have h237 := eB_237 a b hc
  show ((nB_31 a b) + (nB_237 a b)) = _
  omega
theorem bB_243 (a b : Int) (hc : wx a < wx b) : (gAdd (hiZ (nB_238 a b)) (loZ (nB_238 a b)) (hiZ (nB_199 a b)) (loZ (nB_199 a b))) = true := by
  have x1 := wx_ge a
  have x2 := wx_le a
  have y1 := wx_ge b
  have y2 := wx_le b
  have h199 := eB_199 a b hc
  have h238 := eB_238 a b hc
  exact gAdd_of (by show _ ≤ (nB_238 a b); omega) (by show (nB_238 a b) < _; omega) (by show _ ≤ (nB_199 a b); omega) (by show (nB_199 a b) < _; omega)
def nB_244 (a b : Int) : Int := (valW (hiZ (nB_238 a b)) (loZ (nB_238 a b)))
theorem eB_244 (a b : Int) (hc : wx a < wx b) : nB_244 a b = -((wx a : Nat) : Int) := by
  have x1 := wx_ge a
  have x2 := wx_le a
  have y1 := wx_ge b
  have y2 := wx_le b
  exact (val_wz _).trans (eB_238 a b hc)
def nB_245 (a b : Int) : Int := (valW (hiZ (nB_199 a b)) (loZ (nB_199 a b)))
theorem eB_245 (a b : Int) (hc : wx a < wx b) : nB_245 a b = ((wx b : Nat) : Int) := by
  have x1 := wx_ge a
  have x2 := wx_le a
  have y1 := wx_ge b
  have y2 := wx_le b
  exact (val_wz _).trans (eB_199 a b hc)
def nB_246 (a b : Int) : Int := ((nB_244 a b) + (nB_245 a b))
theorem eB_246 (a b : Int) (hc : wx a < wx b) : nB_246 a b = -((wx a : Nat) : Int) + ((wx b : Nat) : Int) := by
  have x1 := wx_ge a
  have x2 := wx_le a
  have y1 := wx_ge b
  have y2 := wx_le b
  have h244 := eB_244 a b hc
  have h245 := eB_245 a b hc
  show ((nB_244 a b) + (nB_245 a b)) = _
  omega
theorem bB_248 (a b : Int) (hc : wx a < wx b) : (Nat.blt (loZ (nB_246 a b)) 18446744073709551616) = true := by
  have x1 := wx_ge a
  have x2 := wx_le a
  have y1 := wx_ge b
  have y2 := wx_le b
  exact lo_lt _
def nB_250 (a b : Int) : Int := (valW (hiZ (nB_246 a b)) (loZ (nB_246 a b)))
theorem eB_250 (a b : Int) (hc : wx a < wx b) : nB_250 a b = -((wx a : Nat) : Int) + ((wx b : Nat) : Int) := by
  have x1 := wx_ge a
  have x2 := wx_le a
  have y1 := wx_ge b
  have y2 := wx_le b
  exact (val_wz _).trans (eB_246 a b hc)
theorem bB_251 (a b : Int) (hc : wx a < wx b) : (inI (nB_250 a b)) = true := by
  have x1 := wx_ge a
  have x2 := wx_le a
  have y1 := wx_ge b
  have y2 := wx_le b
  have h250 := eB_250 a b hc
  exact in_of (by show _ ≤ (nB_250 a b); omega) (by show (nB_250 a b) < _; omega)
theorem bB_252 (a b : Int) (hc : wx a < wx b) : (!(inI (nB_250 a b))) = false := by
  rw [bB_251 a b hc]
  rfl
theorem bB_253 (a b : Int) (hc : wx a < wx b) : (inI (nB_170 a b)) = true := by
  have x1 := wx_ge a
  have x2 := wx_le a
  have y1 := wx_ge b
  have y2 := wx_le b
  have h170 := eB_170 a b hc
  exact in_of (by show _ ≤ (nB_170 a b); omega) (by show (nB_170 a b) < _; omega)
def nB_256 (a b : Int) : Int := (valW (hiZ (nB_184 a b)) (loZ (nB_184 a b)))
theorem eB_256 (a b : Int) (hc : wx a < wx b) : nB_256 a b = 0 := by
  have x1 := wx_ge a
  have x2 := wx_le a
  have y1 := wx_ge b
  have y2 := wx_le b
  exact (val_wz _).trans (eB_184 a b hc)
def nB_257 (a b : Int) : Int := ((nB_31 a b) + (nB_256 a b))
theorem eB_257 (a b : Int) (hc : wx a < wx b) : nB_257 a b = 0 := by
  have x1 := wx_ge a
  have x2 := wx_le a
  have y1 := wx_ge b
  have y2 := wx_le b
  have h31 := eB_31 a b hc
  have h256 := eB_256 a b hc
  show ((nB_31 a b) + (nB_256 a b)) = _
  omega
theorem bB_262 (a b : Int) (hc : wx a < wx b) : (gAdd (hiZ (nB_257 a b)) (loZ (nB_257 a b)) (hiZ (nB_170 a b)) (loZ (nB_170 a b))) = true := by
  have x1 := wx_ge a
  have x2 := wx_le a
  have y1 := wx_ge b
  have y2 := wx_le b
  have h170 := eB_170 a b hc
  have h257 := eB_257 a b hc
  exact gAdd_of (by show _ ≤ (nB_257 a b); omega) (by show (nB_257 a b) < _; omega) (by show _ ≤ (nB_170 a b); omega) (by show (nB_170 a b) < _; omega)
theorem bB_263 (a b : Int) (hc : wx a < wx b) : (inI (nB_193 a b)) = true := by
  have x1 := wx_ge a
  have x2 := wx_le a
  have y1 := wx_ge b
  have y2 := wx_le b
  have h193 := eB_193 a b hc
  exact in_of (by show _ ≤ (nB_193 a b); omega) (by show (nB_193 a b) < _; omega)
def nB_264 (a b : Int) : Int := (valW (hiZ (nB_257 a b)) (loZ (nB_257 a b)))
theorem eB_264 (a b : Int) (hc : wx a < wx b) : nB_264 a b = 0 := by
  have x1 := wx_ge a
  have x2 := wx_le a
  have y1 := wx_ge b
  have y2 := wx_le b
  exact (val_wz _).trans (eB_257 a b hc)
def nB_265 (a b : Int) : Int := (valW (hiZ (nB_170 a b)) (loZ (nB_170 a b)))
theorem eB_265 (a b : Int) (hc : wx a < wx b) : nB_265 a b = 0 := by
  have x1 := wx_ge a
  have x2 := wx_le a
  have y1 := wx_ge b
  have y2 := wx_le b
  exact (val_wz _).trans (eB_170 a b hc)
def nB_266 (a b : Int) : Int := ((nB_264 a b) + (nB_265 a b))
theorem eB_266 (a b : Int) (hc : wx a < wx b) : nB_266 a b = 0 := by
  have x1 := wx_ge a
  have x2 := wx_le a
  have y1 := wx_ge b
  have y2 := wx_le b
  have h264 := eB_264 a b hc
  have h265 := eB_265 a b hc
  show ((nB_264 a b) + (nB_265 a b)) = _
  omega
theorem bB_271 (a b : Int) (hc : wx a < wx b) : (gAdd (hiZ (nB_266 a b)) (loZ (nB_266 a b)) (hiZ (nB_193 a b)) (loZ (nB_193 a b))) = true := by
  have x1 := wx_ge a
  have x2 := wx_le a
  have y1 := wx_ge b
  have y2 := wx_le b
  have h193 := eB_193 a b hc
  have h266 := eB_266 a b hc
  exact gAdd_of (by show _ ≤ (nB_266 a b); omega) (by show (nB_266 a b) < _; omega) (by show _ ≤ (nB_193 a b); omega) (by show (nB_193 a b) < _; omega)
theorem bB_272 (a b : Int) (hc : wx a < wx b) : (inI (nB_207 a b)) = true := by
  have x1 := wx_ge a
  have x2 := wx_le a
  have y1 := wx_ge b
  have y2 := wx_le b
  have h207 := eB_207 a b hc
  exact in_of (by show _ ≤ (nB_207 a b); omega) (by show (nB_207 a b) < _; omega)
def nB_273 (a b : Int) : Int := (valW (hiZ (nB_266 a b)) (loZ (nB_266 a b)))
theorem eB_273 (a b : Int) (hc : wx a < wx b) : nB_273 a b = 0 := by
  have x1 := wx_ge a
  have x2 := wx_le a
  have y1 := wx_ge b
  have y2 := wx_le b
  exact (val_wz _).trans (eB_266 a b hc)
def nB_274 (a b : Int) : Int := (valW (hiZ (nB_193 a b)) (loZ (nB_193 a b)))
theorem eB_274 (a b : Int) (hc : wx a < wx b) : nB_274 a b = 0 := by
  have x1 := wx_ge a
  have x2 := wx_le a
  have y1 := wx_ge b
  have y2 := wx_le b
  exact (val_wz _).trans (eB_193 a b hc)
def nB_275 (a b : Int) : Int := ((nB_273 a b) + (nB_274 a b))
theorem eB_275 (a b : Int) (hc : wx a < wx b) : nB_275 a b = 0 := by
  have x1 := wx_ge a
  have x2 := wx_le a
  have y1 := wx_ge b
  have y2 := wx_le b
  have h273 := eB_273 a b hc
  have h274 := eB_274 a b hc
  show ((nB_273 a b) + (nB_274 a b)) = _
  omega
theorem bB_280 (a b : Int) (hc : wx a < wx b) : (gAdd (hiZ (nB_275 a b)) (loZ (nB_275 a b)) (hiZ (nB_207 a b)) (loZ (nB_207 a b))) = true := by
  have x1 := wx_ge a
  have x2 := wx_le a
  have y1 := wx_ge b
  have y2 := wx_le b
  have h207 := eB_207 a b hc
  have h275 := eB_275 a b hc
  exact gAdd_of (by show _ ≤ (nB_275 a b); omega) (by show (nB_275 a b) < _; omega) (by show _ ≤ (nB_207 a b); omega) (by show (nB_207 a b) < _; omega)
def nB_281 (a b : Int) : Int := (valW (hiZ (nB_275 a b)) (loZ (nB_275 a b)))
theorem eB_281 (a b : Int) (hc : wx a < wx b) : nB_281 a b = 0 := by
  have x1 := wx_ge a
  have x2 := wx_le a
  have y1 := wx_ge b
  have y2 := wx_le b
  exact (val_wz _).trans (eB_275 a b hc)
def nB_282 (a b : Int) : Int := (valW (hiZ (nB_207 a b)) (loZ (nB_207 a b)))
theorem eB_282 (a b : Int) (hc : wx a < wx b) : nB_282 a b = 0 := by
  have x1 := wx_ge a
  have x2 := wx_le a
  have y1 := wx_ge b
  have y2 := wx_le b
  exact (val_wz _).trans (eB_207 a b hc)
def nB_283 (a b : Int) : Int := ((nB_281 a b) + (nB_282 a b))
theorem eB_283 (a b : Int) (hc : wx a < wx b) : nB_283 a b = 0 := by
  have x1 := wx_ge a
  have x2 := wx_le a
  have y1 := wx_ge b
  have y2 := wx_le b
  have h281 := eB_281 a b hc
  have h282 := eB_282 a b hc
  show ((nB_281 a b) + (nB_282 a b)) = _
  omega
theorem bB_285 (a b : Int) (hc : wx a < wx b) : (Nat.blt (loZ (nB_283 a b)) 18446744073709551616) = true := by
  have x1 := wx_ge a
  have x2 := wx_le a
  have y1 := wx_ge b
  have y2 := wx_le b
  exact lo_lt _
def nB_287 (a b : Int) : Int := (valW (hiZ (nB_283 a b)) (loZ (nB_283 a b)))
theorem eB_287 (a b : Int) (hc : wx a < wx b) : nB_287 a b = 0 := by
  have x1 := wx_ge a
  have x2 := wx_le a
  have y1 := wx_ge b
  have y2 := wx_le b
  exact (val_wz _).trans (eB_283 a b hc)
theorem bB_288 (a b : Int) (hc : wx a < wx b) : (inI (nB_287 a b)) = true := by
  have x1 := wx_ge a
  have x2 := wx_le a
  have y1 := wx_ge b
  have y2 := wx_le b
  have h287 := eB_287 a b hc
  exact in_of (by show _ ≤ (nB_287 a b); omega) (by show (nB_287 a b) < _; omega)
theorem bB_289 (a b : Int) (hc : wx a < wx b) : (!(inI (nB_287 a b))) = false := by
  rw [bB_288 a b hc]
  rfl
def nB_290 (a b : Int) : Int := (intZ (nB_229 a b))
theorem eB_290 (a b : Int) (hc : wx a < wx b) : nB_290 a b = ((wx a : Nat) : Int) - ((wx b : Nat) : Int) := by
  have x1 := wx_ge a
  have x2 := wx_le a
  have y1 := wx_ge b
  have y2 := wx_le b
  show (intZ (nB_229 a b)) = _
  rw [eB_229 a b hc]
  exact intZ_of (in_of (by omega) (by omega))
theorem bB_291 (a b : Int) (hc : wx a < wx b) : (eqI (nB_290 a b) 0) = false := by
  have x1 := wx_ge a
  have x2 := wx_le a
  have y1 := wx_ge b
  have y2 := wx_le b
  have h290 := eB_290 a b hc
  refine eq_n ?_
  show ¬ ((nB_290 a b) = 0)
  omega
def nB_292 (a b : Int) : Int := (intZ (nB_250 a b))
theorem eB_292 (a b : Int) (hc : wx a < wx b) : nB_292 a b = -((wx a : Nat) : Int) + ((wx b : Nat) : Int) := by
  have x1 := wx_ge a
  have x2 := wx_le a
  have y1 := wx_ge b
  have y2 := wx_le b
  show (intZ (nB_250 a b)) = _
  rw [eB_250 a b hc]
  exact intZ_of (in_of (by omega) (by omega))
theorem bB_293 (a b : Int) (hc : wx a < wx b) : (eqI (nB_292 a b) 0) = false := by
  have x1 := wx_ge a
  have x2 := wx_le a
  have y1 := wx_ge b
  have y2 := wx_le b
  have h292 := eB_292 a b hc
  refine eq_n ?_
  show ¬ ((nB_292 a b) = 0)
  omega
def nB_294 (a b : Int) : Int := (intZ (nB_287 a b))
theorem eB_294 (a b : Int) (hc : wx a < wx b) : nB_294 a b = 0 := by
  have x1 := wx_ge a
  have x2 := wx_le a
  have y1 := wx_ge b
  have y2 := wx_le b
  show (intZ (nB_287 a b)) = _
  rw [eB_287 a b hc]
  exact intZ_of (in_of (by omega) (by omega))
theorem bB_295 (a b : Int) (hc : wx a < wx b) : (eqI (nB_294 a b) 0) = true := by
  have x1 := wx_ge a
  have x2 := wx_le a
  have y1 := wx_ge b
  have y2 := wx_le b
  have h294 := eB_294 a b hc
  refine eq_y ?_
  show (nB_294 a b) = 0
  omega
theorem bB_296 (a b : Int) (hc : wx a < wx b) : (eqI (Int.ofNat (wx a)) (Int.ofNat (wx b))) = false := by
  have x1 := wx_ge a
  have x2 := wx_le a
  have y1 := wx_ge b
  have y2 := wx_le b
  refine eq_n ?_
  show ¬ ((((wx a) : Nat) : Int) = (((wx b) : Nat) : Int))
  omega
theorem bB_297 (a b : Int) (hc : wx a < wx b) : (!(eqI (Int.ofNat (wx a)) (Int.ofNat (wx b)))) = true := by
  rw [bB_296 a b hc]
  rfl
def nB_298 (a b : Int) : Int := (Int.sub (Int.ofNat (wx a)) (Int.ofNat (wx b)))
theorem eB_298 (a b : Int) (hc : wx a < wx b) : nB_298 a b = ((wx a : Nat) : Int) - ((wx b : Nat) : Int) := by
  have x1 := wx_ge a
  have x2 := wx_le a
  have y1 := wx_ge b
  have y2 := wx_le b
  show ((((wx a) : Nat) : Int) - (((wx b) : Nat) : Int)) = _
  omega
def nB_299 (a b : Int) : Int := (wrapA .i64 (nB_298 a b))
theorem eB_299 (a b : Int) (hc : wx a < wx b) : nB_299 a b = ((wx a : Nat) : Int) - ((wx b : Nat) : Int) := by
  have x1 := wx_ge a
  have x2 := wx_le a
  have y1 := wx_ge b
  have y2 := wx_le b
  show (wrapA .i64 (nB_298 a b)) = _
  rw [eB_298 a b hc]
  exact wrapI (by omega) (by omega)
theorem bB_300 (a b : Int) (hc : wx a < wx b) : (eqI (nB_290 a b) (nB_299 a b)) = true := by
  have x1 := wx_ge a
  have x2 := wx_le a
  have y1 := wx_ge b
  have y2 := wx_le b
  have h290 := eB_290 a b hc
  have h299 := eB_299 a b hc
  refine eq_y ?_
  show (nB_290 a b) = (nB_299 a b)
  omega
theorem bB_301 (a b : Int) (hc : wx a < wx b) : (!(eqI (nB_290 a b) (nB_299 a b))) = false := by
  rw [bB_300 a b hc]
  rfl
def nB_302 (a b : Int) : Int := (Int.sub (Int.ofNat (wx b)) (Int.ofNat (wx a)))
theorem eB_302 (a b : Int) (hc : wx a < wx b) : nB_302 a b = -((wx a : Nat) : Int) + ((wx b : Nat) : Int) := by
  have x1 := wx_ge a
  have x2 := wx_le a
  have y1 := wx_ge b
  have y2 := wx_le b
  show ((((wx b) : Nat) : Int) - (((wx a) : Nat) : Int)) = _
  omega
def nB_303 (a b : Int) : Int := (wrapA .i64 (nB_302 a b))
theorem eB_303 (a b : Int) (hc : wx a < wx b) : nB_303 a b = -((wx a : Nat) : Int) + ((wx b : Nat) : Int) := by
  have x1 := wx_ge a
  have x2 := wx_le a
  have y1 := wx_ge b
  have y2 := wx_le b
  show (wrapA .i64 (nB_302 a b)) = _
  rw [eB_302 a b hc]
  exact wrapI (by omega) (by omega)
theorem bB_304 (a b : Int) (hc : wx a < wx b) : (eqI (nB_292 a b) (nB_303 a b)) = true := by
  have x1 := wx_ge a
  have x2 := wx_le a
  have y1 := wx_ge b
  have y2 := wx_le b
  have h292 := eB_292 a b hc
  have h303 := eB_303 a b hc
  refine eq_y ?_
  show (nB_292 a b) = (nB_303 a b)
  omega
theorem bB_305 (a b : Int) (hc : wx a < wx b) : (!(eqI (nB_292 a b) (nB_303 a b))) = false := by
  rw [bB_304 a b hc]
  rfl
theorem runB (a b : Int) : pairsE a b [(504, some false), (7, some false), (77, some false), (7, some false), (77, some false), (7, some false), (77, some false), (7, some false), (1900, some true), (24, some true), (24, some true), (24, some true), (200, some true), (0, some true), (6, some true), (0, some true), (28, some true), (0, some true), (6, some true), (0, some true), (17, some true), (0, some false), (0, some true), (3, some false), (2, some true), (13, some true), (0, some true), (6, some true), (0, some true), (28, some true), (0, some true), (6, some true), (0, some true), (3, some true), (0, some false), (0, some true), (0, some false), (2, some false), (2, some true), (2, some false), (299, some true), (0, some true), (35, some true), (0, some true), (3, some false), (1, some false), (0, some false), (1, some false), (1, some false), (0, some true), (0, some false), (1, some true), (2, some true), (0, some false), (1, some true), (1, some false), (1, some false), (0, some false), (1, some false), (1, some false), (0, some true), (2, some true), (3, some false), (365, some true), (0, some true), (34, some true), (0, some false), (8, some true), (0, some true), (38, some true), (0, some false), (8, some true), (0, some true), (3, some true), (0, some false), (166, some false), (1, some false), (0, some false), (150, some false), (1, some true), (64, some false), (0, some false), (0, some false), (0, some false), (150, some false), (0, some false), (0, some false), (0, some true), (50, some false), (0, some false), (0, some false), (0, some false), (29, some true), (0, some true), (27, some true), (20, some true), (0, some false), (8, some true), (0, some true), (26, some true), (0, some true), (20, some true), (0, some false), (36, some true), (0, some true), (26, some true), (0, some true), (26, some true), (0, some true), (3, some true), (0, some false), (3, some false), (1, some false), (1, some true), (2, some true), (10, some false), (7, some false)] =
  some [(true, true), ((!(eqI (nB_292 a b) (nB_303 a b))), false),
    ((!(eqI (nB_290 a b) (nB_299 a b))), false),
    ((!(eqI (Int.ofNat (wx a)) (Int.ofNat (wx b)))), true),
    ((eqI (nB_294 a b) 0), true),
    ((eqI (nB_292 a b) 0), false),
    ((eqI (nB_290 a b) 0), false),
    ((!(inI (nB_287 a b))), false),
    ((Nat.blt (loZ (nB_283 a b)) 18446744073709551616), true),
    ((gAdd (hiZ (nB_275 a b)) (loZ (nB_275 a b)) (hiZ (nB_207 a b)) (loZ (nB_207 a b))), true),
    ((inI (nB_207 a b)), true),
    ((gAdd (hiZ (nB_266 a b)) (loZ (nB_266 a b)) (hiZ (nB_193 a b)) (loZ (nB_193 a b))), true),
    ((inI (nB_193 a b)), true),
    ((gAdd (hiZ (nB_257 a b)) (loZ (nB_257 a b)) (hiZ (nB_170 a b)) (loZ (nB_170 a b))), true),
    ((inI (nB_170 a b)), true),
    ((!(inI (nB_250 a b))), false),
    ((Nat.blt (loZ (nB_246 a b)) 18446744073709551616), true),
    ((gAdd (hiZ (nB_238 a b)) (loZ (nB_238 a b)) (hiZ (nB_199 a b)) (loZ (nB_199 a b))), true),
    ((inI (nB_199 a b)), true),
    ((gAdd 0 0 (hiZ (nB_168 a b)) (loZ (nB_168 a b))), true),
    ((inI (nB_168 a b)), true),
    ((!(inI (nB_229 a b))), false),
    ((Nat.blt (loZ (nB_225 a b)) 18446744073709551616), true),
    ((gAdd (hiZ (nB_217 a b)) (loZ (nB_217 a b)) (hiZ (nB_182 a b)) (loZ (nB_182 a b))), true),
    ((gAdd 0 0 (hiZ (nB_188 a b)) (loZ (nB_188 a b))), true),
    ((inI (nB_188 a b)), true),
    ((ltI (nB_193 a b) (nB_207 a b)), false),
    ((ltI (nB_207 a b) (nB_193 a b)), false),
    ((!(eqI (nB_193 a b) (nB_193 a b))), false),
    ((!(eqI (nB_207 a b) (nB_207 a b))), false),
    ((ltI (nB_168 a b) (nB_199 a b)), true),
    ((ltI (nB_199 a b) (nB_168 a b)), false),
    ((!(eqI (nB_168 a b) (nB_168 a b))), false),
    ((!(eqI (nB_199 a b) (nB_199 a b))), false),
    ((ltI (nB_170 a b) (nB_193 a b)), false),
    ((ltI (nB_193 a b) (nB_170 a b)), false),
    ((!(eqI (nB_170 a b) (nB_170 a b))), false),
    ((!(eqI (nB_193 a b) (nB_193 a b))), false),
    ((ltI (nB_188 a b) (nB_182 a b)), true),
    ((!(eqI (nB_188 a b) (nB_188 a b))), false),
    ((ltI (nB_184 a b) (nB_170 a b)), false),
    ((ltI (nB_170 a b) (nB_184 a b)), false),
    ((!(eqI (nB_170 a b) (nB_170 a b))), false),
    ((!(inI (nB_162 a b))), false),
    ((Nat.blt (loZ (nB_158 a b)) 18446744073709551616), true),
    ((gAdd 0 0 (hiZ (Int.ofNat (wx b))) (loZ (Int.ofNat (wx b)))), true),
    ((inI (Int.ofNat (wx b))), true),
    ((!(inI (nB_154 a b))), false),
    ((Nat.blt (loZ (nB_150 a b)) 18446744073709551616), true),
    ((gAdd 0 0 (hiZ (nB_144 a b)) (loZ (nB_144 a b))), true),
    ((inI (nB_144 a b)), true),
    ((!(inI (nB_141 a b))), false),
    ((Nat.blt (loZ (nB_137 a b)) 18446744073709551616), true),
    ((gAdd 0 0 (hiZ (nB_10 a b)) (loZ (nB_10 a b))), true),
    ((inI (nB_10 a b)), true),
    ((!(inI (nB_133 a b))), false),
    ((Nat.blt (loZ (nB_126 a b)) 18446744073709551616), true),
    ((ltI 0 (Int.ofNat (loZ (nB_33 a b)))), true),
    ((ltI (Int.ofNat (loZ (nB_33 a b))) 0), false),
    ((!(eqI (Int.ofNat (loZ (nB_33 a b))) (Int.ofNat (loZ (nB_33 a b))))), false),
    ((ltI 0 (hiZ (nB_33 a b))), false),
    ((ltI (hiZ (nB_33 a b)) 0), false),
    ((!(eqI (hiZ (nB_33 a b)) (hiZ (nB_33 a b)))), false),
    ((ltI (hiZ (nB_126 a b)) 0), true),
    ((!(eqI (hiZ (nB_126 a b)) (hiZ (nB_126 a b)))), false),
    ((gAdd (hiZ (nB_33 a b)) (loZ (nB_33 a b)) (hiZ (nB_83 a b)) (loZ (nB_83 a b))), true),
    ((ltI (hiZ (nB_83 a b)) 0), true),
    ((!(eqI (hiZ (nB_83 a b)) (hiZ (nB_83 a b)))), false),
    ((ltI 0 (Int.ofNat (loZ (nB_33 a b)))), true),
    ((ltI (Int.ofNat (loZ (nB_33 a b))) 0), false),
    ((!(eqI (Int.ofNat (loZ (nB_33 a b))) (Int.ofNat (loZ (nB_33 a b))))), false),
    ((ltI 0 (hiZ (nB_33 a b))), false),
    ((ltI (hiZ (nB_33 a b)) 0), false),
    ((!(eqI (hiZ (nB_33 a b)) (hiZ (nB_33 a b)))), false),
    ((gAdd 0 0 (hiZ (nB_17 a b)) (loZ (nB_17 a b))), true),
    ((inI (nB_17 a b)), true),
    ((gAdd 0 0 (hiZ (Int.ofNat (wx a))) (loZ (Int.ofNat (wx a)))), true),
    ((inI (Int.ofNat (wx a))), true),
    ((!(inI (nB_108 a b))), false),
    ((eqI (nB_111 a b) 0), true),
    ((!(inI (nB_108 a b))), false),
    ((!(inI (nB_74 a b))), false),
    (((smallH (hiZ (nB_91 a b))) && (Nat.blt (loZ (nB_91 a b)) 18446744073709551616)), true),
    ((eqB false (eq0 (nB_91 a b))), false),
    ((eq0 (nB_91 a b)).isSome, true),
    ((gAdd (hiZ (nB_83 a b)) (loZ (nB_83 a b)) (hiZ (Int.ofNat (wx b))) (loZ (Int.ofNat (wx b)))), true),
    ((inI (Int.ofNat (wx b))), true),
    ((gAdd (hiZ (nB_83 a b)) (loZ (nB_83 a b)) (hiZ (Int.ofNat (wx b))) (loZ (Int.ofNat (wx b)))), true),
    ((inI (Int.ofNat (wx b))), true),
    ((gAdd 0 0 (hiZ (nB_17 a b)) (loZ (nB_17 a b))), true),
    ((inI (nB_17 a b)), true),
    ((gAdd 0 0 (hiZ (nB_17 a b)) (loZ (nB_17 a b))), true),
    ((inI (nB_17 a b)), true),
    ((eqI (nB_77 a b) 0), true),
    ((!(inI (nB_74 a b))), false),
    (((smallH (hiZ (nB_43 a b))) && (Nat.blt (loZ (nB_43 a b)) 18446744073709551616)), true),
    ((eqB false (eq0 (nB_43 a b))), false),
    ((eq0 (nB_43 a b)).isSome, true),
    ((gAdd (hiZ (nB_33 a b)) (loZ (nB_33 a b)) (hiZ (nB_10 a b)) (loZ (nB_10 a b))), true),
    ((inI (nB_10 a b)), true),
    ((gAdd (hiZ (nB_33 a b)) (loZ (nB_33 a b)) (hiZ (nB_10 a b)) (loZ (nB_10 a b))), true),
    ((inI (nB_10 a b)), true),
    ((gAdd 0 0 (hiZ (Int.ofNat (wx a))) (loZ (Int.ofNat (wx a)))), true),
    ((inI (Int.ofNat (wx a))), true),
    ((gAdd 0 0 (hiZ (Int.ofNat (wx a))) (loZ (Int.ofNat (wx a)))), true),
    ((inI (Int.ofNat (wx a))), true),
    ((inI (Int.ofNat (wx b))), true),
    ((inI (nB_17 a b)), true),
    ((inI (nB_10 a b)), true),
    ((inI (Int.ofNat (wx a))), true),
    ((ltI 9223372036854775807 (Int.ofNat (wx b))), false),
    ((ltI (Int.ofNat (wx b)) (-9223372036854775807)), false),
    ((ltI 9223372036854775807 (nB_17 a b)), false),
    ((ltI (nB_17 a b) (-9223372036854775807)), false),
    ((ltI 9223372036854775807 (nB_10 a b)), false),
    ((ltI (nB_10 a b) (-9223372036854775807)), false),
    ((ltI 9223372036854775807 (Int.ofNat (wx a))), false),
    ((ltI (Int.ofNat (wx a)) (-9223372036854775807)), false)] := by kernel_rfl
theorem pairsB (a b : Int) (hc : wx a < wx b) (W : World) : Calls Tryz.prog 3 #[.int .i64 a, .int .i64 b] W fun x w' => x = .returned (.bool true) ∧ Go.RowKit.Below W.heap.size W w' :=
  callsO_true hP hmix tolds_P (runB a b) (qcons rfl (qcons (bB_305 a b hc) (qcons (bB_301 a b hc) (qcons (bB_297 a b hc) (qcons (bB_295 a b hc) (qcons (bB_293 a b hc) (qcons (bB_291 a b hc) (qcons (bB_289 a b hc) (qcons (bB_285 a b hc) (qcons (bB_280 a b hc) (qcons (bB_272 a b hc) (qcons (bB_271 a b hc) (qcons (bB_263 a b hc) (qcons (bB_262 a b hc) (qcons (bB_253 a b hc) (qcons (bB_252 a b hc) (qcons (bB_248 a b hc) (qcons (bB_243 a b hc) (qcons (bB_236 a b hc) (qcons (bB_235 a b hc) (qcons (bB_232 a b hc) (qcons (bB_231 a b hc) (qcons (bB_227 a b hc) (qcons (bB_222 a b hc) (qcons (bB_215 a b hc) (qcons (bB_212 a b hc) (qcons (bB_211 a b hc) (qcons (bB_210 a b hc) (qcons (bB_195 a b hc) (qcons (bB_209 a b hc) (qcons (bB_205 a b hc) (qcons (bB_204 a b hc) (qcons (bB_203 a b hc) (qcons (bB_201 a b hc) (qcons (bB_197 a b hc) (qcons (bB_196 a b hc) (qcons (bB_172 a b hc) (qcons (bB_195 a b hc) (qcons (bB_191 a b hc) (qcons (bB_190 a b hc) (qcons (bB_186 a b hc) (qcons (bB_185 a b hc) (qcons (bB_172 a b hc) (qcons (bB_164 a b hc) (qcons (bB_160 a b hc) (qcons (bB_157 a b hc) (qcons (bB_25 a b hc) (qcons (bB_156 a b hc) (qcons (bB_152 a b hc) (qcons (bB_148 a b hc) (qcons (bB_145 a b hc) (qcons (bB_143 a b hc) (qcons (bB_139 a b hc) (qcons (bB_136 a b hc) (qcons (bB_23 a b hc) (qcons (bB_135 a b hc) (qcons (bB_132 a b hc) (qcons (bB_121 a b hc) (qcons (bB_120 a b hc) (qcons (bB_119 a b hc) (qcons (bB_116 a b hc) (qcons (bB_115 a b hc) (qcons (bB_114 a b hc) (qcons (bB_130 a b hc) (qcons (bB_129 a b hc) (qcons (bB_125 a b hc) (qcons (bB_124 a b hc) (qcons (bB_123 a b hc) (qcons (bB_121 a b hc) (qcons (bB_120 a b hc) (qcons (bB_119 a b hc) (qcons (bB_116 a b hc) (qcons (bB_115 a b hc) (qcons (bB_114 a b hc) (qcons (bB_81 a b hc) (qcons (bB_24 a b hc) (qcons (bB_30 a b hc) (qcons (bB_22 a b hc) (qcons (bB_110 a b hc) (qcons (bB_112 a b hc) (qcons (bB_110 a b hc) (qcons (bB_76 a b hc) (qcons (bB_106 a b hc) (qcons (bB_103 a b hc) (qcons (bB_102 a b hc) (qcons (bB_88 a b hc) (qcons (bB_25 a b hc) (qcons (bB_88 a b hc) (qcons (bB_25 a b hc) (qcons (bB_81 a b hc) (qcons (bB_24 a b hc) (qcons (bB_81 a b hc) (qcons (bB_24 a b hc) (qcons (bB_78 a b hc) (qcons (bB_76 a b hc) (qcons (bB_72 a b hc) (qcons (bB_68 a b hc) (qcons (bB_66 a b hc) (qcons (bB_38 a b hc) (qcons (bB_23 a b hc) (qcons (bB_38 a b hc) (qcons (bB_23 a b hc) (qcons (bB_30 a b hc) (qcons (bB_22 a b hc) (qcons (bB_30 a b hc) (qcons (bB_22 a b hc) (qcons (bB_25 a b hc) (qcons (bB_24 a b hc) (qcons (bB_23 a b hc) (qcons (bB_22 a b hc) (qcons (bB_21 a b hc) (qcons (bB_20 a b hc) (qcons (bB_19 a b hc) (qcons (bB_18 a b hc) (qcons (bB_12 a b hc) (qcons (bB_11 a b hc) (qcons (bB_6 a b hc) (qcons (bB_5 a b hc) qnil)))))))))))))))))))))))))))))))))))))))))))))))))))))))))))))))))))))))))))))))))))))))))))))))))))))))))))))))))))))) (.cons ((plain_int _ _).1 _) (.cons ((plain_int _ _).1 _) .nil)) W
end Go.Proofs.YtinlmdapgejdoaaGreat.sp
end
end
