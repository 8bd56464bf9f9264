/- What two entities owe each other: one way through (printed by wip/gen/asks2lean.py). -/
import Derived.Test.YtinlmdapgejdoaaGreatMRowClosingPairs1
section
/- What two entities owe each other: the law's run, with answers. -/
noncomputable section
namespace Go.Proofs.YtinlmdapgejdoaaGreat.sp
open AE
set_option linter.unusedSimpArgs false
set_option linter.unusedVariables false
set_option maxRecDepth 10000

def gateP : List (Nat × (List Value → Option (Bool × Value))) := [(122, ofG), (121, addG), (120, intG), (51, scale1G), (97, oppG)]
def sigP : List (FuncId × (List Value → AM Value)) := [(5, withinP), (7, cardP), (78, splitA), (9, constA (.bool true))]
theorem told_runsP : AE.Told Tryz.prog 9 (constA (.bool true)) := told_of_calls rfl closingRuns_any
theorem tolds_P : Tolds Tryz.prog (gated (gatesOf gateP) (sumsOf sigP)) := tolds_gates (tolds_cons told_withinP (tolds_cons told_cardP (tolds_cons told_split (tolds_cons told_runsP tolds_nil)))) (by
  intro p hp
  simp only [gateP, List.mem_cons, List.not_mem_nil, or_false] at hp
  rcases hp with rfl | rfl | rfl | rfl | rfl
  · exact told_ofG
  · exact told_addG
  · exact told_intG
  · exact told_scale1
  · exact told_oppG)
noncomputable def pairsE (a b : Int) (told : List (Nat × Option Bool)) : Option (List (Bool × Bool)) :=
  asks (evNextO (evO E (gatesOf gateP) (sumsOf sigP) 100000) E (.enter 3 [.int .i64 a, .int .i64 b]) s0 ⟨told, []⟩)
/-! what the questions come to -/
theorem intZ_of {z : Int} (h : inI z = true) : intZ z = z := by
  unfold intZ
  rw [h]
theorem in_of {z : Int} (h1 : -9223372036854775808 ≤ z) (h2 : z < 9223372036854775808) : inI z = true := inI_iff.2 ⟨h1, h2⟩
theorem sc_of {z : Int} (h1 : -9223372036854775808 ≤ z) (h2 : z < 9223372036854775808) : scI z (cl 10000) = z := sc_all z (wrapI h1 h2)
theorem small_of {z : Int} (h1 : -1267650600228229401496703205376 ≤ z) (h2 : z < 1267650600228229401496703205376) : smallH (hiZ z) = true := by
  rw [smallH_iff]
  unfold hiZ
  omega
theorem gAdd_of {y z : Int} (h1 : -1267650600228229401496703205376 ≤ y) (h2 : y < 1267650600228229401496703205376) (h3 : -1267650600228229401496703205376 ≤ z) (h4 : z < 1267650600228229401496703205376) : gAdd (hiZ y) (loZ y) (hiZ z) (loZ z) = true := by
  unfold gAdd
  rw [small_of h1 h2, small_of h3 h4, blt_iff.2 (loZ_lt y), blt_iff.2 (loZ_lt z)]
  rfl
theorem gAdd_0 {z : Int} (h3 : -1267650600228229401496703205376 ≤ z) (h4 : z < 1267650600228229401496703205376) : gAdd 0 0 (hiZ z) (loZ z) = true := gAdd_of (y := 0) (by decide) (by decide) h3 h4
theorem opp_of {z : Int} (h1 : -1267650600228229401496703205376 ≤ z) (h2 : z < 1267650600228229401496703205376) : (smallH (hiZ z) && Nat.blt (loZ z) 18446744073709551616) = true := by
  rw [small_of h1 h2, blt_iff.2 (loZ_lt z)]
  rfl
theorem lt_y {x y : Int} (h : x < y) : ltI x y = true := by rw [ltI_eq]; exact decide_eq_true h
theorem lt_n {x y : Int} (h : ¬ x < y) : ltI x y = false := by rw [ltI_eq]; exact decide_eq_false h
theorem eq_y {x y : Int} (h : x = y) : eqI x y = true := by rw [eqI_eq]; exact decide_eq_true h
theorem eq_n {x y : Int} (h : ¬ x = y) : eqI x y = false := by rw [eqI_eq]; exact decide_eq_false h
theorem lo_lt (z : Int) : Nat.blt (loZ z) 18446744073709551616 = true := blt_iff.2 (loZ_lt z)
/-- a sum against none -/
noncomputable def eq0 (z : Int) : Option Bool := eqTop E 96 (.agg ⟨[.int .i64 (hiZ z), .int .u64 (.ofNat (loZ z))]⟩) (.agg ⟨[.int .i64 0, .int .u64 0]⟩)
theorem eq0_is (z : Int) : eq0 z = some (decide (z = 0)) := by
  unfold eq0
  rw [eqW]
  have h := val_wz z
  unfold valW at h
  have : (eqI (hiZ z) 0 && eqI (.ofNat (loZ z)) 0) = decide (z = 0) := by
    rw [eqI_eq, eqI_eq, Bool.eq_iff_iff]
    simp only [Bool.and_eq_true, decide_eq_true_iff]
    constructor
    · rintro ⟨e1, e2⟩
      have e2 : ((loZ z : Nat) : Int) = 0 := e2
      omega
    · rintro rfl
      exact ⟨rfl, rfl⟩
  rw [this]
end Go.Proofs.YtinlmdapgejdoaaGreat.sp
end
end

section
/- What two entities owe each other: one way through (printed by wip/gen/asks2lean.py). -/
noncomputable section
namespace Go.Proofs.YtinlmdapgejdoaaGreat.sp
open AE
set_option linter.unusedSimpArgs false
set_option linter.unusedVariables false
set_option maxRecDepth 100000
theorem bA_5 (a b : Int) (hc : wx b < wx a) : (ltI (Int.ofNat (wx a)) (-9223372036854775807)) = false := by
  have x1 := wx_ge a
  have x2 := wx_le a
  have y1 := wx_ge b
  have y2 := wx_le b
  refine lt_n ?_
  show ¬ ((((wx a) : Nat) : Int) < (-9223372036854775807))
  omega
theorem bA_6 (a b : Int) (hc : wx b < wx a) : (ltI 9223372036854775807 (Int.ofNat (wx a))) = false := by
  have x1 := wx_ge a
  have x2 := wx_le a
  have y1 := wx_ge b
  have y2 := wx_le b
  refine lt_n ?_
  show ¬ (9223372036854775807 < (((wx a) : Nat) : Int))
  omega
def nA_9 (a b : Int) : Int := (Int.sub 0 (Int.ofNat (wx a)))
theorem eA_9 (a b : Int) (hc : wx b < wx a) : nA_9 a b = -((wx a : Nat) : Int) := by
  have x1 := wx_ge a
  have x2 := wx_le a
  have y1 := wx_ge b
  have y2 := wx_le b
  show (0 - (((wx a) : Nat) : Int)) = _
  omega
def nA_10 (a b : Int) : Int := (wrapA .i64 (nA_9 a b))
theorem eA_10 (a b : Int) (hc : wx b < wx a) : nA_10 a b = -((wx a : Nat) : Int) := by
  have x1 := wx_ge a
  have x2 := wx_le a
  have y1 := wx_ge b
  have y2 := wx_le b
  show (wrapA .i64 (nA_9 a b)) = _
  rw [eA_9 a b hc]
  exact wrapI (by omega) (by omega)
theorem bA_11 (a b : Int) (hc : wx b < wx a) : (ltI (nA_10 a b) (-9223372036854775807)) = false := by
  have x1 := wx_ge a
  have x2 := wx_le a
  have y1 := wx_ge b
  have y2 := wx_le b
  have h10 := eA_10 a b hc
  refine lt_n ?_
  show ¬ ((nA_10 a b) < (-9223372036854775807))
  omega
theorem bA_12 (a b : Int) (hc : wx b < wx a) : (ltI 9223372036854775807 (nA_10 a b)) = false := by
  have x1 := wx_ge a
  have x2 := wx_le a
  have y1 := wx_ge b
  have y2 := wx_le b
  have h10 := eA_10 a b hc
  refine lt_n ?_
  show ¬ (9223372036854775807 < (nA_10 a b))
  omega
def nA_16 (a b : Int) : Int := (Int.sub 0 (Int.ofNat (wx b)))
theorem eA_16 (a b : Int) (hc : wx b < wx a) : nA_16 a b = -((wx b : Nat) : Int) := by
  have x1 := wx_ge a
  have x2 := wx_le a
  have y1 := wx_ge b
  have y2 := wx_le b
  show (0 - (((wx b) : Nat) : Int)) = _
  omega
def nA_17 (a b : Int) : Int := (wrapA .i64 (nA_16 a b))
theorem eA_17 (a b : Int) (hc : wx b < wx a) : nA_17 a b = -((wx b : Nat) : Int) := by
  have x1 := wx_ge a
  have x2 := wx_le a
  have y1 := wx_ge b
  have y2 := wx_le b
  show (wrapA .i64 (nA_16 a b)) = _
  rw [eA_16 a b hc]
  exact wrapI (by omega) (by omega)
theorem bA_18 (a b : Int) (hc : wx b < wx a) : (ltI (nA_17 a b) (-9223372036854775807)) = false := by
  have x1 := wx_ge a
  have x2 := wx_le a
  have y1 := wx_ge b
  have y2 := wx_le b
  have h17 := eA_17 a b hc
  refine lt_n ?_
  show ¬ ((nA_17 a b) < (-9223372036854775807))
  omega
theorem bA_19 (a b : Int) (hc : wx b < wx a) : (ltI 9223372036854775807 (nA_17 a b)) = false := by
  have x1 := wx_ge a
  have x2 := wx_le a
  have y1 := wx_ge b
  have y2 := wx_le b
  have h17 := eA_17 a b hc
  refine lt_n ?_
  show ¬ (9223372036854775807 < (nA_17 a b))
  omega
theorem bA_20 (a b : Int) (hc : wx b < wx a) : (ltI (Int.ofNat (wx b)) (-9223372036854775807)) = false := by
  have x1 := wx_ge a
  have x2 := wx_le a
  have y1 := wx_ge b
  have y2 := wx_le b
  refine lt_n ?_
  show ¬ ((((wx b) : Nat) : Int) < (-9223372036854775807))
  omega
theorem bA_21 (a b : Int) (hc : wx b < wx a) : (ltI 9223372036854775807 (Int.ofNat (wx b))) = false := by
  have x1 := wx_ge a
  have x2 := wx_le a
  have y1 := wx_ge b
  have y2 := wx_le b
  refine lt_n ?_
  show ¬ (9223372036854775807 < (((wx b) : Nat) : Int))
  omega
theorem bA_22 (a b : Int) (hc : wx b < wx a) : (inI (Int.ofNat (wx a))) = true := by
  have x1 := wx_ge a
  have x2 := wx_le a
  have y1 := wx_ge b
  have y2 := wx_le b
  exact in_of (by show _ ≤ (((wx a) : Nat) : Int); omega) (by show (((wx a) : Nat) : Int) < _; omega)
theorem bA_23 (a b : Int) (hc : wx b < wx a) : (inI (nA_10 a b)) = true := by
  have x1 := wx_ge a
  have x2 := wx_le a
  have y1 := wx_ge b
  have y2 := wx_le b
  have h10 := eA_10 a b hc
  exact in_of (by show _ ≤ (nA_10 a b); omega) (by show (nA_10 a b) < _; omega)
theorem bA_24 (a b : Int) (hc : wx b < wx a) : (inI (nA_17 a b)) = true := by
  have x1 := wx_ge a
  have x2 := wx_le a
  have y1 := wx_ge b
  have y2 := wx_le b
  have h17 := eA_17 a b hc
  exact in_of (by show _ ≤ (nA_17 a b); omega) (by show (nA_17 a b) < _; omega)
theorem bA_25 (a b : Int) (hc : wx b < wx a) : (inI (Int.ofNat (wx b))) = true := by
  have x1 := wx_ge a
  have x2 := wx_le a
  have y1 := wx_ge b
  have y2 := wx_le b
  exact in_of (by show _ ≤ (((wx b) : Nat) : Int); omega) (by show (((wx b) : Nat) : Int) < _; omega)
theorem bA_30 (a b : Int) (hc : wx b < wx a) : (gAdd 0 0 (hiZ (Int.ofNat (wx a))) (loZ (Int.ofNat (wx a)))) = true := by
  have x1 := wx_ge a
  have x2 := wx_le a
  have y1 := wx_ge b
  have y2 := wx_le b
  exact gAdd_0 (by show _ ≤ (((wx a) : Nat) : Int); omega) (by show (((wx a) : Nat) : Int) < _; omega)
def nA_31 (a b : Int) : Int := (valW 0 0)
theorem eA_31 (a b : Int) (hc : wx b < wx a) : nA_31 a b = 0 := by
  have x1 := wx_ge a
  have x2 := wx_le a
  have y1 := wx_ge b
  have y2 := wx_le b
  rfl
def nA_32 (a b : Int) : Int := (valW (hiZ (Int.ofNat (wx a))) (loZ (Int.ofNat (wx a))))
theorem eA_32 (a b : Int) (hc : wx b < wx a) : nA_32 a b = ((wx a : Nat) : Int) := by
  have x1 := wx_ge a
  have x2 := wx_le a
  have y1 := wx_ge b
  have y2 := wx_le b
  exact val_wz _
def nA_33 (a b : Int) : Int := ((nA_31 a b) + (nA_32 a b))
theorem eA_33 (a b : Int) (hc : wx b < wx a) : nA_33 a b = ((wx a : Nat) : Int) := by
  have x1 := wx_ge a
  have x2 := wx_le a
  have y1 := wx_ge b
  have y2 := wx_le b
  have h31 := eA_31 a b hc
  have h32 := eA_32 a b hc
  show ((nA_31 a b) + (nA_32 a b)) = _
  omega
theorem bA_38 (a b : Int) (hc : wx b < wx a) : (gAdd (hiZ (nA_33 a b)) (loZ (nA_33 a b)) (hiZ (nA_10 a b)) (loZ (nA_10 a b))) = true := by
  have x1 := wx_ge a
  have x2 := wx_le a
  have y1 := wx_ge b
  have y2 := wx_le b
  have h10 := eA_10 a b hc
  have h33 := eA_33 a b hc
  exact gAdd_of (by show _ ≤ (nA_33 a b); omega) (by show (nA_33 a b) < _; omega) (by show _ ≤ (nA_10 a b); omega) (by show (nA_10 a b) < _; omega)
def nA_41 (a b : Int) : Int := (valW (hiZ (nA_33 a b)) (loZ (nA_33 a b)))
theorem eA_41 (a b : Int) (hc : wx b < wx a) : nA_41 a b = ((wx a : Nat) : Int) := by
  have x1 := wx_ge a
  have x2 := wx_le a
  have y1 := wx_ge b
  have y2 := wx_le b
  exact (val_wz _).trans (eA_33 a b hc)
def nA_42 (a b : Int) : Int := (valW (hiZ (nA_10 a b)) (loZ (nA_10 a b)))
theorem eA_42 (a b : Int) (hc : wx b < wx a) : nA_42 a b = -((wx a : Nat) : Int) := by
  have x1 := wx_ge a
  have x2 := wx_le a
  have y1 := wx_ge b
  have y2 := wx_le b
  exact (val_wz _).trans (eA_10 a b hc)
def nA_43 (a b : Int) : Int := ((nA_41 a b) + (nA_42 a b))
theorem eA_43 (a b : Int) (hc : wx b < wx a) : nA_43 a b = 0 := by
  have x1 := wx_ge a
  have x2 := wx_le a
  have y1 := wx_ge b
  have y2 := wx_le b
  have h41 := eA_41 a b hc
  have h42 := eA_42 a b hc
  show ((nA_41 a b) + (nA_42 a b)) = _
  omega
theorem bA_66 (a b : Int) (hc : wx b < wx a) : (eq0 (nA_43 a b)).isSome = true := by
  rw [eq0_is]
  rfl
theorem bA_68 (a b : Int) (hc : wx b < wx a) : (eqB false (eq0 (nA_43 a b))) = false := by
  have x1 := wx_ge a
  have x2 := wx_le a
  have y1 := wx_ge b
  have y2 := wx_le b
  have h43 := eA_43 a b hc
  rw [eq0_is, decide_eq_true (by omega)]
  rfl
theorem bA_72 (a b : Int) (hc : wx b < wx a) : ((smallH (hiZ (nA_43 a b))) && (Nat.blt (loZ (nA_43 a b)) 18446744073709551616)) = true := by
  have x1 := wx_ge a
  have x2 := wx_le a
  have y1 := wx_ge b
  have y2 := wx_le b
  have h43 := eA_43 a b hc
  exact opp_of (by show _ ≤ (nA_43 a b); omega) (by show (nA_43 a b) < _; omega)
def nA_73 (a b : Int) : Int := (valW (hiZ (nA_43 a b)) (loZ (nA_43 a b)))
theorem eA_73 (a b : Int) (hc : wx b < wx a) : nA_73 a b = 0 := by
  have x1 := wx_ge a
  have x2 := wx_le a
  have y1 := wx_ge b
  have y2 := wx_le b
  exact (val_wz _).trans (eA_43 a b hc)
def nA_74 (a b : Int) : Int := (-(nA_73 a b))
theorem eA_74 (a b : Int) (hc : wx b < wx a) : nA_74 a b = 0 := by
  have x1 := wx_ge a
  have x2 := wx_le a
  have y1 := wx_ge b
  have y2 := wx_le b
  have h73 := eA_73 a b hc
  show (-(nA_73 a b)) = _
  omega
theorem bA_75 (a b : Int) (hc : wx b < wx a) : (inI (nA_74 a b)) = true := by
  have x1 := wx_ge a
  have x2 := wx_le a
  have y1 := wx_ge b
  have y2 := wx_le b
  have h74 := eA_74 a b hc
  exact in_of (by show _ ≤ (nA_74 a b); omega) (by show (nA_74 a b) < _; omega)
theorem bA_76 (a b : Int) (hc : wx b < wx a) : (!(inI (nA_74 a b))) = false := by
  rw [bA_75 a b hc]
  rfl
def nA_77 (a b : Int) : Int := (intZ (nA_74 a b))
theorem eA_77 (a b : Int) (hc : wx b < wx a) : nA_77 a b = 0 := by
  have x1 := wx_ge a
  have x2 := wx_le a
  have y1 := wx_ge b
  have y2 := wx_le b
  show (intZ (nA_74 a b)) = _
  rw [eA_74 a b hc]
  exact intZ_of (in_of (by omega) (by omega))
theorem bA_78 (a b : Int) (hc : wx b < wx a) : (eqI (nA_77 a b) 0) = true := by
  have x1 := wx_ge a
  have x2 := wx_le a
  have y1 := wx_ge b
  have y2 := wx_le b
  have h77 := eA_77 a b hc
  refine eq_y ?_
  show (nA_77 a b) = 0
  omega
theorem bA_81 (a b : Int) (hc : wx b < wx a) : (gAdd 0 0 (hiZ (nA_17 a b)) (loZ (nA_17 a b))) = true := by
  have x1 := wx_ge a
  have x2 := wx_le a
  have y1 := wx_ge b
  have y2 := wx_le b
  have h17 := eA_17 a b hc
  exact gAdd_0 (by show _ ≤ (nA_17 a b); omega) (by show (nA_17 a b) < _; omega)
def nA_82 (a b : Int) : Int := (valW (hiZ (nA_17 a b)) (loZ (nA_17 a b)))
theorem eA_82 (a b : Int) (hc : wx b < wx a) : nA_82 a b = -((wx b : Nat) : Int) := by
  have x1 := wx_ge a
  have x2 := wx_le a
  have y1 := wx_ge b
  have y2 := wx_le b
  exact (val_wz _).trans (eA_17 a b hc)
def nA_83 (a b : Int) : Int := ((nA_31 a b) + (nA_82 a b))
theorem eA_83 (a b : Int) (hc : wx b < wx a) : nA_83 a b = -((wx b : Nat) : Int) := by
  have x1 := wx_ge a
  have x2 := wx_le a
  have y1 := wx_ge b
  have y2 := wx_le b
  have h31 := eA_31 a b hc
  have h82 := eA_82 a b hc
  show ((nA_31 a b) + (nA_82 a b)) = _
  omega
theorem bA_88 (a b : Int) (hc : wx b < wx a) : (gAdd (hiZ (nA_83 a b)) (loZ (nA_83 a b)) (hiZ (Int.ofNat (wx b))) (loZ (Int.ofNat (wx b)))) = true := by
  have x1 := wx_ge a
  have x2 := wx_le a
  have y1 := wx_ge b
  have y2 := wx_le b
  have h83 := eA_83 a b hc
  exact gAdd_of (by show _ ≤ (nA_83 a b); omega) (by show (nA_83 a b) < _; omega) (by show _ ≤ (((wx b) : Nat) : Int); omega) (by show (((wx b) : Nat) : Int) < _; omega)
def nA_89 (a b : Int) : Int := (valW (hiZ (nA_83 a b)) (loZ (nA_83 a b)))
theorem eA_89 (a b : Int) (hc : wx b < wx a) : nA_89 a b = -((wx b : Nat) : Int) := by
  have x1 := wx_ge a
  have x2 := wx_le a
  have y1 := wx_ge b
  have y2 := wx_le b
  exact (val_wz _).trans (eA_83 a b hc)
def nA_90 (a b : Int) : Int := (valW (hiZ (Int.ofNat (wx b))) (loZ (Int.ofNat (wx b))))
theorem eA_90 (a b : Int) (hc : wx b < wx a) : nA_90 a b = ((wx b : Nat) : Int) := by
  have x1 := wx_ge a
  have x2 := wx_le a
  have y1 := wx_ge b
  have y2 := wx_le b
  exact val_wz _
def nA_91 (a b : Int) : Int := ((nA_89 a b) + (nA_90 a b))
theorem eA_91 (a b : Int) (hc : wx b < wx a) : nA_91 a b = 0 := by
  have x1 := wx_ge a
  have x2 := wx_le a
  have y1 := wx_ge b
  have y2 := wx_le b
  have h89 := eA_89 a b hc
  have h90 := eA_90 a b hc
  show ((nA_89 a b) + (nA_90 a b)) = _
  omega
theorem bA_102 (a b : Int) (hc : wx b < wx a) : (eq0 (nA_91 a b)).isSome = true := by
  rw [eq0_is]
  rfl
theorem bA_103 (a b : Int) (hc : wx b < wx a) : (eqB false (eq0 (nA_91 a b))) = false := by
  have x1 := wx_ge a
  have x2 := wx_le a
  have y1 := wx_ge b
  have y2 := wx_le b
  have h91 := eA_91 a b hc
  rw [eq0_is, decide_eq_true (by omega)]
  rfl
theorem bA_106 (a b : Int) (hc : wx b < wx a) : ((smallH (hiZ (nA_91 a b))) && (Nat.blt (loZ (nA_91 a b)) 18446744073709551616)) = true := by
  have x1 := wx_ge a
  have x2 := wx_le a
  have y1 := wx_ge b
  have y2 := wx_le b
  have h91 := eA_91 a b hc
  exact opp_of (by show _ ≤ (nA_91 a b); omega) (by show (nA_91 a b) < _; omega)
def nA_107 (a b : Int) : Int := (valW (hiZ (nA_91 a b)) (loZ (nA_91 a b)))
theorem eA_107 (a b : Int) (hc : wx b < wx a) : nA_107 a b = 0 := by
  have x1 := wx_ge a
  have x2 := wx_le a
  have y1 := wx_ge b
  have y2 := wx_le b
  exact (val_wz _).trans (eA_91 a b hc)
def nA_108 (a b : Int) : Int := (-(nA_107 a b))
theorem eA_108 (a b : Int) (hc : wx b < wx a) : nA_108 a b = 0 := by
  have x1 := wx_ge a
  have x2 := wx_le a
  have y1 := wx_ge b
  have y2 := wx_le b
  have h107 := eA_107 a b hc
  show (-(nA_107 a b)) = _
  omega
theorem bA_109 (a b : Int) (hc : wx b < wx a) : (inI (nA_108 a b)) = true := by
  have x1 := wx_ge a
  have x2 := wx_le a
  have y1 := wx_ge b
  have y2 := wx_le b
  have h108 := eA_108 a b hc
  exact in_of (by show _ ≤ (nA_108 a b); omega) (by show (nA_108 a b) < _; omega)
theorem bA_110 (a b : Int) (hc : wx b < wx a) : (!(inI (nA_108 a b))) = false := by
  rw [bA_109 a b hc]
  rfl
def nA_111 (a b : Int) : Int := (intZ (nA_108 a b))
theorem eA_111 (a b : Int) (hc : wx b < wx a) : nA_111 a b = 0 := by
  have x1 := wx_ge a
  have x2 := wx_le a
  have y1 := wx_ge b
  have y2 := wx_le b
  show (intZ (nA_108 a b)) = _
  rw [eA_108 a b hc]
  exact intZ_of (in_of (by omega) (by omega))
theorem bA_112 (a b : Int) (hc : wx b < wx a) : (eqI (nA_111 a b) 0) = true := by
  have x1 := wx_ge a
  have x2 := wx_le a
  have y1 := wx_ge b
  have y2 := wx_le b
  have h111 := eA_111 a b hc
  refine eq_y ?_
  show (nA_111 a b) = 0
  omega
theorem bA_113 (a b : Int) (hc : wx b < wx a) : (eqI (hiZ (nA_33 a b)) (hiZ (nA_33 a b))) = true := by
  have x1 := wx_ge a
  have x2 := wx_le a
  have y1 := wx_ge b
  have y2 := wx_le b
  exact eq_y rfl
theorem bA_114 (a b : Int) (hc : wx b < wx a) : (!(eqI (hiZ (nA_33 a b)) (hiZ (nA_33 a b)))) = false := by
  rw [bA_113 a b hc]
  rfl
theorem bA_115 (a b : Int) (hc : wx b < wx a) : (ltI (hiZ (nA_33 a b)) 0) = false := by
  have x1 := wx_ge a
  have x2 := wx_le a
  have y1 := wx_ge b
  have y2 := wx_le b
  have h33 := eA_33 a b hc
  refine lt_n ?_
  show ¬ ((hiZ (nA_33 a b)) < 0)
  unfold hiZ
  omega
theorem bA_116 (a b : Int) (hc : wx b < wx a) : (ltI 0 (hiZ (nA_33 a b))) = false := by
  have x1 := wx_ge a
  have x2 := wx_le a
  have y1 := wx_ge b
  have y2 := wx_le b
  have h33 := eA_33 a b hc
  refine lt_n ?_
  show ¬ (0 < (hiZ (nA_33 a b)))
  unfold hiZ
  omega
theorem bA_118 (a b : Int) (hc : wx b < wx a) : (eqI (Int.ofNat (loZ (nA_33 a b))) (Int.ofNat (loZ (nA_33 a b)))) = true := by
  have x1 := wx_ge a
  have x2 := wx_le a
  have y1 := wx_ge b
  have y2 := wx_le b
  exact eq_y rfl
theorem bA_119 (a b : Int) (hc : wx b < wx a) : (!(eqI (Int.ofNat (loZ (nA_33 a b))) (Int.ofNat (loZ (nA_33 a b))))) = false := by
  rw [bA_118 a b hc]
  rfl
theorem bA_120 (a b : Int) (hc : wx b < wx a) : (ltI (Int.ofNat (loZ (nA_33 a b))) 0) = false := by
  have x1 := wx_ge a
  have x2 := wx_le a
  have y1 := wx_ge b
  have y2 := wx_le b
  have h33 := eA_33 a b hc
  refine lt_n ?_
  show ¬ ((((loZ (nA_33 a b)) : Nat) : Int) < 0)
  unfold loZ
  omega
theorem bA_121 (a b : Int) (hc : wx b < wx a) : (ltI 0 (Int.ofNat (loZ (nA_33 a b)))) = true := by
  have x1 := wx_ge a
  have x2 := wx_le a
  have y1 := wx_ge b
  have y2 := wx_le b
  have h33 := eA_33 a b hc
  refine lt_y ?_
  show 0 < (((loZ (nA_33 a b)) : Nat) : Int)
  unfold loZ
  omega
theorem bA_122 (a b : Int) (hc : wx b < wx a) : (eqI (hiZ (nA_83 a b)) (hiZ (nA_83 a b))) = true := by
  have x1 := wx_ge a
  have x2 := wx_le a
  have y1 := wx_ge b
  have y2 := wx_le b
  exact eq_y rfl
theorem bA_123 (a b : Int) (hc : wx b < wx a) : (!(eqI (hiZ (nA_83 a b)) (hiZ (nA_83 a b)))) = false := by
  rw [bA_122 a b hc]
  rfl
theorem bA_124 (a b : Int) (hc : wx b < wx a) : (ltI (hiZ (nA_83 a b)) 0) = true := by
  have x1 := wx_ge a
  have x2 := wx_le a
  have y1 := wx_ge b
  have y2 := wx_le b
  have h83 := eA_83 a b hc
  refine lt_y ?_
  show (hiZ (nA_83 a b)) < 0
  unfold hiZ
  omega
theorem bA_125 (a b : Int) (hc : wx b < wx a) : (gAdd (hiZ (nA_33 a b)) (loZ (nA_33 a b)) (hiZ (nA_83 a b)) (loZ (nA_83 a b))) = true := by
  have x1 := wx_ge a
  have x2 := wx_le a
  have y1 := wx_ge b
  have y2 := wx_le b
  have h33 := eA_33 a b hc
  have h83 := eA_83 a b hc
  exact gAdd_of (by show _ ≤ (nA_33 a b); omega) (by show (nA_33 a b) < _; omega) (by show _ ≤ (nA_83 a b); omega) (by show (nA_83 a b) < _; omega)
def nA_126 (a b : Int) : Int := ((nA_41 a b) + (nA_89 a b))
theorem eA_126 (a b : Int) (hc : wx b < wx a) : nA_126 a b = ((wx a : Nat) : Int) - ((wx b : Nat) : Int) := by
  have x1 := wx_ge a
  have x2 := wx_le a
  have y1 := wx_ge b
  have y2 := wx_le b
  have h41 := eA_41 a b hc
  have h89 := eA_89 a b hc
  show ((nA_41 a b) + (nA_89 a b)) = _
  omega
theorem bA_128 (a b : Int) (hc : wx b < wx a) : (eqI (hiZ (nA_126 a b)) (hiZ (nA_126 a b))) = true := by
  have x1 := wx_ge a
  have x2 := wx_le a
  have y1 := wx_ge b
  have y2 := wx_le b
  exact eq_y rfl
theorem bA_129 (a b : Int) (hc : wx b < wx a) : (!(eqI (hiZ (nA_126 a b)) (hiZ (nA_126 a b)))) = false := by
  rw [bA_128 a b hc]
  rfl
theorem bA_130 (a b : Int) (hc : wx b < wx a) : (ltI (hiZ (nA_126 a b)) 0) = false := by
  have x1 := wx_ge a
  have x2 := wx_le a
  have y1 := wx_ge b
  have y2 := wx_le b
  have h126 := eA_126 a b hc
  refine lt_n ?_
  show ¬ ((hiZ (nA_126 a b)) < 0)
  unfold hiZ
  omega
theorem bA_131 (a b : Int) (hc : wx b < wx a) : (ltI 0 (hiZ (nA_126 a b))) = false := by
  have x1 := wx_ge a
  have x2 := wx_le a
  have y1 := wx_ge b
  have y2 := wx_le b
  have h126 := eA_126 a b hc
  refine lt_n ?_
  show ¬ (0 < (hiZ (nA_126 a b)))
  unfold hiZ
  omega
theorem bA_134 (a b : Int) (hc : wx b < wx a) : (eqI (Int.ofNat (loZ (nA_126 a b))) (Int.ofNat (loZ (nA_126 a b)))) = true := by
  have x1 := wx_ge a
  have x2 := wx_le a
  have y1 := wx_ge b
  have y2 := wx_le b
  exact eq_y rfl
theorem bA_135 (a b : Int) (hc : wx b < wx a) : (!(eqI (Int.ofNat (loZ (nA_126 a b))) (Int.ofNat (loZ (nA_126 a b))))) = false := by
  rw [bA_134 a b hc]
  rfl
theorem bA_136 (a b : Int) (hc : wx b < wx a) : (ltI (Int.ofNat (loZ (nA_126 a b))) 0) = false := by
  have x1 := wx_ge a
  have x2 := wx_le a
  have y1 := wx_ge b
  have y2 := wx_le b
  have h126 := eA_126 a b hc
  refine lt_n ?_
  show ¬ ((((loZ (nA_126 a b)) : Nat) : Int) < 0)
  unfold loZ
  omega
theorem bA_137 (a b : Int) (hc : wx b < wx a) : (ltI 0 (Int.ofNat (loZ (nA_126 a b)))) = true := by
  have x1 := wx_ge a
  have x2 := wx_le a
  have y1 := wx_ge b
  have y2 := wx_le b
  have h126 := eA_126 a b hc
  refine lt_y ?_
  show 0 < (((loZ (nA_126 a b)) : Nat) : Int)
  unfold loZ
  omega
theorem bA_138 (a b : Int) (hc : wx b < wx a) : (Nat.blt (loZ (nA_126 a b)) 18446744073709551616) = true := by
  have x1 := wx_ge a
  have x2 := wx_le a
  have y1 := wx_ge b
  have y2 := wx_le b
  exact lo_lt _
def nA_139 (a b : Int) : Int := (valW (hiZ (nA_126 a b)) (loZ (nA_126 a b)))
theorem eA_139 (a b : Int) (hc : wx b < wx a) : nA_139 a b = ((wx a : Nat) : Int) - ((wx b : Nat) : Int) := by
  have x1 := wx_ge a
  have x2 := wx_le a
  have y1 := wx_ge b
  have y2 := wx_le b
  exact (val_wz _).trans (eA_126 a b hc)
theorem bA_140 (a b : Int) (hc : wx b < wx a) : (inI (nA_139 a b)) = true := by
  have x1 := wx_ge a
  have x2 := wx_le a
  have y1 := wx_ge b
  have y2 := wx_le b
  have h139 := eA_139 a b hc
  exact in_of (by show _ ≤ (nA_139 a b); omega) (by show (nA_139 a b) < _; omega)
theorem bA_141 (a b : Int) (hc : wx b < wx a) : (!(inI (nA_139 a b))) = false := by
  rw [bA_140 a b hc]
  rfl
def nA_142 (a b : Int) : Int := (intZ (nA_139 a b))
theorem eA_142 (a b : Int) (hc : wx b < wx a) : nA_142 a b = ((wx a : Nat) : Int) - ((wx b : Nat) : Int) := by
  have x1 := wx_ge a
  have x2 := wx_le a
  have y1 := wx_ge b
  have y2 := wx_le b
  show (intZ (nA_139 a b)) = _
  rw [eA_139 a b hc]
  exact intZ_of (in_of (by omega) (by omega))
theorem bA_143 (a b : Int) (hc : wx b < wx a) : (inI (nA_142 a b)) = true := by
  have x1 := wx_ge a
  have x2 := wx_le a
  have y1 := wx_ge b
  have y2 := wx_le b
  have h142 := eA_142 a b hc
  exact in_of (by show _ ≤ (nA_142 a b); omega) (by show (nA_142 a b) < _; omega)
theorem bA_146 (a b : Int) (hc : wx b < wx a) : (gAdd 0 0 (hiZ (nA_142 a b)) (loZ (nA_142 a b))) = true := by
  have x1 := wx_ge a
  have x2 := wx_le a
  have y1 := wx_ge b
  have y2 := wx_le b
  have h142 := eA_142 a b hc
  exact gAdd_0 (by show _ ≤ (nA_142 a b); omega) (by show (nA_142 a b) < _; omega)
def nA_147 (a b : Int) : Int := (valW (hiZ (nA_142 a b)) (loZ (nA_142 a b)))
theorem eA_147 (a b : Int) (hc : wx b < wx a) : nA_147 a b = ((wx a : Nat) : Int) - ((wx b : Nat) : Int) := by
  have x1 := wx_ge a
  have x2 := wx_le a
  have y1 := wx_ge b
  have y2 := wx_le b
  exact (val_wz _).trans (eA_142 a b hc)
def nA_148 (a b : Int) : Int := ((nA_31 a b) + (nA_147 a b))
theorem eA_148 (a b : Int) (hc : wx b < wx a) : nA_148 a b = ((wx a : Nat) : Int) - ((wx b : Nat) : Int) := by
  have x1 := wx_ge a
  have x2 := wx_le a
  have y1 := wx_ge b
  have y2 := wx_le b
  have h31 := eA_31 a b hc
  have h147 := eA_147 a b hc
  show ((nA_31 a b) + (nA_147 a b)) = _
  omega
theorem bA_150 (a b : Int) (hc : wx b < wx a) : (Nat.blt (loZ (nA_148 a b)) 18446744073709551616) = true := by
  have x1 := wx_ge a
  have x2 := wx_le a
  have y1 := wx_ge b
  have y2 := wx_le b
  exact lo_lt _
def nA_152 (a b : Int) : Int := (valW (hiZ (nA_148 a b)) (loZ (nA_148 a b)))
theorem eA_152 (a b : Int) (hc : wx b < wx a) : nA_152 a b = ((wx a : Nat) : Int) - ((wx b : Nat) : Int) := by
  have x1 := wx_ge a
  have x2 := wx_le a
  have y1 := wx_ge b
  have y2 := wx_le b
  exact (val_wz _).trans (eA_148 a b hc)
theorem bA_153 (a b : Int) (hc : wx b < wx a) : (inI (nA_152 a b)) = true := by
  have x1 := wx_ge a
  have x2 := wx_le a
  have y1 := wx_ge b
  have y2 := wx_le b
  have h152 := eA_152 a b hc
  exact in_of (by show _ ≤ (nA_152 a b); omega) (by show (nA_152 a b) < _; omega)
theorem bA_154 (a b : Int) (hc : wx b < wx a) : (!(inI (nA_152 a b))) = false := by
  rw [bA_153 a b hc]
  rfl
theorem bA_155 (a b : Int) (hc : wx b < wx a) : (gAdd 0 0 (hiZ (nA_10 a b)) (loZ (nA_10 a b))) = true := by
  have x1 := wx_ge a
  have x2 := wx_le a
  have y1 := wx_ge b
  have y2 := wx_le b
  have h10 := eA_10 a b hc
  exact gAdd_0 (by show _ ≤ (nA_10 a b); omega) (by show (nA_10 a b) < _; omega)
def nA_156 (a b : Int) : Int := ((nA_31 a b) + (nA_42 a b))
theorem eA_156 (a b : Int) (hc : wx b < wx a) : nA_156 a b = -((wx a : Nat) : Int) := by
  have x1 := wx_ge a
  have x2 := wx_le a
  have y1 := wx_ge b
  have y2 := wx_le b
  have h31 := eA_31 a b hc
  have h42 := eA_42 a b hc
  show ((nA_31 a b) + (nA_42 a b)) = _
  omega
theorem bA_158 (a b : Int) (hc : wx b < wx a) : (Nat.blt (loZ (nA_156 a b)) 18446744073709551616) = true := by
  have x1 := wx_ge a
  have x2 := wx_le a
  have y1 := wx_ge b
  have y2 := wx_le b
  exact lo_lt _
def nA_160 (a b : Int) : Int := (valW (hiZ (nA_156 a b)) (loZ (nA_156 a b)))
theorem eA_160 (a b : Int) (hc : wx b < wx a) : nA_160 a b = -((wx a : Nat) : Int) := by
  have x1 := wx_ge a
  have x2 := wx_le a
  have y1 := wx_ge b
  have y2 := wx_le b
  exact (val_wz _).trans (eA_156 a b hc)
theorem bA_161 (a b : Int) (hc : wx b < wx a) : (inI (nA_160 a b)) = true := by
  have x1 := wx_ge a
  have x2 := wx_le a
  have y1 := wx_ge b
  have y2 := wx_le b
  have h160 := eA_160 a b hc
  exact in_of (by show _ ≤ (nA_160 a b); omega) (by show (nA_160 a b) < _; omega)
theorem bA_162 (a b : Int) (hc : wx b < wx a) : (!(inI (nA_160 a b))) = false := by
  rw [bA_161 a b hc]
  rfl
theorem bA_163 (a b : Int) (hc : wx b < wx a) : (gAdd 0 0 (hiZ (Int.ofNat (wx b))) (loZ (Int.ofNat (wx b)))) = true := by
  have x1 := wx_ge a
  have x2 := wx_le a
  have y1 := wx_ge b
  have y2 := wx_le b
  exact gAdd_0 (by show _ ≤ (((wx b) : Nat) : Int); omega) (by show (((wx b) : Nat) : Int) < _; omega)
def nA_164 (a b : Int) : Int := ((nA_31 a b) + (nA_90 a b))
theorem eA_164 (a b : Int) (hc : wx b < wx a) : nA_164 a b = ((wx b : Nat) : Int) := by
  have x1 := wx_ge a
  have x2 := wx_le a
  have y1 := wx_ge b
  have y2 := wx_le b
  have h31 := eA_31 a b hc
  have h90 := eA_90 a b hc
  show ((nA_31 a b) + (nA_90 a b)) = _
  omega
theorem bA_166 (a b : Int) (hc : wx b < wx a) : (Nat.blt (loZ (nA_164 a b)) 18446744073709551616) = true := by
  have x1 := wx_ge a
  have x2 := wx_le a
  have y1 := wx_ge b
  have y2 := wx_le b
  exact lo_lt _
def nA_168 (a b : Int) : Int := (valW (hiZ (nA_164 a b)) (loZ (nA_164 a b)))
theorem eA_168 (a b : Int) (hc : wx b < wx a) : nA_168 a b = ((wx b : Nat) : Int) := by
  have x1 := wx_ge a
  have x2 := wx_le a
  have y1 := wx_ge b
  have y2 := wx_le b
  exact (val_wz _).trans (eA_164 a b hc)
theorem bA_169 (a b : Int) (hc : wx b < wx a) : (inI (nA_168 a b)) = true := by
  have x1 := wx_ge a
  have x2 := wx_le a
  have y1 := wx_ge b
  have y2 := wx_le b
  have h168 := eA_168 a b hc
  exact in_of (by show _ ≤ (nA_168 a b); omega) (by show (nA_168 a b) < _; omega)
theorem bA_170 (a b : Int) (hc : wx b < wx a) : (!(inI (nA_168 a b))) = false := by
  rw [bA_169 a b hc]
  rfl
def nA_171 (a b : Int) : Int := (intZ (nA_160 a b))
theorem eA_171 (a b : Int) (hc : wx b < wx a) : nA_171 a b = -((wx a : Nat) : Int) := by
  have x1 := wx_ge a
  have x2 := wx_le a
  have y1 := wx_ge b
  have y2 := wx_le b
  show (intZ (nA_160 a b)) = _
  rw [eA_160 a b hc]
  exact intZ_of (in_of (by omega) (by omega))
def nA_174 (a b : Int) : Int := (scI (nA_171 a b) (cl 10000))
theorem eA_174 (a b : Int) (hc : wx b < wx a) : nA_174 a b = -((wx a : Nat) : Int) := by
  have x1 := wx_ge a
  have x2 := wx_le a
  have y1 := wx_ge b
  have y2 := wx_le b
  show (scI (nA_171 a b) (cl 10000)) = _
  rw [eA_171 a b hc]
  exact sc_of (by omega) (by omega)
def nA_175 (a b : Int) : Int := (Int.sub (nA_171 a b) (nA_174 a b))
theorem eA_175 (a b : Int) (hc : wx b < wx a) : nA_175 a b = 0 := by
  have x1 := wx_ge a
  have x2 := wx_le a
  have y1 := wx_ge b
  have y2 := wx_le b
  have h171 := eA_171 a b hc
  have h174 := eA_174 a b hc
  show ((nA_171 a b) - (nA_174 a b)) = _
  omega
def nA_176 (a b : Int) : Int := (wrapA .i64 (nA_175 a b))
theorem eA_176 (a b : Int) (hc : wx b < wx a) : nA_176 a b = 0 := by
  have x1 := wx_ge a
  have x2 := wx_le a
  have y1 := wx_ge b
  have y2 := wx_le b
  show (wrapA .i64 (nA_175 a b)) = _
  rw [eA_175 a b hc]
  exact wrapI (by omega) (by omega)
theorem bA_177 (a b : Int) (hc : wx b < wx a) : (eqI (nA_176 a b) (nA_176 a b)) = true := by
  have x1 := wx_ge a
  have x2 := wx_le a
  have y1 := wx_ge b
  have y2 := wx_le b
  exact eq_y rfl
theorem bA_178 (a b : Int) (hc : wx b < wx a) : (!(eqI (nA_176 a b) (nA_176 a b))) = false := by
  rw [bA_177 a b hc]
  rfl
def nA_179 (a b : Int) : Int := (intZ (nA_152 a b))
theorem eA_179 (a b : Int) (hc : wx b < wx a) : nA_179 a b = ((wx a : Nat) : Int) - ((wx b : Nat) : Int) := by
  have x1 := wx_ge a
  have x2 := wx_le a
  have y1 := wx_ge b
  have y2 := wx_le b
  show (intZ (nA_152 a b)) = _
  rw [eA_152 a b hc]
  exact intZ_of (in_of (by omega) (by omega))
def nA_180 (a b : Int) : Int := (scI (nA_179 a b) (cl 10000))
theorem eA_180 (a b : Int) (hc : wx b < wx a) : nA_180 a b = ((wx a : Nat) : Int) - ((wx b : Nat) : Int) := by
  have x1 := wx_ge a
  have x2 := wx_le a
  have y1 := wx_ge b
  have y2 := wx_le b
  show (scI (nA_179 a b) (cl 10000)) = _
  rw [eA_179 a b hc]
  exact sc_of (by omega) (by omega)
def nA_181 (a b : Int) : Int := (Int.sub (nA_179 a b) (nA_180 a b))
theorem eA_181 (a b : Int) (hc : wx b < wx a) : nA_181 a b = 0 := by
  have x1 := wx_ge a
  have x2 := wx_le a
  have y1 := wx_ge b
  have y2 := wx_le b
  have h179 := eA_179 a b hc
  have h180 := eA_180 a b hc
  show ((nA_179 a b) - (nA_180 a b)) = _
  omega
def nA_182 (a b : Int) : Int := (wrapA .i64 (nA_181 a b))
theorem eA_182 (a b : Int) (hc : wx b < wx a) : nA_182 a b = 0 := by
  have x1 := wx_ge a
  have x2 := wx_le a
  have y1 := wx_ge b
  have y2 := wx_le b
  show (wrapA .i64 (nA_181 a b)) = _
  rw [eA_181 a b hc]
  exact wrapI (by omega) (by omega)
theorem bA_183 (a b : Int) (hc : wx b < wx a) : (eqI (nA_182 a b) (nA_182 a b)) = true := by
  have x1 := wx_ge a
  have x2 := wx_le a
  have y1 := wx_ge b
  have y2 := wx_le b
  exact eq_y rfl
theorem bA_184 (a b : Int) (hc : wx b < wx a) : (!(eqI (nA_182 a b) (nA_182 a b))) = false := by
  rw [bA_183 a b hc]
  rfl
theorem bA_185 (a b : Int) (hc : wx b < wx a) : (ltI (nA_176 a b) (nA_182 a b)) = false := by
  have x1 := wx_ge a
  have x2 := wx_le a
  have y1 := wx_ge b
  have y2 := wx_le b
  have h176 := eA_176 a b hc
  have h182 := eA_182 a b hc
  refine lt_n ?_
  show ¬ ((nA_176 a b) < (nA_182 a b))
  omega
theorem bA_186 (a b : Int) (hc : wx b < wx a) : (ltI (nA_182 a b) (nA_176 a b)) = false := by
  have x1 := wx_ge a
  have x2 := wx_le a
  have y1 := wx_ge b
  have y2 := wx_le b
  have h176 := eA_176 a b hc
  have h182 := eA_182 a b hc
  refine lt_n ?_
  show ¬ ((nA_182 a b) < (nA_176 a b))
  omega
theorem bA_187 (a b : Int) (hc : wx b < wx a) : (eqI (nA_180 a b) (nA_180 a b)) = true := by
  have x1 := wx_ge a
  have x2 := wx_le a
  have y1 := wx_ge b
  have y2 := wx_le b
  exact eq_y rfl
theorem bA_188 (a b : Int) (hc : wx b < wx a) : (!(eqI (nA_180 a b) (nA_180 a b))) = false := by
  rw [bA_187 a b hc]
  rfl
def nA_189 (a b : Int) : Int := (intZ (nA_31 a b))
theorem eA_189 (a b : Int) (hc : wx b < wx a) : nA_189 a b = 0 := by
  have x1 := wx_ge a
  have x2 := wx_le a
  have y1 := wx_ge b
  have y2 := wx_le b
  show (intZ (nA_31 a b)) = _
  rw [eA_31 a b hc]
  exact intZ_of (in_of (by omega) (by omega))
def nA_192 (a b : Int) : Int := (valW (hiZ (nA_189 a b)) (loZ (nA_189 a b)))
theorem eA_192 (a b : Int) (hc : wx b < wx a) : nA_192 a b = 0 := by
  have x1 := wx_ge a
  have x2 := wx_le a
  have y1 := wx_ge b
  have y2 := wx_le b
  exact (val_wz _).trans (eA_189 a b hc)
def nA_193 (a b : Int) : Int := ((nA_31 a b) + (nA_192 a b))
theorem eA_193 (a b : Int) (hc : wx b < wx a) : nA_193 a b = 0 := by
  have x1 := wx_ge a
  have x2 := wx_le a
  have y1 := wx_ge b
  have y2 := wx_le b
  have h31 := eA_31 a b hc
  have h192 := eA_192 a b hc
  show ((nA_31 a b) + (nA_192 a b)) = _
  omega
def nA_196 (a b : Int) : Int := (valW (hiZ (nA_193 a b)) (loZ (nA_193 a b)))
theorem eA_196 (a b : Int) (hc : wx b < wx a) : nA_196 a b = 0 := by
  have x1 := wx_ge a
  have x2 := wx_le a
  have y1 := wx_ge b
  have y2 := wx_le b
  exact (val_wz _).trans (eA_193 a b hc)
def nA_197 (a b : Int) : Int := (intZ (nA_196 a b))
theorem eA_197 (a b : Int) (hc : wx b < wx a) : nA_197 a b = 0 := by
  have x1 := wx_ge a
  have x2 := wx_le a
  have y1 := wx_ge b
  have y2 := wx_le b
  show (intZ (nA_196 a b)) = _
  rw [eA_196 a b hc]
  exact intZ_of (in_of (by omega) (by omega))
def nA_198 (a b : Int) : Int := (scI (nA_197 a b) (cl 10000))
theorem eA_198 (a b : Int) (hc : wx b < wx a) : nA_198 a b = 0 := by
  have x1 := wx_ge a
  have x2 := wx_le a
  have y1 := wx_ge b
  have y2 := wx_le b
  show (scI (nA_197 a b) (cl 10000)) = _
  rw [eA_197 a b hc]
  exact sc_of (by omega) (by omega)
theorem bA_199 (a b : Int) (hc : wx b < wx a) : (ltI (nA_198 a b) (nA_180 a b)) = true := by
  have x1 := wx_ge a
  have x2 := wx_le a
  have y1 := wx_ge b
  have y2 := wx_le b
  have h180 := eA_180 a b hc
  have h198 := eA_198 a b hc
  refine lt_y ?_
  show (nA_198 a b) < (nA_180 a b)
  omega
def nA_200 (a b : Int) : Int := (Int.sub (nA_197 a b) (nA_198 a b))
theorem eA_200 (a b : Int) (hc : wx b < wx a) : nA_200 a b = 0 := by
  have x1 := wx_ge a
  have x2 := wx_le a
  have y1 := wx_ge b
  have y2 := wx_le b
  have h197 := eA_197 a b hc
  have h198 := eA_198 a b hc
  show ((nA_197 a b) - (nA_198 a b)) = _
  omega
def nA_201 (a b : Int) : Int := (wrapA .i64 (nA_200 a b))
theorem eA_201 (a b : Int) (hc : wx b < wx a) : nA_201 a b = 0 := by
  have x1 := wx_ge a
  have x2 := wx_le a
  have y1 := wx_ge b
  have y2 := wx_le b
  show (wrapA .i64 (nA_200 a b)) = _
  rw [eA_200 a b hc]
  exact wrapI (by omega) (by omega)
theorem bA_202 (a b : Int) (hc : wx b < wx a) : (ltI (nA_201 a b) (nA_176 a b)) = false := by
  have x1 := wx_ge a
  have x2 := wx_le a
  have y1 := wx_ge b
  have y2 := wx_le b
  have h176 := eA_176 a b hc
  have h201 := eA_201 a b hc
  refine lt_n ?_
  show ¬ ((nA_201 a b) < (nA_176 a b))
  omega
theorem bA_203 (a b : Int) (hc : wx b < wx a) : (ltI (nA_176 a b) (nA_201 a b)) = false := by
  have x1 := wx_ge a
  have x2 := wx_le a
  have y1 := wx_ge b
  have y2 := wx_le b
  have h176 := eA_176 a b hc
  have h201 := eA_201 a b hc
  refine lt_n ?_
  show ¬ ((nA_176 a b) < (nA_201 a b))
  omega
def nA_204 (a b : Int) : Int := (intZ (nA_168 a b))
theorem eA_204 (a b : Int) (hc : wx b < wx a) : nA_204 a b = ((wx b : Nat) : Int) := by
  have x1 := wx_ge a
  have x2 := wx_le a
  have y1 := wx_ge b
  have y2 := wx_le b
  show (intZ (nA_168 a b)) = _
  rw [eA_168 a b hc]
  exact intZ_of (in_of (by omega) (by omega))
def nA_205 (a b : Int) : Int := (scI (nA_204 a b) (cl 10000))
theorem eA_205 (a b : Int) (hc : wx b < wx a) : nA_205 a b = ((wx b : Nat) : Int) := by
  have x1 := wx_ge a
  have x2 := wx_le a
  have y1 := wx_ge b
  have y2 := wx_le b
  show (scI (nA_204 a b) (cl 10000)) = _
  rw [eA_204 a b hc]
  exact sc_of (by omega) (by omega)
theorem bA_206 (a b : Int) (hc : wx b < wx a) : (eqI (nA_205 a b) (nA_205 a b)) = true := by
  have x1 := wx_ge a
  have x2 := wx_le a
  have y1 := wx_ge b
  have y2 := wx_le b
  exact eq_y rfl
theorem bA_207 (a b : Int) (hc : wx b < wx a) : (!(eqI (nA_205 a b) (nA_205 a b))) = false := by
  rw [bA_206 a b hc]
  rfl
theorem bA_208 (a b : Int) (hc : wx b < wx a) : (eqI (nA_174 a b) (nA_174 a b)) = true := by
  have x1 := wx_ge a
  have x2 := wx_le a
  have y1 := wx_ge b
  have y2 := wx_le b
  exact eq_y rfl
theorem bA_209 (a b : Int) (hc : wx b < wx a) : (!(eqI (nA_174 a b) (nA_174 a b))) = false := by
  rw [bA_208 a b hc]
  rfl
theorem bA_210 (a b : Int) (hc : wx b < wx a) : (ltI (nA_205 a b) (nA_174 a b)) = false := by
  have x1 := wx_ge a
  have x2 := wx_le a
  have y1 := wx_ge b
  have y2 := wx_le b
  have h174 := eA_174 a b hc
  have h205 := eA_205 a b hc
  refine lt_n ?_
  show ¬ ((nA_205 a b) < (nA_174 a b))
  omega
theorem bA_211 (a b : Int) (hc : wx b < wx a) : (ltI (nA_174 a b) (nA_205 a b)) = true := by
  have x1 := wx_ge a
  have x2 := wx_le a
  have y1 := wx_ge b
  have y2 := wx_le b
  have h174 := eA_174 a b hc
  have h205 := eA_205 a b hc
  refine lt_y ?_
  show (nA_174 a b) < (nA_205 a b)
  omega
def nA_212 (a b : Int) : Int := (Int.sub (nA_204 a b) (nA_205 a b))
theorem eA_212 (a b : Int) (hc : wx b < wx a) : nA_212 a b = 0 := by
  have x1 := wx_ge a
  have x2 := wx_le a
  have y1 := wx_ge b
  have y2 := wx_le b
  have h204 := eA_204 a b hc
  have h205 := eA_205 a b hc
  show ((nA_204 a b) - (nA_205 a b)) = _
  omega
def nA_213 (a b : Int) : Int := (wrapA .i64 (nA_212 a b))
theorem eA_213 (a b : Int) (hc : wx b < wx a) : nA_213 a b = 0 := by
  have x1 := wx_ge a
  have x2 := wx_le a
  have y1 := wx_ge b
  have y2 := wx_le b
  show (wrapA .i64 (nA_212 a b)) = _
  rw [eA_212 a b hc]
  exact wrapI (by omega) (by omega)
theorem bA_214 (a b : Int) (hc : wx b < wx a) : (eqI (nA_213 a b) (nA_213 a b)) = true := by
  have x1 := wx_ge a
  have x2 := wx_le a
  have y1 := wx_ge b
  have y2 := wx_le b
  exact eq_y rfl
theorem bA_215 (a b : Int) (hc : wx b < wx a) : (!(eqI (nA_213 a b) (nA_213 a b))) = false := by
  rw [bA_214 a b hc]
  rfl
theorem bA_216 (a b : Int) (hc : wx b < wx a) : (ltI (nA_213 a b) (nA_201 a b)) = false := by
  have x1 := wx_ge a
  have x2 := wx_le a
  have y1 := wx_ge b
  have y2 := wx_le b
  have h201 := eA_201 a b hc
  have h213 := eA_213 a b hc
  refine lt_n ?_
  show ¬ ((nA_213 a b) < (nA_201 a b))
  omega
theorem bA_217 (a b : Int) (hc : wx b < wx a) : (ltI (nA_201 a b) (nA_213 a b)) = false := by
  have x1 := wx_ge a
  have x2 := wx_le a
  have y1 := wx_ge b
  have y2 := wx_le b
  have h201 := eA_201 a b hc
  have h213 := eA_213 a b hc
  refine lt_n ?_
  show ¬ ((nA_201 a b) < (nA_213 a b))
  omega
theorem bA_218 (a b : Int) (hc : wx b < wx a) : (inI (nA_180 a b)) = true := by
  have x1 := wx_ge a
  have x2 := wx_le a
  have y1 := wx_ge b
  have y2 := wx_le b
  have h180 := eA_180 a b hc
  exact in_of (by show _ ≤ (nA_180 a b); omega) (by show (nA_180 a b) < _; omega)
def nA_221 (a b : Int) : Int := (valW (hiZ (nA_198 a b)) (loZ (nA_198 a b)))
theorem eA_221 (a b : Int) (hc : wx b < wx a) : nA_221 a b = 0 := by
  have x1 := wx_ge a
  have x2 := wx_le a
  have y1 := wx_ge b
  have y2 := wx_le b
  exact (val_wz _).trans (eA_198 a b hc)
def nA_222 (a b : Int) : Int := ((nA_31 a b) + (nA_221 a b))
theorem eA_222 (a b : Int) (hc : wx b < wx a) : nA_222 a b = 0 := by
  have x1 := wx_ge a
  have x2 := wx_le a
  have y1 := wx_ge b
  have y2 := wx_le b
  have h31 := eA_31 a b hc
  have h221 := eA_221 a b hc
  show ((nA_31 a b) + (nA_221 a b)) = _
  omega
theorem bA_227 (a b : Int) (hc : wx b < wx a) : (gAdd (hiZ (nA_222 a b)) (loZ (nA_222 a b)) (hiZ (nA_180 a b)) (loZ (nA_180 a b))) = true := by
  have x1 := wx_ge a
  have x2 := wx_le a
  have y1 := wx_ge b
  have y2 := wx_le b
  have h180 := eA_180 a b hc
  have h222 := eA_222 a b hc
  exact gAdd_of (by show _ ≤ (nA_222 a b); omega) (by show (nA_222 a b) < _; omega) (by show _ ≤ (nA_180 a b); omega) (by show (nA_180 a b) < _; omega)
def nA_228 (a b : Int) : Int := (valW (hiZ (nA_222 a b)) (loZ (nA_222 a b)))
theorem eA_228 (a b : Int) (hc : wx b < wx a) : nA_228 a b = 0 := by
  have x1 := wx_ge a
  have x2 := wx_le a
  have y1 := wx_ge b
  have y2 := wx_le b
  exact (val_wz _).trans (eA_222 a b hc)
def nA_229 (a b : Int) : Int := (valW (hiZ (nA_180 a b)) (loZ (nA_180 a b)))
theorem eA_229 (a b : Int) (hc : wx b < wx a) : nA_229 a b = ((wx a : Nat) : Int) - ((wx b : Nat) : Int) := by
  have x1 := wx_ge a
  have x2 := wx_le a
  have y1 := wx_ge b
  have y2 := wx_le b
  exact (val_wz _).trans (eA_180 a b hc)
def nA_230 (a b : Int) : Int := ((nA_228 a b) + (nA_229 a b))
theorem eA_230 (a b : Int) (hc : wx b < wx a) : nA_230 a b = ((wx a : Nat) : Int) - ((wx b : Nat) : Int) := by
  have x1 := wx_ge a
  have x2 := wx_le a
  have y1 := wx_ge b
  have y2 := wx_le b
  have h228 := eA_228 a b hc
  have h229 := eA_229 a b hc
  show ((nA_228 a b) + (nA_229 a b)) = _
  omega
theorem bA_232 (a b : Int) (hc : wx b < wx a) : (Nat.blt (loZ (nA_230 a b)) 18446744073709551616) = true := by
  have x1 := wx_ge a
  have x2 := wx_le a
  have y1 := wx_ge b
  have y2 := wx_le b
  exact lo_lt _
def nA_234 (a b : Int) : Int := (valW (hiZ (nA_230 a b)) (loZ (nA_230 a b)))
theorem eA_234 (a b : Int) (hc : wx b < wx a) : nA_234 a b = ((wx a : Nat) : Int) - ((wx b : Nat) : Int) := by
  have x1 := wx_ge a
  have x2 := wx_le a
  have y1 := wx_ge b
  have y2 := wx_le b
  exact (val_wz _).trans (eA_230 a b hc)
theorem bA_235 (a b : Int) (hc : wx b < wx a) : (inI (nA_234 a b)) = true := by
  have x1 := wx_ge a
  have x2 := wx_le a
  have y1 := wx_ge b
  have y2 := wx_le b
  have h234 := eA_234 a b hc
  exact in_of (by show _ ≤ (nA_234 a b); omega) (by show (nA_234 a b) < _; omega)
theorem bA_236 (a b : Int) (hc : wx b < wx a) : (!(inI (nA_234 a b))) = false := by
  rw [bA_235 a b hc]
  rfl
theorem bA_237 (a b : Int) (hc : wx b < wx a) : (inI (nA_174 a b)) = true := by
  have x1 := wx_ge a
  have x2 := wx_le a
  have y1 := wx_ge b
  have y2 := wx_le b
  have h174 := eA_174 a b hc
  exact in_of (by show _ ≤ (nA_174 a b); omega) (by show (nA_174 a b) < _; omega)
theorem bA_240 (a b : Int) (hc : wx b < wx a) : (gAdd 0 0 (hiZ (nA_174 a b)) (loZ (nA_174 a b))) = true := by
  have x1 := wx_ge a
  have x2 := wx_le a
  have y1 := wx_ge b
  have y2 := wx_le b
  have h174 := eA_174 a b hc
  exact gAdd_0 (by show _ ≤ (nA_174 a b); omega) (by show (nA_174 a b) < _; omega)
theorem bA_241 (a b : Int) (hc : wx b < wx a) : (inI (nA_205 a b)) = true := by
  have x1 := wx_ge a
  have x2 := wx_le a
  have y1 := wx_ge b
  have y2 := wx_le b
  have h205 := eA_205 a b hc
  exact in_of (by show _ ≤ (nA_205 a b); omega) (by show (nA_205 a b) < _; omega)
def nA_242 (a b : Int) : Int := (valW (hiZ (nA_174 a b)) (loZ (nA_174 a b)))
theorem eA_242 (a b : Int) (hc : wx b < wx a) : nA_242 a b = -((wx a : Nat) : Int) := by
  have x1 := wx_ge a
  have x2 := wx_le a
  have y1 := wx_ge b
  have y2 := wx_le b
  exact (val_wz _).trans (eA_174 a b hc)
def nA_243 (a b : Int) : Int := ((nA_31 a b) + (nA_242 a b))
theorem eA_243 (a b : Int) (hc : wx b < wx a) : nA_243 a b = -((wx a : Nat) : Int) := by
  have x1 := wx_ge a
  have x2 := wx_le a
  have y1 := wx_ge b
  have y2 := wx_le b
  have h31 := eA_31 a b hc
  have h242 := eA_242 a b hc
  show ((nA_31 a b) + (nA_242 a b)) = _
  omega
theorem bA_248 (a b : Int) (hc : wx b < wx a) : (gAdd (hiZ (nA_243 a b)) (loZ (nA_243 a b)) (hiZ (nA_205 a b)) (loZ (nA_205 a b))) = true := by
  have x1 := wx_ge a
  have x2 := wx_le a
  have y1 := wx_ge b
  have y2 := wx_le b
  have h205 := eA_205 a b hc
  have h243 := eA_243 a b hc
  exact gAdd_of (by show _ ≤ (nA_243 a b); omega) (by show (nA_243 a b) < _; omega) (by show _ ≤ (nA_205 a b); omega) (by show (nA_205 a b) < _; omega)
def nA_249 (a b : Int) : Int := (valW (hiZ (nA_243 a b)) (loZ (nA_243 a b)))
theorem eA_249 (a b : Int) (hc : wx b < wx a) : nA_249 a b = -((wx a : Nat) : Int) := by
  have x1 := wx_ge a
  have x2 := wx_le a
  have y1 := wx_ge b
  have y2 := wx_le b
  exact (val_wz _).trans (eA_243 a b hc)
def nA_250 (a b : Int) : Int := (valW (hiZ (nA_205 a b)) (loZ (nA_205 a b)))
theorem eA_250 (a b : Int) (hc : wx b < wx a) : nA_250 a b = ((wx b : Nat) : Int) := by
  have x1 := wx_ge a
  have x2 := wx_le a
  have y1 := wx_ge b
  have y2 := wx_le b
  exact (val_wz _).trans (eA_205 a b hc)
def nA_251 (a b : Int) : Int := ((nA_249 a b) + (nA_250 a b))
theorem eA_251 (a b : Int) (hc : wx b < wx a) : nA_251 a b = -((wx a : Nat) : Int) + ((wx b : Nat) : Int) := by
  have x1 := wx_ge a
  have x2 := wx_le a
  have y1 := wx_ge b
  have y2 := wx_le b
  have h249 := eA_249 a b hc
  have h250 := eA_250 a b hc
  show ((nA_249 a b) + (nA_250 a b)) = _
  omega
theorem bA_253 (a b : Int) (hc : wx b < wx a) : (Nat.blt (loZ (nA_251 a b)) 18446744073709551616) = true := by
  have x1 := wx_ge a
  have x2 := wx_le a
  have y1 := wx_ge b
  have y2 := wx_le b
  exact lo_lt _
def nA_255 (a b : Int) : Int := (valW (hiZ (nA_251 a b)) (loZ (nA_251 a b)))
theorem eA_255 (a b : Int) (hc : wx b < wx a) : nA_255 a b = -((wx a : Nat) : Int) + ((wx b : Nat) : Int) := by
  have x1 := wx_ge a
  have x2 := wx_le a
  have y1 := wx_ge b
  have y2 := wx_le b
  exact (val_wz _).trans (eA_251 a b hc)
theorem bA_256 (a b : Int) (hc : wx b < wx a) : (inI (nA_255 a b)) = true := by
  have x1 := wx_ge a
  have x2 := wx_le a
  have y1 := wx_ge b
  have y2 := wx_le b
  have h255 := eA_255 a b hc
  exact in_of (by show _ ≤ (nA_255 a b); omega) (by show (nA_255 a b) < _; omega)
theorem bA_257 (a b : Int) (hc : wx b < wx a) : (!(inI (nA_255 a b))) = false := by
  rw [bA_256 a b hc]
  rfl
theorem bA_258 (a b : Int) (hc : wx b < wx a) : (inI (nA_182 a b)) = true := by
  have x1 := wx_ge a
  have x2 := wx_le a
  have y1 := wx_ge b
  have y2 := wx_le b
  have h182 := eA_182 a b hc
  exact in_of (by show _ ≤ (nA_182 a b); omega) (by show (nA_182 a b) < _; omega)
theorem bA_261 (a b : Int) (hc : wx b < wx a) : (gAdd 0 0 (hiZ (nA_182 a b)) (loZ (nA_182 a b))) = true := by
  have x1 := wx_ge a
  have x2 := wx_le a
  have y1 := wx_ge b
  have y2 := wx_le b
  have h182 := eA_182 a b hc
  exact gAdd_0 (by show _ ≤ (nA_182 a b); omega) (by show (nA_182 a b) < _; omega)
theorem bA_262 (a b : Int) (hc : wx b < wx a) : (inI (nA_176 a b)) = true := by
  have x1 := wx_ge a
  have x2 := wx_le a
  have y1 := wx_ge b
  have y2 := wx_le b
  have h176 := eA_176 a b hc
  exact in_of (by show _ ≤ (nA_176 a b); omega) (by show (nA_176 a b) < _; omega)
def nA_263 (a b : Int) : Int := (valW (hiZ (nA_182 a b)) (loZ (nA_182 a b)))
theorem eA_263 (a b : Int) (hc : wx b < wx a) : nA_263 a b = 0 := by
  have x1 := wx_ge a
  have x2 := wx_le a
  have y1 := wx_ge b
  have y2 := wx_le b
  exact (val_wz _).trans (eA_182 a b hc)
def nA_264 (a b : Int) : Int := ((nA_31 a b) + (nA_263 a b))
theorem eA_264 (a b : Int) (hc : wx b < wx a) : nA_264 a b = 0 := by
  have x1 := wx_ge a
  have x2 := wx_le a
  have y1 := wx_ge b
  have y2 := wx_le b
  have h31 := eA_31 a b hc
  have h263 := eA_263 a b hc
  show ((nA_31 a b) + (nA_263 a b)) = _
  omega
theorem bA_269 (a b : Int) (hc : wx b < wx a) : (gAdd (hiZ (nA_264 a b)) (loZ (nA_264 a b)) (hiZ (nA_176 a b)) (loZ (nA_176 a b))) = true := by
  have x1 := wx_ge a
  have x2 := wx_le a
  have y1 := wx_ge b
  have y2 := wx_le b
  have h176 := eA_176 a b hc
  have h264 := eA_264 a b hc
  exact gAdd_of (by show _ ≤ (nA_264 a b); omega) (by show (nA_264 a b) < _; omega) (by show _ ≤ (nA_176 a b); omega) (by show (nA_176 a b) < _; omega)
def nA_270 (a b : Int) : Int := (valW (hiZ (nA_264 a b)) (loZ (nA_264 a b)))
theorem eA_270 (a b : Int) (hc : wx b < wx a) : nA_270 a b = 0 := by
  have x1 := wx_ge a
  have x2 := wx_le a
  have y1 := wx_ge b
  have y2 := wx_le b
  exact (val_wz _).trans (eA_264 a b hc)
def nA_271 (a b : Int) : Int := (valW (hiZ (nA_176 a b)) (loZ (nA_176 a b)))
theorem eA_271 (a b : Int) (hc : wx b < wx a) : nA_271 a b = 0 := by
  have x1 := wx_ge a
  have x2 := wx_le a
  have y1 := wx_ge b
  have y2 := wx_le b
  exact (val_wz _).trans (eA_176 a b hc)
def nA_272 (a b : Int) : Int := ((nA_270 a b) + (nA_271 a b))
theorem eA_272 (a b : Int) (hc : wx b < wx a) : nA_272 a b = 0 := by
  have x1 := wx_ge a
  have x2 := wx_le a
  have y1 := wx_ge b
  have y2 := wx_le b
  have h270 := eA_270 a b hc
  have h271 := eA_271 a b hc
  show ((nA_270 a b) + (nA_271 a b)) = _
  omega
theorem bA_277 (a b : Int) (hc : wx b < wx a) : (gAdd (hiZ (nA_272 a b)) (loZ (nA_272 a b)) (hiZ (nA_201 a b)) (loZ (nA_201 a b))) = true := by
  have x1 := wx_ge a
  have x2 := wx_le a
  have y1 := wx_ge b
  have y2 := wx_le b
  have h201 := eA_201 a b hc
  have h272 := eA_272 a b hc
  exact gAdd_of (by show _ ≤ (nA_272 a b); omega) (by show (nA_272 a b) < _; omega) (by show _ ≤ (nA_201 a b); omega) (by show (nA_201 a b) < _; omega)
theorem bA_278 (a b : Int) (hc : wx b < wx a) : (inI (nA_213 a b)) = true := by
  have x1 := wx_ge a
  have x2 := wx_le a
  have y1 := wx_ge b
  have y2 := wx_le b
  have h213 := eA_213 a b hc
  exact in_of (by show _ ≤ (nA_213 a b); omega) (by show (nA_213 a b) < _; omega)
def nA_279 (a b : Int) : Int := (valW (hiZ (nA_272 a b)) (loZ (nA_272 a b)))
theorem eA_279 (a b : Int) (hc : wx b < wx a) : nA_279 a b = 0 := by
  have x1 := wx_ge a
  have x2 := wx_le a
  have y1 := wx_ge b
  have y2 := wx_le b
  exact (val_wz _).trans (eA_272 a b hc)
def nA_280 (a b : Int) : Int := (valW (hiZ (nA_201 a b)) (loZ (nA_201 a b)))
theorem eA_280 (a b : Int) (hc : wx b < wx a) : nA_280 a b = 0 := by
  have x1 := wx_ge a
  have x2 := wx_le a
  have y1 := wx_ge b
  have y2 := wx_le b
  exact (val_wz _).trans (eA_201 a b hc)
def nA_281 (a b : Int) : Int := ((nA_279 a b) + (nA_280 a b))
theorem eA_281 (a b : Int) (hc : wx b < wx a) : nA_281 a b = 0 := by
  have x1 := wx_ge a
  have x2 := wx_le a
  have y1 := wx_ge b
  have y2 := wx_le b
  have h279 := eA_279 a b hc
  have h280 := eA_280 a b hc
  show ((nA_279 a b) + (nA_280 a b)) = _
  omega
theorem bA_286 (a b : Int) (hc : wx b < wx a) : (gAdd (hiZ (nA_281 a b)) (loZ (nA_281 a b)) (hiZ (nA_213 a b)) (loZ (nA_213 a b))) = true := by
  have x1 := wx_ge a
  have x2 := wx_le a
  have y1 := wx_ge b
  have y2 := wx_le b
  have h213 := eA_213 a b hc
  have h281 := eA_281 a b hc
  exact gAdd_of (by show _ ≤ (nA_281 a b); omega) (by show (nA_281 a b) < _; omega) (by show _ ≤ (nA_213 a b); omega) (by show (nA_213 a b) < _; omega)
def nA_287 (a b : Int) : Int := (valW (hiZ (nA_281 a b)) (loZ (nA_281 a b)))
theorem eA_287 (a b : Int) (hc : wx b < wx a) : nA_287 a b = 0 := by
  have x1 := wx_ge a
  have x2 := wx_le a
  have y1 := wx_ge b
  have y2 := wx_le b
  exact (val_wz _).trans (eA_281 a b hc)
def nA_288 (a b : Int) : Int := (valW (hiZ (nA_213 a b)) (loZ (nA_213 a b)))
theorem eA_288 (a b : Int) (hc : wx b < wx a) : nA_288 a b = 0 := by
  have x1 := wx_ge a
  have x2 := wx_le a
  have y1 := wx_ge b
  have y2 := wx_le b
  exact (val_wz _).trans (eA_213 a b hc)
def nA_289 (a b : Int) : Int := ((nA_287 a b) + (nA_288 a b))
theorem eA_289 (a b : Int) (hc : wx b < wx a) : nA_289 a b = 0 := by
  have x1 := wx_ge a
  have x2 := wx_le a
  have y1 := wx_ge b
  have y2 := wx_le b
  have h287 := eA_287 a b hc
  have h288 := eA_288 a b hc
  show ((nA_287 a b) + (nA_288 a b)) = _
  omega
theorem bA_291 (a b : Int) (hc : wx b < wx a) : (Nat.blt (loZ (nA_289 a b)) 18446744073709551616) = true := by
  have x1 := wx_ge a
  have x2 := wx_le a
  have y1 := wx_ge b
  have y2 := wx_le b
  exact lo_lt _
def nA_293 (a b : Int) : Int := (valW (hiZ (nA_289 a b)) (loZ (nA_289 a b)))
theorem eA_293 (a b : Int) (hc : wx b < wx a) : nA_293 a b = 0 := by
  have x1 := wx_ge a
  have x2 := wx_le a
  have y1 := wx_ge b
  have y2 := wx_le b
  exact (val_wz _).trans (eA_289 a b hc)
theorem bA_294 (a b : Int) (hc : wx b < wx a) : (inI (nA_293 a b)) = true := by
  have x1 := wx_ge a
  have x2 := wx_le a
  have y1 := wx_ge b
  have y2 := wx_le b
  have h293 := eA_293 a b hc
  exact in_of (by show _ ≤ (nA_293 a b); omega) (by show (nA_293 a b) < _; omega)
theorem bA_295 (a b : Int) (hc : wx b < wx a) : (!(inI (nA_293 a b))) = false := by
  rw [bA_294 a b hc]
  rfl
def nA_296 (a b : Int) : Int := (intZ (nA_234 a b))
theorem eA_296 (a b : Int) (hc : wx b < wx a) : nA_296 a b = ((wx a : Nat) : Int) - ((wx b : Nat) : Int) := by
  have x1 := wx_ge a
  have x2 := wx_le a
  have y1 := wx_ge b
  have y2 := wx_le b
  show (intZ (nA_234 a b)) = _
  rw [eA_234 a b hc]
  exact intZ_of (in_of (by omega) (by omega))
theorem bA_297 (a b : Int) (hc : wx b < wx a) : (eqI (nA_296 a b) 0) = false := by
  have x1 := wx_ge a
  have x2 := wx_le a
  have y1 := wx_ge b
  have y2 := wx_le b
  have h296 := eA_296 a b hc
  refine eq_n ?_
  show ¬ ((nA_296 a b) = 0)
  omega
def nA_298 (a b : Int) : Int := (intZ (nA_255 a b))
theorem eA_298 (a b : Int) (hc : wx b < wx a) : nA_298 a b = -((wx a : Nat) : Int) + ((wx b : Nat) : Int) := by
  have x1 := wx_ge a
  have x2 := wx_le a
  have y1 := wx_ge b
  have y2 := wx_le b
  show (intZ (nA_255 a b)) = _
  rw [eA_255 a b hc]
  exact intZ_of (in_of (by omega) (by omega))
theorem bA_299 (a b : Int) (hc : wx b < wx a) : (eqI (nA_298 a b) 0) = false := by
  have x1 := wx_ge a
  have x2 := wx_le a
  have y1 := wx_ge b
  have y2 := wx_le b
  have h298 := eA_298 a b hc
  refine eq_n ?_
  show ¬ ((nA_298 a b) = 0)
  omega
def nA_300 (a b : Int) : Int := (intZ (nA_293 a b))
theorem eA_300 (a b : Int) (hc : wx b < wx a) : nA_300 a b = 0 := by
  have x1 := wx_ge a
  have x2 := wx_le a
  have y1 := wx_ge b
  have y2 := wx_le b
  show (intZ (nA_293 a b)) = _
  rw [eA_293 a b hc]
  exact intZ_of (in_of (by omega) (by omega))
theorem bA_301 (a b : Int) (hc : wx b < wx a) : (eqI (nA_300 a b) 0) = true := by
  have x1 := wx_ge a
  have x2 := wx_le a
  have y1 := wx_ge b
  have y2 := wx_le b
  have h300 := eA_300 a b hc
  refine eq_y ?_
  show (nA_300 a b) = 0
  omega
theorem bA_302 (a b : Int) (hc : wx b < wx a) : (eqI (Int.ofNat (wx a)) (Int.ofNat (wx b))) = false := by
  have x1 := wx_ge a
  have x2 := wx_le a
  have y1 := wx_ge b
  have y2 := wx_le b
  refine eq_n ?_
  show ¬ ((((wx a) : Nat) : Int) = (((wx b) : Nat) : Int))
  omega
theorem bA_303 (a b : Int) (hc : wx b < wx a) : (!(eqI (Int.ofNat (wx a)) (Int.ofNat (wx b)))) = true := by
  rw [bA_302 a b hc]
  rfl
def nA_304 (a b : Int) : Int := (Int.sub (Int.ofNat (wx a)) (Int.ofNat (wx b)))
theorem eA_304 (a b : Int) (hc : wx b < wx a) : nA_304 a b = ((wx a : Nat) : Int) - ((wx b : Nat) : Int) := by
  have x1 := wx_ge a
  have x2 := wx_le a
  have y1 := wx_ge b
  have y2 := wx_le b
  show ((((wx a) : Nat) : Int) - (((wx b) : Nat) : Int)) = _
  omega
def nA_305 (a b : Int) : Int := (wrapA .i64 (nA_304 a b))
theorem eA_305 (a b : Int) (hc : wx b < wx a) : nA_305 a b = ((wx a : Nat) : Int) - ((wx b : Nat) : Int) := by
  have x1 := wx_ge a
  have x2 := wx_le a
  have y1 := wx_ge b
  have y2 := wx_le b
  show (wrapA .i64 (nA_304 a b)) = _
  rw [eA_304 a b hc]
  exact wrapI (by omega) (by omega)
theorem bA_306 (a b : Int) (hc : wx b < wx a) : (eqI (nA_296 a b) (nA_305 a b)) = true := by
  have x1 := wx_ge a
  have x2 := wx_le a
  have y1 := wx_ge b
  have y2 := wx_le b
  have h296 := eA_296 a b hc
  have h305 := eA_305 a b hc
  refine eq_y ?_
  show (nA_296 a b) = (nA_305 a b)
  omega
theorem bA_307 (a b : Int) (hc : wx b < wx a) : (!(eqI (nA_296 a b) (nA_305 a b))) = false := by
  rw [bA_306 a b hc]
  rfl
def nA_308 (a b : Int) : Int := (Int.sub (Int.ofNat (wx b)) (Int.ofNat (wx a)))
theorem eA_308 (a b : Int) (hc : wx b < wx a) : nA_308 a b = -((wx a : Nat) : Int) + ((wx b : Nat) : Int) := by
  have x1 := wx_ge a
  have x2 := wx_le a
  have y1 := wx_ge b
  have y2 := wx_le b
  show ((((wx b) : Nat) : Int) - (((wx a) : Nat) : Int)) = _
  omega
def nA_309 (a b : Int) : Int := (wrapA .i64 (nA_308 a b))
theorem eA_309 (a b : Int) (hc : wx b < wx a) : nA_309 a b = -((wx a : Nat) : Int) + ((wx b : Nat) : Int) := by
  have x1 := wx_ge a
  have x2 := wx_le a
  have y1 := wx_ge b
  have y2 := wx_le b
  show (wrapA .i64 (nA_308 a b)) = _
  rw [eA_308 a b hc]
  exact wrapI (by omega) (by omega)
theorem bA_310 (a b : Int) (hc : wx b < wx a) : (eqI (nA_298 a b) (nA_309 a b)) = true := by
  have x1 := wx_ge a
  have x2 := wx_le a
  have y1 := wx_ge b
  have y2 := wx_le b
  have h298 := eA_298 a b hc
  have h309 := eA_309 a b hc
  refine eq_y ?_
  show (nA_298 a b) = (nA_309 a b)
  omega
theorem bA_311 (a b : Int) (hc : wx b < wx a) : (!(eqI (nA_298 a b) (nA_309 a b))) = false := by
  rw [bA_310 a b hc]
  rfl
theorem runA (a b : Int) : pairsE a b [(504, some false), (7, some false), (77, some false), (7, some false), (77, some false), (7, some false), (77, some false), (7, some false), (1900, some true), (24, some true), (24, some true), (24, some true), (200, some true), (0, some true), (6, some true), (0, some true), (28, some true), (0, some true), (6, some true), (0, some true), (17, some true), (0, some false), (0, some true), (3, some false), (2, some true), (13, some true), (0, some true), (6, some true), (0, some true), (28, some true), (0, some true), (6, some true), (0, some true), (3, some true), (0, some false), (0, some true), (0, some false), (2, some false), (2, some true), (2, some false), (299, some true), (0, some true), (35, some true), (0, some true), (3, some false), (1, some false), (0, some false), (1, some false), (1, some false), (0, some true), (0, some false), (1, some true), (2, some true), (0, some false), (1, some false), (0, some false), (1, some false), (1, some false), (0, some true), (0, some false), (1, some false), (0, some false), (1, some false), (1, some false), (0, some true), (1, some true), (1, some false), (318, some true), (0, some true), (38, some true), (0, some false), (8, some true), (0, some true), (34, some true), (0, some false), (58, some true), (0, some true), (3, some true), (0, some false), (166, some false), (0, some false), (0, some false), (0, some false), (151, some false), (0, some true), (65, some false), (0, some false), (0, some false), (150, some false), (0, some false), (0, some false), (0, some true), (50, some false), (1, some false), (0, some false), (57, some true), (0, some true), (20, some true), (0, some false), (8, some true), (0, some true), (26, some true), (0, some true), (20, some true), (0, some false), (8, some true), (0, some true), (26, some true), (0, some true), (27, some true), (26, some true), (0, some true), (3, some true), (0, some false), (3, some false), (1, some false), (1, some true), (2, some true), (10, some false), (7, some false)] =
  some [(true, true), ((!(eqI (nA_298 a b) (nA_309 a b))), false),
    ((!(eqI (nA_296 a b) (nA_305 a b))), false),
    ((!(eqI (Int.ofNat (wx a)) (Int.ofNat (wx b)))), true),
    ((eqI (nA_300 a b) 0), true),
    ((eqI (nA_298 a b) 0), false),
    ((eqI (nA_296 a b) 0), false),
    ((!(inI (nA_293 a b))), false),
    ((Nat.blt (loZ (nA_289 a b)) 18446744073709551616), true),
    ((gAdd (hiZ (nA_281 a b)) (loZ (nA_281 a b)) (hiZ (nA_213 a b)) (loZ (nA_213 a b))), true),
    ((inI (nA_213 a b)), true),
    ((gAdd (hiZ (nA_272 a b)) (loZ (nA_272 a b)) (hiZ (nA_201 a b)) (loZ (nA_201 a b))), true),
    ((gAdd (hiZ (nA_264 a b)) (loZ (nA_264 a b)) (hiZ (nA_176 a b)) (loZ (nA_176 a b))), true),
    ((inI (nA_176 a b)), true),
    ((gAdd 0 0 (hiZ (nA_182 a b)) (loZ (nA_182 a b))), true),
    ((inI (nA_182 a b)), true),
    ((!(inI (nA_255 a b))), false),
    ((Nat.blt (loZ (nA_251 a b)) 18446744073709551616), true),
    ((gAdd (hiZ (nA_243 a b)) (loZ (nA_243 a b)) (hiZ (nA_205 a b)) (loZ (nA_205 a b))), true),
    ((inI (nA_205 a b)), true),
    ((gAdd 0 0 (hiZ (nA_174 a b)) (loZ (nA_174 a b))), true),
    ((inI (nA_174 a b)), true),
    ((!(inI (nA_234 a b))), false),
    ((Nat.blt (loZ (nA_230 a b)) 18446744073709551616), true),
    ((gAdd (hiZ (nA_222 a b)) (loZ (nA_222 a b)) (hiZ (nA_180 a b)) (loZ (nA_180 a b))), true),
    ((inI (nA_180 a b)), true),
    ((ltI (nA_201 a b) (nA_213 a b)), false),
    ((ltI (nA_213 a b) (nA_201 a b)), false),
    ((!(eqI (nA_213 a b) (nA_213 a b))), false),
    ((ltI (nA_174 a b) (nA_205 a b)), true),
    ((ltI (nA_205 a b) (nA_174 a b)), false),
    ((!(eqI (nA_174 a b) (nA_174 a b))), false),
    ((!(eqI (nA_205 a b) (nA_205 a b))), false),
    ((ltI (nA_176 a b) (nA_201 a b)), false),
    ((ltI (nA_201 a b) (nA_176 a b)), false),
    ((!(eqI (nA_176 a b) (nA_176 a b))), false),
    ((ltI (nA_198 a b) (nA_180 a b)), true),
    ((!(eqI (nA_180 a b) (nA_180 a b))), false),
    ((ltI (nA_182 a b) (nA_176 a b)), false),
    ((ltI (nA_176 a b) (nA_182 a b)), false),
    ((!(eqI (nA_182 a b) (nA_182 a b))), false),
    ((!(eqI (nA_176 a b) (nA_176 a b))), false),
    ((!(inI (nA_168 a b))), false),
    ((Nat.blt (loZ (nA_164 a b)) 18446744073709551616), true),
    ((gAdd 0 0 (hiZ (Int.ofNat (wx b))) (loZ (Int.ofNat (wx b)))), true),
    ((inI (Int.ofNat (wx b))), true),
    ((!(inI (nA_160 a b))), false),
    ((Nat.blt (loZ (nA_156 a b)) 18446744073709551616), true),
    ((gAdd 0 0 (hiZ (nA_10 a b)) (loZ (nA_10 a b))), true),
    ((inI (nA_10 a b)), true),
    ((!(inI (nA_152 a b))), false),
    ((Nat.blt (loZ (nA_148 a b)) 18446744073709551616), true),
    ((gAdd 0 0 (hiZ (nA_142 a b)) (loZ (nA_142 a b))), true),
    ((inI (nA_142 a b)), true),
    ((!(inI (nA_139 a b))), false),
    ((Nat.blt (loZ (nA_126 a b)) 18446744073709551616), true),
    ((ltI 0 (Int.ofNat (loZ (nA_33 a b)))), true),
    ((ltI (Int.ofNat (loZ (nA_33 a b))) 0), false),
    ((!(eqI (Int.ofNat (loZ (nA_33 a b))) (Int.ofNat (loZ (nA_33 a b))))), false),
    ((ltI 0 (hiZ (nA_33 a b))), false),
    ((ltI (hiZ (nA_33 a b)) 0), false),
    ((!(eqI (hiZ (nA_33 a b)) (hiZ (nA_33 a b)))), false),
    ((ltI 0 (Int.ofNat (loZ (nA_126 a b)))), true),
    ((ltI (Int.ofNat (loZ (nA_126 a b))) 0), false),
    ((!(eqI (Int.ofNat (loZ (nA_126 a b))) (Int.ofNat (loZ (nA_126 a b))))), false),
    ((ltI 0 (hiZ (nA_126 a b))), false),
    ((ltI (hiZ (nA_126 a b)) 0), false),
    ((!(eqI (hiZ (nA_126 a b)) (hiZ (nA_126 a b)))), false),
    ((gAdd (hiZ (nA_33 a b)) (loZ (nA_33 a b)) (hiZ (nA_83 a b)) (loZ (nA_83 a b))), true),
    ((ltI (hiZ (nA_83 a b)) 0), true),
    ((!(eqI (hiZ (nA_83 a b)) (hiZ (nA_83 a b)))), false),
    ((ltI 0 (Int.ofNat (loZ (nA_33 a b)))), true),
    ((ltI (Int.ofNat (loZ (nA_33 a b))) 0), false),
    ((!(eqI (Int.ofNat (loZ (nA_33 a b))) (Int.ofNat (loZ (nA_33 a b))))), false),
    ((ltI 0 (hiZ (nA_33 a b))), false),
    ((ltI (hiZ (nA_33 a b)) 0), false),
    ((!(eqI (hiZ (nA_33 a b)) (hiZ (nA_33 a b)))), false),
    ((gAdd 0 0 (hiZ (nA_17 a b)) (loZ (nA_17 a b))), true),
    ((inI (nA_17 a b)), true),
    ((gAdd 0 0 (hiZ (Int.ofNat (wx a))) (loZ (Int.ofNat (wx a)))), true),
    ((inI (Int.ofNat (wx a))), true),
    ((!(inI (nA_108 a b))), false),
    ((eqI (nA_111 a b) 0), true),
    ((!(inI (nA_108 a b))), false),
    ((!(inI (nA_74 a b))), false),
    (((smallH (hiZ (nA_91 a b))) && (Nat.blt (loZ (nA_91 a b)) 18446744073709551616)), true),
    ((eqB false (eq0 (nA_91 a b))), false),
    ((eq0 (nA_91 a b)).isSome, true),
    ((gAdd (hiZ (nA_83 a b)) (loZ (nA_83 a b)) (hiZ (Int.ofNat (wx b))) (loZ (Int.ofNat (wx b)))), true),
    ((inI (Int.ofNat (wx b))), true),
    ((gAdd (hiZ (nA_83 a b)) (loZ (nA_83 a b)) (hiZ (Int.ofNat (wx b))) (loZ (Int.ofNat (wx b)))), true),
    ((inI (Int.ofNat (wx b))), true),
    ((gAdd 0 0 (hiZ (nA_17 a b)) (loZ (nA_17 a b))), true),
    ((inI (nA_17 a b)), true),
    ((gAdd 0 0 (hiZ (nA_17 a b)) (loZ (nA_17 a b))), true),
    ((inI (nA_17 a b)), true),
    ((eqI (nA_77 a b) 0), true),
    ((!(inI (nA_74 a b))), false),
    (((smallH (hiZ (nA_43 a b))) && (Nat.blt (loZ (nA_43 a b)) 18446744073709551616)), true),
    ((eqB false (eq0 (nA_43 a b))), false),
    ((eq0 (nA_43 a b)).isSome, true),
    ((gAdd (hiZ (nA_33 a b)) (loZ (nA_33 a b)) (hiZ (nA_10 a b)) (loZ (nA_10 a b))), true),
    ((inI (nA_10 a b)), true),
    ((gAdd (hiZ (nA_33 a b)) (loZ (nA_33 a b)) (hiZ (nA_10 a b)) (loZ (nA_10 a b))), true),
    ((inI (nA_10 a b)), true),
    ((gAdd 0 0 (hiZ (Int.ofNat (wx a))) (loZ (Int.ofNat (wx a)))), true),
    ((inI (Int.ofNat (wx a))), true),
    ((gAdd 0 0 (hiZ (Int.ofNat (wx a))) (loZ (Int.ofNat (wx a)))), true),
    ((inI (Int.ofNat (wx a))), true),
    ((inI (Int.ofNat (wx b))), true),
    ((inI (nA_17 a b)), true),
    ((inI (nA_10 a b)), true),
    ((inI (Int.ofNat (wx a))), true),
    ((ltI 9223372036854775807 (Int.ofNat (wx b))), false),
    ((ltI (Int.ofNat (wx b)) (-9223372036854775807)), false),
    ((ltI 9223372036854775807 (nA_17 a b)), false),
    ((ltI (nA_17 a b) (-9223372036854775807)), false),
    ((ltI 9223372036854775807 (nA_10 a b)), false),
    ((ltI (nA_10 a b) (-9223372036854775807)), false),
    ((ltI 9223372036854775807 (Int.ofNat (wx a))), false),
    ((ltI (Int.ofNat (wx a)) (-9223372036854775807)), false)] := by kernel_rfl
theorem pairsA (a b : Int) (hc : wx b < wx a) (W : World) : Calls Tryz.prog 3 #[.int .i64 a, .int .i64 b] W fun x w' => x = .returned (.bool true) ∧ Go.RowKit.Below W.heap.size W w' :=
  callsO_true hP hmix tolds_P (runA a b) (qcons rfl (qcons (bA_311 a b hc) (qcons (bA_307 a b hc) (qcons (bA_303 a b hc) (qcons (bA_301 a b hc) (qcons (bA_299 a b hc) (qcons (bA_297 a b hc) (qcons (bA_295 a b hc) (qcons (bA_291 a b hc) (qcons (bA_286 a b hc) (qcons (bA_278 a b hc) (qcons (bA_277 a b hc) (qcons (bA_269 a b hc) (qcons (bA_262 a b hc) (qcons (bA_261 a b hc) (qcons (bA_258 a b hc) (qcons (bA_257 a b hc) (qcons (bA_253 a b hc) (qcons (bA_248 a b hc) (qcons (bA_241 a b hc) (qcons (bA_240 a b hc) (qcons (bA_237 a b hc) (qcons (bA_236 a b hc) (qcons (bA_232 a b hc) (qcons (bA_227 a b hc) (qcons (bA_218 a b hc) (qcons (bA_217 a b hc) (qcons (bA_216 a b hc) (qcons (bA_215 a b hc) (qcons (bA_211 a b hc) (qcons (bA_210 a b hc) (qcons (bA_209 a b hc) (qcons (bA_207 a b hc) (qcons (bA_203 a b hc) (qcons (bA_202 a b hc) (qcons (bA_178 a b hc) (qcons (bA_199 a b hc) (qcons (bA_188 a b hc) (qcons (bA_186 a b hc) (qcons (bA_185 a b hc) (qcons (bA_184 a b hc) (qcons (bA_178 a b hc) (qcons (bA_170 a b hc) (qcons (bA_166 a b hc) (qcons (bA_163 a b hc) (qcons (bA_25 a b hc) (qcons (bA_162 a b hc) (qcons (bA_158 a b hc) (qcons (bA_155 a b hc) (qcons (bA_23 a b hc) (qcons (bA_154 a b hc) (qcons (bA_150 a b hc) (qcons (bA_146 a b hc) (qcons (bA_143 a b hc) (qcons (bA_141 a b hc) (qcons (bA_138 a b hc) (qcons (bA_121 a b hc) (qcons (bA_120 a b hc) (qcons (bA_119 a b hc) (qcons (bA_116 a b hc) (qcons (bA_115 a b hc) (qcons (bA_114 a b hc) (qcons (bA_137 a b hc) (qcons (bA_136 a b hc) (qcons (bA_135 a b hc) (qcons (bA_131 a b hc) (qcons (bA_130 a b hc) (qcons (bA_129 a b hc) (qcons (bA_125 a b hc) (qcons (bA_124 a b hc) (qcons (bA_123 a b hc) (qcons (bA_121 a b hc) (qcons (bA_120 a b hc) (qcons (bA_119 a b hc) (qcons (bA_116 a b hc) (qcons (bA_115 a b hc) (qcons (bA_114 a b hc) (qcons (bA_81 a b hc) (qcons (bA_24 a b hc) (qcons (bA_30 a b hc) (qcons (bA_22 a b hc) (qcons (bA_110 a b hc) (qcons (bA_112 a b hc) (qcons (bA_110 a b hc) (qcons (bA_76 a b hc) (qcons (bA_106 a b hc) (qcons (bA_103 a b hc) (qcons (bA_102 a b hc) (qcons (bA_88 a b hc) (qcons (bA_25 a b hc) (qcons (bA_88 a b hc) (qcons (bA_25 a b hc) (qcons (bA_81 a b hc) (qcons (bA_24 a b hc) (qcons (bA_81 a b hc) (qcons (bA_24 a b hc) (qcons (bA_78 a b hc) (qcons (bA_76 a b hc) (qcons (bA_72 a b hc) (qcons (bA_68 a b hc) (qcons (bA_66 a b hc) (qcons (bA_38 a b hc) (qcons (bA_23 a b hc) (qcons (bA_38 a b hc) (qcons (bA_23 a b hc) (qcons (bA_30 a b hc) (qcons (bA_22 a b hc) (qcons (bA_30 a b hc) (qcons (bA_22 a b hc) (qcons (bA_25 a b hc) (qcons (bA_24 a b hc) (qcons (bA_23 a b hc) (qcons (bA_22 a b hc) (qcons (bA_21 a b hc) (qcons (bA_20 a b hc) (qcons (bA_19 a b hc) (qcons (bA_18 a b hc) (qcons (bA_12 a b hc) (qcons (bA_11 a b hc) (qcons (bA_6 a b hc) (qcons (bA_5 a b hc) qnil))))))))))))))))))))))))))))))))))))))))))))))))))))))))))))))))))))))))))))))))))))))))))))))))))))))))))))))))))))))))) (.cons ((plain_int _ _).1 _) (.cons ((plain_int _ _).1 _) .nil)) W
end Go.Proofs.YtinlmdapgejdoaaGreat.sp
end
end
