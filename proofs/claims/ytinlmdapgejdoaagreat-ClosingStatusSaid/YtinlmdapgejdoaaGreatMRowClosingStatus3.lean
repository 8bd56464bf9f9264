/- What is wrong is told: one way through (printed by wip/gen/asks2lean.py). -/
import Derived.Test.YtinlmdapgejdoaaGreatMRowClosingStatus2
import Derived.Test.YtinlmdapgejdoaaGreatRows
import Derived.Test.YtinlmdapgejdoaaGreatAe24
section
/- What two entities owe each other: the law's run, with answers. -/
noncomputable section
namespace Go.Proofs.YtinlmdapgejdoaaGreat.sp
open AE
set_option linter.unusedSimpArgs false
set_option linter.unusedVariables false
set_option maxRecDepth 10000

/-- a number from one on -/
def wx (n : Int) : Nat := 1 + (n % 1099511627776).toNat
theorem wx_ge (n : Int) : 1 ≤ wx n := by unfold wx; omega
theorem wx_le (n : Int) : wx n ≤ 1099511627776 := by
  unfold wx
  have h1 := Int.emod_nonneg n (show (1099511627776 : Int) ≠ 0 by decide)
  have h2 := Int.emod_lt_of_pos n (show (0 : Int) < 1099511627776 by decide)
  omega
noncomputable def withinE (n : Int) (told : List (Nat × Option Bool)) : Option (Value × List (Bool × Bool)) := evVO E (gatesOf []) (sumsOf []) 100 5 [.int .i64 n, .int .i64 1, .int .i64 1099511627776] told
def tM (n : Int) : Int := Int.tmod n (wrapA .i64 (Int.add (wrapA .i64 (Int.sub 1099511627776 1)) 1))
theorem within_p (n : Int) : withinE n [(0, some false)] = some (.int .i64 (wrapA .i64 (Int.add 1 (tM n))), [(ltI (tM n) 0, false)]) := by kernel_rfl
theorem within_m (n : Int) : withinE n [(0, some true)] = some (.int .i64 (wrapA .i64 (Int.add 1 (wrapA .i64 (Int.add (wrapA .i64 (Int.sub (wrapA .i64 (Int.add (tM n) 1099511627776)) 1)) 1)))), [(ltI (tM n) 0, true)]) := by kernel_rfl
theorem tM_is (n : Int) : (0 ≤ tM n ∧ tM n = n % 1099511627776) ∨ (tM n < 0 ∧ tM n + 1099511627776 = n % 1099511627776) := by
  have e : tM n = Int.tmod n 1099511627776 := rfl
  rw [e]
  have h1 := Int.emod_nonneg n (show (1099511627776 : Int) ≠ 0 by decide)
  have h2 := Int.emod_lt_of_pos n (show (0 : Int) < 1099511627776 by decide)
  have h3 := Int.tmod_eq_emod (a := n) (b := 1099511627776)
  rw [h3]
  split
  · left; constructor <;> omega
  · right
    rename_i hc
    have hne : n % 1099511627776 ≠ 0 := fun h => hc (.inr (Int.dvd_of_emod_eq_zero h))
    omega
def withinP : List Value → AM Value
  | [.int .i64 n, .int .i64 (.ofNat 1), .int .i64 (.ofNat 1099511627776)] => .pure (.int .i64 (.ofNat (wx n)))
  | _ => .fail
theorem told_withinP : AE.Told Tryz.prog 5 withinP := by
  refine told_pure hE hmix (tolds_gates (l := []) tolds_nil (fun p hp => by cases hp)) ?_
  intro args s v s' h
  unfold withinP at h
  split at h
  · rename_i n
    cases h
    refine ⟨plain_int _ _, Less'.refl _, ints_plain (by simp), 100, ?_⟩
    have h1 := Int.emod_nonneg n (show (1099511627776 : Int) ≠ 0 by decide)
    have h2 := Int.emod_lt_of_pos n (show (0 : Int) < 1099511627776 by decide)
    have hw : (Int.ofNat (wx n)) = 1 + n % 1099511627776 := by
      unfold wx
      show ((1 + (n % 1099511627776).toNat : Nat) : Int) = _
      omega
    rw [hw]
    rcases tM_is n with ⟨t1, t2⟩ | ⟨t1, t2⟩
    · have hlt : ltI (tM n) 0 = false := by rw [ltI_eq]; simp; omega
      have := evV_of (within_p n) (qcons hlt qnil)
      have e : wrapA .i64 (Int.add 1 (tM n)) = 1 + n % 1099511627776 := by
        show wrapA .i64 (1 + tM n) = _
        rw [wrapI (by omega) (by omega), t2]
      rw [e] at this
      exact this
    · have hlt : ltI (tM n) 0 = true := by rw [ltI_eq]; simp; omega
      have := evV_of (within_m n) (qcons hlt qnil)
      have e : wrapA .i64 (Int.add 1 (wrapA .i64 (Int.add (wrapA .i64 (Int.sub (wrapA .i64 (Int.add (tM n) 1099511627776)) 1)) 1))) = 1 + n % 1099511627776 := by
        have a1 : wrapA .i64 (Int.add (tM n) 1099511627776) = tM n + 1099511627776 := wrapI (by show _ ≤ tM n + 1099511627776; omega) (by show tM n + 1099511627776 < _; omega)
        have a2 : wrapA .i64 (Int.sub (tM n + 1099511627776) 1) = tM n + 1099511627775 := by
          have : Int.sub (tM n + 1099511627776) 1 = tM n + 1099511627775 := by show tM n + 1099511627776 - 1 = _; omega
          rw [this]
          exact wrapI (by omega) (by omega)
        have a3 : wrapA .i64 (Int.add (tM n + 1099511627775) 1) = tM n + 1099511627776 := by
          have : Int.add (tM n + 1099511627775) 1 = tM n + 1099511627776 := by show tM n + 1099511627775 + 1 = _; omega
          rw [this]
          exact wrapI (by omega) (by omega)
        rw [a1, a2, a3, t2]
        exact wrapI (by show _ ≤ 1 + n % 1099511627776; omega) (by show 1 + n % 1099511627776 < _; omega)
      rw [e] at this
      exact this
  · cases h
def cardP : List Value → AM Value
  | [.int .i64 (.ofNat 2), .int .i64 (.ofNat 2)] => .pure (.agg ⟨[.int .i64 10, .int .i64 40, .int .i64 4, .int .i64 4]⟩)
  | _ => .fail
theorem card_ev : evV E (sumsOf []) 200 7 [.int .i64 (.ofNat 2), .int .i64 (.ofNat 2)] = some (.agg ⟨[.int .i64 10, .int .i64 40, .int .i64 4, .int .i64 4]⟩) := by kernel_rfl
theorem told_cardP : AE.Told Tryz.prog 7 cardP := by
  refine told_pure hE hmix tolds_nil ?_
  intro args s v s' h
  unfold cardP at h
  split at h
  · cases h
    exact ⟨plain_agg (ints_plain (by simp)), Less'.refl _, ints_plain (by simp), 200, card_ev⟩
  · cases h
def gateO : List (Nat × (List Value → Option (Bool × Value))) := [(122, ofG), (121, addG), (120, intG)]
theorem tolds_O : Tolds Tryz.prog (gated (gatesOf gateO) (sumsOf [])) := tolds_gates tolds_nil (by
  intro p hp
  simp only [gateO, List.mem_cons, List.not_mem_nil, or_false] at hp
  rcases hp with rfl | rfl | rfl
  · exact told_ofG
  · exact told_addG
  · exact told_intG)
/-- each bit turned -/
def xH (h : Int) : Int := wrapA .i64 (.ofNat (Nat.xor (modN (maskOf .i64) (.negSucc 0)) (modN (maskOf .i64) h)))
def xL (l : Nat) : Nat := modN 18446744073709551616 (.ofNat (Nat.xor (modN (maskOf .u64) (.ofNat (Nat.sub (maskOf .u64) 1))) (modN (maskOf .u64) (.ofNat l))))
def opZ (h : Int) (l : Nat) : Int := valW (xH h) (xL l) + valW (hiZ 1) (loZ 1)
noncomputable def oppE (h : Int) (l : Nat) (told : List (Nat × Option Bool)) : Option (Value × List (Bool × Bool)) := evVO E (gatesOf gateO) (sumsOf []) 100 97 [.agg ⟨[.int .i64 h, .int .u64 (.ofNat l)]⟩] told
theorem opp_ev (h : Int) (l : Nat) : oppE h l [(0, some true), (0, some true), (0, some true)] =
    some (.tuple ⟨[.int .i64 (intZ (valW (hiZ (opZ h l)) (loZ (opZ h l)))), .bool (inI (valW (hiZ (opZ h l)) (loZ (opZ h l))))]⟩, [(Nat.blt (loZ (opZ h l)) 18446744073709551616, true), (gAdd (xH h) (xL l) (hiZ 1) (loZ 1), true), (inI 1, true)]) := by kernel_rfl
theorem xor_ones (x : Nat) (hx : x < 18446744073709551616) : Nat.xor 18446744073709551615 x = 18446744073709551615 - x := by
  have h := BitVec.toNat_not (x := BitVec.ofNat 64 x)
  rw [BitVec.not_def, BitVec.toNat_xor, BitVec.toNat_allOnes, BitVec.toNat_ofNat] at h
  have e : x % 2 ^ 64 = x := Nat.mod_eq_of_lt hx
  rw [e] at h
  exact h
theorem xL_is {l : Nat} (hl : l < 18446744073709551616) : xL l = 18446744073709551615 - l := by
  unfold xL
  have e1 : modN (maskOf .u64) (.ofNat l) = l := by
    show l % 18446744073709551616 = l
    exact Nat.mod_eq_of_lt hl
  have e2 : modN (maskOf .u64) (.ofNat (Nat.sub (maskOf .u64) 1)) = 18446744073709551615 := rfl
  rw [e1, e2, xor_ones l hl]
  show (18446744073709551615 - l) % 18446744073709551616 = _
  omega
theorem xH_is {h : Int} (hs : smallH h = true) : xH h = -1 - h := by
  obtain ⟨h1, h2⟩ := smallH_iff.1 hs
  unfold xH
  have hm := modN_eq 18446744073709551616 (by decide) h
  have hM : ((18446744073709551616 : Nat) : Int) = 18446744073709551616 := rfl
  rw [hM] at hm
  have e2 : modN (maskOf .i64) (.negSucc 0) = 18446744073709551615 := rfl
  have e3 : modN (maskOf .i64) h = modN 18446744073709551616 h := rfl
  rw [e2, e3, xor_ones _ (by omega)]
  generalize modN 18446744073709551616 h = m at *
  show wrapS 18446744073709551616 9223372036854775808 ((18446744073709551615 - m : Nat) : Int) = _
  rw [wrapS_eq _ _ (by decide) (by decide)]
  split <;> omega
theorem opZ_is {h : Int} {l : Nat} (hs : smallH h = true) (hl : l < 18446744073709551616) : opZ h l = -valW h l := by
  unfold opZ
  rw [val_wz, xH_is hs, xL_is hl]
  unfold valW
  omega
def oppG : List Value → Option (Bool × Value)
  | [.agg ⟨[.int .i64 h, .int .u64 (.ofNat l)]⟩] => some (smallH h && Nat.blt l 18446744073709551616, .tuple ⟨[.int .i64 (intZ (-valW h l)), .bool (inI (-valW h l))]⟩)
  | _ => none
theorem told_oppG : AE.Told Tryz.prog 97 (gA oppG) := by
  refine told_pure hE hmix tolds_O ?_
  intro args s v s' hr
  obtain ⟨h1, rfl⟩ := gA_run hr
  unfold oppG at h1
  split at h1
  · rename_i h l
    have hb : (smallH h && Nat.blt l 18446744073709551616) = true := congrArg (fun x => match x with | some (b, _) => b | none => false) h1
    have hv : Value.tuple ⟨[.int .i64 (intZ (-valW h l)), .bool (inI (-valW h l))]⟩ = v := congrArg (fun x => match x with | some (_, v) => v | none => undefV) h1
    subst hv
    rw [Bool.and_eq_true, blt_iff] at hb
    obtain ⟨hs, hl⟩ := hb
    refine ⟨plain_ib _ _, Less'.refl _, fun v hv => ?_, 100, ?_⟩
    · simp only [List.mem_cons, List.not_mem_nil, or_false] at hv
      subst hv
      exact plain_agg (ints_plain (by simp))
    · have hg : gAdd (xH h) (xL l) (hiZ 1) (loZ 1) = true := by
        obtain ⟨b1, b2⟩ := smallH_iff.1 hs
        unfold gAdd
        rw [xH_is hs, xL_is hl, smallH_iff.2 (show -4611686018427387904 ≤ -1 - h ∧ -1 - h < 4611686018427387904 by omega), blt_iff.2 (show 18446744073709551615 - l < 18446744073709551616 by omega)]
        rfl
      have := evV_of (opp_ev h l) (qcons (blt_iff.2 (loZ_lt _)) (qcons hg (qcons rfl qnil)))
      rw [val_wz, opZ_is hs hl] at this
      exact this
  · cases h1
end Go.Proofs.YtinlmdapgejdoaaGreat.sp
end
end

section
/- Chapter 20's runs, evaluated over the named memory. -/
namespace Go.Proofs.YtinlmdapgejdoaaGreat

theorem closingRuns_lawful : AE.lawful Tryz.prog = true := by kernel_rfl
set_option maxRecDepth 100000 in
theorem closingRuns_run : AE.isTrue (AE.ev (AE.Env.of Tryz.prog) 100000 (.next (.enter 9 [])) AE.s0) = true := by kernel_rfl
theorem closingRuns_any (w0 : World) : Calls Tryz.prog 9 #[] w0 fun e w' => e = .returned (.bool true) ∧ Go.RowKit.Below w0.heap.size w0 w' :=
  AE.calls_true closingRuns_lawful (Checked.mixed Tryz.checked) closingRuns_run w0
end Go.Proofs.YtinlmdapgejdoaaGreat
end

section
/- What two entities owe each other: the law's run, with answers. -/
noncomputable section
namespace Go.Proofs.YtinlmdapgejdoaaGreat.sp
open AE
set_option linter.unusedSimpArgs false
set_option linter.unusedVariables false
set_option maxRecDepth 10000

def gateP : List (Nat × (List Value → Option (Bool × Value))) := [(122, ofG), (121, addG), (120, intG), (51, scale1G), (97, oppG)]
def sigP : List (FuncId × (List Value → AM Value)) := [(5, withinP), (7, cardP), (78, splitA), (9, constA (.bool true))]
theorem told_runsP : AE.Told Tryz.prog 9 (constA (.bool true)) := told_of_calls rfl closingRuns_any
theorem tolds_P : Tolds Tryz.prog (gated (gatesOf gateP) (sumsOf sigP)) := tolds_gates (tolds_cons told_withinP (tolds_cons told_cardP (tolds_cons told_split (tolds_cons told_runsP tolds_nil)))) (by
  intro p hp
  simp only [gateP, List.mem_cons, List.not_mem_nil, or_false] at hp
  rcases hp with rfl | rfl | rfl | rfl | rfl
  · exact told_ofG
  · exact told_addG
  · exact told_intG
  · exact told_scale1
  · exact told_oppG)
noncomputable def pairsE (a b : Int) (told : List (Nat × Option Bool)) : Option (List (Bool × Bool)) :=
  asks (evNextO (evO E (gatesOf gateP) (sumsOf sigP) 100000) E (.enter 3 [.int .i64 a, .int .i64 b]) s0 ⟨told, []⟩)
/-! what the questions come to -/
theorem intZ_of {z : Int} (h : inI z = true) : intZ z = z := by
  unfold intZ
  rw [h]
theorem in_of {z : Int} (h1 : -9223372036854775808 ≤ z) (h2 : z < 9223372036854775808) : inI z = true := inI_iff.2 ⟨h1, h2⟩
theorem sc_of {z : Int} (h1 : -9223372036854775808 ≤ z) (h2 : z < 9223372036854775808) : scI z (cl 10000) = z := sc_all z (wrapI h1 h2)
theorem small_of {z : Int} (h1 : -1267650600228229401496703205376 ≤ z) (h2 : z < 1267650600228229401496703205376) : smallH (hiZ z) = true := by
  rw [smallH_iff]
  unfold hiZ
  omega
theorem gAdd_of {y z : Int} (h1 : -1267650600228229401496703205376 ≤ y) (h2 : y < 1267650600228229401496703205376) (h3 : -1267650600228229401496703205376 ≤ z) (h4 : z < 1267650600228229401496703205376) : gAdd (hiZ y) (loZ y) (hiZ z) (loZ z) = true := by
  unfold gAdd
  rw [small_of h1 h2, small_of h3 h4, blt_iff.2 (loZ_lt y), blt_iff.2 (loZ_lt z)]
  rfl
theorem gAdd_0 {z : Int} (h3 : -1267650600228229401496703205376 ≤ z) (h4 : z < 1267650600228229401496703205376) : gAdd 0 0 (hiZ z) (loZ z) = true := gAdd_of (y := 0) (by decide) (by decide) h3 h4
theorem opp_of {z : Int} (h1 : -1267650600228229401496703205376 ≤ z) (h2 : z < 1267650600228229401496703205376) : (smallH (hiZ z) && Nat.blt (loZ z) 18446744073709551616) = true := by
  rw [small_of h1 h2, blt_iff.2 (loZ_lt z)]
  rfl
theorem lt_y {x y : Int} (h : x < y) : ltI x y = true := by rw [ltI_eq]; exact decide_eq_true h
theorem lt_n {x y : Int} (h : ¬ x < y) : ltI x y = false := by rw [ltI_eq]; exact decide_eq_false h
theorem eq_y {x y : Int} (h : x = y) : eqI x y = true := by rw [eqI_eq]; exact decide_eq_true h
theorem eq_n {x y : Int} (h : ¬ x = y) : eqI x y = false := by rw [eqI_eq]; exact decide_eq_false h
theorem lo_lt (z : Int) : Nat.blt (loZ z) 18446744073709551616 = true := blt_iff.2 (loZ_lt z)
/-- a sum against none -/
noncomputable def eq0 (z : Int) : Option Bool := eqTop E 96 (.agg ⟨[.int .i64 (hiZ z), .int .u64 (.ofNat (loZ z))]⟩) (.agg ⟨[.int .i64 0, .int .u64 0]⟩)
theorem eq0_is (z : Int) : eq0 z = some (decide (z = 0)) := by
  unfold eq0
  rw [eqW]
  have h := val_wz z
  unfold valW at h
  have : (eqI (hiZ z) 0 && eqI (.ofNat (loZ z)) 0) = decide (z = 0) := by
    rw [eqI_eq, eqI_eq, Bool.eq_iff_iff]
    simp only [Bool.and_eq_true, decide_eq_true_iff]
    constructor
    · rintro ⟨e1, e2⟩
      have e2 : ((loZ z : Nat) : Int) = 0 := e2
      omega
    · rintro rfl
      exact ⟨rfl, rfl⟩
  rw [this]
end Go.Proofs.YtinlmdapgejdoaaGreat.sp
end
end

section
/- What is wrong is told: the law's numbers and its run, with answers. -/
noncomputable section
namespace Go.Proofs.YtinlmdapgejdoaaGreat.sp
open AE
set_option linter.unusedSimpArgs false
set_option linter.unusedVariables false
set_option maxRecDepth 10000

/-- an amount that goes beyond all ints, three for two -/
theorem k3_over {k : Nat} (hk : k < 2097152) : k3 (.ofNat (9223372036854775807 - k)) = false := by
  obtain ⟨e1, e2⟩ := mul_pos (k := 9223372036854775807 - k) (p := 3) (by omega) (by omega)
  unfold k3
  rw [e1, e2]
  have d1 : (9223372036854775807 - k) * 3 / 18446744073709551616 = 1 := by omega
  rw [d1]
  generalize hlo : (9223372036854775807 - k) * 3 % 18446744073709551616 = lo
  have hlo1 : lo + 18446744073709551616 = (9223372036854775807 - k) * 3 := by omega
  have f0 : Q0b (.ofNat 1) lo = false := rfl
  have e3 : qqb (.ofNat 1) lo = (18446744073709551616 + lo) / 2 := by
    unfold qqb
    show (1 * 18446744073709551616 + lo) / 2 = _
    omega
  have c1 : C1 ((18446744073709551616 + lo) / 2) = false := by
    unfold C1
    rw [ltI_eq, decide_eq_true (show (9223372036854775808 : Int) < Int.ofNat ((18446744073709551616 + lo) / 2) from by show (9223372036854775808 : Int) < (((18446744073709551616 + lo) / 2 : Nat) : Int); omega)]
    rfl
  have g1 : FP (xD ((18446744073709551616 + lo) / 2)) = false := by
    unfold FP xD
    rw [ltI_eq, decide_eq_true (show (9223372036854775807 : Int) < Int.ofNat ((18446744073709551616 + lo) / 2) from by show (9223372036854775807 : Int) < (((18446744073709551616 + lo) / 2 : Nat) : Int); omega)]
    rfl
  have m1 : szM (.ofNat 1) = false := rfl
  unfold quoVb
  rw [e3, f0, c1, g1, m1]
  rfl
/-! the amounts -/
theorem rn_up {N : Nat} (h : 3 ≤ N) : 2 ≤ rn N ∧ rn N + 1 ≤ N := by unfold rn; split <;> omega
theorem rn_to {N : Nat} (h : 2 ≤ N) : 1 ≤ rn N ∧ rn N + 1 ≤ N := by unfold rn; split <;> omega
/-! within -/
def wk (n : Int) : Nat := 1 + (n % 1048576).toNat
theorem wk_ge (n : Int) : 1 ≤ wk n := by unfold wk; omega
theorem wk_le (n : Int) : wk n ≤ 1048576 := by
  unfold wk
  have h1 := Int.emod_nonneg n (show (1048576 : Int) ≠ 0 by decide)
  have h2 := Int.emod_lt_of_pos n (show (0 : Int) < 1048576 by decide)
  omega
def w6 (n : Int) : Nat := (n % 7).toNat
theorem w6_le (n : Int) : w6 n ≤ 6 := by
  unfold w6
  have h1 := Int.emod_nonneg n (show (7 : Int) ≠ 0 by decide)
  have h2 := Int.emod_lt_of_pos n (show (0 : Int) < 7 by decide)
  omega
noncomputable def withinK (n : Int) (told : List (Nat × Option Bool)) : Option (Value × List (Bool × Bool)) := evVO E (gatesOf []) (sumsOf []) 100 5 [.int .i64 n, .int .i64 1, .int .i64 1048576] told
noncomputable def within6 (n : Int) (told : List (Nat × Option Bool)) : Option (Value × List (Bool × Bool)) := evVO E (gatesOf []) (sumsOf []) 100 5 [.int .i64 n, .int .i64 0, .int .i64 6] told
def tK (n : Int) : Int := Int.tmod n (wrapA .i64 (Int.add (wrapA .i64 (Int.sub 1048576 1)) 1))
def t6 (n : Int) : Int := Int.tmod n (wrapA .i64 (Int.add (wrapA .i64 (Int.sub 6 0)) 1))
theorem withinK_p (n : Int) : withinK n [(0, some false)] = some (.int .i64 (wrapA .i64 (Int.add 1 (tK n))), [(ltI (tK n) 0, false)]) := by kernel_rfl
theorem withinK_m (n : Int) : withinK n [(0, some true)] = some (.int .i64 (wrapA .i64 (Int.add 1 (wrapA .i64 (Int.add (wrapA .i64 (Int.sub (wrapA .i64 (Int.add (tK n) 1048576)) 1)) 1)))), [(ltI (tK n) 0, true)]) := by kernel_rfl
theorem within6_p (n : Int) : within6 n [(0, some false)] = some (.int .i64 (wrapA .i64 (Int.add 0 (t6 n))), [(ltI (t6 n) 0, false)]) := by kernel_rfl
theorem within6_m (n : Int) : within6 n [(0, some true)] = some (.int .i64 (wrapA .i64 (Int.add 0 (wrapA .i64 (Int.add (wrapA .i64 (Int.sub (wrapA .i64 (Int.add (t6 n) 6)) 0)) 1)))), [(ltI (t6 n) 0, true)]) := by kernel_rfl
theorem tm_is (n m : Int) (hm : 0 < m) : (0 ≤ Int.tmod n m ∧ Int.tmod n m = n % m) ∨ (Int.tmod n m < 0 ∧ Int.tmod n m + m = n % m) := by
  have h1 := Int.emod_nonneg n (show m ≠ 0 by omega)
  have h2 := Int.emod_lt_of_pos n hm
  have h3 := Int.tmod_eq_emod (a := n) (b := m)
  rw [h3]
  have hna : ((m.natAbs : Nat) : Int) = m := by omega
  split
  · left; constructor <;> omega
  · right
    rename_i hc
    have hne : n % m ≠ 0 := fun h => hc (.inr (Int.dvd_of_emod_eq_zero h))
    omega
theorem sub_i {x y : Int} : Int.sub x y = x - y := rfl
theorem add_i {x y : Int} : Int.add x y = x + y := rfl
def withinS : List Value → AM Value
  | [.int .i64 n, .int .i64 (.ofNat a), .int .i64 (.ofNat b)] => match Nat.beq a 1 && Nat.beq b 1048576 with
    | true => .pure (.int .i64 (.ofNat (wk n)))
    | false => match Nat.beq a 0 && Nat.beq b 6 with
      | true => .pure (.int .i64 (.ofNat (w6 n)))
      | false => .fail
  | _ => .fail
theorem withinS_k (n : Int) : evV E (gated (gatesOf []) (sumsOf [])) 100 5 [.int .i64 n, .int .i64 1, .int .i64 1048576] = some (.int .i64 (.ofNat (wk n))) := by
  have h1 := Int.emod_nonneg n (show (1048576 : Int) ≠ 0 by decide)
  have h2 := Int.emod_lt_of_pos n (show (0 : Int) < 1048576 by decide)
  have hw : (Int.ofNat (wk n)) = 1 + n % 1048576 := by
    unfold wk
    show ((1 + (n % 1048576).toNat : Nat) : Int) = _
    omega
  rw [hw]
  have ht : tK n = Int.tmod n 1048576 := rfl
  rcases tm_is n 1048576 (by decide) with ⟨t1, t2⟩ | ⟨t1, t2⟩
  · have hlt : ltI (tK n) 0 = false := by rw [ltI_eq, ht]; simp; omega
    have := evV_of (withinK_p n) (qcons hlt qnil)
    have e : wrapA .i64 (Int.add 1 (tK n)) = 1 + n % 1048576 := by
      rw [add_i, ht, t2]
      exact wrapI (by omega) (by omega)
    rw [e] at this
    exact this
  · have hlt : ltI (tK n) 0 = true := by rw [ltI_eq, ht]; simp; omega
    have := evV_of (withinK_m n) (qcons hlt qnil)
    have e : wrapA .i64 (Int.add 1 (wrapA .i64 (Int.add (wrapA .i64 (Int.sub (wrapA .i64 (Int.add (tK n) 1048576)) 1)) 1))) = 1 + n % 1048576 := by
      simp only [add_i, sub_i, ht]
      rw [t2, wrapI (x := n % 1048576) (by omega) (by omega), wrapI (x := n % 1048576 - 1) (by omega) (by omega), show n % 1048576 - 1 + 1 = n % 1048576 by omega, wrapI (x := n % 1048576) (by omega) (by omega)]
      exact wrapI (by omega) (by omega)
    rw [e] at this
    exact this
theorem withinS_6 (n : Int) : evV E (gated (gatesOf []) (sumsOf [])) 100 5 [.int .i64 n, .int .i64 0, .int .i64 6] = some (.int .i64 (.ofNat (w6 n))) := by
  have h1 := Int.emod_nonneg n (show (7 : Int) ≠ 0 by decide)
  have h2 := Int.emod_lt_of_pos n (show (0 : Int) < 7 by decide)
  have hw : (Int.ofNat (w6 n)) = n % 7 := by
    unfold w6
    show (((n % 7).toNat : Nat) : Int) = _
    omega
  rw [hw]
  have ht : t6 n = Int.tmod n 7 := rfl
  rcases tm_is n 7 (by decide) with ⟨t1, t2⟩ | ⟨t1, t2⟩
  · have hlt : ltI (t6 n) 0 = false := by rw [ltI_eq, ht]; simp; omega
    have := evV_of (within6_p n) (qcons hlt qnil)
    have e : wrapA .i64 (Int.add 0 (t6 n)) = n % 7 := by
      rw [add_i, ht, t2, wrapI (by omega) (by omega)]
      omega
    rw [e] at this
    exact this
  · have hlt : ltI (t6 n) 0 = true := by rw [ltI_eq, ht]; simp; omega
    have := evV_of (within6_m n) (qcons hlt qnil)
    have e : wrapA .i64 (Int.add 0 (wrapA .i64 (Int.add (wrapA .i64 (Int.sub (wrapA .i64 (Int.add (t6 n) 6)) 0)) 1))) = n % 7 := by
      simp only [add_i, sub_i, ht]
      rw [show Int.tmod n 7 + 6 = n % 7 - 1 by omega, wrapI (x := n % 7 - 1) (by omega) (by omega), Int.sub_zero, wrapI (x := n % 7 - 1) (by omega) (by omega), show n % 7 - 1 + 1 = n % 7 by omega, wrapI (x := n % 7) (by omega) (by omega), Int.zero_add]
      exact wrapI (by omega) (by omega)
    rw [e] at this
    exact this
theorem told_withinS : AE.Told Tryz.prog 5 withinS := by
  refine told_pure hE hmix (tolds_gates (l := []) tolds_nil (fun p hp => by cases hp)) ?_
  intro args s v s' h
  unfold withinS at h
  split at h
  · rename_i n a b
    cases hb : (Nat.beq a 1 && Nat.beq b 1048576) with
    | true =>
      rw [hb] at h
      cases h
      simp only [Bool.and_eq_true, beq_iff] at hb
      obtain ⟨rfl, rfl⟩ := hb
      exact ⟨plain_int _ _, Less'.refl _, ints_plain (by simp), 100, withinS_k n⟩
    | false =>
      rw [hb] at h
      cases hb2 : (Nat.beq a 0 && Nat.beq b 6) with
      | true =>
        rw [hb2] at h
        cases h
        simp only [Bool.and_eq_true, beq_iff] at hb2
        obtain ⟨rfl, rfl⟩ := hb2
        exact ⟨plain_int _ _, Less'.refl _, ints_plain (by simp), 100, withinS_6 n⟩
      | false =>
        rw [hb2] at h
        cases h
  · cases h
/-! the letters -/
def kS (b : Int) : Nat := rn (wk b * 3)
def kT (b : Int) : Nat := rn (kS b)
def kU (b : Int) : Nat := rn ((wk b + 1) * 3)
theorem k_facts (b : Int) : 1 ≤ wk b ∧ wk b ≤ 1048576 ∧ 2 ≤ kS b ∧ kS b ≤ 3145728 ∧ 1 ≤ kT b ∧ kT b + 1 ≤ kS b ∧ 2 ≤ kU b ∧ kU b ≤ 3145731 := by
  have h1 := wk_ge b
  have h2 := wk_le b
  obtain ⟨a1, a2⟩ := rn_up (N := wk b * 3) (by omega)
  obtain ⟨b1, b2⟩ := rn_to (N := kS b) a1
  obtain ⟨c1, c2⟩ := rn_up (N := (wk b + 1) * 3) (by omega)
  have a3 : kS b + 1 ≤ wk b * 3 := a2
  have b3 : kT b + 1 ≤ kS b := b2
  have c3 : kU b + 1 ≤ (wk b + 1) * 3 := c2
  exact ⟨h1, h2, a1, by omega, b1, b3, c1, by omega⟩
theorem s3_K (b : Int) : s3 ((wk b : Nat) : Int) = ((kS b : Nat) : Int) := (s3_pos (by have := wk_le b; omega)).1
theorem k3_K (b : Int) : k3 (Int.ofNat (wk b)) = true := (s3_pos (k := wk b) (by have := wk_le b; omega)).2
theorem s3_m {m : Nat} (h : 1 ≤ m) (h2 : m < 274877906943) : s3 (-((m : Nat) : Int)) = -((rn (m * 3) : Nat) : Int) ∧ k3 (-((m : Nat) : Int)) = true := by
  obtain ⟨k, rfl⟩ : ∃ k, m = k + 1 := ⟨m - 1, by omega⟩
  exact s3_neg (by omega)
theorem s3_mK (b : Int) : s3 (-((wk b : Nat) : Int)) = -((kS b : Nat) : Int) := (s3_m (wk_ge b) (by have := wk_le b; omega)).1
theorem k3_mK (b : Int) : k3 (-((wk b : Nat) : Int)) = true := (s3_m (wk_ge b) (by have := wk_le b; omega)).2
theorem mK1 (b : Int) : -((wk b : Nat) : Int) - 1 = -((wk b + 1 : Nat) : Int) := by omega
theorem s3_mK1 (b : Int) : s3 (-((wk b : Nat) : Int) - 1) = -((kU b : Nat) : Int) := by
  rw [mK1]
  exact (s3_m (m := wk b + 1) (by omega) (by have := wk_le b; omega)).1
theorem k3_mK1 (b : Int) : k3 (-((wk b : Nat) : Int) - 1) = true := by
  rw [mK1]
  exact (s3_m (m := wk b + 1) (by omega) (by have := wk_le b; omega)).2
theorem k3_ov (b : Int) : k3 (-((wk b : Nat) : Int) + 9223372036854775807) = false := by
  have h := wk_le b
  have e : -((wk b : Nat) : Int) + 9223372036854775807 = .ofNat (9223372036854775807 - wk b) := by
    show _ = ((9223372036854775807 - wk b : Nat) : Int)
    omega
  rw [e]
  exact k3_over (by omega)
theorem sc_S (b : Int) : scI ((kS b : Nat) : Int) (cl 5000) = ((kT b : Nat) : Int) := s5_pos (by have := k_facts b; omega)
theorem s5_m {m : Nat} (h : 1 ≤ m) (h2 : m < 1099511627775) : scI (-((m : Nat) : Int)) (cl 5000) = -((rn m : Nat) : Int) := by
  obtain ⟨k, rfl⟩ : ∃ k, m = k + 1 := ⟨m - 1, by omega⟩
  exact s5_neg (by omega)
theorem sc_mS (b : Int) : scI (-((kS b : Nat) : Int)) (cl 5000) = -((kT b : Nat) : Int) := s5_m (by have := k_facts b; omega) (by have := k_facts b; omega)
/-! the law's run -/
def sigTT : List (FuncId × (List Value → AM Value)) := [(5, withinS), (7, cardP), (51, scale3A), (78, splitA), (9, constA (.bool true))]
def gateTT : List (Nat × (List Value → Option (Bool × Value))) := [(122, ofG), (121, addG), (120, intG), (97, oppG)]
theorem tolds_TT : Tolds Tryz.prog (gated (gatesOf gateTT) (sumsOf sigTT)) := tolds_gates (tolds_cons told_withinS (tolds_cons told_cardP (tolds_cons told_scale3 (tolds_cons told_split (tolds_cons told_runsP tolds_nil))))) (by
  intro p hp
  simp only [gateTT, List.mem_cons, List.not_mem_nil, or_false] at hp
  rcases hp with rfl | rfl | rfl | rfl
  · exact told_ofG
  · exact told_addG
  · exact told_intG
  · exact told_oppG)
noncomputable def statE (a b : Int) (told : List (Nat × Option Bool)) : Option (List (Bool × Bool)) :=
  asks (evNextO (evO E (gatesOf gateTT) (sumsOf sigTT) 100000) E (.enter 4 [.int .i64 a, .int .i64 b]) s0 ⟨told, []⟩)
end Go.Proofs.YtinlmdapgejdoaaGreat.sp
end
end

section
/- What is wrong is told: one way through (printed by wip/gen/asks2lean.py). -/
noncomputable section
namespace Go.Proofs.YtinlmdapgejdoaaGreat.sp
open AE
set_option linter.unusedSimpArgs false
set_option linter.unusedVariables false
set_option maxRecDepth 100000
theorem bS0_4 (a b : Int) (hc : w6 a = 0) : (eqI (Int.ofNat (w6 a)) 0) = true := by
  obtain ⟨x1, x2, x3, x4, x5, x6, x7, x8⟩ := k_facts b
  refine eq_y ?_
  show (((w6 a) : Nat) : Int) = 0
  omega
theorem runS0 (a b : Int) : statE a b [(0, some true)] =
  some [(true, true), ((eqI (Int.ofNat (w6 a)) 0), true)] := by kernel_rfl
theorem statS0 (a b : Int) (hc : w6 a = 0) (W : World) : Calls Tryz.prog 4 #[.int .i64 a, .int .i64 b] W fun x w' => x = .returned (.bool true) ∧ Go.RowKit.Below W.heap.size W w' :=
  callsO_true hP hmix tolds_TT (runS0 a b) (qcons rfl (qcons (bS0_4 a b hc) qnil)) (.cons ((plain_int _ _).1 _) (.cons ((plain_int _ _).1 _) .nil)) W
end Go.Proofs.YtinlmdapgejdoaaGreat.sp
end
end

section
/- What is wrong is told: one way through (printed by wip/gen/asks2lean.py). -/
noncomputable section
namespace Go.Proofs.YtinlmdapgejdoaaGreat.sp
open AE
set_option linter.unusedSimpArgs false
set_option linter.unusedVariables false
set_option maxRecDepth 100000
theorem bS1_4 (a b : Int) (hc : w6 a = 1) : (eqI (Int.ofNat (w6 a)) 0) = false := by
  obtain ⟨x1, x2, x3, x4, x5, x6, x7, x8⟩ := k_facts b
  refine eq_n ?_
  show ¬ ((((w6 a) : Nat) : Int) = 0)
  omega
theorem bS1_6 (a b : Int) (hc : w6 a = 1) : (eqI (Int.ofNat (w6 a)) 1) = true := by
  obtain ⟨x1, x2, x3, x4, x5, x6, x7, x8⟩ := k_facts b
  refine eq_y ?_
  show (((w6 a) : Nat) : Int) = 1
  omega
theorem runS1 (a b : Int) : statE a b [(0, some false), (0, some true)] =
  some [(true, true), ((eqI (Int.ofNat (w6 a)) 1), true),
    ((eqI (Int.ofNat (w6 a)) 0), false)] := by kernel_rfl
theorem statS1 (a b : Int) (hc : w6 a = 1) (W : World) : Calls Tryz.prog 4 #[.int .i64 a, .int .i64 b] W fun x w' => x = .returned (.bool true) ∧ Go.RowKit.Below W.heap.size W w' :=
  callsO_true hP hmix tolds_TT (runS1 a b) (qcons rfl (qcons (bS1_6 a b hc) (qcons (bS1_4 a b hc) qnil))) (.cons ((plain_int _ _).1 _) (.cons ((plain_int _ _).1 _) .nil)) W
end Go.Proofs.YtinlmdapgejdoaaGreat.sp
end
end

section
/- What is wrong is told: one way through (printed by wip/gen/asks2lean.py). -/
noncomputable section
namespace Go.Proofs.YtinlmdapgejdoaaGreat.sp
open AE
set_option linter.unusedSimpArgs false
set_option linter.unusedVariables false
set_option maxRecDepth 100000
theorem bS2_4 (a b : Int) (hc : w6 a = 2) : (eqI (Int.ofNat (w6 a)) 0) = false := by
  obtain ⟨x1, x2, x3, x4, x5, x6, x7, x8⟩ := k_facts b
  refine eq_n ?_
  show ¬ ((((w6 a) : Nat) : Int) = 0)
  omega
theorem bS2_6 (a b : Int) (hc : w6 a = 2) : (eqI (Int.ofNat (w6 a)) 1) = false := by
  obtain ⟨x1, x2, x3, x4, x5, x6, x7, x8⟩ := k_facts b
  refine eq_n ?_
  show ¬ ((((w6 a) : Nat) : Int) = 1)
  omega
theorem bS2_8 (a b : Int) (hc : w6 a = 2) : (eqI (Int.ofNat (w6 a)) 2) = true := by
  obtain ⟨x1, x2, x3, x4, x5, x6, x7, x8⟩ := k_facts b
  refine eq_y ?_
  show (((w6 a) : Nat) : Int) = 2
  omega
theorem runS2 (a b : Int) : statE a b [(0, some false), (0, some false), (0, some true)] =
  some [(true, true), ((eqI (Int.ofNat (w6 a)) 2), true),
    ((eqI (Int.ofNat (w6 a)) 1), false),
    ((eqI (Int.ofNat (w6 a)) 0), false)] := by kernel_rfl
theorem statS2 (a b : Int) (hc : w6 a = 2) (W : World) : Calls Tryz.prog 4 #[.int .i64 a, .int .i64 b] W fun x w' => x = .returned (.bool true) ∧ Go.RowKit.Below W.heap.size W w' :=
  callsO_true hP hmix tolds_TT (runS2 a b) (qcons rfl (qcons (bS2_8 a b hc) (qcons (bS2_6 a b hc) (qcons (bS2_4 a b hc) qnil)))) (.cons ((plain_int _ _).1 _) (.cons ((plain_int _ _).1 _) .nil)) W
end Go.Proofs.YtinlmdapgejdoaaGreat.sp
end
end

section
/- What is wrong is told: one way through (printed by wip/gen/asks2lean.py). -/
noncomputable section
namespace Go.Proofs.YtinlmdapgejdoaaGreat.sp
open AE
set_option linter.unusedSimpArgs false
set_option linter.unusedVariables false
set_option maxRecDepth 100000
theorem bS3_4 (a b : Int) (hc : w6 a = 3) : (eqI (Int.ofNat (w6 a)) 0) = false := by
  obtain ⟨x1, x2, x3, x4, x5, x6, x7, x8⟩ := k_facts b
  refine eq_n ?_
  show ¬ ((((w6 a) : Nat) : Int) = 0)
  omega
theorem bS3_6 (a b : Int) (hc : w6 a = 3) : (eqI (Int.ofNat (w6 a)) 1) = false := by
  obtain ⟨x1, x2, x3, x4, x5, x6, x7, x8⟩ := k_facts b
  refine eq_n ?_
  show ¬ ((((w6 a) : Nat) : Int) = 1)
  omega
theorem bS3_8 (a b : Int) (hc : w6 a = 3) : (eqI (Int.ofNat (w6 a)) 2) = false := by
  obtain ⟨x1, x2, x3, x4, x5, x6, x7, x8⟩ := k_facts b
  refine eq_n ?_
  show ¬ ((((w6 a) : Nat) : Int) = 2)
  omega
theorem bS3_10 (a b : Int) (hc : w6 a = 3) : (eqI (Int.ofNat (w6 a)) 3) = true := by
  obtain ⟨x1, x2, x3, x4, x5, x6, x7, x8⟩ := k_facts b
  refine eq_y ?_
  show (((w6 a) : Nat) : Int) = 3
  omega
theorem runS3 (a b : Int) : statE a b [(0, some false), (0, some false), (0, some false), (0, some true)] =
  some [(true, true), ((eqI (Int.ofNat (w6 a)) 3), true),
    ((eqI (Int.ofNat (w6 a)) 2), false),
    ((eqI (Int.ofNat (w6 a)) 1), false),
    ((eqI (Int.ofNat (w6 a)) 0), false)] := by kernel_rfl
theorem statS3 (a b : Int) (hc : w6 a = 3) (W : World) : Calls Tryz.prog 4 #[.int .i64 a, .int .i64 b] W fun x w' => x = .returned (.bool true) ∧ Go.RowKit.Below W.heap.size W w' :=
  callsO_true hP hmix tolds_TT (runS3 a b) (qcons rfl (qcons (bS3_10 a b hc) (qcons (bS3_8 a b hc) (qcons (bS3_6 a b hc) (qcons (bS3_4 a b hc) qnil))))) (.cons ((plain_int _ _).1 _) (.cons ((plain_int _ _).1 _) .nil)) W
end Go.Proofs.YtinlmdapgejdoaaGreat.sp
end
end

section
/- What is wrong is told: one way through (printed by wip/gen/asks2lean.py). -/
noncomputable section
namespace Go.Proofs.YtinlmdapgejdoaaGreat.sp
open AE
set_option linter.unusedSimpArgs false
set_option linter.unusedVariables false
set_option maxRecDepth 100000
theorem bS4_4 (a b : Int) (hc : w6 a = 4) : (eqI (Int.ofNat (w6 a)) 0) = false := by
  obtain ⟨x1, x2, x3, x4, x5, x6, x7, x8⟩ := k_facts b
  refine eq_n ?_
  show ¬ ((((w6 a) : Nat) : Int) = 0)
  omega
theorem bS4_6 (a b : Int) (hc : w6 a = 4) : (eqI (Int.ofNat (w6 a)) 1) = false := by
  obtain ⟨x1, x2, x3, x4, x5, x6, x7, x8⟩ := k_facts b
  refine eq_n ?_
  show ¬ ((((w6 a) : Nat) : Int) = 1)
  omega
theorem bS4_8 (a b : Int) (hc : w6 a = 4) : (eqI (Int.ofNat (w6 a)) 2) = false := by
  obtain ⟨x1, x2, x3, x4, x5, x6, x7, x8⟩ := k_facts b
  refine eq_n ?_
  show ¬ ((((w6 a) : Nat) : Int) = 2)
  omega
theorem bS4_10 (a b : Int) (hc : w6 a = 4) : (eqI (Int.ofNat (w6 a)) 3) = false := by
  obtain ⟨x1, x2, x3, x4, x5, x6, x7, x8⟩ := k_facts b
  refine eq_n ?_
  show ¬ ((((w6 a) : Nat) : Int) = 3)
  omega
theorem bS4_12 (a b : Int) (hc : w6 a = 4) : (eqI (Int.ofNat (w6 a)) 4) = true := by
  obtain ⟨x1, x2, x3, x4, x5, x6, x7, x8⟩ := k_facts b
  refine eq_y ?_
  show (((w6 a) : Nat) : Int) = 4
  omega
def nS4_18 (a b : Int) : Int := (Int.sub 9223372036854775807 (Int.ofNat (wk b)))
theorem eS4_18 (a b : Int) (hc : w6 a = 4) : nS4_18 a b = -((wk b : Nat) : Int) + 9223372036854775807 := by
  obtain ⟨x1, x2, x3, x4, x5, x6, x7, x8⟩ := k_facts b
  show (9223372036854775807 - (((wk b) : Nat) : Int)) = _
  omega
def nS4_19 (a b : Int) : Int := (wrapA .i64 (nS4_18 a b))
theorem eS4_19 (a b : Int) (hc : w6 a = 4) : nS4_19 a b = -((wk b : Nat) : Int) + 9223372036854775807 := by
  obtain ⟨x1, x2, x3, x4, x5, x6, x7, x8⟩ := k_facts b
  show (wrapA .i64 (nS4_18 a b)) = _
  rw [eS4_18 a b hc]
  exact wrapI (by omega) (by omega)
theorem bS4_21 (a b : Int) (hc : w6 a = 4) : (ltI (nS4_19 a b) (-9223372036854775807)) = false := by
  obtain ⟨x1, x2, x3, x4, x5, x6, x7, x8⟩ := k_facts b
  have h19 := eS4_19 a b hc
  refine lt_n ?_
  show ¬ ((nS4_19 a b) < (-9223372036854775807))
  omega
theorem bS4_22 (a b : Int) (hc : w6 a = 4) : (ltI 9223372036854775807 (nS4_19 a b)) = false := by
  obtain ⟨x1, x2, x3, x4, x5, x6, x7, x8⟩ := k_facts b
  have h19 := eS4_19 a b hc
  refine lt_n ?_
  show ¬ (9223372036854775807 < (nS4_19 a b))
  omega
def nS4_24 (a b : Int) : Int := (Int.sub 0 (Int.ofNat (wk b)))
theorem eS4_24 (a b : Int) (hc : w6 a = 4) : nS4_24 a b = -((wk b : Nat) : Int) := by
  obtain ⟨x1, x2, x3, x4, x5, x6, x7, x8⟩ := k_facts b
  show (0 - (((wk b) : Nat) : Int)) = _
  omega
def nS4_25 (a b : Int) : Int := (wrapA .i64 (nS4_24 a b))
theorem eS4_25 (a b : Int) (hc : w6 a = 4) : nS4_25 a b = -((wk b : Nat) : Int) := by
  obtain ⟨x1, x2, x3, x4, x5, x6, x7, x8⟩ := k_facts b
  show (wrapA .i64 (nS4_24 a b)) = _
  rw [eS4_24 a b hc]
  exact wrapI (by omega) (by omega)
theorem bS4_26 (a b : Int) (hc : w6 a = 4) : (ltI (nS4_25 a b) (-9223372036854775807)) = false := by
  obtain ⟨x1, x2, x3, x4, x5, x6, x7, x8⟩ := k_facts b
  have h25 := eS4_25 a b hc
  refine lt_n ?_
  show ¬ ((nS4_25 a b) < (-9223372036854775807))
  omega
theorem bS4_27 (a b : Int) (hc : w6 a = 4) : (ltI 9223372036854775807 (nS4_25 a b)) = false := by
  obtain ⟨x1, x2, x3, x4, x5, x6, x7, x8⟩ := k_facts b
  have h25 := eS4_25 a b hc
  refine lt_n ?_
  show ¬ (9223372036854775807 < (nS4_25 a b))
  omega
theorem bS4_28 (a b : Int) (hc : w6 a = 4) : (k3 (nS4_19 a b)) = false := by
  obtain ⟨x1, x2, x3, x4, x5, x6, x7, x8⟩ := k_facts b
  rw [eS4_19 a b hc]
  exact k3_ov b
theorem bS4_29 (a b : Int) (hc : w6 a = 4) : (k3 (nS4_25 a b)) = true := by
  obtain ⟨x1, x2, x3, x4, x5, x6, x7, x8⟩ := k_facts b
  rw [eS4_25 a b hc]
  exact k3_mK b
theorem runS4 (a b : Int) : statE a b [(0, some false), (0, some false), (0, some false), (0, some false), (0, some true), (397, some false), (7, some false), (77, some false), (7, some false), (714, some false), (23, some true)] =
  some [(true, true), ((k3 (nS4_25 a b)), true),
    ((k3 (nS4_19 a b)), false),
    ((ltI 9223372036854775807 (nS4_25 a b)), false),
    ((ltI (nS4_25 a b) (-9223372036854775807)), false),
    ((ltI 9223372036854775807 (nS4_19 a b)), false),
    ((ltI (nS4_19 a b) (-9223372036854775807)), false),
    ((eqI (Int.ofNat (w6 a)) 4), true),
    ((eqI (Int.ofNat (w6 a)) 3), false),
    ((eqI (Int.ofNat (w6 a)) 2), false),
    ((eqI (Int.ofNat (w6 a)) 1), false),
    ((eqI (Int.ofNat (w6 a)) 0), false)] := by kernel_rfl
theorem statS4 (a b : Int) (hc : w6 a = 4) (W : World) : Calls Tryz.prog 4 #[.int .i64 a, .int .i64 b] W fun x w' => x = .returned (.bool true) ∧ Go.RowKit.Below W.heap.size W w' :=
  callsO_true hP hmix tolds_TT (runS4 a b) (qcons rfl (qcons (bS4_29 a b hc) (qcons (bS4_28 a b hc) (qcons (bS4_27 a b hc) (qcons (bS4_26 a b hc) (qcons (bS4_22 a b hc) (qcons (bS4_21 a b hc) (qcons (bS4_12 a b hc) (qcons (bS4_10 a b hc) (qcons (bS4_8 a b hc) (qcons (bS4_6 a b hc) (qcons (bS4_4 a b hc) qnil)))))))))))) (.cons ((plain_int _ _).1 _) (.cons ((plain_int _ _).1 _) .nil)) W
end Go.Proofs.YtinlmdapgejdoaaGreat.sp
end
end

section
/- What is wrong is told: one way through (printed by wip/gen/asks2lean.py). -/
noncomputable section
namespace Go.Proofs.YtinlmdapgejdoaaGreat.sp
open AE
set_option linter.unusedSimpArgs false
set_option linter.unusedVariables false
set_option maxRecDepth 100000
theorem bS5_4 (a b : Int) (hc : w6 a = 5) : (eqI (Int.ofNat (w6 a)) 0) = false := by
  obtain ⟨x1, x2, x3, x4, x5, x6, x7, x8⟩ := k_facts b
  refine eq_n ?_
  show ¬ ((((w6 a) : Nat) : Int) = 0)
  omega
theorem bS5_6 (a b : Int) (hc : w6 a = 5) : (eqI (Int.ofNat (w6 a)) 1) = false := by
  obtain ⟨x1, x2, x3, x4, x5, x6, x7, x8⟩ := k_facts b
  refine eq_n ?_
  show ¬ ((((w6 a) : Nat) : Int) = 1)
  omega
theorem bS5_8 (a b : Int) (hc : w6 a = 5) : (eqI (Int.ofNat (w6 a)) 2) = false := by
  obtain ⟨x1, x2, x3, x4, x5, x6, x7, x8⟩ := k_facts b
  refine eq_n ?_
  show ¬ ((((w6 a) : Nat) : Int) = 2)
  omega
theorem bS5_10 (a b : Int) (hc : w6 a = 5) : (eqI (Int.ofNat (w6 a)) 3) = false := by
  obtain ⟨x1, x2, x3, x4, x5, x6, x7, x8⟩ := k_facts b
  refine eq_n ?_
  show ¬ ((((w6 a) : Nat) : Int) = 3)
  omega
theorem bS5_12 (a b : Int) (hc : w6 a = 5) : (eqI (Int.ofNat (w6 a)) 4) = false := by
  obtain ⟨x1, x2, x3, x4, x5, x6, x7, x8⟩ := k_facts b
  refine eq_n ?_
  show ¬ ((((w6 a) : Nat) : Int) = 4)
  omega
theorem bS5_14 (a b : Int) (hc : w6 a = 5) : (eqI (Int.ofNat (w6 a)) 5) = true := by
  obtain ⟨x1, x2, x3, x4, x5, x6, x7, x8⟩ := k_facts b
  refine eq_y ?_
  show (((w6 a) : Nat) : Int) = 5
  omega
theorem bS5_20 (a b : Int) (hc : w6 a = 5) : (ltI (Int.ofNat (wk b)) (-9223372036854775807)) = false := by
  obtain ⟨x1, x2, x3, x4, x5, x6, x7, x8⟩ := k_facts b
  refine lt_n ?_
  show ¬ ((((wk b) : Nat) : Int) < (-9223372036854775807))
  omega
theorem bS5_21 (a b : Int) (hc : w6 a = 5) : (ltI 9223372036854775807 (Int.ofNat (wk b))) = false := by
  obtain ⟨x1, x2, x3, x4, x5, x6, x7, x8⟩ := k_facts b
  refine lt_n ?_
  show ¬ (9223372036854775807 < (((wk b) : Nat) : Int))
  omega
def nS5_24 (a b : Int) : Int := (Int.sub 0 (Int.ofNat (wk b)))
theorem eS5_24 (a b : Int) (hc : w6 a = 5) : nS5_24 a b = -((wk b : Nat) : Int) := by
  obtain ⟨x1, x2, x3, x4, x5, x6, x7, x8⟩ := k_facts b
  show (0 - (((wk b) : Nat) : Int)) = _
  omega
def nS5_25 (a b : Int) : Int := (wrapA .i64 (nS5_24 a b))
theorem eS5_25 (a b : Int) (hc : w6 a = 5) : nS5_25 a b = -((wk b : Nat) : Int) := by
  obtain ⟨x1, x2, x3, x4, x5, x6, x7, x8⟩ := k_facts b
  show (wrapA .i64 (nS5_24 a b)) = _
  rw [eS5_24 a b hc]
  exact wrapI (by omega) (by omega)
def nS5_26 (a b : Int) : Int := (Int.sub (nS5_25 a b) 1)
theorem eS5_26 (a b : Int) (hc : w6 a = 5) : nS5_26 a b = -((wk b : Nat) : Int) - 1 := by
  obtain ⟨x1, x2, x3, x4, x5, x6, x7, x8⟩ := k_facts b
  have h25 := eS5_25 a b hc
  show ((nS5_25 a b) - 1) = _
  omega
def nS5_27 (a b : Int) : Int := (wrapA .i64 (nS5_26 a b))
theorem eS5_27 (a b : Int) (hc : w6 a = 5) : nS5_27 a b = -((wk b : Nat) : Int) - 1 := by
  obtain ⟨x1, x2, x3, x4, x5, x6, x7, x8⟩ := k_facts b
  show (wrapA .i64 (nS5_26 a b)) = _
  rw [eS5_26 a b hc]
  exact wrapI (by omega) (by omega)
theorem bS5_28 (a b : Int) (hc : w6 a = 5) : (ltI (nS5_27 a b) (-9223372036854775807)) = false := by
  obtain ⟨x1, x2, x3, x4, x5, x6, x7, x8⟩ := k_facts b
  have h27 := eS5_27 a b hc
  refine lt_n ?_
  show ¬ ((nS5_27 a b) < (-9223372036854775807))
  omega
theorem bS5_29 (a b : Int) (hc : w6 a = 5) : (ltI 9223372036854775807 (nS5_27 a b)) = false := by
  obtain ⟨x1, x2, x3, x4, x5, x6, x7, x8⟩ := k_facts b
  have h27 := eS5_27 a b hc
  refine lt_n ?_
  show ¬ (9223372036854775807 < (nS5_27 a b))
  omega
theorem bS5_30 (a b : Int) (hc : w6 a = 5) : (k3 (Int.ofNat (wk b))) = true := by
  obtain ⟨x1, x2, x3, x4, x5, x6, x7, x8⟩ := k_facts b
  exact k3_K b
theorem bS5_31 (a b : Int) (hc : w6 a = 5) : (k3 (nS5_27 a b)) = true := by
  obtain ⟨x1, x2, x3, x4, x5, x6, x7, x8⟩ := k_facts b
  rw [eS5_27 a b hc]
  exact k3_mK1 b
theorem bS5_32 (a b : Int) (hc : w6 a = 5) : (inI (Int.ofNat (wk b))) = true := by
  obtain ⟨x1, x2, x3, x4, x5, x6, x7, x8⟩ := k_facts b
  exact in_of (by show _ ≤ (((wk b) : Nat) : Int); omega) (by show (((wk b) : Nat) : Int) < _; omega)
theorem bS5_36 (a b : Int) (hc : w6 a = 5) : (gAdd 0 0 (hiZ (Int.ofNat (wk b))) (loZ (Int.ofNat (wk b)))) = true := by
  obtain ⟨x1, x2, x3, x4, x5, x6, x7, x8⟩ := k_facts b
  exact gAdd_0 (by show _ ≤ (((wk b) : Nat) : Int); omega) (by show (((wk b) : Nat) : Int) < _; omega)
def nS5_37 (a b : Int) : Int := (s3 (Int.ofNat (wk b)))
theorem eS5_37 (a b : Int) (hc : w6 a = 5) : nS5_37 a b = ((kS b : Nat) : Int) := by
  obtain ⟨x1, x2, x3, x4, x5, x6, x7, x8⟩ := k_facts b
  show (s3 (((wk b) : Nat) : Int)) = _
  exact s3_K b
theorem bS5_38 (a b : Int) (hc : w6 a = 5) : (inI (nS5_37 a b)) = true := by
  obtain ⟨x1, x2, x3, x4, x5, x6, x7, x8⟩ := k_facts b
  have h37 := eS5_37 a b hc
  exact in_of (by show _ ≤ (nS5_37 a b); omega) (by show (nS5_37 a b) < _; omega)
theorem bS5_41 (a b : Int) (hc : w6 a = 5) : (gAdd 0 0 (hiZ (nS5_37 a b)) (loZ (nS5_37 a b))) = true := by
  obtain ⟨x1, x2, x3, x4, x5, x6, x7, x8⟩ := k_facts b
  have h37 := eS5_37 a b hc
  exact gAdd_0 (by show _ ≤ (nS5_37 a b); omega) (by show (nS5_37 a b) < _; omega)
theorem bS5_42 (a b : Int) (hc : w6 a = 5) : (inI (nS5_27 a b)) = true := by
  obtain ⟨x1, x2, x3, x4, x5, x6, x7, x8⟩ := k_facts b
  have h27 := eS5_27 a b hc
  exact in_of (by show _ ≤ (nS5_27 a b); omega) (by show (nS5_27 a b) < _; omega)
def nS5_43 (a b : Int) : Int := (valW 0 0)
theorem eS5_43 (a b : Int) (hc : w6 a = 5) : nS5_43 a b = 0 := by
  obtain ⟨x1, x2, x3, x4, x5, x6, x7, x8⟩ := k_facts b
  rfl
def nS5_44 (a b : Int) : Int := (valW (hiZ (Int.ofNat (wk b))) (loZ (Int.ofNat (wk b))))
theorem eS5_44 (a b : Int) (hc : w6 a = 5) : nS5_44 a b = ((wk b : Nat) : Int) := by
  obtain ⟨x1, x2, x3, x4, x5, x6, x7, x8⟩ := k_facts b
  exact val_wz _
def nS5_45 (a b : Int) : Int := ((nS5_43 a b) + (nS5_44 a b))
theorem eS5_45 (a b : Int) (hc : w6 a = 5) : nS5_45 a b = ((wk b : Nat) : Int) := by
  obtain ⟨x1, x2, x3, x4, x5, x6, x7, x8⟩ := k_facts b
  have h43 := eS5_43 a b hc
  have h44 := eS5_44 a b hc
  show ((nS5_43 a b) + (nS5_44 a b)) = _
  omega
theorem bS5_50 (a b : Int) (hc : w6 a = 5) : (gAdd (hiZ (nS5_45 a b)) (loZ (nS5_45 a b)) (hiZ (nS5_27 a b)) (loZ (nS5_27 a b))) = true := by
  obtain ⟨x1, x2, x3, x4, x5, x6, x7, x8⟩ := k_facts b
  have h27 := eS5_27 a b hc
  have h45 := eS5_45 a b hc
  exact gAdd_of (by show _ ≤ (nS5_45 a b); omega) (by show (nS5_45 a b) < _; omega) (by show _ ≤ (nS5_27 a b); omega) (by show (nS5_27 a b) < _; omega)
def nS5_51 (a b : Int) : Int := (s3 (nS5_27 a b))
theorem eS5_51 (a b : Int) (hc : w6 a = 5) : nS5_51 a b = -((kU b : Nat) : Int) := by
  obtain ⟨x1, x2, x3, x4, x5, x6, x7, x8⟩ := k_facts b
  show (s3 (nS5_27 a b)) = _
  rw [eS5_27 a b hc]
  exact s3_mK1 b
theorem bS5_52 (a b : Int) (hc : w6 a = 5) : (inI (nS5_51 a b)) = true := by
  obtain ⟨x1, x2, x3, x4, x5, x6, x7, x8⟩ := k_facts b
  have h51 := eS5_51 a b hc
  exact in_of (by show _ ≤ (nS5_51 a b); omega) (by show (nS5_51 a b) < _; omega)
def nS5_53 (a b : Int) : Int := (valW (hiZ (nS5_37 a b)) (loZ (nS5_37 a b)))
theorem eS5_53 (a b : Int) (hc : w6 a = 5) : nS5_53 a b = ((kS b : Nat) : Int) := by
  obtain ⟨x1, x2, x3, x4, x5, x6, x7, x8⟩ := k_facts b
  exact (val_wz _).trans (eS5_37 a b hc)
def nS5_54 (a b : Int) : Int := ((nS5_43 a b) + (nS5_53 a b))
theorem eS5_54 (a b : Int) (hc : w6 a = 5) : nS5_54 a b = ((kS b : Nat) : Int) := by
  obtain ⟨x1, x2, x3, x4, x5, x6, x7, x8⟩ := k_facts b
  have h43 := eS5_43 a b hc
  have h53 := eS5_53 a b hc
  show ((nS5_43 a b) + (nS5_53 a b)) = _
  omega
theorem bS5_59 (a b : Int) (hc : w6 a = 5) : (gAdd (hiZ (nS5_54 a b)) (loZ (nS5_54 a b)) (hiZ (nS5_51 a b)) (loZ (nS5_51 a b))) = true := by
  obtain ⟨x1, x2, x3, x4, x5, x6, x7, x8⟩ := k_facts b
  have h51 := eS5_51 a b hc
  have h54 := eS5_54 a b hc
  exact gAdd_of (by show _ ≤ (nS5_54 a b); omega) (by show (nS5_54 a b) < _; omega) (by show _ ≤ (nS5_51 a b); omega) (by show (nS5_51 a b) < _; omega)
def nS5_62 (a b : Int) : Int := (valW (hiZ (nS5_45 a b)) (loZ (nS5_45 a b)))
theorem eS5_62 (a b : Int) (hc : w6 a = 5) : nS5_62 a b = ((wk b : Nat) : Int) := by
  obtain ⟨x1, x2, x3, x4, x5, x6, x7, x8⟩ := k_facts b
  exact (val_wz _).trans (eS5_45 a b hc)
def nS5_63 (a b : Int) : Int := (valW (hiZ (nS5_27 a b)) (loZ (nS5_27 a b)))
theorem eS5_63 (a b : Int) (hc : w6 a = 5) : nS5_63 a b = -((wk b : Nat) : Int) - 1 := by
  obtain ⟨x1, x2, x3, x4, x5, x6, x7, x8⟩ := k_facts b
  exact (val_wz _).trans (eS5_27 a b hc)
def nS5_64 (a b : Int) : Int := ((nS5_62 a b) + (nS5_63 a b))
theorem eS5_64 (a b : Int) (hc : w6 a = 5) : nS5_64 a b = -1 := by
  obtain ⟨x1, x2, x3, x4, x5, x6, x7, x8⟩ := k_facts b
  have h62 := eS5_62 a b hc
  have h63 := eS5_63 a b hc
  show ((nS5_62 a b) + (nS5_63 a b)) = _
  omega
theorem bS5_87 (a b : Int) (hc : w6 a = 5) : (eq0 (nS5_64 a b)).isSome = true := by
  rw [eq0_is]
  rfl
theorem bS5_89 (a b : Int) (hc : w6 a = 5) : (eqB false (eq0 (nS5_64 a b))) = true := by
  obtain ⟨x1, x2, x3, x4, x5, x6, x7, x8⟩ := k_facts b
  have h64 := eS5_64 a b hc
  rw [eq0_is, decide_eq_false (by omega)]
  rfl
theorem runS5 (a b : Int) : statE a b [(0, some false), (0, some false), (0, some false), (0, some false), (0, some false), (0, some true), (397, some false), (7, some false), (77, some false), (7, some false), (714, some true), (23, some true), (107, some true), (0, some true), (6, some true), (0, some true), (28, some true), (0, some true), (6, some true), (0, some true), (3, some true), (0, some true)] =
  some [(true, true), ((eqB false (eq0 (nS5_64 a b))), true),
    ((eq0 (nS5_64 a b)).isSome, true),
    ((gAdd (hiZ (nS5_54 a b)) (loZ (nS5_54 a b)) (hiZ (nS5_51 a b)) (loZ (nS5_51 a b))), true),
    ((inI (nS5_51 a b)), true),
    ((gAdd (hiZ (nS5_45 a b)) (loZ (nS5_45 a b)) (hiZ (nS5_27 a b)) (loZ (nS5_27 a b))), true),
    ((inI (nS5_27 a b)), true),
    ((gAdd 0 0 (hiZ (nS5_37 a b)) (loZ (nS5_37 a b))), true),
    ((inI (nS5_37 a b)), true),
    ((gAdd 0 0 (hiZ (Int.ofNat (wk b))) (loZ (Int.ofNat (wk b)))), true),
    ((inI (Int.ofNat (wk b))), true),
    ((k3 (nS5_27 a b)), true),
    ((k3 (Int.ofNat (wk b))), true),
    ((ltI 9223372036854775807 (nS5_27 a b)), false),
    ((ltI (nS5_27 a b) (-9223372036854775807)), false),
    ((ltI 9223372036854775807 (Int.ofNat (wk b))), false),
    ((ltI (Int.ofNat (wk b)) (-9223372036854775807)), false),
    ((eqI (Int.ofNat (w6 a)) 5), true),
    ((eqI (Int.ofNat (w6 a)) 4), false),
    ((eqI (Int.ofNat (w6 a)) 3), false),
    ((eqI (Int.ofNat (w6 a)) 2), false),
    ((eqI (Int.ofNat (w6 a)) 1), false),
    ((eqI (Int.ofNat (w6 a)) 0), false)] := by kernel_rfl
theorem statS5 (a b : Int) (hc : w6 a = 5) (W : World) : Calls Tryz.prog 4 #[.int .i64 a, .int .i64 b] W fun x w' => x = .returned (.bool true) ∧ Go.RowKit.Below W.heap.size W w' :=
  callsO_true hP hmix tolds_TT (runS5 a b) (qcons rfl (qcons (bS5_89 a b hc) (qcons (bS5_87 a b hc) (qcons (bS5_59 a b hc) (qcons (bS5_52 a b hc) (qcons (bS5_50 a b hc) (qcons (bS5_42 a b hc) (qcons (bS5_41 a b hc) (qcons (bS5_38 a b hc) (qcons (bS5_36 a b hc) (qcons (bS5_32 a b hc) (qcons (bS5_31 a b hc) (qcons (bS5_30 a b hc) (qcons (bS5_29 a b hc) (qcons (bS5_28 a b hc) (qcons (bS5_21 a b hc) (qcons (bS5_20 a b hc) (qcons (bS5_14 a b hc) (qcons (bS5_12 a b hc) (qcons (bS5_10 a b hc) (qcons (bS5_8 a b hc) (qcons (bS5_6 a b hc) (qcons (bS5_4 a b hc) qnil))))))))))))))))))))))) (.cons ((plain_int _ _).1 _) (.cons ((plain_int _ _).1 _) .nil)) W
end Go.Proofs.YtinlmdapgejdoaaGreat.sp
end
end
