/- Rules for walks, in a seat of its own: numbers, names, a number within bounds. -/
import Derived.Test.YteaoeloobbmdaaaRows
import Derived.Test.YteaoeloobbmdaaaAe36
noncomputable section
namespace Go.Proofs.Yteaoeloobbmdaaa.lf
open AE
set_option linter.unusedSimpArgs false
set_option linter.unusedVariables false
set_option maxRecDepth 10000

noncomputable def E : Env := Env.of Try.prog
theorem hP : lawful Try.prog = true := by kernel_rfl
theorem hmix : Try.prog.follows .mixedOrders = true := Checked.mixed Try.checked
theorem hE : EnvOK Try.prog E := env_ok hP

theorem seen_heap (s : S) (n : Nat) : (s.seen n).heap = s.heap := rfl
theorem seen_next (s : S) (n : Nat) : (s.seen n).next = s.next := rfl
theorem seen_mark (s : S) (n : Nat) : (s.seen n).mark = s.mark := rfl
theorem agg_cells (cs : List Value) : (Value.agg ⟨cs⟩).cells.toList = cs := rfl
theorem int_cells (k : IntKind) (n : Int) : (Value.int k n).cells.toList = [.int k n] := rfl
theorem b_geq {E t} (x y : Int) : binA E .geq t (.int .i64 x) (.int .i64 y) = some (.bool (not (ltI x y))) := rfl
theorem b_leq {E t} (x y : Int) : binA E .leq t (.int .i64 x) (.int .i64 y) = some (.bool (not (ltI y x))) := rfl
theorem b_gtr {E t} (x y : Int) : binA E .gtr t (.int .i64 x) (.int .i64 y) = some (.bool (ltI y x)) := rfl
theorem b_add {E t} (x y : Int) : binA E .add t (.int .i64 x) (.int .i64 y) = some (.int .i64 (wrapA .i64 (Int.add x y))) := rfl
theorem b_sub {E t} (x y : Int) : binA E .sub t (.int .i64 x) (.int .i64 y) = some (.int .i64 (wrapA .i64 (Int.sub x y))) := rfl
theorem b_eql {E t} (x y : Int) : binA E .eql t (.int .i64 x) (.int .i64 y) = some (.bool (eqI x y)) := rfl
theorem u_not (b : Bool) : unA .not (.bool b) = some (.bool (not b)) := rfl
theorem int0 : (0 : Int) = Int.ofNat 0 := rfl
theorem int1 : (1 : Int) = Int.ofNat 1 := rfl
theorem clash_nil (rd wr b : Nat) : clash rd wr b [] = false := rfl
theorem keep_none (i : Nat) (seen : List (Nat × Nat × Nat)) : keepLog i 0 0 seen = seen := rfl
theorem tgt {f : FuncId} {fi : FI} {c : Code} (hf : E.fn.get f = some fi) (hb : fi.body = some c) : ∀ a b, targetA E (.func f) a b = .pure (.enter f (b ++ a)) := by
  intro a b
  simp only [targetA, hf, opt, hb]
theorem b_incr {n : Nat} (h : n < 9223372036854775807) : ∀ E t, binA E .add t (.int .i64 (.ofNat n)) (.int .i64 (.ofNat 1)) = some (.int .i64 (.ofNat (n + 1))) := fun E t => b_inc h
theorem hg_same {α : Type} {n : Nat} (h : Nat.ble n lastName = true) (t : Tr α) (x : Option α) : (t.put n x).get n = x := by
  have := ble_iff.1 h
  rw [Tr.get_put _ _ _ _ (by unfold lastName at this; unfold Tr.wide; omega), if_pos rfl]
theorem hg_far {α : Type} {n m : Nat} (h : Nat.ble n lastName = true) (hne : m ≠ n) (t : Tr α) (x : Option α) : (t.put n x).get m = t.get m := by
  have := ble_iff.1 h
  rw [Tr.get_put _ _ _ _ (by unfold lastName at this; unfold Tr.wide; omega), if_neg hne]
theorem wrap_small {x : Int} (h1 : -9223372036854775808 ≤ x) (h2 : x < 9223372036854775808) : wrapA .i64 x = x := by
  show wrapS 18446744073709551616 9223372036854775808 x = x
  rw [wrapS_eq _ _ (by decide) (by decide)]
  split <;> omega
def wn (n : Int) (hi : Nat) : Nat := (n % ((hi : Int) + 1)).toNat
theorem wn_le (n : Int) (hi : Nat) : wn n hi ≤ hi := by
  unfold wn
  have h1 := Int.emod_nonneg n (show (hi : Int) + 1 ≠ 0 by omega)
  have h2 := Int.emod_lt_of_pos n (show (0 : Int) < (hi : Int) + 1 by omega)
  omega
theorem tmod_wn (n : Int) (hi : Nat) : (Int.tmod n (Int.ofNat (hi + 1)) < 0 ∧ Int.tmod n (Int.ofNat (hi + 1)) + hi + 1 = wn n hi ∧ 1 ≤ wn n hi) ∨ (0 ≤ Int.tmod n (Int.ofNat (hi + 1)) ∧ Int.tmod n (Int.ofNat (hi + 1)) = wn n hi) := by
  have hpos : (0 : Int) < (hi : Int) + 1 := by omega
  have e : Int.ofNat (hi + 1) = (hi : Int) + 1 := by simp
  have h1 := Int.emod_nonneg n (show (hi : Int) + 1 ≠ 0 by omega)
  have h2 := Int.emod_lt_of_pos n hpos
  have hw : (wn n hi : Int) = n % ((hi : Int) + 1) := by unfold wn; omega
  rw [e, hw]
  have h3 := Int.tmod_eq_emod (a := n) (b := (hi : Int) + 1)
  rw [h3]
  split
  · right; constructor <;> omega
  · left
    rename_i hc
    have hne : n % ((hi : Int) + 1) ≠ 0 := fun h => hc (.inr (Int.dvd_of_emod_eq_zero h))
    omega
theorem tmod_bound (n : Int) (hi : Nat) : -(hi : Int) ≤ Int.tmod n (Int.ofNat (hi + 1)) ∧ Int.tmod n (Int.ofNat (hi + 1)) ≤ hi := by
  have := wn_le n hi
  rcases tmod_wn n hi with ⟨h1, h2, h3⟩ | ⟨h1, h2⟩ <;> omega
def withinBA : List Value → AM Value
  | [.int .i64 n, .int .i64 (.ofNat 0), .int .i64 (.ofNat hi)] => when (Nat.ble hi 1000000) (.pure (.int .i64 (.ofNat (wn n hi))))
  | _ => .fail
theorem withinBA_run (n : Int) (hi : Nat) (h : hi ≤ 1000000) (s : S) : (withinBA [.int .i64 n, .int .i64 (.ofNat 0), .int .i64 (.ofNat hi)]).run s = some (.int .i64 (.ofNat (wn n hi)), s) := by
  show (when (Nat.ble hi 1000000) (.pure (Value.int .i64 (.ofNat (wn n hi))))).run s = _
  rw [ble_iff.2 h]
  rfl
theorem b_addI (a b : Int) (h1 : -9223372036854775808 ≤ a + b) (h2 : a + b < 9223372036854775808) : ∀ E t, binA E .add t (.int .i64 a) (.int .i64 b) = some (.int .i64 (a + b)) := by
  intro E t
  show some (Value.int .i64 (wrapA .i64 (a + b))) = _
  rw [wrap_small h1 h2]
theorem u_negI (a : Int) (h1 : -9223372036854775808 ≤ -a) (h2 : -a < 9223372036854775808) : unA .neg (.int .i64 a) = some (.int .i64 (-a)) := by
  show some (Value.int .i64 (wrapA .i64 (0 - a))) = _
  rw [show (0 : Int) - a = -a by omega, wrap_small h1 h2]
theorem eqI_lit (a b : Nat) : eqI (Int.ofNat a) (Int.ofNat b) = decide (a = b) := beq_dec a b
theorem b_plus {a b : Nat} (h : a + b < 9223372036854775808) : ∀ E t, binA E .add t (.int .i64 (.ofNat a)) (.int .i64 (.ofNat b)) = some (.int .i64 (.ofNat (a + b))) := by
  intro E t
  show some (Value.int .i64 (wrapA .i64 (.ofNat (a + b)))) = _
  rw [wrap64 h]
noncomputable def fiWB : FI := FI.of Try.f4
noncomputable def cdWB : Code := bodyOf Try.f4
theorem resWB : fiWB.results = [.tmp 6] := rfl
theorem told_withinB : AE.Told Try.prog 4 withinBA := by
  refine told_go hE hmix tolds_nil ?_
  intro args s v s' h hm
  unfold withinBA at h
  split at h
  · rename_i n hi
    obtain ⟨hb, h2⟩ := run_when h
    cases h2
    have hb := ble_iff.1 hb
    refine go_enter (fi := fiWB) (c := cdWB) (by kernel_rfl) (by kernel_rfl) 24 rfl rfl ?_
    have h0 : (Tr.ofList [Value.int .i64 n, .int .i64 (.ofNat 0), .int .i64 (.ofNat hi)]).get 0 = some (.int .i64 n) := rfl
    have h1 : (Tr.ofList [Value.int .i64 n, .int .i64 (.ofNat 0), .int .i64 (.ofNat hi)]).get 1 = some (.int .i64 (.ofNat 0)) := rfl
    have h2 : (Tr.ofList [Value.int .i64 n, .int .i64 (.ofNat 0), .int .i64 (.ofNat hi)]).get 2 = some (.int .i64 (.ofNat hi)) := rfl
    generalize Tr.ofList [Value.int .i64 n, .int .i64 (.ofNat 0), .int .i64 (.ofNat hi)] = t at *
    simp only [cdWB, Try.f4, bodyOf]
    have a1 : ∀ E t, binA E .sub t (.int .i64 (.ofNat hi)) (.int .i64 (.ofNat 0)) = some (.int .i64 (.ofNat hi)) := by
      intro E t
      show some (Value.int .i64 (wrapA .i64 ((hi : Int) - 0))) = _
      rw [wrap_small (by omega) (by omega), Int.sub_zero]; rfl
    have a2 := b_plus (a := hi) (b := 1) (by omega)
    have a3 : ∀ E t, binA E .rem t (.int .i64 n) (.int .i64 (.ofNat (hi + 1))) = some (.int .i64 (Int.tmod n (.ofNat (hi + 1)))) := fun E t => rfl
    have hbd := tmod_bound n hi
    have htm := tmod_wn n hi
    generalize Int.tmod n (Int.ofNat (hi + 1)) = m at *
    repeat apply go_seq
    apply go_region
    case h => intro m; simp (maxSteps := 2000000) (disch := decide) only [opsLoop, evOper, wantedA, nth, aop, aPick, aBin, aIndexAddr, aFieldAddr, aLoad, aStore, aExtract, aConvert, aAlloc, aBox, aIndex, callA, builtinA, Fr.evs, opt, val, when, AM.run, outV, newA, ptr, force_eq, seen_heap, seen_next, seen_mark, seen_seen, agg_cells, int_cells, Fr.ev, Fr.put, onFr, gps, gpn, bltT, still, flat, List.append_nil, List.nil_append, List.cons_append, Nat.reduceEqDiff, ne_eq, not_false_eq_true, reduceCtorEq, Bool.and_true, Bool.true_and, Bool.and_false, Bool.false_and, Bool.not_true, Bool.not_false, Bool.and_self]; rfl
    repeat apply go_seq
    apply go_region
    case h => intro m; simp (maxSteps := 2000000) (disch := decide) only [opsLoop, evOper, wantedA, nth, aop, aPick, aBin, aIndexAddr, aFieldAddr, aLoad, aStore, aExtract, aConvert, aAlloc, aBox, aIndex, callA, builtinA, Fr.evs, opt, val, when, AM.run, outV, newA, ptr, force_eq, seen_heap, seen_next, seen_mark, seen_seen, agg_cells, int_cells, Fr.ev, Fr.put, onFr, gps, gpn, bltT, still, flat, List.append_nil, List.nil_append, List.cons_append, Nat.reduceEqDiff, ne_eq, not_false_eq_true, reduceCtorEq, Bool.and_true, Bool.true_and, Bool.and_false, Bool.false_and, Bool.not_true, Bool.not_false, Bool.and_self, h0, h1, h2, a1, int1, a2, a3]; rfl
    rcases htm with ⟨q1, q2, _⟩ | ⟨q1, q2⟩
    · have hlt : ltI m (Int.ofNat 0) = true := by rw [ltI_eq]; simp; omega
      have a4 : ∀ E t, binA E .add t (.int .i64 m) (.int .i64 (.ofNat hi)) = some (.int .i64 (m + hi)) := by
        intro E t
        show some (Value.int .i64 (wrapA .i64 (m + hi))) = _
        rw [wrap_small (by omega) (by omega)]
      have a5 : ∀ E t, binA E .sub t (.int .i64 (m + hi)) (.int .i64 (.ofNat 0)) = some (.int .i64 (m + hi)) := by
        intro E t
        show some (Value.int .i64 (wrapA .i64 (m + hi - 0))) = _
        rw [wrap_small (by omega) (by omega), Int.sub_zero]
      have a6 : ∀ E t, binA E .add t (.int .i64 (m + hi)) (.int .i64 (.ofNat 1)) = some (.int .i64 (.ofNat (wn n hi))) := by
        intro E t
        show some (Value.int .i64 (wrapA .i64 (m + hi + 1))) = _
        rw [wrap_small (by omega) (by omega), q2]; rfl
      have hw := wn_le n hi
      have a7 := b_plus (a := 0) (b := wn n hi) (by omega)
      rw [Nat.zero_add] at a7
      repeat apply go_seq
      apply go_region
      case h => intro m; simp (maxSteps := 2000000) (disch := decide) only [opsLoop, evOper, wantedA, nth, aop, aPick, aBin, aIndexAddr, aFieldAddr, aLoad, aStore, aExtract, aConvert, aAlloc, aBox, aIndex, callA, builtinA, Fr.evs, opt, val, when, AM.run, outV, newA, ptr, force_eq, seen_heap, seen_next, seen_mark, seen_seen, agg_cells, int_cells, Fr.ev, Fr.put, onFr, gps, gpn, bltT, still, flat, List.append_nil, List.nil_append, List.cons_append, Nat.reduceEqDiff, ne_eq, not_false_eq_true, reduceCtorEq, Bool.and_true, Bool.true_and, Bool.and_false, Bool.false_and, Bool.not_true, Bool.not_false, Bool.and_self, b_lss, int0, hlt]; rfl
      repeat apply go_seq
      apply go_cond
      case hc => simp (disch := decide) only [opsLoop, evOper, wantedA, nth, aop, aPick, aBin, aIndexAddr, aFieldAddr, aLoad, aStore, aExtract, aConvert, aAlloc, aBox, aIndex, callA, builtinA, Fr.evs, opt, val, when, AM.run, outV, newA, ptr, force_eq, seen_heap, seen_next, seen_mark, seen_seen, agg_cells, int_cells, Fr.ev, Fr.put, onFr, gps, gpn, bltT, still, flat, List.append_nil, List.nil_append, List.cons_append, Nat.reduceEqDiff, ne_eq, not_false_eq_true, reduceCtorEq, Bool.and_true, Bool.true_and, Bool.and_false, Bool.false_and, Bool.not_true, Bool.not_false, Bool.and_self]; rfl
      case h2 => intro h; cases h
      intro _
      repeat apply go_seq
      apply go_region
      case h => intro m; simp (maxSteps := 2000000) (disch := decide) only [opsLoop, evOper, wantedA, nth, aop, aPick, aBin, aIndexAddr, aFieldAddr, aLoad, aStore, aExtract, aConvert, aAlloc, aBox, aIndex, callA, builtinA, Fr.evs, opt, val, when, AM.run, outV, newA, ptr, force_eq, seen_heap, seen_next, seen_mark, seen_seen, agg_cells, int_cells, Fr.ev, Fr.put, onFr, gps, gpn, bltT, still, flat, List.append_nil, List.nil_append, List.cons_append, Nat.reduceEqDiff, ne_eq, not_false_eq_true, reduceCtorEq, Bool.and_true, Bool.true_and, Bool.and_false, Bool.false_and, Bool.not_true, Bool.not_false, Bool.and_self, h1, h2, a4, a5, int1, a6]; rfl
      repeat apply go_seq
      apply go_region
      case h => intro m; simp (maxSteps := 2000000) (disch := decide) only [opsLoop, evOper, wantedA, nth, aop, aPick, aBin, aIndexAddr, aFieldAddr, aLoad, aStore, aExtract, aConvert, aAlloc, aBox, aIndex, callA, builtinA, Fr.evs, opt, val, when, AM.run, outV, newA, ptr, force_eq, seen_heap, seen_next, seen_mark, seen_seen, agg_cells, int_cells, Fr.ev, Fr.put, onFr, gps, gpn, bltT, still, flat, List.append_nil, List.nil_append, List.cons_append, Nat.reduceEqDiff, ne_eq, not_false_eq_true, reduceCtorEq, Bool.and_true, Bool.true_and, Bool.and_false, Bool.false_and, Bool.not_true, Bool.not_false, Bool.and_self, h1, a7]; rfl
      repeat apply go_seq
      apply go_ret
      apply ret_intro rfl rfl
      case run => simp (disch := decide) only [resultsM, resultsA, resWB, opsLoop, evOper, wantedA, nth, aop, aPick, aBin, aIndexAddr, aFieldAddr, aLoad, aStore, aExtract, aConvert, aAlloc, aBox, aIndex, callA, builtinA, Fr.evs, opt, val, when, AM.run, outV, newA, ptr, force_eq, seen_heap, seen_next, seen_mark, seen_seen, agg_cells, int_cells, Fr.ev, Fr.put, onFr, gps, gpn, bltT, still, flat, List.append_nil, List.nil_append, List.cons_append, Nat.reduceEqDiff, ne_eq, not_false_eq_true, reduceCtorEq, Bool.and_true, Bool.true_and, Bool.and_false, Bool.false_and, Bool.not_true, Bool.not_false, Bool.and_self]; rfl
      exact ⟨rfl, Less'.refl _⟩
    · have hlt : ltI m (Int.ofNat 0) = false := by rw [ltI_eq]; simp; omega
      have hw := wn_le n hi
      have a7 : ∀ E t, binA E .add t (.int .i64 (.ofNat 0)) (.int .i64 m) = some (.int .i64 (.ofNat (wn n hi))) := by
        intro E t
        show some (Value.int .i64 (wrapA .i64 (0 + m))) = _
        rw [wrap_small (by omega) (by omega), Int.zero_add, q2]; rfl
      repeat apply go_seq
      apply go_region
      case h => intro m; simp (maxSteps := 2000000) (disch := decide) only [opsLoop, evOper, wantedA, nth, aop, aPick, aBin, aIndexAddr, aFieldAddr, aLoad, aStore, aExtract, aConvert, aAlloc, aBox, aIndex, callA, builtinA, Fr.evs, opt, val, when, AM.run, outV, newA, ptr, force_eq, seen_heap, seen_next, seen_mark, seen_seen, agg_cells, int_cells, Fr.ev, Fr.put, onFr, gps, gpn, bltT, still, flat, List.append_nil, List.nil_append, List.cons_append, Nat.reduceEqDiff, ne_eq, not_false_eq_true, reduceCtorEq, Bool.and_true, Bool.true_and, Bool.and_false, Bool.false_and, Bool.not_true, Bool.not_false, Bool.and_self, b_lss, int0, hlt]; rfl
      repeat apply go_seq
      apply go_cond
      case hc => simp (disch := decide) only [opsLoop, evOper, wantedA, nth, aop, aPick, aBin, aIndexAddr, aFieldAddr, aLoad, aStore, aExtract, aConvert, aAlloc, aBox, aIndex, callA, builtinA, Fr.evs, opt, val, when, AM.run, outV, newA, ptr, force_eq, seen_heap, seen_next, seen_mark, seen_seen, agg_cells, int_cells, Fr.ev, Fr.put, onFr, gps, gpn, bltT, still, flat, List.append_nil, List.nil_append, List.cons_append, Nat.reduceEqDiff, ne_eq, not_false_eq_true, reduceCtorEq, Bool.and_true, Bool.true_and, Bool.and_false, Bool.false_and, Bool.not_true, Bool.not_false, Bool.and_self]; rfl
      case h1 => intro h; cases h
      intro _
      apply go_skip
      repeat apply go_seq
      apply go_region
      case h => intro m; simp (maxSteps := 2000000) (disch := decide) only [opsLoop, evOper, wantedA, nth, aop, aPick, aBin, aIndexAddr, aFieldAddr, aLoad, aStore, aExtract, aConvert, aAlloc, aBox, aIndex, callA, builtinA, Fr.evs, opt, val, when, AM.run, outV, newA, ptr, force_eq, seen_heap, seen_next, seen_mark, seen_seen, agg_cells, int_cells, Fr.ev, Fr.put, onFr, gps, gpn, bltT, still, flat, List.append_nil, List.nil_append, List.cons_append, Nat.reduceEqDiff, ne_eq, not_false_eq_true, reduceCtorEq, Bool.and_true, Bool.true_and, Bool.and_false, Bool.false_and, Bool.not_true, Bool.not_false, Bool.and_self, h1, a7]; rfl
      repeat apply go_seq
      apply go_ret
      apply ret_intro rfl rfl
      case run => simp (disch := decide) only [resultsM, resultsA, resWB, opsLoop, evOper, wantedA, nth, aop, aPick, aBin, aIndexAddr, aFieldAddr, aLoad, aStore, aExtract, aConvert, aAlloc, aBox, aIndex, callA, builtinA, Fr.evs, opt, val, when, AM.run, outV, newA, ptr, force_eq, seen_heap, seen_next, seen_mark, seen_seen, agg_cells, int_cells, Fr.ev, Fr.put, onFr, gps, gpn, bltT, still, flat, List.append_nil, List.nil_append, List.cons_append, Nat.reduceEqDiff, ne_eq, not_false_eq_true, reduceCtorEq, Bool.and_true, Bool.true_and, Bool.and_false, Bool.false_and, Bool.not_true, Bool.not_false, Bool.and_self]; rfl
      exact ⟨rfl, Less'.refl _⟩
  · cases h

theorem tgWB : ∀ a b, targetA E (.func 4) a b = .pure (.enter 4 (b ++ a)) := tgt (fi := fiWB) (c := cdWB) (by kernel_rfl) (by kernel_rfl)
end Go.Proofs.Yteaoeloobbmdaaa.lf
