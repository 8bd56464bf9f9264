/- Leaves: a number brought within bounds; what is put into a block is had out of it; leaves that are the same. -/
import Derived.Test.YtioieffmihdheaaDoorLf12
noncomputable section
namespace Go.Proofs.YtioieffmihdheaaDoor.lf
open AE
set_option linter.unusedSimpArgs false
set_option linter.unusedVariables false
set_option maxRecDepth 10000

theorem wrap_small {x : Int} (h1 : -9223372036854775808 ≤ x) (h2 : x < 9223372036854775808) : wrapA .i64 x = x := by
  show wrapS 18446744073709551616 9223372036854775808 x = x
  rw [wrapS_eq _ _ (by decide) (by decide)]
  split <;> omega
def wn (n : Int) (hi : Nat) : Nat := (n % ((hi : Int) + 1)).toNat
theorem wn_le (n : Int) (hi : Nat) : wn n hi ≤ hi := by
  unfold wn
  have h1 := Int.emod_nonneg n (show (hi : Int) + 1 ≠ 0 by omega)
  have h2 := Int.emod_lt_of_pos n (show (0 : Int) < (hi : Int) + 1 by omega)
  omega
theorem tmod_wn (n : Int) (hi : Nat) : (Int.tmod n (Int.ofNat (hi + 1)) < 0 ∧ Int.tmod n (Int.ofNat (hi + 1)) + hi + 1 = wn n hi ∧ 1 ≤ wn n hi) ∨ (0 ≤ Int.tmod n (Int.ofNat (hi + 1)) ∧ Int.tmod n (Int.ofNat (hi + 1)) = wn n hi) := by
  have hpos : (0 : Int) < (hi : Int) + 1 := by omega
  have e : Int.ofNat (hi + 1) = (hi : Int) + 1 := by simp
  have h1 := Int.emod_nonneg n (show (hi : Int) + 1 ≠ 0 by omega)
  have h2 := Int.emod_lt_of_pos n hpos
  have hw : (wn n hi : Int) = n % ((hi : Int) + 1) := by unfold wn; omega
  rw [e, hw]
  have h3 := Int.tmod_eq_emod (a := n) (b := (hi : Int) + 1)
  rw [h3]
  split
  · right; constructor <;> omega
  · left
    rename_i hc
    have hne : n % ((hi : Int) + 1) ≠ 0 := fun h => hc (.inr (Int.dvd_of_emod_eq_zero h))
    omega
theorem tmod_bound (n : Int) (hi : Nat) : -(hi : Int) ≤ Int.tmod n (Int.ofNat (hi + 1)) ∧ Int.tmod n (Int.ofNat (hi + 1)) ≤ hi := by
  have := wn_le n hi
  rcases tmod_wn n hi with ⟨h1, h2, h3⟩ | ⟨h1, h2⟩ <;> omega
def withinBA : List Value → AM Value
  | [.int .i64 n, .int .i64 (.ofNat 0), .int .i64 (.ofNat hi)] => when (Nat.ble hi 1000000) (.pure (.int .i64 (.ofNat (wn n hi))))
  | _ => .fail
noncomputable def fiWB : FI := FI.of Tryd.f10
noncomputable def cdWB : Code := bodyOf Tryd.f10
theorem resWB : fiWB.results = [.tmp 6] := rfl
theorem told_withinB : AE.Told Tryd.prog 10 withinBA := by
  refine told_go hE hmix tolds_nil ?_
  intro args s v s' h hm
  unfold withinBA at h
  split at h
  · rename_i n hi
    obtain ⟨hb, h2⟩ := run_when h
    cases h2
    have hb := ble_iff.1 hb
    refine go_enter (fi := fiWB) (c := cdWB) (by kernel_rfl) (by kernel_rfl) 24 rfl rfl ?_
    have h0 : (Tr.ofList [Value.int .i64 n, .int .i64 (.ofNat 0), .int .i64 (.ofNat hi)]).get 0 = some (.int .i64 n) := rfl
    have h1 : (Tr.ofList [Value.int .i64 n, .int .i64 (.ofNat 0), .int .i64 (.ofNat hi)]).get 1 = some (.int .i64 (.ofNat 0)) := rfl
    have h2 : (Tr.ofList [Value.int .i64 n, .int .i64 (.ofNat 0), .int .i64 (.ofNat hi)]).get 2 = some (.int .i64 (.ofNat hi)) := rfl
    generalize Tr.ofList [Value.int .i64 n, .int .i64 (.ofNat 0), .int .i64 (.ofNat hi)] = t at *
    simp only [cdWB, Tryd.f10, bodyOf]
    have a1 : ∀ E t, binA E .sub t (.int .i64 (.ofNat hi)) (.int .i64 (.ofNat 0)) = some (.int .i64 (.ofNat hi)) := by
      intro E t
      show some (Value.int .i64 (wrapA .i64 ((hi : Int) - 0))) = _
      rw [wrap_small (by omega) (by omega), Int.sub_zero]; rfl
    have a2 := b_plus (a := hi) (b := 1) (by omega)
    have a3 : ∀ E t, binA E .rem t (.int .i64 n) (.int .i64 (.ofNat (hi + 1))) = some (.int .i64 (Int.tmod n (.ofNat (hi + 1)))) := fun E t => rfl
    have hbd := tmod_bound n hi
    have htm := tmod_wn n hi
    generalize Int.tmod n (Int.ofNat (hi + 1)) = m at *
    repeat apply go_seq
    apply go_region
    case h => intro m; simp (maxSteps := 2000000) (disch := decide) only [opsLoop, evOper, wantedA, nth, aop, aPick, aBin, aIndexAddr, aFieldAddr, aLoad, aStore, aExtract, aConvert, aAlloc, aBox, aIndex, callA, builtinA, Fr.evs, opt, val, when, AM.run, outV, newA, ptr, force_eq, seen_heap, seen_next, seen_mark, seen_seen, agg_cells, int_cells, Fr.ev, Fr.put, onFr, gps, gpn, bltT, still, flat, List.append_nil, List.nil_append, List.cons_append, Nat.reduceEqDiff, ne_eq, not_false_eq_true, reduceCtorEq, Bool.and_true, Bool.true_and, Bool.and_false, Bool.false_and, Bool.not_true, Bool.not_false, Bool.and_self]; rfl
    repeat apply go_seq
    apply go_region
    case h => intro m; simp (maxSteps := 2000000) (disch := decide) only [opsLoop, evOper, wantedA, nth, aop, aPick, aBin, aIndexAddr, aFieldAddr, aLoad, aStore, aExtract, aConvert, aAlloc, aBox, aIndex, callA, builtinA, Fr.evs, opt, val, when, AM.run, outV, newA, ptr, force_eq, seen_heap, seen_next, seen_mark, seen_seen, agg_cells, int_cells, Fr.ev, Fr.put, onFr, gps, gpn, bltT, still, flat, List.append_nil, List.nil_append, List.cons_append, Nat.reduceEqDiff, ne_eq, not_false_eq_true, reduceCtorEq, Bool.and_true, Bool.true_and, Bool.and_false, Bool.false_and, Bool.not_true, Bool.not_false, Bool.and_self, h0, h1, h2, a1, int1, a2, a3]; rfl
    rcases htm with ⟨q1, q2, _⟩ | ⟨q1, q2⟩
    · have hlt : ltI m (Int.ofNat 0) = true := by rw [ltI_eq]; simp; omega
      have a4 : ∀ E t, binA E .add t (.int .i64 m) (.int .i64 (.ofNat hi)) = some (.int .i64 (m + hi)) := by
        intro E t
        show some (Value.int .i64 (wrapA .i64 (m + hi))) = _
        rw [wrap_small (by omega) (by omega)]
      have a5 : ∀ E t, binA E .sub t (.int .i64 (m + hi)) (.int .i64 (.ofNat 0)) = some (.int .i64 (m + hi)) := by
        intro E t
        show some (Value.int .i64 (wrapA .i64 (m + hi - 0))) = _
        rw [wrap_small (by omega) (by omega), Int.sub_zero]
      have a6 : ∀ E t, binA E .add t (.int .i64 (m + hi)) (.int .i64 (.ofNat 1)) = some (.int .i64 (.ofNat (wn n hi))) := by
        intro E t
        show some (Value.int .i64 (wrapA .i64 (m + hi + 1))) = _
        rw [wrap_small (by omega) (by omega), q2]; rfl
      have hw := wn_le n hi
      have a7 := b_plus (a := 0) (b := wn n hi) (by omega)
      rw [Nat.zero_add] at a7
      repeat apply go_seq
      apply go_region
      case h => intro m; simp (maxSteps := 2000000) (disch := decide) only [opsLoop, evOper, wantedA, nth, aop, aPick, aBin, aIndexAddr, aFieldAddr, aLoad, aStore, aExtract, aConvert, aAlloc, aBox, aIndex, callA, builtinA, Fr.evs, opt, val, when, AM.run, outV, newA, ptr, force_eq, seen_heap, seen_next, seen_mark, seen_seen, agg_cells, int_cells, Fr.ev, Fr.put, onFr, gps, gpn, bltT, still, flat, List.append_nil, List.nil_append, List.cons_append, Nat.reduceEqDiff, ne_eq, not_false_eq_true, reduceCtorEq, Bool.and_true, Bool.true_and, Bool.and_false, Bool.false_and, Bool.not_true, Bool.not_false, Bool.and_self, b_lss, int0, hlt]; rfl
      repeat apply go_seq
      apply go_cond
      case hc => simp (disch := decide) only [opsLoop, evOper, wantedA, nth, aop, aPick, aBin, aIndexAddr, aFieldAddr, aLoad, aStore, aExtract, aConvert, aAlloc, aBox, aIndex, callA, builtinA, Fr.evs, opt, val, when, AM.run, outV, newA, ptr, force_eq, seen_heap, seen_next, seen_mark, seen_seen, agg_cells, int_cells, Fr.ev, Fr.put, onFr, gps, gpn, bltT, still, flat, List.append_nil, List.nil_append, List.cons_append, Nat.reduceEqDiff, ne_eq, not_false_eq_true, reduceCtorEq, Bool.and_true, Bool.true_and, Bool.and_false, Bool.false_and, Bool.not_true, Bool.not_false, Bool.and_self]; rfl
      case h2 => intro h; cases h
      intro _
      repeat apply go_seq
      apply go_region
      case h => intro m; simp (maxSteps := 2000000) (disch := decide) only [opsLoop, evOper, wantedA, nth, aop, aPick, aBin, aIndexAddr, aFieldAddr, aLoad, aStore, aExtract, aConvert, aAlloc, aBox, aIndex, callA, builtinA, Fr.evs, opt, val, when, AM.run, outV, newA, ptr, force_eq, seen_heap, seen_next, seen_mark, seen_seen, agg_cells, int_cells, Fr.ev, Fr.put, onFr, gps, gpn, bltT, still, flat, List.append_nil, List.nil_append, List.cons_append, Nat.reduceEqDiff, ne_eq, not_false_eq_true, reduceCtorEq, Bool.and_true, Bool.true_and, Bool.and_false, Bool.false_and, Bool.not_true, Bool.not_false, Bool.and_self, h1, h2, a4, a5, int1, a6]; rfl
      repeat apply go_seq
      apply go_region
      case h => intro m; simp (maxSteps := 2000000) (disch := decide) only [opsLoop, evOper, wantedA, nth, aop, aPick, aBin, aIndexAddr, aFieldAddr, aLoad, aStore, aExtract, aConvert, aAlloc, aBox, aIndex, callA, builtinA, Fr.evs, opt, val, when, AM.run, outV, newA, ptr, force_eq, seen_heap, seen_next, seen_mark, seen_seen, agg_cells, int_cells, Fr.ev, Fr.put, onFr, gps, gpn, bltT, still, flat, List.append_nil, List.nil_append, List.cons_append, Nat.reduceEqDiff, ne_eq, not_false_eq_true, reduceCtorEq, Bool.and_true, Bool.true_and, Bool.and_false, Bool.false_and, Bool.not_true, Bool.not_false, Bool.and_self, h1, a7]; rfl
      repeat apply go_seq
      apply go_ret
      apply ret_intro rfl rfl
      case run => simp (disch := decide) only [resultsM, resultsA, resWB, opsLoop, evOper, wantedA, nth, aop, aPick, aBin, aIndexAddr, aFieldAddr, aLoad, aStore, aExtract, aConvert, aAlloc, aBox, aIndex, callA, builtinA, Fr.evs, opt, val, when, AM.run, outV, newA, ptr, force_eq, seen_heap, seen_next, seen_mark, seen_seen, agg_cells, int_cells, Fr.ev, Fr.put, onFr, gps, gpn, bltT, still, flat, List.append_nil, List.nil_append, List.cons_append, Nat.reduceEqDiff, ne_eq, not_false_eq_true, reduceCtorEq, Bool.and_true, Bool.true_and, Bool.and_false, Bool.false_and, Bool.not_true, Bool.not_false, Bool.and_self]; rfl
      exact ⟨rfl, Less'.refl _⟩
    · have hlt : ltI m (Int.ofNat 0) = false := by rw [ltI_eq]; simp; omega
      have hw := wn_le n hi
      have a7 : ∀ E t, binA E .add t (.int .i64 (.ofNat 0)) (.int .i64 m) = some (.int .i64 (.ofNat (wn n hi))) := by
        intro E t
        show some (Value.int .i64 (wrapA .i64 (0 + m))) = _
        rw [wrap_small (by omega) (by omega), Int.zero_add, q2]; rfl
      repeat apply go_seq
      apply go_region
      case h => intro m; simp (maxSteps := 2000000) (disch := decide) only [opsLoop, evOper, wantedA, nth, aop, aPick, aBin, aIndexAddr, aFieldAddr, aLoad, aStore, aExtract, aConvert, aAlloc, aBox, aIndex, callA, builtinA, Fr.evs, opt, val, when, AM.run, outV, newA, ptr, force_eq, seen_heap, seen_next, seen_mark, seen_seen, agg_cells, int_cells, Fr.ev, Fr.put, onFr, gps, gpn, bltT, still, flat, List.append_nil, List.nil_append, List.cons_append, Nat.reduceEqDiff, ne_eq, not_false_eq_true, reduceCtorEq, Bool.and_true, Bool.true_and, Bool.and_false, Bool.false_and, Bool.not_true, Bool.not_false, Bool.and_self, b_lss, int0, hlt]; rfl
      repeat apply go_seq
      apply go_cond
      case hc => simp (disch := decide) only [opsLoop, evOper, wantedA, nth, aop, aPick, aBin, aIndexAddr, aFieldAddr, aLoad, aStore, aExtract, aConvert, aAlloc, aBox, aIndex, callA, builtinA, Fr.evs, opt, val, when, AM.run, outV, newA, ptr, force_eq, seen_heap, seen_next, seen_mark, seen_seen, agg_cells, int_cells, Fr.ev, Fr.put, onFr, gps, gpn, bltT, still, flat, List.append_nil, List.nil_append, List.cons_append, Nat.reduceEqDiff, ne_eq, not_false_eq_true, reduceCtorEq, Bool.and_true, Bool.true_and, Bool.and_false, Bool.false_and, Bool.not_true, Bool.not_false, Bool.and_self]; rfl
      case h1 => intro h; cases h
      intro _
      apply go_skip
      repeat apply go_seq
      apply go_region
      case h => intro m; simp (maxSteps := 2000000) (disch := decide) only [opsLoop, evOper, wantedA, nth, aop, aPick, aBin, aIndexAddr, aFieldAddr, aLoad, aStore, aExtract, aConvert, aAlloc, aBox, aIndex, callA, builtinA, Fr.evs, opt, val, when, AM.run, outV, newA, ptr, force_eq, seen_heap, seen_next, seen_mark, seen_seen, agg_cells, int_cells, Fr.ev, Fr.put, onFr, gps, gpn, bltT, still, flat, List.append_nil, List.nil_append, List.cons_append, Nat.reduceEqDiff, ne_eq, not_false_eq_true, reduceCtorEq, Bool.and_true, Bool.true_and, Bool.and_false, Bool.false_and, Bool.not_true, Bool.not_false, Bool.and_self, h1, a7]; rfl
      repeat apply go_seq
      apply go_ret
      apply ret_intro rfl rfl
      case run => simp (disch := decide) only [resultsM, resultsA, resWB, opsLoop, evOper, wantedA, nth, aop, aPick, aBin, aIndexAddr, aFieldAddr, aLoad, aStore, aExtract, aConvert, aAlloc, aBox, aIndex, callA, builtinA, Fr.evs, opt, val, when, AM.run, outV, newA, ptr, force_eq, seen_heap, seen_next, seen_mark, seen_seen, agg_cells, int_cells, Fr.ev, Fr.put, onFr, gps, gpn, bltT, still, flat, List.append_nil, List.nil_append, List.cons_append, Nat.reduceEqDiff, ne_eq, not_false_eq_true, reduceCtorEq, Bool.and_true, Bool.true_and, Bool.and_false, Bool.false_and, Bool.not_true, Bool.not_false, Bool.and_self]; rfl
      exact ⟨rfl, Less'.refl _⟩
  · cases h

/-! what is put is had -/
theorem num2_two (x : Int) (h0 : 0 ≤ x) (h1 : x ≤ 65535) : num2 (UInt8.ofNat x.toNat) (UInt8.ofNat (x.toNat >>> 8)) = x := by
  obtain ⟨n, rfl⟩ := Int.eq_ofNat_of_zero_le h0
  simp only [Int.toNat_natCast]
  have hn : n ≤ 65535 := by omega
  unfold num2
  rw [UInt8.toNat_ofNat', UInt8.toNat_ofNat', Nat.shiftRight_eq_div_pow]
  have e1 : n % 2 ^ 8 % 18446744073709551616 = n % 256 := by omega
  have e2 : n / 2 ^ 8 % 2 ^ 8 * 256 % 18446744073709551616 = 2 ^ 8 * (n / 256) := by omega
  rw [e1, e2]
  have e3 : Nat.lor (n % 256) (2 ^ 8 * (n / 256)) = n := by
    show (n % 256) ||| (2 ^ 8 * (n / 256)) = n
    rw [Nat.or_comm, ← Nat.two_pow_add_eq_or_of_lt (show n % 256 < 2 ^ 8 by omega)]
    omega
  rw [e3]
  exact wrap_small (by simp; try omega) (by simp; try omega)
theorem putL_eq (d : LeafD) : ∃ c, putL d = d.load ++ ([UInt8.ofNat d.file.toNat, UInt8.ofNat (d.file.toNat >>> 8), UInt8.ofNat d.place.toNat, UInt8.ofNat (d.place.toNat >>> 8), UInt8.ofNat d.next.toNat, UInt8.ofNat (d.next.toNat >>> 8), UInt8.ofNat d.size.toNat, UInt8.ofNat d.kind.toNat] ++ sum4 c) := by
  refine ⟨crc32 ((d.load ++ pre d 3) ++ [UInt8.ofNat d.size.toNat, UInt8.ofNat d.kind.toNat]), ?_⟩
  unfold putL closeL
  generalize crc32 ((d.load ++ pre d 3) ++ [UInt8.ofNat d.size.toNat, UInt8.ofNat d.kind.toNat]) = c
  simp only [pre, three, two, List.getD_cons_zero, List.getD_cons_succ, List.nil_append, List.append_assoc, List.cons_append]
theorem getD_app {a b : List UInt8} {n : Nat} (h : a.length = 116) (j : Nat) (hn : n = 116 + j) : (a ++ b).getD n 0 = b.getD j 0 := by
  subst hn
  rw [List.getD_eq_getElem?_getD, List.getElem?_append_right (by omega), h, show 116 + j - 116 = j by omega, List.getD_eq_getElem?_getD]
theorem say_put (d : LeafD) (hd : d.load.length = 116) (hR : rightL d = true) : sayL (putL d) = d := by
  obtain ⟨h3, hk, hs⟩ := rightL_inv hR
  have f := h3 0 d.file rfl
  have p := h3 1 d.place rfl
  have n := h3 2 d.next rfl
  obtain ⟨c, e⟩ := putL_eq d
  rw [e]
  unfold sayL
  rw [getD_app hd 0 rfl, getD_app hd 1 rfl, getD_app hd 2 rfl, getD_app hd 3 rfl, getD_app hd 4 rfl, getD_app hd 5 rfl, getD_app hd 6 rfl, getD_app hd 7 rfl]
  simp only [List.cons_append, List.nil_append, List.getD_cons_zero, List.getD_cons_succ]
  rw [num2_two _ f.1 f.2, num2_two _ p.1 p.2, num2_two _ n.1 n.2, List.take_left' hd]
  have e1 : ((UInt8.ofNat d.size.toNat).toNat : Int) = d.size := by rw [UInt8.toNat_ofNat']; omega
  have e2 : ((UInt8.ofNat d.kind.toNat).toNat : Int) = d.kind := by rw [UInt8.toNat_ofNat']; omega
  rw [e1, e2]
theorem get_put (d : LeafD) (hd : d.load.length = 116) (hR : rightL d = true) : getOK (putL d) = true ∧ getL (putL d) = d := by
  have h1 := say_put d hd hR
  have h2 : getOK (putL d) = true := by
    unfold getOK
    rw [h1, hR, eqBytes_iff]
    simp
  exact ⟨h2, by unfold getL; rw [if_pos h2, h1]⟩
end Go.Proofs.YtioieffmihdheaaDoor.lf
