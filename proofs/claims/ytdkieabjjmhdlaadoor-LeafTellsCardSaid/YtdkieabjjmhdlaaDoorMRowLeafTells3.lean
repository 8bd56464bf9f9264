/- Leaves: two lists of bytes compared by the laws' own loop. -/
import Derived.Test.YtdkieabjjmhdlaaDoorMRowLeafTells2
import Derived.Test.YtdkieabjjmhdlaaDoorAe33
section
/- Leaves: a number brought within bounds; what is put into a block is had out of it; leaves that are the same. -/
noncomputable section
namespace Go.Proofs.YtdkieabjjmhdlaaDoor.lf
open AE
set_option linter.unusedSimpArgs false
set_option linter.unusedVariables false
set_option maxRecDepth 10000

theorem wrap_small {x : Int} (h1 : -9223372036854775808 ≤ x) (h2 : x < 9223372036854775808) : wrapA .i64 x = x := by
  show wrapS 18446744073709551616 9223372036854775808 x = x
  rw [wrapS_eq _ _ (by decide) (by decide)]
  split <;> omega
def wn (n : Int) (hi : Nat) : Nat := (n % ((hi : Int) + 1)).toNat
theorem wn_le (n : Int) (hi : Nat) : wn n hi ≤ hi := by
  unfold wn
  have h1 := Int.emod_nonneg n (show (hi : Int) + 1 ≠ 0 by omega)
  have h2 := Int.emod_lt_of_pos n (show (0 : Int) < (hi : Int) + 1 by omega)
  omega
theorem tmod_wn (n : Int) (hi : Nat) : (Int.tmod n (Int.ofNat (hi + 1)) < 0 ∧ Int.tmod n (Int.ofNat (hi + 1)) + hi + 1 = wn n hi ∧ 1 ≤ wn n hi) ∨ (0 ≤ Int.tmod n (Int.ofNat (hi + 1)) ∧ Int.tmod n (Int.ofNat (hi + 1)) = wn n hi) := by
  have hpos : (0 : Int) < (hi : Int) + 1 := by omega
  have e : Int.ofNat (hi + 1) = (hi : Int) + 1 := by simp
  have h1 := Int.emod_nonneg n (show (hi : Int) + 1 ≠ 0 by omega)
  have h2 := Int.emod_lt_of_pos n hpos
  have hw : (wn n hi : Int) = n % ((hi : Int) + 1) := by unfold wn; omega
  rw [e, hw]
  have h3 := Int.tmod_eq_emod (a := n) (b := (hi : Int) + 1)
  rw [h3]
  split
  · right; constructor <;> omega
  · left
    rename_i hc
    have hne : n % ((hi : Int) + 1) ≠ 0 := fun h => hc (.inr (Int.dvd_of_emod_eq_zero h))
    omega
theorem tmod_bound (n : Int) (hi : Nat) : -(hi : Int) ≤ Int.tmod n (Int.ofNat (hi + 1)) ∧ Int.tmod n (Int.ofNat (hi + 1)) ≤ hi := by
  have := wn_le n hi
  rcases tmod_wn n hi with ⟨h1, h2, h3⟩ | ⟨h1, h2⟩ <;> omega
def withinBA : List Value → AM Value
  | [.int .i64 n, .int .i64 (.ofNat 0), .int .i64 (.ofNat hi)] => when (Nat.ble hi 1000000) (.pure (.int .i64 (.ofNat (wn n hi))))
  | _ => .fail
noncomputable def fiWB : FI := FI.of Tryd.f5
noncomputable def cdWB : Code := bodyOf Tryd.f5
theorem resWB : fiWB.results = [.tmp 6] := rfl
theorem told_withinB : AE.Told Tryd.prog 5 withinBA := by
  refine told_go hE hmix tolds_nil ?_
  intro args s v s' h hm
  unfold withinBA at h
  split at h
  · rename_i n hi
    obtain ⟨hb, h2⟩ := run_when h
    cases h2
    have hb := ble_iff.1 hb
    refine go_enter (fi := fiWB) (c := cdWB) (by kernel_rfl) (by kernel_rfl) 24 rfl rfl ?_
    have h0 : (Tr.ofList [Value.int .i64 n, .int .i64 (.ofNat 0), .int .i64 (.ofNat hi)]).get 0 = some (.int .i64 n) := rfl
    have h1 : (Tr.ofList [Value.int .i64 n, .int .i64 (.ofNat 0), .int .i64 (.ofNat hi)]).get 1 = some (.int .i64 (.ofNat 0)) := rfl
    have h2 : (Tr.ofList [Value.int .i64 n, .int .i64 (.ofNat 0), .int .i64 (.ofNat hi)]).get 2 = some (.int .i64 (.ofNat hi)) := rfl
    generalize Tr.ofList [Value.int .i64 n, .int .i64 (.ofNat 0), .int .i64 (.ofNat hi)] = t at *
    simp only [cdWB, Tryd.f5, bodyOf]
    have a1 : ∀ E t, binA E .sub t (.int .i64 (.ofNat hi)) (.int .i64 (.ofNat 0)) = some (.int .i64 (.ofNat hi)) := by
      intro E t
      show some (Value.int .i64 (wrapA .i64 ((hi : Int) - 0))) = _
      rw [wrap_small (by omega) (by omega), Int.sub_zero]; rfl
    have a2 := b_plus (a := hi) (b := 1) (by omega)
    have a3 : ∀ E t, binA E .rem t (.int .i64 n) (.int .i64 (.ofNat (hi + 1))) = some (.int .i64 (Int.tmod n (.ofNat (hi + 1)))) := fun E t => rfl
    have hbd := tmod_bound n hi
    have htm := tmod_wn n hi
    generalize Int.tmod n (Int.ofNat (hi + 1)) = m at *
    repeat apply go_seq
    apply go_region
    case h => intro m; simp (maxSteps := 2000000) (disch := decide) only [opsLoop, evOper, wantedA, nth, aop, aPick, aBin, aIndexAddr, aFieldAddr, aLoad, aStore, aExtract, aConvert, aAlloc, aBox, aIndex, callA, builtinA, Fr.evs, opt, val, when, AM.run, outV, newA, ptr, force_eq, seen_heap, seen_next, seen_mark, seen_seen, agg_cells, int_cells, Fr.ev, Fr.put, onFr, gps, gpn, bltT, still, flat, List.append_nil, List.nil_append, List.cons_append, Nat.reduceEqDiff, ne_eq, not_false_eq_true, reduceCtorEq, Bool.and_true, Bool.true_and, Bool.and_false, Bool.false_and, Bool.not_true, Bool.not_false, Bool.and_self]; rfl
    repeat apply go_seq
    apply go_region
    case h => intro m; simp (maxSteps := 2000000) (disch := decide) only [opsLoop, evOper, wantedA, nth, aop, aPick, aBin, aIndexAddr, aFieldAddr, aLoad, aStore, aExtract, aConvert, aAlloc, aBox, aIndex, callA, builtinA, Fr.evs, opt, val, when, AM.run, outV, newA, ptr, force_eq, seen_heap, seen_next, seen_mark, seen_seen, agg_cells, int_cells, Fr.ev, Fr.put, onFr, gps, gpn, bltT, still, flat, List.append_nil, List.nil_append, List.cons_append, Nat.reduceEqDiff, ne_eq, not_false_eq_true, reduceCtorEq, Bool.and_true, Bool.true_and, Bool.and_false, Bool.false_and, Bool.not_true, Bool.not_false, Bool.and_self, h0, h1, h2, a1, int1, a2, a3]; rfl
    rcases htm with ⟨q1, q2, _⟩ | ⟨q1, q2⟩
    · have hlt : ltI m (Int.ofNat 0) = true := by rw [ltI_eq]; simp; omega
      have a4 : ∀ E t, binA E .add t (.int .i64 m) (.int .i64 (.ofNat hi)) = some (.int .i64 (m + hi)) := by
        intro E t
        show some (Value.int .i64 (wrapA .i64 (m + hi))) = _
        rw [wrap_small (by omega) (by omega)]
      have a5 : ∀ E t, binA E .sub t (.int .i64 (m + hi)) (.int .i64 (.ofNat 0)) = some (.int .i64 (m + hi)) := by
        intro E t
        show some (Value.int .i64 (wrapA .i64 (m + hi - 0))) = _
        rw [wrap_small (by omega) (by omega), Int.sub_zero]
      have a6 : ∀ E t, binA E .add t (.int .i64 (m + hi)) (.int .i64 (.ofNat 1)) = some (.int .i64 (.ofNat (wn n hi))) := by
        intro E t
        show some (Value.int .i64 (wrapA .i64 (m + hi + 1))) = _
        rw [wrap_small (by omega) (by omega), q2]; rfl
      have hw := wn_le n hi
      have a7 := b_plus (a := 0) (b := wn n hi) (by omega)
      rw [Nat.zero_add] at a7
      repeat apply go_seq
      apply go_region
      case h => intro m; simp (maxSteps := 2000000) (disch := decide) only [opsLoop, evOper, wantedA, nth, aop, aPick, aBin, aIndexAddr, aFieldAddr, aLoad, aStore, aExtract, aConvert, aAlloc, aBox, aIndex, callA, builtinA, Fr.evs, opt, val, when, AM.run, outV, newA, ptr, force_eq, seen_heap, seen_next, seen_mark, seen_seen, agg_cells, int_cells, Fr.ev, Fr.put, onFr, gps, gpn, bltT, still, flat, List.append_nil, List.nil_append, List.cons_append, Nat.reduceEqDiff, ne_eq, not_false_eq_true, reduceCtorEq, Bool.and_true, Bool.true_and, Bool.and_false, Bool.false_and, Bool.not_true, Bool.not_false, Bool.and_self, b_lss, int0, hlt]; rfl
      repeat apply go_seq
      apply go_cond
      case hc => simp (disch := decide) only [opsLoop, evOper, wantedA, nth, aop, aPick, aBin, aIndexAddr, aFieldAddr, aLoad, aStore, aExtract, aConvert, aAlloc, aBox, aIndex, callA, builtinA, Fr.evs, opt, val, when, AM.run, outV, newA, ptr, force_eq, seen_heap, seen_next, seen_mark, seen_seen, agg_cells, int_cells, Fr.ev, Fr.put, onFr, gps, gpn, bltT, still, flat, List.append_nil, List.nil_append, List.cons_append, Nat.reduceEqDiff, ne_eq, not_false_eq_true, reduceCtorEq, Bool.and_true, Bool.true_and, Bool.and_false, Bool.false_and, Bool.not_true, Bool.not_false, Bool.and_self]; rfl
      case h2 => intro h; cases h
      intro _
      repeat apply go_seq
      apply go_region
      case h => intro m; simp (maxSteps := 2000000) (disch := decide) only [opsLoop, evOper, wantedA, nth, aop, aPick, aBin, aIndexAddr, aFieldAddr, aLoad, aStore, aExtract, aConvert, aAlloc, aBox, aIndex, callA, builtinA, Fr.evs, opt, val, when, AM.run, outV, newA, ptr, force_eq, seen_heap, seen_next, seen_mark, seen_seen, agg_cells, int_cells, Fr.ev, Fr.put, onFr, gps, gpn, bltT, still, flat, List.append_nil, List.nil_append, List.cons_append, Nat.reduceEqDiff, ne_eq, not_false_eq_true, reduceCtorEq, Bool.and_true, Bool.true_and, Bool.and_false, Bool.false_and, Bool.not_true, Bool.not_false, Bool.and_self, h1, h2, a4, a5, int1, a6]; rfl
      repeat apply go_seq
      apply go_region
      case h => intro m; simp (maxSteps := 2000000) (disch := decide) only [opsLoop, evOper, wantedA, nth, aop, aPick, aBin, aIndexAddr, aFieldAddr, aLoad, aStore, aExtract, aConvert, aAlloc, aBox, aIndex, callA, builtinA, Fr.evs, opt, val, when, AM.run, outV, newA, ptr, force_eq, seen_heap, seen_next, seen_mark, seen_seen, agg_cells, int_cells, Fr.ev, Fr.put, onFr, gps, gpn, bltT, still, flat, List.append_nil, List.nil_append, List.cons_append, Nat.reduceEqDiff, ne_eq, not_false_eq_true, reduceCtorEq, Bool.and_true, Bool.true_and, Bool.and_false, Bool.false_and, Bool.not_true, Bool.not_false, Bool.and_self, h1, a7]; rfl
      repeat apply go_seq
      apply go_ret
      apply ret_intro rfl rfl
      case run => simp (disch := decide) only [resultsM, resultsA, resWB, opsLoop, evOper, wantedA, nth, aop, aPick, aBin, aIndexAddr, aFieldAddr, aLoad, aStore, aExtract, aConvert, aAlloc, aBox, aIndex, callA, builtinA, Fr.evs, opt, val, when, AM.run, outV, newA, ptr, force_eq, seen_heap, seen_next, seen_mark, seen_seen, agg_cells, int_cells, Fr.ev, Fr.put, onFr, gps, gpn, bltT, still, flat, List.append_nil, List.nil_append, List.cons_append, Nat.reduceEqDiff, ne_eq, not_false_eq_true, reduceCtorEq, Bool.and_true, Bool.true_and, Bool.and_false, Bool.false_and, Bool.not_true, Bool.not_false, Bool.and_self]; rfl
      exact ⟨rfl, Less'.refl _⟩
    · have hlt : ltI m (Int.ofNat 0) = false := by rw [ltI_eq]; simp; omega
      have hw := wn_le n hi
      have a7 : ∀ E t, binA E .add t (.int .i64 (.ofNat 0)) (.int .i64 m) = some (.int .i64 (.ofNat (wn n hi))) := by
        intro E t
        show some (Value.int .i64 (wrapA .i64 (0 + m))) = _
        rw [wrap_small (by omega) (by omega), Int.zero_add, q2]; rfl
      repeat apply go_seq
      apply go_region
      case h => intro m; simp (maxSteps := 2000000) (disch := decide) only [opsLoop, evOper, wantedA, nth, aop, aPick, aBin, aIndexAddr, aFieldAddr, aLoad, aStore, aExtract, aConvert, aAlloc, aBox, aIndex, callA, builtinA, Fr.evs, opt, val, when, AM.run, outV, newA, ptr, force_eq, seen_heap, seen_next, seen_mark, seen_seen, agg_cells, int_cells, Fr.ev, Fr.put, onFr, gps, gpn, bltT, still, flat, List.append_nil, List.nil_append, List.cons_append, Nat.reduceEqDiff, ne_eq, not_false_eq_true, reduceCtorEq, Bool.and_true, Bool.true_and, Bool.and_false, Bool.false_and, Bool.not_true, Bool.not_false, Bool.and_self, b_lss, int0, hlt]; rfl
      repeat apply go_seq
      apply go_cond
      case hc => simp (disch := decide) only [opsLoop, evOper, wantedA, nth, aop, aPick, aBin, aIndexAddr, aFieldAddr, aLoad, aStore, aExtract, aConvert, aAlloc, aBox, aIndex, callA, builtinA, Fr.evs, opt, val, when, AM.run, outV, newA, ptr, force_eq, seen_heap, seen_next, seen_mark, seen_seen, agg_cells, int_cells, Fr.ev, Fr.put, onFr, gps, gpn, bltT, still, flat, List.append_nil, List.nil_append, List.cons_append, Nat.reduceEqDiff, ne_eq, not_false_eq_true, reduceCtorEq, Bool.and_true, Bool.true_and, Bool.and_false, Bool.false_and, Bool.not_true, Bool.not_false, Bool.and_self]; rfl
      case h1 => intro h; cases h
      intro _
      apply go_skip
      repeat apply go_seq
      apply go_region
      case h => intro m; simp (maxSteps := 2000000) (disch := decide) only [opsLoop, evOper, wantedA, nth, aop, aPick, aBin, aIndexAddr, aFieldAddr, aLoad, aStore, aExtract, aConvert, aAlloc, aBox, aIndex, callA, builtinA, Fr.evs, opt, val, when, AM.run, outV, newA, ptr, force_eq, seen_heap, seen_next, seen_mark, seen_seen, agg_cells, int_cells, Fr.ev, Fr.put, onFr, gps, gpn, bltT, still, flat, List.append_nil, List.nil_append, List.cons_append, Nat.reduceEqDiff, ne_eq, not_false_eq_true, reduceCtorEq, Bool.and_true, Bool.true_and, Bool.and_false, Bool.false_and, Bool.not_true, Bool.not_false, Bool.and_self, h1, a7]; rfl
      repeat apply go_seq
      apply go_ret
      apply ret_intro rfl rfl
      case run => simp (disch := decide) only [resultsM, resultsA, resWB, opsLoop, evOper, wantedA, nth, aop, aPick, aBin, aIndexAddr, aFieldAddr, aLoad, aStore, aExtract, aConvert, aAlloc, aBox, aIndex, callA, builtinA, Fr.evs, opt, val, when, AM.run, outV, newA, ptr, force_eq, seen_heap, seen_next, seen_mark, seen_seen, agg_cells, int_cells, Fr.ev, Fr.put, onFr, gps, gpn, bltT, still, flat, List.append_nil, List.nil_append, List.cons_append, Nat.reduceEqDiff, ne_eq, not_false_eq_true, reduceCtorEq, Bool.and_true, Bool.true_and, Bool.and_false, Bool.false_and, Bool.not_true, Bool.not_false, Bool.and_self]; rfl
      exact ⟨rfl, Less'.refl _⟩
  · cases h

/-! what is put is had -/
theorem num2_two (x : Int) (h0 : 0 ≤ x) (h1 : x ≤ 65535) : num2 (UInt8.ofNat x.toNat) (UInt8.ofNat (x.toNat >>> 8)) = x := by
  obtain ⟨n, rfl⟩ := Int.eq_ofNat_of_zero_le h0
  simp only [Int.toNat_natCast]
  have hn : n ≤ 65535 := by omega
  unfold num2
  rw [UInt8.toNat_ofNat', UInt8.toNat_ofNat', Nat.shiftRight_eq_div_pow]
  have e1 : n % 2 ^ 8 % 18446744073709551616 = n % 256 := by omega
  have e2 : n / 2 ^ 8 % 2 ^ 8 * 256 % 18446744073709551616 = 2 ^ 8 * (n / 256) := by omega
  rw [e1, e2]
  have e3 : Nat.lor (n % 256) (2 ^ 8 * (n / 256)) = n := by
    show (n % 256) ||| (2 ^ 8 * (n / 256)) = n
    rw [Nat.or_comm, ← Nat.two_pow_add_eq_or_of_lt (show n % 256 < 2 ^ 8 by omega)]
    omega
  rw [e3]
  exact wrap_small (by simp; try omega) (by simp; try omega)
theorem putL_eq (d : LeafD) : ∃ c, putL d = d.load ++ ([UInt8.ofNat d.file.toNat, UInt8.ofNat (d.file.toNat >>> 8), UInt8.ofNat d.place.toNat, UInt8.ofNat (d.place.toNat >>> 8), UInt8.ofNat d.next.toNat, UInt8.ofNat (d.next.toNat >>> 8), UInt8.ofNat d.size.toNat, UInt8.ofNat d.kind.toNat] ++ sum4 c) := by
  refine ⟨crc32 ((d.load ++ pre d 3) ++ [UInt8.ofNat d.size.toNat, UInt8.ofNat d.kind.toNat]), ?_⟩
  unfold putL closeL
  generalize crc32 ((d.load ++ pre d 3) ++ [UInt8.ofNat d.size.toNat, UInt8.ofNat d.kind.toNat]) = c
  simp only [pre, three, two, List.getD_cons_zero, List.getD_cons_succ, List.nil_append, List.append_assoc, List.cons_append]
theorem getD_app {a b : List UInt8} {n : Nat} (h : a.length = 116) (j : Nat) (hn : n = 116 + j) : (a ++ b).getD n 0 = b.getD j 0 := by
  subst hn
  rw [List.getD_eq_getElem?_getD, List.getElem?_append_right (by omega), h, show 116 + j - 116 = j by omega, List.getD_eq_getElem?_getD]
theorem say_put (d : LeafD) (hd : d.load.length = 116) (hR : rightL d = true) : sayL (putL d) = d := by
  obtain ⟨h3, hk, hs⟩ := rightL_inv hR
  have f := h3 0 d.file rfl
  have p := h3 1 d.place rfl
  have n := h3 2 d.next rfl
  obtain ⟨c, e⟩ := putL_eq d
  rw [e]
  unfold sayL
  rw [getD_app hd 0 rfl, getD_app hd 1 rfl, getD_app hd 2 rfl, getD_app hd 3 rfl, getD_app hd 4 rfl, getD_app hd 5 rfl, getD_app hd 6 rfl, getD_app hd 7 rfl]
  simp only [List.cons_append, List.nil_append, List.getD_cons_zero, List.getD_cons_succ]
  rw [num2_two _ f.1 f.2, num2_two _ p.1 p.2, num2_two _ n.1 n.2, List.take_left' hd]
  have e1 : ((UInt8.ofNat d.size.toNat).toNat : Int) = d.size := by rw [UInt8.toNat_ofNat']; omega
  have e2 : ((UInt8.ofNat d.kind.toNat).toNat : Int) = d.kind := by rw [UInt8.toNat_ofNat']; omega
  rw [e1, e2]
theorem get_put (d : LeafD) (hd : d.load.length = 116) (hR : rightL d = true) : getOK (putL d) = true ∧ getL (putL d) = d := by
  have h1 := say_put d hd hR
  have h2 : getOK (putL d) = true := by
    unfold getOK
    rw [h1, hR, eqBytes_iff]
    simp
  exact ⟨h2, by unfold getL; rw [if_pos h2, h1]⟩
end Go.Proofs.YtdkieabjjmhdlaaDoor.lf
end
end

section
/- Leaves: leaves that are the same; the leaves of the law on edges. -/
noncomputable section
namespace Go.Proofs.YtdkieabjjmhdlaaDoor.lf
open AE
set_option linter.unusedSimpArgs false
set_option linter.unusedVariables false
set_option maxRecDepth 10000

theorem gdLf : tiLf.guard = false := by kernel_rfl
theorem gdA : tiA.guard = false := by kernel_rfl
theorem fs_list : fsLf.toList = [fd 0, fd 1, fd 2, fd 3, fd 4, fd 5] := by kernel_rfl
theorem nm0 : (fd 0).name = "Kind" := by kernel_rfl
theorem nm1 : (fd 1).name = "File" := by kernel_rfl
theorem nm2 : (fd 2).name = "Place" := by kernel_rfl
theorem nm3 : (fd 3).name = "Next" := by kernel_rfl
theorem nm4 : (fd 4).name = "Size" := by kernel_rfl
theorem nm5 : (fd 5).name = "Load" := by kernel_rfl
theorem takeL_all : ∀ l : List Value, takeL l.length l = some l
  | [] => rfl
  | v :: l => by simp only [List.length_cons, takeL, takeL_all l]
theorem eq8 (d : Nat) (x : UInt8) : eqV E (d + 1) 5 (bv x) (bv x) = some true := by
  simp only [eqV, tyU8, dsU8, bv, eqI_t]
  rfl
theorem eqEs_same : ∀ (l : List UInt8) (d : Nat), eqEs E (d + l.length + 2) 5 (l.map bv) (l.map bv) = some true
  | [], d => rfl
  | x :: l, d => by
    simp only [List.map_cons, List.length_cons]
    show eqEs E ((d + l.length + 2) + 1) _ _ _ = _
    simp only [eqEs]
    rw [eq8]
    exact eqEs_same l d
theorem eqInt (d : Nat) (x : Int) : eqV E (d + 1) 3 (.int .i64 x) (.int .i64 x) = some true := by
  have : eqI x x = true := by rw [eqI_eq]; simp
  simp only [eqV, tyI, dsI, this]
  rfl
theorem eqArr (l : List UInt8) (hl : l.length = 116) : eqV E 993 22 (.agg ⟨l.map bv⟩) (.agg ⟨l.map bv⟩) = some true := by
  have h1 : arrB tiA tiU8 116 (l.map bv) (l.map bv) = true := by
    unfold arrB
    rw [gdA, dsU8, szU8, List.length_map, hl]
    rfl
  have h2 := eqEs_same l 874
  rw [hl] at h2
  show eqV E (992 + 1) _ _ _ = _
  simp only [eqV, tyA, dsA, tyU8, h1]
  exact h2
theorem eqLeaf (d : LeafD) (hd : d.load.length = 116) : ∀ t, t = 24 → binA E .neq t (.agg ⟨d.cells⟩) (.agg ⟨d.cells⟩) = some (.bool false) := by
  intro t ht
  subst ht
  have h0 : partA tiI d.cells 0 = some (.int .i64 d.kind) := by unfold partA; rw [dsI]; rfl
  have h1 : partA tiI d.cells 1 = some (.int .i64 d.file) := by unfold partA; rw [dsI]; rfl
  have h2 : partA tiI d.cells 2 = some (.int .i64 d.place) := by unfold partA; rw [dsI]; rfl
  have h3 : partA tiI d.cells 3 = some (.int .i64 d.next) := by unfold partA; rw [dsI]; rfl
  have h4 : partA tiI d.cells 4 = some (.int .i64 d.size) := by unfold partA; rw [dsI]; rfl
  have h5 : partA tiA d.cells 5 = some (.agg ⟨d.load.map bv⟩) := by
    have hd5 : dropL 5 d.cells = some (d.load.map bv) := rfl
    have htk : takeL 116 (d.load.map bv) = some (d.load.map bv) := by
      have := takeL_all (d.load.map bv)
      rwa [List.length_map, hd] at this
    unfold partA
    rw [hd5, dsA, szA]
    simp only [isAggD, htk]
  have hf : eqFs E 999 fsLf.toList d.cells d.cells = some true := by
    rw [fs_list]
    show eqFs E (998 + 1) _ _ _ = _
    simp only [eqFs, nm0, nm1, nm2, nm3, nm4, nm5, ft0, ft1, ft2, ft3, ft4, ft5, fo0, fo1, fo2, fo3, fo4, fo5, tyI, tyA, h0, h1, h2, h3, h4, h5, eqInt, eqArr d.load hd]
    rfl
  have hv : eqV E 1000 24 (.agg ⟨d.cells⟩) (.agg ⟨d.cells⟩) = some true := by
    show eqV E (999 + 1) _ _ _ = _
    simp only [eqV, tyLf, dsLf, gdLf]
    exact hf
  show someB (eqV E 1000 24 (.agg ⟨d.cells⟩) (.agg ⟨d.cells⟩)) false = _
  rw [hv]
  rfl

/-! the law's leaves -/
def ldz (i : Nat) : List UInt8 := (List.range 116).map fun j => if j < i then UInt8.ofNat (j + 1) else 0
theorem ldz_len (i : Nat) : (ldz i).length = 116 := by simp [ldz]
theorem ldz_get (i j : Nat) (hj : j < 116) : (ldz i)[j]? = some (if j < i then UInt8.ofNat (j + 1) else 0) := by
  unfold ldz
  rw [List.getElem?_map, List.getElem?_range hj]
  rfl
theorem ldz_zero : ldz 0 = List.replicate 116 0 := by decide
theorem ldz_succ (i : Nat) (hi : i < 116) : (ldz i).set i (UInt8.ofNat (i + 1)) = ldz (i + 1) := by
  apply List.ext_getElem?
  intro j
  rw [List.getElem?_set, ldz_len]
  by_cases hj : j < 116
  · rw [ldz_get _ j hj, ldz_get _ j hj]
    by_cases e : i = j
    · subst e; rw [if_pos rfl, if_pos hi, if_pos (by omega)]
    · rw [if_neg e]
      by_cases h2 : j < i
      · rw [if_pos h2, if_pos (by omega)]
      · rw [if_neg h2, if_neg (by omega)]
  · rw [if_neg (by omega), List.getElem?_eq_none (by rw [ldz_len]; omega), List.getElem?_eq_none (by rw [ldz_len]; omega)]
def edge (z i : Nat) : LeafD := ⟨1, 65535, 65535, 65535, Int.ofNat z, ldz i⟩
theorem edge_right (z : Nat) (hz : z ≤ 115) : rightL (edge z z) = true := by
  have h1 : noughts ((edge z z).load.drop (edge z z).size.toNat) = true := by
    unfold noughts
    refine beq_iff.2 ((lead_all _).2 ?_)
    intro j x hx
    show x = 0
    have hx : ((ldz z).drop z)[j]? = some x := hx
    rw [List.getElem?_drop] at hx
    have hlt := (List.getElem?_eq_some_iff.1 hx).1
    rw [ldz_len] at hlt
    rw [ldz_get _ _ hlt, if_neg (by omega)] at hx
    cases hx; rfl
  have h2 : wi (Int.ofNat z) 0 116 = true := wi_iff.2 ⟨by simp, by simp; omega⟩
  unfold rightL
  rw [h1]
  show (true && true && true && true && wi (Int.ofNat z) 0 116 && true) = true
  rw [h2]; rfl
/-- what is turned of it -/
def turned (z w r : Nat) : LeafD :=
  if w = 0 then { edge z z with file := 65535 + (1 + r) } else if w = 1 then { edge z z with place := 65535 + (1 + r) } else if w = 2 then { edge z z with next := 65535 + (1 + r) }
  else if w = 3 then { edge z z with file := -(1 + r) } else if w = 4 then { edge z z with place := -(1 + r) } else if w = 5 then { edge z z with next := -(1 + r) }
  else if w = 6 then { edge z z with kind := 2 + (1 + r) } else if w = 7 then { edge z z with load := (ldz z).set z (UInt8.ofNat (1 + r)) } else { edge z z with size := 116 + (1 + r) }
theorem turned_len (z w r : Nat) : (turned z w r).load.length = 116 := by
  unfold turned
  repeat' split
  all_goals first | exact ldz_len z | (show ((ldz z).set z _).length = 116; rw [List.length_set, ldz_len])
theorem wi_f {n lo hi : Int} (h : n < lo ∨ hi < n) : wi n lo hi = false := by
  cases hh : wi n lo hi with
  | false => rfl
  | true => have := wi_iff.1 hh; omega
theorem turned_not (z w r : Nat) (hz : z ≤ 115) (hr : r ≤ 99) : rightL (turned z w r) = false := by
  unfold turned
  repeat' split
  · unfold rightL; rw [show wi ({ edge z z with file := 65535 + (1 + (r : Int)) } : LeafD).file 0 65535 = false from wi_f (.inr (by show (65535 : Int) < 65535 + (1 + (r : Int)); omega))]; rfl
  · unfold rightL; rw [show wi ({ edge z z with place := 65535 + (1 + (r : Int)) } : LeafD).place 0 65535 = false from wi_f (.inr (by show (65535 : Int) < 65535 + (1 + (r : Int)); omega))]; simp
  · unfold rightL; rw [show wi ({ edge z z with next := 65535 + (1 + (r : Int)) } : LeafD).next 0 65535 = false from wi_f (.inr (by show (65535 : Int) < 65535 + (1 + (r : Int)); omega))]; simp
  · unfold rightL; rw [show wi ({ edge z z with file := -(1 + (r : Int)) } : LeafD).file 0 65535 = false from wi_f (.inl (by show -(1 + (r : Int)) < 0; omega))]; rfl
  · unfold rightL; rw [show wi ({ edge z z with place := -(1 + (r : Int)) } : LeafD).place 0 65535 = false from wi_f (.inl (by show -(1 + (r : Int)) < 0; omega))]; simp
  · unfold rightL; rw [show wi ({ edge z z with next := -(1 + (r : Int)) } : LeafD).next 0 65535 = false from wi_f (.inl (by show -(1 + (r : Int)) < 0; omega))]; simp
  · unfold rightL; rw [show wi ({ edge z z with kind := 2 + (1 + (r : Int)) } : LeafD).kind 1 2 = false from wi_f (.inr (by show (2 : Int) < 2 + (1 + (r : Int)); omega))]; simp
  · unfold rightL
    have hn : noughts (((ldz z).set z (UInt8.ofNat (1 + r))).drop z) = false := by
      cases hh : noughts (((ldz z).set z (UInt8.ofNat (1 + r))).drop z) with
      | false => rfl
      | true =>
        have h2 := (lead_all _).1 (beq_iff.1 hh) 0 (UInt8.ofNat (1 + r)) (by rw [List.getElem?_drop, Nat.add_zero, List.getElem?_set, if_pos rfl, ldz_len, if_pos (by omega)])
        have h3 := congrArg UInt8.toNat h2
        rw [UInt8.toNat_ofNat'] at h3
        have h4 : (0 : UInt8).toNat = 0 := rfl
        omega
    have hn : noughts (({ edge z z with load := (ldz z).set z (UInt8.ofNat (1 + r)) } : LeafD).load.drop ({ edge z z with load := (ldz z).set z (UInt8.ofNat (1 + r)) } : LeafD).size.toNat) = false := hn
    rw [hn]; simp
  · unfold rightL; rw [show wi ({ edge z z with size := 116 + (1 + (r : Int)) } : LeafD).size 0 116 = false from wi_f (.inr (by show (116 : Int) < 116 + (1 + (r : Int)); omega))]; simp
end Go.Proofs.YtdkieabjjmhdlaaDoor.lf
end
end

section
/- Leaves: rules for cells that are stored, for what Put and Get do in a walk, for numbers. -/
noncomputable section
namespace Go.Proofs.YtdkieabjjmhdlaaDoor.lf
open AE
set_option linter.unusedSimpArgs false
set_option linter.unusedVariables false
set_option maxRecDepth 10000

theorem tgWB : ∀ a b, targetA E (.func 5) a b = .pure (.enter 5 (b ++ a)) := tgt (fi := fiWB) (c := cdWB) (by kernel_rfl) (by kernel_rfl)
theorem tgG : ∀ a b, targetA E (.func 7) a b = .pure (.enter 7 (b ++ a)) := tgt (fi := fiG) (c := cdG) (by kernel_rfl) (by kernel_rfl)
theorem withinBA_run (n : Int) (hi : Nat) (h : hi ≤ 1000000) (s : S) : (withinBA [.int .i64 n, .int .i64 (.ofNat 0), .int .i64 (.ofNat hi)]).run s = some (.int .i64 (.ofNat (wn n hi)), s) := by
  show (when (Nat.ble hi 1000000) (.pure (Value.int .i64 (.ofNat (wn n hi))))).run s = _
  rw [ble_iff.2 h]
  rfl
theorem row_set {c : Tr Value} {L : List Value} {k : Nat} {v : Value} (h : Row c 0 L) (hk : k < 1000) : Row (wrCells c k [v]) 0 (L.set k v) := by
  intro j u hj
  rw [Nat.zero_add]
  rw [List.getElem?_set] at hj
  rw [get_wr [v] c k j (by simp; unfold Tr.wide; omega)]
  by_cases e : k = j
  · subst e
    rw [if_pos rfl] at hj
    split at hj
    · cases hj
      rw [if_pos (by simp), Nat.sub_self]
      rfl
    · cases hj
  · rw [if_neg e] at hj
    rw [if_neg (by simp; omega)]
    have := h j u hj
    rwa [Nat.zero_add] at this
/-- one cell of a leaf is stored -/
theorem LfAt.cell1 {s : S} {n k : Nat} {d d' : LeafD} {v : Value} (h : LfAt s n d) (hN : Nat.ble n lastName = true) (hk : k < 121) (hv : oneB v = true) (hd : d'.cells = d.cells.set k v) (hl : d'.load.length = 116) :
    ∃ c e rm, (storeA ⟨n, k, none⟩ [v] (AM.pure (ANext.value undefV))).run s = some (.value undefV, (s.seen n).turn n (some (.cells c 121 e rm))) ∧ LfAt ((s.seen n).turn n (some (.cells c 121 e rm))) n d' := by
  obtain ⟨c, e, rm, h1, h2⟩ := h.cell
  refine ⟨wrCells c k [v], e, rm, ?_, ⟨h.lt, ⟨_, _, _, hg_same hN _ _, by rw [hd]; exact row_set h2 (by omega)⟩, hl⟩⟩
  rw [storeA_run _ (by simp only [allOne, hv]) h.lt hN h1 (by simp; omega) (by omega)]
  rfl
theorem set_load (d : LeafD) (i : Nat) (x : UInt8) : ({ d with load := d.load.set i x } : LeafD).cells = d.cells.set (5 + i) (bv x) := by
  unfold LeafD.cells
  rw [List.set_append_right _ _ (by simp)]
  simp
theorem b_addI (a b : Int) (h1 : -9223372036854775808 ≤ a + b) (h2 : a + b < 9223372036854775808) : ∀ E t, binA E .add t (.int .i64 a) (.int .i64 b) = some (.int .i64 (a + b)) := by
  intro E t
  show some (Value.int .i64 (wrapA .i64 (a + b))) = _
  rw [wrap_small h1 h2]
theorem u_negI (a : Int) (h1 : -9223372036854775808 ≤ -a) (h2 : -a < 9223372036854775808) : unA .neg (.int .i64 a) = some (.int .i64 (-a)) := by
  show some (Value.int .i64 (wrapA .i64 (0 - a))) = _
  rw [show (0 : Int) - a = -a by omega, wrap_small h1 h2]
theorem eqI_lit (a b : Nat) : eqI (Int.ofNat a) (Int.ofNat b) = decide (a = b) := beq_dec a b
theorem cell_cells {v : Value} (h : oneB v = true) : v.cells.toList = [v] := cells_one h


theorem getA_run {s : S} {ad : Addr} {l : List UInt8} {cap : Nat} (hb : Bs s ad l) (hl : l.length = 128) (hN : ∀ i, i < 3 + putN (sayL l) → Nat.ble (s.next + i) lastName = true) :
    ∃ s1, (getA [.slice (some ad) 128 cap]).run s = some (.tuple ⟨[.agg ⟨(getL l).cells⟩, .bool (getOK l)]⟩, s1) ∧ s1.next = s.next + (3 + putN (sayL l)) ∧ ∀ m, (m < s.next ∨ s.next + (3 + putN (sayL l)) ≤ m) → s1.heap.get m = s.heap.get m := by
  obtain ⟨s1, e1, e2, e3, e4⟩ := bump_ok (3 + putN (sayL l)) (AM.pure (Value.tuple ⟨[.agg ⟨(getL l).cells⟩, .bool (getOK l)]⟩)) (s.seen ad.block) hN
  refine ⟨s1, ?_, e2, ?_⟩
  · show (loadA ad 128 fun cs => opt (bytesV cs) fun l => bump (3 + putN (sayL l)) (.pure (Value.tuple ⟨[.agg ⟨(getL l).cells⟩, .bool (getOK l)]⟩))).run s = _
    have e := loadA_run hb (fun cs => opt (bytesV cs) fun l => bump (3 + putN (sayL l)) (AM.pure (Value.tuple ⟨[.agg ⟨(getL l).cells⟩, .bool (getOK l)]⟩)))
    rw [hl] at e
    rw [e, bytesV_map]
    exact e1
  · intro m hm
    rw [e4 m]
    show (if s.next ≤ m ∧ m < s.next + (3 + putN (sayL l)) then none else s.heap.get m) = _
    rw [if_neg (by omega)]

theorem putA_run0 {s : S} {d : LeafD} (hlen : d.load.length = 116) (hN : ∀ i, i < putN d → Nat.ble (s.next + i) lastName = true) :
    ∃ s1, (putA [.agg ⟨d.cells⟩]).run s = some (putV d s.next, s1) ∧ s1.next = s.next + putN d ∧
      (∀ m, (m < s.next ∨ s.next + putN d ≤ m) → s1.heap.get m = s.heap.get m) ∧ (rightL d = true → s1.heap.get (s.next + 9) = some (.cells (Tr.ofList ((putL d).map bv)) (putL d).length 5 .whole)) := by
  have e0 : (putA [.agg ⟨d.cells⟩]).run s = (match rightL d with
    | true => bump 9 (newB (putL d) fun r => bump 1 (.pure (.slice (some ⟨r, 0, none⟩) 128 128)))
    | false => bump 3 (.pure (.slice none 0 0))).run s := by
    show (opt (leafOf d.cells) fun d => match rightL d with
      | true => bump 9 (newB (putL d) fun r => bump 1 (.pure (.slice (some ⟨r, 0, none⟩) 128 128)))
      | false => bump 3 (.pure (.slice none 0 0))).run s = _
    rw [leafOf_cells d hlen]
    rfl
  rw [e0]
  unfold putN at hN ⊢
  unfold putV
  cases hR : rightL d with
  | false =>
    rw [hR] at hN
    obtain ⟨s1, a1, a2, a3, a6⟩ := bump_ok 3 (AM.pure (Value.slice none 0 0)) s hN
    exact ⟨s1, a1, a2, fun m h => by rw [a6 m, if_neg (by simp at h; omega)], fun h => by cases h⟩
  | true =>
    rw [hR] at hN
    simp only [if_true] at hN ⊢
    obtain ⟨s1, a1, a2, a3, a6⟩ := bump_ok 9 (newB (putL d) fun r => bump 1 (.pure (.slice (some ⟨r, 0, none⟩) 128 128))) s (fun i hi => hN i (by omega))
    have hN9 : Nat.ble (s.next + 9) lastName = true := hN 9 (by omega)
    obtain ⟨s2, b1, b2, b3, b6⟩ := bump_ok 1 (AM.pure (Value.slice (some ⟨s.next + 9, 0, none⟩) 128 128)) (s1.grow (.cells (Tr.ofList ((putL d).map bv)) (putL d).length 5 .whole))
      (fun i hi => by have : i = 0 := by omega
                      subst this
                      show Nat.ble (s1.next + 1) lastName = true
                      rw [a2]; exact hN 10 (by omega))
    have hg : ∀ m, (s1.grow (.cells (Tr.ofList ((putL d).map bv)) (putL d).length 5 .whole)).heap.get m = if m = s.next + 9 then some (.cells (Tr.ofList ((putL d).map bv)) (putL d).length 5 .whole) else s1.heap.get m := by
      intro m
      show (s1.heap.put s1.next _).get m = _
      rw [a2]
      by_cases h : m = s.next + 9
      · subst h; rw [hg_same hN9, if_pos rfl]
      · rw [hg_far hN9 h, if_neg h]
    have hnx : (s1.grow (.cells (Tr.ofList ((putL d).map bv)) (putL d).length 5 .whole)).next = s.next + 10 := by show s1.next + 1 = _; omega
    refine ⟨s2, ?_, by rw [b2, hnx], ?_, ?_⟩
    · rw [a1]
      simp only [newB, AM.run, force_eq]
      rw [a2]
      show (match Nat.ble (s.next + 9) lastName with | false => none | true => _) = _
      rw [hN9]
      have hs : (⟨s1.heap.put (s.next + 9) (some (.cells (Tr.ofList ((putL d).map bv)) (putL d).length 5 .whole)), Nat.succ (s.next + 9), s1.mark, s1.rd, s1.wr⟩ : S) = s1.grow (.cells (Tr.ofList ((putL d).map bv)) (putL d).length 5 .whole) := by
        show _ = S.mk _ _ _ _ _
        rw [a2]
      simp only [hs]
      exact b1
    · intro m h
      rw [b6 m, if_neg (by rw [hnx]; omega), hg m, if_neg (by omega), a6 m, if_neg (by omega)]
    · intro _
      rw [b6 _, if_neg (by rw [hnx]; omega), hg _, if_pos rfl]


end Go.Proofs.YtdkieabjjmhdlaaDoor.lf
end
end

section
/- Leaves: two leaves compared, whatever they are; a burst of bits in a right leaf's block is found. -/
noncomputable section
namespace Go.Proofs.YtdkieabjjmhdlaaDoor.lf
open AE
set_option linter.unusedSimpArgs false
set_option linter.unusedVariables false
set_option maxRecDepth 10000

theorem eq8_any (d : Nat) (x y : UInt8) : eqV E (d + 1) 5 (bv x) (bv y) = some (decide (x = y)) := by
  have h : eqI (Int.ofNat x.toNat) (Int.ofNat y.toNat) = decide (x = y) := by
    rw [eqI_lit]
    exact decide_eq_decide.2 ⟨fun e => UInt8.toNat_inj.1 e, fun e => by rw [e]⟩
  simp only [eqV, tyU8, dsU8, bv, h]
  rfl
theorem eqEs_any : ∀ (l m : List UInt8) (d : Nat), l.length = m.length → eqEs E (d + l.length + 2) 5 (l.map bv) (m.map bv) = some (decide (l = m))
  | [], [], d, _ => by simp [eqEs]
  | x :: l, y :: m, d, h => by
    simp only [List.map_cons, List.length_cons]
    show eqEs E ((d + l.length + 2) + 1) _ _ _ = _
    simp only [eqEs]
    rw [eq8_any]
    by_cases e : x = y
    · subst e
      rw [decide_eq_true rfl]
      show eqEs E (d + l.length + 2) _ _ _ = _
      rw [eqEs_any l m d (by simpa using h)]
      simp
    · rw [decide_eq_false e]
      show some false = _
      rw [decide_eq_false (by simp [e])]
  | [], _ :: _, d, h => by simp at h
  | _ :: _, [], d, h => by simp at h
theorem eqInt_any (d : Nat) (x y : Int) : eqV E (d + 1) 3 (.int .i64 x) (.int .i64 y) = some (decide (x = y)) := by
  have : eqI x y = decide (x = y) := by rw [eqI_eq]
  simp only [eqV, tyI, dsI, this]
  rfl
theorem eqArr_any (l m : List UInt8) (hl : l.length = 116) (hm : m.length = 116) : eqV E 993 22 (.agg ⟨l.map bv⟩) (.agg ⟨m.map bv⟩) = some (decide (l = m)) := by
  have h1 : arrB tiA tiU8 116 (l.map bv) (m.map bv) = true := by
    unfold arrB
    rw [gdA, dsU8, szU8, List.length_map, List.length_map, hl, hm]
    rfl
  have h2 := eqEs_any l m 874 (by rw [hl, hm])
  rw [hl] at h2
  show eqV E (992 + 1) _ _ _ = _
  simp only [eqV, tyA, dsA, tyU8, h1]
  exact h2
theorem part0 (d : LeafD) : partA tiI d.cells 0 = some (.int .i64 d.kind) := by unfold partA; rw [dsI]; rfl
theorem part1 (d : LeafD) : partA tiI d.cells 1 = some (.int .i64 d.file) := by unfold partA; rw [dsI]; rfl
theorem part2 (d : LeafD) : partA tiI d.cells 2 = some (.int .i64 d.place) := by unfold partA; rw [dsI]; rfl
theorem part3 (d : LeafD) : partA tiI d.cells 3 = some (.int .i64 d.next) := by unfold partA; rw [dsI]; rfl
theorem part4 (d : LeafD) : partA tiI d.cells 4 = some (.int .i64 d.size) := by unfold partA; rw [dsI]; rfl
theorem part5 (d : LeafD) (hd : d.load.length = 116) : partA tiA d.cells 5 = some (.agg ⟨d.load.map bv⟩) := by
  have hd5 : dropL 5 d.cells = some (d.load.map bv) := rfl
  have htk : takeL 116 (d.load.map bv) = some (d.load.map bv) := by
    have := takeL_all (d.load.map bv)
    rwa [List.length_map, hd] at this
  unfold partA
  rw [hd5, dsA, szA]
  simp only [isAggD, htk]
instance : DecidableEq LeafD := fun a b => if h : a.kind = b.kind ∧ a.file = b.file ∧ a.place = b.place ∧ a.next = b.next ∧ a.size = b.size ∧ a.load = b.load then isTrue (by cases a; cases b; simp_all) else isFalse (fun e => h (by subst e; exact ⟨rfl, rfl, rfl, rfl, rfl, rfl⟩))
theorem leaf_eq_iff (d e : LeafD) : (d = e) ↔ (d.kind = e.kind ∧ d.file = e.file ∧ d.place = e.place ∧ d.next = e.next ∧ d.size = e.size ∧ d.load = e.load) :=
  ⟨fun h => by subst h; exact ⟨rfl, rfl, rfl, rfl, rfl, rfl⟩, fun h => by cases d; cases e; simp_all⟩
theorem eqLeafV (d e : LeafD) (hd : d.load.length = 116) (he : e.load.length = 116) : eqV E 1000 24 (.agg ⟨d.cells⟩) (.agg ⟨e.cells⟩) = some (decide (d = e)) := by
  have hf : eqFs E 999 fsLf.toList d.cells e.cells = some (decide (d = e)) := by
    rw [fs_list]
    show eqFs E (998 + 1) _ _ _ = _
    simp only [eqFs, nm0, nm1, nm2, nm3, nm4, nm5, ft0, ft1, ft2, ft3, ft4, ft5, fo0, fo1, fo2, fo3, fo4, fo5, tyI, tyA, part0, part1, part2, part3, part4, part5 d hd, part5 e he, eqInt_any, eqArr_any d.load e.load hd he]
    by_cases h0 : d.kind = e.kind
    · by_cases h1 : d.file = e.file
      · by_cases h2 : d.place = e.place
        · by_cases h3 : d.next = e.next
          · by_cases h4 : d.size = e.size
            · by_cases h5 : d.load = e.load
              · have hx : d = e := (leaf_eq_iff d e).2 ⟨h0, h1, h2, h3, h4, h5⟩
                subst hx
                simp
              · have hx : ¬ d = e := fun hx => h5 ((leaf_eq_iff d e).1 hx).2.2.2.2.2
                simp [h0, h1, h2, h3, h4, h5, hx]
            · have hx : ¬ d = e := fun hx => h4 ((leaf_eq_iff d e).1 hx).2.2.2.2.1
              simp [h0, h1, h2, h3, h4, hx]
          · have hx : ¬ d = e := fun hx => h3 ((leaf_eq_iff d e).1 hx).2.2.2.1
            simp [h0, h1, h2, h3, hx]
        · have hx : ¬ d = e := fun hx => h2 ((leaf_eq_iff d e).1 hx).2.2.1
          simp [h0, h1, h2, hx]
      · have hx : ¬ d = e := fun hx => h1 ((leaf_eq_iff d e).1 hx).2.1
        simp [h0, h1, hx]
    · have hx : ¬ d = e := fun hx => h0 ((leaf_eq_iff d e).1 hx).1
      simp [h0, hx]
  show eqV E (999 + 1) _ _ _ = _
  simp only [eqV, tyLf, dsLf, gdLf]
  exact hf
theorem neqLf (d e : LeafD) (hd : d.load.length = 116) (he : e.load.length = 116) : binA E .neq 24 (.agg ⟨d.cells⟩) (.agg ⟨e.cells⟩) = some (.bool (!decide (d = e))) := by
  show someB (eqV E 1000 24 (.agg ⟨d.cells⟩) (.agg ⟨e.cells⟩)) false = _
  rw [eqLeafV d e hd he]
  rfl
theorem eqlLf (d e : LeafD) (hd : d.load.length = 116) (he : e.load.length = 116) : binA E .eql 24 (.agg ⟨d.cells⟩) (.agg ⟨e.cells⟩) = some (.bool (decide (d = e))) := by
  show someB (eqV E 1000 24 (.agg ⟨d.cells⟩) (.agg ⟨e.cells⟩)) true = _
  rw [eqLeafV d e hd he]
  rfl

/-! the sum of a block that is closed -/
theorem crcL_R : ∀ (l : List UInt8) (r : Nat), crcR l r = crcL l r
  | [], r => rfl
  | x :: l, r => crcL_R l _
theorem crcL_app : ∀ (a b : List UInt8) (r : Nat), crcL (a ++ b) r = crcL b (crcL a r)
  | [], b, r => rfl
  | x :: a, b, r => crcL_app a b _
theorem crcByte_lt {r : Nat} (h : r < 4294967296) (x : UInt8) : crcByte r x.toNat < 4294967296 := by
  rw [crcByte_steps]
  have hx : x.toNat < 4294967296 := by have := x.toNat_lt; omega
  exact steps_lt 8 _ (Nat.xor_lt_two_pow (n := 32) h hx)
theorem crcL_lt : ∀ (l : List UInt8) (r : Nat), r < 4294967296 → crcL l r < 4294967296
  | [], r, h => h
  | x :: l, r, h => crcL_lt l _ (crcByte_lt h x)
theorem val_sum4 (c : Nat) (hc : c < 4294967296) : valL (sum4 c) = c := by
  simp only [sum4, valL, UInt8.toNat_ofNat', Nat.shiftRight_eq_div_pow]
  omega
theorem closed_sum (a : List UInt8) : crcL (closeL a) 4294967295 = steps 32 4294967295 := by
  unfold closeL
  rw [crcL_app, crcL_N (sum4 _)]
  have hr : crcL a 4294967295 < 4294967296 := crcL_lt a _ (by decide)
  have hc : crc32 a < 4294967296 := by
    unfold crc32
    rw [crcL_R]
    exact Nat.xor_lt_two_pow (n := 32) (by decide) hr
  rw [val_sum4 _ hc]
  have h1 := steps_xor 32 (crcL a 4294967295) (crc32 a)
  have h2 : crc32 a / 2 ^ 32 = 0 := Nat.div_eq_of_lt hc
  rw [h2, Nat.xor_zero] at h1
  show crcN 32 (crc32 a) (crcL a 4294967295) = _
  rw [← h1]
  unfold crc32
  rw [crcL_R]
  show steps 32 (crcL a 4294967295 ^^^ (4294967295 ^^^ crcL a 4294967295)) = _
  rw [Nat.xor_comm 4294967295, ← Nat.xor_assoc, Nat.xor_self, Nat.zero_xor]
theorem ok_sum {l : List UInt8} (h : getOK l = true) : crcL l 4294967295 = steps 32 4294967295 := by
  unfold getOK at h
  rw [Bool.and_eq_true, eqBytes_iff] at h
  have h2 : putL (sayL l) = l := of_decide_eq_true h.2
  rw [← h2]
  exact closed_sum _
/-- two right blocks that differ by a burst are the same -/
theorem burst_found {l l' : List UInt8} (hl : l.length = 128) (hl' : l'.length = 128) (x b : Nat) (hx : x < 4294967296) (hb : b ≤ 992) (hv : valL l' = valL l ^^^ (x * 2 ^ b)) (h : getOK l = true) (h' : getOK l' = true) : x = 0 := by
  have e1 := ok_sum h
  have e2 := ok_sum h'
  rw [crcL_N, hl] at e1
  rw [crcL_N, hl', hv] at e2
  have e3 := crcN_xor (8 * 128) (valL l) (x * 2 ^ b) 4294967295 0
  rw [Nat.xor_zero] at e3
  rw [e3, e1] at e2
  have e4 : crcN (8 * 128) (x * 2 ^ b) 0 = 0 := by
    have := congrArg (steps 32 4294967295 ^^^ ·) e2
    simpa [← Nat.xor_assoc] using this
  exact burst_none (8 * 128) b x hx (by omega) e4
theorem valL_inj : ∀ (l l' : List UInt8), l.length = l'.length → valL l = valL l' → l = l'
  | [], [], _, _ => rfl
  | x :: l, y :: l', h, e => by
    have hx : x.toNat < 256 := x.toNat_lt
    have hy : y.toNat < 256 := y.toNat_lt
    have e' : x.toNat + 256 * valL l = y.toNat + 256 * valL l' := e
    have e1 : x.toNat = y.toNat := by omega
    have e2 : valL l = valL l' := by omega
    rw [UInt8.toNat_inj.1 e1, valL_inj l l' (by simpa using h) e2]
  | [], _ :: _, h, _ => by simp at h
  | _ :: _, [], h, _ => by simp at h
/-- the block with the burst's first k bits -/
def flipL (l : List UInt8) (x b : Nat) : Nat → List UInt8
  | 0 => l
  | k + 1 => if Nat.testBit x k = true then (flipL l x b k).set ((b + k) / 8) ((flipL l x b k).getD ((b + k) / 8) 0 ^^^ UInt8.ofNat (2 ^ ((b + k) % 8))) else flipL l x b k
theorem flip_len (l : List UInt8) (x b : Nat) : ∀ k, (flipL l x b k).length = l.length
  | 0 => rfl
  | k + 1 => by
    unfold flipL
    split
    · rw [List.length_set]; exact flip_len l x b k
    · exact flip_len l x b k
theorem mod_step (x k : Nat) : x % 2 ^ (k + 1) = (x % 2 ^ k) ^^^ (if Nat.testBit x k = true then 2 ^ k else 0) := by
  apply Nat.eq_of_testBit_eq
  intro j
  rw [Nat.testBit_xor, Nat.testBit_mod_two_pow, Nat.testBit_mod_two_pow]
  by_cases h : Nat.testBit x k = true
  · rw [if_pos h, Nat.testBit_two_pow]
    by_cases e : k = j
    · subst e; simp [h]
    · have e1 : (j < k + 1) ↔ j < k := by omega
      simp [e, e1]
  · rw [if_neg h, Nat.zero_testBit, Bool.xor_false]
    by_cases e : k = j
    · subst e; simp at h; simp [h]
    · have e1 : (j < k + 1) ↔ j < k := by omega
      simp [e1]
theorem flip_val (l : List UInt8) (x b : Nat) (hl : l.length = 128) (hb : b ≤ 992) : ∀ k, k ≤ 32 → valL (flipL l x b k) = valL l ^^^ ((x % 2 ^ k) * 2 ^ b)
  | 0, _ => by simp [flipL, Nat.mod_one]
  | k + 1, hk => by
    have ih := flip_val l x b hl hb k (by omega)
    have hlen := flip_len l x b k
    unfold flipL
    rw [mod_step]
    by_cases h : Nat.testBit x k = true
    · rw [if_pos h, if_pos h]
      have hi : (b + k) / 8 < (flipL l x b k).length := by rw [hlen, hl]; omega
      have hg : (flipL l x b k)[(b + k) / 8]? = some ((flipL l x b k).getD ((b + k) / 8) 0) := by
        rw [List.getD_eq_getElem?_getD, List.getElem?_eq_getElem hi]; rfl
      rw [valL_set _ _ _ _ hg, ih]
      have hm : (UInt8.ofNat (2 ^ ((b + k) % 8))).toNat = 2 ^ ((b + k) % 8) := by
        apply UInt8.toNat_ofNat_of_lt'
        have : 2 ^ ((b + k) % 8) ≤ 2 ^ 7 := Nat.pow_le_pow_right (by omega) (by omega)
        have : (2 : Nat) ^ 7 = 128 := by decide
        show _ < 256
        omega
      rw [hm, ← Nat.pow_add, show (b + k) % 8 + 8 * ((b + k) / 8) = k + b by omega, Nat.pow_add, Nat.xor_assoc]
      congr 1
      have d1 : ∀ a c : Nat, (a ^^^ c) * 2 ^ b = (a * 2 ^ b) ^^^ (c * 2 ^ b) := fun a c => by
        rw [← Nat.shiftLeft_eq, ← Nat.shiftLeft_eq, ← Nat.shiftLeft_eq, Nat.shiftLeft_xor_distrib]
      rw [d1]
    · rw [if_neg h, if_neg h, Nat.xor_zero]
      exact ih
/-- what comes of a burst -/
theorem flip_all (l : List UInt8) (x b : Nat) (hl : l.length = 128) (hb : b ≤ 992) (hx : x < 4294967296) (h : getOK l = true) : getOK (flipL l x b 32) = decide (x = 0) := by
  have hv := flip_val l x b hl hb 32 (by omega)
  rw [Nat.mod_eq_of_lt hx] at hv
  by_cases e : x = 0
  · subst e
    rw [Nat.zero_mul, Nat.xor_zero] at hv
    rw [valL_inj _ _ (flip_len l 0 b 32) hv, h]
    rfl
  · rw [decide_eq_false e]
    cases hh : getOK (flipL l x b 32) with
    | false => rfl
    | true => exact absurd (burst_found hl (by rw [flip_len, hl]) x b hx hb hv h hh) e
end Go.Proofs.YtdkieabjjmhdlaaDoor.lf
end
end

section
/- Leaves: two lists of bytes compared by the laws' own loop. -/
noncomputable section
namespace Go.Proofs.YtdkieabjjmhdlaaDoor.lf
open AE
set_option linter.unusedSimpArgs false
set_option linter.unusedVariables false
set_option maxRecDepth 10000

/-- the bytes of a slice, which may be nil -/
def rdA (a : Option Addr) (n : Nat) (k : List UInt8 → AM Value) : AM Value := match a with
  | none => match n with
    | 0 => k []
    | _ + 1 => .fail
  | some ad => loadA ad n fun cs => opt (bytesV cs) k
/-- a slice's bytes -/
def Bx (s : S) (a : Option Addr) (l : List UInt8) : Prop := match a with
  | none => l = []
  | some ad => Bs s ad l
theorem Bx.rd {s s' : S} {a : Option Addr} {l : List UInt8} (h : Bx s a l) (hr : Rd s s') : Bx s' a l := by
  cases a with
  | none => exact h
  | some ad => exact Bs.rd h hr
theorem bx_of_rd {a : Option Addr} {n : Nat} {k : List UInt8 → AM Value} {s : S} {r : Value × S} (h : (rdA a n k).run s = some r) : ∃ l s1, l.length = n ∧ Bx s a l ∧ Rd s s1 ∧ (k l).run s1 = some r := by
  cases a with
  | none =>
    cases n with
    | zero => exact ⟨[], s, rfl, rfl, Rd.refl s, h⟩
    | succ n => cases h
  | some ad =>
    obtain ⟨l, hl, hb, h2⟩ := bs_of_load h
    exact ⟨l, _, hl, hb, Rd.seen s _, h2⟩
theorem rdA_run {s : S} {a : Option Addr} {l : List UInt8} (h : Bx s a l) (k : List UInt8 → AM Value) : ∃ s1, (rdA a l.length k).run s = (k l).run s1 ∧ Rd s s1 ∧ (s.mark ≤ s.next → s1.wr = s.wr) := by
  cases a with
  | none => obtain rfl : l = [] := h; exact ⟨s, rfl, Rd.refl s, fun _ => rfl⟩
  | some ad =>
    refine ⟨s.seen ad.block, ?_, Rd.seen s _, fun _ => rfl⟩
    show (loadA ad l.length fun cs => opt (bytesV cs) k).run s = _
    rw [loadA_run h, bytesV_map]
    rfl
def sameA : List Value → AM Value
  | [.slice a n c, .slice a2 n2 c2] => when (Nat.ble n 1000000) (match Nat.beq n n2 with
    | false => .pure (.bool false)
    | true => rdA a n fun l => rdA a2 n fun l2 => .pure (.bool (eqBytes l l2)))
  | _ => .fail
noncomputable def fiSm : FI := FI.of Tryd.f11
noncomputable def cdSm : Code := bodyOf Tryd.f11
noncomputable def cdSml : Code := sub [1,1,0,1,0,0] cdSm
theorem resSm : fiSm.results = [.tmp 4] := rfl
theorem b_neqI {E t} (x y : Int) : binA E .neq t (.int .i64 x) (.int .i64 y) = some (.bool (not (eqI x y))) := rfl
theorem b_neq8 {E t} (x y : Int) : binA E .neq t (.int .u8 x) (.int .u8 y) = some (.bool (not (eqI x y))) := rfl

def InvSm (a a2 : Option Addr) (c c2 : Nat) (l l2 : List UInt8) (s0 : S) (k : Nat) (fr : Fr) (s : S) : Prop :=
  ∃ (i : Nat) (t : Tr Value), k = l.length - i ∧ i ≤ l.length ∧ fr = ⟨11, t, 26, [], none⟩ ∧ Rd s0 s ∧ t.get 0 = some (.slice a l.length c) ∧ t.get 1 = some (.slice a2 l.length c2) ∧ t.get 5 = some (.int .i64 (.ofNat i)) ∧
    (∀ j, j < i → l[j]? = l2[j]?)
def PostSm (l l2 : List UInt8) (s0 : S) (x : Ex) (fr : Fr) (s : S) : Prop :=
  ∃ t : Tr Value, fr = ⟨11, t, 26, [], none⟩ ∧ Rd s0 s ∧ ((x = .exit 0 ∧ l = l2) ∨ (x = .ret ∧ l ≠ l2 ∧ t.get 4 = some (.bool false)))
theorem same_round (a a2 : Option Addr) (c c2 : Nat) (l l2 : List UInt8) (s0 : S) (hl : l.length ≤ 1000000) (hl2 : l2.length = l.length) (hb : Bx s0 a l) (hb2 : Bx s0 a2 l2) (k : Nat) (fr : Fr) (s : S) (h : InvSm a a2 c c2 l l2 s0 k fr s) :
    GoC E (sumsOf []) cdSml fr s (Again (InvSm a a2 c c2 l l2 s0) k (PostSm l l2 s0)) := by
  obtain ⟨i, t, rfl, hi, rfl, hr, h0, h1, h5, hz⟩ := h
  simp only [cdSml, cdSm, Tryd.f11, bodyOf, sub]
  by_cases hlt : i < l.length
  · obtain ⟨x, hx⟩ : ∃ x, l[i]? = some x := ⟨_, List.getElem?_eq_getElem hlt⟩
    obtain ⟨y, hy⟩ : ∃ y, l2[i]? = some y := ⟨_, List.getElem?_eq_getElem (by omega)⟩
    cases a with
    | none => obtain rfl : l = [] := hb; simp at hlt
    | some ad =>
      cases a2 with
      | none => obtain rfl : l2 = [] := hb2; simp at hy
      | some ad2 =>
        have hlt' : ltI (Int.ofNat i) (Int.ofNat l.length) = true := by rw [ltI_eq]; simp; omega
        have hbl : Nat.blt i l.length = true := blt_iff.2 hlt
        have B1 : Bs ⟨s.heap, s.next, s.next, 0, 0⟩ ad l := (Bs.rd hb hr).of rfl rfl
        have B2 : Bs ⟨s.heap, s.next, s.next, 0, 0⟩ ad2 l2 := (Bs.rd hb2 hr).of rfl rfl
        have lx := sum.byte_load (Bs.at B1 hx) tiU8 dsU8
        have ly := sum.byte_load (Bs.at B2 hy) tiU8 dsU8
        simp only [S.seen] at lx ly
        have hinc := b_incr (n := i) (by omega)
        repeat apply go_seq
        apply go_region
        case h => intro m; simp (maxSteps := 2000000) (disch := decide) only [opsLoop, evOper, wantedA, nth, aop, aPick, aBin, aIndexAddr, aFieldAddr, aLoad, aStore, aExtract, aConvert, aAlloc, aBox, aIndex, callA, builtinA, Fr.evs, opt, val, when, AM.run, outV, newA, ptr, force_eq, seen_heap, seen_next, seen_mark, seen_seen, agg_cells, int_cells, Fr.ev, Fr.put, onFr, gps, gpn, bltT, still, flat, List.append_nil, List.nil_append, List.cons_append, Nat.reduceEqDiff, ne_eq, not_false_eq_true, reduceCtorEq, Bool.and_true, Bool.true_and, Bool.and_false, Bool.false_and, Bool.not_true, Bool.not_false, Bool.and_self, h0, h5, tyB, dsB, b_lss, hlt']; rfl
        repeat apply go_seq
        apply go_cond
        case hc => simp (disch := decide) only [opsLoop, evOper, wantedA, nth, aop, aPick, aBin, aIndexAddr, aFieldAddr, aLoad, aStore, aExtract, aConvert, aAlloc, aBox, aIndex, callA, builtinA, Fr.evs, opt, val, when, AM.run, outV, newA, ptr, force_eq, seen_heap, seen_next, seen_mark, seen_seen, agg_cells, int_cells, Fr.ev, Fr.put, onFr, gps, gpn, bltT, still, flat, List.append_nil, List.nil_append, List.cons_append, Nat.reduceEqDiff, ne_eq, not_false_eq_true, reduceCtorEq, Bool.and_true, Bool.true_and, Bool.and_false, Bool.false_and, Bool.not_true, Bool.not_false, Bool.and_self]; rfl
        case h2 => intro h; cases h
        intro _
        apply go_skip
        apply go_seq
        apply go_block
        repeat apply go_seq
        apply go_drawn
        case hs => rfl
        case h => intro m; simp (maxSteps := 2000000) (disch := decide) only [opsLoop, evOper, wantedA, nth, aop, aPick, aBin, aIndexAddr, aFieldAddr, aLoad, aStore, aExtract, aConvert, aAlloc, aBox, aIndex, callA, Fr.evs, opt, val, when, AM.run, outV, newA, ptr, force_eq, seen_heap, seen_next, seen_mark, seen_seen, agg_cells, int_cells, Fr.ev, Fr.put, onFr, gps, gpn, bltT, still, flat, List.append_nil, List.nil_append, List.cons_append, Nat.reduceEqDiff, ne_eq, not_false_eq_true, reduceCtorEq, Bool.and_true, Bool.true_and, Bool.and_false, Bool.false_and, Bool.not_true, Bool.not_false, Bool.and_self, drawnLoop, keep_none, clash_nil, clash_reads, created_self, lor_zero, lor_zero', h0, h1, h5, tyB, dsB, tyU8, dsU8, szU8, hbl, mul1, lx, ly, b_neq8, clash_bef]; rfl
        by_cases e : x = y
        · subst e
          simp only [eqI_t, Bool.not_true]
          repeat apply go_seq
          apply go_cond
          case hc => simp (disch := decide) only [opsLoop, evOper, wantedA, nth, aop, aPick, aBin, aIndexAddr, aFieldAddr, aLoad, aStore, aExtract, aConvert, aAlloc, aBox, aIndex, callA, builtinA, Fr.evs, opt, val, when, AM.run, outV, newA, ptr, force_eq, seen_heap, seen_next, seen_mark, seen_seen, agg_cells, int_cells, Fr.ev, Fr.put, onFr, gps, gpn, bltT, still, flat, List.append_nil, List.nil_append, List.cons_append, Nat.reduceEqDiff, ne_eq, not_false_eq_true, reduceCtorEq, Bool.and_true, Bool.true_and, Bool.and_false, Bool.false_and, Bool.not_true, Bool.not_false, Bool.and_self]; rfl
          case h1 => intro h; cases h
          intro _
          apply go_skip
          repeat apply go_seq
          apply go_region
          case h => intro m; simp (maxSteps := 2000000) (disch := decide) only [opsLoop, evOper, wantedA, nth, aop, aPick, aBin, aIndexAddr, aFieldAddr, aLoad, aStore, aExtract, aConvert, aAlloc, aBox, aIndex, callA, builtinA, Fr.evs, opt, val, when, AM.run, outV, newA, ptr, force_eq, seen_heap, seen_next, seen_mark, seen_seen, agg_cells, int_cells, Fr.ev, Fr.put, onFr, gps, gpn, bltT, still, flat, List.append_nil, List.nil_append, List.cons_append, Nat.reduceEqDiff, ne_eq, not_false_eq_true, reduceCtorEq, Bool.and_true, Bool.true_and, Bool.and_false, Bool.false_and, Bool.not_true, Bool.not_false, Bool.and_self, h5, int1, hinc]; rfl
          refine ⟨l.length - (i + 1), by omega, i + 1, _, rfl, by omega, rfl, ⟨hr.heap, hr.next, hr.mark⟩, ?_, ?_, ?_, ?_⟩
          · simp (disch := decide) only [gps, gpn, h0]
          · simp (disch := decide) only [gps, gpn, h1]
          · simp (disch := decide) only [gps, gpn]
          · intro j hj
            by_cases e : j = i
            · subst e; rw [hx, hy]
            · exact hz j (by omega)
        · have hne : eqI (Int.ofNat x.toNat) (Int.ofNat y.toNat) = false := eqI_f (fun h => e (UInt8.toNat_inj.1 h))
          simp only [hne, Bool.not_false]
          repeat apply go_seq
          apply go_cond
          case hc => simp (disch := decide) only [opsLoop, evOper, wantedA, nth, aop, aPick, aBin, aIndexAddr, aFieldAddr, aLoad, aStore, aExtract, aConvert, aAlloc, aBox, aIndex, callA, builtinA, Fr.evs, opt, val, when, AM.run, outV, newA, ptr, force_eq, seen_heap, seen_next, seen_mark, seen_seen, agg_cells, int_cells, Fr.ev, Fr.put, onFr, gps, gpn, bltT, still, flat, List.append_nil, List.nil_append, List.cons_append, Nat.reduceEqDiff, ne_eq, not_false_eq_true, reduceCtorEq, Bool.and_true, Bool.true_and, Bool.and_false, Bool.false_and, Bool.not_true, Bool.not_false, Bool.and_self]; rfl
          case h2 => intro h; cases h
          intro _
          repeat apply go_seq
          apply go_region
          case h => intro m; simp (maxSteps := 2000000) (disch := decide) only [opsLoop, evOper, wantedA, nth, aop, aPick, aBin, aIndexAddr, aFieldAddr, aLoad, aStore, aExtract, aConvert, aAlloc, aBox, aIndex, callA, builtinA, Fr.evs, opt, val, when, AM.run, outV, newA, ptr, force_eq, seen_heap, seen_next, seen_mark, seen_seen, agg_cells, int_cells, Fr.ev, Fr.put, onFr, gps, gpn, bltT, still, flat, List.append_nil, List.nil_append, List.cons_append, Nat.reduceEqDiff, ne_eq, not_false_eq_true, reduceCtorEq, Bool.and_true, Bool.true_and, Bool.and_false, Bool.false_and, Bool.not_true, Bool.not_false, Bool.and_self]; rfl
          apply go_ret
          refine ⟨_, rfl, ⟨hr.heap, hr.next, hr.mark⟩, .inr ⟨rfl, fun e2 => ?_, ?_⟩⟩
          · subst e2; rw [hx] at hy; exact e (Option.some.inj hy)
          · simp (disch := decide) only [gps, gpn]
  · obtain rfl : i = l.length := by omega
    have hlt' : ltI (Int.ofNat l.length) (Int.ofNat l.length) = false := by rw [ltI_eq]; simp
    repeat apply go_seq
    apply go_region
    case h => intro m; simp (maxSteps := 2000000) (disch := decide) only [opsLoop, evOper, wantedA, nth, aop, aPick, aBin, aIndexAddr, aFieldAddr, aLoad, aStore, aExtract, aConvert, aAlloc, aBox, aIndex, callA, builtinA, Fr.evs, opt, val, when, AM.run, outV, newA, ptr, force_eq, seen_heap, seen_next, seen_mark, seen_seen, agg_cells, int_cells, Fr.ev, Fr.put, onFr, gps, gpn, bltT, still, flat, List.append_nil, List.nil_append, List.cons_append, Nat.reduceEqDiff, ne_eq, not_false_eq_true, reduceCtorEq, Bool.and_true, Bool.true_and, Bool.and_false, Bool.false_and, Bool.not_true, Bool.not_false, Bool.and_self, h0, h5, tyB, dsB, b_lss, hlt']; rfl
    repeat apply go_seq
    apply go_cond
    case hc => simp (disch := decide) only [opsLoop, evOper, wantedA, nth, aop, aPick, aBin, aIndexAddr, aFieldAddr, aLoad, aStore, aExtract, aConvert, aAlloc, aBox, aIndex, callA, builtinA, Fr.evs, opt, val, when, AM.run, outV, newA, ptr, force_eq, seen_heap, seen_next, seen_mark, seen_seen, agg_cells, int_cells, Fr.ev, Fr.put, onFr, gps, gpn, bltT, still, flat, List.append_nil, List.nil_append, List.cons_append, Nat.reduceEqDiff, ne_eq, not_false_eq_true, reduceCtorEq, Bool.and_true, Bool.true_and, Bool.and_false, Bool.false_and, Bool.not_true, Bool.not_false, Bool.and_self]; rfl
    case h1 => intro h; cases h
    intro _
    apply go_exit
    refine ⟨_, rfl, hr, .inl ⟨rfl, List.ext_getElem? fun j => ?_⟩⟩
    by_cases hj : j < l.length
    · exact hz j hj
    · rw [List.getElem?_eq_none (by omega), List.getElem?_eq_none (by omega)]

theorem told_same : AE.Told Tryd.prog 11 sameA := by
  refine told_go hE hmix tolds_nil ?_
  intro args s v s' h hm
  unfold sameA at h
  split at h
  · rename_i a n c a2 n2 c2
    obtain ⟨hc, h2⟩ := run_when h
    have hn := ble_iff.1 hc
    refine go_enter (fi := fiSm) (c := cdSm) (by kernel_rfl) (by kernel_rfl) 26 rfl rfl ?_
    have hcode : cdSm = .seq (sub [0] cdSm) (.seq (sub [1,0] cdSm) (.seq (.seq (sub [1,1,0,0] cdSm) (.block 0 (.loop cdSml))) (sub [1,1,1] cdSm))) := rfl
    rw [hcode]
    have h0 : (Tr.ofList [Value.slice a n c, .slice a2 n2 c2]).get 0 = some (.slice a n c) := rfl
    have h1 : (Tr.ofList [Value.slice a n c, .slice a2 n2 c2]).get 1 = some (.slice a2 n2 c2) := rfl
    generalize Tr.ofList [Value.slice a n c, .slice a2 n2 c2] = t at *
    simp only [cdSm, Tryd.f11, bodyOf, sub]
    cases hbq : Nat.beq n n2 with
    | false =>
      rw [hbq] at h2
      cases h2
      have hne : eqI (Int.ofNat n) (Int.ofNat n2) = false := eqI_f (fun e => by subst e; rw [beq_iff.2 rfl] at hbq; cases hbq)
      repeat apply go_seq
      apply go_region
      case h => intro m; simp (maxSteps := 2000000) (disch := decide) only [opsLoop, evOper, wantedA, nth, aop, aPick, aBin, aIndexAddr, aFieldAddr, aLoad, aStore, aExtract, aConvert, aAlloc, aBox, aIndex, callA, builtinA, Fr.evs, opt, val, when, AM.run, outV, newA, ptr, force_eq, seen_heap, seen_next, seen_mark, seen_seen, agg_cells, int_cells, Fr.ev, Fr.put, onFr, gps, gpn, bltT, still, flat, List.append_nil, List.nil_append, List.cons_append, Nat.reduceEqDiff, ne_eq, not_false_eq_true, reduceCtorEq, Bool.and_true, Bool.true_and, Bool.and_false, Bool.false_and, Bool.not_true, Bool.not_false, Bool.and_self]; rfl
      repeat apply go_seq
      apply go_region
      case h => intro m; simp (maxSteps := 2000000) (disch := decide) only [opsLoop, evOper, wantedA, nth, aop, aPick, aBin, aIndexAddr, aFieldAddr, aLoad, aStore, aExtract, aConvert, aAlloc, aBox, aIndex, callA, builtinA, Fr.evs, opt, val, when, AM.run, outV, newA, ptr, force_eq, seen_heap, seen_next, seen_mark, seen_seen, agg_cells, int_cells, Fr.ev, Fr.put, onFr, gps, gpn, bltT, still, flat, List.append_nil, List.nil_append, List.cons_append, Nat.reduceEqDiff, ne_eq, not_false_eq_true, reduceCtorEq, Bool.and_true, Bool.true_and, Bool.and_false, Bool.false_and, Bool.not_true, Bool.not_false, Bool.and_self, h0, h1, tyB, dsB, b_neqI, hne]; rfl
      repeat apply go_seq
      apply go_cond
      case hc => simp (disch := decide) only [opsLoop, evOper, wantedA, nth, aop, aPick, aBin, aIndexAddr, aFieldAddr, aLoad, aStore, aExtract, aConvert, aAlloc, aBox, aIndex, callA, builtinA, Fr.evs, opt, val, when, AM.run, outV, newA, ptr, force_eq, seen_heap, seen_next, seen_mark, seen_seen, agg_cells, int_cells, Fr.ev, Fr.put, onFr, gps, gpn, bltT, still, flat, List.append_nil, List.nil_append, List.cons_append, Nat.reduceEqDiff, ne_eq, not_false_eq_true, reduceCtorEq, Bool.and_true, Bool.true_and, Bool.and_false, Bool.false_and, Bool.not_true, Bool.not_false, Bool.and_self]; rfl
      case h2 => intro h; cases h
      intro _
      repeat apply go_seq
      apply go_region
      case h => intro m; simp (maxSteps := 2000000) (disch := decide) only [opsLoop, evOper, wantedA, nth, aop, aPick, aBin, aIndexAddr, aFieldAddr, aLoad, aStore, aExtract, aConvert, aAlloc, aBox, aIndex, callA, builtinA, Fr.evs, opt, val, when, AM.run, outV, newA, ptr, force_eq, seen_heap, seen_next, seen_mark, seen_seen, agg_cells, int_cells, Fr.ev, Fr.put, onFr, gps, gpn, bltT, still, flat, List.append_nil, List.nil_append, List.cons_append, Nat.reduceEqDiff, ne_eq, not_false_eq_true, reduceCtorEq, Bool.and_true, Bool.true_and, Bool.and_false, Bool.false_and, Bool.not_true, Bool.not_false, Bool.and_self]; rfl
      repeat apply go_seq
      apply go_ret
      apply ret_intro rfl rfl
      case run => simp (disch := decide) only [resultsM, resultsA, resSm, opsLoop, evOper, wantedA, nth, aop, aPick, aBin, aIndexAddr, aFieldAddr, aLoad, aStore, aExtract, aConvert, aAlloc, aBox, aIndex, callA, builtinA, Fr.evs, opt, val, when, AM.run, outV, newA, ptr, force_eq, seen_heap, seen_next, seen_mark, seen_seen, agg_cells, int_cells, Fr.ev, Fr.put, onFr, gps, gpn, bltT, still, flat, List.append_nil, List.nil_append, List.cons_append, Nat.reduceEqDiff, ne_eq, not_false_eq_true, reduceCtorEq, Bool.and_true, Bool.true_and, Bool.and_false, Bool.false_and, Bool.not_true, Bool.not_false, Bool.and_self]; rfl
      exact ⟨rfl, Less'.refl _⟩
    | true =>
      rw [hbq] at h2
      obtain rfl := beq_iff.1 hbq
      obtain ⟨l, s1, hl, hb, hr1, h3⟩ := bx_of_rd h2
      obtain ⟨l2, s2, hl2, hb2, hr2, h4⟩ := bx_of_rd h3
      cases h4
      have heq : eqI (Int.ofNat n) (Int.ofNat n) = true := eqI_t n
      repeat apply go_seq
      apply go_region
      case h => intro m; simp (maxSteps := 2000000) (disch := decide) only [opsLoop, evOper, wantedA, nth, aop, aPick, aBin, aIndexAddr, aFieldAddr, aLoad, aStore, aExtract, aConvert, aAlloc, aBox, aIndex, callA, builtinA, Fr.evs, opt, val, when, AM.run, outV, newA, ptr, force_eq, seen_heap, seen_next, seen_mark, seen_seen, agg_cells, int_cells, Fr.ev, Fr.put, onFr, gps, gpn, bltT, still, flat, List.append_nil, List.nil_append, List.cons_append, Nat.reduceEqDiff, ne_eq, not_false_eq_true, reduceCtorEq, Bool.and_true, Bool.true_and, Bool.and_false, Bool.false_and, Bool.not_true, Bool.not_false, Bool.and_self]; rfl
      repeat apply go_seq
      apply go_region
      case h => intro m; simp (maxSteps := 2000000) (disch := decide) only [opsLoop, evOper, wantedA, nth, aop, aPick, aBin, aIndexAddr, aFieldAddr, aLoad, aStore, aExtract, aConvert, aAlloc, aBox, aIndex, callA, builtinA, Fr.evs, opt, val, when, AM.run, outV, newA, ptr, force_eq, seen_heap, seen_next, seen_mark, seen_seen, agg_cells, int_cells, Fr.ev, Fr.put, onFr, gps, gpn, bltT, still, flat, List.append_nil, List.nil_append, List.cons_append, Nat.reduceEqDiff, ne_eq, not_false_eq_true, reduceCtorEq, Bool.and_true, Bool.true_and, Bool.and_false, Bool.false_and, Bool.not_true, Bool.not_false, Bool.and_self, h0, h1, tyB, dsB, b_neqI, heq]; rfl
      repeat apply go_seq
      apply go_cond
      case hc => simp (disch := decide) only [opsLoop, evOper, wantedA, nth, aop, aPick, aBin, aIndexAddr, aFieldAddr, aLoad, aStore, aExtract, aConvert, aAlloc, aBox, aIndex, callA, builtinA, Fr.evs, opt, val, when, AM.run, outV, newA, ptr, force_eq, seen_heap, seen_next, seen_mark, seen_seen, agg_cells, int_cells, Fr.ev, Fr.put, onFr, gps, gpn, bltT, still, flat, List.append_nil, List.nil_append, List.cons_append, Nat.reduceEqDiff, ne_eq, not_false_eq_true, reduceCtorEq, Bool.and_true, Bool.true_and, Bool.and_false, Bool.false_and, Bool.not_true, Bool.not_false, Bool.and_self]; rfl
      case h1 => intro h; cases h
      intro _
      apply go_skip
      repeat apply go_seq
      apply go_region
      case h => intro m; simp (maxSteps := 2000000) (disch := decide) only [opsLoop, evOper, wantedA, nth, aop, aPick, aBin, aIndexAddr, aFieldAddr, aLoad, aStore, aExtract, aConvert, aAlloc, aBox, aIndex, callA, builtinA, Fr.evs, opt, val, when, AM.run, outV, newA, ptr, force_eq, seen_heap, seen_next, seen_mark, seen_seen, agg_cells, int_cells, Fr.ev, Fr.put, onFr, gps, gpn, bltT, still, flat, List.append_nil, List.nil_append, List.cons_append, Nat.reduceEqDiff, ne_eq, not_false_eq_true, reduceCtorEq, Bool.and_true, Bool.true_and, Bool.and_false, Bool.false_and, Bool.not_true, Bool.not_false, Bool.and_self]; rfl
      apply go_block
      subst hl
      refine (go_loop_inv (InvSm a a2 c c2 l l2 s) (fun k fr s1 hI => same_round a a2 c c2 l l2 s hn hl2 hb (hb2.rd ⟨hr1.heap.symm, hr1.next.symm, hr1.mark.symm⟩) k fr s1 hI) (l.length - 0) _ _ ⟨0, _, rfl, by omega, rfl, Rd.refl s, ?_, ?_, ?_, fun j hj => by omega⟩).mono ?_
      · simp (disch := decide) only [gps, gpn, h0]
      · simp (disch := decide) only [gps, gpn, h1]
      · simp (disch := decide) only [gps, gpn, int0]
      rintro x fr s3 ⟨t1, rfl, hr3, hx⟩
      have hless : Less' s3 s' := hr3.less (hr1.trans hr2)
      rcases hx with ⟨rfl, rfl⟩ | ⟨rfl, hne, g4⟩
      · simp only [Out_, if_true]
        show GoC E _ _ _ _ _
        repeat apply go_seq
        apply go_region
        case h => intro m; simp (maxSteps := 2000000) (disch := decide) only [opsLoop, evOper, wantedA, nth, aop, aPick, aBin, aIndexAddr, aFieldAddr, aLoad, aStore, aExtract, aConvert, aAlloc, aBox, aIndex, callA, builtinA, Fr.evs, opt, val, when, AM.run, outV, newA, ptr, force_eq, seen_heap, seen_next, seen_mark, seen_seen, agg_cells, int_cells, Fr.ev, Fr.put, onFr, gps, gpn, bltT, still, flat, List.append_nil, List.nil_append, List.cons_append, Nat.reduceEqDiff, ne_eq, not_false_eq_true, reduceCtorEq, Bool.and_true, Bool.true_and, Bool.and_false, Bool.false_and, Bool.not_true, Bool.not_false, Bool.and_self]; rfl
        repeat apply go_seq
        apply go_ret
        apply ret_intro rfl rfl
        case run => simp (disch := decide) only [resultsM, resultsA, resSm, opsLoop, evOper, wantedA, nth, aop, aPick, aBin, aIndexAddr, aFieldAddr, aLoad, aStore, aExtract, aConvert, aAlloc, aBox, aIndex, callA, builtinA, Fr.evs, opt, val, when, AM.run, outV, newA, ptr, force_eq, seen_heap, seen_next, seen_mark, seen_seen, agg_cells, int_cells, Fr.ev, Fr.put, onFr, gps, gpn, bltT, still, flat, List.append_nil, List.nil_append, List.cons_append, Nat.reduceEqDiff, ne_eq, not_false_eq_true, reduceCtorEq, Bool.and_true, Bool.true_and, Bool.and_false, Bool.false_and, Bool.not_true, Bool.not_false, Bool.and_self]; rfl
        exact ⟨by rw [eqBytes_iff]; simp, hless⟩
      · simp only [Out_]
        apply ret_intro rfl rfl
        case run => simp (disch := decide) only [resultsM, resultsA, resSm, opsLoop, evOper, wantedA, nth, aop, aPick, aBin, aIndexAddr, aFieldAddr, aLoad, aStore, aExtract, aConvert, aAlloc, aBox, aIndex, callA, builtinA, Fr.evs, opt, val, when, AM.run, outV, newA, ptr, force_eq, seen_heap, seen_next, seen_mark, seen_seen, agg_cells, int_cells, Fr.ev, Fr.put, onFr, gps, gpn, bltT, still, flat, List.append_nil, List.nil_append, List.cons_append, Nat.reduceEqDiff, ne_eq, not_false_eq_true, reduceCtorEq, Bool.and_true, Bool.true_and, Bool.and_false, Bool.false_and, Bool.not_true, Bool.not_false, Bool.and_self, g4]; rfl
        exact ⟨by rw [eqBytes_iff]; simp [hne], hless⟩
  · cases h
end Go.Proofs.YtdkieabjjmhdlaaDoor.lf
end
end
