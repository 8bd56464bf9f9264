/- Leaves: whether a leaf may be: told. -/
import Derived.Test.YtioieffmihdheaaDoorLf3
noncomputable section
namespace Go.Proofs.YtioieffmihdheaaDoor.lf
open AE
set_option linter.unusedSimpArgs false
set_option linter.unusedVariables false
set_option maxRecDepth 10000

theorem fill3 (x y z : Int) : fillA (placeA 1) [(0, Value.int .i64 x), (1, .int .i64 y), (2, .int .i64 z)] (repeatL [Value.int .i64 (Int.ofNat 0)] 3) = some [.int .i64 x, .int .i64 y, .int .i64 z] := rfl
theorem trim_call {s : S} {n : Nat} {d : LeafD} (h : LfAt s n d) (k : Nat) (hk : k ≤ 116) : ∃ a m c s', (trimA [.slice (some (addIf ⟨n, 5, none⟩ 116 k 1)) (Nat.sub 116 k) (Nat.sub 116 k), .string ⟨#[0]⟩]).run s = some (.slice a m c, s') ∧ Rd s s' ∧ eqI (Int.ofNat m) (Int.ofNat 0) = noughts (d.load.drop k) := by
  by_cases he : k = 116
  · subst he
    refine ⟨none, 0, 0, s, rfl, Rd.refl s, ?_⟩
    rw [List.drop_eq_nil_of_le (by rw [h.len]; omega)]
    rfl
  · obtain ⟨j, hj⟩ : ∃ j, Nat.sub 116 k = j + 1 := ⟨115 - k, by show 116 - k = _; omega⟩
    have hb := h.bs k hk
    have hlen : (d.load.drop k).length = j + 1 := by rw [List.length_drop, h.len]; exact hj
    have ha : addIf ⟨n, 5, none⟩ 116 k 1 = ⟨n, 5 + k, none⟩ := by
      unfold addIf
      have : Nat.beq 116 k = false := by
        cases hh : Nat.beq 116 k with
        | false => rfl
        | true => have := beq_iff.1 hh; omega
      rw [this, mul1]
      exact sum.addA_eq ⟨n, 5, none⟩ k rfl
    obtain ⟨a, m, c, e1, e2⟩ := trim_len ⟨n, 5 + k, none⟩ (j + 1) (d.load.drop k)
    refine ⟨a, m, c, s.seen n, ?_, Rd.seen s n, e2⟩
    rw [ha, hj, ← e1]
    show (when (Nat.beq (UInt8.toNat 0) 0) (when (Nat.ble (j + 1) (j + 1) && Nat.blt (j + 1) OPEN) (loadA ⟨n, 5 + k, none⟩ (j + 1) fun cs => opt (bytesV cs) fun l => .pure (trimV ⟨n, 5 + k, none⟩ (j + 1) l)))).run s = _
    have h116 : j + 1 ≤ 116 := by rw [← hj]; exact Nat.sub_le _ _
    have h2 : Nat.blt (j + 1) OPEN = true := blt_iff.2 (by unfold OPEN; omega)
    rw [← hlen]
    rw [← hlen] at h2
    simp only [when, show Nat.beq (UInt8.toNat 0) 0 = true from rfl, ble_iff.2 (Nat.le_refl _), h2, Bool.and_self, Bs.load hb, AM.run]

theorem less_new {s s1 s2 : S} {n : Nat} (h1 : s1.next ≤ s2.next) (h2 : s2.next = s.next + n) (hh : ∀ m, s2.heap.get m = if s.next ≤ m ∧ m < s.next + n then none else s.heap.get m) (hf : ∀ m, ¬ (s.next ≤ m ∧ m < s.next + n) → s1.heap.get m = s.heap.get m) : Less' s1 s2 := by
  refine ⟨h1, fun m o e => ?_⟩
  rw [hh] at e
  split at e
  · cases e
  · rename_i hm
    exact ⟨o, (hf m hm).trans e, .refl o⟩

set_option maxHeartbeats 400000 in
theorem told_right : AE.Told Tryd.prog 13 rightA := by
  refine told_go hE hmix tolds_R ?_
  intro args s v s' h hm
  unfold rightA at h
  split at h
  · rename_i cs
    obtain ⟨d, hd, h2⟩ := run_opt h
    obtain ⟨rfl, hlen⟩ := leafOf_inv hd
    obtain ⟨s9, h3, hn9, hm9, hh9, hbl⟩ := bump_run 2 _ _ _ h2
    cases h3
    clear h h2 hd
    have hN0 : Nat.ble s.next lastName = true := hbl 0 (by omega)
    have hN1 : Nat.ble (s.next + 1) lastName = true := hbl 1 (by omega)
    refine go_enter (fi := fiR) (c := cdR) (by kernel_rfl) (by kernel_rfl) 38 rfl rfl ?_
    have h0 : (Tr.ofList [Value.agg ⟨d.cells⟩]).get 0 = some (.agg ⟨d.cells⟩) := rfl
    generalize Tr.ofList [Value.agg ⟨d.cells⟩] = t at *
    have hcode : cdR = .seq (sub [0] cdR) (.seq (.seq (sub [1,0,0] cdR) (.block 0 (.loop cdRl))) (sub [1,1] cdR)) := rfl
    rw [hcode]
    have hcl : d.cells.length = 121 := d.len hlen
    have hcb : Nat.ble d.cells.length lastName = true := by rw [hcl]; rfl
    apply go_seq
    simp only [cdR, Tryd.f13, bodyOf, sub]
    repeat apply go_seq
    apply go_region
    case h => intro m; simp (disch := decide) only [opsLoop, evOper, wantedA, nth, aop, aPick, aBin, aIndexAddr, aFieldAddr, aLoad, aStore, aExtract, aConvert, aAlloc, aBox, aIndex, callA, builtinA, Fr.evs, opt, val, when, AM.run, outV, newA, ptr, force_eq, seen_heap, seen_next, seen_mark, seen_seen, agg_cells, int_cells, Fr.ev, Fr.put, onFr, gps, gpn, bltT, still, flat, List.append_nil, List.nil_append, List.cons_append, Nat.reduceEqDiff, ne_eq, not_false_eq_true, reduceCtorEq, Bool.and_true, Bool.true_and, Bool.and_false, Bool.false_and, Bool.not_true, Bool.not_false, Bool.and_self, h0, hcb, hN0]; rfl
    generalize hs1 : (S.mk (s.heap.put s.next (some (.cells (Tr.ofList d.cells) d.cells.length 24 .whole))) (Nat.succ s.next) s.mark s.rd s.wr) = s1
    have e1 : s1.next = s.next + 1 := by rw [← hs1]
    have e1h : s1.heap = s.heap.put s.next (some (.cells (Tr.ofList d.cells) d.cells.length 24 .whole)) := by rw [← hs1]
    have L1 : LfAt s1 s.next d := by
      refine ⟨by omega, ⟨_, _, _, by rw [e1h, hg_same hN0, hcl], row_ofList _ (by rw [hcl]; unfold Tr.wide; omega)⟩, hlen⟩
    clear hs1
    have l1 := L1.get 1 (.int .i64 d.file) rfl
    have l2 := (L1.rd (Rd.seen s1 s.next)).get 2 (.int .i64 d.place) rfl
    have l3 := (L1.rd (Rd.seen s1 s.next)).get 3 (.int .i64 d.next) rfl
    rw [seen_seen] at l2 l3
    have hN1' : Nat.ble s1.next lastName = true := by rw [e1]; exact hN1
    apply go_seq
    apply go_seq
    repeat apply go_seq
    apply go_region
    case h => intro m; simp (disch := decide) only [opsLoop, evOper, wantedA, nth, aop, aPick, aBin, aIndexAddr, aFieldAddr, aLoad, aStore, aExtract, aConvert, aAlloc, aBox, aIndex, callA, builtinA, Fr.evs, opt, val, when, AM.run, outV, newA, ptr, force_eq, seen_heap, seen_next, seen_mark, seen_seen, agg_cells, int_cells, Fr.ev, Fr.put, onFr, gps, gpn, bltT, still, flat, List.append_nil, List.nil_append, List.cons_append, Nat.reduceEqDiff, ne_eq, not_false_eq_true, reduceCtorEq, Bool.and_true, Bool.true_and, Bool.and_false, Bool.false_and, Bool.not_true, Bool.not_false, Bool.and_self, tyLf, dsLf, fl1, fl2, fl3, ft1, ft2, ft3, fo1, fo2, fo3, tyI, szI, zeI, dsL, tyL, ble11, ad1, ad2, ad3', l1, l2, l3, aBuildSlice, evParts, int0, fill3, hN1', show Nat.ble (Nat.mul 3 1) 1048576 = true from rfl, show Nat.beq ([Value.int .i64 (Int.ofNat 0)] : List Value).length 1 = true from rfl, show Nat.ble ([Value.int .i64 d.file, .int .i64 d.place, .int .i64 d.next] : List Value).length lastName = true from rfl]; rfl
    generalize hs2 : S.mk _ _ _ _ _ = s2
    have e2 : s2.next = s.next + 2 := by rw [← hs2]; show s1.next + 1 = _; omega
    have e2h : s2.heap = s1.heap.put s1.next (some (.cells (Tr.ofList [Value.int .i64 d.file, .int .i64 d.place, .int .i64 d.next]) (List.length [Value.int .i64 d.file, .int .i64 d.place, .int .i64 d.next]) 3 .whole)) := by rw [← hs2]
    have hl3 : List.length [Value.int .i64 d.file, .int .i64 d.place, .int .i64 d.next] = 3 := rfl
    rw [hl3] at e2h
    have h3w : ([Value.int .i64 d.file, .int .i64 d.place, .int .i64 d.next] : List Value).length ≤ Tr.wide := by show 3 ≤ Tr.wide; unfold Tr.wide; omega
    have c2 : s2.heap.get (s.next + 1) = some (.cells (Tr.ofList [.int .i64 d.file, .int .i64 d.place, .int .i64 d.next]) 3 3 .whole) := by rw [e2h, e1]; exact hg_same hN1 _ _
    have hlt2 : s.next < s2.next := by omega
    have hlt3 : s.next + 1 < s2.next := by omega
    have hrow := row_ofList [Value.int .i64 d.file, .int .i64 d.place, .int .i64 d.next] h3w
    have hc0 : ∃ c e rm, s2.heap.get s.next = some (.cells c 121 e rm) ∧ Row c 0 d.cells := by
      obtain ⟨c, e, rm, g1, g2⟩ := L1.cell
      exact ⟨c, e, rm, by rw [e2h, e1, hg_far hN1 (by omega)]; exact g1, g2⟩
    have R2 : R3 s2 s.next d := ⟨⟨hlt2, hc0, hlen⟩, hlt3, ⟨_, _, _, c2, hrow⟩⟩
    have hless : ∀ s5, Rd s2 s5 → Less' s5 s' := by
      intro s5 hr
      refine less_new (s := s) (n := 2) (by rw [hr.next, e2, hn9]; exact Nat.le_refl _) hn9 hh9 ?_
      intro m hmm
      rw [hr.heap, e2h, e1, hg_far hN1 (by omega), e1h, hg_far hN0 (by omega)]
    clear hs2
    apply go_block
    refine (go_loop_inv (InvR d s.next s2) (fun k fr s1 hI => right_round d s.next s2 R2 k fr s1 hI) (3 - 0) _ _ ⟨0, _, rfl, by omega, rfl, Rd.refl s2, ?_, ?_, ?_, ?_, fun j x hj => by omega⟩).mono ?_
    · simp (disch := decide) only [gps, gpn, h0]
    · rw [← e1]; simp (disch := decide) only [gps, gpn]
    · simp (disch := decide) only [gps, gpn]
    · simp (disch := decide) only [gps, gpn, int0]
    rintro x fr s3 ⟨t3, rfl, hr, ⟨rfl, g1, hall⟩ | ⟨rfl, g2, j, y, hy, hw⟩⟩
    · simp only [Out_, if_true]
      show GoC E _ _ _ _ _
      have w0 := hall 0 d.file rfl
      have w1 := hall 1 d.place rfl
      have w2 := hall 2 d.next rfl
      have L3 := R2.lf.rd hr
      have l0 := L3.get 0 (.int .i64 d.kind) rfl
      have l4 := (L3.rd (Rd.seen s3 s.next)).get 4 (.int .i64 d.size) rfl
      rw [seen_seen] at l4
      have hrs := hr.trans (Rd.seen s3 s.next)
      cases hk : wi d.kind 1 2
      · repeat apply go_seq
        apply go_region
        case h => intro m; simp (disch := decide) only [opsLoop, evOper, wantedA, nth, aop, aPick, aBin, aIndexAddr, aFieldAddr, aLoad, aStore, aExtract, aConvert, aAlloc, aBox, aIndex, callA, builtinA, Fr.evs, opt, val, when, AM.run, outV, newA, ptr, force_eq, seen_heap, seen_next, seen_mark, seen_seen, agg_cells, int_cells, Fr.ev, Fr.put, onFr, gps, gpn, bltT, still, flat, List.append_nil, List.nil_append, List.cons_append, Nat.reduceEqDiff, ne_eq, not_false_eq_true, reduceCtorEq, Bool.and_true, Bool.true_and, Bool.and_false, Bool.false_and, Bool.not_true, Bool.not_false, Bool.and_self, g1, tyLf, dsLf, fl0, fl4, ft0, ft4, fo0, fo4, tyI, szI, ble11, ad0, ad4, l0, l4, tgW, evT_told sgW, withinA_run, hk, u_not]; rfl
        repeat apply go_seq
        apply go_cond
        case hc => simp (disch := decide) only [opsLoop, evOper, wantedA, nth, aop, aPick, aBin, aIndexAddr, aFieldAddr, aLoad, aStore, aExtract, aConvert, aAlloc, aBox, aIndex, callA, builtinA, Fr.evs, opt, val, when, AM.run, outV, newA, ptr, force_eq, seen_heap, seen_next, seen_mark, seen_seen, agg_cells, int_cells, Fr.ev, Fr.put, onFr, gps, gpn, bltT, still, flat, List.append_nil, List.nil_append, List.cons_append, Nat.reduceEqDiff, ne_eq, not_false_eq_true, reduceCtorEq, Bool.and_true, Bool.true_and, Bool.and_false, Bool.false_and, Bool.not_true, Bool.not_false, Bool.and_self]; rfl
        case h2 => intro h; cases h
        intro _
        repeat apply go_seq
        apply go_region
        case h => intro m; simp (disch := decide) only [opsLoop, evOper, wantedA, nth, aop, aPick, aBin, aIndexAddr, aFieldAddr, aLoad, aStore, aExtract, aConvert, aAlloc, aBox, aIndex, callA, builtinA, Fr.evs, opt, val, when, AM.run, outV, newA, ptr, force_eq, seen_heap, seen_next, seen_mark, seen_seen, agg_cells, int_cells, Fr.ev, Fr.put, onFr, gps, gpn, bltT, still, flat, List.append_nil, List.nil_append, List.cons_append, Nat.reduceEqDiff, ne_eq, not_false_eq_true, reduceCtorEq, Bool.and_true, Bool.true_and, Bool.and_false, Bool.false_and, Bool.not_true, Bool.not_false, Bool.and_self]; rfl
        repeat apply go_seq
        apply go_ret
        apply ret_intro rfl rfl
        case run => simp (disch := decide) only [resultsM, resultsA, resR, opsLoop, evOper, wantedA, nth, aop, aPick, aBin, aIndexAddr, aFieldAddr, aLoad, aStore, aExtract, aConvert, aAlloc, aBox, aIndex, callA, builtinA, Fr.evs, opt, val, when, AM.run, outV, newA, ptr, force_eq, seen_heap, seen_next, seen_mark, seen_seen, agg_cells, int_cells, Fr.ev, Fr.put, onFr, gps, gpn, bltT, still, flat, List.append_nil, List.nil_append, List.cons_append, Nat.reduceEqDiff, ne_eq, not_false_eq_true, reduceCtorEq, Bool.and_true, Bool.true_and, Bool.and_false, Bool.false_and, Bool.not_true, Bool.not_false, Bool.and_self]; rfl
        exact ⟨by unfold rightL; rw [hk]; simp, hless _ hrs⟩
      · cases hz : wi d.size 0 116
        · repeat apply go_seq
          apply go_region
          case h => intro m; simp (disch := decide) only [opsLoop, evOper, wantedA, nth, aop, aPick, aBin, aIndexAddr, aFieldAddr, aLoad, aStore, aExtract, aConvert, aAlloc, aBox, aIndex, callA, builtinA, Fr.evs, opt, val, when, AM.run, outV, newA, ptr, force_eq, seen_heap, seen_next, seen_mark, seen_seen, agg_cells, int_cells, Fr.ev, Fr.put, onFr, gps, gpn, bltT, still, flat, List.append_nil, List.nil_append, List.cons_append, Nat.reduceEqDiff, ne_eq, not_false_eq_true, reduceCtorEq, Bool.and_true, Bool.true_and, Bool.and_false, Bool.false_and, Bool.not_true, Bool.not_false, Bool.and_self, g1, tyLf, dsLf, fl0, fl4, ft0, ft4, fo0, fo4, tyI, szI, ble11, ad0, ad4, l0, l4, tgW, evT_told sgW, withinA_run, hk, hz, u_not]; rfl
          repeat apply go_seq
          apply go_cond
          case hc => simp (disch := decide) only [opsLoop, evOper, wantedA, nth, aop, aPick, aBin, aIndexAddr, aFieldAddr, aLoad, aStore, aExtract, aConvert, aAlloc, aBox, aIndex, callA, builtinA, Fr.evs, opt, val, when, AM.run, outV, newA, ptr, force_eq, seen_heap, seen_next, seen_mark, seen_seen, agg_cells, int_cells, Fr.ev, Fr.put, onFr, gps, gpn, bltT, still, flat, List.append_nil, List.nil_append, List.cons_append, Nat.reduceEqDiff, ne_eq, not_false_eq_true, reduceCtorEq, Bool.and_true, Bool.true_and, Bool.and_false, Bool.false_and, Bool.not_true, Bool.not_false, Bool.and_self]; rfl
          case h2 => intro h; cases h
          intro _
          repeat apply go_seq
          apply go_region
          case h => intro m; simp (disch := decide) only [opsLoop, evOper, wantedA, nth, aop, aPick, aBin, aIndexAddr, aFieldAddr, aLoad, aStore, aExtract, aConvert, aAlloc, aBox, aIndex, callA, builtinA, Fr.evs, opt, val, when, AM.run, outV, newA, ptr, force_eq, seen_heap, seen_next, seen_mark, seen_seen, agg_cells, int_cells, Fr.ev, Fr.put, onFr, gps, gpn, bltT, still, flat, List.append_nil, List.nil_append, List.cons_append, Nat.reduceEqDiff, ne_eq, not_false_eq_true, reduceCtorEq, Bool.and_true, Bool.true_and, Bool.and_false, Bool.false_and, Bool.not_true, Bool.not_false, Bool.and_self]; rfl
          repeat apply go_seq
          apply go_ret
          apply ret_intro rfl rfl
          case run => simp (disch := decide) only [resultsM, resultsA, resR, opsLoop, evOper, wantedA, nth, aop, aPick, aBin, aIndexAddr, aFieldAddr, aLoad, aStore, aExtract, aConvert, aAlloc, aBox, aIndex, callA, builtinA, Fr.evs, opt, val, when, AM.run, outV, newA, ptr, force_eq, seen_heap, seen_next, seen_mark, seen_seen, agg_cells, int_cells, Fr.ev, Fr.put, onFr, gps, gpn, bltT, still, flat, List.append_nil, List.nil_append, List.cons_append, Nat.reduceEqDiff, ne_eq, not_false_eq_true, reduceCtorEq, Bool.and_true, Bool.true_and, Bool.and_false, Bool.false_and, Bool.not_true, Bool.not_false, Bool.and_self]; rfl
          exact ⟨by unfold rightL; rw [hz]; simp, hless _ hrs⟩
        · obtain ⟨z, hz2⟩ := Int.eq_ofNat_of_zero_le (wi_iff.1 hz).1
          have hz3 : z ≤ 116 := by have := (wi_iff.1 hz).2; omega
          have hz4 : d.size = Int.ofNat z := hz2
          obtain ⟨a, m, c, s4, q1, q2, q3⟩ := trim_call (L3.rd (Rd.seen s3 s.next)) z hz3
          rw [hz4] at l4
          have hsz : Nat.ble z 116 = true := ble_iff.2 hz3
          repeat apply go_seq
          apply go_region
          case h => intro m; simp (disch := decide) only [opsLoop, evOper, wantedA, nth, aop, aPick, aBin, aIndexAddr, aFieldAddr, aLoad, aStore, aExtract, aConvert, aAlloc, aBox, aIndex, callA, builtinA, Fr.evs, opt, val, when, AM.run, outV, newA, ptr, force_eq, seen_heap, seen_next, seen_mark, seen_seen, agg_cells, int_cells, Fr.ev, Fr.put, onFr, gps, gpn, bltT, still, flat, List.append_nil, List.nil_append, List.cons_append, Nat.reduceEqDiff, ne_eq, not_false_eq_true, reduceCtorEq, Bool.and_true, Bool.true_and, Bool.and_false, Bool.false_and, Bool.not_true, Bool.not_false, Bool.and_self, g1, tyLf, dsLf, fl0, fl4, ft0, ft4, fo0, fo4, tyI, szI, ble11, ad0, ad4, l0, l4, tgW, evT_told sgW, withinA_run, hk, hz4 ▸ hz, u_not]; rfl
          repeat apply go_seq
          apply go_cond
          case hc => simp (disch := decide) only [opsLoop, evOper, wantedA, nth, aop, aPick, aBin, aIndexAddr, aFieldAddr, aLoad, aStore, aExtract, aConvert, aAlloc, aBox, aIndex, callA, builtinA, Fr.evs, opt, val, when, AM.run, outV, newA, ptr, force_eq, seen_heap, seen_next, seen_mark, seen_seen, agg_cells, int_cells, Fr.ev, Fr.put, onFr, gps, gpn, bltT, still, flat, List.append_nil, List.nil_append, List.cons_append, Nat.reduceEqDiff, ne_eq, not_false_eq_true, reduceCtorEq, Bool.and_true, Bool.true_and, Bool.and_false, Bool.false_and, Bool.not_true, Bool.not_false, Bool.and_self]; rfl
          case h1 => intro h; cases h
          intro _
          apply go_skip
          have f5 : Nat.ble z 116 = true := ble_iff.2 hz3
          have f6 : Nat.ble 116 116 = true := rfl
          have f7 : Nat.blt 116 OPEN = true := rfl
          have hv : rightL d = noughts (d.load.drop z) := by
            unfold rightL
            rw [w0, w1, w2, hk, hz, hz4]
            simp
          repeat apply go_seq
          apply go_region
          case h => intro m; simp (disch := decide) only [opsLoop, evOper, wantedA, nth, aop, aPick, aBin, aIndexAddr, aFieldAddr, aLoad, aStore, aExtract, aConvert, aAlloc, aBox, aIndex, callA, builtinA, Fr.evs, opt, val, when, AM.run, outV, newA, ptr, force_eq, seen_heap, seen_next, seen_mark, seen_seen, agg_cells, int_cells, Fr.ev, Fr.put, onFr, gps, gpn, bltT, still, flat, List.append_nil, List.nil_append, List.cons_append, Nat.reduceEqDiff, ne_eq, not_false_eq_true, reduceCtorEq, Bool.and_true, Bool.true_and, Bool.and_false, Bool.false_and, Bool.not_true, Bool.not_false, Bool.and_self, g1, tyLf, dsLf, fl4, fl5, ft4, ft5, fo4, fo5, tyI, szI, tyA, dsA, szA, tyU8, szU8, tyB, dsB, ble11, ble1A, ad4, ad5, l4, aSlice, lowHigh, intOf?, sliceP, f5, f6, f7, tgT, evT_told sgT, q1, b_eql, int0, q3]; rfl
          repeat apply go_seq
          apply go_ret
          apply ret_intro rfl rfl
          case run => simp (disch := decide) only [resultsM, resultsA, resR, opsLoop, evOper, wantedA, nth, aop, aPick, aBin, aIndexAddr, aFieldAddr, aLoad, aStore, aExtract, aConvert, aAlloc, aBox, aIndex, callA, builtinA, Fr.evs, opt, val, when, AM.run, outV, newA, ptr, force_eq, seen_heap, seen_next, seen_mark, seen_seen, agg_cells, int_cells, Fr.ev, Fr.put, onFr, gps, gpn, bltT, still, flat, List.append_nil, List.nil_append, List.cons_append, Nat.reduceEqDiff, ne_eq, not_false_eq_true, reduceCtorEq, Bool.and_true, Bool.true_and, Bool.and_false, Bool.false_and, Bool.not_true, Bool.not_false, Bool.and_self]; rfl
          exact ⟨by rw [hv], hless _ (hrs.trans q2)⟩
    · simp only [Out_, Then]
      apply ret_intro rfl rfl
      case run => simp (disch := decide) only [resultsM, resultsA, resR, opsLoop, evOper, wantedA, nth, aop, aPick, aBin, aIndexAddr, aFieldAddr, aLoad, aStore, aExtract, aConvert, aAlloc, aBox, aIndex, callA, builtinA, Fr.evs, opt, val, when, AM.run, outV, newA, ptr, force_eq, seen_heap, seen_next, seen_mark, seen_seen, agg_cells, int_cells, Fr.ev, Fr.put, onFr, gps, gpn, bltT, still, flat, List.append_nil, List.nil_append, List.cons_append, Nat.reduceEqDiff, ne_eq, not_false_eq_true, reduceCtorEq, Bool.and_true, Bool.true_and, Bool.and_false, Bool.false_and, Bool.not_true, Bool.not_false, Bool.and_self, g2]; rfl
      exact ⟨by rw [rightL_three hy hw], hless _ hr⟩
  · cases h
end Go.Proofs.YtioieffmihdheaaDoor.lf
