/- Leaves: the leaf of a block: told. -/
import Derived.Test.YtdkieabjjmhdlaaDoorMRowLeafTells1
section
/- Leaves: a leaf as a block's bytes: told, whole. -/
noncomputable section
namespace Go.Proofs.YtdkieabjjmhdlaaDoor.lf
open AE
set_option linter.unusedSimpArgs false
set_option linter.unusedVariables false
set_option maxRecDepth 10000

theorem closeA_run {s : S} {ad : Addr} {l : List UInt8} (h : Bs s ad l) (h1 : 1 ≤ l.length) (h2 : l.length ≤ 1000) (cap : Nat) (hN : ∀ i, i < 2 → Nat.ble (s.next + i) lastName = true) :
    ∃ s1, (closeA [.slice (some ad) l.length cap]).run s = some (.slice (some ⟨s.next, 0, none⟩) (l.length + 4) (l.length + 4), s1) ∧ s1.next = s.next + 2 ∧
      ∀ m, s1.heap.get m = if m = s.next + 1 then none else if m = s.next then some (.cells (Tr.ofList ((closeL l).map bv)) (closeL l).length 5 .whole) else s.heap.get m := by
  have hN0 := hN 0 (by omega)
  rw [Nat.add_zero] at hN0
  obtain ⟨s1, e1, e2, e3, e4⟩ := bump_ok 1 (AM.pure (Value.slice (some ⟨s.next, 0, none⟩) (l.length + 4) (l.length + 4))) ((s.seen ad.block).grow (.cells (Tr.ofList ((closeL l).map bv)) (closeL l).length 5 .whole))
    (fun i hi => by have : i = 0 := by omega
                    subst this; exact hN 1 (by omega))
  refine ⟨s1, ?_, e2, ?_⟩
  · show (when (Nat.ble 1 l.length && Nat.ble l.length 1000) (loadA ad l.length fun cs => opt (bytesV cs) fun l' => newB (closeL l') fun r => bump 1 (.pure (.slice (some ⟨r, 0, none⟩) (l.length + 4) (l.length + 4))))).run s = _
    simp only [ble_iff.2 h1, ble_iff.2 h2, Bool.and_self, when]
    rw [loadA_run h]
    simp only [bytesV_map, opt, newB, AM.run, force_eq]
    show (match Nat.ble s.next lastName with | false => none | true => _) = _
    rw [hN0]
    exact e1
  · intro m
    rw [e4 m]
    show (if s.next + 1 ≤ m ∧ m < s.next + 1 + 1 then none else (s.heap.put s.next (some (.cells (Tr.ofList ((closeL l).map bv)) (closeL l).length 5 .whole))).get m) = _
    by_cases h3 : m = s.next + 1
    · rw [if_pos (by omega), if_pos h3]
    · rw [if_neg (by omega), if_neg h3]
      by_cases h4 : m = s.next
      · subst h4
        rw [if_pos rfl, hg_same hN0]
      · rw [if_neg h4, hg_far hN0 h4]

theorem rightL_inv {d : LeafD} (h : rightL d = true) : (∀ (j : Nat) (x : Int), (three d)[j]? = some x → 0 ≤ x ∧ x ≤ 65535) ∧ (1 ≤ d.kind ∧ d.kind ≤ 2) ∧ (0 ≤ d.size ∧ d.size ≤ 116) := by
  unfold rightL at h
  simp only [Bool.and_eq_true] at h
  obtain ⟨⟨⟨⟨⟨h1, h2⟩, h3⟩, h4⟩, h5⟩, _⟩ := h
  refine ⟨?_, wi_iff.1 h4, wi_iff.1 h5⟩
  intro j x hj
  have hlt : j < 3 := (List.getElem?_eq_some_iff.1 hj).1
  match j, hlt with
  | 0, _ => simp [three] at hj; subst hj; exact wi_iff.1 h1
  | 1, _ => simp [three] at hj; subst hj; exact wi_iff.1 h2
  | 2, _ => simp [three] at hj; subst hj; exact wi_iff.1 h3

theorem addIf0 (n k : Nat) : addIf ⟨n, k, none⟩ 116 0 1 = ⟨n, k, none⟩ := rfl

set_option maxHeartbeats 1000000 in
theorem told_put : AE.Told Tryd.prog 4 putA := by
  refine told_go hE hmix tolds_P ?_
  intro args s v s' h hm
  unfold putA at h
  split at h
  · rename_i cs
    obtain ⟨d, hd, h2⟩ := run_opt h
    obtain ⟨rfl, hlen⟩ := leafOf_inv hd
    clear h hd
    refine go_enter (fi := fiP) (c := cdP) (by kernel_rfl) (by kernel_rfl) 45 rfl rfl ?_
    have h0 : (Tr.ofList [Value.agg ⟨d.cells⟩]).get 0 = some (.agg ⟨d.cells⟩) := rfl
    generalize Tr.ofList [Value.agg ⟨d.cells⟩] = t at *
    have hcl : d.cells.length = 121 := d.len hlen
    have hcb : Nat.ble d.cells.length lastName = true := by rw [hcl]; rfl
    have hcode : cdP = .seq (sub [0] cdP) (.seq (sub [1,0] cdP) (.seq (sub [1,1,0] cdP) (.seq (sub [1,1,1,0] cdP) (sub [1,1,1,1] cdP)))) := rfl
    -- the names that are there
    have hN3 : ∀ i, i < 3 → Nat.ble (s.next + i) lastName = true := by
      cases hR : rightL d with
      | true =>
        rw [hR] at h2
        obtain ⟨_, _, _, _, _, hbl⟩ := bump_run 9 _ _ _ h2
        exact fun i hi => hbl i (by omega)
      | false =>
        rw [hR] at h2
        obtain ⟨_, _, _, _, _, hbl⟩ := bump_run 3 _ _ _ h2
        exact hbl
    have hN0 : Nat.ble s.next lastName = true := hN3 0 (by omega)
    simp only [cdP, Tryd.f4, bodyOf]
    repeat apply go_seq
    apply go_region
    case h => intro m; simp (maxSteps := 2000000) (disch := decide) only [opsLoop, evOper, wantedA, nth, aop, aPick, aBin, aIndexAddr, aFieldAddr, aLoad, aStore, aExtract, aConvert, aAlloc, aBox, aIndex, callA, builtinA, Fr.evs, opt, val, when, AM.run, outV, newA, ptr, force_eq, seen_heap, seen_next, seen_mark, seen_seen, agg_cells, int_cells, Fr.ev, Fr.put, onFr, gps, gpn, bltT, still, flat, List.append_nil, List.nil_append, List.cons_append, Nat.reduceEqDiff, ne_eq, not_false_eq_true, reduceCtorEq, Bool.and_true, Bool.true_and, Bool.and_false, Bool.false_and, Bool.not_true, Bool.not_false, Bool.and_self, h0, hcb, hN0]; rfl
    generalize hs1 : (S.mk (s.heap.put s.next (some (.cells (Tr.ofList d.cells) d.cells.length 24 .whole))) (Nat.succ s.next) s.mark s.rd s.wr) = s1
    have e1 : s1.next = s.next + 1 := by rw [← hs1]
    have e1h : s1.heap = s.heap.put s.next (some (.cells (Tr.ofList d.cells) d.cells.length 24 .whole)) := by rw [← hs1]
    clear hs1
    have L1 : LfAt s1 s.next d := ⟨by omega, ⟨_, _, _, by rw [e1h, hg_same hN0, hcl], row_ofList _ (by rw [hcl]; unfold Tr.wide; omega)⟩, hlen⟩
    have l1 := L1.load
    obtain ⟨s2, r2, e2, e2h⟩ := rightA_run (s := s1.seen s.next) hlen (fun i hi => by
      have : (s1.seen s.next).next + i = s.next + (i + 1) := by show s1.next + i = _; omega
      rw [this]; exact hN3 (i + 1) (by omega))
    have e2 : s2.next = s.next + 3 := by rw [e2]; show s1.next + 2 = _; omega
    have e2h : ∀ m, s2.heap.get m = if s.next + 1 ≤ m ∧ m < s.next + 3 then none else s1.heap.get m := by
      intro m
      rw [e2h m]
      have : (s1.seen s.next).next = s.next + 1 := e1
      rw [this]
      rfl
    cases hR : rightL d with
    | false =>
      rw [hR] at h2 r2
      repeat apply go_seq
      apply go_region
      case h => intro m; simp (maxSteps := 2000000) (disch := decide) only [opsLoop, evOper, wantedA, nth, aop, aPick, aBin, aIndexAddr, aFieldAddr, aLoad, aStore, aExtract, aConvert, aAlloc, aBox, aIndex, callA, builtinA, Fr.evs, opt, val, when, AM.run, outV, newA, ptr, force_eq, seen_heap, seen_next, seen_mark, seen_seen, agg_cells, int_cells, Fr.ev, Fr.put, onFr, gps, gpn, bltT, still, flat, List.append_nil, List.nil_append, List.cons_append, Nat.reduceEqDiff, ne_eq, not_false_eq_true, reduceCtorEq, Bool.and_true, Bool.true_and, Bool.and_false, Bool.false_and, Bool.not_true, Bool.not_false, Bool.and_self, tyLf, l1, tgR, evT_told sgR, r2, u_not]; rfl
      repeat apply go_seq
      apply go_cond
      case hc => simp (disch := decide) only [opsLoop, evOper, wantedA, nth, aop, aPick, aBin, aIndexAddr, aFieldAddr, aLoad, aStore, aExtract, aConvert, aAlloc, aBox, aIndex, callA, builtinA, Fr.evs, opt, val, when, AM.run, outV, newA, ptr, force_eq, seen_heap, seen_next, seen_mark, seen_seen, agg_cells, int_cells, Fr.ev, Fr.put, onFr, gps, gpn, bltT, still, flat, List.append_nil, List.nil_append, List.cons_append, Nat.reduceEqDiff, ne_eq, not_false_eq_true, reduceCtorEq, Bool.and_true, Bool.true_and, Bool.and_false, Bool.false_and, Bool.not_true, Bool.not_false, Bool.and_self]; rfl
      case h2 => intro h; cases h
      intro _
      repeat apply go_seq
      apply go_region
      case h => intro m; simp (maxSteps := 2000000) (disch := decide) only [opsLoop, evOper, wantedA, nth, aop, aPick, aBin, aIndexAddr, aFieldAddr, aLoad, aStore, aExtract, aConvert, aAlloc, aBox, aIndex, callA, builtinA, Fr.evs, opt, val, when, AM.run, outV, newA, ptr, force_eq, seen_heap, seen_next, seen_mark, seen_seen, agg_cells, int_cells, Fr.ev, Fr.put, onFr, gps, gpn, bltT, still, flat, List.append_nil, List.nil_append, List.cons_append, Nat.reduceEqDiff, ne_eq, not_false_eq_true, reduceCtorEq, Bool.and_true, Bool.true_and, Bool.and_false, Bool.false_and, Bool.not_true, Bool.not_false, Bool.and_self]; rfl
      repeat apply go_seq
      apply go_ret
      apply ret_intro rfl rfl
      case run => simp (disch := decide) only [resultsM, resultsA, resP, opsLoop, evOper, wantedA, nth, aop, aPick, aBin, aIndexAddr, aFieldAddr, aLoad, aStore, aExtract, aConvert, aAlloc, aBox, aIndex, callA, builtinA, Fr.evs, opt, val, when, AM.run, outV, newA, ptr, force_eq, seen_heap, seen_next, seen_mark, seen_seen, agg_cells, int_cells, Fr.ev, Fr.put, onFr, gps, gpn, bltT, still, flat, List.append_nil, List.nil_append, List.cons_append, Nat.reduceEqDiff, ne_eq, not_false_eq_true, reduceCtorEq, Bool.and_true, Bool.true_and, Bool.and_false, Bool.false_and, Bool.not_true, Bool.not_false, Bool.and_self]; rfl
      obtain ⟨s9, h3, hn9, hm9, hh9, _⟩ := bump_run 3 _ _ _ h2
      cases h3
      refine ⟨rfl, less_new (s := s) (n := 3) (by rw [e2, hn9]; exact Nat.le_refl _) hn9 hh9 ?_⟩
      intro m hm2
      rw [e2h, if_neg (by omega), e1h, hg_far hN0 (by omega)]
    | true =>
      rw [hR] at h2 r2
      repeat apply go_seq
      apply go_region
      case h => intro m; simp (maxSteps := 2000000) (disch := decide) only [opsLoop, evOper, wantedA, nth, aop, aPick, aBin, aIndexAddr, aFieldAddr, aLoad, aStore, aExtract, aConvert, aAlloc, aBox, aIndex, callA, builtinA, Fr.evs, opt, val, when, AM.run, outV, newA, ptr, force_eq, seen_heap, seen_next, seen_mark, seen_seen, agg_cells, int_cells, Fr.ev, Fr.put, onFr, gps, gpn, bltT, still, flat, List.append_nil, List.nil_append, List.cons_append, Nat.reduceEqDiff, ne_eq, not_false_eq_true, reduceCtorEq, Bool.and_true, Bool.true_and, Bool.and_false, Bool.false_and, Bool.not_true, Bool.not_false, Bool.and_self, tyLf, l1, tgR, evT_told sgR, r2, u_not]; rfl
      repeat apply go_seq
      apply go_cond
      case hc => simp (disch := decide) only [opsLoop, evOper, wantedA, nth, aop, aPick, aBin, aIndexAddr, aFieldAddr, aLoad, aStore, aExtract, aConvert, aAlloc, aBox, aIndex, callA, builtinA, Fr.evs, opt, val, when, AM.run, outV, newA, ptr, force_eq, seen_heap, seen_next, seen_mark, seen_seen, agg_cells, int_cells, Fr.ev, Fr.put, onFr, gps, gpn, bltT, still, flat, List.append_nil, List.nil_append, List.cons_append, Nat.reduceEqDiff, ne_eq, not_false_eq_true, reduceCtorEq, Bool.and_true, Bool.true_and, Bool.and_false, Bool.false_and, Bool.not_true, Bool.not_false, Bool.and_self]; rfl
      case h1 => intro h; cases h
      intro _
      apply go_skip
      obtain ⟨s8, h3, hn8, hm8, hh8, hb9⟩ := bump_run 9 _ _ _ h2
      obtain ⟨hb10, h4⟩ := new_run h3
      obtain ⟨s9, h5, hn9, hm9, hh9, hb11⟩ := bump_run 1 _ _ _ h4
      cases h5
      have hN : ∀ j, j < 11 → Nat.ble (s.next + j) lastName = true := by
        intro j hj
        by_cases h9 : j < 9
        · exact hb9 j h9
        · by_cases h10 : j = 9
          · subst h10; rw [← hn8]; exact hb10
          · have : j = 10 := by omega
            subst this
            have := hb11 0 (by omega)
            have e : (s8.grow (.cells (Tr.ofList ((putL d).map bv)) (putL d).length 5 .whole)).next + 0 = s.next + 10 := by show s8.next + 1 = _; omega
            rw [e] at this
            exact this
      have hh : ∀ m, s'.heap.get m = if m = s.next + 9 then some (.cells (Tr.ofList ((putL d).map bv)) (putL d).length 5 .whole) else if s.next ≤ m ∧ m < s.next + 11 then none else s.heap.get m := by
        intro m
        rw [hh9 m]
        have e : (s8.grow (.cells (Tr.ofList ((putL d).map bv)) (putL d).length 5 .whole)).next = s.next + 10 := by show s8.next + 1 = _; omega
        rw [e]
        show (if s.next + 10 ≤ m ∧ m < s.next + 10 + 1 then none else (s8.heap.put s8.next (some (.cells (Tr.ofList ((putL d).map bv)) (putL d).length 5 .whole))).get m) = _
        rw [hn8]
        have hN9 := hN 9 (by omega)
        by_cases h9 : m = s.next + 9
        · subst h9
          rw [if_neg (by omega), if_pos rfl, hg_same hN9]
        · rw [if_neg h9]
          by_cases h10 : m = s.next + 10
          · rw [if_pos (by omega), if_pos (by omega)]
          · rw [if_neg (by omega), hg_far hN9 h9, hh8 m]
            by_cases h11 : s.next ≤ m ∧ m < s.next + 9
            · rw [if_pos h11, if_pos (by omega)]
            · rw [if_neg h11, if_neg (by omega)]
      have hn11 : s'.next = s.next + 11 := by rw [hn9]; show s8.next + 1 + 1 = _; omega
      clear h2 h3 h4 hh9 hh8 hb9 hb10 hb11 hm9 hm8
      have hN3' : Nat.ble s2.next lastName = true := by rw [e2]; exact hN 3 (by omega)
      have z124 : (124 : Int) = Int.ofNat 124 := rfl
      have k3 : Nat.ble (repeatL [Value.int .u8 (Int.ofNat 0)] 124).length lastName = true := by rw [repeat_len]; rfl
      repeat apply go_seq
      apply go_region
      case h => intro m; simp (maxSteps := 2000000) (disch := decide) only [opsLoop, evOper, wantedA, nth, aop, aPick, aBin, aIndexAddr, aFieldAddr, aLoad, aStore, aExtract, aConvert, aAlloc, aBox, aIndex, callA, builtinA, Fr.evs, opt, val, when, AM.run, outV, newA, ptr, force_eq, seen_heap, seen_next, seen_mark, seen_seen, agg_cells, int_cells, Fr.ev, Fr.put, onFr, gps, gpn, bltT, still, flat, List.append_nil, List.nil_append, List.cons_append, Nat.reduceEqDiff, ne_eq, not_false_eq_true, reduceCtorEq, Bool.and_true, Bool.true_and, Bool.and_false, Bool.false_and, Bool.not_true, Bool.not_false, Bool.and_self, int0, z124, aMakeSlice, tyB, dsB, tyU8, zeU8, szU8, byU8, k3, hN3', show Nat.ble 0 124 = true from rfl, show Nat.ble 124 maxNeed = true from rfl, show Nat.ble 1 1024 = true from rfl, show Nat.ble 1 1 = true from rfl, show Nat.beq ([Value.int .u8 (Int.ofNat 0)] : List Value).length 1 = true from rfl]; rfl
      generalize hs3 : S.mk _ _ _ _ _ = s3
      have e3 : s3.next = s.next + 4 := by rw [← hs3]; show s2.next + 1 = _; omega
      have e3h : s3.heap = s2.heap.put s2.next (some (.cells (Tr.ofList (repeatL [Value.int .u8 (Int.ofNat 0)] 124)) (repeatL [Value.int .u8 (Int.ofNat 0)] 124).length 5 .whole)) := by rw [← hs3]
      clear hs3
      rw [repeat_len, e2] at e3h
      rw [e2]
      have hN3 := hN 3 (by omega)
      have L3 : LfAt s3 s.next d := by
        refine ⟨by omega, ?_, hlen⟩
        obtain ⟨c, e, rm, q1, q2⟩ := L1.cell
        exact ⟨c, e, rm, by rw [e3h, hg_far hN3 (by omega), e2h, if_neg (by omega)]; exact q1, q2⟩
      have B3 := L3.bs 0 (by omega)
      rw [List.drop_zero] at B3
      have c3 : s3.heap.get (s.next + 3) = some (.cells (Tr.ofList (repeatL [Value.int .u8 (Int.ofNat 0)] 124)) 124 5 .whole) := by rw [e3h]; exact hg_same hN3 _ _
      obtain ⟨s4, a4, e4h, e4, _⟩ := append_b (len := 0) (cap := 124) (c2 := 116) B3 hlen (by omega) (by omega) c3 hN3 (by omega) (by omega) (by omega) (by omega)
      rw [Nat.zero_add] at a4
      repeat apply go_seq
      apply go_region
      case h => intro m; simp (disch := decide) only [opsLoop, evOper, wantedA, nth, aop, aPick, aBin, aIndexAddr, aFieldAddr, aLoad, aStore, aExtract, aConvert, aAlloc, aBox, aIndex, callA, Fr.evs, opt, val, when, AM.run, outV, newA, ptr, force_eq, seen_heap, seen_next, seen_mark, seen_seen, agg_cells, int_cells, Fr.ev, Fr.put, onFr, gps, gpn, bltT, still, flat, List.append_nil, List.nil_append, List.cons_append, Nat.reduceEqDiff, ne_eq, not_false_eq_true, reduceCtorEq, Bool.and_true, Bool.true_and, Bool.and_false, Bool.false_and, Bool.not_true, Bool.not_false, Bool.and_self, tyLf, dsLf, fl5, ft5, fo5, tyA, dsA, szA, tyU8, szU8, ble1A, ad5, aSlice, lowHigh, sliceP, addIf0, show Nat.ble 0 116 = true from rfl, show Nat.ble 116 116 = true from rfl, show Nat.blt 116 OPEN = true from rfl, show Nat.sub 116 0 = 116 from rfl, a4]; rfl
      have L4 : LfAt s4 s.next d := by
        refine ⟨by omega, ?_, hlen⟩
        obtain ⟨c, e, rm, q1, q2⟩ := L3.cell
        exact ⟨c, e, rm, by rw [e4h, hg_far hN3 (by omega)]; exact q1, q2⟩
      have l1 := L4.get 1 (.int .i64 d.file) rfl
      have l2 := (L4.rd (Rd.seen s4 s.next)).get 2 (.int .i64 d.place) rfl
      have l3 := (L4.rd (Rd.seen s4 s.next)).get 3 (.int .i64 d.next) rfl
      rw [seen_seen] at l2 l3
      have hN4 := hN 4 (by omega)
      have hN4' : Nat.ble s4.next lastName = true := by rw [e4, e3]; exact hN4
      apply go_seq
      apply go_seq
      repeat apply go_seq
      apply go_region
      case h => intro m; simp (disch := decide) only [opsLoop, evOper, wantedA, nth, aop, aPick, aBin, aIndexAddr, aFieldAddr, aLoad, aStore, aExtract, aConvert, aAlloc, aBox, aIndex, callA, Fr.evs, opt, val, when, AM.run, outV, newA, ptr, force_eq, seen_heap, seen_next, seen_mark, seen_seen, agg_cells, int_cells, Fr.ev, Fr.put, onFr, gps, gpn, bltT, still, flat, List.append_nil, List.nil_append, List.cons_append, Nat.reduceEqDiff, ne_eq, not_false_eq_true, reduceCtorEq, Bool.and_true, Bool.true_and, Bool.and_false, Bool.false_and, Bool.not_true, Bool.not_false, Bool.and_self, tyLf, dsLf, fl1, fl2, fl3, ft1, ft2, ft3, fo1, fo2, fo3, tyI, szI, zeI, dsL, tyL, ble11, ad1, ad2, ad3', l1, l2, l3, aBuildSlice, evParts, int0, fill3, hN4', len_i, show Nat.ble (Nat.mul 3 1) 1048576 = true from rfl, show Nat.beq ([Value.int .i64 (Int.ofNat 0)] : List Value).length 1 = true from rfl, show Nat.ble ([Value.int .i64 d.file, .int .i64 d.place, .int .i64 d.next] : List Value).length lastName = true from rfl]; rfl
      generalize hs5 : S.mk _ _ _ _ _ = s5
      have e5 : s5.next = s.next + 5 := by rw [← hs5]; show s4.next + 1 = _; omega
      have e5h : s5.heap = s4.heap.put s4.next (some (.cells (Tr.ofList [.int .i64 d.file, .int .i64 d.place, .int .i64 d.next]) (List.length [Value.int .i64 d.file, .int .i64 d.place, .int .i64 d.next]) 3 .whole)) := by rw [← hs5]
      clear hs5
      have hl3 : List.length [Value.int .i64 d.file, .int .i64 d.place, .int .i64 d.next] = 3 := rfl
      have h44 : s4.next = s.next + 4 := by omega
      rw [hl3, h44] at e5h
      rw [h44]
      have h3w : ([Value.int .i64 d.file, .int .i64 d.place, .int .i64 d.next] : List Value).length ≤ Tr.wide := by rw [hl3]; unfold Tr.wide; omega
      have P5 : PutAt s.next d s s5 0 := by
        refine ⟨e5, ⟨by omega, ?_, hlen⟩, ⟨_, _, _, by rw [e5h]; exact hg_same hN4 _ _, row_ofList _ h3w⟩, ⟨_, _, _, by rw [e5h, hg_far hN4 (by omega), e4h]; exact hg_same hN3 _ _, ?_⟩, ?_⟩
        · obtain ⟨c, e, rm, q1, q2⟩ := L4.cell
          exact ⟨c, e, rm, by rw [e5h, hg_far hN4 (by omega)]; exact q1, q2⟩
        · show Row _ 0 ((d.load ++ []).map bv)
          rw [List.append_nil]
          exact row_wr (by rw [List.length_map, hlen]; unfold Tr.wide; omega)
        · intro m hm2
          rw [e5h, hg_far hN4 (by omega), e4h, hg_far hN3 (by omega), e3h, hg_far hN3 (by omega), e2h, if_neg (by omega), e1h, hg_far hN0 (by omega)]
      obtain ⟨hx3, hkd, hsz⟩ := rightL_inv hR
      apply go_block
      refine (go_loop_inv (body := cdPl) (InvP d s.next s) (fun k fr s1 hI => put_round d s.next s hlen hN hx3 k fr s1 hI) (3 - 0) _ _ ⟨0, _, rfl, by omega, rfl, P5, ?_, ?_, ?_, ?_, ?_⟩).mono ?_
      · simp (disch := decide) only [gps, gpn, h0]
      · simp (disch := decide) only [gps, gpn]
      · simp (disch := decide) only [gps, gpn]
      · simp (disch := decide) only [gps, gpn]
      · simp (disch := decide) only [gps, gpn]
      rintro x fr s6 ⟨rfl, t6, rfl, P6, g1, g3⟩
      simp only [Out_, if_true]
      show GoC E _ _ _ _ _
      obtain ⟨zs, hzs⟩ : ∃ z : Nat, d.size = Int.ofNat z := ⟨d.size.toNat, (Int.toNat_of_nonneg hsz.1).symm⟩
      obtain ⟨zk, hzk⟩ : ∃ z : Nat, d.kind = Int.ofNat z := ⟨d.kind.toNat, (Int.toNat_of_nonneg (by omega)).symm⟩
      have l4 := P6.lf.get 4 (.int .i64 d.size) rfl
      have l0 := (P6.lf.rd (Rd.seen s6 s.next)).get 0 (.int .i64 d.kind) rfl
      rw [seen_seen] at l0
      rw [hzs] at l4
      rw [hzk] at l0
      have P6' := P6.rd (Rd.seen s6 s.next)
      have f2 := fill2 (UInt8.ofNat zs) (UInt8.ofNat zk)
      have hN8 := hN 8 (by omega)
      have hN8' : Nat.ble s6.next lastName = true := by rw [P6.next]; exact hN8
      repeat apply go_seq
      apply go_ops
      apply go_take 8
      case h => intro m; simp (disch := decide) only [List.take, opsLoop, evOper, wantedA, nth, aop, aPick, aBin, aIndexAddr, aFieldAddr, aLoad, aStore, aExtract, aConvert, aAlloc, aBox, aIndex, callA, Fr.evs, opt, val, when, AM.run, outV, newA, ptr, force_eq, seen_heap, seen_next, seen_mark, seen_seen, agg_cells, int_cells, Fr.ev, Fr.put, onFr, gps, gpn, bltT, still, flat, List.append_nil, List.nil_append, List.cons_append, Nat.reduceEqDiff, ne_eq, not_false_eq_true, reduceCtorEq, Bool.and_true, Bool.true_and, Bool.and_false, Bool.false_and, Bool.not_true, Bool.not_false, Bool.and_self, g1, g3, tyLf, dsLf, fl4, fl0, ft4, ft0, fo4, fo0, tyI, szI, ble11, ad4, ad0, l4, l0, tyU8, dsU8, dsI, cv8, aBuildSlice, evParts, tyB, dsB, zeU8, szU8, byU8, int0, f2, hN8', show Nat.ble (Nat.mul 2 1) 1048576 = true from rfl, show Nat.beq ([Value.int .u8 (Int.ofNat 0)] : List Value).length 1 = true from rfl, show Nat.ble 1 1 = true from rfl, show ∀ a b : Value, Nat.ble ([a, b] : List Value).length lastName = true from fun _ _ => rfl]; rfl
      simp only [List.drop]
      generalize hs7 : S.mk _ _ _ _ _ = s7
      have e7 : s7.next = (s6.seen s.next).next + 1 := by rw [← hs7]; rfl
      have e7h : s7.heap = (s6.seen s.next).heap.put (s6.seen s.next).next (some (.cells (Tr.ofList [bv (UInt8.ofNat zs), bv (UInt8.ofNat zk)]) (List.length [bv (UInt8.ofNat zs), bv (UInt8.ofNat zk)]) 5 .whole)) := by rw [← hs7, seen_heap, seen_next]
      clear hs7
      have hL2 : [bv (UInt8.ofNat zs), bv (UInt8.ofNat zk)] = [UInt8.ofNat zs, UInt8.ofNat zk].map bv := rfl
      rw [hL2, List.length_map] at e7h
      obtain ⟨s10, a10, m1, m2, m3, ⟨cb, eb, rb, m4, m5⟩, m6⟩ := P6'.more hlen (by omega) hN [UInt8.ofNat zs, UInt8.ofNat zk] rfl _ _ e7 e7h
      rw [seen_next] at a10
      have hLL : (d.load ++ pre d 3 ++ [UInt8.ofNat zs, UInt8.ofNat zk]).length = 124 := by simp [pre_len, hlen]
      have B10 : Bs s10 ⟨s.next + 3, 0, none⟩ (d.load ++ pre d 3 ++ [UInt8.ofNat zs, UInt8.ofNat zk]) := ⟨rfl, by rw [m1]; show s.next + 3 < _; omega, _, _, .inl ⟨_, _, m4⟩, by rw [hLL]; exact Nat.le_refl _, m5⟩
      obtain ⟨s11, r11, m7, m8⟩ := closeA_run B10 (by omega) (by omega) 124 (fun i hi => by rw [m1, show s.next + 5 + (3 + 1) + i = s.next + (9 + i) by omega]; exact hN (9 + i) (by omega))
      rw [hLL] at r11
      apply go_take 3
      case h => intro m; simp (disch := decide) only [List.take, opsLoop, evOper, wantedA, nth, aop, aPick, aBin, aIndexAddr, aFieldAddr, aLoad, aStore, aExtract, aConvert, aAlloc, aBox, aIndex, callA, Fr.evs, opt, val, when, AM.run, outV, newA, ptr, force_eq, seen_heap, seen_next, seen_mark, seen_seen, agg_cells, int_cells, Fr.ev, Fr.put, onFr, gps, gpn, bltT, still, flat, List.append_nil, List.nil_append, List.cons_append, Nat.reduceEqDiff, ne_eq, not_false_eq_true, reduceCtorEq, Bool.and_true, Bool.true_and, Bool.and_false, Bool.false_and, Bool.not_true, Bool.not_false, Bool.and_self, a10, tgC, evT_told sgC, r11]; rfl
      simp only [List.drop]
      apply go_done
      repeat apply go_seq
      apply go_ret
      apply ret_intro rfl rfl
      case run => simp (disch := decide) only [resultsM, resultsA, resP, opsLoop, evOper, wantedA, nth, aop, aPick, aBin, aIndexAddr, aFieldAddr, aLoad, aStore, aExtract, aConvert, aAlloc, aBox, aIndex, callA, builtinA, Fr.evs, opt, val, when, AM.run, outV, newA, ptr, force_eq, seen_heap, seen_next, seen_mark, seen_seen, agg_cells, int_cells, Fr.ev, Fr.put, onFr, gps, gpn, bltT, still, flat, List.append_nil, List.nil_append, List.cons_append, Nat.reduceEqDiff, ne_eq, not_false_eq_true, reduceCtorEq, Bool.and_true, Bool.true_and, Bool.and_false, Bool.false_and, Bool.not_true, Bool.not_false, Bool.and_self]; rfl
      have hput : closeL (d.load ++ pre d 3 ++ [UInt8.ofNat zs, UInt8.ofNat zk]) = putL d := by
        unfold putL
        rw [hzs, hzk]
        rfl
      rw [hput, m1] at m8
      refine ⟨by rw [m1, hn8, show s.next + 5 + (3 + 1) = s.next + 9 by omega], by rw [m7, m1, hn11]; omega, ?_⟩
      intro m o ho
      rw [hh] at ho
      refine ⟨o, ?_, .refl o⟩
      rw [m8]
      by_cases h9 : m = s.next + 9
      · rw [if_pos h9] at ho
        rw [if_neg (by omega), if_pos (by omega)]
        exact ho
      · rw [if_neg h9] at ho
        by_cases h10 : s.next ≤ m ∧ m < s.next + 11
        · rw [if_pos h10] at ho; cases ho
        · rw [if_neg h10] at ho
          rw [if_neg (by omega), if_neg (by omega), m6 m (by omega)]
          exact ho
  · cases h
end Go.Proofs.YtdkieabjjmhdlaaDoor.lf
end
end

section
/- Leaves: bytes that are the same; a number of two bytes. -/
noncomputable section
namespace Go.Proofs.YtdkieabjjmhdlaaDoor.lf
open AE
set_option linter.unusedSimpArgs false
set_option linter.unusedVariables false
set_option maxRecDepth 10000

theorem bytesOf_map : ∀ l : List UInt8, bytesOf (l.map bv) = some l
  | [] => rfl
  | x :: l => by
    simp only [List.map_cons, bv, bytesOf]
    have := bytesOf_map l
    rw [this]
    show some (UInt8.ofNat (Int.toNat (Int.ofNat x.toNat)) :: l) = _
    rw [show Int.toNat (Int.ofNat x.toNat) = x.toNat from rfl, UInt8.ofNat_toNat]
theorem eqBytes_iff : ∀ a b : List UInt8, eqBytes a b = decide (a = b)
  | [], [] => by simp [eqBytes]
  | [], _ :: _ => by simp [eqBytes]
  | _ :: _, [] => by simp [eqBytes]
  | x :: a, y :: b => by
    simp only [eqBytes]
    cases h : Nat.beq x.toNat y.toNat with
    | true =>
      have : x = y := UInt8.toNat_inj.1 (beq_iff.1 h)
      subst this
      simp only [eqBytes_iff a b]
      simp
    | false =>
      have : x ≠ y := fun e => by subst e; rw [beq_iff.2 rfl] at h; cases h
      simp [this]

def equalA : List Value → AM Value
  | [.slice (some ad) n c, .slice (some ad2) n2 c2] => loadA ad n fun cs => opt (bytesV cs) fun l => loadA ad2 n2 fun cs => opt (bytesV cs) fun l2 => .pure (.bool (eqBytes l l2))
  | [.slice none 0 0, .slice (some ad2) n2 c2] => loadA ad2 n2 fun cs => opt (bytesV cs) fun l2 => .pure (.bool (eqBytes [] l2))
  | _ => .fail
noncomputable def fiE : FI := FI.of Tryd.f17
noncomputable def cdE : Code := bodyOf Tryd.f17
theorem resE : fiE.results = [.tmp 4] := rfl
theorem b_str {E t} (a b : List UInt8) : binA E .eql t (.string ⟨⟨a⟩⟩) (.string ⟨⟨b⟩⟩) = some (.bool (eqBytes a b)) := rfl
theorem told_equal : AE.Told Tryd.prog 17 equalA := by
  refine told_go hE hmix tolds_nil ?_
  intro args s v s' h hm
  unfold equalA at h
  split at h
  · rename_i ad n c ad2 n2 c2
    obtain ⟨l, rfl, hb, h2⟩ := bs_of_load h
    obtain ⟨l2, rfl, hb2, h3⟩ := bs_of_load h2
    cases h3
    refine go_enter (fi := fiE) (c := cdE) (by kernel_rfl) (by kernel_rfl) 10 rfl rfl ?_
    have h0 : (Tr.ofList [Value.slice (some ad) l.length c, .slice (some ad2) l2.length c2]).get 0 = some (.slice (some ad) l.length c) := rfl
    have h1 : (Tr.ofList [Value.slice (some ad) l.length c, .slice (some ad2) l2.length c2]).get 1 = some (.slice (some ad2) l2.length c2) := rfl
    generalize Tr.ofList [Value.slice (some ad) l.length c, .slice (some ad2) l2.length c2] = t at *
    simp only [cdE, Tryd.f17, bodyOf]
    have q1 : ∀ k : List Value → AM ANext, (loadA ad l.length k).run s = (k (l.map bv)).run (s.seen ad.block) := fun k => loadA_run hb k
    have q2 : ∀ k : List Value → AM ANext, (loadA ad2 l2.length k).run (s.seen ad.block) = (k (l2.map bv)).run ((s.seen ad.block).seen ad2.block) := fun k => loadA_run hb2 k
    repeat apply go_seq
    apply go_region
    case h => intro m; simp (maxSteps := 2000000) (disch := decide) only [opsLoop, evOper, wantedA, nth, aop, aPick, aBin, aIndexAddr, aFieldAddr, aLoad, aStore, aExtract, aConvert, aAlloc, aBox, aIndex, callA, builtinA, Fr.evs, opt, val, when, AM.run, outV, newA, ptr, force_eq, seen_heap, seen_next, seen_mark, seen_seen, agg_cells, int_cells, Fr.ev, Fr.put, onFr, gps, gpn, bltT, still, flat, List.append_nil, List.nil_append, List.cons_append, Nat.reduceEqDiff, ne_eq, not_false_eq_true, reduceCtorEq, Bool.and_true, Bool.true_and, Bool.and_false, Bool.false_and, Bool.not_true, Bool.not_false, Bool.and_self]; rfl
    repeat apply go_seq
    apply go_region
    case h => intro m; simp (maxSteps := 2000000) (disch := decide) only [opsLoop, evOper, wantedA, nth, aop, aPick, aBin, aIndexAddr, aFieldAddr, aLoad, aStore, aExtract, aConvert, aAlloc, aBox, aIndex, callA, builtinA, Fr.evs, opt, val, when, AM.run, outV, newA, ptr, force_eq, seen_heap, seen_next, seen_mark, seen_seen, agg_cells, int_cells, Fr.ev, Fr.put, onFr, gps, gpn, bltT, still, flat, List.append_nil, List.nil_append, List.cons_append, Nat.reduceEqDiff, ne_eq, not_false_eq_true, reduceCtorEq, Bool.and_true, Bool.true_and, Bool.and_false, Bool.false_and, Bool.not_true, Bool.not_false, Bool.and_self, h0, h1, tySt, dsSt, tyB, dsB, tyU8, dsU8, q1, q2, bytesOf_map, b_str]; rfl
    repeat apply go_seq
    apply go_ret
    apply ret_intro rfl rfl
    case run => simp (disch := decide) only [resultsM, resultsA, resE, opsLoop, evOper, wantedA, nth, aop, aPick, aBin, aIndexAddr, aFieldAddr, aLoad, aStore, aExtract, aConvert, aAlloc, aBox, aIndex, callA, builtinA, Fr.evs, opt, val, when, AM.run, outV, newA, ptr, force_eq, seen_heap, seen_next, seen_mark, seen_seen, agg_cells, int_cells, Fr.ev, Fr.put, onFr, gps, gpn, bltT, still, flat, List.append_nil, List.nil_append, List.cons_append, Nat.reduceEqDiff, ne_eq, not_false_eq_true, reduceCtorEq, Bool.and_true, Bool.true_and, Bool.and_false, Bool.false_and, Bool.not_true, Bool.not_false, Bool.and_self]; rfl
    exact ⟨rfl, Less'.refl _⟩
  · rename_i ad2 n2 c2
    obtain ⟨l2, rfl, hb2, h3⟩ := bs_of_load h
    cases h3
    refine go_enter (fi := fiE) (c := cdE) (by kernel_rfl) (by kernel_rfl) 10 rfl rfl ?_
    have h0 : (Tr.ofList [Value.slice none 0 0, .slice (some ad2) l2.length c2]).get 0 = some (.slice none 0 0) := rfl
    have h1 : (Tr.ofList [Value.slice none 0 0, .slice (some ad2) l2.length c2]).get 1 = some (.slice (some ad2) l2.length c2) := rfl
    generalize Tr.ofList [Value.slice none 0 0, .slice (some ad2) l2.length c2] = t at *
    simp only [cdE, Tryd.f17, bodyOf]
    have q2 : ∀ k : List Value → AM ANext, (loadA ad2 l2.length k).run s = (k (l2.map bv)).run (s.seen ad2.block) := fun k => loadA_run hb2 k
    repeat apply go_seq
    apply go_region
    case h => intro m; simp (maxSteps := 2000000) (disch := decide) only [opsLoop, evOper, wantedA, nth, aop, aPick, aBin, aIndexAddr, aFieldAddr, aLoad, aStore, aExtract, aConvert, aAlloc, aBox, aIndex, callA, builtinA, Fr.evs, opt, val, when, AM.run, outV, newA, ptr, force_eq, seen_heap, seen_next, seen_mark, seen_seen, agg_cells, int_cells, Fr.ev, Fr.put, onFr, gps, gpn, bltT, still, flat, List.append_nil, List.nil_append, List.cons_append, Nat.reduceEqDiff, ne_eq, not_false_eq_true, reduceCtorEq, Bool.and_true, Bool.true_and, Bool.and_false, Bool.false_and, Bool.not_true, Bool.not_false, Bool.and_self]; rfl
    repeat apply go_seq
    apply go_region
    case h => intro m; simp (maxSteps := 2000000) (disch := decide) only [opsLoop, evOper, wantedA, nth, aop, aPick, aBin, aIndexAddr, aFieldAddr, aLoad, aStore, aExtract, aConvert, aAlloc, aBox, aIndex, callA, builtinA, Fr.evs, opt, val, when, AM.run, outV, newA, ptr, force_eq, seen_heap, seen_next, seen_mark, seen_seen, agg_cells, int_cells, Fr.ev, Fr.put, onFr, gps, gpn, bltT, still, flat, List.append_nil, List.nil_append, List.cons_append, Nat.reduceEqDiff, ne_eq, not_false_eq_true, reduceCtorEq, Bool.and_true, Bool.true_and, Bool.and_false, Bool.false_and, Bool.not_true, Bool.not_false, Bool.and_self, h0, h1, tySt, dsSt, tyB, dsB, tyU8, dsU8, q2, bytesOf_map, b_str]; rfl
    repeat apply go_seq
    apply go_ret
    apply ret_intro rfl rfl
    case run => simp (disch := decide) only [resultsM, resultsA, resE, opsLoop, evOper, wantedA, nth, aop, aPick, aBin, aIndexAddr, aFieldAddr, aLoad, aStore, aExtract, aConvert, aAlloc, aBox, aIndex, callA, builtinA, Fr.evs, opt, val, when, AM.run, outV, newA, ptr, force_eq, seen_heap, seen_next, seen_mark, seen_seen, agg_cells, int_cells, Fr.ev, Fr.put, onFr, gps, gpn, bltT, still, flat, List.append_nil, List.nil_append, List.cons_append, Nat.reduceEqDiff, ne_eq, not_false_eq_true, reduceCtorEq, Bool.and_true, Bool.true_and, Bool.and_false, Bool.false_and, Bool.not_true, Bool.not_false, Bool.and_self]; rfl
    exact ⟨rfl, Less'.refl _⟩
  · cases h

/-! a number of two bytes, in a slice that a variable holds -/
def num2 (x y : UInt8) : Int := wrapA .i64 (.ofNat (Nat.lor (x.toNat % 18446744073709551616) (y.toNat * 256 % 18446744073709551616)))
/-- the variable p holds the slice v -/
structure Holds (s : S) (p : Nat) (v : Value) : Prop where
  lt : p < s.next
  cell : ∃ c m, Has s p c m ∧ 1 ≤ m ∧ c.get 0 = some v
theorem Holds.load {s : S} {p : Nat} {v : Value} (h : Holds s p v) : (loadT tiB ⟨p, 0, none⟩ AE.val).run s = some (.value v, s.seen p) := by
  obtain ⟨c, m, h1, h2, h3⟩ := h.cell
  exact has_load tiB (by rw [dsB]; rfl) h.lt h1 h2 h3
theorem Holds.rd {s s' : S} {p : Nat} {v : Value} (h : Holds s p v) (hr : Rd s s') : Holds s' p v := ⟨by rw [hr.next]; exact h.lt, by obtain ⟨c, m, h1, h2⟩ := h.cell; exact ⟨c, m, h1.of (by rw [hr.heap]), h2⟩⟩
theorem Holds.keep {s s' : S} {p : Nat} {v : Value} (h : Holds s p v) (hn : s.next ≤ s'.next) (hg : s'.heap.get p = s.heap.get p) : Holds s' p v := ⟨by have := h.lt; omega, by obtain ⟨c, m, h1, h2⟩ := h.cell; exact ⟨c, m, h1.of hg, h2⟩⟩
def twoA : List Value → AM Value
  | [.int .i64 (.ofNat k), .pointer (some ⟨p, 0, none⟩)] => loadT tiB ⟨p, 0, none⟩ fun
    | .slice (some ad) n cap => when (Nat.ble (118 + k) n && Nat.ble k 1000 && Nat.blt n 1000000) (loadA ad n fun cs => opt (bytesV cs) fun l => opt l[116 + k]? fun x => opt l[117 + k]? fun y => .pure (.int .i64 (num2 x y)))
    | _ => .fail
  | _ => .fail
noncomputable def fi2 : FI := FI.of Tryd.f16
noncomputable def cd2 : Code := bodyOf Tryd.f16
theorem res2 : fi2.results = [.tmp 3] := rfl
theorem b_plus {a b : Nat} (h : a + b < 9223372036854775808) : ∀ E t, binA E .add t (.int .i64 (.ofNat a)) (.int .i64 (.ofNat b)) = some (.int .i64 (.ofNat (a + b))) := by
  intro E t
  show some (Value.int .i64 (wrapA .i64 (.ofNat (a + b)))) = _
  rw [wrap64 h]
theorem cv64 {x : Nat} (h : x < 9223372036854775808) : wrapA .i64 (.ofNat x) = .ofNat x := wrap64 h
set_option maxHeartbeats 2000000 in
theorem told_two : AE.Told Tryd.prog 16 twoA := by
  refine told_go hE hmix tolds_nil ?_
  intro args s v s' h hm
  unfold twoA at h
  split at h
  · rename_i k p
    -- the slice that the variable holds
    have key : ∃ ad n cap l x y, Holds s p (.slice (some ad) n cap) ∧ l.length = n ∧ Bs s ad l ∧ 118 + k ≤ n ∧ k ≤ 1000 ∧ n < 1000000 ∧ l[116 + k]? = some x ∧ l[117 + k]? = some y ∧ v = .int .i64 (num2 x y) ∧ s' = (s.seen p).seen ad.block := by
      unfold loadT at h
      rw [dsB] at h
      simp only [isAggD] at h
      obtain ⟨c, m, cs, _, hlt, ho, hm1, hcs, h4⟩ := load_inv h
      split at h4
      · rename_i u
        split at h4
        · rename_i ad n cap
          obtain ⟨hc, h5⟩ := run_when h4
          simp only [Bool.and_eq_true] at hc
          obtain ⟨l, hl, hb, h6⟩ := bs_of_load h5
          obtain ⟨x, hx, h7⟩ := run_opt h6
          obtain ⟨y, hy, h8⟩ := run_opt h7
          cases h8
          have hc0 := (rdCells_get hcs).2 0 _ rfl
          exact ⟨ad, n, cap, l, x, y, ⟨hlt, c, m, ho, by simpa using hm1, by simpa using hc0⟩, hl, hb.of rfl rfl, ble_iff.1 hc.1.1, ble_iff.1 hc.1.2, blt_iff.1 hc.2, hx, hy, rfl, rfl⟩
        · cases h4
      · cases h4
    obtain ⟨ad, n, cap, l, x, y, H, rfl, hb, h1, h2, h3, hx, hy, rfl, rfl⟩ := key
    clear h
    refine go_enter (fi := fi2) (c := cd2) (by kernel_rfl) (by kernel_rfl) 19 rfl rfl ?_
    have h0 : (Tr.ofList [Value.int .i64 (.ofNat k), .pointer (some ⟨p, 0, none⟩)]).get 0 = some (.int .i64 (.ofNat k)) := rfl
    have h1' : (Tr.ofList [Value.int .i64 (.ofNat k), .pointer (some ⟨p, 0, none⟩)]).get 1 = some (.pointer (some ⟨p, 0, none⟩)) := rfl
    generalize Tr.ofList [Value.int .i64 (.ofNat k), .pointer (some ⟨p, 0, none⟩)] = t at *
    simp only [cd2, Tryd.f16, bodyOf]
    have q0 := (H.rd (s' := ⟨s.heap, s.next, s.mark, s.rd, s.wr⟩) ⟨rfl, rfl, rfl⟩)
    have H0 : Holds ⟨s.heap, s.next, s.next, 0, 0⟩ p (.slice (some ad) l.length cap) := ⟨H.lt, H.cell⟩
    have B0 : Bs ⟨s.heap, s.next, s.next, 0, 0⟩ ad l := hb.of rfl rfl
    have l1 := H0.load
    have lx := sum.byte_load (Bs.at B0 hx) tiU8 dsU8
    have ly := sum.byte_load (Bs.at B0 hy) tiU8 dsU8
    simp only [S.seen] at l1 lx ly
    have p1 := b_plus (a := 116) (b := k) (by omega)
    have p2 := b_plus (a := 116 + k) (b := 1) (by omega)
    rw [show 116 + k + 1 = 117 + k by omega] at p2
    have n1 : Nat.blt (116 + k) l.length = true := blt_iff.2 (by omega)
    have n2 : Nat.blt (117 + k) l.length = true := blt_iff.2 (by omega)
    have i116 : (116 : Int) = Int.ofNat 116 := rfl
    have hx8 := x.toNat_lt
    have hy8 := y.toNat_lt
    have w1 : wrapA .i64 (Int.ofNat x.toNat) = Int.ofNat x.toNat := cv64 (by omega)
    have w2 : wrapA .i64 (Int.ofNat y.toNat) = Int.ofNat y.toNat := cv64 (by omega)
    have s1 : ∀ E t, binA E .shl t (.int .i64 (.ofNat y.toNat)) (.int .u64 8) = some (.int .i64 (.ofNat (y.toNat * 256))) := by
      intro E t
      show some (Value.int .i64 (wrapA .i64 (Int.ofNat (y.toNat * 256)))) = _
      rw [cv64 (by omega)]
    have o1 : ∀ E t, binA E .or t (.int .i64 (.ofNat x.toNat)) (.int .i64 (.ofNat (y.toNat * 256))) = some (.int .i64 (num2 x y)) := fun E t => rfl
    repeat apply go_seq
    apply go_region
    case h => intro m; simp (maxSteps := 2000000) (disch := decide) only [opsLoop, evOper, wantedA, nth, aop, aPick, aBin, aIndexAddr, aFieldAddr, aLoad, aStore, aExtract, aConvert, aAlloc, aBox, aIndex, callA, builtinA, Fr.evs, opt, val, when, AM.run, outV, newA, ptr, force_eq, seen_heap, seen_next, seen_mark, seen_seen, agg_cells, int_cells, Fr.ev, Fr.put, onFr, gps, gpn, bltT, still, flat, List.append_nil, List.nil_append, List.cons_append, Nat.reduceEqDiff, ne_eq, not_false_eq_true, reduceCtorEq, Bool.and_true, Bool.true_and, Bool.and_false, Bool.false_and, Bool.not_true, Bool.not_false, Bool.and_self]; rfl
    repeat apply go_seq
    apply go_drawn
    case hs => rfl
    case h => intro m; simp (maxSteps := 2000000) (disch := decide) only [opsLoop, evOper, wantedA, nth, aop, aPick, aBin, aIndexAddr, aFieldAddr, aLoad, aStore, aExtract, aConvert, aAlloc, aBox, aIndex, callA, builtinA, Fr.evs, opt, val, when, AM.run, outV, newA, ptr, force_eq, seen_heap, seen_next, seen_mark, seen_seen, agg_cells, int_cells, Fr.ev, Fr.put, onFr, gps, gpn, bltT, still, flat, List.append_nil, List.nil_append, List.cons_append, Nat.reduceEqDiff, ne_eq, not_false_eq_true, reduceCtorEq, Bool.and_true, Bool.true_and, Bool.and_false, Bool.false_and, Bool.not_true, Bool.not_false, Bool.and_self, drawnLoop, force_eq, S.seen, keep_none, clash_nil, clash_reads, created_self, lor_zero, lor_zero', h0, h1', tyB, dsB, tyU8, szU8, dsU8, tyI, dsI, l1, i116, int1, p1, p2, n1, n2, mul1, lx, ly, w1, w2, s1, o1]; rfl
    repeat apply go_seq
    apply go_ret
    apply ret_intro rfl rfl
    case run => simp (disch := decide) only [resultsM, resultsA, res2, opsLoop, evOper, wantedA, nth, aop, aPick, aBin, aIndexAddr, aFieldAddr, aLoad, aStore, aExtract, aConvert, aAlloc, aBox, aIndex, callA, builtinA, Fr.evs, opt, val, when, AM.run, outV, newA, ptr, force_eq, seen_heap, seen_next, seen_mark, seen_seen, agg_cells, int_cells, Fr.ev, Fr.put, onFr, gps, gpn, bltT, still, flat, List.append_nil, List.nil_append, List.cons_append, Nat.reduceEqDiff, ne_eq, not_false_eq_true, reduceCtorEq, Bool.and_true, Bool.true_and, Bool.and_false, Bool.false_and, Bool.not_true, Bool.not_false, Bool.and_self]; rfl
    exact ⟨rfl, Rd.less (s := s) ⟨rfl, rfl, rfl⟩ ⟨rfl, rfl, rfl⟩⟩
  · cases h
end Go.Proofs.YtdkieabjjmhdlaaDoor.lf
end
end

section
/- Leaves: the leaf of a block: parts. -/
noncomputable section
namespace Go.Proofs.YtdkieabjjmhdlaaDoor.lf
open AE
set_option linter.unusedSimpArgs false
set_option linter.unusedVariables false
set_option maxRecDepth 10000

theorem bit_own {mark n l : Nat} (h : mark ≤ n) : bit mark n l = l := by
  unfold bit
  rw [ble_iff.2 h]
theorem bump_ok' {α : Type} : ∀ (n : Nat) (k : AM α) (s : S), s.mark ≤ s.next → (∀ i, i < n → Nat.ble (s.next + i) lastName = true) → ∃ s1, (bump n k).run s = k.run s1 ∧ s1.next = s.next + n ∧ s1.mark = s.mark ∧ s1.rd = s.rd ∧ s1.wr = s.wr ∧ ∀ m, s1.heap.get m = if s.next ≤ m ∧ m < s.next + n then none else s.heap.get m
  | 0, k, s, hm, h => ⟨s, rfl, rfl, rfl, rfl, rfl, fun m => by rw [if_neg (by omega)]⟩
  | n + 1, k, s, hm, h => by
    have h0 : Nat.ble s.next lastName = true := h 0 (by omega)
    have h7 : ∀ i, (S.turn (s.grow (.deferred none)) s.next none).next + i = s.next + (i + 1) := fun i => by show s.next + 1 + i = _; omega
    obtain ⟨s1, e1, e2, e3, er, ew, e4⟩ := bump_ok' n k (S.turn (s.grow (.deferred none)) s.next none) (by show s.mark ≤ s.next + 1; omega) (fun i hi => by rw [h7]; exact h (i + 1) (by omega))
    refine ⟨s1, ?_, by rw [e2]; show s.next + 1 + n = _; omega, by rw [e3]; rfl, by rw [er]; rfl, by rw [ew]; exact bit_own hm, ?_⟩
    · rw [← e1]
      have hb : Nat.blt s.next (Nat.succ s.next) = true := blt_iff.2 (Nat.lt_succ_self _)
      have hg := hg_same h0 s.heap (some (AObj.deferred none))
      simp only [bump, AM.run, force_eq, h0, hb, Bool.and_self, hg]
      rfl
    · intro m
      rw [e4 m]
      show (if s.next + 1 ≤ m ∧ m < s.next + 1 + n then none else ((s.heap.put s.next (some (.deferred none))).put s.next none).get m) = _
      by_cases hm : m = s.next
      · subst hm
        rw [if_neg (by omega), hg_same h0, if_pos (by omega)]
      · rw [hg_far h0 hm, hg_far h0 hm]
        by_cases h5 : s.next + 1 ≤ m ∧ m < s.next + 1 + n
        · rw [if_pos h5, if_pos (by omega)]
        · rw [if_neg h5, if_neg (by omega)]

/-- what a call of Put does -/
def putN (d : LeafD) : Nat := if rightL d = true then 11 else 3
def putV (d : LeafD) (n : Nat) : Value := if rightL d = true then .slice (some ⟨n + 9, 0, none⟩) 128 128 else .slice none 0 0
theorem putA_run {s : S} {d : LeafD} (hlen : d.load.length = 116) (hm : s.mark ≤ s.next) (hN : ∀ i, i < putN d → Nat.ble (s.next + i) lastName = true) :
    ∃ s1, (putA [.agg ⟨d.cells⟩]).run s = some (putV d s.next, s1) ∧ s1.next = s.next + putN d ∧ s1.mark = s.mark ∧ s1.rd = s.rd ∧ s1.wr = s.wr ∧
      (∀ m, (m < s.next ∨ s.next + putN d ≤ m) → s1.heap.get m = s.heap.get m) ∧ (rightL d = true → s1.heap.get (s.next + 9) = some (.cells (Tr.ofList ((putL d).map bv)) (putL d).length 5 .whole)) := by
  have e0 : (putA [.agg ⟨d.cells⟩]).run s = (match rightL d with
    | true => bump 9 (newB (putL d) fun r => bump 1 (.pure (.slice (some ⟨r, 0, none⟩) 128 128)))
    | false => bump 3 (.pure (.slice none 0 0))).run s := by
    show (opt (leafOf d.cells) fun d => match rightL d with
      | true => bump 9 (newB (putL d) fun r => bump 1 (.pure (.slice (some ⟨r, 0, none⟩) 128 128)))
      | false => bump 3 (.pure (.slice none 0 0))).run s = _
    rw [leafOf_cells d hlen]
    rfl
  rw [e0]
  unfold putN at hN ⊢
  unfold putV
  cases hR : rightL d with
  | false =>
    rw [hR] at hN
    obtain ⟨s1, a1, a2, a3, a4, a5, a6⟩ := bump_ok' 3 (AM.pure (Value.slice none 0 0)) s hm hN
    exact ⟨s1, a1, a2, a3, a4, a5, fun m h => by rw [a6 m, if_neg (by simp at h; omega)], fun h => by cases h⟩
  | true =>
    rw [hR] at hN
    simp only [if_true] at hN ⊢
    obtain ⟨s1, a1, a2, a3, a4, a5, a6⟩ := bump_ok' 9 (newB (putL d) fun r => bump 1 (.pure (.slice (some ⟨r, 0, none⟩) 128 128))) s hm (fun i hi => hN i (by omega))
    have hN9 : Nat.ble (s.next + 9) lastName = true := hN 9 (by omega)
    obtain ⟨s2, b1, b2, b3, b4, b5, b6⟩ := bump_ok' 1 (AM.pure (Value.slice (some ⟨s.next + 9, 0, none⟩) 128 128)) (s1.grow (.cells (Tr.ofList ((putL d).map bv)) (putL d).length 5 .whole)) (by show s1.mark ≤ s1.next + 1; omega)
      (fun i hi => by have : i = 0 := by omega
                      subst this
                      show Nat.ble (s1.next + 1) lastName = true
                      rw [a2]; exact hN 10 (by omega))
    have hg : ∀ m, (s1.grow (.cells (Tr.ofList ((putL d).map bv)) (putL d).length 5 .whole)).heap.get m = if m = s.next + 9 then some (.cells (Tr.ofList ((putL d).map bv)) (putL d).length 5 .whole) else s1.heap.get m := by
      intro m
      show (s1.heap.put s1.next _).get m = _
      rw [a2]
      by_cases h : m = s.next + 9
      · subst h; rw [hg_same hN9, if_pos rfl]
      · rw [hg_far hN9 h, if_neg h]
    have hnx : (s1.grow (.cells (Tr.ofList ((putL d).map bv)) (putL d).length 5 .whole)).next = s.next + 10 := by show s1.next + 1 = _; omega
    refine ⟨s2, ?_, by rw [b2, hnx], by rw [b3]; exact a3, by rw [b4]; exact a4, by rw [b5]; exact a5, ?_, ?_⟩
    · rw [a1]
      simp only [newB, AM.run, force_eq]
      rw [a2]
      show (match Nat.ble (s.next + 9) lastName with | false => none | true => _) = _
      rw [hN9]
      have hs : (⟨s1.heap.put (s.next + 9) (some (.cells (Tr.ofList ((putL d).map bv)) (putL d).length 5 .whole)), Nat.succ (s.next + 9), s1.mark, s1.rd, s1.wr⟩ : S) = s1.grow (.cells (Tr.ofList ((putL d).map bv)) (putL d).length 5 .whole) := by
        show _ = S.mk _ _ _ _ _
        rw [a2]
      simp only [hs]
      exact b1
    · intro m h
      rw [b6 m, if_neg (by rw [hnx]; omega), hg m, if_neg (by omega), a6 m, if_neg (by omega)]
    · intro _
      rw [b6 _, if_neg (by rw [hnx]; omega), hg _, if_pos rfl]

def zeroL : LeafD := ⟨0, 0, 0, 0, 0, List.replicate 116 0⟩
theorem zero_len : zeroL.load.length = 116 := by simp [zeroL]
theorem zeLf : tiLf.zero = some (.agg ⟨zeroL.cells⟩) := by kernel_rfl
/-- the leaf that a block's bytes say -/
def sayL (l : List UInt8) : LeafD := ⟨((l.getD 123 0).toNat : Int), num2 (l.getD 116 0) (l.getD 117 0), num2 (l.getD 118 0) (l.getD 119 0), num2 (l.getD 120 0) (l.getD 121 0), ((l.getD 122 0).toNat : Int), l.take 116⟩
def getOK (l : List UInt8) : Bool := rightL (sayL l) && eqBytes (putL (sayL l)) l
def getL (l : List UInt8) : LeafD := if getOK l = true then sayL l else zeroL
def getA : List Value → AM Value
  | [.slice a n cap] => match Nat.beq n 128 with
    | false => bump 2 (.pure (.tuple ⟨[.agg ⟨zeroL.cells⟩, .bool false]⟩))
    | true => match a with
      | none => .fail
      | some ad => loadA ad 128 fun cs => opt (bytesV cs) fun l => bump (3 + putN (sayL l)) (.pure (.tuple ⟨[.agg ⟨(getL l).cells⟩, .bool (getOK l)]⟩))
  | _ => .fail

theorem LfAt.cells_one {d : LeafD} : allOne d.cells = true := by
  have := bvs_one d.load
  unfold LeafD.cells
  show allOne (Value.int .i64 d.kind :: Value.int .i64 d.file :: Value.int .i64 d.place :: Value.int .i64 d.next :: Value.int .i64 d.size :: d.load.map bv) = true
  simp only [allOne, oneB, this]
/-- a leaf is stored -/
theorem LfAt.store {s : S} {n : Nat} {d d' : LeafD} (h : LfAt s n d) (hN : Nat.ble n lastName = true) (hd : d'.load.length = 116) :
    ∃ c e rm, (storeA ⟨n, 0, none⟩ d'.cells (AM.pure (ANext.value undefV))).run s = some (.value undefV, (s.seen n).turn n (some (.cells c 121 e rm))) ∧ Row c 0 d'.cells := by
  obtain ⟨c, e, rm, h1, h2⟩ := h.cell
  refine ⟨wrCells c 0 d'.cells, e, rm, ?_, row_wr (by rw [d'.len hd]; unfold Tr.wide; omega)⟩
  rw [storeA_run _ LfAt.cells_one h.lt hN h1 (by rw [d'.len hd]; omega) (by omega)]
  rfl
theorem copy_b {s : S} {N : Nat} {d : LeafD} {ad : Addr} {l : List UInt8} {c2 : Nat} (h : LfAt s N d) (hN : Nat.ble N lastName = true) (hb : Bs s ad l) (hl : l.length = 128) :
    ∃ c e rm, (builtinA E .copy #[25, 25] [.slice (some ⟨N, 5, none⟩) 116 116, .slice (some ad) 128 c2]).run s = some (.value (.int .i64 (.ofNat 116)), ((s.seen ad.block).seen N).turn N (some (.cells c 121 e rm))) ∧
      Row c 0 ({ d with load := l.take 116 } : LeafD).cells := by
  obtain ⟨c, e, rm, h1, h2⟩ := h.cell
  have htl : (l.take 116).length = 116 := by rw [List.length_take]; omega
  have hbt := hb.take 116
  refine ⟨wrCells c 5 ((l.take 116).map bv), e, rm, ?_, ?_⟩
  · have e1 : builtinA E .copy #[25, 25] [.slice (some ⟨N, 5, none⟩) 116 116, .slice (some ad) 128 c2] = copyA 1 (some ⟨N, 5, none⟩) 116 (.slice (some ad) 128 c2) 128 := by
      simp only [builtinA, tyB, dsB, opt, tyU8, szU8, lenA]
    rw [e1]
    have e2 : copyA 1 (some ⟨N, 5, none⟩) 116 (.slice (some ad) 128 c2) 128 = loadA ad 116 fun cs => match (some ⟨N, 5, none⟩ : Option Addr), cs with
      | _, [] => AE.val (.int .i64 (.ofNat 116))
      | some a, cs => storeA a cs (AE.val (.int .i64 (.ofNat 116)))
      | none, _ => .fail := rfl
    rw [e2]
    have e3 := loadA_run hbt (fun cs => match (some ⟨N, 5, none⟩ : Option Addr), cs with
      | _, [] => AE.val (.int .i64 (.ofNat 116))
      | some a, cs => storeA a cs (AE.val (.int .i64 (.ofNat 116)))
      | none, _ => .fail)
    rw [htl] at e3
    rw [e3]
    obtain ⟨x, r, hx⟩ : ∃ x r, l.take 116 = x :: r := by
      cases hh : l.take 116 with
      | nil => rw [hh] at htl; simp at htl
      | cons x r => exact ⟨x, r, rfl⟩
    rw [hx, List.map_cons]
    show (storeA ⟨N, 5, none⟩ (bv x :: r.map bv) (AE.val (.int .i64 (.ofNat 116)))).run (s.seen ad.block) = _
    rw [← List.map_cons, ← hx, storeA_run (s := s.seen ad.block) _ (bvs_one _) h.lt hN h1 (by rw [List.length_map, htl]; omega) (by omega)]
    rfl
  · have hw : 5 + ((l.take 116).map bv).length ≤ Tr.wide := by rw [List.length_map, htl]; unfold Tr.wide; omega
    show Row _ 0 ([.int .i64 d.kind, .int .i64 d.file, .int .i64 d.place, .int .i64 d.next, .int .i64 d.size] ++ (l.take 116).map bv)
    refine row_app (row_wr_far hw ?_ (.inl (by simp))) (row_wr hw)
    intro k v hk
    refine h2 k v ?_
    unfold LeafD.cells
    rw [List.getElem?_append_left (List.getElem?_eq_some_iff.1 hk).1]
    exact hk
end Go.Proofs.YtdkieabjjmhdlaaDoor.lf
end
end

section
/- Leaves: the leaf of a block: told. -/
noncomputable section
namespace Go.Proofs.YtdkieabjjmhdlaaDoor.lf
open AE
set_option linter.unusedSimpArgs false
set_option linter.unusedVariables false
set_option maxRecDepth 10000

abbrev sigG : List (Nat × (List Value → AM Value)) := [(16, twoA), (4, putA), (17, equalA)]
theorem tolds_G : Tolds Tryd.prog (sumsOf sigG) := tolds_cons told_two (tolds_cons told_put (tolds_cons told_equal tolds_nil))
theorem sg2 : sumsOf sigG 16 = some twoA := rfl
theorem sgP : sumsOf sigG 4 = some putA := rfl
theorem sgE : sumsOf sigG 17 = some equalA := rfl
theorem tg2 : ∀ a b, targetA E (.func 16) a b = .pure (.enter 16 (b ++ a)) := tgt (fi := fi2) (c := cd2) (by kernel_rfl) (by kernel_rfl)
theorem tgP : ∀ a b, targetA E (.func 4) a b = .pure (.enter 4 (b ++ a)) := tgt (fi := fiP) (c := cdP) (by kernel_rfl) (by kernel_rfl)
theorem tgE : ∀ a b, targetA E (.func 17) a b = .pure (.enter 17 (b ++ a)) := tgt (fi := fiE) (c := cdE) (by kernel_rfl) (by kernel_rfl)
noncomputable def fiG : FI := FI.of Tryd.f7
noncomputable def cdG : Code := bodyOf Tryd.f7
theorem resG : fiG.results = [.cell 2 24, .tmp 3] := rfl

theorem twoA_run {s : S} {p k n cap : Nat} {ad : Addr} {l : List UInt8} (H : Holds s p (.slice (some ad) n cap)) (hb : Bs s ad l) (hl : l.length = n) (h1 : 118 + k ≤ n) (h2 : k ≤ 1000) (h3 : n < 1000000) :
    (twoA [.int .i64 (.ofNat k), .pointer (some ⟨p, 0, none⟩)]).run s = some (.int .i64 (num2 (l.getD (116 + k) 0) (l.getD (117 + k) 0)), (s.seen p).seen ad.block) := by
  subst hl
  obtain ⟨c, m, q1, q2, q3⟩ := H.cell
  have hx : l[116 + k]? = some (l.getD (116 + k) 0) := by rw [List.getD_eq_getElem?_getD, List.getElem?_eq_getElem (by omega)]; rfl
  have hy : l[117 + k]? = some (l.getD (117 + k) 0) := by rw [List.getD_eq_getElem?_getD, List.getElem?_eq_getElem (by omega)]; rfl
  show (loadT tiB ⟨p, 0, none⟩ fun
    | .slice (some ad) n cap => when (Nat.ble (118 + k) n && Nat.ble k 1000 && Nat.blt n 1000000) (loadA ad n fun cs => opt (bytesV cs) fun l => opt l[116 + k]? fun x => opt l[117 + k]? fun y => .pure (Value.int .i64 (num2 x y)))
    | _ => .fail).run s = _
  unfold loadT
  rw [dsB]
  simp only [isAggD]
  have e3 := loadA_run (s := s.seen p) (hb.of rfl rfl) (fun cs => opt (bytesV cs) fun l => opt l[116 + k]? fun x => opt l[117 + k]? fun y => AM.pure (Value.int .i64 (num2 x y)))
  unfold loadA
  rcases q1 with ⟨e, rm, q1⟩ | ⟨e, q1⟩
  all_goals
    simp only [AM.run, blt_iff.2 H.lt, q1, when, show Nat.ble (Nat.add 0 1) m = true from ble_iff.2 q2, rdCells, show Nat.add 0 0 = 0 from rfl, q3, opt, ble_iff.2 h1, ble_iff.2 h2, blt_iff.2 h3, Bool.and_self]
    show (loadA ad l.length fun cs => opt (bytesV cs) fun l => opt l[116 + k]? fun x => opt l[117 + k]? fun y => AM.pure (Value.int .i64 (num2 x y))).run (s.seen p) = _
    rw [e3, bytesV_map]
    simp only [opt, hx, hy, AM.run]

theorem clash_bef (rd wr b i r w : Nat) (seen : List (Nat × Nat × Nat)) (h : Nat.testBit b i = true) : clash rd wr b (keepLog i r w seen) = clash rd wr b seen := by
  unfold keepLog
  split
  · rfl
  · show (match Nat.beq (Nat.lor (Nat.land w (Nat.lor rd wr)) (Nat.land r wr)) 0 with | true => clash rd wr b seen | false => match Nat.testBit b i with | true => clash rd wr b seen | false => true) = _
    rw [h]
    split <;> rfl
theorem land_new {lo hi n mk : Nat} (h : n < lo) : Nat.land (created lo hi) (bit mk n 0) = 0 := by
  apply Nat.eq_of_testBit_eq
  intro i
  show Nat.testBit (created lo hi &&& bit mk n 0) i = Nat.testBit 0 i
  rw [Nat.testBit_and, Nat.zero_testBit]
  unfold bit
  cases Nat.ble mk n with
  | true => simp
  | false =>
    show (Nat.testBit (created lo hi) i && Nat.testBit (0 ||| (1 <<< n)) i) = false
    rw [Nat.zero_or, Nat.one_shiftLeft, Nat.testBit_two_pow]
    by_cases hi' : n = i
    · subst hi'
      have : Nat.testBit (created lo hi) n = false := by
        unfold created
        split
        · simp
        · show Nat.testBit (((1 <<< (hi - lo)) - 1) <<< lo) n = false
          rw [Nat.testBit_shiftLeft]
          simp; omega
      rw [this]; rfl
    · simp [hi']
theorem clash_new {lo hi n mk : Nat} (h : n < lo) (b i : Nat) (seen : List (Nat × Nat × Nat)) : clash (bit mk n 0) 0 b (keepLog i 0 (created lo hi) seen) = clash (bit mk n 0) 0 b seen := by
  unfold keepLog
  split
  · rfl
  · show (match Nat.beq (Nat.lor (Nat.land (created lo hi) (Nat.lor (bit mk n 0) 0)) (Nat.land 0 0)) 0 with | true => clash (bit mk n 0) 0 b seen | false => _) = _
    rw [lor_zero', land_new h]
    try rfl

theorem places_eq : placesA E fsLf.toList = some [(0, 1), (1, 1), (2, 1), (3, 1), (4, 1), (5, 116)] := by kernel_rfl
theorem fillG (a b c e k : Int) : fillA (nthP [(0, 1), (1, 1), (2, 1), (3, 1), (4, 1), (5, 116)]) [(1, Value.int .i64 a), (2, .int .i64 b), (3, .int .i64 c), (4, .int .i64 e), (0, .int .i64 k)] zeroL.cells = some (⟨k, a, b, c, e, List.replicate 116 0⟩ : LeafD).cells := rfl
theorem sl_cells (a : Option Addr) (n c : Nat) : (Value.slice a n c).cells.toList = [.slice a n c] := rfl
theorem ptr_cells (a : Option Addr) : (Value.pointer a).cells.toList = [.pointer a] := rfl

theorem LfAt.loadK {β : Type} {s : S} {n : Nat} {d : LeafD} (h : LfAt s n d) (k : Value → AM β) : (loadT tiLf ⟨n, 0, none⟩ k).run s = (k (.agg ⟨d.cells⟩)).run (s.seen n) := by
  obtain ⟨c, e, rm, h1, h2⟩ := h.cell
  have h4 := rd_row h2
  rw [d.len h.len] at h4
  unfold loadT loadA
  rw [dsLf, szLf]
  simp only [isAggD, AM.run, blt_iff.2 h.lt, h1, when, show Nat.ble (Nat.add 0 121) 121 = true from rfl, opt, h4]
  rfl
/-- the memory of Get -/
structure GetAt (K : Nat) (s0 s : S) (ad : Addr) (cap : Nat) (l : List UInt8) : Prop where
  var : Holds s s0.next (.slice (some ad) 128 cap)
  out : LfAt s (s0.next + 1) zeroL
  bs : Bs s ad l
  old : ∀ m, (m < s0.next ∨ s0.next + K ≤ m) → s.heap.get m = s0.heap.get m
theorem GetAt.of {K : Nat} {s0 s s1 : S} {ad : Addr} {cap : Nat} {l : List UInt8} (h : GetAt K s0 s ad cap l) (hn : s.next ≤ s1.next) (had : ad.block < s0.next) (hh : ∀ m, (m < s0.next + 2 ∨ s0.next + K ≤ m) → s1.heap.get m = s.heap.get m) : GetAt K s0 s1 ad cap l :=
  ⟨h.var.keep hn (hh _ (.inl (by omega))), ⟨by have := h.out.lt; omega, by rw [hh _ (.inl (by omega))]; exact h.out.cell, h.out.len⟩, h.bs.keep hn (hh _ (.inl (by omega))), fun m hm => (hh m (by omega)).trans (h.old m hm)⟩
theorem equalA_run {s : S} {d : LeafD} {N : Nat} {ad : Addr} {l : List UInt8} {c2 : Nat} (hb : Bs s ad l) (hl : l.length = 128) (hd : d.load.length = 116) (hp : rightL d = true → N + 9 < s.next ∧ s.heap.get (N + 9) = some (.cells (Tr.ofList ((putL d).map bv)) (putL d).length 5 .whole)) :
    ∃ s1, (equalA [putV d N, .slice (some ad) 128 c2]).run s = some (.bool (rightL d && eqBytes (putL d) l), s1) ∧ s1.heap = s.heap ∧ s1.next = s.next ∧ s1.mark = s.mark ∧ s1.wr = s.wr := by
  unfold putV
  cases hR : rightL d with
  | false =>
    refine ⟨s.seen ad.block, ?_, rfl, rfl, rfl, rfl⟩
    show (loadA ad 128 fun cs => opt (bytesV cs) fun l2 => .pure (Value.bool (eqBytes [] l2))).run s = _
    rw [← hl, loadA_run hb, bytesV_map]
    cases l with
    | nil => simp at hl
    | cons x l => rfl
  | true =>
    obtain ⟨h1, h2⟩ := hp hR
    have hB := bs_new h1 h2 (by rw [putL_len d hd]; omega)
    refine ⟨(s.seen (N + 9)).seen ad.block, ?_, rfl, rfl, rfl, rfl⟩
    show (loadA ⟨N + 9, 0, none⟩ 128 fun cs => opt (bytesV cs) fun l1 => loadA ad 128 fun cs => opt (bytesV cs) fun l2 => .pure (Value.bool (eqBytes l1 l2))).run s = _
    have e1 := loadA_run hB (fun cs => opt (bytesV cs) fun l1 => loadA ad 128 fun cs => opt (bytesV cs) fun l2 => AM.pure (Value.bool (eqBytes l1 l2)))
    rw [putL_len d hd] at e1
    rw [e1, bytesV_map]
    have e2 := loadA_run (s := s.seen (N + 9)) (hb.of rfl rfl) (fun cs => opt (bytesV cs) fun l2 => AM.pure (Value.bool (eqBytes (putL d) l2)))
    rw [hl] at e2
    show (loadA ad 128 fun cs => opt (bytesV cs) fun l2 => .pure (Value.bool (eqBytes (putL d) l2))).run (s.seen (N + 9)) = _
    rw [e2, bytesV_map]
    rfl

set_option maxHeartbeats 2000000 in
theorem told_get : AE.Told Tryd.prog 7 getA := by
  refine told_go hE hmix tolds_G ?_
  intro args s v s' h hm
  unfold getA at h
  split at h
  · rename_i a n cap
    refine go_enter (fi := fiG) (c := cdG) (by kernel_rfl) (by kernel_rfl) 37 rfl rfl ?_
    have h0 : (Tr.ofList [Value.slice a n cap]).get 0 = some (.slice a n cap) := rfl
    generalize Tr.ofList [Value.slice a n cap] = t at *
    simp only [cdG, Tryd.f7, bodyOf]
    have hzb : Nat.ble zeroL.cells.length lastName = true := by rw [zeroL.len zero_len]; rfl
    have hzl : Nat.beq zeroL.cells.length 121 = true := by rw [zeroL.len zero_len]; rfl
    have i128 : (128 : Int) = Int.ofNat 128 := rfl
    have b_neq : ∀ E t (x y : Int), binA E .neq t (.int .i64 x) (.int .i64 y) = some (.bool (not (eqI x y))) := fun _ _ _ _ => rfl
    cases hn : Nat.beq n 128 with
    | false =>
      rw [hn] at h
      obtain ⟨s9, h3, hn9, hm9, hh9, hbl⟩ := bump_run 2 _ _ _ h
      cases h3
      have hN0 : Nat.ble s.next lastName = true := hbl 0 (by omega)
      have hN1 : Nat.ble (s.next + 1) lastName = true := hbl 1 (by omega)
      have hN1' : Nat.ble (Nat.succ s.next) lastName = true := hN1
      have hne : eqI (Int.ofNat n) (Int.ofNat 128) = false := eqI_f (fun e => by subst e; cases hn)
      repeat apply go_seq
      apply go_region
      case h => intro m; simp (maxSteps := 2000000) (disch := decide) only [opsLoop, evOper, wantedA, nth, aop, aPick, aBin, aIndexAddr, aFieldAddr, aLoad, aStore, aExtract, aConvert, aAlloc, aBox, aIndex, callA, builtinA, Fr.evs, opt, val, when, AM.run, outV, newA, ptr, force_eq, seen_heap, seen_next, seen_mark, seen_seen, agg_cells, int_cells, Fr.ev, Fr.put, onFr, gps, gpn, bltT, still, flat, List.append_nil, List.nil_append, List.cons_append, Nat.reduceEqDiff, ne_eq, not_false_eq_true, reduceCtorEq, Bool.and_true, Bool.true_and, Bool.and_false, Bool.false_and, Bool.not_true, Bool.not_false, Bool.and_self, h0, sl_cells, hN0, hN1', tyLf, zeLf, hzb, show Nat.ble ([Value.slice a n cap] : List Value).length lastName = true from rfl]; rfl
      generalize hs1 : S.mk _ _ _ _ _ = s1
      have e1 : s1.next = s.next + 2 := by rw [← hs1]
      have e1h : s1.heap = (s.heap.put s.next (some (.cells (Tr.ofList [Value.slice a n cap]) (List.length [Value.slice a n cap]) 25 .whole))).put (Nat.succ s.next) (some (.cells (Tr.ofList zeroL.cells) zeroL.cells.length 24 .whole)) := by rw [← hs1]
      clear hs1
      rw [show Nat.succ s.next = s.next + 1 from rfl] at e1h ⊢
      have V1 : Holds s1 s.next (.slice a n cap) := ⟨by omega, _, _, .inl ⟨_, _, by rw [e1h, hg_far hN1 (by omega)]; exact hg_same hN0 _ _⟩, Nat.le_refl 1, rfl⟩
      have O1 : LfAt s1 (s.next + 1) zeroL := ⟨by omega, ⟨_, _, _, by rw [e1h, hg_same hN1, zeroL.len zero_len], row_ofList _ (by rw [zeroL.len zero_len]; unfold Tr.wide; omega)⟩, zero_len⟩
      have lv := V1.load
      obtain ⟨c, e, rm, st, hrow⟩ := (O1.rd (Rd.seen s1 s.next)).store hN1 zero_len
      have O2 : LfAt (((s1.seen s.next).seen (s.next + 1)).turn (s.next + 1) (some (.cells c 121 e rm))) (s.next + 1) zeroL := ⟨by show s.next + 1 < s1.next; omega, ⟨c, e, rm, hg_same hN1 _ _, hrow⟩, zero_len⟩
      have lo := fun k : Value → AM Value => O2.loadK k
      repeat apply go_seq
      apply go_region
      case h => intro m; simp (maxSteps := 2000000) (disch := decide) only [opsLoop, evOper, wantedA, nth, aop, aPick, aBin, aIndexAddr, aFieldAddr, aLoad, aStore, aExtract, aConvert, aAlloc, aBox, aIndex, callA, builtinA, Fr.evs, opt, val, when, AM.run, outV, newA, ptr, force_eq, seen_heap, seen_next, seen_mark, seen_seen, agg_cells, int_cells, Fr.ev, Fr.put, onFr, gps, gpn, bltT, still, flat, List.append_nil, List.nil_append, List.cons_append, Nat.reduceEqDiff, ne_eq, not_false_eq_true, reduceCtorEq, Bool.and_true, Bool.true_and, Bool.and_false, Bool.false_and, Bool.not_true, Bool.not_false, Bool.and_self, tyB, dsB, lv, i128, b_neq, hne]; rfl
      repeat apply go_seq
      apply go_cond
      case hc => simp (disch := decide) only [opsLoop, evOper, wantedA, nth, aop, aPick, aBin, aIndexAddr, aFieldAddr, aLoad, aStore, aExtract, aConvert, aAlloc, aBox, aIndex, callA, builtinA, Fr.evs, opt, val, when, AM.run, outV, newA, ptr, force_eq, seen_heap, seen_next, seen_mark, seen_seen, agg_cells, int_cells, Fr.ev, Fr.put, onFr, gps, gpn, bltT, still, flat, List.append_nil, List.nil_append, List.cons_append, Nat.reduceEqDiff, ne_eq, not_false_eq_true, reduceCtorEq, Bool.and_true, Bool.true_and, Bool.and_false, Bool.false_and, Bool.not_true, Bool.not_false, Bool.and_self]; rfl
      case h2 => intro h; cases h
      intro _
      repeat apply go_seq
      apply go_region
      case h => intro m; simp (maxSteps := 2000000) (disch := decide) only [opsLoop, evOper, wantedA, nth, aop, aPick, aBin, aIndexAddr, aFieldAddr, aLoad, aStore, aExtract, aConvert, aAlloc, aBox, aIndex, callA, builtinA, Fr.evs, opt, val, when, AM.run, outV, newA, ptr, force_eq, seen_heap, seen_next, seen_mark, seen_seen, agg_cells, int_cells, Fr.ev, Fr.put, onFr, gps, gpn, bltT, still, flat, List.append_nil, List.nil_append, List.cons_append, Nat.reduceEqDiff, ne_eq, not_false_eq_true, reduceCtorEq, Bool.and_true, Bool.true_and, Bool.and_false, Bool.false_and, Bool.not_true, Bool.not_false, Bool.and_self, aBuild, evParts, tyLf, zeLf, dsLf, places_eq, fillA, szLf, hzl, st]; rfl
      repeat apply go_seq
      apply go_ret
      apply ret_intro rfl rfl
      case run => simp (disch := decide) only [resultsM, resultsA, resG, opsLoop, evOper, wantedA, nth, aop, aPick, aBin, aIndexAddr, aFieldAddr, aLoad, aStore, aExtract, aConvert, aAlloc, aBox, aIndex, callA, builtinA, Fr.evs, opt, val, when, AM.run, outV, newA, ptr, force_eq, seen_heap, seen_next, seen_mark, seen_seen, agg_cells, int_cells, Fr.ev, Fr.put, onFr, gps, gpn, bltT, still, flat, List.append_nil, List.nil_append, List.cons_append, Nat.reduceEqDiff, ne_eq, not_false_eq_true, reduceCtorEq, Bool.and_true, Bool.true_and, Bool.and_false, Bool.false_and, Bool.not_true, Bool.not_false, Bool.and_self, tyLf, lo]; rfl
      refine ⟨rfl, less_new (s := s) (n := 2) (by show s1.next ≤ _; omega) hn9 hh9 ?_⟩
      intro m hm2
      show (s1.heap.put (s.next + 1) _).get m = _
      rw [hg_far hN1 (by omega), e1h, hg_far hN1 (by omega), hg_far hN0 (by omega)]
    | true =>
      rw [hn] at h
      obtain rfl := beq_iff.1 hn
      cases a with
      | none => cases h
      | some ad =>
        have h2 : (loadA ad 128 fun cs => opt (bytesV cs) fun l => bump (3 + putN (sayL l)) (.pure (Value.tuple ⟨[.agg ⟨(getL l).cells⟩, .bool (getOK l)]⟩))).run s = some (v, s') := h
        clear h
        obtain ⟨l, hl, hb, h3⟩ := bs_of_load h2
        obtain ⟨s9, h4, hn9, hm9, hh9, hbl⟩ := bump_run _ _ _ _ h3
        cases h4
        clear h2 h3
        have hN0 : Nat.ble s.next lastName = true := hbl 0 (by omega)
        have hN1 : Nat.ble (s.next + 1) lastName = true := hbl 1 (by omega)
        have hN2 : Nat.ble (s.next + 2) lastName = true := hbl 2 (by omega)
        have hN0s : Nat.ble (s.seen ad.block).next lastName = true := hN0
        have hN1' : Nat.ble (Nat.succ s.next) lastName = true := hN1
        have had : ad.block < s.next := hb.lt
        have hn9 : s'.next = s.next + (3 + putN (sayL l)) := hn9
        have hh9 : ∀ m, s'.heap.get m = if s.next ≤ m ∧ m < s.next + (3 + putN (sayL l)) then none else s.heap.get m := hh9
        have hne : eqI (Int.ofNat 128) (Int.ofNat 128) = true := rfl
        repeat apply go_seq
        apply go_region
        case h => intro m; simp (maxSteps := 2000000) (disch := decide) only [opsLoop, evOper, wantedA, nth, aop, aPick, aBin, aIndexAddr, aFieldAddr, aLoad, aStore, aExtract, aConvert, aAlloc, aBox, aIndex, callA, builtinA, Fr.evs, opt, val, when, AM.run, outV, newA, ptr, force_eq, seen_heap, seen_next, seen_mark, seen_seen, agg_cells, int_cells, Fr.ev, Fr.put, onFr, gps, gpn, bltT, still, flat, List.append_nil, List.nil_append, List.cons_append, Nat.reduceEqDiff, ne_eq, not_false_eq_true, reduceCtorEq, Bool.and_true, Bool.true_and, Bool.and_false, Bool.false_and, Bool.not_true, Bool.not_false, Bool.and_self, h0, sl_cells, hN0, hN1', tyLf, zeLf, hzb, show Nat.ble ([Value.slice (some ad) 128 cap] : List Value).length lastName = true from rfl]; rfl
        generalize hs1 : S.mk _ _ _ _ _ = s1
        have e1 : s1.next = s.next + 2 := by rw [← hs1]
        have e1h : s1.heap = (s.heap.put s.next (some (.cells (Tr.ofList [Value.slice (some ad) 128 cap]) (List.length [Value.slice (some ad) 128 cap]) 25 .whole))).put (Nat.succ s.next) (some (.cells (Tr.ofList zeroL.cells) zeroL.cells.length 24 .whole)) := by rw [← hs1]
        clear hs1
        rw [show Nat.succ s.next = s.next + 1 from rfl] at e1h ⊢
        have G1 : GetAt (3 + putN (sayL l)) s s1 ad cap l := by
          refine ⟨⟨by omega, _, _, .inl ⟨_, _, by rw [e1h, hg_far hN1 (by omega)]; exact hg_same hN0 _ _⟩, Nat.le_refl 1, rfl⟩, ⟨by omega, ⟨_, _, _, by rw [e1h, hg_same hN1, zeroL.len zero_len], row_ofList _ (by rw [zeroL.len zero_len]; unfold Tr.wide; omega)⟩, zero_len⟩, hb.keep (by omega) ?_, ?_⟩
          · rw [e1h, hg_far hN1 (by omega), hg_far hN0 (by omega)]
          · intro m hm2
            rw [e1h, hg_far hN1 (by omega), hg_far hN0 (by omega)]
        have lv := G1.var.load
        repeat apply go_seq
        apply go_region
        case h => intro m; simp (maxSteps := 2000000) (disch := decide) only [opsLoop, evOper, wantedA, nth, aop, aPick, aBin, aIndexAddr, aFieldAddr, aLoad, aStore, aExtract, aConvert, aAlloc, aBox, aIndex, callA, builtinA, Fr.evs, opt, val, when, AM.run, outV, newA, ptr, force_eq, seen_heap, seen_next, seen_mark, seen_seen, agg_cells, int_cells, Fr.ev, Fr.put, onFr, gps, gpn, bltT, still, flat, List.append_nil, List.nil_append, List.cons_append, Nat.reduceEqDiff, ne_eq, not_false_eq_true, reduceCtorEq, Bool.and_true, Bool.true_and, Bool.and_false, Bool.false_and, Bool.not_true, Bool.not_false, Bool.and_self, tyB, dsB, lv, i128, b_neq, hne]; rfl
        repeat apply go_seq
        apply go_cond
        case hc => simp (disch := decide) only [opsLoop, evOper, wantedA, nth, aop, aPick, aBin, aIndexAddr, aFieldAddr, aLoad, aStore, aExtract, aConvert, aAlloc, aBox, aIndex, callA, builtinA, Fr.evs, opt, val, when, AM.run, outV, newA, ptr, force_eq, seen_heap, seen_next, seen_mark, seen_seen, agg_cells, int_cells, Fr.ev, Fr.put, onFr, gps, gpn, bltT, still, flat, List.append_nil, List.nil_append, List.cons_append, Nat.reduceEqDiff, ne_eq, not_false_eq_true, reduceCtorEq, Bool.and_true, Bool.true_and, Bool.and_false, Bool.false_and, Bool.not_true, Bool.not_false, Bool.and_self]; rfl
        case h1 => intro h; cases h
        intro _
        apply go_skip
        repeat apply go_seq
        apply go_region
        case h => intro m; simp (maxSteps := 2000000) (disch := decide) only [opsLoop, evOper, wantedA, nth, aop, aPick, aBin, aIndexAddr, aFieldAddr, aLoad, aStore, aExtract, aConvert, aAlloc, aBox, aIndex, callA, builtinA, Fr.evs, opt, val, when, AM.run, outV, newA, ptr, force_eq, seen_heap, seen_next, seen_mark, seen_seen, agg_cells, int_cells, Fr.ev, Fr.put, onFr, gps, gpn, bltT, still, flat, List.append_nil, List.nil_append, List.cons_append, Nat.reduceEqDiff, ne_eq, not_false_eq_true, reduceCtorEq, Bool.and_true, Bool.true_and, Bool.and_false, Bool.false_and, Bool.not_true, Bool.not_false, Bool.and_self, aMakeFunc]; rfl
        -- the numbers
        have S0 : GetAt (3 + putN (sayL l)) s ⟨s1.heap, s1.next, s1.next, 0, 0⟩ ad cap l := G1.of (Nat.le_refl _) had (fun m _ => rfl)
        have lv0 := S0.var.load
        have t0 := twoA_run (k := 0) S0.var S0.bs hl (by omega) (by omega) (by omega)
        have t2 := twoA_run (k := 2) S0.var S0.bs hl (by omega) (by omega) (by omega)
        have t4 := twoA_run (k := 4) S0.var S0.bs hl (by omega) (by omega) (by omega)
        have hx : l[122]? = some (l.getD 122 0) := by rw [List.getD_eq_getElem?_getD, List.getElem?_eq_getElem (by omega)]; rfl
        have hy : l[123]? = some (l.getD 123 0) := by rw [List.getD_eq_getElem?_getD, List.getElem?_eq_getElem (by omega)]; rfl
        have lx := sum.byte_load (Bs.at S0.bs hx) tiU8 dsU8
        have ly := sum.byte_load (Bs.at S0.bs hy) tiU8 dsU8
        have w1 : wrapA .i64 (Int.ofNat (l.getD 122 0).toNat) = Int.ofNat (l.getD 122 0).toNat := cv64 (by have := (l.getD 122 0).toNat_lt; omega)
        have w2 : wrapA .i64 (Int.ofNat (l.getD 123 0).toNat) = Int.ofNat (l.getD 123 0).toNat := cv64 (by have := (l.getD 123 0).toNat_lt; omega)
        have fg := fillG (num2 (l.getD 116 0) (l.getD 117 0)) (num2 (l.getD 118 0) (l.getD 119 0)) (num2 (l.getD 120 0) (l.getD 121 0)) (Int.ofNat (l.getD 122 0).toNat) (Int.ofNat (l.getD 123 0).toNat)
        generalize hdz : (⟨Int.ofNat (l.getD 123 0).toNat, num2 (l.getD 116 0) (l.getD 117 0), num2 (l.getD 118 0) (l.getD 119 0), num2 (l.getD 120 0) (l.getD 121 0), Int.ofNat (l.getD 122 0).toNat, List.replicate 116 0⟩ : LeafD) = dz at fg
        have hdl : dz.load.length = 116 := by rw [← hdz]; simp
        have hdc : Nat.beq dz.cells.length 121 = true := by rw [dz.len hdl]; rfl
        have hN2' : Nat.ble s1.next lastName = true := by rw [e1]; exact hN2
        have L4 : LfAt ⟨s1.heap.put s1.next (some (.cells (Tr.ofList zeroL.cells) zeroL.cells.length 24 .whole)), Nat.succ s1.next, Nat.succ s1.next, 0, 0⟩ s1.next zeroL :=
          ⟨Nat.lt_succ_self _, ⟨_, _, _, by rw [zeroL.len zero_len]; exact hg_same hN2' _ _, row_ofList _ (by rw [zeroL.len zero_len]; unfold Tr.wide; omega)⟩, zero_len⟩
        obtain ⟨c4, e4, rm4, st4, hrow4⟩ := L4.store hN2' hdl
        simp only [S.seen] at lv0 t0 t2 t4 lx ly
        simp only [S.seen, S.turn] at st4
        have i2 : (2 : Int) = Int.ofNat 2 := rfl
        have i4 : (4 : Int) = Int.ofNat 4 := rfl
        have i122 : (122 : Int) = Int.ofNat 122 := rfl
        have i123 : (123 : Int) = Int.ofNat 123 := rfl
        repeat apply go_seq
        apply go_drawn
        case hs => rfl
        case h => intro m; simp (maxSteps := 2000000) (disch := decide) only [opsLoop, evOper, wantedA, nth, aop, aPick, aBin, aIndexAddr, aFieldAddr, aLoad, aStore, aExtract, aConvert, aAlloc, aBox, aIndex, callA, Fr.evs, opt, val, when, AM.run, outV, newA, ptr, force_eq, seen_heap, seen_next, seen_mark, seen_seen, agg_cells, int_cells, Fr.ev, Fr.put, onFr, gps, gpn, bltT, still, flat, List.append_nil, List.nil_append, List.cons_append, Nat.reduceEqDiff, ne_eq, not_false_eq_true, reduceCtorEq, Bool.and_true, Bool.true_and, Bool.and_false, Bool.false_and, Bool.not_true, Bool.not_false, Bool.and_self, drawnLoop, keep_none, clash_nil, clash_reads, created_self, lor_zero, lor_zero', tg2, evT_told sg2, int0, i2, i4, i122, i123, t0, t2, t4, tyB, dsB, tyI, dsI, tyU8, dsU8, szU8, lv0, show Nat.blt 122 128 = true from rfl, show Nat.blt 123 128 = true from rfl, mul1, lx, ly, w1, w2, aBuild, evParts, tyLf, zeLf, dsLf, szLf, places_eq, fg, hzb, hN2', hdc, st4, clash_bef]; rfl
        generalize hs4 : S.mk _ _ _ _ _ = s4
        have f4 : s4.next = s.next + 3 := by rw [← hs4]; show s1.next + 1 = _; omega
        have f4h : s4.heap = (s1.heap.put s1.next (some (.cells (Tr.ofList zeroL.cells) zeroL.cells.length 24 .whole))).put s1.next (some (.cells c4 121 e4 rm4)) := by rw [← hs4]
        clear hs4
        rw [e1] at f4h ⊢
        have G4 : GetAt (3 + putN (sayL l)) s s4 ad cap l := G1.of (by omega) had (fun m hm => by rw [f4h, hg_far hN2 (by omega), hg_far hN2 (by omega)])
        have S5 : GetAt (3 + putN (sayL l)) s ⟨s4.heap, s4.next, s4.next, 0, 0⟩ ad cap l := G4.of (Nat.le_refl _) had (fun m _ => rfl)
        have hlt4 : s.next + 2 < s4.next := by omega
        have L5 : LfAt ⟨s4.heap, s4.next, s4.next, 0, 0⟩ (s.next + 2) dz := ⟨hlt4, ⟨c4, e4, rm4, by show s4.heap.get _ = _; rw [f4h]; exact hg_same hN2 _ _, hrow4⟩, hdl⟩
        have lv5 := S5.var.load
        obtain ⟨c5, e5, rm5, cp, hrow5⟩ := copy_b (c2 := cap) L5 hN2 S5.bs hl
        simp only [S.seen, S.turn] at lv5 cp
        repeat apply go_seq
        apply go_drawn
        case hs => rfl
        case h => intro m; simp (maxSteps := 2000000) (disch := decide) only [opsLoop, evOper, wantedA, nth, aop, aPick, aBin, aIndexAddr, aFieldAddr, aLoad, aStore, aExtract, aConvert, aAlloc, aBox, aIndex, callA, Fr.evs, opt, val, when, AM.run, outV, newA, ptr, force_eq, seen_heap, seen_next, seen_mark, seen_seen, agg_cells, int_cells, Fr.ev, Fr.put, onFr, gps, gpn, bltT, still, flat, List.append_nil, List.nil_append, List.cons_append, Nat.reduceEqDiff, ne_eq, not_false_eq_true, reduceCtorEq, Bool.and_true, Bool.true_and, Bool.and_false, Bool.false_and, Bool.not_true, Bool.not_false, Bool.and_self, drawnLoop, keep_none, clash_nil, clash_reads, created_self, lor_zero, lor_zero', tyLf, dsLf, fl5, ft5, fo5, tyA, dsA, szA, tyU8, szU8, ble1A, ad5, aSlice, lowHigh, sliceP, addIf0, show Nat.ble 0 116 = true from rfl, show Nat.ble 116 116 = true from rfl, show Nat.blt 116 OPEN = true from rfl, show Nat.sub 116 0 = 116 from rfl, tyB, dsB, lv5, cp, clash_bef]; rfl
        generalize hs5 : S.mk _ _ _ _ _ = s5
        have f5 : s5.next = s.next + 3 := by rw [← hs5]; exact f4
        have f5h : s5.heap = s4.heap.put (s.next + 2) (some (.cells c5 121 e5 rm5)) := by rw [← hs5]
        clear hs5
        have hdd : ({ dz with load := l.take 116 } : LeafD) = sayL l := by rw [← hdz]; rfl
        rw [hdd] at hrow5
        have hsl : (sayL l).load.length = 116 := by show (l.take 116).length = 116; rw [List.length_take]; omega
        have G5 : GetAt (3 + putN (sayL l)) s s5 ad cap l := G4.of (by omega) had (fun m hm => by rw [f5h, hg_far hN2 (by omega)])
        have hlt5 : s.next + 2 < s5.next := by omega
        have c5' : s5.heap.get (s.next + 2) = some (.cells c5 121 e5 rm5) := by rw [f5h]; exact hg_same hN2 _ _
        have L6 : LfAt ⟨s5.heap, s5.next, s5.next, 0, 0⟩ (s.next + 2) (sayL l) := ⟨hlt5, ⟨c5, e5, rm5, c5', hrow5⟩, hsl⟩
        have ld := L6.load
        obtain ⟨s6, pr, p2, p3, prd, pwr, p4, p5⟩ := putA_run (s := ⟨s5.heap, s5.next, s5.next, 0, 0⟩) hsl (Nat.le_refl _) (fun i hi => by
          show Nat.ble (s5.next + i) lastName = true
          rw [f5, Nat.add_assoc]
          exact hbl (3 + i) (by omega))
        have pr : (putA [.agg ⟨(sayL l).cells⟩]).run ⟨s5.heap, s5.next, s5.next, 0, 0⟩ = some (putV (sayL l) s5.next, s6) := pr
        have p2 : s6.next = s5.next + putN (sayL l) := p2
        have p4 : ∀ m, (m < s5.next ∨ s5.next + putN (sayL l) ≤ m) → s6.heap.get m = s5.heap.get m := p4
        have prd : s6.rd = 0 := prd
        have pwr : s6.wr = 0 := pwr
        have S7 : GetAt (3 + putN (sayL l)) s ⟨s6.heap, s6.next, s6.next, 0, 0⟩ ad cap l := G5.of (by show s5.next ≤ s6.next; omega) had (fun m hm => p4 m (by omega))
        have lv7 := S7.var.load
        obtain ⟨s8, er, r1, r2, r3, r4⟩ := equalA_run (c2 := cap) (N := s5.next) S7.bs hl hsl (fun hR => ⟨by show s5.next + 9 < s6.next; rw [p2]; unfold putN; rw [if_pos hR]; omega, p5 hR⟩)
        have er : (equalA [putV (sayL l) s5.next, .slice (some ad) 128 cap]).run ⟨s6.heap, s6.next, s6.next, 0, 0⟩ = some (.bool (getOK l), s8) := er
        have r1 : s8.heap = s6.heap := r1
        have r2 : s8.next = s6.next := r2
        have r4 : s8.wr = 0 := r4
        have hcn := clash_new (lo := s5.next) (hi := s6.next) (n := s.next) (mk := s6.next) (by omega)
        simp only [S.seen] at ld lv7
        repeat apply go_seq
        apply go_drawn
        case hs => rfl
        case h => intro m; simp (maxSteps := 2000000) (disch := decide) only [opsLoop, evOper, wantedA, nth, aop, aPick, aBin, aIndexAddr, aFieldAddr, aLoad, aStore, aExtract, aConvert, aAlloc, aBox, aIndex, callA, Fr.evs, opt, val, when, AM.run, outV, newA, ptr, force_eq, seen_heap, seen_next, seen_mark, seen_seen, agg_cells, int_cells, Fr.ev, Fr.put, onFr, gps, gpn, bltT, still, flat, List.append_nil, List.nil_append, List.cons_append, Nat.reduceEqDiff, ne_eq, not_false_eq_true, reduceCtorEq, Bool.and_true, Bool.true_and, Bool.and_false, Bool.false_and, Bool.not_true, Bool.not_false, Bool.and_self, drawnLoop, keep_none, clash_nil, clash_reads, created_self, lor_zero, lor_zero', tyLf, ld, tgP, evT_told sgP, pr, prd, pwr, tyB, lv7, hcn, tgE, evT_told sgE, er, r4, clash_bef, u_not]; rfl
        generalize hs9 : S.mk _ _ _ _ _ = s9
        have f9 : s9.next = s6.next := by rw [← hs9]; exact r2
        have f9h : s9.heap = s6.heap := by rw [← hs9]; exact r1
        clear hs9
        have G9 : GetAt (3 + putN (sayL l)) s s9 ad cap l := S7.of (by rw [f9]; exact Nat.le_refl _) had (fun m _ => by rw [f9h])
        have hlt9 : s.next + 2 < s9.next := by omega
        have L9 : LfAt s9 (s.next + 2) (sayL l) := ⟨hlt9, by rw [f9h, p4 _ (.inl (by omega))]; exact ⟨c5, e5, rm5, c5', hrow5⟩, hsl⟩
        have hless : ∀ s10 : S, s10.next = s9.next → (∀ m, m ≠ s.next + 1 → s10.heap.get m = s9.heap.get m) → Less' s10 s' := by
          intro s10 q1 q2
          refine less_new (s := s) (n := 3 + putN (sayL l)) (by rw [q1, hn9]; omega) hn9 hh9 ?_
          intro m hm2
          rw [q2 m (by omega)]
          exact G9.old m (by omega)
        have hlt1 : s.next + 1 < s9.next := by omega
        cases hok : getOK l with
        | false =>
          have hgl : getL l = zeroL := by unfold getL; rw [hok]; rfl
          obtain ⟨c, e, rm, st, hrow⟩ := G9.out.store hN1 zero_len
          have O2 : LfAt ((s9.seen (s.next + 1)).turn (s.next + 1) (some (.cells c 121 e rm))) (s.next + 1) zeroL := ⟨hlt1, ⟨c, e, rm, hg_same hN1 _ _, hrow⟩, zero_len⟩
          have lo := fun k : Value → AM Value => O2.loadK k
          repeat apply go_seq
          apply go_cond
          case hc => simp (disch := decide) only [opsLoop, evOper, wantedA, nth, aop, aPick, aBin, aIndexAddr, aFieldAddr, aLoad, aStore, aExtract, aConvert, aAlloc, aBox, aIndex, callA, builtinA, Fr.evs, opt, val, when, AM.run, outV, newA, ptr, force_eq, seen_heap, seen_next, seen_mark, seen_seen, agg_cells, int_cells, Fr.ev, Fr.put, onFr, gps, gpn, bltT, still, flat, List.append_nil, List.nil_append, List.cons_append, Nat.reduceEqDiff, ne_eq, not_false_eq_true, reduceCtorEq, Bool.and_true, Bool.true_and, Bool.and_false, Bool.false_and, Bool.not_true, Bool.not_false, Bool.and_self, hok]; rfl
          case h2 => intro h; cases h
          intro _
          repeat apply go_seq
          apply go_region
          case h => intro m; simp (maxSteps := 2000000) (disch := decide) only [opsLoop, evOper, wantedA, nth, aop, aPick, aBin, aIndexAddr, aFieldAddr, aLoad, aStore, aExtract, aConvert, aAlloc, aBox, aIndex, callA, builtinA, Fr.evs, opt, val, when, AM.run, outV, newA, ptr, force_eq, seen_heap, seen_next, seen_mark, seen_seen, agg_cells, int_cells, Fr.ev, Fr.put, onFr, gps, gpn, bltT, still, flat, List.append_nil, List.nil_append, List.cons_append, Nat.reduceEqDiff, ne_eq, not_false_eq_true, reduceCtorEq, Bool.and_true, Bool.true_and, Bool.and_false, Bool.false_and, Bool.not_true, Bool.not_false, Bool.and_self, aBuild, evParts, tyLf, zeLf, dsLf, places_eq, fillA, szLf, hzl, st]; rfl
          repeat apply go_seq
          apply go_ret
          apply ret_intro rfl rfl
          case run => simp (disch := decide) only [resultsM, resultsA, resG, opsLoop, evOper, wantedA, nth, aop, aPick, aBin, aIndexAddr, aFieldAddr, aLoad, aStore, aExtract, aConvert, aAlloc, aBox, aIndex, callA, builtinA, Fr.evs, opt, val, when, AM.run, outV, newA, ptr, force_eq, seen_heap, seen_next, seen_mark, seen_seen, agg_cells, int_cells, Fr.ev, Fr.put, onFr, gps, gpn, bltT, still, flat, List.append_nil, List.nil_append, List.cons_append, Nat.reduceEqDiff, ne_eq, not_false_eq_true, reduceCtorEq, Bool.and_true, Bool.true_and, Bool.and_false, Bool.false_and, Bool.not_true, Bool.not_false, Bool.and_self, tyLf, lo]; rfl
          refine ⟨by rw [hgl], hless _ rfl ?_⟩
          intro m hm2
          exact hg_far hN1 hm2 _ _
        | true =>
          have hgl : getL l = sayL l := by unfold getL; rw [hok]; rfl
          obtain ⟨c, e, rm, st, hrow⟩ := (G9.out.rd (Rd.seen s9 (s.next + 2))).store hN1 hsl
          have O2 : LfAt (((s9.seen (s.next + 2)).seen (s.next + 1)).turn (s.next + 1) (some (.cells c 121 e rm))) (s.next + 1) (sayL l) := ⟨hlt1, ⟨c, e, rm, hg_same hN1 _ _, hrow⟩, hsl⟩
          have lo := fun k : Value → AM Value => O2.loadK k
          have ld9 := L9.load
          have hsc : Nat.beq (sayL l).cells.length 121 = true := by rw [(sayL l).len hsl]; rfl
          repeat apply go_seq
          apply go_cond
          case hc => simp (disch := decide) only [opsLoop, evOper, wantedA, nth, aop, aPick, aBin, aIndexAddr, aFieldAddr, aLoad, aStore, aExtract, aConvert, aAlloc, aBox, aIndex, callA, builtinA, Fr.evs, opt, val, when, AM.run, outV, newA, ptr, force_eq, seen_heap, seen_next, seen_mark, seen_seen, agg_cells, int_cells, Fr.ev, Fr.put, onFr, gps, gpn, bltT, still, flat, List.append_nil, List.nil_append, List.cons_append, Nat.reduceEqDiff, ne_eq, not_false_eq_true, reduceCtorEq, Bool.and_true, Bool.true_and, Bool.and_false, Bool.false_and, Bool.not_true, Bool.not_false, Bool.and_self, hok]; rfl
          case h1 => intro h; cases h
          intro _
          apply go_skip
          repeat apply go_seq
          apply go_region
          case h => intro m; simp (maxSteps := 2000000) (disch := decide) only [opsLoop, evOper, wantedA, nth, aop, aPick, aBin, aIndexAddr, aFieldAddr, aLoad, aStore, aExtract, aConvert, aAlloc, aBox, aIndex, callA, builtinA, Fr.evs, opt, val, when, AM.run, outV, newA, ptr, force_eq, seen_heap, seen_next, seen_mark, seen_seen, agg_cells, int_cells, Fr.ev, Fr.put, onFr, gps, gpn, bltT, still, flat, List.append_nil, List.nil_append, List.cons_append, Nat.reduceEqDiff, ne_eq, not_false_eq_true, reduceCtorEq, Bool.and_true, Bool.true_and, Bool.and_false, Bool.false_and, Bool.not_true, Bool.not_false, Bool.and_self, tyLf, ld9, szLf, hsc, st]; rfl
          repeat apply go_seq
          apply go_ret
          apply ret_intro rfl rfl
          case run => simp (disch := decide) only [resultsM, resultsA, resG, opsLoop, evOper, wantedA, nth, aop, aPick, aBin, aIndexAddr, aFieldAddr, aLoad, aStore, aExtract, aConvert, aAlloc, aBox, aIndex, callA, builtinA, Fr.evs, opt, val, when, AM.run, outV, newA, ptr, force_eq, seen_heap, seen_next, seen_mark, seen_seen, agg_cells, int_cells, Fr.ev, Fr.put, onFr, gps, gpn, bltT, still, flat, List.append_nil, List.nil_append, List.cons_append, Nat.reduceEqDiff, ne_eq, not_false_eq_true, reduceCtorEq, Bool.and_true, Bool.true_and, Bool.and_false, Bool.false_and, Bool.not_true, Bool.not_false, Bool.and_self, tyLf, lo]; rfl
          refine ⟨by rw [hgl], hless _ rfl ?_⟩
          intro m hm2
          exact hg_far hN1 hm2 _ _
  · cases h
end Go.Proofs.YtdkieabjjmhdlaaDoor.lf
end
end
