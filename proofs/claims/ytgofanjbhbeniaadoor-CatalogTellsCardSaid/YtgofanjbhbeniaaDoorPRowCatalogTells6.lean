/- Catalogs: the document's leaf of a catalog, told: joined. -/
import Derived.Test.YtgofanjbhbeniaaDoorPRowCatalogTells5
section
/- Catalogs: whether a card may be, as the document has it; whether a catalog may be: what is asked ahead of its files. (printed by wip/gen/tl2.py) -/
noncomputable section
namespace Go.Proofs.YtgofanjbhbeniaaDoor.lf
open AE
set_option linter.unusedSimpArgs false
set_option linter.unusedVariables false
set_option maxRecDepth 10000

noncomputable def fiKR : FI := FI.of Tryd.f12
noncomputable def cdKR : Code := bodyOf Tryd.f12
theorem resKR : fiKR.results = [.tmp 2] := rfl
theorem rightK_eq (a b c d : Int) : rightK a b c d = ((!ltI a 0) && ((!ltI b a) && ((!ltI 1073741824 b) && ((!ltI c 2) && ((!ltI 64 c) && ((!ltI d 2) && (!ltI 16 d))))))) := by
  unfold rightK wi
  cases ltI a 0 <;> cases ltI b a <;> cases ltI 1073741824 b <;> cases ltI c 2 <;> cases ltI 64 c <;> cases ltI d 2 <;> cases ltI 16 d <;> rfl
set_option maxHeartbeats 1000000 in
theorem told_rightKR : AE.Told Tryd.prog 12 rightKA := by
  refine told_go hE hmix tolds_nil ?_
  intro args s v s' h hm
  unfold rightKA at h
  split at h
  · rename_i a b c d
    obtain ⟨s9, h3, hn9, hm9, hh9, hbl⟩ := bump_run 1 _ _ _ h
    cases h3
    have hN0 : Nat.ble s.next lastName = true := hbl 0 (by omega)
    refine go_enter (fi := fiKR) (c := cdKR) (by kernel_rfl) (by kernel_rfl) 38 rfl rfl ?_
    simp only [cdKR, Tryd.f12, bodyOf]
    have h0 : (Tr.ofList [Value.agg ⟨[.int .i64 a, .int .i64 b, .int .i64 c, .int .i64 d]⟩]).get 0 = some (.agg ⟨[.int .i64 a, .int .i64 b, .int .i64 c, .int .i64 d]⟩) := rfl
    generalize Tr.ofList [Value.agg ⟨[.int .i64 a, .int .i64 b, .int .i64 c, .int .i64 d]⟩] = t at *
    repeat apply go_seq
    apply go_region
    case h => intro m; simp (maxSteps := 2000000) (disch := decide) only [opsLoop, evOper, wantedA, nth, aop, aPick, aBin, aIndexAddr, aFieldAddr, aLoad, aStore, aExtract, aConvert, aAlloc, aBox, aIndex, callA, builtinA, Fr.evs, opt, val, when, AM.run, outV, newA, ptr, force_eq, seen_heap, seen_next, seen_mark, seen_seen, agg_cells, int_cells, Fr.ev, Fr.put, onFr, gps, gpn, bltT, still, flat, List.append_nil, List.nil_append, List.cons_append, Nat.reduceEqDiff, ne_eq, not_false_eq_true, reduceCtorEq, Bool.and_true, Bool.true_and, Bool.and_false, Bool.false_and, Bool.not_true, Bool.not_false, Bool.and_self, h0, tyK, hN0, len4]; rfl
    generalize hs1 : S.mk _ _ _ _ _ = s1
    have e1 : s1.next = s.next + 1 := by rw [← hs1]
    have e1h : s1.heap = s.heap.put s.next (some (.cells (Tr.ofList [.int .i64 a, .int .i64 b, .int .i64 c, .int .i64 d]) (List.length [Value.int .i64 a, .int .i64 b, .int .i64 c, .int .i64 d]) 24 .whole)) := by rw [← hs1]
    clear hs1
    have C1 : Cl s1 s.next 0 [.int .i64 a, .int .i64 b, .int .i64 c, .int .i64 d] := Cl.new (by omega) (by rw [e1h]; exact hg_same hN0 _ _) (by simp)
    have hless : ∀ r w, Less' ⟨s1.heap, s1.next, s1.mark, r, w⟩ s' := fun r w => less_new (s := s) (n := 1) (by show s1.next ≤ _; omega) hn9 hh9 (fun m hm2 => by show s1.heap.get m = _; rw [e1h, hg_far hN0 (by omega)])
    obtain ⟨H, N, mk, rd, wr⟩ := s1
    simp only at hless
    have l0 := C1.ld (k := 0) tiI (by rw [dsI]; rfl) rfl
    have l1 := C1.ld (k := 1) tiI (by rw [dsI]; rfl) rfl
    have l2 := C1.ld (k := 2) tiI (by rw [dsI]; rfl) rfl
    have l3 := C1.ld (k := 3) tiI (by rw [dsI]; rfl) rfl
    simp only [Nat.zero_add] at l0 l1 l2 l3
    rw [rightK_eq]
    cases q0 : ltI a 0
    case true =>
      repeat apply go_seq
      apply go_region
      case h => intro m; simp (maxSteps := 2000000) (disch := decide) only [opsLoop, evOper, wantedA, nth, aop, aPick, aBin, aIndexAddr, aFieldAddr, aLoad, aStore, aExtract, aConvert, aAlloc, aBox, aIndex, callA, builtinA, Fr.evs, opt, val, when, AM.run, outV, newA, ptr, force_eq, seen_heap, seen_next, seen_mark, seen_seen, agg_cells, int_cells, Fr.ev, Fr.put, onFr, gps, gpn, bltT, still, flat, List.append_nil, List.nil_append, List.cons_append, Nat.reduceEqDiff, ne_eq, not_false_eq_true, reduceCtorEq, Bool.and_true, Bool.true_and, Bool.and_false, Bool.false_and, Bool.not_true, Bool.not_false, Bool.and_self, tyK, dsK, flK0, flK1, flK2, flK3, ftK0, ftK1, ftK2, ftK3, foK0, foK1, foK2, foK3, tyI, szI, ble11, ad0, ad1, ad2, ad3', l0, l1, l2, l3, b_leq, b_geq, q0]; rfl
      repeat apply go_seq
      apply go_ret
      apply ret_intro rfl rfl
      case run => simp (disch := decide) only [resultsM, resultsA, resKR, opsLoop, evOper, wantedA, nth, aop, aPick, aBin, aIndexAddr, aFieldAddr, aLoad, aStore, aExtract, aConvert, aAlloc, aBox, aIndex, callA, builtinA, Fr.evs, opt, val, when, AM.run, outV, newA, ptr, force_eq, seen_heap, seen_next, seen_mark, seen_seen, agg_cells, int_cells, Fr.ev, Fr.put, onFr, gps, gpn, bltT, still, flat, List.append_nil, List.nil_append, List.cons_append, Nat.reduceEqDiff, ne_eq, not_false_eq_true, reduceCtorEq, Bool.and_true, Bool.true_and, Bool.and_false, Bool.false_and, Bool.not_true, Bool.not_false, Bool.and_self]; rfl
      exact ⟨by simp only [Bool.not_false, Bool.not_true, Bool.true_and, Bool.false_and], hless _ _⟩
    cases q1 : ltI b a
    case true =>
      repeat apply go_seq
      apply go_region
      case h => intro m; simp (maxSteps := 2000000) (disch := decide) only [opsLoop, evOper, wantedA, nth, aop, aPick, aBin, aIndexAddr, aFieldAddr, aLoad, aStore, aExtract, aConvert, aAlloc, aBox, aIndex, callA, builtinA, Fr.evs, opt, val, when, AM.run, outV, newA, ptr, force_eq, seen_heap, seen_next, seen_mark, seen_seen, agg_cells, int_cells, Fr.ev, Fr.put, onFr, gps, gpn, bltT, still, flat, List.append_nil, List.nil_append, List.cons_append, Nat.reduceEqDiff, ne_eq, not_false_eq_true, reduceCtorEq, Bool.and_true, Bool.true_and, Bool.and_false, Bool.false_and, Bool.not_true, Bool.not_false, Bool.and_self, tyK, dsK, flK0, flK1, flK2, flK3, ftK0, ftK1, ftK2, ftK3, foK0, foK1, foK2, foK3, tyI, szI, ble11, ad0, ad1, ad2, ad3', l0, l1, l2, l3, b_leq, b_geq, q0, q1]; rfl
      repeat apply go_seq
      apply go_ret
      apply ret_intro rfl rfl
      case run => simp (disch := decide) only [resultsM, resultsA, resKR, opsLoop, evOper, wantedA, nth, aop, aPick, aBin, aIndexAddr, aFieldAddr, aLoad, aStore, aExtract, aConvert, aAlloc, aBox, aIndex, callA, builtinA, Fr.evs, opt, val, when, AM.run, outV, newA, ptr, force_eq, seen_heap, seen_next, seen_mark, seen_seen, agg_cells, int_cells, Fr.ev, Fr.put, onFr, gps, gpn, bltT, still, flat, List.append_nil, List.nil_append, List.cons_append, Nat.reduceEqDiff, ne_eq, not_false_eq_true, reduceCtorEq, Bool.and_true, Bool.true_and, Bool.and_false, Bool.false_and, Bool.not_true, Bool.not_false, Bool.and_self]; rfl
      exact ⟨by simp only [Bool.not_false, Bool.not_true, Bool.true_and, Bool.false_and], hless _ _⟩
    cases q2 : ltI 1073741824 b
    case true =>
      repeat apply go_seq
      apply go_region
      case h => intro m; simp (maxSteps := 2000000) (disch := decide) only [opsLoop, evOper, wantedA, nth, aop, aPick, aBin, aIndexAddr, aFieldAddr, aLoad, aStore, aExtract, aConvert, aAlloc, aBox, aIndex, callA, builtinA, Fr.evs, opt, val, when, AM.run, outV, newA, ptr, force_eq, seen_heap, seen_next, seen_mark, seen_seen, agg_cells, int_cells, Fr.ev, Fr.put, onFr, gps, gpn, bltT, still, flat, List.append_nil, List.nil_append, List.cons_append, Nat.reduceEqDiff, ne_eq, not_false_eq_true, reduceCtorEq, Bool.and_true, Bool.true_and, Bool.and_false, Bool.false_and, Bool.not_true, Bool.not_false, Bool.and_self, tyK, dsK, flK0, flK1, flK2, flK3, ftK0, ftK1, ftK2, ftK3, foK0, foK1, foK2, foK3, tyI, szI, ble11, ad0, ad1, ad2, ad3', l0, l1, l2, l3, b_leq, b_geq, q0, q1, q2]; rfl
      repeat apply go_seq
      apply go_ret
      apply ret_intro rfl rfl
      case run => simp (disch := decide) only [resultsM, resultsA, resKR, opsLoop, evOper, wantedA, nth, aop, aPick, aBin, aIndexAddr, aFieldAddr, aLoad, aStore, aExtract, aConvert, aAlloc, aBox, aIndex, callA, builtinA, Fr.evs, opt, val, when, AM.run, outV, newA, ptr, force_eq, seen_heap, seen_next, seen_mark, seen_seen, agg_cells, int_cells, Fr.ev, Fr.put, onFr, gps, gpn, bltT, still, flat, List.append_nil, List.nil_append, List.cons_append, Nat.reduceEqDiff, ne_eq, not_false_eq_true, reduceCtorEq, Bool.and_true, Bool.true_and, Bool.and_false, Bool.false_and, Bool.not_true, Bool.not_false, Bool.and_self]; rfl
      exact ⟨by simp only [Bool.not_false, Bool.not_true, Bool.true_and, Bool.false_and], hless _ _⟩
    cases q3 : ltI c 2
    case true =>
      repeat apply go_seq
      apply go_region
      case h => intro m; simp (maxSteps := 2000000) (disch := decide) only [opsLoop, evOper, wantedA, nth, aop, aPick, aBin, aIndexAddr, aFieldAddr, aLoad, aStore, aExtract, aConvert, aAlloc, aBox, aIndex, callA, builtinA, Fr.evs, opt, val, when, AM.run, outV, newA, ptr, force_eq, seen_heap, seen_next, seen_mark, seen_seen, agg_cells, int_cells, Fr.ev, Fr.put, onFr, gps, gpn, bltT, still, flat, List.append_nil, List.nil_append, List.cons_append, Nat.reduceEqDiff, ne_eq, not_false_eq_true, reduceCtorEq, Bool.and_true, Bool.true_and, Bool.and_false, Bool.false_and, Bool.not_true, Bool.not_false, Bool.and_self, tyK, dsK, flK0, flK1, flK2, flK3, ftK0, ftK1, ftK2, ftK3, foK0, foK1, foK2, foK3, tyI, szI, ble11, ad0, ad1, ad2, ad3', l0, l1, l2, l3, b_leq, b_geq, q0, q1, q2, q3]; rfl
      repeat apply go_seq
      apply go_ret
      apply ret_intro rfl rfl
      case run => simp (disch := decide) only [resultsM, resultsA, resKR, opsLoop, evOper, wantedA, nth, aop, aPick, aBin, aIndexAddr, aFieldAddr, aLoad, aStore, aExtract, aConvert, aAlloc, aBox, aIndex, callA, builtinA, Fr.evs, opt, val, when, AM.run, outV, newA, ptr, force_eq, seen_heap, seen_next, seen_mark, seen_seen, agg_cells, int_cells, Fr.ev, Fr.put, onFr, gps, gpn, bltT, still, flat, List.append_nil, List.nil_append, List.cons_append, Nat.reduceEqDiff, ne_eq, not_false_eq_true, reduceCtorEq, Bool.and_true, Bool.true_and, Bool.and_false, Bool.false_and, Bool.not_true, Bool.not_false, Bool.and_self]; rfl
      exact ⟨by simp only [Bool.not_false, Bool.not_true, Bool.true_and, Bool.false_and], hless _ _⟩
    cases q4 : ltI 64 c
    case true =>
      repeat apply go_seq
      apply go_region
      case h => intro m; simp (maxSteps := 2000000) (disch := decide) only [opsLoop, evOper, wantedA, nth, aop, aPick, aBin, aIndexAddr, aFieldAddr, aLoad, aStore, aExtract, aConvert, aAlloc, aBox, aIndex, callA, builtinA, Fr.evs, opt, val, when, AM.run, outV, newA, ptr, force_eq, seen_heap, seen_next, seen_mark, seen_seen, agg_cells, int_cells, Fr.ev, Fr.put, onFr, gps, gpn, bltT, still, flat, List.append_nil, List.nil_append, List.cons_append, Nat.reduceEqDiff, ne_eq, not_false_eq_true, reduceCtorEq, Bool.and_true, Bool.true_and, Bool.and_false, Bool.false_and, Bool.not_true, Bool.not_false, Bool.and_self, tyK, dsK, flK0, flK1, flK2, flK3, ftK0, ftK1, ftK2, ftK3, foK0, foK1, foK2, foK3, tyI, szI, ble11, ad0, ad1, ad2, ad3', l0, l1, l2, l3, b_leq, b_geq, q0, q1, q2, q3, q4]; rfl
      repeat apply go_seq
      apply go_ret
      apply ret_intro rfl rfl
      case run => simp (disch := decide) only [resultsM, resultsA, resKR, opsLoop, evOper, wantedA, nth, aop, aPick, aBin, aIndexAddr, aFieldAddr, aLoad, aStore, aExtract, aConvert, aAlloc, aBox, aIndex, callA, builtinA, Fr.evs, opt, val, when, AM.run, outV, newA, ptr, force_eq, seen_heap, seen_next, seen_mark, seen_seen, agg_cells, int_cells, Fr.ev, Fr.put, onFr, gps, gpn, bltT, still, flat, List.append_nil, List.nil_append, List.cons_append, Nat.reduceEqDiff, ne_eq, not_false_eq_true, reduceCtorEq, Bool.and_true, Bool.true_and, Bool.and_false, Bool.false_and, Bool.not_true, Bool.not_false, Bool.and_self]; rfl
      exact ⟨by simp only [Bool.not_false, Bool.not_true, Bool.true_and, Bool.false_and], hless _ _⟩
    cases q5 : ltI d 2
    case true =>
      repeat apply go_seq
      apply go_region
      case h => intro m; simp (maxSteps := 2000000) (disch := decide) only [opsLoop, evOper, wantedA, nth, aop, aPick, aBin, aIndexAddr, aFieldAddr, aLoad, aStore, aExtract, aConvert, aAlloc, aBox, aIndex, callA, builtinA, Fr.evs, opt, val, when, AM.run, outV, newA, ptr, force_eq, seen_heap, seen_next, seen_mark, seen_seen, agg_cells, int_cells, Fr.ev, Fr.put, onFr, gps, gpn, bltT, still, flat, List.append_nil, List.nil_append, List.cons_append, Nat.reduceEqDiff, ne_eq, not_false_eq_true, reduceCtorEq, Bool.and_true, Bool.true_and, Bool.and_false, Bool.false_and, Bool.not_true, Bool.not_false, Bool.and_self, tyK, dsK, flK0, flK1, flK2, flK3, ftK0, ftK1, ftK2, ftK3, foK0, foK1, foK2, foK3, tyI, szI, ble11, ad0, ad1, ad2, ad3', l0, l1, l2, l3, b_leq, b_geq, q0, q1, q2, q3, q4, q5]; rfl
      repeat apply go_seq
      apply go_ret
      apply ret_intro rfl rfl
      case run => simp (disch := decide) only [resultsM, resultsA, resKR, opsLoop, evOper, wantedA, nth, aop, aPick, aBin, aIndexAddr, aFieldAddr, aLoad, aStore, aExtract, aConvert, aAlloc, aBox, aIndex, callA, builtinA, Fr.evs, opt, val, when, AM.run, outV, newA, ptr, force_eq, seen_heap, seen_next, seen_mark, seen_seen, agg_cells, int_cells, Fr.ev, Fr.put, onFr, gps, gpn, bltT, still, flat, List.append_nil, List.nil_append, List.cons_append, Nat.reduceEqDiff, ne_eq, not_false_eq_true, reduceCtorEq, Bool.and_true, Bool.true_and, Bool.and_false, Bool.false_and, Bool.not_true, Bool.not_false, Bool.and_self]; rfl
      exact ⟨by simp only [Bool.not_false, Bool.not_true, Bool.true_and, Bool.false_and], hless _ _⟩
    cases q6 : ltI 16 d
    case true =>
      repeat apply go_seq
      apply go_region
      case h => intro m; simp (maxSteps := 2000000) (disch := decide) only [opsLoop, evOper, wantedA, nth, aop, aPick, aBin, aIndexAddr, aFieldAddr, aLoad, aStore, aExtract, aConvert, aAlloc, aBox, aIndex, callA, builtinA, Fr.evs, opt, val, when, AM.run, outV, newA, ptr, force_eq, seen_heap, seen_next, seen_mark, seen_seen, agg_cells, int_cells, Fr.ev, Fr.put, onFr, gps, gpn, bltT, still, flat, List.append_nil, List.nil_append, List.cons_append, Nat.reduceEqDiff, ne_eq, not_false_eq_true, reduceCtorEq, Bool.and_true, Bool.true_and, Bool.and_false, Bool.false_and, Bool.not_true, Bool.not_false, Bool.and_self, tyK, dsK, flK0, flK1, flK2, flK3, ftK0, ftK1, ftK2, ftK3, foK0, foK1, foK2, foK3, tyI, szI, ble11, ad0, ad1, ad2, ad3', l0, l1, l2, l3, b_leq, b_geq, q0, q1, q2, q3, q4, q5, q6]; rfl
      repeat apply go_seq
      apply go_ret
      apply ret_intro rfl rfl
      case run => simp (disch := decide) only [resultsM, resultsA, resKR, opsLoop, evOper, wantedA, nth, aop, aPick, aBin, aIndexAddr, aFieldAddr, aLoad, aStore, aExtract, aConvert, aAlloc, aBox, aIndex, callA, builtinA, Fr.evs, opt, val, when, AM.run, outV, newA, ptr, force_eq, seen_heap, seen_next, seen_mark, seen_seen, agg_cells, int_cells, Fr.ev, Fr.put, onFr, gps, gpn, bltT, still, flat, List.append_nil, List.nil_append, List.cons_append, Nat.reduceEqDiff, ne_eq, not_false_eq_true, reduceCtorEq, Bool.and_true, Bool.true_and, Bool.and_false, Bool.false_and, Bool.not_true, Bool.not_false, Bool.and_self]; rfl
      exact ⟨by simp only [Bool.not_false, Bool.not_true, Bool.true_and, Bool.false_and], hless _ _⟩
    repeat apply go_seq
    apply go_region
    case h => intro m; simp (maxSteps := 2000000) (disch := decide) only [opsLoop, evOper, wantedA, nth, aop, aPick, aBin, aIndexAddr, aFieldAddr, aLoad, aStore, aExtract, aConvert, aAlloc, aBox, aIndex, callA, builtinA, Fr.evs, opt, val, when, AM.run, outV, newA, ptr, force_eq, seen_heap, seen_next, seen_mark, seen_seen, agg_cells, int_cells, Fr.ev, Fr.put, onFr, gps, gpn, bltT, still, flat, List.append_nil, List.nil_append, List.cons_append, Nat.reduceEqDiff, ne_eq, not_false_eq_true, reduceCtorEq, Bool.and_true, Bool.true_and, Bool.and_false, Bool.false_and, Bool.not_true, Bool.not_false, Bool.and_self, tyK, dsK, flK0, flK1, flK2, flK3, ftK0, ftK1, ftK2, ftK3, foK0, foK1, foK2, foK3, tyI, szI, ble11, ad0, ad1, ad2, ad3', l0, l1, l2, l3, b_leq, b_geq, q0, q1, q2, q3, q4, q5, q6]; rfl
    repeat apply go_seq
    apply go_ret
    apply ret_intro rfl rfl
    case run => simp (disch := decide) only [resultsM, resultsA, resKR, opsLoop, evOper, wantedA, nth, aop, aPick, aBin, aIndexAddr, aFieldAddr, aLoad, aStore, aExtract, aConvert, aAlloc, aBox, aIndex, callA, builtinA, Fr.evs, opt, val, when, AM.run, outV, newA, ptr, force_eq, seen_heap, seen_next, seen_mark, seen_seen, agg_cells, int_cells, Fr.ev, Fr.put, onFr, gps, gpn, bltT, still, flat, List.append_nil, List.nil_append, List.cons_append, Nat.reduceEqDiff, ne_eq, not_false_eq_true, reduceCtorEq, Bool.and_true, Bool.true_and, Bool.and_false, Bool.false_and, Bool.not_true, Bool.not_false, Bool.and_self]; rfl
    exact ⟨by simp only [Bool.not_false, Bool.not_true, Bool.true_and, Bool.and_self], hless _ _⟩
  · cases h

def rightKN : List Value → AM Value
  | [.agg ⟨[.int .i64 a, .int .i64 b, .int .i64 c, .int .i64 d]⟩] => .pure (.bool (rightK a b c d))
  | _ => .fail
theorem told_KN {f : FuncId} (ht : AE.Told Tryd.prog f rightKA) : AE.Told Tryd.prog f rightKN := by
  refine told_nobump ht ?_
  intro args s v s' h
  unfold rightKN at h
  split at h
  · rename_i a b c d
    cases h
    refine ⟨plain_bool _, Less'.refl _, fun q ρ w args' hR ha => ?_⟩
    have hp : ∀ v ∈ [Value.agg ⟨[.int .i64 a, .int .i64 b, .int .i64 c, .int .i64 d]⟩], Plain v := fun v hv => by
      simp only [List.mem_singleton] at hv
      subst hv
      exact plain_agg fun u hu => by
        simp only [List.mem_cons, List.not_mem_nil, or_false] at hu
        rcases hu with rfl | rfl | rfl | rfl <;> exact plain_int _ _
    obtain rfl := (plain_list hp).2 _ _ ha
    obtain ⟨sE, hE2, _⟩ := rightKA_run (s := inS []) a b c d rfl
    exact ⟨_, inS [], sE, renOf [], inputs_of [] (Nat.zero_le _) (fun x hx => by cases hx), (plain_list hp).1 _, hE2, Nat.zero_le _⟩
  · cases h


abbrev sigRR : List (Nat × (List Value → AM Value)) := [(12, rightKN)]
theorem tolds_RR : Tolds Tryd.prog (sumsOf sigRR) := tolds_cons (told_KN told_rightKR) tolds_nil
theorem srK : sumsOf sigRR 12 = some rightKN := rfl
theorem tgKR : ∀ a b, targetA E (.func 12) a b = .pure (.enter 12 (b ++ a)) := tgt (fi := fiKR) (c := cdKR) (by kernel_rfl) (by kernel_rfl)
theorem rightKN_at (a b c d : Int) : ∀ s, (rightKN [.agg ⟨[.int .i64 a, .int .i64 b, .int .i64 c, .int .i64 d]⟩]).run s = some (.bool (rightK a b c d), s) := fun s => rfl
theorem b_neq {E t} (x y : Int) : binA E .neq t (.int .i64 x) (.int .i64 y) = some (.bool (not (eqI x y))) := rfl
theorem rightD_eq (D : CatD) : D.right = ((!ltI D.gen 0) && ((!ltI 1000 D.gen) && ((!ltI D.step 0) && ((!ltI 20 D.step) && ((!ltI D.status 0) && ((!ltI 7 D.status) && ((D.ended || eqI D.status 0) && ((!ltI 14 (.ofNat D.files.length)) && ((zeroK D.from_ D.to_ D.budget D.fan || rightK D.from_ D.to_ D.budget D.fan) && filesOK 0 D.files))))))))) := by
  unfold CatD.right CatD.headOK CatD.midOK wi
  cases ltI D.gen 0 <;> cases ltI 1000 D.gen <;> cases ltI D.step 0 <;> cases ltI 20 D.step <;> cases ltI D.status 0 <;> cases ltI 7 D.status <;> cases D.ended <;> cases eqI D.status 0 <;> cases ltI 14 (.ofNat D.files.length) <;> cases zeroK D.from_ D.to_ D.budget D.fan <;> cases rightK D.from_ D.to_ D.budget D.fan <;> rfl
/-- what is asked ahead of the files: it goes on, or it is known that the catalog may not be -/
def HeadR (D : CatD) (N : Nat) (H : Tr AObj) (NN mk : Nat) (ex : Ex) (fr : Fr) (s : S) : Prop :=
  ∃ (t : Tr Value) (rd wr : Nat), fr = ⟨14, t, 133, [], none⟩ ∧ s = ⟨H, NN, mk, rd, wr⟩ ∧ t.get 1 = some (.pointer (some ⟨N, 0, none⟩)) ∧
    ((ex = .normal ∧ D.right = filesOK 0 D.files) ∨ (ex = .ret ∧ D.right = false ∧ t.get 2 = some (.bool false)))
set_option maxHeartbeats 8000000 in
theorem rc_head (D : CatD) (N cap : Nat) (a : Option Addr) (H : Tr AObj) (NN mk rd wr : Nat) (t : Tr Value) (C : Cl ⟨H, NN, mk, rd, wr⟩ N 0 (D.cells a cap)) (h1 : t.get 1 = some (.pointer (some ⟨N, 0, none⟩))) :
    GoC E (sumsOf sigRR) (sub [1,0] cdRC) ⟨14, t, 133, [], none⟩ ⟨H, NN, mk, rd, wr⟩ (HeadR D N H NN mk) := by
  have l0 := C.ld (k := 0) tiI (by rw [dsI]; rfl) rfl
  have l1 := C.ld (k := 1) tiI (by rw [dsI]; rfl) rfl
  have l2 := C.ld (k := 2) tiSt8 (by rw [dsSt8]; rfl) rfl
  have l3 := C.ld (k := 3) tiBo (by rw [dsBo]; rfl) rfl
  have l8 := C.ld (k := 8) tiFs (by rw [dsFs]; rfl) rfl
  have l4 := (C.sub 4 4 (by show 8 ≤ 9; omega)).ldA (β := ANext) tiK (by rw [dsK]; rfl) (by rw [szK]; rfl)
  simp only [Nat.zero_add] at l0 l1 l2 l3 l4 l8
  have hsubK : ((D.cells a cap).drop 4).take 4 = [.int .i64 D.from_, .int .i64 D.to_, .int .i64 D.budget, .int .i64 D.fan] := rfl
  rw [hsubK] at l4
  have a4 : addA ⟨N, 0, none⟩ 4 = ⟨N, 4, none⟩ := rfl
  have a8 : addA ⟨N, 0, none⟩ 8 = ⟨N, 8, none⟩ := rfl
  have nk := neqK D.from_ D.to_ D.budget D.fan
  have rk := rightKN_at D.from_ D.to_ D.budget D.fan
  simp only [cdRC, Tryd.f14, bodyOf, sub]
  cases wa : ltI D.gen 0
  case true =>
    have hv : D.right = false := by rw [rightD_eq]; simp only [wa, Bool.not_false, Bool.not_true, Bool.true_and, Bool.false_and, Bool.and_false, Bool.or_false, Bool.or_true, Bool.true_or, Bool.false_or, Bool.or_self, Bool.and_self]
    repeat apply go_seq
    apply go_region
    case h => intro m; simp (maxSteps := 2000000) (disch := decide) only [opsLoop, evOper, wantedA, nth, aop, aPick, aBin, aIndexAddr, aFieldAddr, aLoad, aStore, aExtract, aConvert, aAlloc, aBox, aIndex, callA, builtinA, Fr.evs, opt, val, when, AM.run, outV, newA, ptr, force_eq, seen_heap, seen_next, seen_mark, seen_seen, agg_cells, int_cells, Fr.ev, Fr.put, onFr, gps, gpn, bltT, still, flat, List.append_nil, List.nil_append, List.cons_append, Nat.reduceEqDiff, ne_eq, not_false_eq_true, reduceCtorEq, Bool.and_true, Bool.true_and, Bool.and_false, Bool.false_and, Bool.not_true, Bool.not_false, Bool.and_self, tyC, dsC, flC0, flC1, flC2, flC3, flC4, flC5, ftC0, ftC1, ftC2, ftC3, ftC4, ftC5, foC0, foC1, foC2, foC3, foC4, foC5, tyI, szI, tySt8, szSt8, tyBo, szBo, tyK, szK, tyFs, szFs, ble11, ad0, ad1, ad2, ad3', a4, a8, l0, l1, l2, l3, l4, l8, h1, b_lss, b_gtr, b_neq, u_not, undef_eq, builtinA, dsFs, show Nat.ble 1 4 = true from rfl, wa]; rfl
    repeat apply go_seq
    apply go_cond
    case hc => simp (disch := decide) only [opsLoop, evOper, wantedA, nth, aop, aPick, aBin, aIndexAddr, aFieldAddr, aLoad, aStore, aExtract, aConvert, aAlloc, aBox, aIndex, callA, builtinA, Fr.evs, opt, val, when, AM.run, outV, newA, ptr, force_eq, seen_heap, seen_next, seen_mark, seen_seen, agg_cells, int_cells, Fr.ev, Fr.put, onFr, gps, gpn, bltT, still, flat, List.append_nil, List.nil_append, List.cons_append, Nat.reduceEqDiff, ne_eq, not_false_eq_true, reduceCtorEq, Bool.and_true, Bool.true_and, Bool.and_false, Bool.false_and, Bool.not_true, Bool.not_false, Bool.and_self]; rfl
    case h2 => intro h; cases h
    intro _
    repeat apply go_seq
    apply go_region
    case h => intro m; simp (maxSteps := 2000000) (disch := decide) only [opsLoop, evOper, wantedA, nth, aop, aPick, aBin, aIndexAddr, aFieldAddr, aLoad, aStore, aExtract, aConvert, aAlloc, aBox, aIndex, callA, builtinA, Fr.evs, opt, val, when, AM.run, outV, newA, ptr, force_eq, seen_heap, seen_next, seen_mark, seen_seen, agg_cells, int_cells, Fr.ev, Fr.put, onFr, gps, gpn, bltT, still, flat, List.append_nil, List.nil_append, List.cons_append, Nat.reduceEqDiff, ne_eq, not_false_eq_true, reduceCtorEq, Bool.and_true, Bool.true_and, Bool.and_false, Bool.false_and, Bool.not_true, Bool.not_false, Bool.and_self]; rfl
    apply go_ret
    refine ⟨_, _, _, rfl, rfl, ?_, .inr ⟨rfl, hv, ?_⟩⟩
    · simp (disch := decide) only [gps, gpn, h1]
    · simp (disch := decide) only [gps, gpn]
  cases wb : ltI 1000 D.gen
  case true =>
    have hv : D.right = false := by rw [rightD_eq]; simp only [wa, wb, Bool.not_false, Bool.not_true, Bool.true_and, Bool.false_and, Bool.and_false, Bool.or_false, Bool.or_true, Bool.true_or, Bool.false_or, Bool.or_self, Bool.and_self]
    repeat apply go_seq
    apply go_region
    case h => intro m; simp (maxSteps := 2000000) (disch := decide) only [opsLoop, evOper, wantedA, nth, aop, aPick, aBin, aIndexAddr, aFieldAddr, aLoad, aStore, aExtract, aConvert, aAlloc, aBox, aIndex, callA, builtinA, Fr.evs, opt, val, when, AM.run, outV, newA, ptr, force_eq, seen_heap, seen_next, seen_mark, seen_seen, agg_cells, int_cells, Fr.ev, Fr.put, onFr, gps, gpn, bltT, still, flat, List.append_nil, List.nil_append, List.cons_append, Nat.reduceEqDiff, ne_eq, not_false_eq_true, reduceCtorEq, Bool.and_true, Bool.true_and, Bool.and_false, Bool.false_and, Bool.not_true, Bool.not_false, Bool.and_self, tyC, dsC, flC0, flC1, flC2, flC3, flC4, flC5, ftC0, ftC1, ftC2, ftC3, ftC4, ftC5, foC0, foC1, foC2, foC3, foC4, foC5, tyI, szI, tySt8, szSt8, tyBo, szBo, tyK, szK, tyFs, szFs, ble11, ad0, ad1, ad2, ad3', a4, a8, l0, l1, l2, l3, l4, l8, h1, b_lss, b_gtr, b_neq, u_not, undef_eq, builtinA, dsFs, show Nat.ble 1 4 = true from rfl, wa, wb]; rfl
    repeat apply go_seq
    apply go_cond
    case hc => simp (disch := decide) only [opsLoop, evOper, wantedA, nth, aop, aPick, aBin, aIndexAddr, aFieldAddr, aLoad, aStore, aExtract, aConvert, aAlloc, aBox, aIndex, callA, builtinA, Fr.evs, opt, val, when, AM.run, outV, newA, ptr, force_eq, seen_heap, seen_next, seen_mark, seen_seen, agg_cells, int_cells, Fr.ev, Fr.put, onFr, gps, gpn, bltT, still, flat, List.append_nil, List.nil_append, List.cons_append, Nat.reduceEqDiff, ne_eq, not_false_eq_true, reduceCtorEq, Bool.and_true, Bool.true_and, Bool.and_false, Bool.false_and, Bool.not_true, Bool.not_false, Bool.and_self]; rfl
    case h2 => intro h; cases h
    intro _
    repeat apply go_seq
    apply go_region
    case h => intro m; simp (maxSteps := 2000000) (disch := decide) only [opsLoop, evOper, wantedA, nth, aop, aPick, aBin, aIndexAddr, aFieldAddr, aLoad, aStore, aExtract, aConvert, aAlloc, aBox, aIndex, callA, builtinA, Fr.evs, opt, val, when, AM.run, outV, newA, ptr, force_eq, seen_heap, seen_next, seen_mark, seen_seen, agg_cells, int_cells, Fr.ev, Fr.put, onFr, gps, gpn, bltT, still, flat, List.append_nil, List.nil_append, List.cons_append, Nat.reduceEqDiff, ne_eq, not_false_eq_true, reduceCtorEq, Bool.and_true, Bool.true_and, Bool.and_false, Bool.false_and, Bool.not_true, Bool.not_false, Bool.and_self]; rfl
    apply go_ret
    refine ⟨_, _, _, rfl, rfl, ?_, .inr ⟨rfl, hv, ?_⟩⟩
    · simp (disch := decide) only [gps, gpn, h1]
    · simp (disch := decide) only [gps, gpn]
  cases wc : ltI D.step 0
  case true =>
    have hv : D.right = false := by rw [rightD_eq]; simp only [wa, wb, wc, Bool.not_false, Bool.not_true, Bool.true_and, Bool.false_and, Bool.and_false, Bool.or_false, Bool.or_true, Bool.true_or, Bool.false_or, Bool.or_self, Bool.and_self]
    repeat apply go_seq
    apply go_region
    case h => intro m; simp (maxSteps := 2000000) (disch := decide) only [opsLoop, evOper, wantedA, nth, aop, aPick, aBin, aIndexAddr, aFieldAddr, aLoad, aStore, aExtract, aConvert, aAlloc, aBox, aIndex, callA, builtinA, Fr.evs, opt, val, when, AM.run, outV, newA, ptr, force_eq, seen_heap, seen_next, seen_mark, seen_seen, agg_cells, int_cells, Fr.ev, Fr.put, onFr, gps, gpn, bltT, still, flat, List.append_nil, List.nil_append, List.cons_append, Nat.reduceEqDiff, ne_eq, not_false_eq_true, reduceCtorEq, Bool.and_true, Bool.true_and, Bool.and_false, Bool.false_and, Bool.not_true, Bool.not_false, Bool.and_self, tyC, dsC, flC0, flC1, flC2, flC3, flC4, flC5, ftC0, ftC1, ftC2, ftC3, ftC4, ftC5, foC0, foC1, foC2, foC3, foC4, foC5, tyI, szI, tySt8, szSt8, tyBo, szBo, tyK, szK, tyFs, szFs, ble11, ad0, ad1, ad2, ad3', a4, a8, l0, l1, l2, l3, l4, l8, h1, b_lss, b_gtr, b_neq, u_not, undef_eq, builtinA, dsFs, show Nat.ble 1 4 = true from rfl, wa, wb, wc]; rfl
    repeat apply go_seq
    apply go_cond
    case hc => simp (disch := decide) only [opsLoop, evOper, wantedA, nth, aop, aPick, aBin, aIndexAddr, aFieldAddr, aLoad, aStore, aExtract, aConvert, aAlloc, aBox, aIndex, callA, builtinA, Fr.evs, opt, val, when, AM.run, outV, newA, ptr, force_eq, seen_heap, seen_next, seen_mark, seen_seen, agg_cells, int_cells, Fr.ev, Fr.put, onFr, gps, gpn, bltT, still, flat, List.append_nil, List.nil_append, List.cons_append, Nat.reduceEqDiff, ne_eq, not_false_eq_true, reduceCtorEq, Bool.and_true, Bool.true_and, Bool.and_false, Bool.false_and, Bool.not_true, Bool.not_false, Bool.and_self]; rfl
    case h2 => intro h; cases h
    intro _
    repeat apply go_seq
    apply go_region
    case h => intro m; simp (maxSteps := 2000000) (disch := decide) only [opsLoop, evOper, wantedA, nth, aop, aPick, aBin, aIndexAddr, aFieldAddr, aLoad, aStore, aExtract, aConvert, aAlloc, aBox, aIndex, callA, builtinA, Fr.evs, opt, val, when, AM.run, outV, newA, ptr, force_eq, seen_heap, seen_next, seen_mark, seen_seen, agg_cells, int_cells, Fr.ev, Fr.put, onFr, gps, gpn, bltT, still, flat, List.append_nil, List.nil_append, List.cons_append, Nat.reduceEqDiff, ne_eq, not_false_eq_true, reduceCtorEq, Bool.and_true, Bool.true_and, Bool.and_false, Bool.false_and, Bool.not_true, Bool.not_false, Bool.and_self]; rfl
    apply go_ret
    refine ⟨_, _, _, rfl, rfl, ?_, .inr ⟨rfl, hv, ?_⟩⟩
    · simp (disch := decide) only [gps, gpn, h1]
    · simp (disch := decide) only [gps, gpn]
  cases wd : ltI 20 D.step
  case true =>
    have hv : D.right = false := by rw [rightD_eq]; simp only [wa, wb, wc, wd, Bool.not_false, Bool.not_true, Bool.true_and, Bool.false_and, Bool.and_false, Bool.or_false, Bool.or_true, Bool.true_or, Bool.false_or, Bool.or_self, Bool.and_self]
    repeat apply go_seq
    apply go_region
    case h => intro m; simp (maxSteps := 2000000) (disch := decide) only [opsLoop, evOper, wantedA, nth, aop, aPick, aBin, aIndexAddr, aFieldAddr, aLoad, aStore, aExtract, aConvert, aAlloc, aBox, aIndex, callA, builtinA, Fr.evs, opt, val, when, AM.run, outV, newA, ptr, force_eq, seen_heap, seen_next, seen_mark, seen_seen, agg_cells, int_cells, Fr.ev, Fr.put, onFr, gps, gpn, bltT, still, flat, List.append_nil, List.nil_append, List.cons_append, Nat.reduceEqDiff, ne_eq, not_false_eq_true, reduceCtorEq, Bool.and_true, Bool.true_and, Bool.and_false, Bool.false_and, Bool.not_true, Bool.not_false, Bool.and_self, tyC, dsC, flC0, flC1, flC2, flC3, flC4, flC5, ftC0, ftC1, ftC2, ftC3, ftC4, ftC5, foC0, foC1, foC2, foC3, foC4, foC5, tyI, szI, tySt8, szSt8, tyBo, szBo, tyK, szK, tyFs, szFs, ble11, ad0, ad1, ad2, ad3', a4, a8, l0, l1, l2, l3, l4, l8, h1, b_lss, b_gtr, b_neq, u_not, undef_eq, builtinA, dsFs, show Nat.ble 1 4 = true from rfl, wa, wb, wc, wd]; rfl
    repeat apply go_seq
    apply go_cond
    case hc => simp (disch := decide) only [opsLoop, evOper, wantedA, nth, aop, aPick, aBin, aIndexAddr, aFieldAddr, aLoad, aStore, aExtract, aConvert, aAlloc, aBox, aIndex, callA, builtinA, Fr.evs, opt, val, when, AM.run, outV, newA, ptr, force_eq, seen_heap, seen_next, seen_mark, seen_seen, agg_cells, int_cells, Fr.ev, Fr.put, onFr, gps, gpn, bltT, still, flat, List.append_nil, List.nil_append, List.cons_append, Nat.reduceEqDiff, ne_eq, not_false_eq_true, reduceCtorEq, Bool.and_true, Bool.true_and, Bool.and_false, Bool.false_and, Bool.not_true, Bool.not_false, Bool.and_self]; rfl
    case h2 => intro h; cases h
    intro _
    repeat apply go_seq
    apply go_region
    case h => intro m; simp (maxSteps := 2000000) (disch := decide) only [opsLoop, evOper, wantedA, nth, aop, aPick, aBin, aIndexAddr, aFieldAddr, aLoad, aStore, aExtract, aConvert, aAlloc, aBox, aIndex, callA, builtinA, Fr.evs, opt, val, when, AM.run, outV, newA, ptr, force_eq, seen_heap, seen_next, seen_mark, seen_seen, agg_cells, int_cells, Fr.ev, Fr.put, onFr, gps, gpn, bltT, still, flat, List.append_nil, List.nil_append, List.cons_append, Nat.reduceEqDiff, ne_eq, not_false_eq_true, reduceCtorEq, Bool.and_true, Bool.true_and, Bool.and_false, Bool.false_and, Bool.not_true, Bool.not_false, Bool.and_self]; rfl
    apply go_ret
    refine ⟨_, _, _, rfl, rfl, ?_, .inr ⟨rfl, hv, ?_⟩⟩
    · simp (disch := decide) only [gps, gpn, h1]
    · simp (disch := decide) only [gps, gpn]
  cases we : ltI D.status 0
  case true =>
    have hv : D.right = false := by rw [rightD_eq]; simp only [wa, wb, wc, wd, we, Bool.not_false, Bool.not_true, Bool.true_and, Bool.false_and, Bool.and_false, Bool.or_false, Bool.or_true, Bool.true_or, Bool.false_or, Bool.or_self, Bool.and_self]
    repeat apply go_seq
    apply go_region
    case h => intro m; simp (maxSteps := 2000000) (disch := decide) only [opsLoop, evOper, wantedA, nth, aop, aPick, aBin, aIndexAddr, aFieldAddr, aLoad, aStore, aExtract, aConvert, aAlloc, aBox, aIndex, callA, builtinA, Fr.evs, opt, val, when, AM.run, outV, newA, ptr, force_eq, seen_heap, seen_next, seen_mark, seen_seen, agg_cells, int_cells, Fr.ev, Fr.put, onFr, gps, gpn, bltT, still, flat, List.append_nil, List.nil_append, List.cons_append, Nat.reduceEqDiff, ne_eq, not_false_eq_true, reduceCtorEq, Bool.and_true, Bool.true_and, Bool.and_false, Bool.false_and, Bool.not_true, Bool.not_false, Bool.and_self, tyC, dsC, flC0, flC1, flC2, flC3, flC4, flC5, ftC0, ftC1, ftC2, ftC3, ftC4, ftC5, foC0, foC1, foC2, foC3, foC4, foC5, tyI, szI, tySt8, szSt8, tyBo, szBo, tyK, szK, tyFs, szFs, ble11, ad0, ad1, ad2, ad3', a4, a8, l0, l1, l2, l3, l4, l8, h1, b_lss, b_gtr, b_neq, u_not, undef_eq, builtinA, dsFs, show Nat.ble 1 4 = true from rfl, wa, wb, wc, wd, we]; rfl
    repeat apply go_seq
    apply go_cond
    case hc => simp (disch := decide) only [opsLoop, evOper, wantedA, nth, aop, aPick, aBin, aIndexAddr, aFieldAddr, aLoad, aStore, aExtract, aConvert, aAlloc, aBox, aIndex, callA, builtinA, Fr.evs, opt, val, when, AM.run, outV, newA, ptr, force_eq, seen_heap, seen_next, seen_mark, seen_seen, agg_cells, int_cells, Fr.ev, Fr.put, onFr, gps, gpn, bltT, still, flat, List.append_nil, List.nil_append, List.cons_append, Nat.reduceEqDiff, ne_eq, not_false_eq_true, reduceCtorEq, Bool.and_true, Bool.true_and, Bool.and_false, Bool.false_and, Bool.not_true, Bool.not_false, Bool.and_self]; rfl
    case h2 => intro h; cases h
    intro _
    repeat apply go_seq
    apply go_region
    case h => intro m; simp (maxSteps := 2000000) (disch := decide) only [opsLoop, evOper, wantedA, nth, aop, aPick, aBin, aIndexAddr, aFieldAddr, aLoad, aStore, aExtract, aConvert, aAlloc, aBox, aIndex, callA, builtinA, Fr.evs, opt, val, when, AM.run, outV, newA, ptr, force_eq, seen_heap, seen_next, seen_mark, seen_seen, agg_cells, int_cells, Fr.ev, Fr.put, onFr, gps, gpn, bltT, still, flat, List.append_nil, List.nil_append, List.cons_append, Nat.reduceEqDiff, ne_eq, not_false_eq_true, reduceCtorEq, Bool.and_true, Bool.true_and, Bool.and_false, Bool.false_and, Bool.not_true, Bool.not_false, Bool.and_self]; rfl
    apply go_ret
    refine ⟨_, _, _, rfl, rfl, ?_, .inr ⟨rfl, hv, ?_⟩⟩
    · simp (disch := decide) only [gps, gpn, h1]
    · simp (disch := decide) only [gps, gpn]
  cases wf : ltI 7 D.status
  case true =>
    have hv : D.right = false := by rw [rightD_eq]; simp only [wa, wb, wc, wd, we, wf, Bool.not_false, Bool.not_true, Bool.true_and, Bool.false_and, Bool.and_false, Bool.or_false, Bool.or_true, Bool.true_or, Bool.false_or, Bool.or_self, Bool.and_self]
    repeat apply go_seq
    apply go_region
    case h => intro m; simp (maxSteps := 2000000) (disch := decide) only [opsLoop, evOper, wantedA, nth, aop, aPick, aBin, aIndexAddr, aFieldAddr, aLoad, aStore, aExtract, aConvert, aAlloc, aBox, aIndex, callA, builtinA, Fr.evs, opt, val, when, AM.run, outV, newA, ptr, force_eq, seen_heap, seen_next, seen_mark, seen_seen, agg_cells, int_cells, Fr.ev, Fr.put, onFr, gps, gpn, bltT, still, flat, List.append_nil, List.nil_append, List.cons_append, Nat.reduceEqDiff, ne_eq, not_false_eq_true, reduceCtorEq, Bool.and_true, Bool.true_and, Bool.and_false, Bool.false_and, Bool.not_true, Bool.not_false, Bool.and_self, tyC, dsC, flC0, flC1, flC2, flC3, flC4, flC5, ftC0, ftC1, ftC2, ftC3, ftC4, ftC5, foC0, foC1, foC2, foC3, foC4, foC5, tyI, szI, tySt8, szSt8, tyBo, szBo, tyK, szK, tyFs, szFs, ble11, ad0, ad1, ad2, ad3', a4, a8, l0, l1, l2, l3, l4, l8, h1, b_lss, b_gtr, b_neq, u_not, undef_eq, builtinA, dsFs, show Nat.ble 1 4 = true from rfl, wa, wb, wc, wd, we, wf]; rfl
    repeat apply go_seq
    apply go_cond
    case hc => simp (disch := decide) only [opsLoop, evOper, wantedA, nth, aop, aPick, aBin, aIndexAddr, aFieldAddr, aLoad, aStore, aExtract, aConvert, aAlloc, aBox, aIndex, callA, builtinA, Fr.evs, opt, val, when, AM.run, outV, newA, ptr, force_eq, seen_heap, seen_next, seen_mark, seen_seen, agg_cells, int_cells, Fr.ev, Fr.put, onFr, gps, gpn, bltT, still, flat, List.append_nil, List.nil_append, List.cons_append, Nat.reduceEqDiff, ne_eq, not_false_eq_true, reduceCtorEq, Bool.and_true, Bool.true_and, Bool.and_false, Bool.false_and, Bool.not_true, Bool.not_false, Bool.and_self]; rfl
    case h2 => intro h; cases h
    intro _
    repeat apply go_seq
    apply go_region
    case h => intro m; simp (maxSteps := 2000000) (disch := decide) only [opsLoop, evOper, wantedA, nth, aop, aPick, aBin, aIndexAddr, aFieldAddr, aLoad, aStore, aExtract, aConvert, aAlloc, aBox, aIndex, callA, builtinA, Fr.evs, opt, val, when, AM.run, outV, newA, ptr, force_eq, seen_heap, seen_next, seen_mark, seen_seen, agg_cells, int_cells, Fr.ev, Fr.put, onFr, gps, gpn, bltT, still, flat, List.append_nil, List.nil_append, List.cons_append, Nat.reduceEqDiff, ne_eq, not_false_eq_true, reduceCtorEq, Bool.and_true, Bool.true_and, Bool.and_false, Bool.false_and, Bool.not_true, Bool.not_false, Bool.and_self]; rfl
    apply go_ret
    refine ⟨_, _, _, rfl, rfl, ?_, .inr ⟨rfl, hv, ?_⟩⟩
    · simp (disch := decide) only [gps, gpn, h1]
    · simp (disch := decide) only [gps, gpn]
  cases wE : D.ended
  case true =>
    rw [wE] at l3
    cases w7 : ltI 14 (.ofNat D.files.length)
    case true =>
      have hv : D.right = false := by rw [rightD_eq]; simp only [wa, wb, wc, wd, we, wf, wE, w7, Bool.not_false, Bool.not_true, Bool.true_and, Bool.false_and, Bool.and_false, Bool.or_false, Bool.or_true, Bool.true_or, Bool.false_or, Bool.or_self, Bool.and_self]
      repeat apply go_seq
      apply go_region
      case h => intro m; simp (maxSteps := 2000000) (disch := decide) only [opsLoop, evOper, wantedA, nth, aop, aPick, aBin, aIndexAddr, aFieldAddr, aLoad, aStore, aExtract, aConvert, aAlloc, aBox, aIndex, callA, builtinA, Fr.evs, opt, val, when, AM.run, outV, newA, ptr, force_eq, seen_heap, seen_next, seen_mark, seen_seen, agg_cells, int_cells, Fr.ev, Fr.put, onFr, gps, gpn, bltT, still, flat, List.append_nil, List.nil_append, List.cons_append, Nat.reduceEqDiff, ne_eq, not_false_eq_true, reduceCtorEq, Bool.and_true, Bool.true_and, Bool.and_false, Bool.false_and, Bool.not_true, Bool.not_false, Bool.and_self, tyC, dsC, flC0, flC1, flC2, flC3, flC4, flC5, ftC0, ftC1, ftC2, ftC3, ftC4, ftC5, foC0, foC1, foC2, foC3, foC4, foC5, tyI, szI, tySt8, szSt8, tyBo, szBo, tyK, szK, tyFs, szFs, ble11, ad0, ad1, ad2, ad3', a4, a8, l0, l1, l2, l3, l4, l8, h1, b_lss, b_gtr, b_neq, u_not, undef_eq, builtinA, dsFs, show Nat.ble 1 4 = true from rfl, wa, wb, wc, wd, we, wf, wE, w7]; rfl
      repeat apply go_seq
      apply go_cond
      case hc => simp (disch := decide) only [opsLoop, evOper, wantedA, nth, aop, aPick, aBin, aIndexAddr, aFieldAddr, aLoad, aStore, aExtract, aConvert, aAlloc, aBox, aIndex, callA, builtinA, Fr.evs, opt, val, when, AM.run, outV, newA, ptr, force_eq, seen_heap, seen_next, seen_mark, seen_seen, agg_cells, int_cells, Fr.ev, Fr.put, onFr, gps, gpn, bltT, still, flat, List.append_nil, List.nil_append, List.cons_append, Nat.reduceEqDiff, ne_eq, not_false_eq_true, reduceCtorEq, Bool.and_true, Bool.true_and, Bool.and_false, Bool.false_and, Bool.not_true, Bool.not_false, Bool.and_self]; rfl
      case h2 => intro h; cases h
      intro _
      repeat apply go_seq
      apply go_region
      case h => intro m; simp (maxSteps := 2000000) (disch := decide) only [opsLoop, evOper, wantedA, nth, aop, aPick, aBin, aIndexAddr, aFieldAddr, aLoad, aStore, aExtract, aConvert, aAlloc, aBox, aIndex, callA, builtinA, Fr.evs, opt, val, when, AM.run, outV, newA, ptr, force_eq, seen_heap, seen_next, seen_mark, seen_seen, agg_cells, int_cells, Fr.ev, Fr.put, onFr, gps, gpn, bltT, still, flat, List.append_nil, List.nil_append, List.cons_append, Nat.reduceEqDiff, ne_eq, not_false_eq_true, reduceCtorEq, Bool.and_true, Bool.true_and, Bool.and_false, Bool.false_and, Bool.not_true, Bool.not_false, Bool.and_self]; rfl
      apply go_ret
      refine ⟨_, _, _, rfl, rfl, ?_, .inr ⟨rfl, hv, ?_⟩⟩
      · simp (disch := decide) only [gps, gpn, h1]
      · simp (disch := decide) only [gps, gpn]
    cases w8 : zeroK D.from_ D.to_ D.budget D.fan
    case true =>
      rw [w8] at nk
      have hv : D.right = filesOK 0 D.files := by rw [rightD_eq]; simp only [wa, wb, wc, wd, we, wf, wE, w7, w8, Bool.not_false, Bool.not_true, Bool.true_and, Bool.false_and, Bool.and_false, Bool.or_false, Bool.or_true, Bool.true_or, Bool.false_or, Bool.or_self, Bool.and_self]
      repeat apply go_seq
      apply go_region
      case h => intro m; simp (maxSteps := 2000000) (disch := decide) only [opsLoop, evOper, wantedA, nth, aop, aPick, aBin, aIndexAddr, aFieldAddr, aLoad, aStore, aExtract, aConvert, aAlloc, aBox, aIndex, callA, builtinA, Fr.evs, opt, val, when, AM.run, outV, newA, ptr, force_eq, seen_heap, seen_next, seen_mark, seen_seen, agg_cells, int_cells, Fr.ev, Fr.put, onFr, gps, gpn, bltT, still, flat, List.append_nil, List.nil_append, List.cons_append, Nat.reduceEqDiff, ne_eq, not_false_eq_true, reduceCtorEq, Bool.and_true, Bool.true_and, Bool.and_false, Bool.false_and, Bool.not_true, Bool.not_false, Bool.and_self, tyC, dsC, flC0, flC1, flC2, flC3, flC4, flC5, ftC0, ftC1, ftC2, ftC3, ftC4, ftC5, foC0, foC1, foC2, foC3, foC4, foC5, tyI, szI, tySt8, szSt8, tyBo, szBo, tyK, szK, tyFs, szFs, ble11, ad0, ad1, ad2, ad3', a4, a8, l0, l1, l2, l3, l4, l8, h1, b_lss, b_gtr, b_neq, u_not, undef_eq, builtinA, dsFs, show Nat.ble 1 4 = true from rfl, wa, wb, wc, wd, we, wf, wE, w7, nk, aBuild, evParts, zeK, dsK, places_K, fillA, show Nat.beq ([Value.int .i64 0, .int .i64 0, .int .i64 0, .int .i64 0] : List Value).length 4 = true from rfl]; rfl
      repeat apply go_seq
      apply go_cond
      case hc => simp (disch := decide) only [opsLoop, evOper, wantedA, nth, aop, aPick, aBin, aIndexAddr, aFieldAddr, aLoad, aStore, aExtract, aConvert, aAlloc, aBox, aIndex, callA, builtinA, Fr.evs, opt, val, when, AM.run, outV, newA, ptr, force_eq, seen_heap, seen_next, seen_mark, seen_seen, agg_cells, int_cells, Fr.ev, Fr.put, onFr, gps, gpn, bltT, still, flat, List.append_nil, List.nil_append, List.cons_append, Nat.reduceEqDiff, ne_eq, not_false_eq_true, reduceCtorEq, Bool.and_true, Bool.true_and, Bool.and_false, Bool.false_and, Bool.not_true, Bool.not_false, Bool.and_self]; rfl
      case h1 => intro h; cases h
      intro _
      apply go_skip
      refine ⟨_, _, _, rfl, rfl, ?_, .inl ⟨rfl, hv⟩⟩
      simp (disch := decide) only [gps, gpn, h1]
    rw [w8] at nk
    cases w9 : rightK D.from_ D.to_ D.budget D.fan
    case true =>
      rw [w9] at rk
      have hv : D.right = filesOK 0 D.files := by rw [rightD_eq]; simp only [wa, wb, wc, wd, we, wf, wE, w7, w8, w9, Bool.not_false, Bool.not_true, Bool.true_and, Bool.false_and, Bool.and_false, Bool.or_false, Bool.or_true, Bool.true_or, Bool.false_or, Bool.or_self, Bool.and_self]
      repeat apply go_seq
      apply go_region
      case h => intro m; simp (maxSteps := 2000000) (disch := decide) only [opsLoop, evOper, wantedA, nth, aop, aPick, aBin, aIndexAddr, aFieldAddr, aLoad, aStore, aExtract, aConvert, aAlloc, aBox, aIndex, callA, builtinA, Fr.evs, opt, val, when, AM.run, outV, newA, ptr, force_eq, seen_heap, seen_next, seen_mark, seen_seen, agg_cells, int_cells, Fr.ev, Fr.put, onFr, gps, gpn, bltT, still, flat, List.append_nil, List.nil_append, List.cons_append, Nat.reduceEqDiff, ne_eq, not_false_eq_true, reduceCtorEq, Bool.and_true, Bool.true_and, Bool.and_false, Bool.false_and, Bool.not_true, Bool.not_false, Bool.and_self, tyC, dsC, flC0, flC1, flC2, flC3, flC4, flC5, ftC0, ftC1, ftC2, ftC3, ftC4, ftC5, foC0, foC1, foC2, foC3, foC4, foC5, tyI, szI, tySt8, szSt8, tyBo, szBo, tyK, szK, tyFs, szFs, ble11, ad0, ad1, ad2, ad3', a4, a8, l0, l1, l2, l3, l4, l8, h1, b_lss, b_gtr, b_neq, u_not, undef_eq, builtinA, dsFs, show Nat.ble 1 4 = true from rfl, wa, wb, wc, wd, we, wf, wE, w7, nk, aBuild, evParts, zeK, dsK, places_K, fillA, show Nat.beq ([Value.int .i64 0, .int .i64 0, .int .i64 0, .int .i64 0] : List Value).length 4 = true from rfl, tgKR, evT_told srK, rk]; rfl
      repeat apply go_seq
      apply go_cond
      case hc => simp (disch := decide) only [opsLoop, evOper, wantedA, nth, aop, aPick, aBin, aIndexAddr, aFieldAddr, aLoad, aStore, aExtract, aConvert, aAlloc, aBox, aIndex, callA, builtinA, Fr.evs, opt, val, when, AM.run, outV, newA, ptr, force_eq, seen_heap, seen_next, seen_mark, seen_seen, agg_cells, int_cells, Fr.ev, Fr.put, onFr, gps, gpn, bltT, still, flat, List.append_nil, List.nil_append, List.cons_append, Nat.reduceEqDiff, ne_eq, not_false_eq_true, reduceCtorEq, Bool.and_true, Bool.true_and, Bool.and_false, Bool.false_and, Bool.not_true, Bool.not_false, Bool.and_self]; rfl
      case h1 => intro h; cases h
      intro _
      apply go_skip
      refine ⟨_, _, _, rfl, rfl, ?_, .inl ⟨rfl, hv⟩⟩
      simp (disch := decide) only [gps, gpn, h1]
    rw [w9] at rk
    have hv : D.right = false := by rw [rightD_eq]; simp only [wa, wb, wc, wd, we, wf, wE, w7, w8, w9, Bool.not_false, Bool.not_true, Bool.true_and, Bool.false_and, Bool.and_false, Bool.or_false, Bool.or_true, Bool.true_or, Bool.false_or, Bool.or_self, Bool.and_self]
    repeat apply go_seq
    apply go_region
    case h => intro m; simp (maxSteps := 2000000) (disch := decide) only [opsLoop, evOper, wantedA, nth, aop, aPick, aBin, aIndexAddr, aFieldAddr, aLoad, aStore, aExtract, aConvert, aAlloc, aBox, aIndex, callA, builtinA, Fr.evs, opt, val, when, AM.run, outV, newA, ptr, force_eq, seen_heap, seen_next, seen_mark, seen_seen, agg_cells, int_cells, Fr.ev, Fr.put, onFr, gps, gpn, bltT, still, flat, List.append_nil, List.nil_append, List.cons_append, Nat.reduceEqDiff, ne_eq, not_false_eq_true, reduceCtorEq, Bool.and_true, Bool.true_and, Bool.and_false, Bool.false_and, Bool.not_true, Bool.not_false, Bool.and_self, tyC, dsC, flC0, flC1, flC2, flC3, flC4, flC5, ftC0, ftC1, ftC2, ftC3, ftC4, ftC5, foC0, foC1, foC2, foC3, foC4, foC5, tyI, szI, tySt8, szSt8, tyBo, szBo, tyK, szK, tyFs, szFs, ble11, ad0, ad1, ad2, ad3', a4, a8, l0, l1, l2, l3, l4, l8, h1, b_lss, b_gtr, b_neq, u_not, undef_eq, builtinA, dsFs, show Nat.ble 1 4 = true from rfl, wa, wb, wc, wd, we, wf, wE, w7, nk, aBuild, evParts, zeK, dsK, places_K, fillA, show Nat.beq ([Value.int .i64 0, .int .i64 0, .int .i64 0, .int .i64 0] : List Value).length 4 = true from rfl, tgKR, evT_told srK, rk]; rfl
    repeat apply go_seq
    apply go_cond
    case hc => simp (disch := decide) only [opsLoop, evOper, wantedA, nth, aop, aPick, aBin, aIndexAddr, aFieldAddr, aLoad, aStore, aExtract, aConvert, aAlloc, aBox, aIndex, callA, builtinA, Fr.evs, opt, val, when, AM.run, outV, newA, ptr, force_eq, seen_heap, seen_next, seen_mark, seen_seen, agg_cells, int_cells, Fr.ev, Fr.put, onFr, gps, gpn, bltT, still, flat, List.append_nil, List.nil_append, List.cons_append, Nat.reduceEqDiff, ne_eq, not_false_eq_true, reduceCtorEq, Bool.and_true, Bool.true_and, Bool.and_false, Bool.false_and, Bool.not_true, Bool.not_false, Bool.and_self]; rfl
    case h2 => intro h; cases h
    intro _
    repeat apply go_seq
    apply go_region
    case h => intro m; simp (maxSteps := 2000000) (disch := decide) only [opsLoop, evOper, wantedA, nth, aop, aPick, aBin, aIndexAddr, aFieldAddr, aLoad, aStore, aExtract, aConvert, aAlloc, aBox, aIndex, callA, builtinA, Fr.evs, opt, val, when, AM.run, outV, newA, ptr, force_eq, seen_heap, seen_next, seen_mark, seen_seen, agg_cells, int_cells, Fr.ev, Fr.put, onFr, gps, gpn, bltT, still, flat, List.append_nil, List.nil_append, List.cons_append, Nat.reduceEqDiff, ne_eq, not_false_eq_true, reduceCtorEq, Bool.and_true, Bool.true_and, Bool.and_false, Bool.false_and, Bool.not_true, Bool.not_false, Bool.and_self]; rfl
    apply go_ret
    refine ⟨_, _, _, rfl, rfl, ?_, .inr ⟨rfl, hv, ?_⟩⟩
    · simp (disch := decide) only [gps, gpn, h1]
    · simp (disch := decide) only [gps, gpn]
  rw [wE] at l3
  cases w6 : eqI D.status 0
  case true =>
    cases w7 : ltI 14 (.ofNat D.files.length)
    case true =>
      have hv : D.right = false := by rw [rightD_eq]; simp only [wa, wb, wc, wd, we, wf, wE, w6, w7, Bool.not_false, Bool.not_true, Bool.true_and, Bool.false_and, Bool.and_false, Bool.or_false, Bool.or_true, Bool.true_or, Bool.false_or, Bool.or_self, Bool.and_self]
      repeat apply go_seq
      apply go_region
      case h => intro m; simp (maxSteps := 2000000) (disch := decide) only [opsLoop, evOper, wantedA, nth, aop, aPick, aBin, aIndexAddr, aFieldAddr, aLoad, aStore, aExtract, aConvert, aAlloc, aBox, aIndex, callA, builtinA, Fr.evs, opt, val, when, AM.run, outV, newA, ptr, force_eq, seen_heap, seen_next, seen_mark, seen_seen, agg_cells, int_cells, Fr.ev, Fr.put, onFr, gps, gpn, bltT, still, flat, List.append_nil, List.nil_append, List.cons_append, Nat.reduceEqDiff, ne_eq, not_false_eq_true, reduceCtorEq, Bool.and_true, Bool.true_and, Bool.and_false, Bool.false_and, Bool.not_true, Bool.not_false, Bool.and_self, tyC, dsC, flC0, flC1, flC2, flC3, flC4, flC5, ftC0, ftC1, ftC2, ftC3, ftC4, ftC5, foC0, foC1, foC2, foC3, foC4, foC5, tyI, szI, tySt8, szSt8, tyBo, szBo, tyK, szK, tyFs, szFs, ble11, ad0, ad1, ad2, ad3', a4, a8, l0, l1, l2, l3, l4, l8, h1, b_lss, b_gtr, b_neq, u_not, undef_eq, builtinA, dsFs, show Nat.ble 1 4 = true from rfl, wa, wb, wc, wd, we, wf, wE, w6, w7]; rfl
      repeat apply go_seq
      apply go_cond
      case hc => simp (disch := decide) only [opsLoop, evOper, wantedA, nth, aop, aPick, aBin, aIndexAddr, aFieldAddr, aLoad, aStore, aExtract, aConvert, aAlloc, aBox, aIndex, callA, builtinA, Fr.evs, opt, val, when, AM.run, outV, newA, ptr, force_eq, seen_heap, seen_next, seen_mark, seen_seen, agg_cells, int_cells, Fr.ev, Fr.put, onFr, gps, gpn, bltT, still, flat, List.append_nil, List.nil_append, List.cons_append, Nat.reduceEqDiff, ne_eq, not_false_eq_true, reduceCtorEq, Bool.and_true, Bool.true_and, Bool.and_false, Bool.false_and, Bool.not_true, Bool.not_false, Bool.and_self]; rfl
      case h2 => intro h; cases h
      intro _
      repeat apply go_seq
      apply go_region
      case h => intro m; simp (maxSteps := 2000000) (disch := decide) only [opsLoop, evOper, wantedA, nth, aop, aPick, aBin, aIndexAddr, aFieldAddr, aLoad, aStore, aExtract, aConvert, aAlloc, aBox, aIndex, callA, builtinA, Fr.evs, opt, val, when, AM.run, outV, newA, ptr, force_eq, seen_heap, seen_next, seen_mark, seen_seen, agg_cells, int_cells, Fr.ev, Fr.put, onFr, gps, gpn, bltT, still, flat, List.append_nil, List.nil_append, List.cons_append, Nat.reduceEqDiff, ne_eq, not_false_eq_true, reduceCtorEq, Bool.and_true, Bool.true_and, Bool.and_false, Bool.false_and, Bool.not_true, Bool.not_false, Bool.and_self]; rfl
      apply go_ret
      refine ⟨_, _, _, rfl, rfl, ?_, .inr ⟨rfl, hv, ?_⟩⟩
      · simp (disch := decide) only [gps, gpn, h1]
      · simp (disch := decide) only [gps, gpn]
    cases w8 : zeroK D.from_ D.to_ D.budget D.fan
    case true =>
      rw [w8] at nk
      have hv : D.right = filesOK 0 D.files := by rw [rightD_eq]; simp only [wa, wb, wc, wd, we, wf, wE, w6, w7, w8, Bool.not_false, Bool.not_true, Bool.true_and, Bool.false_and, Bool.and_false, Bool.or_false, Bool.or_true, Bool.true_or, Bool.false_or, Bool.or_self, Bool.and_self]
      repeat apply go_seq
      apply go_region
      case h => intro m; simp (maxSteps := 2000000) (disch := decide) only [opsLoop, evOper, wantedA, nth, aop, aPick, aBin, aIndexAddr, aFieldAddr, aLoad, aStore, aExtract, aConvert, aAlloc, aBox, aIndex, callA, builtinA, Fr.evs, opt, val, when, AM.run, outV, newA, ptr, force_eq, seen_heap, seen_next, seen_mark, seen_seen, agg_cells, int_cells, Fr.ev, Fr.put, onFr, gps, gpn, bltT, still, flat, List.append_nil, List.nil_append, List.cons_append, Nat.reduceEqDiff, ne_eq, not_false_eq_true, reduceCtorEq, Bool.and_true, Bool.true_and, Bool.and_false, Bool.false_and, Bool.not_true, Bool.not_false, Bool.and_self, tyC, dsC, flC0, flC1, flC2, flC3, flC4, flC5, ftC0, ftC1, ftC2, ftC3, ftC4, ftC5, foC0, foC1, foC2, foC3, foC4, foC5, tyI, szI, tySt8, szSt8, tyBo, szBo, tyK, szK, tyFs, szFs, ble11, ad0, ad1, ad2, ad3', a4, a8, l0, l1, l2, l3, l4, l8, h1, b_lss, b_gtr, b_neq, u_not, undef_eq, builtinA, dsFs, show Nat.ble 1 4 = true from rfl, wa, wb, wc, wd, we, wf, wE, w6, w7, nk, aBuild, evParts, zeK, dsK, places_K, fillA, show Nat.beq ([Value.int .i64 0, .int .i64 0, .int .i64 0, .int .i64 0] : List Value).length 4 = true from rfl]; rfl
      repeat apply go_seq
      apply go_cond
      case hc => simp (disch := decide) only [opsLoop, evOper, wantedA, nth, aop, aPick, aBin, aIndexAddr, aFieldAddr, aLoad, aStore, aExtract, aConvert, aAlloc, aBox, aIndex, callA, builtinA, Fr.evs, opt, val, when, AM.run, outV, newA, ptr, force_eq, seen_heap, seen_next, seen_mark, seen_seen, agg_cells, int_cells, Fr.ev, Fr.put, onFr, gps, gpn, bltT, still, flat, List.append_nil, List.nil_append, List.cons_append, Nat.reduceEqDiff, ne_eq, not_false_eq_true, reduceCtorEq, Bool.and_true, Bool.true_and, Bool.and_false, Bool.false_and, Bool.not_true, Bool.not_false, Bool.and_self]; rfl
      case h1 => intro h; cases h
      intro _
      apply go_skip
      refine ⟨_, _, _, rfl, rfl, ?_, .inl ⟨rfl, hv⟩⟩
      simp (disch := decide) only [gps, gpn, h1]
    rw [w8] at nk
    cases w9 : rightK D.from_ D.to_ D.budget D.fan
    case true =>
      rw [w9] at rk
      have hv : D.right = filesOK 0 D.files := by rw [rightD_eq]; simp only [wa, wb, wc, wd, we, wf, wE, w6, w7, w8, w9, Bool.not_false, Bool.not_true, Bool.true_and, Bool.false_and, Bool.and_false, Bool.or_false, Bool.or_true, Bool.true_or, Bool.false_or, Bool.or_self, Bool.and_self]
      repeat apply go_seq
      apply go_region
      case h => intro m; simp (maxSteps := 2000000) (disch := decide) only [opsLoop, evOper, wantedA, nth, aop, aPick, aBin, aIndexAddr, aFieldAddr, aLoad, aStore, aExtract, aConvert, aAlloc, aBox, aIndex, callA, builtinA, Fr.evs, opt, val, when, AM.run, outV, newA, ptr, force_eq, seen_heap, seen_next, seen_mark, seen_seen, agg_cells, int_cells, Fr.ev, Fr.put, onFr, gps, gpn, bltT, still, flat, List.append_nil, List.nil_append, List.cons_append, Nat.reduceEqDiff, ne_eq, not_false_eq_true, reduceCtorEq, Bool.and_true, Bool.true_and, Bool.and_false, Bool.false_and, Bool.not_true, Bool.not_false, Bool.and_self, tyC, dsC, flC0, flC1, flC2, flC3, flC4, flC5, ftC0, ftC1, ftC2, ftC3, ftC4, ftC5, foC0, foC1, foC2, foC3, foC4, foC5, tyI, szI, tySt8, szSt8, tyBo, szBo, tyK, szK, tyFs, szFs, ble11, ad0, ad1, ad2, ad3', a4, a8, l0, l1, l2, l3, l4, l8, h1, b_lss, b_gtr, b_neq, u_not, undef_eq, builtinA, dsFs, show Nat.ble 1 4 = true from rfl, wa, wb, wc, wd, we, wf, wE, w6, w7, nk, aBuild, evParts, zeK, dsK, places_K, fillA, show Nat.beq ([Value.int .i64 0, .int .i64 0, .int .i64 0, .int .i64 0] : List Value).length 4 = true from rfl, tgKR, evT_told srK, rk]; rfl
      repeat apply go_seq
      apply go_cond
      case hc => simp (disch := decide) only [opsLoop, evOper, wantedA, nth, aop, aPick, aBin, aIndexAddr, aFieldAddr, aLoad, aStore, aExtract, aConvert, aAlloc, aBox, aIndex, callA, builtinA, Fr.evs, opt, val, when, AM.run, outV, newA, ptr, force_eq, seen_heap, seen_next, seen_mark, seen_seen, agg_cells, int_cells, Fr.ev, Fr.put, onFr, gps, gpn, bltT, still, flat, List.append_nil, List.nil_append, List.cons_append, Nat.reduceEqDiff, ne_eq, not_false_eq_true, reduceCtorEq, Bool.and_true, Bool.true_and, Bool.and_false, Bool.false_and, Bool.not_true, Bool.not_false, Bool.and_self]; rfl
      case h1 => intro h; cases h
      intro _
      apply go_skip
      refine ⟨_, _, _, rfl, rfl, ?_, .inl ⟨rfl, hv⟩⟩
      simp (disch := decide) only [gps, gpn, h1]
    rw [w9] at rk
    have hv : D.right = false := by rw [rightD_eq]; simp only [wa, wb, wc, wd, we, wf, wE, w6, w7, w8, w9, Bool.not_false, Bool.not_true, Bool.true_and, Bool.false_and, Bool.and_false, Bool.or_false, Bool.or_true, Bool.true_or, Bool.false_or, Bool.or_self, Bool.and_self]
    repeat apply go_seq
    apply go_region
    case h => intro m; simp (maxSteps := 2000000) (disch := decide) only [opsLoop, evOper, wantedA, nth, aop, aPick, aBin, aIndexAddr, aFieldAddr, aLoad, aStore, aExtract, aConvert, aAlloc, aBox, aIndex, callA, builtinA, Fr.evs, opt, val, when, AM.run, outV, newA, ptr, force_eq, seen_heap, seen_next, seen_mark, seen_seen, agg_cells, int_cells, Fr.ev, Fr.put, onFr, gps, gpn, bltT, still, flat, List.append_nil, List.nil_append, List.cons_append, Nat.reduceEqDiff, ne_eq, not_false_eq_true, reduceCtorEq, Bool.and_true, Bool.true_and, Bool.and_false, Bool.false_and, Bool.not_true, Bool.not_false, Bool.and_self, tyC, dsC, flC0, flC1, flC2, flC3, flC4, flC5, ftC0, ftC1, ftC2, ftC3, ftC4, ftC5, foC0, foC1, foC2, foC3, foC4, foC5, tyI, szI, tySt8, szSt8, tyBo, szBo, tyK, szK, tyFs, szFs, ble11, ad0, ad1, ad2, ad3', a4, a8, l0, l1, l2, l3, l4, l8, h1, b_lss, b_gtr, b_neq, u_not, undef_eq, builtinA, dsFs, show Nat.ble 1 4 = true from rfl, wa, wb, wc, wd, we, wf, wE, w6, w7, nk, aBuild, evParts, zeK, dsK, places_K, fillA, show Nat.beq ([Value.int .i64 0, .int .i64 0, .int .i64 0, .int .i64 0] : List Value).length 4 = true from rfl, tgKR, evT_told srK, rk]; rfl
    repeat apply go_seq
    apply go_cond
    case hc => simp (disch := decide) only [opsLoop, evOper, wantedA, nth, aop, aPick, aBin, aIndexAddr, aFieldAddr, aLoad, aStore, aExtract, aConvert, aAlloc, aBox, aIndex, callA, builtinA, Fr.evs, opt, val, when, AM.run, outV, newA, ptr, force_eq, seen_heap, seen_next, seen_mark, seen_seen, agg_cells, int_cells, Fr.ev, Fr.put, onFr, gps, gpn, bltT, still, flat, List.append_nil, List.nil_append, List.cons_append, Nat.reduceEqDiff, ne_eq, not_false_eq_true, reduceCtorEq, Bool.and_true, Bool.true_and, Bool.and_false, Bool.false_and, Bool.not_true, Bool.not_false, Bool.and_self]; rfl
    case h2 => intro h; cases h
    intro _
    repeat apply go_seq
    apply go_region
    case h => intro m; simp (maxSteps := 2000000) (disch := decide) only [opsLoop, evOper, wantedA, nth, aop, aPick, aBin, aIndexAddr, aFieldAddr, aLoad, aStore, aExtract, aConvert, aAlloc, aBox, aIndex, callA, builtinA, Fr.evs, opt, val, when, AM.run, outV, newA, ptr, force_eq, seen_heap, seen_next, seen_mark, seen_seen, agg_cells, int_cells, Fr.ev, Fr.put, onFr, gps, gpn, bltT, still, flat, List.append_nil, List.nil_append, List.cons_append, Nat.reduceEqDiff, ne_eq, not_false_eq_true, reduceCtorEq, Bool.and_true, Bool.true_and, Bool.and_false, Bool.false_and, Bool.not_true, Bool.not_false, Bool.and_self]; rfl
    apply go_ret
    refine ⟨_, _, _, rfl, rfl, ?_, .inr ⟨rfl, hv, ?_⟩⟩
    · simp (disch := decide) only [gps, gpn, h1]
    · simp (disch := decide) only [gps, gpn]
  have hv : D.right = false := by rw [rightD_eq]; simp only [wa, wb, wc, wd, we, wf, wE, w6, Bool.not_false, Bool.not_true, Bool.true_and, Bool.false_and, Bool.and_false, Bool.or_false, Bool.or_true, Bool.true_or, Bool.false_or, Bool.or_self, Bool.and_self]
  repeat apply go_seq
  apply go_region
  case h => intro m; simp (maxSteps := 2000000) (disch := decide) only [opsLoop, evOper, wantedA, nth, aop, aPick, aBin, aIndexAddr, aFieldAddr, aLoad, aStore, aExtract, aConvert, aAlloc, aBox, aIndex, callA, builtinA, Fr.evs, opt, val, when, AM.run, outV, newA, ptr, force_eq, seen_heap, seen_next, seen_mark, seen_seen, agg_cells, int_cells, Fr.ev, Fr.put, onFr, gps, gpn, bltT, still, flat, List.append_nil, List.nil_append, List.cons_append, Nat.reduceEqDiff, ne_eq, not_false_eq_true, reduceCtorEq, Bool.and_true, Bool.true_and, Bool.and_false, Bool.false_and, Bool.not_true, Bool.not_false, Bool.and_self, tyC, dsC, flC0, flC1, flC2, flC3, flC4, flC5, ftC0, ftC1, ftC2, ftC3, ftC4, ftC5, foC0, foC1, foC2, foC3, foC4, foC5, tyI, szI, tySt8, szSt8, tyBo, szBo, tyK, szK, tyFs, szFs, ble11, ad0, ad1, ad2, ad3', a4, a8, l0, l1, l2, l3, l4, l8, h1, b_lss, b_gtr, b_neq, u_not, undef_eq, builtinA, dsFs, show Nat.ble 1 4 = true from rfl, wa, wb, wc, wd, we, wf, wE, w6]; rfl
  repeat apply go_seq
  apply go_cond
  case hc => simp (disch := decide) only [opsLoop, evOper, wantedA, nth, aop, aPick, aBin, aIndexAddr, aFieldAddr, aLoad, aStore, aExtract, aConvert, aAlloc, aBox, aIndex, callA, builtinA, Fr.evs, opt, val, when, AM.run, outV, newA, ptr, force_eq, seen_heap, seen_next, seen_mark, seen_seen, agg_cells, int_cells, Fr.ev, Fr.put, onFr, gps, gpn, bltT, still, flat, List.append_nil, List.nil_append, List.cons_append, Nat.reduceEqDiff, ne_eq, not_false_eq_true, reduceCtorEq, Bool.and_true, Bool.true_and, Bool.and_false, Bool.false_and, Bool.not_true, Bool.not_false, Bool.and_self]; rfl
  case h2 => intro h; cases h
  intro _
  repeat apply go_seq
  apply go_region
  case h => intro m; simp (maxSteps := 2000000) (disch := decide) only [opsLoop, evOper, wantedA, nth, aop, aPick, aBin, aIndexAddr, aFieldAddr, aLoad, aStore, aExtract, aConvert, aAlloc, aBox, aIndex, callA, builtinA, Fr.evs, opt, val, when, AM.run, outV, newA, ptr, force_eq, seen_heap, seen_next, seen_mark, seen_seen, agg_cells, int_cells, Fr.ev, Fr.put, onFr, gps, gpn, bltT, still, flat, List.append_nil, List.nil_append, List.cons_append, Nat.reduceEqDiff, ne_eq, not_false_eq_true, reduceCtorEq, Bool.and_true, Bool.true_and, Bool.and_false, Bool.false_and, Bool.not_true, Bool.not_false, Bool.and_self]; rfl
  apply go_ret
  refine ⟨_, _, _, rfl, rfl, ?_, .inr ⟨rfl, hv, ?_⟩⟩
  · simp (disch := decide) only [gps, gpn, h1]
  · simp (disch := decide) only [gps, gpn]
end Go.Proofs.YtgofanjbhbeniaaDoor.lf
end
end

section
/- Catalogs: whether a catalog may be, as the document has it: told. -/
noncomputable section
namespace Go.Proofs.YtgofanjbhbeniaaDoor.lf
open AE
set_option linter.unusedSimpArgs false
set_option linter.unusedVariables false
set_option maxRecDepth 10000

theorem rc_round (B cap N0 : Nat) (a : Option Addr) (D : CatD) (hN0 : N0 + D.files.length ≤ 900) (k : Nat) (fr : Fr) (s : S) (h : InvRC B cap N0 a D k fr s) : GoC E (sumsOf []) cdRCl fr s (Again (InvRC B cap N0 a D) k (PostRC N0 D)) := by
  obtain ⟨i, t, rfl, hi, rfl, hn, C, hV, h1, h62, h63, h64, hok⟩ := h
  by_cases hlt : i < D.files.length
  · cases a with
    | none =>
      have h0 : fcs D.files = [] := hV
      have := fcs_len D.files
      rw [h0] at this
      have h4 : (0 : Nat) = 4 * D.files.length := this
      omega
    | some ad =>
      obtain ⟨ab, ao, sp⟩ := ad
      obtain ⟨hsp, hcs⟩ := hV
      simp only at hsp hcs
      subst hsp
      exact rc_turn B cap N0 D hN0 ab ao i t s hlt hn C hcs h1 h62 h63 h64 hok
  · obtain rfl : i = D.files.length := by omega
    simp only [cdRCl, cdRC, Tryd.f14, bodyOf, sub]
    have hlt' : ltI (Int.ofNat D.files.length) (Int.ofNat D.files.length) = false := by rw [ltI_eq]; simp
    repeat apply go_seq
    apply go_region
    case h => intro m; simp (maxSteps := 2000000) (disch := decide) only [opsLoop, evOper, wantedA, nth, aop, aPick, aBin, aIndexAddr, aFieldAddr, aLoad, aStore, aExtract, aConvert, aAlloc, aBox, aIndex, callA, builtinA, Fr.evs, opt, val, when, AM.run, outV, newA, ptr, force_eq, seen_heap, seen_next, seen_mark, seen_seen, agg_cells, int_cells, Fr.ev, Fr.put, onFr, gps, gpn, bltT, still, flat, List.append_nil, List.nil_append, List.cons_append, Nat.reduceEqDiff, ne_eq, not_false_eq_true, reduceCtorEq, Bool.and_true, Bool.true_and, Bool.and_false, Bool.false_and, Bool.not_true, Bool.not_false, Bool.and_self, h63, h64, b_lss, hlt']; rfl
    repeat apply go_seq
    apply go_cond
    case hc => simp (disch := decide) only [opsLoop, evOper, wantedA, nth, aop, aPick, aBin, aIndexAddr, aFieldAddr, aLoad, aStore, aExtract, aConvert, aAlloc, aBox, aIndex, callA, builtinA, Fr.evs, opt, val, when, AM.run, outV, newA, ptr, force_eq, seen_heap, seen_next, seen_mark, seen_seen, agg_cells, int_cells, Fr.ev, Fr.put, onFr, gps, gpn, bltT, still, flat, List.append_nil, List.nil_append, List.cons_append, Nat.reduceEqDiff, ne_eq, not_false_eq_true, reduceCtorEq, Bool.and_true, Bool.true_and, Bool.and_false, Bool.false_and, Bool.not_true, Bool.not_false, Bool.and_self]; rfl
    case h1 => intro h; cases h
    intro _
    apply go_exit
    refine ⟨_, rfl, by omega, .inl ⟨rfl, ?_⟩⟩
    rw [hok, List.drop_length]
    rfl
theorem chRC0 : cdRC = .seq (sub [0] cdRC) (.seq (sub [1,0] cdRC) (sub [1,1] cdRC)) := rfl
theorem chRC1 : sub [1,1] cdRC = .seq (.seq (sub [1,1,0,0] cdRC) (.block 0 (.loop cdRCl))) (sub [1,1,1] cdRC) := rfl
set_option maxHeartbeats 2000000 in
theorem rc_gow (q : Free) (hq : 1000 ≤ q.hi) (D : CatD) (hl : D.files.length ≤ 100) (a : Option Addr) (cap : Nat) (sI : S) (hn : sI.next ≤ 1) (hV : Vx sI a (fcs D.files)) :
    GoW Tryd.prog q cdRC ⟨14, Tr.ofList [.agg ⟨D.cells a cap⟩], 133, [], none⟩ sI (Ret E 14 fiRC fun v _ => v = .bool D.right) := by
  rw [chRC0]
  generalize hrest : sub [1,1] cdRC = rest
  generalize hmid : sub [1,0] cdRC = mid
  simp only [cdRC, Tryd.f14, bodyOf, sub]
  have h0 : (Tr.ofList [Value.agg ⟨D.cells a cap⟩]).get 0 = some (.agg ⟨D.cells a cap⟩) := rfl
  generalize Tr.ofList [Value.agg ⟨D.cells a cap⟩] = t at *
  obtain ⟨HI, NI, mkI, rdI, wrI⟩ := sI
  simp only at hn
  have bN : Nat.ble NI lastName = true := small_name (by omega)
  apply gow_seq
  apply gow_of hE hmix tolds_nil
  repeat apply go_seq
  apply go_region
  case h => intro m; simp (maxSteps := 2000000) (disch := decide) only [opsLoop, evOper, wantedA, nth, aop, aPick, aBin, aIndexAddr, aFieldAddr, aLoad, aStore, aExtract, aConvert, aAlloc, aBox, aIndex, callA, builtinA, Fr.evs, opt, val, when, AM.run, outV, newA, ptr, force_eq, seen_heap, seen_next, seen_mark, seen_seen, agg_cells, int_cells, Fr.ev, Fr.put, onFr, gps, gpn, bltT, still, flat, List.append_nil, List.nil_append, List.cons_append, Nat.reduceEqDiff, ne_eq, not_false_eq_true, reduceCtorEq, Bool.and_true, Bool.true_and, Bool.and_false, Bool.false_and, Bool.not_true, Bool.not_false, Bool.and_self, h0, tyC, bN, show Nat.ble (D.cells a cap).length lastName = true from rfl]; rfl
  refine ⟨by show NI + 1 ≤ q.hi; omega, ?_⟩
  show GoW _ _ _ _ _ _
  generalize hs1 : S.mk _ _ _ _ _ = s2
  have e1 : s2.next = NI + 1 := by rw [← hs1]
  have e1h : s2.heap = HI.put NI (some (.cells (Tr.ofList (D.cells a cap)) (D.cells a cap).length 27 .whole)) := by rw [← hs1]
  clear hs1
  have C1 : Cl s2 NI 0 (D.cells a cap) := Cl.new (by omega) (by rw [e1h]; exact hg_same bN _ _) (by show 9 ≤ 1000000; omega)
  have hv2 : Vx s2 a (fcs D.files) := hV.keep (by show NI ≤ _; omega) (fun m hm => by
    have hm' : m < NI := hm
    rw [e1h, hg_far bN (by omega)])
  clear e1h
  obtain ⟨H, N, mk, rd, wr⟩ := s2
  simp only at e1
  apply gow_seq
  rw [← hmid]
  refine gow_of hE hmix tolds_RR ((rc_head D NI cap a H N mk rd wr _ C1 (by simp (disch := decide) only [gps, gpn])).mono ?_)
  rintro x fr s ⟨t2, rd2, wr2, rfl, rfl, k1, ⟨rfl, hD⟩ | ⟨rfl, hD, k2⟩⟩
  · refine ⟨by show N ≤ q.hi; omega, ?_⟩
    show GoW _ _ _ _ _ _
    rw [← hrest, chRC1]
    generalize hloop : Code.loop cdRCl = lp
    simp only [cdRC, Tryd.f14, bodyOf, sub]
    have C2 : Cl ⟨H, N, mk, rd2, wr2⟩ NI 0 (D.cells a cap) := C1.of rfl rfl
    have C3 : ∀ rd wr, Cl ⟨H, N, mk, rd, wr⟩ NI 0 (D.cells a cap) := fun rd wr => C1.of rfl rfl
    have hv3 : ∀ rd wr, Vx ⟨H, N, mk, rd, wr⟩ a (fcs D.files) := fun rd wr => hv2.keep (Nat.le_refl _) (fun m _ => rfl)
    have l8 := C2.ld (k := 8) tiFs (by rw [dsFs]; rfl) rfl
    simp only [Nat.zero_add] at l8
    have ad8 : addA ⟨NI, 0, none⟩ 8 = ⟨NI, 8, none⟩ := rfl
    apply gow_seq
    apply gow_seq
    apply gow_of hE hmix tolds_nil
    repeat apply go_seq
    apply go_region
    case h => intro m; simp (maxSteps := 2000000) (disch := decide) only [opsLoop, evOper, wantedA, nth, aop, aPick, aBin, aIndexAddr, aFieldAddr, aLoad, aStore, aExtract, aConvert, aAlloc, aBox, aIndex, callA, builtinA, Fr.evs, opt, val, when, AM.run, outV, newA, ptr, force_eq, seen_heap, seen_next, seen_mark, seen_seen, agg_cells, int_cells, Fr.ev, Fr.put, onFr, gps, gpn, bltT, still, flat, List.append_nil, List.nil_append, List.cons_append, Nat.reduceEqDiff, ne_eq, not_false_eq_true, reduceCtorEq, Bool.and_true, Bool.true_and, Bool.and_false, Bool.false_and, Bool.not_true, Bool.not_false, Bool.and_self, k1, tyC, dsC, flC5, ftC5, foC5, tyFs, dsFs, szFs, ble11, ad8, l8, builtinA]; rfl
    refine ⟨by show N ≤ q.hi; omega, ?_⟩
    show GoW _ _ _ _ _ _
    apply gow_block
    rw [← hloop]
    apply gow_of hE hmix tolds_nil
    refine (go_loop_inv (body := cdRCl) (InvRC NI cap N a D) (fun k fr s1 hI => rc_round NI cap N a D (by omega) k fr s1 hI) (D.files.length - 0) _ _ ⟨0, _, rfl, by omega, rfl, by show N ≤ N + 0; omega, C3 _ _, hv3 _ _, ?_, ?_, ?_, ?_, rfl⟩).mono ?_
    · simp (disch := decide) only [gps, gpn, k1]
    · simp (disch := decide) only [gps, gpn]
    · simp (disch := decide) only [gps, gpn]
    · simp (disch := decide) only [gps, gpn, int0]
    rintro ex fr s3 ⟨t3, rfl, hn3, ⟨rfl, hok⟩ | ⟨rfl, hok, k2⟩⟩
    · refine ⟨by omega, ?_⟩
      simp only [Out_, if_true]
      show GoW _ _ _ _ _ _
      apply gow_of hE hmix tolds_nil
      repeat apply go_seq
      apply go_region
      case h => intro m; simp (maxSteps := 2000000) (disch := decide) only [opsLoop, evOper, wantedA, nth, aop, aPick, aBin, aIndexAddr, aFieldAddr, aLoad, aStore, aExtract, aConvert, aAlloc, aBox, aIndex, callA, builtinA, Fr.evs, opt, val, when, AM.run, outV, newA, ptr, force_eq, seen_heap, seen_next, seen_mark, seen_seen, agg_cells, int_cells, Fr.ev, Fr.put, onFr, gps, gpn, bltT, still, flat, List.append_nil, List.nil_append, List.cons_append, Nat.reduceEqDiff, ne_eq, not_false_eq_true, reduceCtorEq, Bool.and_true, Bool.true_and, Bool.and_false, Bool.false_and, Bool.not_true, Bool.not_false, Bool.and_self]; rfl
      repeat apply go_seq
      apply go_ret
      refine ⟨by omega, ?_⟩
      apply ret_intro rfl rfl
      case run => simp (disch := decide) only [resultsM, resultsA, resRC, opsLoop, evOper, wantedA, nth, aop, aPick, aBin, aIndexAddr, aFieldAddr, aLoad, aStore, aExtract, aConvert, aAlloc, aBox, aIndex, callA, builtinA, Fr.evs, opt, val, when, AM.run, outV, newA, ptr, force_eq, seen_heap, seen_next, seen_mark, seen_seen, agg_cells, int_cells, Fr.ev, Fr.put, onFr, gps, gpn, bltT, still, flat, List.append_nil, List.nil_append, List.cons_append, Nat.reduceEqDiff, ne_eq, not_false_eq_true, reduceCtorEq, Bool.and_true, Bool.true_and, Bool.and_false, Bool.false_and, Bool.not_true, Bool.not_false, Bool.and_self]; rfl
      rw [hD, hok]
    · refine ⟨by omega, ?_⟩
      simp only [Out_]
      apply ret_intro rfl rfl
      case run => simp (disch := decide) only [resultsM, resultsA, resRC, opsLoop, evOper, wantedA, nth, aop, aPick, aBin, aIndexAddr, aFieldAddr, aLoad, aStore, aExtract, aConvert, aAlloc, aBox, aIndex, callA, builtinA, Fr.evs, opt, val, when, AM.run, outV, newA, ptr, force_eq, seen_heap, seen_next, seen_mark, seen_seen, agg_cells, int_cells, Fr.ev, Fr.put, onFr, gps, gpn, bltT, still, flat, List.append_nil, List.nil_append, List.cons_append, Nat.reduceEqDiff, ne_eq, not_false_eq_true, reduceCtorEq, Bool.and_true, Bool.true_and, Bool.and_false, Bool.false_and, Bool.not_true, Bool.not_false, Bool.and_self, k2]; rfl
      rw [hD, hok]
  · refine ⟨by show N ≤ q.hi; omega, ?_⟩
    apply ret_intro rfl rfl
    case run => simp (disch := decide) only [resultsM, resultsA, resRC, opsLoop, evOper, wantedA, nth, aop, aPick, aBin, aIndexAddr, aFieldAddr, aLoad, aStore, aExtract, aConvert, aAlloc, aBox, aIndex, callA, builtinA, Fr.evs, opt, val, when, AM.run, outV, newA, ptr, force_eq, seen_heap, seen_next, seen_mark, seen_seen, agg_cells, int_cells, Fr.ev, Fr.put, onFr, gps, gpn, bltT, still, flat, List.append_nil, List.nil_append, List.cons_append, Nat.reduceEqDiff, ne_eq, not_false_eq_true, reduceCtorEq, Bool.and_true, Bool.true_and, Bool.and_false, Bool.false_and, Bool.not_true, Bool.not_false, Bool.and_self, k2]; rfl
    rw [hD]

theorem told_rightX : AE.Told Tryd.prog 14 rightXN := by
  refine told_own hE (fi := fiRC) (c := cdRC) (by kernel_rfl) (by kernel_rfl) ?_
  intro args s v s' h hm
  unfold rightXN at h
  split at h
  · rename_i g st su en fo to bu fa a n cap
    obtain ⟨hc, h2⟩ := run_when h
    obtain ⟨L, s1, hL, hvx, hr1, h3⟩ := vx_of_rd h2
    obtain ⟨fs, hfs, h4⟩ := run_opt h3
    have hLf := filesOf_inv L fs hfs
    subst hLf
    rw [fcs_len] at hL
    obtain rfl : n = fs.length := by omega
    cases h4
    have hlen : fs.length ≤ 100 := ble_iff.1 hc
    refine ⟨plain_bool _, rd_less hr1, ?_⟩
    intro q ρ w args' hRep hargs
    cases hargs with
    | cons hv hl =>
    cases hl with
    | nil =>
    rcases cat_anew hRep rfl (by omega) hvx hv with ⟨rfl, h0, hmk⟩ | ⟨x, hx, hin, hmk⟩
    · refine ⟨_, inS [], renOf [], 6000, 133, rfl, rfl, inputs_of [] (Nat.zero_le _) (fun x hx => by cases hx), .cons (hmk _) .nil, Nat.zero_le _, ?_⟩
      exact rc_gow _ (by show 1000 ≤ 6000; omega) ⟨g, st, su, en, fo, to, bu, fa, fs⟩ hlen none cap _ (by show 0 ≤ 1; omega) (by show fcs fs = []; rw [h0]; rfl)
    · refine ⟨_, inS [x], renOf [x], 6000, 133, rfl, rfl, inputs_of [x] (by simp) (fun y hy => by simp only [List.mem_singleton] at hy; subst hy; exact hin), .cons (hmk [x] 0 rfl) .nil, Nat.zero_le _, ?_⟩
      refine rc_gow _ (by show 1000 ≤ 6000; omega) ⟨g, st, su, en, fo, to, bu, fa, fs⟩ hlen (some ⟨0, 0, none⟩) cap _ (by show 1 ≤ 1; omega) ⟨rfl, by show 0 < 1; omega, Tr.ofList (fcs fs), (fcs fs).length, .inr ⟨x.e, ?_⟩, by rw [Nat.zero_add]; exact Nat.le_refl _, row_ofList _ (by rw [fcs_len]; unfold Tr.wide; omega)⟩
      show (trOf [(0, AObj.row (Tr.ofList x.L) x.L.length x.e)]).get 0 = _
      rw [hx]
      show ((Tr.nil).put 0 _).get 0 = _
      exact hg_same rfl _ _
  · cases h
end Go.Proofs.YtgofanjbhbeniaaDoor.lf
end
end

section
/- Catalogs: the document's leaf of a catalog, told: joined. -/
noncomputable section
namespace Go.Proofs.YtgofanjbhbeniaaDoor.lf
open AE
set_option linter.unusedSimpArgs false
set_option linter.unusedVariables false
set_option maxRecDepth 10000

theorem tolds_PC : Tolds Tryd.prog (gated gatesPC (sumsOf [])) := tolds_gatesM tolds_nil (by
  intro p hp
  simp only [List.mem_cons, List.not_mem_nil, or_false] at hp
  subst hp
  exact told_rightX)
theorem q_one {a b : Bool} (h : a = b) : ∀ p ∈ [(a, b)], p.1 = p.2 := qcons h qnil
theorem cat_eta (D : CatD) : D = catL D.gen D.step D.status D.from_ D.to_ D.budget D.fan D.ended (fun i => D.files.getD i ⟨0, 0, 0, 0⟩) D.files.length := by
  unfold catL; rw [fl_of]
theorem pc_run (D : CatD) (hD : D.files.length ≤ 16) (a : Option Addr) (cap : Nat) (s : S) (ha : (a = none ∧ D.files = [] ∧ s = inS []) ∨ (∃ e, a = some ⟨0, 0, none⟩ ∧ s = sRow (fcs D.files) e)) :
    ∃ told s' q, runPC D a cap s told = some (.agg ⟨putD D⟩, s', q) ∧ ∀ p ∈ q, p.1 = p.2 := by
  have hrq := rightQ_eq D
  obtain ⟨g, st, su, en, fo, to, bu, fa, fs⟩ := D
  simp only at hD
  have hc : (⟨g, st, su, en, fo, to, bu, fa, fs⟩ : CatD) = catL g st su fo to bu fa en (fun i => fs.getD i ⟨0, 0, 0, 0⟩) fs.length := cat_eta ⟨g, st, su, en, fo, to, bu, fa, fs⟩
  generalize hD0 : (⟨g, st, su, en, fo, to, bu, fa, fs⟩ : CatD) = D at *
  have hfs : D.files = fs := by rw [← hD0]
  have hen : D.ended = en := by rw [← hD0]
  cases hR : D.right with
  | false =>
    have hput : putD D = zeroL.cells := by unfold putD; rw [hR]
    have hq : (!rightQ D) = true := by rw [hrq, hR]; rfl
    rw [hput]
    rcases ha with ⟨rfl, h0, rfl⟩ | ⟨e, rfl, rfl⟩
    · have h1 : fs.length = 0 := by rw [← hfs, h0]; rfl
      rw [h1] at hc
      obtain ⟨s', hs'⟩ := probPC_inv (pc_noN g st su fo to bu fa en (fun i => fs.getD i ⟨0, 0, 0, 0⟩) cap)
      rw [← hc] at hs'
      exact ⟨_, s', _, hs', q_one hq⟩
    · obtain ⟨s', hs'⟩ := probPC_inv (List.map_inj_left.1 (pc_no g st su fo to bu fa en (fun i => fs.getD i ⟨0, 0, 0, 0⟩) cap e) fs.length (List.mem_range.2 (by omega)))
      rw [← hc, fl_of] at hs'
      rw [hfs]
      exact ⟨_, s', _, hs', q_one hq⟩
  | true =>
    have hput : putD D = putV_ D := by unfold putD; rw [hR]
    have hq : (!rightQ D) = false := by rw [hrq, hR]; rfl
    have hl : fs.length ≤ 14 := by rw [← hfs]; exact right_len hR
    rw [hput]
    rcases ha with ⟨rfl, h0, rfl⟩ | ⟨e, rfl, rfl⟩
    · have h1 : fs.length = 0 := by rw [← hfs, h0]; rfl
      rw [h1] at hc
      cases en with
      | true =>
        obtain ⟨s', hs'⟩ := probPC_inv (pc_yesTN g st su fo to bu fa (fun i => fs.getD i ⟨0, 0, 0, 0⟩) cap)
        rw [← hc] at hs'
        exact ⟨_, s', _, hs', q_one hq⟩
      | false =>
        obtain ⟨s', hs'⟩ := probPC_inv (pc_yesFN g st su fo to bu fa (fun i => fs.getD i ⟨0, 0, 0, 0⟩) cap)
        rw [← hc] at hs'
        exact ⟨_, s', _, hs', q_one hq⟩
    · rw [hfs]
      cases en with
      | true =>
        obtain ⟨s', hs'⟩ := probPC_inv (List.map_inj_left.1 (pc_yesT g st su fo to bu fa (fun i => fs.getD i ⟨0, 0, 0, 0⟩) cap e) fs.length (List.mem_range.2 (by omega)))
        rw [← hc, fl_of] at hs'
        exact ⟨_, s', _, hs', q_one hq⟩
      | false =>
        obtain ⟨s', hs'⟩ := probPC_inv (List.map_inj_left.1 (pc_yesF g st su fo to bu fa (fun i => fs.getD i ⟨0, 0, 0, 0⟩) cap e) fs.length (List.mem_range.2 (by omega)))
        rw [← hc, fl_of] at hs'
        exact ⟨_, s', _, hs', q_one hq⟩
theorem ints_putD (D : CatD) : Ints (putD D) := by
  unfold putD
  cases D.right
  · intro v hv
    unfold zeroL LeafD.cells at hv
    rcases List.mem_append.1 hv with h | h
    · simp only [List.mem_cons, List.not_mem_nil, or_false] at h
      rcases h with rfl | rfl | rfl | rfl | rfl <;> exact ⟨_, _, rfl⟩
    · obtain ⟨x, _, rfl⟩ := List.mem_map.1 h
      exact ⟨_, _, rfl⟩
  · exact ints_put D
theorem told_putX2 : AE.Told Tryd.prog 15 putXA := by
  refine told_own hE (fi := fiPC) (c := cdPC) (by kernel_rfl) (by kernel_rfl) ?_
  intro args s v s' h hm
  unfold putXA at h
  split at h
  · rename_i g st su en fo to bu fa a n cap
    obtain ⟨hc, h2⟩ := run_when h
    obtain ⟨L, s1, hL, hvx, hr1, h3⟩ := vx_of_rd h2
    obtain ⟨fs, hfs, h4⟩ := run_opt h3
    have hLf := filesOf_inv L fs hfs
    subst hLf
    rw [fcs_len] at hL
    obtain rfl : n = fs.length := by omega
    cases h4
    have hlen : fs.length ≤ 16 := ble_iff.1 hc
    refine ⟨plain_agg (ints_putD _).plain, rd_less hr1, ?_⟩
    intro q ρ w args' hRep hargs
    cases hargs with
    | cons hv hl =>
    cases hl with
    | nil =>
    rcases cat_anew hRep rfl (by omega) hvx hv with ⟨rfl, h0, hmk⟩ | ⟨x, hx, hin, hmk⟩
    · refine ⟨_, inS [], renOf [], 9000, 77, rfl, rfl, inputs_of [] (Nat.zero_le _) (fun x hx => by cases hx), .cons (hmk _) .nil, Nat.zero_le _, ?_⟩
      obtain ⟨told, s2, q2, e1, e2⟩ := pc_run ⟨g, st, su, en, fo, to, bu, fa, fs⟩ hlen none cap _ (.inl ⟨rfl, h0, rfl⟩)
      exact gow_own hE hmix tolds_PC e1 e2 (Nat.le_refl 9000) rfl
    · refine ⟨_, inS [x], renOf [x], 9000, 77, rfl, rfl, inputs_of [x] (by simp) (fun y hy => by simp only [List.mem_singleton] at hy; subst hy; exact hin), .cons (hmk [x] 0 rfl) .nil, Nat.zero_le _, ?_⟩
      obtain ⟨told, s2, q2, e1, e2⟩ := pc_run ⟨g, st, su, en, fo, to, bu, fa, fs⟩ hlen (some ⟨0, 0, none⟩) cap (inS [x]) (.inr ⟨x.e, rfl, by
        show (⟨trOf [(0, AObj.row (Tr.ofList x.L) x.L.length x.e)], 1, 0, 0, 0⟩ : S) = _
        rw [hx]; rfl⟩)
      exact gow_own hE hmix tolds_PC e1 e2 (Nat.le_refl 9000) rfl
  · cases h
/-- so does catalog.Put -/
theorem told_putX1 : AE.Told Tryd.prog 7 putXA := by
  refine told_nobump told_putC ?_
  intro args s v s' h
  unfold putXA at h
  split at h
  · rename_i g st su en fo to bu fa a n cap
    obtain ⟨hc, h2⟩ := run_when h
    obtain ⟨L, s1, hL, hvx, hr1, h3⟩ := vx_of_rd h2
    obtain ⟨fs, hfs, h4⟩ := run_opt h3
    have hLf := filesOf_inv L fs hfs
    subst hLf
    rw [fcs_len] at hL
    obtain rfl : n = fs.length := by omega
    cases h4
    have hlen : fs.length ≤ 16 := ble_iff.1 hc
    refine ⟨plain_agg (ints_putD _).plain, rd_less hr1, ?_⟩
    intro q ρ w args' hRep hargs
    have run : ∀ (a2 : Option Addr) (sI : S), sI.next ≤ 1 → Vx sI a2 (fcs fs) → ∃ sE, (putCA [.agg ⟨[.int .i64 g, .int .i64 st, .int .i64 su, .bool en, .int .i64 fo, .int .i64 to, .int .i64 bu, .int .i64 fa, .slice a2 fs.length cap]⟩]).run sI = some (.agg ⟨putD ⟨g, st, su, en, fo, to, bu, fa, fs⟩⟩, sE) := by
      intro a2 sI hn hV
      obtain ⟨s3, e1, hr, _⟩ := rdV_run hV (fun cs => opt (filesOf cs) fun fs' => bump (4 + 2 * fs.length) (.pure (Value.agg ⟨putD ⟨g, st, su, en, fo, to, bu, fa, fs'⟩⟩)))
      rw [fcs_len] at e1
      obtain ⟨s4, f1, _⟩ := bump_ok (4 + 2 * fs.length) (AM.pure (Value.agg ⟨putD ⟨g, st, su, en, fo, to, bu, fa, fs⟩⟩)) s3 (by rw [hr.next]; intro i hi; exact small_name (by omega))
      refine ⟨s4, ?_⟩
      show (when (Nat.ble fs.length 1000000) (rdV a2 (4 * fs.length) fun cs => opt (filesOf cs) fun fs' => bump (4 + 2 * fs.length) (.pure (Value.agg ⟨putD ⟨g, st, su, en, fo, to, bu, fa, fs'⟩⟩)))).run sI = _
      rw [show Nat.ble fs.length 1000000 = true from ble_iff.2 (by omega), show ∀ k : AM Value, when true k = k from fun _ => rfl, e1, filesOf_fcs]
      exact f1
    cases hargs with
    | cons hv hl =>
    cases hl with
    | nil =>
    rcases cat_anew hRep rfl (by omega) hvx hv with ⟨rfl, h0, hmk⟩ | ⟨x, hx, hin, hmk⟩
    · obtain ⟨sE, hE2⟩ := run none (inS []) (by show 0 ≤ 1; omega) (by show fcs fs = []; rw [h0]; rfl)
      exact ⟨_, inS [], sE, renOf [], inputs_of [] (Nat.zero_le _) (fun x hx => by cases hx), .cons (hmk _) .nil, hE2, Nat.zero_le _⟩
    · obtain ⟨sE, hE2⟩ := run (some ⟨0, 0, none⟩) (inS [x]) (by show 1 ≤ 1; omega) ⟨rfl, by show 0 < 1; omega, Tr.ofList (fcs fs), (fcs fs).length, .inr ⟨x.e, by
        show (trOf [(0, AObj.row (Tr.ofList x.L) x.L.length x.e)]).get 0 = _
        rw [hx]
        show ((Tr.nil).put 0 _).get 0 = _
        exact hg_same rfl _ _⟩, by rw [Nat.zero_add]; exact Nat.le_refl _, row_ofList _ (by rw [fcs_len]; unfold Tr.wide; omega)⟩
      exact ⟨_, inS [x], sE, renOf [x], inputs_of [x] (by simp) (fun y hy => by simp only [List.mem_singleton] at hy; subst hy; exact hin), .cons (hmk [x] 0 rfl) .nil, hE2, Nat.zero_le _⟩
  · cases h
end Go.Proofs.YtgofanjbhbeniaaDoor.lf
end
end
