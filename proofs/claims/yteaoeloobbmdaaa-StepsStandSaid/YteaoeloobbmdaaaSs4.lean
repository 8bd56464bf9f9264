/- The steps of a job: the statement's run, at all numbers. -/
import Derived.Test.YteaoeloobbmdaaaSs3
noncomputable section
namespace Go.Proofs.Yteaoeloobbmdaaa.lf
open AE
set_option linter.unusedSimpArgs false
set_option linter.unusedVariables false
set_option maxRecDepth 10000

noncomputable def ps0 : List Code := [sub [0] cdSS, sub [1,0] cdSS]
noncomputable def cdT : Code := sub [1,1,1,1] cdSS
noncomputable def cdR2 : Code := sub [1,1,0] cdSS
noncomputable def cdR3 : Code := sub [1,1,1,0,0] cdSS
noncomputable def cdR34 : Code := sub [0] cdT
noncomputable def cdR35 : Code := sub [1,0] cdT
noncomputable def cdR37 : Code := sub [1,1,0] cdT
theorem chSS : cdSS = chainC ps0 (.seq cdR2 (.seq (.seq cdR3 (.block 0 (.loop cdX))) cdT)) := by kernel_rfl
theorem chT : cdT = .seq cdR34 (.seq cdR35 (.seq cdR37 .ret)) := by kernel_rfl
abbrev sigSS : List (Nat × (List Value → AM Value)) := [(4, withinBA), (9, constA (.bool true))]
theorem tolds_SS : Tolds Try.prog (sumsOf sigSS) := tolds_cons told_withinB (tolds_cons (told_of_calls rfl stepsRuns_any) tolds_nil)
theorem ssW : sumsOf sigSS 4 = some withinBA := rfl
theorem resSS : fiSS.results = [.tmp 4] := rfl

noncomputable def run0 (a0 a1 : Int) : Option (Fr × S) := evPs E (sumsOf []) 100000 ps0 ⟨3, Tr.ofList [.int .i64 a0, .int .i64 a1], 169, [], none⟩ s0
set_option maxRecDepth 100000 in
set_option maxHeartbeats 100000000 in
theorem start_run (a0 a1 : Int) : prob (run0 a0 a1) [0, 1, 5] 1 = some ((3, 169, [], none), [some (.int .i64 a0), some (.int .i64 a1), some (.map (some 0))], (1, 0), some (entsFrom (bsT 0) 0, (bsT 0).length), none) := by kernel_rfl

def fr35 (y : Int) (n : Nat) : Fr := ⟨3, trOf [(5, .map (some 0)), (6, .int .i64 (.ofNat n)), (17, .int .i64 y)], 169, [], none⟩
def s35 (n : Nat) : S := ⟨trOf [(0, .map (entsFrom (bsT n) 0) (bsT n).length)], 14000, 0, 0, 0⟩
noncomputable def run35 (y : Int) (n : Nat) : Option (Fr × S) := evPs E (sumsOf []) 1000 [cdR35] (fr35 y n) (s35 n)
set_option maxRecDepth 100000 in
set_option maxHeartbeats 100000000 in
theorem end_run (y : Int) : (List.range 13).map (fun n => prob (run35 y n) [17] 1) = (List.range 13).map (fun n => some ((3, 169, [], none), [some (.int .i64 y)], (14000, 0), some (entsFrom (bsT n) 0, (bsT n).length), none)) := by kernel_rfl

def fr37 (x : Nat) : Fr := ⟨3, trOf [(17, .int .i64 (.ofNat (13 + x)))], 169, [], none⟩
def s37 : S := ⟨trOf [], 15000, 0, 0, 0⟩
noncomputable def run37 (x : Nat) : Option (Fr × S) := evPs E (sumsOf sigSS) 100000 [cdR37] (fr37 x) s37
def prob37 (r : Option (Fr × S)) : Option ((FuncId × Nat × List Deferred × Option Nat) × Option Value × Bool) := match r with
  | none => none
  | some (fr, s) => some ((fr.fn, fr.n, fr.defers, fr.round), fr.tmps.get 4, Nat.ble s.next 90000)
set_option maxRecDepth 100000 in
set_option maxHeartbeats 100000000 in
theorem out_run : (List.range 100).map (fun x => prob37 (run37 x)) = (List.range 100).map (fun x => some ((3, 169, [], none), some (.bool true), true)) := by kernel_rfl

set_option maxHeartbeats 1000000 in
theorem stand_gow (a0 a1 : Int) : GoW Try.prog qS cdSS ⟨3, Tr.ofList [.int .i64 a0, .int .i64 a1], 169, [], none⟩ s0 (Ret E 3 fiSS fun v _ => v = .bool true) := by
  obtain ⟨t, s, he, hvs, hnx, hmk, hmap, _⟩ := prob_some (start_run a0 a1)
  simp only [List.map_cons, List.map_nil, List.cons.injEq, and_true] at hvs
  obtain ⟨h0, h1, h5⟩ := hvs
  rw [chSS]
  refine gow_pieces hE hmix tolds_nil 100000 ps0 _ _ _ _ he (by show s.next ≤ 100000; omega) (Nat.le_refl _) ?_
  obtain ⟨n, hn, hnl⟩ : ∃ n, wn a0 12 = n ∧ n ≤ 12 := ⟨_, rfl, wn_le a0 12⟩
  obtain ⟨x, hx, hxl⟩ : ∃ x, wn a1 99 = x ∧ x ≤ 99 := ⟨_, rfl, wn_le a1 99⟩
  have r1 := withinBA_run a0 12 (by omega) s
  rw [hn] at r1
  have i12 : (12 : Int) = Int.ofNat 12 := rfl
  have i99 : (99 : Int) = Int.ofNat 99 := rfl
  generalize hT : cdT = T
  generalize hX : cdX = X
  have e2 : cdR2 = sub [1,1,0] cdSS := rfl
  have e3 : cdR3 = sub [1,1,1,0,0] cdSS := rfl
  rw [e2, e3]
  simp only [cdSS, Try.f3, bodyOf, sub]
  apply gow_seq
  apply gow_of hE hmix tolds_SS
  repeat apply go_seq
  apply go_region
  case h => intro m; simp (maxSteps := 2000000) (disch := decide) only [opsLoop, evOper, wantedA, nth, aop, aPick, aBin, aIndexAddr, aFieldAddr, aLoad, aStore, aExtract, aConvert, aAlloc, aBox, aIndex, callA, builtinA, Fr.evs, opt, val, when, AM.run, outV, newA, ptr, force_eq, seen_heap, seen_next, seen_mark, seen_seen, agg_cells, int_cells, Fr.ev, Fr.put, onFr, gps, gpn, bltT, still, flat, List.append_nil, List.nil_append, List.cons_append, Nat.reduceEqDiff, ne_eq, not_false_eq_true, reduceCtorEq, Bool.and_true, Bool.true_and, Bool.and_false, Bool.false_and, Bool.not_true, Bool.not_false, Bool.and_self, h0, int0, i12, tgWB, evT_told ssW, r1]; rfl
  refine ⟨by show s.next ≤ 100000; omega, ?_⟩
  apply gow_seq
  apply gow_seq
  apply gow_of hE hmix tolds_SS
  repeat apply go_seq
  apply go_region
  case h => intro m; simp (maxSteps := 2000000) (disch := decide) only [opsLoop, evOper, wantedA, nth, aop, aPick, aBin, aIndexAddr, aFieldAddr, aLoad, aStore, aExtract, aConvert, aAlloc, aBox, aIndex, callA, builtinA, Fr.evs, opt, val, when, AM.run, outV, newA, ptr, force_eq, seen_heap, seen_next, seen_mark, seen_seen, agg_cells, int_cells, Fr.ev, Fr.put, onFr, gps, gpn, bltT, still, flat, List.append_nil, List.nil_append, List.cons_append, Nat.reduceEqDiff, ne_eq, not_false_eq_true, reduceCtorEq, Bool.and_true, Bool.true_and, Bool.and_false, Bool.false_and, Bool.not_true, Bool.not_false, Bool.and_self, int1]; rfl
  refine ⟨by show s.next ≤ 100000; omega, ?_⟩
  rw [← hX]
  show GoW _ _ _ _ _ _
  apply gow_block
  refine (gow_loop_inv (body := cdX) _ (fun k fr s hI => step_round a1 n hnl k fr s hI) _ _ _ ⟨1, rfl, Nat.le_refl 1, by omega, _, rfl, ⟨?_, ?_, ?_, ?_⟩, by omega, mapAt_eq hmap⟩).mono ?_
  · simp (disch := decide) only [gps, gpn, h1]
  · simp (disch := decide) only [gps, gpn, h5]
  · simp (disch := decide) only [gps, gpn]
  · simp (disch := decide) only [gps, gpn]
  rintro ex fr s2 ⟨rfl, t2, rfl, ⟨m1, m5, m6, m7⟩, hn2, g0⟩
  simp only [Out_, if_true]
  rw [← hT, chT]
  show GoW _ _ _ _ _ _
  have r2 := withinBA_run a1 99 (by omega) s2
  rw [hx] at r2
  have ex1 : (0 : Int) ≤ Int.ofNat x := Int.natCast_nonneg x
  have ex2 : Int.ofNat x ≤ 99 := by show (x : Int) ≤ 99; omega
  have hadd := b_addI 13 (Int.ofNat x) (by omega) (by omega)
  have hsum : (13 : Int) + Int.ofNat x = Int.ofNat (13 + x) := rfl
  rw [hsum] at hadd
  generalize hRest : Code.seq cdR35 (.seq cdR37 .ret) = R
  have e34 : cdR34 = sub [0] (sub [1,1,1,1] cdSS) := rfl
  rw [e34]
  simp only [cdSS, Try.f3, bodyOf, sub]
  apply gow_seq
  apply gow_of hE hmix tolds_SS
  repeat apply go_seq
  apply go_region
  case h => intro m; simp (maxSteps := 2000000) (disch := decide) only [opsLoop, evOper, wantedA, nth, aop, aPick, aBin, aIndexAddr, aFieldAddr, aLoad, aStore, aExtract, aConvert, aAlloc, aBox, aIndex, callA, builtinA, Fr.evs, opt, val, when, AM.run, outV, newA, ptr, force_eq, seen_heap, seen_next, seen_mark, seen_seen, agg_cells, int_cells, Fr.ev, Fr.put, onFr, gps, gpn, bltT, still, flat, List.append_nil, List.nil_append, List.cons_append, Nat.reduceEqDiff, ne_eq, not_false_eq_true, reduceCtorEq, Bool.and_true, Bool.true_and, Bool.and_false, Bool.false_and, Bool.not_true, Bool.not_false, Bool.and_self, m1, int0, i99, tgWB, evT_told ssW, r2, hadd]; rfl
  refine ⟨by show s2.next ≤ 100000; omega, ?_⟩
  rw [← hRest]
  show GoW _ _ _ _ _ _
  -- at the end of the way
  obtain ⟨t3, s3, hr3, hv3, hn3, _, _, _⟩ := prob_some (List.map_inj_left.1 (end_run (Int.ofNat (13 + x))) n (List.mem_range.2 (by omega)))
  refine gow_less (fr2 := fr35 (Int.ofNat (13 + x)) n) (s2 := s35 n) ?_ (s_keep [(0, .map (entsFrom (bsT n) 0) (bsT n).length)] _ _ (by omega) (by simp; unfold Tr.wide; omega) (by
    intro y hy
    simp only [List.mem_singleton] at hy
    subst hy
    exact ⟨_, g0, .refl _⟩)) (Nat.zero_le _) (fr_keep _ (by
    intro y hy
    simp only [List.mem_cons, List.not_mem_nil, or_false] at hy
    rcases hy with rfl | rfl | rfl <;> (unfold Tr.wide; omega)) (by
    intro y hy
    simp only [List.mem_cons, List.not_mem_nil, or_false] at hy
    rcases hy with rfl | rfl | rfl
    · simp (disch := decide) only [gps, gpn, m5]
    · simp (disch := decide) only [gps, gpn, m6]
    · simp (disch := decide) only [gps, gpn]))
  refine gow_pieces (l := [cdR35]) (rest := .seq cdR37 .ret) hE hmix tolds_nil 1000 _ _ _ _ hr3 (by show s3.next ≤ 100000; omega) (Nat.zero_le _) ?_
  simp only [List.map_cons, List.map_nil, List.cons.injEq, and_true] at hv3
  -- of no step there is nothing
  have hout := List.map_inj_left.1 out_run x (List.mem_range.2 (by omega))
  obtain ⟨t4, s4, hr4, h4, hn4⟩ : ∃ t s, run37 x = some (⟨3, t, 169, [], none⟩, s) ∧ t.get 4 = some (.bool true) ∧ s.next ≤ 90000 := by
    unfold prob37 at hout
    split at hout
    · cases hout
    · rename_i fr s h
      obtain ⟨f1, t, n1, d1, r1⟩ := fr
      simp only [Option.some.injEq, Prod.mk.injEq] at hout
      obtain ⟨⟨rfl, rfl, rfl, rfl⟩, h5, h6⟩ := hout
      exact ⟨t, s, h, h5, ble_iff.1 h6⟩
  refine gow_less (fr2 := fr37 x) (s2 := s37) ?_ (s_keep [] _ _ (by omega) (by simp) (by simp)) (Nat.zero_le _) (fr_keep _ (by
    intro y hy
    simp only [List.mem_singleton] at hy
    subst hy
    unfold Tr.wide; omega) (by
    intro y hy
    simp only [List.mem_singleton] at hy
    subst hy
    exact hv3))
  refine gow_pieces (l := [cdR37]) (rest := .ret) hE hmix tolds_SS 100000 _ _ _ _ hr4 (by show s4.next ≤ 100000; omega) (Nat.zero_le _) ?_
  apply gow_of hE hmix tolds_nil
  apply go_ret
  refine ⟨by show s4.next ≤ 100000; omega, ?_⟩
  apply ret_intro rfl rfl
  case run => simp (disch := decide) only [resultsM, resultsA, resSS, opsLoop, evOper, wantedA, nth, aop, aPick, aBin, aIndexAddr, aFieldAddr, aLoad, aStore, aExtract, aConvert, aAlloc, aBox, aIndex, callA, builtinA, Fr.evs, opt, val, when, AM.run, outV, newA, ptr, force_eq, seen_heap, seen_next, seen_mark, seen_seen, agg_cells, int_cells, Fr.ev, Fr.put, onFr, gps, gpn, bltT, still, flat, List.append_nil, List.nil_append, List.cons_append, Nat.reduceEqDiff, ne_eq, not_false_eq_true, reduceCtorEq, Bool.and_true, Bool.true_and, Bool.and_false, Bool.false_and, Bool.not_true, Bool.not_false, Bool.and_self, h4]; rfl
  rfl
theorem stepsStand_any (a0 a1 : Int) (w0 : World) : Calls Try.prog 3 #[.int .i64 a0, .int .i64 a1] w0 fun e w' => e = .returned (.bool true) ∧ Go.RowKit.Below w0.heap.size w0 w' :=
  callsW hP (fi := fiSS) (c := cdSS) (by kernel_rfl) (by kernel_rfl) 100000 169 rfl rfl (stand_gow a0 a1) (.cons (.flat rfl) (.cons (.flat rfl) .nil)) w0
end Go.Proofs.Yteaoeloobbmdaaa.lf
