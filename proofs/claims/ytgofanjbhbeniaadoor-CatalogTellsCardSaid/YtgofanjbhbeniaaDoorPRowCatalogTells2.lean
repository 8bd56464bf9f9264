/- Catalogs: types; numbers within bounds; cards and files that may be. -/
import Derived.Test.YtgofanjbhbeniaaDoorPRowCatalogTells1
import Derived.Test.YtgofanjbhbeniaaDoorAe34
section
/- Catalogs: types; numbers within bounds; cards and files that may be. -/
noncomputable section
namespace Go.Proofs.YtgofanjbhbeniaaDoor.lf
open AE
set_option linter.unusedSimpArgs false
set_option linter.unusedVariables false
set_option maxRecDepth 10000

noncomputable def tiSt8 : TI := TI.of Tryd.prog 22
theorem tySt8 : E.ty.get 22 = some tiSt8 := by kernel_rfl
theorem szSt8 : tiSt8.size = 1 := by kernel_rfl
theorem dsSt8 : tiSt8.desc = .int .i64 := by kernel_rfl
noncomputable def tiK : TI := TI.of Tryd.prog 24
theorem tyK : E.ty.get 24 = some tiK := by kernel_rfl
theorem szK : tiK.size = 4 := by kernel_rfl
theorem zeK : tiK.zero = some (.agg ⟨[.int .i64 0, .int .i64 0, .int .i64 0, .int .i64 0]⟩) := by kernel_rfl
noncomputable def fsK : Array Field := match tiK.desc with | .struct fs => fs | _ => #[]
theorem dsK : tiK.desc = .struct fsK := by kernel_rfl
noncomputable def fdK (i : Nat) : Field := (fieldAt? fsK.toList i).getD default
theorem gdK : tiK.guard = false := by kernel_rfl
theorem flK0 : fieldAt? fsK.toList 0 = some (fdK 0) := by kernel_rfl
theorem ftK0 : (fdK 0).type = 3 := by kernel_rfl
theorem foK0 : (fdK 0).offset = 0 := by kernel_rfl
theorem nmK0 : (fdK 0).name = "From" := by kernel_rfl
theorem flK1 : fieldAt? fsK.toList 1 = some (fdK 1) := by kernel_rfl
theorem ftK1 : (fdK 1).type = 3 := by kernel_rfl
theorem foK1 : (fdK 1).offset = 1 := by kernel_rfl
theorem nmK1 : (fdK 1).name = "To" := by kernel_rfl
theorem flK2 : fieldAt? fsK.toList 2 = some (fdK 2) := by kernel_rfl
theorem ftK2 : (fdK 2).type = 3 := by kernel_rfl
theorem foK2 : (fdK 2).offset = 2 := by kernel_rfl
theorem nmK2 : (fdK 2).name = "Budget" := by kernel_rfl
theorem flK3 : fieldAt? fsK.toList 3 = some (fdK 3) := by kernel_rfl
theorem ftK3 : (fdK 3).type = 3 := by kernel_rfl
theorem foK3 : (fdK 3).offset = 3 := by kernel_rfl
theorem nmK3 : (fdK 3).name = "Fan" := by kernel_rfl
theorem lsK : fsK.toList = [fdK 0, fdK 1, fdK 2, fdK 3] := by kernel_rfl
noncomputable def tiF : TI := TI.of Tryd.prog 41
theorem tyF : E.ty.get 41 = some tiF := by kernel_rfl
theorem szF : tiF.size = 4 := by kernel_rfl
theorem zeF : tiF.zero = some (.agg ⟨[.int .i64 0, .int .i64 0, .int .i64 0, .int .i64 0]⟩) := by kernel_rfl
noncomputable def fsF : Array Field := match tiF.desc with | .struct fs => fs | _ => #[]
theorem dsF : tiF.desc = .struct fsF := by kernel_rfl
noncomputable def fdF (i : Nat) : Field := (fieldAt? fsF.toList i).getD default
theorem gdF : tiF.guard = false := by kernel_rfl
theorem flF0 : fieldAt? fsF.toList 0 = some (fdF 0) := by kernel_rfl
theorem ftF0 : (fdF 0).type = 3 := by kernel_rfl
theorem foF0 : (fdF 0).offset = 0 := by kernel_rfl
theorem nmF0 : (fdF 0).name = "Name" := by kernel_rfl
theorem flF1 : fieldAt? fsF.toList 1 = some (fdF 1) := by kernel_rfl
theorem ftF1 : (fdF 1).type = 3 := by kernel_rfl
theorem foF1 : (fdF 1).offset = 1 := by kernel_rfl
theorem nmF1 : (fdF 1).name = "File" := by kernel_rfl
theorem flF2 : fieldAt? fsF.toList 2 = some (fdF 2) := by kernel_rfl
theorem ftF2 : (fdF 2).type = 3 := by kernel_rfl
theorem foF2 : (fdF 2).offset = 2 := by kernel_rfl
theorem nmF2 : (fdF 2).name = "First" := by kernel_rfl
theorem flF3 : fieldAt? fsF.toList 3 = some (fdF 3) := by kernel_rfl
theorem ftF3 : (fdF 3).type = 3 := by kernel_rfl
theorem foF3 : (fdF 3).offset = 3 := by kernel_rfl
theorem nmF3 : (fdF 3).name = "Blocks" := by kernel_rfl
theorem lsF : fsF.toList = [fdF 0, fdF 1, fdF 2, fdF 3] := by kernel_rfl
noncomputable def tiFs : TI := TI.of Tryd.prog 25
theorem tyFs : E.ty.get 25 = some tiFs := by kernel_rfl
theorem szFs : tiFs.size = 1 := by kernel_rfl
theorem dsFs : tiFs.desc = .slice 41 := by kernel_rfl
noncomputable def tiC : TI := TI.of Tryd.prog 27
theorem tyC : E.ty.get 27 = some tiC := by kernel_rfl
theorem szC : tiC.size = 9 := by kernel_rfl
theorem zeC : tiC.zero = some (.agg ⟨[.int .i64 0, .int .i64 0, .int .i64 0, .bool false, .int .i64 0, .int .i64 0, .int .i64 0, .int .i64 0, .slice none 0 0]⟩) := by kernel_rfl
noncomputable def fsC : Array Field := match tiC.desc with | .struct fs => fs | _ => #[]
theorem dsC : tiC.desc = .struct fsC := by kernel_rfl
noncomputable def fdC (i : Nat) : Field := (fieldAt? fsC.toList i).getD default
theorem flC0 : fieldAt? fsC.toList 0 = some (fdC 0) := by kernel_rfl
theorem ftC0 : (fdC 0).type = 3 := by kernel_rfl
theorem foC0 : (fdC 0).offset = 0 := by kernel_rfl
theorem flC1 : fieldAt? fsC.toList 1 = some (fdC 1) := by kernel_rfl
theorem ftC1 : (fdC 1).type = 3 := by kernel_rfl
theorem foC1 : (fdC 1).offset = 1 := by kernel_rfl
theorem flC2 : fieldAt? fsC.toList 2 = some (fdC 2) := by kernel_rfl
theorem ftC2 : (fdC 2).type = 22 := by kernel_rfl
theorem foC2 : (fdC 2).offset = 2 := by kernel_rfl
theorem flC3 : fieldAt? fsC.toList 3 = some (fdC 3) := by kernel_rfl
theorem ftC3 : (fdC 3).type = 4 := by kernel_rfl
theorem foC3 : (fdC 3).offset = 3 := by kernel_rfl
theorem flC4 : fieldAt? fsC.toList 4 = some (fdC 4) := by kernel_rfl
theorem ftC4 : (fdC 4).type = 24 := by kernel_rfl
theorem foC4 : (fdC 4).offset = 4 := by kernel_rfl
theorem flC5 : fieldAt? fsC.toList 5 = some (fdC 5) := by kernel_rfl
theorem ftC5 : (fdC 5).type = 25 := by kernel_rfl
theorem foC5 : (fdC 5).offset = 8 := by kernel_rfl
/-! within -/
noncomputable def fiCw : FI := FI.of Tryd.f28
noncomputable def cdCw : Code := bodyOf Tryd.f28
theorem resCw : fiCw.results = [.tmp 6] := rfl
theorem told_cwithin : AE.Told Tryd.prog 28 withinA := by
  refine told_go hE hmix tolds_nil ?_
  intro args s v s' h hm
  unfold withinA at h
  split at h
  · rename_i n lo hi
    cases h
    refine go_enter (fi := fiCw) (c := cdCw) (by kernel_rfl) (by kernel_rfl) 15 rfl rfl ?_
    simp only [cdCw, Tryd.f28, bodyOf]
    have h0 : (Tr.ofList [Value.int .i64 n, .int .i64 lo, .int .i64 hi]).get 0 = some (.int .i64 n) := rfl
    have h1 : (Tr.ofList [Value.int .i64 n, .int .i64 lo, .int .i64 hi]).get 1 = some (.int .i64 lo) := rfl
    have h2 : (Tr.ofList [Value.int .i64 n, .int .i64 lo, .int .i64 hi]).get 2 = some (.int .i64 hi) := rfl
    generalize Tr.ofList [Value.int .i64 n, .int .i64 lo, .int .i64 hi] = t at *
    repeat apply go_seq
    apply go_region
    case h => intro m; simp (maxSteps := 2000000) (disch := decide) only [opsLoop, evOper, wantedA, nth, aop, aPick, aBin, aIndexAddr, aFieldAddr, aLoad, aStore, aExtract, aConvert, aAlloc, aBox, aIndex, callA, builtinA, Fr.evs, opt, val, when, AM.run, outV, newA, ptr, force_eq, seen_heap, seen_next, seen_mark, seen_seen, agg_cells, int_cells, Fr.ev, Fr.put, onFr, gps, gpn, bltT, still, flat, List.append_nil, List.nil_append, List.cons_append, Nat.reduceEqDiff, ne_eq, not_false_eq_true, reduceCtorEq, Bool.and_true, Bool.true_and, Bool.and_false, Bool.false_and, Bool.not_true, Bool.not_false, Bool.and_self]; rfl
    cases hlo : ltI n lo
    all_goals
      repeat apply go_seq
      apply go_region
      case h => intro m; simp (maxSteps := 2000000) (disch := decide) only [opsLoop, evOper, wantedA, nth, aop, aPick, aBin, aIndexAddr, aFieldAddr, aLoad, aStore, aExtract, aConvert, aAlloc, aBox, aIndex, callA, builtinA, Fr.evs, opt, val, when, AM.run, outV, newA, ptr, force_eq, seen_heap, seen_next, seen_mark, seen_seen, agg_cells, int_cells, Fr.ev, Fr.put, onFr, gps, gpn, bltT, still, flat, List.append_nil, List.nil_append, List.cons_append, Nat.reduceEqDiff, ne_eq, not_false_eq_true, reduceCtorEq, Bool.and_true, Bool.true_and, Bool.and_false, Bool.false_and, Bool.not_true, Bool.not_false, Bool.and_self, h0, h1, h2, b_geq, b_leq, hlo, Bool.not_false, Bool.not_true]; rfl
      repeat apply go_seq
      apply go_ret
      apply ret_intro rfl rfl
      case run => simp (disch := decide) only [resultsM, resultsA, resCw, opsLoop, evOper, wantedA, nth, aop, aPick, aBin, aIndexAddr, aFieldAddr, aLoad, aStore, aExtract, aConvert, aAlloc, aBox, aIndex, callA, builtinA, Fr.evs, opt, val, when, AM.run, outV, newA, ptr, force_eq, seen_heap, seen_next, seen_mark, seen_seen, agg_cells, int_cells, Fr.ev, Fr.put, onFr, gps, gpn, bltT, still, flat, List.append_nil, List.nil_append, List.cons_append, Nat.reduceEqDiff, ne_eq, not_false_eq_true, reduceCtorEq, Bool.and_true, Bool.true_and, Bool.and_false, Bool.false_and, Bool.not_true, Bool.not_false, Bool.and_self]; rfl
      exact ⟨by simp only [Bool.not_false, Bool.not_true, Bool.true_and, Bool.false_and], Less'.refl _⟩
  · cases h
abbrev sigCw : List (Nat × (List Value → AM Value)) := [(28, withinA)]
theorem tolds_Cw : Tolds Tryd.prog (sumsOf sigCw) := tolds_cons told_cwithin tolds_nil
theorem sgCw : sumsOf sigCw 28 = some withinA := rfl
theorem tgCw : ∀ a b, targetA E (.func 28) a b = .pure (.enter 28 (b ++ a)) := tgt (fi := fiCw) (c := cdCw) (by kernel_rfl) (by kernel_rfl)
theorem within_run (n lo hi : Int) : ∀ s, (withinA [.int .i64 n, .int .i64 lo, .int .i64 hi]).run s = some (.bool (wi n lo hi), s) := fun s => rfl

/-! a card -/
def rightK (a b c d : Int) : Bool := wi a 0 b && (not (ltI 1073741824 b) && (wi c 2 64 && wi d 2 16))
def rightKA : List Value → AM Value
  | [.agg ⟨[.int .i64 a, .int .i64 b, .int .i64 c, .int .i64 d]⟩] => bump 1 (.pure (.bool (rightK a b c d)))
  | _ => .fail
noncomputable def fiK : FI := FI.of Tryd.f11
noncomputable def cdK : Code := bodyOf Tryd.f11
theorem resK : fiK.results = [.tmp 2] := rfl
theorem len4 (a b c d : Value) : Nat.ble ([a, b, c, d] : List Value).length lastName = true := rfl
set_option maxHeartbeats 1000000 in
theorem told_rightK : AE.Told Tryd.prog 11 rightKA := by
  refine told_go hE hmix tolds_Cw ?_
  intro args s v s' h hm
  unfold rightKA at h
  split at h
  · rename_i a b c d
    obtain ⟨s9, h3, hn9, hm9, hh9, hbl⟩ := bump_run 1 _ _ _ h
    cases h3
    have hN0 : Nat.ble s.next lastName = true := hbl 0 (by omega)
    refine go_enter (fi := fiK) (c := cdK) (by kernel_rfl) (by kernel_rfl) 23 rfl rfl ?_
    simp only [cdK, Tryd.f11, bodyOf]
    have h0 : (Tr.ofList [Value.agg ⟨[.int .i64 a, .int .i64 b, .int .i64 c, .int .i64 d]⟩]).get 0 = some (.agg ⟨[.int .i64 a, .int .i64 b, .int .i64 c, .int .i64 d]⟩) := rfl
    generalize Tr.ofList [Value.agg ⟨[.int .i64 a, .int .i64 b, .int .i64 c, .int .i64 d]⟩] = t at *
    repeat apply go_seq
    apply go_region
    case h => intro m; simp (maxSteps := 2000000) (disch := decide) only [opsLoop, evOper, wantedA, nth, aop, aPick, aBin, aIndexAddr, aFieldAddr, aLoad, aStore, aExtract, aConvert, aAlloc, aBox, aIndex, callA, builtinA, Fr.evs, opt, val, when, AM.run, outV, newA, ptr, force_eq, seen_heap, seen_next, seen_mark, seen_seen, agg_cells, int_cells, Fr.ev, Fr.put, onFr, gps, gpn, bltT, still, flat, List.append_nil, List.nil_append, List.cons_append, Nat.reduceEqDiff, ne_eq, not_false_eq_true, reduceCtorEq, Bool.and_true, Bool.true_and, Bool.and_false, Bool.false_and, Bool.not_true, Bool.not_false, Bool.and_self, h0, tyK, hN0, len4]; rfl
    generalize hs1 : S.mk _ _ _ _ _ = s1
    have e1 : s1.next = s.next + 1 := by rw [← hs1]
    have e1h : s1.heap = s.heap.put s.next (some (.cells (Tr.ofList [.int .i64 a, .int .i64 b, .int .i64 c, .int .i64 d]) (List.length [Value.int .i64 a, .int .i64 b, .int .i64 c, .int .i64 d]) 24 .whole)) := by rw [← hs1]
    clear hs1
    have C1 : Cl s1 s.next 0 [.int .i64 a, .int .i64 b, .int .i64 c, .int .i64 d] := Cl.new (by omega) (by rw [e1h]; exact hg_same hN0 _ _) (by simp)
    have hless : ∀ r w, Less' ⟨s1.heap, s1.next, s1.mark, r, w⟩ s' := fun r w => less_new (s := s) (n := 1) (by show s1.next ≤ _; omega) hn9 hh9 (fun m hm2 => by show s1.heap.get m = _; rw [e1h, hg_far hN0 (by omega)])
    obtain ⟨H, N, mk, rd, wr⟩ := s1
    simp only at hless
    have l0 := C1.ld (k := 0) tiI (by rw [dsI]; rfl) rfl
    have l1 := C1.ld (k := 1) tiI (by rw [dsI]; rfl) rfl
    have l2 := C1.ld (k := 2) tiI (by rw [dsI]; rfl) rfl
    have l3 := C1.ld (k := 3) tiI (by rw [dsI]; rfl) rfl
    simp only [Nat.zero_add] at l0 l1 l2 l3
    have k1 := within_run a 0 b
    have k2 := within_run c 2 64
    have k3 := within_run d 2 16
    unfold rightK
    cases hc : ltI 1073741824 b <;> cases h1 : wi a 0 b <;> cases h2 : wi c 2 64 <;> cases h3 : wi d 2 16
    all_goals
      rw [h1] at k1
      rw [h2] at k2
      rw [h3] at k3
      repeat apply go_seq
      apply go_region
      case h => intro m; simp (maxSteps := 2000000) (disch := decide) only [opsLoop, evOper, wantedA, nth, aop, aPick, aBin, aIndexAddr, aFieldAddr, aLoad, aStore, aExtract, aConvert, aAlloc, aBox, aIndex, callA, builtinA, Fr.evs, opt, val, when, AM.run, outV, newA, ptr, force_eq, seen_heap, seen_next, seen_mark, seen_seen, agg_cells, int_cells, Fr.ev, Fr.put, onFr, gps, gpn, bltT, still, flat, List.append_nil, List.nil_append, List.cons_append, Nat.reduceEqDiff, ne_eq, not_false_eq_true, reduceCtorEq, Bool.and_true, Bool.true_and, Bool.and_false, Bool.false_and, Bool.not_true, Bool.not_false, Bool.and_self, tyK, dsK, flK0, flK1, flK2, flK3, ftK0, ftK1, ftK2, ftK3, foK0, foK1, foK2, foK3, tyI, szI, ble11, ad0, ad1, ad2, ad3', l0, l1, l2, l3, tgCw, evT_told sgCw, k1, k2, k3, b_leq, hc]; rfl
      repeat apply go_seq
      apply go_ret
      apply ret_intro rfl rfl
      case run => simp (disch := decide) only [resultsM, resultsA, resK, opsLoop, evOper, wantedA, nth, aop, aPick, aBin, aIndexAddr, aFieldAddr, aLoad, aStore, aExtract, aConvert, aAlloc, aBox, aIndex, callA, builtinA, Fr.evs, opt, val, when, AM.run, outV, newA, ptr, force_eq, seen_heap, seen_next, seen_mark, seen_seen, agg_cells, int_cells, Fr.ev, Fr.put, onFr, gps, gpn, bltT, still, flat, List.append_nil, List.nil_append, List.cons_append, Nat.reduceEqDiff, ne_eq, not_false_eq_true, reduceCtorEq, Bool.and_true, Bool.true_and, Bool.and_false, Bool.false_and, Bool.not_true, Bool.not_false, Bool.and_self]; rfl
      exact ⟨rfl, hless _ _⟩
  · cases h

/-! a file -/
def rightF (a b c d : Int) : Bool := wi a 1 255 && (wi b 1 65535 && (wi d 0 512 && (wi c 0 65535 && (eqI c 0 == eqI d 0))))
def rightFA : List Value → AM Value
  | [.agg ⟨[.int .i64 a, .int .i64 b, .int .i64 c, .int .i64 d]⟩] => bump 1 (.pure (.bool (rightF a b c d)))
  | _ => .fail
noncomputable def fiF : FI := FI.of Tryd.f29
noncomputable def cdF : Code := bodyOf Tryd.f29
theorem resF : fiF.results = [.tmp 2] := rfl
theorem eqVB (b c : Bool) : eqV E 1000 4 (.bool b) (.bool c) = some (b == c) := by
  show eqV E (999 + 1) _ _ _ = _
  simp only [eqV, tyBo, dsBo, eqBool_eq]
theorem eqB_tt (b c : Bool) : binA E .eql 4 (.bool b) (.bool c) = some (.bool (b == c)) := by
  show someB (eqV E 1000 4 (.bool b) (.bool c)) true = _
  rw [eqVB]
  rfl
theorem neB_tt (b c : Bool) : binA E .neq 4 (.bool b) (.bool c) = some (.bool (!(b == c))) := by
  show someB (eqV E 1000 4 (.bool b) (.bool c)) false = _
  rw [eqVB]
  rfl
set_option maxHeartbeats 1000000 in
theorem told_rightF : AE.Told Tryd.prog 29 rightFA := by
  refine told_go hE hmix tolds_Cw ?_
  intro args s v s' h hm
  unfold rightFA at h
  split at h
  · rename_i a b c d
    obtain ⟨s9, h3, hn9, hm9, hh9, hbl⟩ := bump_run 1 _ _ _ h
    cases h3
    have hN0 : Nat.ble s.next lastName = true := hbl 0 (by omega)
    refine go_enter (fi := fiF) (c := cdF) (by kernel_rfl) (by kernel_rfl) 30 rfl rfl ?_
    simp only [cdF, Tryd.f29, bodyOf]
    have h0 : (Tr.ofList [Value.agg ⟨[.int .i64 a, .int .i64 b, .int .i64 c, .int .i64 d]⟩]).get 0 = some (.agg ⟨[.int .i64 a, .int .i64 b, .int .i64 c, .int .i64 d]⟩) := rfl
    generalize Tr.ofList [Value.agg ⟨[.int .i64 a, .int .i64 b, .int .i64 c, .int .i64 d]⟩] = t at *
    repeat apply go_seq
    apply go_region
    case h => intro m; simp (maxSteps := 2000000) (disch := decide) only [opsLoop, evOper, wantedA, nth, aop, aPick, aBin, aIndexAddr, aFieldAddr, aLoad, aStore, aExtract, aConvert, aAlloc, aBox, aIndex, callA, builtinA, Fr.evs, opt, val, when, AM.run, outV, newA, ptr, force_eq, seen_heap, seen_next, seen_mark, seen_seen, agg_cells, int_cells, Fr.ev, Fr.put, onFr, gps, gpn, bltT, still, flat, List.append_nil, List.nil_append, List.cons_append, Nat.reduceEqDiff, ne_eq, not_false_eq_true, reduceCtorEq, Bool.and_true, Bool.true_and, Bool.and_false, Bool.false_and, Bool.not_true, Bool.not_false, Bool.and_self, h0, tyF, hN0, len4]; rfl
    generalize hs1 : S.mk _ _ _ _ _ = s1
    have e1 : s1.next = s.next + 1 := by rw [← hs1]
    have e1h : s1.heap = s.heap.put s.next (some (.cells (Tr.ofList [.int .i64 a, .int .i64 b, .int .i64 c, .int .i64 d]) (List.length [Value.int .i64 a, .int .i64 b, .int .i64 c, .int .i64 d]) 41 .whole)) := by rw [← hs1]
    clear hs1
    have C1 : Cl s1 s.next 0 [.int .i64 a, .int .i64 b, .int .i64 c, .int .i64 d] := Cl.new (by omega) (by rw [e1h]; exact hg_same hN0 _ _) (by simp)
    have hless : ∀ r w, Less' ⟨s1.heap, s1.next, s1.mark, r, w⟩ s' := fun r w => less_new (s := s) (n := 1) (by show s1.next ≤ _; omega) hn9 hh9 (fun m hm2 => by show s1.heap.get m = _; rw [e1h, hg_far hN0 (by omega)])
    obtain ⟨H, N, mk, rd, wr⟩ := s1
    simp only at hless
    have l0 := C1.ld (k := 0) tiI (by rw [dsI]; rfl) rfl
    have l1 := C1.ld (k := 1) tiI (by rw [dsI]; rfl) rfl
    have l2 := C1.ld (k := 2) tiI (by rw [dsI]; rfl) rfl
    have l3 := C1.ld (k := 3) tiI (by rw [dsI]; rfl) rfl
    simp only [Nat.zero_add] at l0 l1 l2 l3
    have k1 := within_run a 1 255
    have k2 := within_run b 1 65535
    have k3 := within_run d 0 512
    have k4 := within_run c 0 65535
    unfold rightF
    cases h1 : wi a 1 255 <;> cases h2 : wi b 1 65535 <;> cases h3 : wi d 0 512 <;> cases h4 : wi c 0 65535
    all_goals
      rw [h1] at k1
      rw [h2] at k2
      rw [h3] at k3
      rw [h4] at k4
      repeat apply go_seq
      apply go_region
      case h => intro m; simp (maxSteps := 2000000) (disch := decide) only [opsLoop, evOper, wantedA, nth, aop, aPick, aBin, aIndexAddr, aFieldAddr, aLoad, aStore, aExtract, aConvert, aAlloc, aBox, aIndex, callA, builtinA, Fr.evs, opt, val, when, AM.run, outV, newA, ptr, force_eq, seen_heap, seen_next, seen_mark, seen_seen, agg_cells, int_cells, Fr.ev, Fr.put, onFr, gps, gpn, bltT, still, flat, List.append_nil, List.nil_append, List.cons_append, Nat.reduceEqDiff, ne_eq, not_false_eq_true, reduceCtorEq, Bool.and_true, Bool.true_and, Bool.and_false, Bool.false_and, Bool.not_true, Bool.not_false, Bool.and_self, tyF, dsF, flF0, flF1, flF2, flF3, ftF0, ftF1, ftF2, ftF3, foF0, foF1, foF2, foF3, tyI, szI, ble11, ad0, ad1, ad2, ad3', l0, l1, l2, l3, tgCw, evT_told sgCw, k1, k2, k3, k4, b_eql, eqB_tt]; rfl
      repeat apply go_seq
      apply go_ret
      apply ret_intro rfl rfl
      case run => simp (disch := decide) only [resultsM, resultsA, resF, opsLoop, evOper, wantedA, nth, aop, aPick, aBin, aIndexAddr, aFieldAddr, aLoad, aStore, aExtract, aConvert, aAlloc, aBox, aIndex, callA, builtinA, Fr.evs, opt, val, when, AM.run, outV, newA, ptr, force_eq, seen_heap, seen_next, seen_mark, seen_seen, agg_cells, int_cells, Fr.ev, Fr.put, onFr, gps, gpn, bltT, still, flat, List.append_nil, List.nil_append, List.cons_append, Nat.reduceEqDiff, ne_eq, not_false_eq_true, reduceCtorEq, Bool.and_true, Bool.true_and, Bool.and_false, Bool.false_and, Bool.not_true, Bool.not_false, Bool.and_self]; rfl
      exact ⟨rfl, hless _ _⟩
  · cases h
end Go.Proofs.YtgofanjbhbeniaaDoor.lf
end
end
