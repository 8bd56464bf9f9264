/- A right catalog comes back, through its block too; two have the same leaf just if they are the same: at all catalogs. -/
import Derived.Test.YtgofanjbhbeniaaDoorMRowCatalogBack11
import Derived.ChangeArms
import Derived.ChangeReads
import Derived.ChangeShapes
import Derived.RowKit
import Derived.Deep.Slices
import Derived.Deep.Fields
import Derived.ChangeSame
import Derived.OpenShut
import Derived.ProofKit
import Derived.Test.YtgofanjbhbeniaaDoorRows
import Derived.Test.YtgofanjbhbeniaaDoorCards
import Derived.Test.YtgofanjbhbeniaaDoorTie
import Derived.WalkKit
import Derived.ShutString
import Derived.ChangeOld
import Derived.Below
import Derived.LaidMore
import Derived.Lay
import Derived.SevenTiedAt
import Derived.Stop.Joined
section
/- Catalogs come back: when one of the two may not be. -/
noncomputable section
namespace Go.Proofs.YtgofanjbhbeniaaDoor.lf
open AE
set_option linter.unusedSimpArgs false
set_option linter.unusedVariables false
set_option maxRecDepth 10000

theorem putD_bad {D : CatD} (h : D.right = false) : putD D = zeroL.cells := by unfold putD; rw [h]
theorem rightF_eq (D : CatD) : rightF_ D = .bool D.right := rfl
theorem eql_zero : binA E .eql 30 (.agg ⟨zeroL.cells⟩) (.agg ⟨zeroL.cells⟩) = some (.bool true) := by
  have := eqlLf zeroL zeroL zero_len zero_len
  rwa [decide_eq_true rfl] at this
theorem chK3 : sub [1,1,1] cdCK = .seq (sub [1,1,1,0] cdCK) (sub [1,1,1,1] cdCK) := rfl
set_option maxHeartbeats 4000000 in
theorem back_bad (A B : CatD) (hA : A.files.length ≤ 16) (hB : B.files.length ≤ 16) (a1 a2 : Option Addr) (c1 c2 : Nat) (t : Tr Value) (s : S) (h : BackAt A B a1 a2 c1 c2 t s) (hbad : A.right = false ∨ B.right = false) :
    GoC E (sumsOf sigCK) (sub [1,1,1] cdCK) ⟨6, t, 90, [], none⟩ s (fun x fr s' => s'.next ≤ 100000 ∧ Ret E 6 fiCK (fun v _ => v = .bool true) x fr s') := by
  obtain ⟨t2, t3, t5, t6, hn, A2, B3, P4, Q5, VA, VB⟩ := h
  rw [chK3]
  generalize hre : sub [1,1,1,1] cdCK = re
  simp only [cdCK, Tryd.f6, bodyOf, sub]
  obtain ⟨H, N, mk, rd, wr⟩ := s
  simp only at hn
  have x2 := A2.ldA (β := ANext) tiC (by rw [dsC]; rfl) (by rw [szC]; rfl)
  have x3 := B3.ldA (β := ANext) tiC (by rw [dsC]; rfl) (by rw [szC]; rfl)
  have x4 := P4.ldA (β := ANext) tiLf (by rw [dsLf]; rfl) (by rw [szLf, putD_len])
  have x5 := Q5.ldA (β := ANext) tiLf (by rw [dsLf]; rfl) (by rw [szLf, putD_len])
  have VA0 : Vx ⟨H, N, 0, 0, 0⟩ a1 (fcs A.files) := VA.keep (Nat.le_refl _) (fun _ _ => rfl)
  have VB0 : Vx ⟨H, N, 0, 0, 0⟩ a2 (fcs B.files) := VB.keep (Nat.le_refl _) (fun _ _ => rfl)
  obtain ⟨ra, pa⟩ : ∃ ra : Nat → Nat, ∀ rd, (lookA rightF_ [.agg ⟨A.cells a1 c1⟩]).run ⟨H, N, mk, rd, wr⟩ = some (.bool A.right, ⟨H, N, mk, ra rd, wr⟩) :=
    ⟨fun rd => Classical.choose (lookA_at (mk := mk) (rd := rd) (wr := wr) (cap := c1) rightF_ A (by omega) VA0), fun rd => Classical.choose_spec (lookA_at (mk := mk) (rd := rd) (wr := wr) (cap := c1) rightF_ A (by omega) VA0)⟩
  obtain ⟨rb, pb⟩ : ∃ rb : Nat → Nat, ∀ rd, (lookA rightF_ [.agg ⟨B.cells a2 c2⟩]).run ⟨H, N, mk, rd, wr⟩ = some (.bool B.right, ⟨H, N, mk, rb rd, wr⟩) :=
    ⟨fun rd => Classical.choose (lookA_at (mk := mk) (rd := rd) (wr := wr) (cap := c2) rightF_ B (by omega) VB0), fun rd => Classical.choose_spec (lookA_at (mk := mk) (rd := rd) (wr := wr) (cap := c2) rightF_ B (by omega) VB0)⟩
  have hzl : Nat.beq zeroL.cells.length 121 = true := by rw [zeroL.len zero_len]; rfl
  have ez := eql_zero
  cases hAr : A.right with
  | false =>
    rw [hAr] at pa
    rw [putD_bad hAr] at x4
    repeat apply go_seq
    apply go_region
    case h => intro m; simp (maxSteps := 2000000) (disch := decide) only [opsLoop, evOper, wantedA, nth, aop, aPick, aBin, aIndexAddr, aFieldAddr, aLoad, aStore, aExtract, aConvert, aAlloc, aBox, aIndex, callA, builtinA, Fr.evs, opt, val, when, AM.run, outV, newA, ptr, force_eq, seen_heap, seen_next, seen_mark, seen_seen, agg_cells, int_cells, Fr.ev, Fr.put, onFr, gps, gpn, bltT, still, flat, List.append_nil, List.nil_append, List.cons_append, Nat.reduceEqDiff, ne_eq, not_false_eq_true, reduceCtorEq, Bool.and_true, Bool.true_and, Bool.and_false, Bool.false_and, Bool.not_true, Bool.not_false, Bool.and_self, undef_eq, t2, tyC, x2, tgRC, evT_told ckR, pa, u_not]; rfl
    repeat apply go_seq
    apply go_cond
    case hc => simp (disch := decide) only [opsLoop, evOper, wantedA, nth, aop, aPick, aBin, aIndexAddr, aFieldAddr, aLoad, aStore, aExtract, aConvert, aAlloc, aBox, aIndex, callA, builtinA, Fr.evs, opt, val, when, AM.run, outV, newA, ptr, force_eq, seen_heap, seen_next, seen_mark, seen_seen, agg_cells, int_cells, Fr.ev, Fr.put, onFr, gps, gpn, bltT, still, flat, List.append_nil, List.nil_append, List.cons_append, Nat.reduceEqDiff, ne_eq, not_false_eq_true, reduceCtorEq, Bool.and_true, Bool.true_and, Bool.and_false, Bool.false_and, Bool.not_true, Bool.not_false, Bool.and_self]; rfl
    case h2 => intro h; cases h
    intro _
    cases hBr : B.right with
    | false =>
      rw [hBr] at pb
      rw [putD_bad hBr] at x5
      repeat apply go_seq
      apply go_region
      case h => intro m; simp (maxSteps := 2000000) (disch := decide) only [opsLoop, evOper, wantedA, nth, aop, aPick, aBin, aIndexAddr, aFieldAddr, aLoad, aStore, aExtract, aConvert, aAlloc, aBox, aIndex, callA, builtinA, Fr.evs, opt, val, when, AM.run, outV, newA, ptr, force_eq, seen_heap, seen_next, seen_mark, seen_seen, agg_cells, int_cells, Fr.ev, Fr.put, onFr, gps, gpn, bltT, still, flat, List.append_nil, List.nil_append, List.cons_append, Nat.reduceEqDiff, ne_eq, not_false_eq_true, reduceCtorEq, Bool.and_true, Bool.true_and, Bool.and_false, Bool.false_and, Bool.not_true, Bool.not_false, Bool.and_self, undef_eq, t2, t3, t5, t6, tyC, x2, x3, tgRC, evT_told ckR, pa, pb, u_not, tyLf, zeLf, dsLf, szLf, hzl, places_eq, fillA, aBuild, evParts, x4, x5, ez, tgCX, evT_told ckX, cxRun]; rfl
      repeat apply go_seq
      apply go_ret
      refine ⟨by show N ≤ _; omega, ?_⟩
      apply ret_intro rfl rfl
      case run => simp (disch := decide) only [resultsM, resultsA, resCK, opsLoop, evOper, wantedA, nth, aop, aPick, aBin, aIndexAddr, aFieldAddr, aLoad, aStore, aExtract, aConvert, aAlloc, aBox, aIndex, callA, builtinA, Fr.evs, opt, val, when, AM.run, outV, newA, ptr, force_eq, seen_heap, seen_next, seen_mark, seen_seen, agg_cells, int_cells, Fr.ev, Fr.put, onFr, gps, gpn, bltT, still, flat, List.append_nil, List.nil_append, List.cons_append, Nat.reduceEqDiff, ne_eq, not_false_eq_true, reduceCtorEq, Bool.and_true, Bool.true_and, Bool.and_false, Bool.false_and, Bool.not_true, Bool.not_false, Bool.and_self]; rfl
      rfl
    | true =>
      rw [hBr] at pb
      repeat apply go_seq
      apply go_region
      case h => intro m; simp (maxSteps := 2000000) (disch := decide) only [opsLoop, evOper, wantedA, nth, aop, aPick, aBin, aIndexAddr, aFieldAddr, aLoad, aStore, aExtract, aConvert, aAlloc, aBox, aIndex, callA, builtinA, Fr.evs, opt, val, when, AM.run, outV, newA, ptr, force_eq, seen_heap, seen_next, seen_mark, seen_seen, agg_cells, int_cells, Fr.ev, Fr.put, onFr, gps, gpn, bltT, still, flat, List.append_nil, List.nil_append, List.cons_append, Nat.reduceEqDiff, ne_eq, not_false_eq_true, reduceCtorEq, Bool.and_true, Bool.true_and, Bool.and_false, Bool.false_and, Bool.not_true, Bool.not_false, Bool.and_self, undef_eq, t2, t3, t5, t6, tyC, x2, x3, tgRC, evT_told ckR, pa, pb, u_not, tyLf, zeLf, dsLf, szLf, hzl, places_eq, fillA, aBuild, evParts, x4, x5, ez, tgCX, evT_told ckX, cxRun]; rfl
      repeat apply go_seq
      apply go_ret
      refine ⟨by show N ≤ _; omega, ?_⟩
      apply ret_intro rfl rfl
      case run => simp (disch := decide) only [resultsM, resultsA, resCK, opsLoop, evOper, wantedA, nth, aop, aPick, aBin, aIndexAddr, aFieldAddr, aLoad, aStore, aExtract, aConvert, aAlloc, aBox, aIndex, callA, builtinA, Fr.evs, opt, val, when, AM.run, outV, newA, ptr, force_eq, seen_heap, seen_next, seen_mark, seen_seen, agg_cells, int_cells, Fr.ev, Fr.put, onFr, gps, gpn, bltT, still, flat, List.append_nil, List.nil_append, List.cons_append, Nat.reduceEqDiff, ne_eq, not_false_eq_true, reduceCtorEq, Bool.and_true, Bool.true_and, Bool.and_false, Bool.false_and, Bool.not_true, Bool.not_false, Bool.and_self]; rfl
      rfl
  | true =>
    have hBr : B.right = false := by
      rcases hbad with h | h
      · rw [hAr] at h; cases h
      · exact h
    rw [hAr] at pa
    rw [hBr] at pb
    rw [putD_bad hBr] at x5
    repeat apply go_seq
    apply go_region
    case h => intro m; simp (maxSteps := 2000000) (disch := decide) only [opsLoop, evOper, wantedA, nth, aop, aPick, aBin, aIndexAddr, aFieldAddr, aLoad, aStore, aExtract, aConvert, aAlloc, aBox, aIndex, callA, builtinA, Fr.evs, opt, val, when, AM.run, outV, newA, ptr, force_eq, seen_heap, seen_next, seen_mark, seen_seen, agg_cells, int_cells, Fr.ev, Fr.put, onFr, gps, gpn, bltT, still, flat, List.append_nil, List.nil_append, List.cons_append, Nat.reduceEqDiff, ne_eq, not_false_eq_true, reduceCtorEq, Bool.and_true, Bool.true_and, Bool.and_false, Bool.false_and, Bool.not_true, Bool.not_false, Bool.and_self, undef_eq, t2, t3, tyC, x2, x3, tgRC, evT_told ckR, pa, pb, u_not]; rfl
    repeat apply go_seq
    apply go_cond
    case hc => simp (disch := decide) only [opsLoop, evOper, wantedA, nth, aop, aPick, aBin, aIndexAddr, aFieldAddr, aLoad, aStore, aExtract, aConvert, aAlloc, aBox, aIndex, callA, builtinA, Fr.evs, opt, val, when, AM.run, outV, newA, ptr, force_eq, seen_heap, seen_next, seen_mark, seen_seen, agg_cells, int_cells, Fr.ev, Fr.put, onFr, gps, gpn, bltT, still, flat, List.append_nil, List.nil_append, List.cons_append, Nat.reduceEqDiff, ne_eq, not_false_eq_true, reduceCtorEq, Bool.and_true, Bool.true_and, Bool.and_false, Bool.false_and, Bool.not_true, Bool.not_false, Bool.and_self]; rfl
    case h2 => intro h; cases h
    intro _
    repeat apply go_seq
    apply go_region
    case h => intro m; simp (maxSteps := 2000000) (disch := decide) only [opsLoop, evOper, wantedA, nth, aop, aPick, aBin, aIndexAddr, aFieldAddr, aLoad, aStore, aExtract, aConvert, aAlloc, aBox, aIndex, callA, builtinA, Fr.evs, opt, val, when, AM.run, outV, newA, ptr, force_eq, seen_heap, seen_next, seen_mark, seen_seen, agg_cells, int_cells, Fr.ev, Fr.put, onFr, gps, gpn, bltT, still, flat, List.append_nil, List.nil_append, List.cons_append, Nat.reduceEqDiff, ne_eq, not_false_eq_true, reduceCtorEq, Bool.and_true, Bool.true_and, Bool.and_false, Bool.false_and, Bool.not_true, Bool.not_false, Bool.and_self, undef_eq, t2, t3, t5, t6, tyC, x2, x3, tgRC, evT_told ckR, pa, pb, u_not, tyLf, zeLf, dsLf, szLf, hzl, places_eq, fillA, aBuild, evParts, x4, x5, ez, tgCX, evT_told ckX, cxRun]; rfl
    repeat apply go_seq
    apply go_ret
    refine ⟨by show N ≤ _; omega, ?_⟩
    apply ret_intro rfl rfl
    case run => simp (disch := decide) only [resultsM, resultsA, resCK, opsLoop, evOper, wantedA, nth, aop, aPick, aBin, aIndexAddr, aFieldAddr, aLoad, aStore, aExtract, aConvert, aAlloc, aBox, aIndex, callA, builtinA, Fr.evs, opt, val, when, AM.run, outV, newA, ptr, force_eq, seen_heap, seen_next, seen_mark, seen_seen, agg_cells, int_cells, Fr.ev, Fr.put, onFr, gps, gpn, bltT, still, flat, List.append_nil, List.nil_append, List.cons_append, Nat.reduceEqDiff, ne_eq, not_false_eq_true, reduceCtorEq, Bool.and_true, Bool.true_and, Bool.and_false, Bool.false_and, Bool.not_true, Bool.not_false, Bool.and_self]; rfl
    rfl
end Go.Proofs.YtgofanjbhbeniaaDoor.lf
end
end

section
/- Catalogs come back: when both may be. -/
noncomputable section
namespace Go.Proofs.YtgofanjbhbeniaaDoor.lf
open AE
set_option linter.unusedSimpArgs false
set_option linter.unusedVariables false
set_option maxRecDepth 10000

theorem getCA_run {s : S} (A : CatD) (hA : A.right = true) (hN : Nat.ble s.next lastName = true) : ∃ adr cap s1, (getCA [.agg ⟨putV_ A⟩]).run s = some (.tuple ⟨[.agg ⟨A.cells adr cap⟩, .bool true]⟩, s1) ∧ Vx s1 adr (fcs A.files) ∧ s.next ≤ s1.next ∧ s1.next ≤ s.next + 1 ∧ ∀ m, m < s.next → s1.heap.get m = s.heap.get m := by
  have hlen := right_len hA
  cases hm : A.files.length with
  | zero =>
    refine ⟨none, 0, s, ?_, ?_, Nat.le_refl _, Nat.le_succ _, fun _ _ => rfl⟩
    · show (opt (decD (putV_ A)) _).run s = _
      rw [decD_put hA]
      show (match A.files.length with
        | 0 => AM.pure (Value.tuple ⟨[.agg ⟨A.cells none 0⟩, .bool true]⟩)
        | m + 1 => AM.new (.cells (Tr.ofList (fcs A.files)) (4 * (m + 1)) 41 .loose) fun r => .pure (.tuple ⟨[.agg ⟨A.cells (some ⟨r, 0, none⟩) (OPEN + (m + 1))⟩, .bool true]⟩)).run s = _
      rw [hm]
      rfl
    · show fcs A.files = []
      rw [List.eq_nil_of_length_eq_zero hm]; rfl
  | succ m =>
    refine ⟨some ⟨s.next, 0, none⟩, OPEN + (m + 1), s.grow (.cells (Tr.ofList (fcs A.files)) (4 * (m + 1)) 41 .loose), ?_, ?_, Nat.le_succ _, Nat.le_refl _, fun k hk => hg_far hN (by omega) _ _⟩
    · show (opt (decD (putV_ A)) _).run s = _
      rw [decD_put hA]
      show (match A.files.length with
        | 0 => AM.pure (Value.tuple ⟨[.agg ⟨A.cells none 0⟩, .bool true]⟩)
        | m + 1 => AM.new (.cells (Tr.ofList (fcs A.files)) (4 * (m + 1)) 41 .loose) fun r => .pure (.tuple ⟨[.agg ⟨A.cells (some ⟨r, 0, none⟩) (OPEN + (m + 1))⟩, .bool true]⟩)).run s = _
      rw [hm]
      simp only [AM.run, force_eq, hN]
      rfl
    · refine ⟨rfl, ⟨Nat.lt_succ_self _, _, _, .inl ⟨_, _, hg_same hN _ _⟩, ?_, row_ofList _ (by rw [fcs_len]; unfold Tr.wide; omega)⟩⟩
      rw [fcs_len, hm, Nat.zero_add]
      exact Nat.le_refl _
theorem catsA_at {H : Tr AObj} {N mk rd wr : Nat} {a a2 : Option Addr} {cap cap2 : Nat} (D D2 : CatD) (hmk : mk ≤ N) (hN : N ≤ 90000) (hl : D.files.length ≤ 1000000) (hl2 : D2.files.length ≤ 1000000) (hv : Vx ⟨H, N, 0, 0, 0⟩ a (fcs D.files)) (hv2 : Vx ⟨H, N, 0, 0, 0⟩ a2 (fcs D2.files)) :
    ∃ H' rd', (catsA [.agg ⟨D.cells a cap⟩, .agg ⟨D2.cells a2 cap2⟩]).run ⟨H, N, mk, rd, wr⟩ = some (.bool (decide (D = D2)), ⟨H', N + 2, mk, rd', wr⟩) ∧ ∀ m, m < N → H'.get m = H.get m := by
  obtain ⟨s1, e1, r1, w1⟩ := rdV_run (s := ⟨H, N, mk, rd, wr⟩) (hv.keep (Nat.le_refl _) (fun _ _ => rfl)) (fun cs => rdV a2 (4 * D2.files.length) fun cs2 => opt (filesOf cs) fun fs => opt (filesOf cs2) fun fs2 => bump 2 (.pure (Value.bool (decide ((⟨D.gen, D.step, D.status, D.ended, D.from_, D.to_, D.budget, D.fan, fs⟩ : CatD) = ⟨D2.gen, D2.step, D2.status, D2.ended, D2.from_, D2.to_, D2.budget, D2.fan, fs2⟩)))))
  rw [fcs_len] at e1
  obtain ⟨s2, e2, r2, w2⟩ := rdV_run (s := s1) (hv2.keep (by rw [r1.next]; exact Nat.le_refl _) (fun _ _ => by rw [r1.heap])) (fun cs2 => opt (filesOf (fcs D.files)) fun fs => opt (filesOf cs2) fun fs2 => bump 2 (.pure (Value.bool (decide ((⟨D.gen, D.step, D.status, D.ended, D.from_, D.to_, D.budget, D.fan, fs⟩ : CatD) = ⟨D2.gen, D2.step, D2.status, D2.ended, D2.from_, D2.to_, D2.budget, D2.fan, fs2⟩)))))
  rw [fcs_len, filesOf_fcs, filesOf_fcs] at e2
  have hr := r1.trans r2
  have k1 : s2.next = N := hr.next
  have k2 : s2.mark = mk := hr.mark
  have k3 : s2.heap = H := hr.heap
  have k4 : s2.wr = wr := by rw [w2, w1]
  obtain ⟨s3, e3, n3, m3, q3, w3, h3⟩ := bump_ok' 2 (AM.pure (Value.bool (decide (D = D2)))) s2 (by omega) (fun i hi => bl9 (by omega))
  obtain ⟨H3, N3, mk3, rd3, wr3⟩ := s3
  simp only at n3 m3 q3 w3 h3
  have a1 : N3 = N + 2 := by omega
  have a2' : mk3 = mk := by omega
  have a3 : wr3 = wr := by omega
  subst a1; subst a2'; subst a3
  refine ⟨H3, rd3, ?_, fun m hm => by rw [h3, if_neg (by omega), k3]⟩
  show (when (Nat.ble D.files.length 1000000 && Nat.ble D2.files.length 1000000) (rdV a (4 * D.files.length) _)).run _ = _
  rw [ble_iff.2 hl, ble_iff.2 hl2, Bool.and_self, show ∀ k : AM Value, when true k = k from fun _ => rfl, e1, filesOf_fcs, e2]
  exact e3
theorem eql_put (A B : CatD) (hA : A.right = true) (hB : B.right = true) : binA E .eql 30 (.agg ⟨putV_ A⟩) (.agg ⟨putV_ B⟩) = some (.bool (decide (A = B))) := by
  have h := eqlLf (leafD A) (leafD B) (leafD_len A (right_len hA)) (leafD_len B (right_len hB))
  rw [leafD_cells, leafD_cells] at h
  rw [h]
  congr 2
  apply decide_eq_decide.2
  constructor
  · intro e
    have := congrArg LeafD.cells e
    rw [leafD_cells, leafD_cells] at this
    exact put_inj hA hB this
  · intro e; rw [e]
theorem putD_good {D : CatD} (h : D.right = true) : putD D = putV_ D := by unfold putD; rw [h]
theorem chK4 : sub [1,1,1] cdCK = .seq (sub [1,1,1,0] cdCK) (.seq (sub [1,1,1,1,0] cdCK) (.seq (sub [1,1,1,1,1,0] cdCK) (sub [1,1,1,1,1,1] cdCK))) := rfl
set_option maxHeartbeats 4000000 in
theorem back_good (q : Free) (hq : 100000 ≤ q.hi) (A B : CatD) (hA : A.right = true) (hB : B.right = true) (a1 a2 : Option Addr) (c1 c2 : Nat) (t : Tr Value) (s : S) (h : BackAt A B a1 a2 c1 c2 t s) :
    GoW Tryd.prog q (sub [1,1,1] cdCK) ⟨6, t, 90, [], none⟩ s (Ret E 6 fiCK fun v _ => v = .bool true) := by
  obtain ⟨t2, t3, t5, t6, hn, A2, B3, P4, Q5, VA, VB⟩ := h
  have hlA := right_len hA
  have hlB := right_len hB
  rw [putD_good hA] at P4
  rw [putD_good hB] at Q5
  have hpA := putV_len A hlA
  have hpB := putV_len B hlB
  rw [chK4]
  generalize hre : sub [1,1,1,1,1,1] cdCK = re
  generalize hr6 : sub [1,1,1,1,1,0] cdCK = r6
  generalize hr5 : sub [1,1,1,1,0] cdCK = r5
  simp only [cdCK, Tryd.f6, bodyOf, sub]
  obtain ⟨H, N, mk, rd, wr⟩ := s
  simp only at hn
  subst hn
  have x2 := A2.ldA (β := ANext) tiC (by rw [dsC]; rfl) (by rw [szC]; rfl)
  have x3 := B3.ldA (β := ANext) tiC (by rw [dsC]; rfl) (by rw [szC]; rfl)
  have x4 := P4.ldA (β := ANext) tiLf (by rw [dsLf]; rfl) (by rw [szLf, hpA])
  have VA0 : Vx ⟨H, 6, 0, 0, 0⟩ a1 (fcs A.files) := VA.keep (Nat.le_refl _) (fun _ _ => rfl)
  have VB0 : Vx ⟨H, 6, 0, 0, 0⟩ a2 (fcs B.files) := VB.keep (Nat.le_refl _) (fun _ _ => rfl)
  obtain ⟨ra, pa⟩ : ∃ ra : Nat → Nat, ∀ rd, (lookA rightF_ [.agg ⟨A.cells a1 c1⟩]).run ⟨H, 6, mk, rd, wr⟩ = some (.bool A.right, ⟨H, 6, mk, ra rd, wr⟩) :=
    ⟨fun rd => Classical.choose (lookA_at (mk := mk) (rd := rd) (wr := wr) (cap := c1) rightF_ A (by omega) VA0), fun rd => Classical.choose_spec (lookA_at (mk := mk) (rd := rd) (wr := wr) (cap := c1) rightF_ A (by omega) VA0)⟩
  obtain ⟨rb, pb⟩ : ∃ rb : Nat → Nat, ∀ rd, (lookA rightF_ [.agg ⟨B.cells a2 c2⟩]).run ⟨H, 6, mk, rd, wr⟩ = some (.bool B.right, ⟨H, 6, mk, rb rd, wr⟩) :=
    ⟨fun rd => Classical.choose (lookA_at (mk := mk) (rd := rd) (wr := wr) (cap := c2) rightF_ B (by omega) VB0), fun rd => Classical.choose_spec (lookA_at (mk := mk) (rd := rd) (wr := wr) (cap := c2) rightF_ B (by omega) VB0)⟩
  rw [hA] at pa
  rw [hB] at pb
  apply gow_seq
  apply gow_of hE hmix tolds_CK
  repeat apply go_seq
  apply go_region
  case h => intro m; simp (maxSteps := 2000000) (disch := decide) only [opsLoop, evOper, wantedA, nth, aop, aPick, aBin, aIndexAddr, aFieldAddr, aLoad, aStore, aExtract, aConvert, aAlloc, aBox, aIndex, callA, builtinA, Fr.evs, opt, val, when, AM.run, outV, newA, ptr, force_eq, seen_heap, seen_next, seen_mark, seen_seen, agg_cells, int_cells, Fr.ev, Fr.put, onFr, gps, gpn, bltT, still, flat, List.append_nil, List.nil_append, List.cons_append, Nat.reduceEqDiff, ne_eq, not_false_eq_true, reduceCtorEq, Bool.and_true, Bool.true_and, Bool.and_false, Bool.false_and, Bool.not_true, Bool.not_false, Bool.and_self, undef_eq, t2, t3, tyC, x2, x3, tgRC, evT_told ckR, pa, pb, u_not]; rfl
  repeat apply go_seq
  apply go_cond
  case hc => simp (disch := decide) only [opsLoop, evOper, wantedA, nth, aop, aPick, aBin, aIndexAddr, aFieldAddr, aLoad, aStore, aExtract, aConvert, aAlloc, aBox, aIndex, callA, builtinA, Fr.evs, opt, val, when, AM.run, outV, newA, ptr, force_eq, seen_heap, seen_next, seen_mark, seen_seen, agg_cells, int_cells, Fr.ev, Fr.put, onFr, gps, gpn, bltT, still, flat, List.append_nil, List.nil_append, List.cons_append, Nat.reduceEqDiff, ne_eq, not_false_eq_true, reduceCtorEq, Bool.and_true, Bool.true_and, Bool.and_false, Bool.false_and, Bool.not_true, Bool.not_false, Bool.and_self]; rfl
  case h1 => intro h; cases h
  intro _
  apply go_skip
  refine ⟨by show 6 ≤ q.hi; omega, ?_⟩
  show GoW _ _ _ _ _ _
  generalize hs1 : S.mk _ _ _ _ _ = s1
  have n1 : s1.next = 6 := by rw [← hs1]
  have h1 : s1.heap = H := by rw [← hs1]
  clear hs1 x2 x3 x4 pa pb
  obtain ⟨H1, N1, mk1, rd1, wr1⟩ := s1
  simp only at n1 h1
  subst n1; subst h1
  have x4 := (P4.of (s1 := ⟨H1, 6, mk1, rd1, wr1⟩) rfl rfl).ldA (β := ANext) tiLf (by rw [dsLf]; rfl) (by rw [szLf, hpA])
  -- through its block
  have hRl := leafD_right A hlA
  have hLl := leafD_len A hlA
  obtain ⟨hgo, hgl⟩ := get_put (leafD A) hLl hRl
  have hsp := say_put (leafD A) hLl hRl
  have hpn : putN (leafD A) = 11 := by unfold putN; rw [if_pos hRl]
  obtain ⟨s2, pr, p2, p4, p5⟩ := putA_run0 (s := (⟨H1, 6, mk1, rd1, wr1⟩ : S).seen 4) hLl (fun i hi => bl9 (by rw [hpn] at hi; show 6 + i ≤ _; omega))
  have hpv : putV (leafD A) ((⟨H1, 6, mk1, rd1, wr1⟩ : S).seen 4).next = .slice (some ⟨15, 0, none⟩) 128 128 := by
    unfold putV
    rw [if_pos hRl]
    rfl
  rw [hpv, leafD_cells] at pr
  have p2 : s2.next = 17 := by rw [p2, hpn]; rfl
  have p5 : s2.heap.get 15 = some (.cells (Tr.ofList ((putL (leafD A)).map bv)) (putL (leafD A)).length 5 .whole) := p5 hRl
  have p4 : ∀ m, m < 6 → s2.heap.get m = H1.get m := fun m hm => p4 m (.inl hm)
  simp only [S.seen] at pr
  have hpl := putL_len (leafD A) hLl
  have B2 := bs_new (show 15 < s2.next by omega) p5 (by omega)
  obtain ⟨s3, gr, q2, q4⟩ := getA_run (cap := 128) B2 hpl (fun i hi => bl9 (by rw [hsp, hpn] at hi; omega))
  rw [hgl, hgo, leafD_cells] at gr
  rw [hsp, hpn] at q2 q4
  have q2 : s3.next = 31 := by rw [q2, p2]
  have k3 : ∀ m, m < 6 → s3.heap.get m = H1.get m := fun m hm => (q4 m (.inl (by omega))).trans (p4 m hm)
  have b31 : Nat.ble 31 lastName = true := rfl
  have b31' : Nat.ble s3.next lastName = true := by rw [q2]; rfl
  have hzb : Nat.ble zeroL.cells.length lastName = true := by rw [zeroL.len zero_len]; rfl
  have hz : zeroL.cells.length = 121 := zeroL.len zero_len
  have hone : allOne (putV_ A) = true := by have := putD_one A; rwa [putD_good hA] at this
  obtain ⟨H3, N3, mk3, rd3, wr3⟩ := s3
  simp only at q2 k3 b31'
  subst q2
  generalize hH4 : H3.put 31 (some (.cells (Tr.ofList zeroL.cells) zeroL.cells.length 30 .whole)) = H4
  have z31 : H4.get 31 = some (.cells (Tr.ofList zeroL.cells) 121 30 .whole) := by rw [← hH4, hg_same b31, hz]
  generalize hZ : wrCells (Tr.ofList zeroL.cells) 0 (putV_ A) = Z
  have st : ∀ rd wr, (storeA ⟨31, 0, none⟩ (putV_ A) (AM.pure (ANext.value undefV))).run ⟨H4, Nat.succ 31, mk3, rd, wr⟩ = some (.value undefV, ⟨H4.put 31 (some (.cells Z 121 30 .whole)), Nat.succ 31, mk3, bit mk3 31 rd, bit mk3 31 wr⟩) := fun rd wr => by
    rw [storeA_run (s := ⟨H4, Nat.succ 31, mk3, rd, wr⟩) _ hone (by show 31 < 32; omega) b31 z31 (by rw [hpA]; omega) (by omega), hZ]
    rfl
  have hpb : Nat.beq (putV_ A).length 121 = true := by rw [hpA]; rfl
  rw [← hr5]
  simp only [cdCK, Tryd.f6, bodyOf, sub]
  apply gow_seq
  apply gow_of hE hmix tolds_CK
  repeat apply go_seq
  apply go_region
  case h => intro m; simp (maxSteps := 2000000) (disch := decide) only [opsLoop, evOper, wantedA, nth, aop, aPick, aBin, aIndexAddr, aFieldAddr, aLoad, aStore, aExtract, aConvert, aAlloc, aBox, aIndex, callA, builtinA, Fr.evs, opt, val, when, AM.run, outV, newA, ptr, force_eq, seen_heap, seen_next, seen_mark, seen_seen, agg_cells, int_cells, Fr.ev, Fr.put, onFr, gps, gpn, bltT, still, flat, List.append_nil, List.nil_append, List.cons_append, Nat.reduceEqDiff, ne_eq, not_false_eq_true, reduceCtorEq, Bool.and_true, Bool.true_and, Bool.and_false, Bool.false_and, Bool.not_true, Bool.not_false, Bool.and_self, t5, tyLf, x4, tgP, evT_told ckLP, pr, tgG, evT_told ckLG, gr, aExtract, dropL, zeLf, hzb, b31, hH4, szLf, hpb, st]; rfl
  refine ⟨by show 32 ≤ q.hi; omega, ?_⟩
  show GoW _ _ _ _ _ _
  generalize hs5 : S.mk _ _ _ _ _ = s5
  have n5 : s5.next = 32 := by rw [← hs5]
  have h5 : s5.heap = H4.put 31 (some (.cells Z 121 30 .whole)) := by rw [← hs5]
  clear hs5
  have o31 : Cl s5 31 0 (putV_ A) := ⟨by omega, Z, 121, .inl ⟨30, .whole, by rw [h5]; exact hg_same b31 _ _⟩, by rw [hpA]; exact Nat.le_refl 121, by rw [← hZ]; exact row_wr (by rw [hpA]; unfold Tr.wide; omega)⟩
  have k5 : ∀ m, m < 6 → s5.heap.get m = H1.get m := fun m hm => by rw [h5, hg_far b31 (by omega), ← hH4, hg_far b31 (by omega)]; exact k3 m hm
  clear h5
  -- read again
  obtain ⟨H5, N5, mk5, rd5, wr5⟩ := s5
  simp only at n5 k5
  subst n5
  have x31 := o31.ldA (β := ANext) tiLf (by rw [dsLf]; rfl) (by rw [szLf, hpA])
  obtain ⟨adr, capr, s6, gc, gV, gn, gn2, gk⟩ := getCA_run (s := (⟨H5, 32, mk5, rd5, wr5⟩ : S).seen 31) A hA rfl
  simp only [S.seen] at gc gn gn2 gk
  have k6 : ∀ m, m < 6 → s6.heap.get m = H1.get m := fun m hm => (gk m (by omega)).trans (k5 m hm)
  have bN6 : Nat.ble s6.next lastName = true := bl9 (by omega)
  obtain ⟨H6, N6, mk6, rd6, wr6⟩ := s6
  simp only at gn gn2 k6 bN6
  have hCo : allOne (A.cells adr capr) = true := by cases adr <;> rfl
  generalize hH7 : H6.put N6 (some (.cells (Tr.ofList zeroC) zeroC.length 27 .whole)) = H7
  have zN : H7.get N6 = some (.cells (Tr.ofList zeroC) 9 27 .whole) := by rw [← hH7]; exact hg_same bN6 _ _
  generalize hY : wrCells (Tr.ofList zeroC) 0 (A.cells adr capr) = Y
  have st6 : ∀ rd wr, (storeA ⟨N6, 0, none⟩ (A.cells adr capr) (AM.pure (ANext.value undefV))).run ⟨H7, Nat.succ N6, mk6, rd, wr⟩ = some (.value undefV, ⟨H7.put N6 (some (.cells Y 9 27 .whole)), Nat.succ N6, mk6, bit mk6 N6 rd, bit mk6 N6 wr⟩) := fun rd wr => by
    rw [storeA_run (s := ⟨H7, Nat.succ N6, mk6, rd, wr⟩) _ hCo (Nat.lt_succ_self _) bN6 zN (by show 0 + 9 ≤ 9; omega) (by omega), hY]
    rfl
  have zeC' : tiC.zero = some (.agg ⟨zeroC⟩) := zeC
  rw [← hr6]
  simp only [cdCK, Tryd.f6, bodyOf, sub]
  apply gow_seq
  apply gow_of hE hmix tolds_CK
  repeat apply go_seq
  apply go_region
  case h => intro m; simp (maxSteps := 2000000) (disch := decide) only [opsLoop, evOper, wantedA, nth, aop, aPick, aBin, aIndexAddr, aFieldAddr, aLoad, aStore, aExtract, aConvert, aAlloc, aBox, aIndex, callA, builtinA, Fr.evs, opt, val, when, AM.run, outV, newA, ptr, force_eq, seen_heap, seen_next, seen_mark, seen_seen, agg_cells, int_cells, Fr.ev, Fr.put, onFr, gps, gpn, bltT, still, flat, List.append_nil, List.nil_append, List.cons_append, Nat.reduceEqDiff, ne_eq, not_false_eq_true, reduceCtorEq, Bool.and_true, Bool.true_and, Bool.and_false, Bool.false_and, Bool.not_true, Bool.not_false, Bool.and_self, tyLf, x31, tgGC, evT_told ckG, gc, aExtract, dropL, tyC, zeC', show Nat.ble zeroC.length lastName = true from rfl, bN6, hH7, szC, show Nat.beq (A.cells adr capr).length 9 = true from rfl, st6]; rfl
  refine ⟨by show N6 + 1 ≤ q.hi; omega, ?_⟩
  show GoW _ _ _ _ _ _
  generalize hs8 : S.mk _ _ _ _ _ = s8
  have n8 : s8.next = N6 + 1 := by rw [← hs8]
  have h8 : s8.heap = H7.put N6 (some (.cells Y 9 27 .whole)) := by rw [← hs8]
  clear hs8
  have oN : Cl s8 N6 0 (A.cells adr capr) := ⟨by omega, Y, 9, .inl ⟨27, .whole, by rw [h8]; exact hg_same bN6 _ _⟩, by show 0 + 9 ≤ 9; omega, by rw [← hY]; exact row_wr (by show 0 + 9 ≤ _; unfold Tr.wide; omega)⟩
  have k8' : ∀ m, m < N6 → s8.heap.get m = H6.get m := fun m hm => by rw [h8, hg_far bN6 (by omega), ← hH7, hg_far bN6 (by omega)]
  have k8 : ∀ m, m < 6 → s8.heap.get m = H1.get m := fun m hm => (k8' m (by omega)).trans (k6 m hm)
  have V8 : Vx s8 adr (fcs A.files) := gV.keep (by show N6 ≤ s8.next; omega) k8'
  clear h8
  obtain ⟨H8, N8, mk8, rd8, wr8⟩ := s8
  simp only at n8 k8
  have K2 : Cl ⟨H8, N8, mk8, rd8, wr8⟩ 2 0 (A.cells a1 c1) := A2.keep (by show 6 ≤ N8; omega) (k8 2 (by omega))
  have K3 : Cl ⟨H8, N8, mk8, rd8, wr8⟩ 3 0 (B.cells a2 c2) := B3.keep (by show 6 ≤ N8; omega) (k8 3 (by omega))
  have K4 : Cl ⟨H8, N8, mk8, rd8, wr8⟩ 4 0 (putV_ A) := P4.keep (by show 6 ≤ N8; omega) (k8 4 (by omega))
  have K5 : Cl ⟨H8, N8, mk8, rd8, wr8⟩ 5 0 (putV_ B) := Q5.keep (by show 6 ≤ N8; omega) (k8 5 (by omega))
  have WA : Vx ⟨H8, N8, mk8, rd8, wr8⟩ a1 (fcs A.files) := VA0.keep (by show 6 ≤ N8; omega) (fun m hm => k8 m hm)
  have WB : Vx ⟨H8, N8, mk8, rd8, wr8⟩ a2 (fcs B.files) := VB0.keep (by show 6 ≤ N8; omega) (fun m hm => k8 m hm)
  -- the same?
  have u9 := (oN.of (s1 := ⟨H8, N8, N8, 0, 0⟩) rfl rfl).ldA (β := ANext) tiC (by rw [dsC]; rfl) (by rw [szC]; rfl)
  have u2 := (K2.of (s1 := ⟨H8, N8, N8, 0, 0⟩) rfl rfl).ldA (β := ANext) tiC (by rw [dsC]; rfl) (by rw [szC]; rfl)
  obtain ⟨H9, r9, ca, kc⟩ := catsA_at (H := H8) (N := N8) (mk := N8) (rd := 0) (wr := 0) (cap := capr) (cap2 := c1) A A (Nat.le_refl _) (by omega) (by omega) (by omega) (V8.keep (Nat.le_refl _) (fun _ _ => rfl)) (WA.keep (Nat.le_refl _) (fun _ _ => rfl))
  rw [decide_eq_true rfl] at ca
  have v2 := (K2.keep (s1 := ⟨H9, N8 + 2, N8 + 2, 0, 0⟩) (by show N8 ≤ N8 + 2; omega) (kc 2 (by omega))).ldA (β := ANext) tiC (by rw [dsC]; rfl) (by rw [szC]; rfl)
  have v3 := (K3.keep (s1 := ⟨H9, N8 + 2, N8 + 2, 0, 0⟩) (by show N8 ≤ N8 + 2; omega) (kc 3 (by omega))).ldA (β := ANext) tiC (by rw [dsC]; rfl) (by rw [szC]; rfl)
  have v4 := (K4.keep (s1 := ⟨H9, N8 + 2, N8 + 2, 0, 0⟩) (by show N8 ≤ N8 + 2; omega) (kc 4 (by omega))).ldA (β := ANext) tiLf (by rw [dsLf]; rfl) (by rw [szLf, hpA])
  have v5 := (K5.keep (s1 := ⟨H9, N8 + 2, N8 + 2, 0, 0⟩) (by show N8 ≤ N8 + 2; omega) (kc 5 (by omega))).ldA (β := ANext) tiLf (by rw [dsLf]; rfl) (by rw [szLf, hpB])
  obtain ⟨H10, r10, cb, kd⟩ := catsA_at (H := H9) (N := N8 + 2) (mk := N8 + 2) (rd := 0) (wr := 0) (cap := c1) (cap2 := c2) A B (Nat.le_refl _) (by omega) (by omega) (by omega)
    (WA.keep (by show N8 ≤ N8 + 2; omega) (fun m hm => kc m hm)) (WB.keep (by show N8 ≤ N8 + 2; omega) (fun m hm => kc m hm))
  have eab := eql_put A B hA hB
  have ebb := eqlBo (decide (A = B)) (decide (A = B))
  rw [decide_eq_true (p := decide (A = B) = decide (A = B)) rfl] at ebb
  rw [← hre]
  simp only [cdCK, Tryd.f6, bodyOf, sub]
  apply gow_of hE hmix tolds_CK
  repeat apply go_seq
  apply go_drawn
  case hs => rfl
  case h => intro m; simp (maxSteps := 2000000) (disch := decide) only [opsLoop, evOper, wantedA, nth, aop, aPick, aBin, aIndexAddr, aFieldAddr, aLoad, aStore, aExtract, aConvert, aAlloc, aBox, aIndex, callA, builtinA, Fr.evs, opt, val, when, AM.run, outV, newA, ptr, force_eq, seen_heap, seen_next, seen_mark, seen_seen, agg_cells, int_cells, Fr.ev, Fr.put, onFr, gps, gpn, bltT, still, flat, List.append_nil, List.nil_append, List.cons_append, Nat.reduceEqDiff, ne_eq, not_false_eq_true, reduceCtorEq, Bool.and_true, Bool.true_and, Bool.and_false, Bool.false_and, Bool.not_true, Bool.not_false, Bool.and_self, drawnLoop, force_eq, S.seen, keep_none, clash_nil, clash_reads, created_self, lor_zero, lor_zero', undef_eq, t2, t3, t5, t6, tyC, u9, u2, tgCs, evT_told ckC, ca, tyLf, v4, v5, eab, v2, v3, cb, ebb, tgCX, evT_told ckX, cxRun, clash_bef, clash_zero]; rfl
  repeat apply go_seq
  apply go_ret
  refine ⟨by show N8 + 2 + 2 ≤ q.hi; omega, ?_⟩
  apply ret_intro rfl rfl
  case run => simp (disch := decide) only [resultsM, resultsA, resCK, opsLoop, evOper, wantedA, nth, aop, aPick, aBin, aIndexAddr, aFieldAddr, aLoad, aStore, aExtract, aConvert, aAlloc, aBox, aIndex, callA, builtinA, Fr.evs, opt, val, when, AM.run, outV, newA, ptr, force_eq, seen_heap, seen_next, seen_mark, seen_seen, agg_cells, int_cells, Fr.ev, Fr.put, onFr, gps, gpn, bltT, still, flat, List.append_nil, List.nil_append, List.cons_append, Nat.reduceEqDiff, ne_eq, not_false_eq_true, reduceCtorEq, Bool.and_true, Bool.true_and, Bool.and_false, Bool.false_and, Bool.not_true, Bool.not_false, Bool.and_self]; rfl
  rfl
end Go.Proofs.YtgofanjbhbeniaaDoor.lf
end
end

section
/- A right catalog comes back, through its block too; two have the same leaf just if they are the same: at all catalogs. -/
noncomputable section
namespace Go.Proofs.YtgofanjbhbeniaaDoor.lf
open AE
set_option linter.unusedSimpArgs false
set_option linter.unusedVariables false
set_option maxRecDepth 10000

theorem open_facts (O c : Nat) : Nat.ble O (O + c) = true ∧ Nat.sub (O + c) O = c ∧ Nat.add O c = O + c :=
  ⟨ble_iff.2 (Nat.le_add_right _ _), Nat.add_sub_cancel_left O c, rfl⟩
/-- a catalog of the world -/
def CatIn (w : World) (D : CatD) (v : Value) : Prop :=
  (D.files = [] ∧ v = .agg ⟨D.cells none 0⟩) ∨
  ∃ b off cap cs e z, v = .agg ⟨D.cells (some ⟨b, off, none⟩) cap⟩ ∧ D.files.length ≤ cap ∧ w.heap[b]? = some (.cells cs e z) ∧ off ≤ cs.size ∧ ∀ i u, (fcs D.files)[i]? = some u → cs[off + i]? = some u
theorem cut_get {D : CatD} {i : Nat} {u : Value} (h : (fcs (cutD D).files)[i]? = some u) : (fcs D.files)[i]? = some u := by
  have e : fcs (cutD D).files = (fcs D.files).take (4 * 16) := fcs_take _ _
  rw [e, List.getElem?_take] at h
  split at h
  · exact h
  · cases h
theorem cut_size (D : CatD) : (fcs (cutD D).files).length ≤ 64 := by
  rw [fcs_len]
  have := cut_len D
  omega
theorem cat_in {w : World} {D : CatD} {v : Value} (h : CatIn w D v) :
    (D.files = [] ∧ ∀ ρ : Ren, VR ρ (.agg ⟨D.cells none 0⟩) v) ∨
    ∃ (x : InRow) (cap : Nat), x.L = fcs (cutD D).files ∧ x.In w ∧ ∀ (l : List InRow) (k : Nat), l[k]? = some x → VR (renOf l) (.agg ⟨D.cells (some ⟨k, 0, none⟩) cap⟩) v ∧ CutOK (some ⟨k, 0, none⟩) D.files.length cap := by
  rcases h with ⟨h0, rfl⟩ | ⟨b, off, cap, cs, e, z, rfl, hcap, hb, hoff, hcell⟩
  · refine .inl ⟨h0, fun ρ => ?_⟩
    have : D.cells none 0 = [.int .i64 D.gen, .int .i64 D.step, .int .i64 D.status, .bool D.ended, .int .i64 D.from_, .int .i64 D.to_, .int .i64 D.budget, .int .i64 D.fan, .slice none 0 0] := by
      unfold CatD.cells; rw [h0]; rfl
    rw [this]
    exact cat_mk (.flat rfl)
  · have hsz := cut_size D
    have hend : off + (fcs (cutD D).files).length ≤ cs.size := by
      rcases Nat.eq_zero_or_pos (fcs (cutD D).files).length with h0 | h0
      · omega
      · obtain ⟨u, hu⟩ : ∃ u, (fcs (cutD D).files)[(fcs (cutD D).files).length - 1]? = some u := ⟨_, List.getElem?_eq_getElem (by omega)⟩
        have := (Array.getElem?_eq_some_iff.1 (hcell _ u (cut_get hu))).1
        omega
    have hin : InRow.In ⟨b, off, 0, fcs (cutD D).files, e⟩ w := ⟨⟨cs, z, hb, hend, fun i u hu => hcell i u (cut_get hu)⟩, (ints_fcs _).plain, by show (fcs (cutD D).files).length ≤ _; unfold Tr.wide; omega⟩
    by_cases hO : cap < OPEN
    · refine .inr ⟨⟨b, off, 0, fcs (cutD D).files, e⟩, cap, rfl, hin, fun l k hk => ⟨?_, .inr ⟨k, rfl, .inl ⟨?_, hcap⟩⟩⟩⟩
      · exact cat_mk (.sliceW ⟨k, 0, b, off, 0, by unfold renOf; rw [hk]; rfl, rfl, rfl⟩ hO)
      · cases hh : Nat.ble OPEN cap with
        | false => rfl
        | true => have := ble_iff.1 hh; omega
    · obtain ⟨f1, f2, f3⟩ := open_facts OPEN cap
      refine .inr ⟨⟨b, off, 0, fcs (cutD D).files, e⟩, OPEN + cap, rfl, hin, fun l k hk => ⟨?_, .inr ⟨k, rfl, .inr ⟨cap, f1, f2, f3, ?_, hcap⟩⟩⟩⟩
      · refine cat_mk ?_
        have := VR.sliceL (ρ := renOf l) (n := k) (off := 0) (b := b) (base := off) (ex := 0) (len := D.files.length) (c := cap) (by unfold renOf; rw [hk]; rfl)
        exact this
      · have : 0 < OPEN := by unfold OPEN; omega
        omega

/-- a statement's own call, in memory of its own -/
theorem calls_own {f : FuncId} {fi : FI} {c : Code} (hf : E.fn.get f = some fi) (hb : fi.body = some c) {args args' : List Value} {sI : S} {ρ2 : Ren} {w : World} (K N : Nat) (hN : Nat.add args.length (Nat.sub fi.ntmps args.length) = N) (hN2 : Nat.ble N lastName = true)
    (hI : Inputs Tryd.prog ρ2 sI w) (ha : LR ρ2 args args') (hm : sI.mark ≤ sI.next) (h : GoW Tryd.prog (ownQ w K) c ⟨f, Tr.ofList args, N, [], none⟩ sI (Ret E f fi fun v _ => v = .bool true)) :
    Calls Tryd.prog f ⟨args'⟩ w fun e w' => e = .returned (.bool true) ∧ Go.RowKit.Below w.heap.size w w' := by
  intro cs
  obtain ⟨v, s2, rfl, ρ', v', w', fr', h1, h2, h3, hbel, h4, h5, h6, h7, h8, h9⟩ := own_run (kind := .normal) hE hf hb K N hN hN2 hI ha hm h cs
  have hv := h3.bool_inv
  subst hv
  exact ⟨.returned (.bool true), w', fr', ⟨rfl, hbel⟩, h4, h5, h6, h7, h8, h9⟩
theorem back_gow (q : Free) (hq : 100000 ≤ q.hi) (D1 D2 : CatD) (a1 a2 : Option Addr) (c1 c2 : Nat) (sI : S) (hn : sI.next ≤ 2) (hV1 : Vx sI a1 (fcs (cutD D1).files)) (hV2 : Vx sI a2 (fcs (cutD D2).files)) (h1 : CutOK a1 D1.files.length c1) (h2 : CutOK a2 D2.files.length c2) :
    GoW Tryd.prog q cdCK ⟨6, Tr.ofList [.agg ⟨D1.cells a1 c1⟩, .agg ⟨D2.cells a2 c2⟩], 90, [], none⟩ sI (Ret E 6 fiCK fun v _ => v = .bool true) := by
  refine back_start q hq D1 D2 a1 a2 c1 c2 sI hn hV1 hV2 h1 h2 _ ?_
  intro t s hB
  by_cases hAr : (cutD D1).right = true
  · by_cases hBr : (cutD D2).right = true
    · exact back_good q hq _ _ hAr hBr a1 a2 c1 c2 t s hB
    · have hBf : (cutD D2).right = false := by cases hh : (cutD D2).right with | false => rfl | true => exact absurd hh hBr
      exact gow_of hE hmix tolds_CK ((back_bad _ _ (cut_len D1) (cut_len D2) a1 a2 c1 c2 t s hB (.inr hBf)).mono fun x fr s h => ⟨by have := h.1; omega, h.2⟩)
  · have hAf : (cutD D1).right = false := by cases hh : (cutD D1).right with | false => rfl | true => exact absurd hh hAr
    exact gow_of hE hmix tolds_CK ((back_bad _ _ (cut_len D1) (cut_len D2) a1 a2 c1 c2 t s hB (.inl hAf)).mono fun x fr s h => ⟨by have := h.1; omega, h.2⟩)
theorem row_vx {l : List InRow} {k : Nat} {x : InRow} {L : List Value} (hk : (inS l).heap.get k = some (.row (Tr.ofList x.L) x.L.length x.e)) (hlt : k < l.length) (hx : x.L = L) (hw : x.L.length ≤ Tr.wide) : Vx (inS l) (some ⟨k, 0, none⟩) L := by
  subst hx
  exact ⟨rfl, ⟨hlt, _, _, .inr ⟨_, hk⟩, by rw [Nat.zero_add]; exact Nat.le_refl _, row_ofList _ hw⟩⟩
theorem in_head (x : InRow) (l : List InRow) : (inS (x :: l)).heap.get 0 = some (.row (Tr.ofList x.L) x.L.length x.e) := by
  show ((trOf (rowsOf l 1)).put 0 (some (AObj.row (Tr.ofList x.L) x.L.length x.e))).get 0 = _
  exact hg_same rfl _ _
theorem catalogBack_any (D1 D2 : CatD) (v1 v2 : Value) (w : World) (h1 : CatIn w D1 v1) (h2 : CatIn w D2 v2) :
    Calls Tryd.prog 6 #[v1, v2] w fun e w' => e = .returned (.bool true) ∧ Go.RowKit.Below w.heap.size w w' := by
  have go : ∀ (l : List InRow) (a1 a2 : Option Addr) (c1 c2 : Nat), l.length ≤ 2 → (∀ x ∈ l, x.In w) → Vx (inS l) a1 (fcs (cutD D1).files) → Vx (inS l) a2 (fcs (cutD D2).files) → CutOK a1 D1.files.length c1 → CutOK a2 D2.files.length c2 →
      VR (renOf l) (.agg ⟨D1.cells a1 c1⟩) v1 → VR (renOf l) (.agg ⟨D2.cells a2 c2⟩) v2 → Calls Tryd.prog 6 ⟨[v1, v2]⟩ w fun e w' => e = .returned (.bool true) ∧ Go.RowKit.Below w.heap.size w w' := by
    intro l a1 a2 c1 c2 hl hin k1 k2 k3 k4 k5 k6
    exact calls_own (fi := fiCK) (c := cdCK) (by kernel_rfl) (by kernel_rfl) 100000 90 rfl rfl (inputs_of l (by omega) hin) (.cons k5 (.cons k6 .nil)) (Nat.zero_le _) (back_gow _ (Nat.le_refl _) D1 D2 a1 a2 c1 c2 (inS l) hl k1 k2 k3 k4)
  have nilV : ∀ (l : List InRow) (D : CatD), D.files = [] → Vx (inS l) none (fcs (cutD D).files) := fun l D h => by show fcs (D.files.take 16) = []; rw [h]; rfl
  have nilC : ∀ D : CatD, D.files = [] → CutOK none D.files.length 0 := fun D h => .inl ⟨rfl, by rw [h]; rfl, rfl⟩
  rcases cat_in h1 with ⟨z1, m1⟩ | ⟨x, cx, ex, ix, mx⟩
  · rcases cat_in h2 with ⟨z2, m2⟩ | ⟨y, cy, ey, iy, my⟩
    · exact go [] none none 0 0 (Nat.zero_le _) (fun x hx => by cases hx) (nilV _ _ z1) (nilV _ _ z2) (nilC _ z1) (nilC _ z2) (m1 _) (m2 _)
    · obtain ⟨my1, my2⟩ := my [y] 0 rfl
      exact go [y] none (some ⟨0, 0, none⟩) 0 cy (by simp) (fun u hu => by simp only [List.mem_singleton] at hu; subst hu; exact iy) (nilV _ _ z1) (row_vx (x := y) (in_head y []) Nat.zero_lt_one ey iy.len) (nilC _ z1) my2 (m1 _) my1
  · rcases cat_in h2 with ⟨z2, m2⟩ | ⟨y, cy, ey, iy, my⟩
    · obtain ⟨mx1, mx2⟩ := mx [x] 0 rfl
      exact go [x] (some ⟨0, 0, none⟩) none cx 0 (by simp) (fun u hu => by simp only [List.mem_singleton] at hu; subst hu; exact ix) (row_vx (x := x) (in_head x []) Nat.zero_lt_one ex ix.len) (nilV _ _ z2) mx2 (nilC _ z2) mx1 (m2 _)
    · obtain ⟨mx1, mx2⟩ := mx [x, y] 0 rfl
      obtain ⟨my1, my2⟩ := my [x, y] 1 rfl
      refine go [x, y] (some ⟨0, 0, none⟩) (some ⟨1, 0, none⟩) cx cy (by simp) (fun u hu => by
        simp only [List.mem_cons, List.not_mem_nil, or_false] at hu
        rcases hu with rfl | rfl
        · exact ix
        · exact iy) (row_vx (x := x) (in_head x [y]) (by show 0 < 2; omega) ex ix.len) (row_vx (x := y) ?_ (by show 1 < 2; omega) ey iy.len) mx2 my2 mx1 my1
      show ((trOf [(1, AObj.row (Tr.ofList y.L) y.L.length y.e)]).put 0 (some (AObj.row (Tr.ofList x.L) x.L.length x.e))).get 1 = _
      rw [hg_far (show Nat.ble 0 lastName = true from rfl) (by omega)]
      show ((Tr.nil).put 1 (some (AObj.row (Tr.ofList y.L) y.L.length y.e))).get 1 = _
      exact hg_same (show Nat.ble 1 lastName = true from rfl) _ _
end Go.Proofs.YtgofanjbhbeniaaDoor.lf
end
end

section
/- A catalog that is handed in, opened: its numbers and its files. -/
noncomputable section
namespace Go.Proofs.YtgofanjbhbeniaaDoor.lf
open AE
open Go.RowKit Go.ChangeShapes Go.WideShapes Go.Deep
set_option linter.unusedSimpArgs false
set_option linter.unusedVariables false
set_option maxRecDepth 10000

section
variable {H : Type} {enc : TypeId × Value → H} {P : Program} {w : World} {base : Nat} {spare : Nat → Bool} {held : Bool}
theorem open_slice_fields {t e : TypeId} {fs : Array Field} {fuel : Nat} {cs : List Value} {x : DataW H × List MemPlace} (ht : P.underlying t = some (.slice e)) (he : P.underlying e = some (.struct fs))
    (hone : oneCellFields P fs = true) (hC : P.cellsOf e = fs.size) (h : DataW.trod enc P w base spare held fuel t cs = some x) :
    (cs = [.slice none 0 0] ∧ x = (.nil, [])) ∨
    ∃ (a : Addr) (len cap : Nat), cs = [.slice (some a) len cap] ∧ base ≤ a.block ∧ len ≤ cap ∧ cap ≤ maxLen ∧
      ∀ i, i < len → ∃ (ys : List (DataW H × List MemPlace)) (n : Nat), ys.length = fs.size ∧
        ∀ (j : Nat) (f : Field), fs[j]? = some f → ∃ (v : Value) (y : DataW H × List MemPlace), w.cell? (a.add (i * fs.size + j)) = some v ∧ ys[j]? = some y ∧ DataW.trod enc P w base spare held n f.type [v] = some y := by
  rcases open_slice ht h with h0 | ⟨a, len, cap, m, n, D, Pl, hcs, hb, hl, hm, hmm, hx, hi⟩
  · exact .inl h0
  · have hlm : len ≤ m := by rw [hmm]; split <;> omega
    refine .inr ⟨a, len, cap, hcs, hb, hl, hm, fun i hil => ?_⟩
    obtain ⟨cs', hc, ht'⟩ := hi i (by omega)
    rw [hC] at hc
    obtain ⟨ys, n', hn', hy, hlen, hyl, hf⟩ := DataW.trod_struct he ht'
    obtain ⟨_, hcl, hat⟩ := World.cells?_some hc
    refine ⟨ys, n', hyl, fun j f hj => ?_⟩
    obtain ⟨ho, hk⟩ := hone_of hone j f hj
    have hjl : j < fs.size := (Array.getElem?_eq_some_iff.1 hj).1
    have hcell := hat j hjl
    have hv : cs'[j]? = some (cs'[j]'(by omega)) := List.getElem?_eq_getElem (by omega)
    have h1 := hf j f hj
    rw [ho, hk] at h1
    have hone' : (cs'.drop j).take 1 = [cs'[j]'(by omega)] := by
      rw [List.drop_eq_getElem_cons (by omega)]
      rfl
    rw [hone'] at h1
    have hys : ys[j]? = some (ys[j]'(by omega)) := List.getElem?_eq_getElem (by omega)
    refine ⟨_, _, ?_, hys, h1.trans hys⟩
    rw [← Go.Deep.add_add, hcell, hv]
theorem rowAt_off (fits : TypeId → Bool) : ∀ (d : Nat) (e : TypeId) (cells off n : Nat), rowAt P fits d e (cells / P.cellsOf e) off n = true → off ≤ cells
  | 0, e, cells, off, n, h => by simp [rowAt] at h
  | d + 1, e, cells, off, n, h => by
    simp only [rowAt] at h
    split at h
    · cases h
    · rename_i hs
      have hpos : 0 < P.cellsOf e := Nat.pos_of_ne_zero hs
      have hdm := Nat.div_add_mod off (P.cellsOf e)
      have hcm := Nat.div_mul_le_self cells (P.cellsOf e)
      simp only [Bool.or_eq_true, Bool.and_eq_true, beq_iff_eq, decide_eq_true_eq] at h
      rcases h with ⟨⟨h1, h2⟩, _⟩ | ⟨h1, _⟩
      · have : P.cellsOf e * (off / P.cellsOf e) ≤ cells := by
          have := Nat.mul_le_mul_right (P.cellsOf e) (show off / P.cellsOf e ≤ cells / P.cellsOf e by omega)
          rw [Nat.mul_comm] at this
          omega
        omega
      · have hlt := Nat.mod_lt off hpos
        have h3 : (off / P.cellsOf e + 1) * P.cellsOf e ≤ cells / P.cellsOf e * P.cellsOf e := Nat.mul_le_mul_right _ h1
        rw [Nat.add_mul, Nat.one_mul, Nat.mul_comm (off / P.cellsOf e)] at h3
        omega
theorem liesAt_off : ∀ (d : Nat) (e : TypeId) (cells off : Nat) (u : TypeId) (n : Nat), liesAt P d e (cells / P.cellsOf e) off u n = true → off ≤ cells
  | 0, e, cells, off, u, n, h => by simp [liesAt] at h
  | d + 1, e, cells, off, u, n, h => by
    simp only [liesAt, Bool.or_eq_true] at h
    rcases h with h | h
    · exact rowAt_off _ _ _ _ _ _ h
    · split at h
      · exact liesAt_off d e cells off _ _ h
      · cases h
theorem has_block {r : Reach} {b0 : Nat} {a : Addr} {e : TypeId} {n : Nat} (h : w.has P r b0 a e n) : a.spot = none ∧ ∃ cs el z, w.heap[a.block]? = some (.cells cs el z) ∧ a.off ≤ cs.size := by
  obtain ⟨_, h1, row, cells, h2, h3⟩ := h
  refine ⟨h1, ?_⟩
  unfold World.shape? at h2
  split at h2
  · rename_i c el z hb
    simp only [Option.some.injEq, Prod.mk.injEq] at h2
    obtain ⟨rfl, rfl⟩ := h2
    exact ⟨c, el, z, hb, liesAt_off _ _ _ _ _ _ h3⟩
  · cases h2
end
theorem undC : Tryd.prog.underlying 27 = some (.struct fsC) := by kernel_rfl
theorem undFs : Tryd.prog.underlying 25 = some (.slice 41) := by kernel_rfl
theorem undF : Tryd.prog.underlying 41 = some (.struct fsF) := by kernel_rfl
theorem undSt : Tryd.prog.underlying 22 = some (.int .i64) := by kernel_rfl
theorem undBo : Tryd.prog.underlying 4 = some .bool := by kernel_rfl
theorem undI' : Tryd.prog.underlying 3 = some (.int .i64) := by kernel_rfl
theorem celC : Tryd.prog.cellsOf 27 = 9 := by kernel_rfl
theorem ctC : Tryd.prog.cellTypes Tryd.prog.depth 27 = some [3, 3, 22, 4, 3, 3, 3, 3, 25] := by kernel_rfl
theorem oneF : oneCellFields Tryd.prog fsF = true := by kernel_rfl
theorem celF : Tryd.prog.cellsOf 41 = fsF.size := by kernel_rfl
theorem fszF : fsF.size = 4 := by kernel_rfl
theorem ftyF : ∀ j, j < 4 → (fsF[j]?).map (·.type) = some 3
  | 0, _ => by kernel_rfl
  | 1, _ => by kernel_rfl
  | 2, _ => by kernel_rfl
  | 3, _ => by kernel_rfl
  | j + 4, h => by omega
theorem fC5 : ∃ f, fsC.toList[5]? = some f ∧ f.type = 25 ∧ f.offset = 8 := ⟨fdC 5, by kernel_rfl, by kernel_rfl, by kernel_rfl⟩
theorem celFs : Tryd.prog.cellsOf 25 = 1 := by kernel_rfl
theorem mapM_at {α β : Type} {f : α → Option β} : ∀ (l : List α) (xs : List β), l.mapM f = some xs → ∀ a ∈ l, ∃ y, f a = some y
  | [], xs, _, a, ha => by simp at ha
  | b :: l, xs, h, a, ha => by
    rw [List.mapM_cons] at h
    simp only [bind, Option.bind_eq_some_iff, pure, Option.some.injEq] at h
    obtain ⟨y, hy, ys, hys, _⟩ := h
    rcases List.mem_cons.1 ha with rfl | ha
    · exact ⟨y, hy⟩
    · exact mapM_at l ys hys a ha
section
variable {H : Type} {enc : TypeId × Value → H} {w : World} {base : Nat} {sp : Nat → Bool} {held : Bool}
theorem cell_int {r : Reach} {b0 : Nat} {t : TypeId} {v : Value} (ht : Tryd.prog.underlying t = some (.int .i64)) (h : Cell.okWide Tryd.prog w r b0 t v) : ∃ n, v = .int .i64 n := by
  simp only [Cell.okWide, ht] at h
  cases v <;> simp_all [Cell.ok]
theorem cell_bool {r : Reach} {b0 : Nat} {v : Value} (h : Cell.okWide Tryd.prog w r b0 4 v) : ∃ b, v = .bool b := by
  simp only [Cell.okWide, undBo] at h
  cases v <;> simp_all [Cell.ok]
theorem cell_slice {r : Reach} {b0 : Nat} {v : Value} (h : Cell.okWide Tryd.prog w r b0 25 v) : v = .slice none 0 0 ∨ ∃ a n cap, v = .slice (some a) n cap ∧ n ≤ cap ∧ w.has Tryd.prog r b0 a 41 cap := by
  simp only [Cell.okWide, undFs] at h
  cases v with
  | slice a n cap =>
    cases a with
    | none =>
      left
      simp only [Cell.ok, undFs] at h
      split at h <;> simp_all
    | some a =>
      right
      simp only [Cell.ok, undFs] at h
      exact ⟨a, n, cap, rfl, h.1, h.2.2⟩
  | _ => simp_all [Cell.ok]
/-- the number in a cell -/
def intAt (w : World) (a : Addr) (k : Nat) : Int := match w.cell? (a.add k) with
  | some (.int _ n) => n
  | _ => 0
def fileIn (w : World) (a : Addr) (i : Nat) : FileD := ⟨intAt w a (4 * i), intAt w a (4 * i + 1), intAt w a (4 * i + 2), intAt w a (4 * i + 3)⟩
theorem fcs_range (w : World) (a : Addr) : ∀ n, fcs ((List.range n).map (fileIn w a)) = (List.range (4 * n)).map fun k => Value.int .i64 (intAt w a k)
  | 0 => rfl
  | n + 1 => by
    have happ : ∀ (l l' : List FileD), fcs (l ++ l') = fcs l ++ fcs l' := by
      intro l l'
      induction l with
      | nil => rfl
      | cons f l ih => simp only [List.cons_append, fcs, ih]
    rw [List.range_succ, List.map_append, happ, fcs_range w a n, show 4 * (n + 1) = 4 * n + 1 + 1 + 1 + 1 by omega]
    simp only [List.range_succ, List.map_append, List.map_cons, List.map_nil, List.append_assoc]
    rfl
theorem open_cat {r : Reach} {b0 : Nat} {v : Value} {d : DataW H} {ps : List MemPlace} (hval : Value.okWide Tryd.prog w r b0 27 v) (hd : DataW.Trod enc Tryd.prog w base sp held 27 v d ps) : ∃ D, CatIn w D v := by
  simp only [Value.okWide, undC] at hval
  obtain ⟨⟨cs⟩, rfl, hsz, ts, hts, _, hcell⟩ := hval
  rw [ctC] at hts
  cases hts
  rw [celC] at hsz
  have hlen : cs.length = 9 := by simpa using hsz
  obtain ⟨c0, c1, c2, c3, c4, c5, c6, c7, c8, rfl⟩ : ∃ c0 c1 c2 c3 c4 c5 c6 c7 c8, cs = [c0, c1, c2, c3, c4, c5, c6, c7, c8] := by
    match cs, hlen with
    | [c0, c1, c2, c3, c4, c5, c6, c7, c8], _ => exact ⟨_, _, _, _, _, _, _, _, _, rfl⟩
  obtain ⟨u0, e0, k0⟩ := hcell 0 c0 (by simp)
  obtain ⟨u1, e1, k1⟩ := hcell 1 c1 (by simp)
  obtain ⟨u2, e2, k2⟩ := hcell 2 c2 (by simp)
  obtain ⟨u3, e3, k3⟩ := hcell 3 c3 (by simp)
  obtain ⟨u4, e4, k4⟩ := hcell 4 c4 (by simp)
  obtain ⟨u5, e5, k5⟩ := hcell 5 c5 (by simp)
  obtain ⟨u6, e6, k6⟩ := hcell 6 c6 (by simp)
  obtain ⟨u7, e7, k7⟩ := hcell 7 c7 (by simp)
  obtain ⟨u8, e8, k8⟩ := hcell 8 c8 (by simp)
  obtain rfl := Option.some.inj (show some 3 = some u0 from e0)
  obtain rfl := Option.some.inj (show some 3 = some u1 from e1)
  obtain rfl := Option.some.inj (show some 22 = some u2 from e2)
  obtain rfl := Option.some.inj (show some 4 = some u3 from e3)
  obtain rfl := Option.some.inj (show some 3 = some u4 from e4)
  obtain rfl := Option.some.inj (show some 3 = some u5 from e5)
  obtain rfl := Option.some.inj (show some 3 = some u6 from e6)
  obtain rfl := Option.some.inj (show some 3 = some u7 from e7)
  obtain rfl := Option.some.inj (show some 25 = some u8 from e8)
  obtain ⟨n0, rfl⟩ := cell_int undI' k0
  obtain ⟨n1, rfl⟩ := cell_int undI' k1
  obtain ⟨n2, rfl⟩ := cell_int undSt k2
  obtain ⟨b3, rfl⟩ := cell_bool k3
  obtain ⟨n4, rfl⟩ := cell_int undI' k4
  obtain ⟨n5, rfl⟩ := cell_int undI' k5
  obtain ⟨n6, rfl⟩ := cell_int undI' k6
  obtain ⟨n7, rfl⟩ := cell_int undI' k7
  rcases cell_slice k8 with rfl | ⟨a, n, cap, rfl, hcap, hhas⟩
  · exact ⟨⟨n0, n1, n2, b3, n4, n5, n6, n7, []⟩, .inl ⟨rfl, rfl⟩⟩
  · obtain ⟨hsp, bs, el, z, hb, hoff⟩ := has_block hhas
    obtain ⟨ab, ao, asp⟩ := a
    simp only at hsp hb hoff
    subst hsp
    obtain ⟨fuel, hf⟩ := hd
    have htr : ∃ m y, DataW.trod enc Tryd.prog w base sp held m 25 [.slice (some ⟨ab, ao, none⟩) n cap] = some y := by
      cases fuel with
      | zero => simp [DataW.trod] at hf
      | succ m =>
        rw [DataW.trod_step] at hf
        unfold DataW.trodStep at hf
        simp only [undC, Value.cells, celC] at hf
        have hf2 := hf
        simp only [List.length_cons, List.length_nil, Nat.zero_add, Nat.reduceAdd, if_true, Option.map_eq_some_iff] at hf2
        obtain ⟨xs, hx, _⟩ := hf2
        obtain ⟨f, g1, g2, g3⟩ := fC5
        obtain ⟨y, hy⟩ := mapM_at _ _ hx f (List.mem_of_getElem? g1)
        rw [g2, g3, celFs] at hy
        exact ⟨m, y, hy⟩
    obtain ⟨m, y, htr⟩ := htr
    have hfl : ((List.range n).map (fileIn w ⟨ab, ao, none⟩)).length = n := by simp
    have key : ∀ k, k < 4 * n → ∃ x, w.cell? ((⟨ab, ao, none⟩ : Addr).add k) = some (.int .i64 x) := by
      rcases open_slice_fields undFs undF oneF celF htr with ⟨h1, _⟩ | ⟨a', n', cap', h1, _, _, _, hi⟩
      · simp at h1
      · simp only [List.cons.injEq, Value.slice.injEq, Option.some.injEq, and_true] at h1
        obtain ⟨rfl, rfl, rfl⟩ := h1
        intro k hk
        obtain ⟨ys, m', _, hj⟩ := hi (k / 4) (by omega)
        have ht := ftyF (k % 4) (Nat.mod_lt _ (by omega))
        cases hfj : fsF[k % 4]? with
        | none => rw [hfj] at ht; cases ht
        | some f =>
          rw [hfj] at ht
          obtain ⟨v, y', q1, _, q3⟩ := hj (k % 4) f hfj
          have ht2 : f.type = 3 := Option.some.inj ht
          rw [ht2] at q3
          obtain ⟨x, q4, _, _⟩ := DataW.trod_int undI' q3
          rw [fszF, show k / 4 * 4 + k % 4 = k by omega] at q1
          refine ⟨x, ?_⟩
          rw [q1]
          injection q4 with q4
          rw [q4]
    refine ⟨⟨n0, n1, n2, b3, n4, n5, n6, n7, (List.range n).map (fileIn w ⟨ab, ao, none⟩)⟩, .inr ⟨ab, ao, cap, bs, el, z, ?_, by rw [hfl]; exact hcap, hb, hoff, ?_⟩⟩
    · show _ = Value.agg ⟨[_, _, _, _, _, _, _, _, Value.slice _ ((List.range n).map (fileIn w ⟨ab, ao, none⟩)).length cap]⟩
      rw [hfl]
    · intro i u hu
      have hu : (fcs ((List.range n).map (fileIn w ⟨ab, ao, none⟩)))[i]? = some u := hu
      rw [fcs_range, List.getElem?_map] at hu
      have hi : i < 4 * n := by
        rcases Nat.lt_or_ge i (4 * n) with h | h
        · exact h
        · rw [List.getElem?_eq_none (by simpa using h)] at hu
          cases hu
      rw [List.getElem?_range hi] at hu
      obtain ⟨x, hx⟩ := key i hi
      have hint : intAt w ⟨ab, ao, none⟩ i = x := by unfold intAt; rw [hx]
      simp only [Option.map_some, Option.some.injEq] at hu
      rw [← hu, hint]
      rw [addr_add] at hx
      unfold World.cell? at hx
      simp only [hb] at hx
      exact hx
end
end Go.Proofs.YtgofanjbhbeniaaDoor.lf
end
end

section
/- A right catalog comes back, through its block too; two have the same leaf just if they are the same: at all catalogs. -/
namespace Go.Proofs.YtgofanjbhbeniaaDoor.catalogBack
open Go.ChangeShapes Go.WideShapes Go.ChangeAt Go.RowKit
set_option linter.unusedVariables false

theorem own : ownKnob Tryd.prog.godebug = none := by kernel_rfl
theorem laidOut : laidOutB Tryd.prog = true := by kernel_rfl

set_option maxRecDepth 100000 in
set_option maxHeartbeats 1600000 in
theorem lifted (os : Os) (started : os.Started) (H : Type) (enc : TypeId × Value → H) :
    ReturnsInHanded {} Tryd.checked os 6 .any (fun w args => (Rows.catalogBackSpec.pre enc Tryd.prog Tryd.f6 Rows.catalogBackRow.domain false w args ∧ laidMetH Tryd.prog Rows.catalogBackRow.laid w) ∧ sizedMet enc Tryd.prog Tryd.f6 (OpenSpec.ofChange Rows.catalogBackSpec) false w args)
      (Rows.catalogBackSpec.post enc Tryd.prog Tryd.f6 false true false false) := by
  refine returnsInHanded_of_change_and (C := Tryd.checked) (X := fun w _ => laidMetH Tryd.prog Rows.catalogBackRow.laid w) (fun _ _ _ hh h => h.of_heap hh) own started (by kernel_rfl) Tryd.func6
    (ChangeSpec.witness_shaped (enc := enc) (C := Tryd.checked) (os := os) (X := fun w _ => laidMetH Tryd.prog Rows.catalogBackRow.laid w) false (World.laidAll Tryd.prog os Rows.catalogBackRow.laid) #[.agg #[.int .i64 0, .int .i64 0, .int .i64 0, .bool false, .int .i64 0, .int .i64 0, .int .i64 0, .int .i64 0, .slice none 0 0], .agg #[.int .i64 0, .int .i64 0, .int .i64 0, .bool false, .int .i64 0, .int .i64 0, .int .i64 0, .int .i64 0, .slice none 0 0]] 8 (World.laidAll_os _ _ _)
      (World.shaped_of_ZipB (by kernel_rfl) (by kernel_rfl)) (by kernel_rfl) (by kernel_rfl) (by kernel_rfl)
      (by rw [MakeChecks.laidMetH_plain _ _ _ (by kernel_rfl)]; exact laidMet_laidAll _ (by kernel_rfl) (by kernel_rfl))) ?_
  intro W base args ds gs before hval0 hW hc _ hL _
  have hval : ∀ (j : Nat) t v, Tryd.f6.params[j]? = some t → args[j]? = some v → Value.okWide Tryd.prog W .any base t v := hval0
  have hW' := hW
  obtain ⟨p, q, hA0, hV, rfl, hfz, hnd⟩ := hW
  have hA : DataW.TrodAll enc Tryd.prog W 0 (fun _ => true) true Tryd.f6.params.toList args.toList ds p := hA0
  rw [Tryd.params6] at hA hval
  obtain ⟨v0, vs0, d0, ds0, p0, q0, hargs, rfl, rfl, h0, r0⟩ := trodAll_cons hA
  obtain ⟨v1, vs1, d1, ds1, p1, q1, rfl, rfl, rfl, h1, r1⟩ := trodAll_cons r0
  obtain ⟨rfl, rfl, rfl⟩ := trodAll_nil r1
  obtain rfl : args = #[v0, v1] := by cases args; simp_all
  obtain ⟨rfl, rfl⟩ := trodVars_none hV
  have k0 := h0
  have lt0 : ∀ x ∈ p0, x.block < W.heap.size := by obtain ⟨m, hm⟩ := k0; exact DataW.trod_lt m _ _ _ hm
  have k1 := h1
  have lt1 : ∀ x ∈ p1, x.block < W.heap.size := by obtain ⟨m, hm⟩ := k1; exact DataW.trod_lt m _ _ _ hm
  obtain ⟨D0, hc0⟩ := lf.open_cat (hval 0 27 v0 rfl rfl) h0
  obtain ⟨D1, hc1⟩ := lf.open_cat (hval 1 27 v1 rfl rfl) h1
  clear hA0 hval0
  refine (lf.catalogBack_any D0 D1 v0 v1 W hc0 hc1).mono fun e W' ⟨he, bel⟩ => ?_
  subst he
  exact ⟨_, rfl, _, _, _, [], _, [], hW', trodAll_mk1 (shut_bool Tryd.underlying4 _), (trodAll_cons_mk (Below.trod laidOut (by kernel_rfl) (of_decide_eq_true (by kernel_rfl)) k0 bel lt0) (trodAll_cons_mk (Below.trod laidOut (by kernel_rfl) (of_decide_eq_true (by kernel_rfl)) k1 bel lt1) trodAll_mk0)), rfl, bel.frame _, fun h => by cases h⟩

theorem over : Rows.catalogBackRow.holds Tryd.pinned (OpenSpec.ofChange Rows.catalogBackSpec) :=
  OpenClaim.holds_of_wide 6 Tryd.f6 rfl rfl rfl rfl rfl rfl rfl ⟨rfl, rfl, rfl, rfl, rfl⟩ rfl rfl rfl rfl rfl (by kernel_rfl) Tryd.func6 (by kernel_rfl)
    (of_decide_eq_true (by kernel_rfl)) (by unfold Func.isWrapper; first | (rw [if_pos (by decide +kernel)]; kernel_rfl) | (rw [if_neg (by decide +kernel)]; exact ⟨rfl, rfl⟩))
    (fun os started H enc _ => lifted os started H enc)

theorem wants0 : Tryd.pinned.checked.prog.wantsStandIn 27 = false := by kernel_rfl
theorem wants1 : Tryd.pinned.checked.prog.wantsStandIn 27 = false := by kernel_rfl
/-- the statement -/
theorem proved : Rows.CatalogBackCardSaid :=
  Claim7.holds_tied_plain_at .later [] [.data, .pinned] true (true, "334530d2b209fd268b8213391b41bfb2cf022d5de982bb0eea3455add9bf5210") false over (fun _ h => by cases h) (by kernel_rfl) (fun _ h => by cases h) catalogBack_row_tie rfl ⟨rfl, rfl⟩ (by kernel_rfl) rfl
    (fun f fn hf hfn => by
      obtain rfl : f = 6 := Option.some.inj ((show Tryd.prog.funcNamed "sheaf/sheaflaw6.CatalogBack" = some 6 by kernel_rfl).symm.trans hf) |>.symm
      obtain rfl : fn = Tryd.f6 := (Option.some.inj (Tryd.func6.symm.trans hfn)).symm
      exact ⟨by kernel_rfl, fun j t ht => by
        rw [Tryd.params6] at ht
        match j, ht with
        | 0, ht => have e : (27 : Nat) = t := Option.some.inj ht; subst e; exact wants0
        | 1, ht => have e : (27 : Nat) = t := Option.some.inj ht; subst e; exact wants1
        | j + 2, ht => simp at ht⟩)
    (by kernel_rfl)
#print axioms proved
end Go.Proofs.YtgofanjbhbeniaaDoor.catalogBack
end
