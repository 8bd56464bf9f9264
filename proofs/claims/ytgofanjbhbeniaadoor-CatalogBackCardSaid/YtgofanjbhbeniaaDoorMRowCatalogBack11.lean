/- Catalogs come back: the statement's first steps. -/
import Derived.Test.YtgofanjbhbeniaaDoorMRowCatalogBack10
import Derived.Test.YtgofanjbhbeniaaDoorRows
import Derived.Test.YtgofanjbhbeniaaDoorAe24
section
/- Catalogs compared: what sheafkeep.Catalogs does, told. -/
noncomputable section
namespace Go.Proofs.YtgofanjbhbeniaaDoor.lf
open AE
set_option linter.unusedSimpArgs false
set_option linter.unusedVariables false
set_option maxRecDepth 10000

instance : DecidableEq CatD := fun a b => if h : a.gen = b.gen ∧ a.step = b.step ∧ a.status = b.status ∧ a.ended = b.ended ∧ a.from_ = b.from_ ∧ a.to_ = b.to_ ∧ a.budget = b.budget ∧ a.fan = b.fan ∧ a.files = b.files then isTrue (by cases a; cases b; simp_all) else isFalse (fun e => h (by subst e; exact ⟨rfl, rfl, rfl, rfl, rfl, rfl, rfl, rfl, rfl⟩))
theorem cat_ne {a b : CatD} (h : a.gen ≠ b.gen ∨ a.step ≠ b.step ∨ a.status ≠ b.status ∨ a.ended ≠ b.ended ∨ ¬ (a.from_ = b.from_ ∧ a.to_ = b.to_ ∧ a.budget = b.budget ∧ a.fan = b.fan) ∨ a.files ≠ b.files) : decide (a = b) = false := by
  apply decide_eq_false
  intro e
  subst e
  simp at h
def catsA : List Value → AM Value
  | [.agg ⟨[.int .i64 g, .int .i64 st, .int .i64 su, .bool en, .int .i64 f, .int .i64 t, .int .i64 b, .int .i64 fa, .slice a n cap]⟩, .agg ⟨[.int .i64 g2, .int .i64 st2, .int .i64 su2, .bool en2, .int .i64 f2, .int .i64 t2, .int .i64 b2, .int .i64 fa2, .slice a2 n2 cap2]⟩] =>
    when (Nat.ble n 1000000 && Nat.ble n2 1000000) (rdV a (4 * n) fun cs => rdV a2 (4 * n2) fun cs2 => opt (filesOf cs) fun fs => opt (filesOf cs2) fun fs2 => bump 2 (.pure (.bool (decide ((⟨g, st, su, en, f, t, b, fa, fs⟩ : CatD) = ⟨g2, st2, su2, en2, f2, t2, b2, fa2, fs2⟩)))))
  | _ => .fail
theorem eqlK (a b c d a' b' c' d' : Int) : binA E .eql 24 (.agg ⟨[.int .i64 a, .int .i64 b, .int .i64 c, .int .i64 d]⟩) (.agg ⟨[.int .i64 a', .int .i64 b', .int .i64 c', .int .i64 d']⟩) = some (.bool (decide (a = a' ∧ b = b' ∧ c = c' ∧ d = d'))) := by
  show someB (eqV E 1000 24 (.agg ⟨[.int .i64 a, .int .i64 b, .int .i64 c, .int .i64 d]⟩) (.agg ⟨[.int .i64 a', .int .i64 b', .int .i64 c', .int .i64 d']⟩)) true = _
  rw [eqK]
  rfl
theorem eqI_d (a b : Int) : eqI a b = decide (a = b) := by rw [eqI_eq]
theorem eqlI (a b : Int) : ∀ t, (t = 3 ∨ t = 22) → binA E .eql t (.int .i64 a) (.int .i64 b) = some (.bool (decide (a = b))) := by
  intro t _
  show some (Value.bool (eqI a b)) = _
  rw [eqI_d]
theorem eqlBo (a b : Bool) : binA E .eql 4 (.bool a) (.bool b) = some (.bool (decide (a = b))) := by
  cases a <;> cases b <;> kernel_rfl
noncomputable def fiCs : FI := FI.of Tryd.f16
noncomputable def cdCs : Code := bodyOf Tryd.f16
theorem resCs : fiCs.results = [.tmp 4] := rfl
abbrev sigCs : List (Nat × (List Value → AM Value)) := [(19, sameFA)]
theorem tolds_Cs : Tolds Tryd.prog (sumsOf sigCs) := tolds_cons told_sameF tolds_nil
theorem csS : sumsOf sigCs 19 = some sameFA := rfl
theorem tgSF : ∀ a b, targetA E (.func 19) a b = .pure (.enter 19 (b ++ a)) := tgt (fi := fiSF) (c := cdSF) (by kernel_rfl) (by kernel_rfl)
theorem sameFA_run {s : S} {a a2 : Option Addr} {c c2 : Nat} {l l2 : List FileD} (h : l.length ≤ 1000000) (hv : Vx s a (fcs l)) (hv2 : Vx s a2 (fcs l2)) : ∃ s1, (sameFA [.slice a l.length c, .slice a2 l2.length c2]).run s = some (.bool (decide (l = l2)), s1) ∧ Rd s s1 := by
  show ∃ s1, (when (Nat.ble l.length 1000000) (match Nat.beq l.length l2.length with
    | false => AM.pure (Value.bool false)
    | true => rdV a (4 * l.length) fun cs => rdV a2 (4 * l.length) fun cs2 => opt (filesOf cs) fun l => opt (filesOf cs2) fun l2 => .pure (Value.bool (decide (l = l2))))).run s = _ ∧ _
  rw [ble_iff.2 h, show ∀ k : AM Value, when true k = k from fun _ => rfl]
  cases hb : Nat.beq l.length l2.length with
  | false =>
    refine ⟨s, ?_, Rd.refl s⟩
    have : decide (l = l2) = false := decide_eq_false (fun e => by subst e; rw [beq_iff.2 rfl] at hb; cases hb)
    rw [this]
    rfl
  | true =>
    have hl := beq_iff.1 hb
    obtain ⟨s1, e1, r1, _⟩ := rdV_run hv (fun cs => rdV a2 (4 * l.length) fun cs2 => opt (filesOf cs) fun l => opt (filesOf cs2) fun l2 => .pure (Value.bool (decide (l = l2))))
    rw [fcs_len] at e1
    obtain ⟨s2, e2, r2, _⟩ := rdV_run (hv2.rd r1) (fun cs2 => opt (filesOf (fcs l)) fun l => opt (filesOf cs2) fun l2 => .pure (Value.bool (decide (l = l2))))
    rw [fcs_len, ← hl, filesOf_fcs, filesOf_fcs] at e2
    refine ⟨s2, ?_, r1.trans r2⟩
    show (rdV a (4 * l.length) _).run s = _
    rw [e1, filesOf_fcs]
    exact e2

set_option maxHeartbeats 4000000 in
theorem told_cats : AE.Told Tryd.prog 16 catsA := by
  refine told_go hE hmix tolds_Cs ?_
  intro args s v s' h hm
  unfold catsA at h
  split at h
  · rename_i g st su en fo to bu fa a n cap g2 st2 su2 en2 fo2 to2 bu2 fa2 a2 n2 cap2
    obtain ⟨hc, h2⟩ := run_when h
    simp only [Bool.and_eq_true] at hc
    obtain ⟨L, s1, hL, hvx, hr1, h3⟩ := vx_of_rd h2
    obtain ⟨L2, s2, hL2, hvx2, hr2, h4⟩ := vx_of_rd h3
    obtain ⟨fs, hfs, h5⟩ := run_opt h4
    obtain ⟨fs2, hfs2, h6⟩ := run_opt h5
    obtain rfl := filesOf_inv L fs hfs
    obtain rfl := filesOf_inv L2 fs2 hfs2
    rw [fcs_len] at hL hL2
    obtain rfl : n = fs.length := by omega
    obtain rfl : n2 = fs2.length := by omega
    obtain ⟨s9, h7, hn9, hm9, hh9, hbl⟩ := bump_run _ _ _ _ h6
    cases h7
    have hvx2 : Vx s a2 (fcs fs2) := hvx2.rd ⟨hr1.heap.symm, hr1.next.symm, hr1.mark.symm⟩
    have hr3 := hr1.trans hr2
    clear h h2 h3 h4 h5 h6 hL hL2 hfs hfs2
    rw [hr3.next] at hn9 hh9 hbl
    simp only [hr3.heap] at hh9
    refine go_enter (fi := fiCs) (c := cdCs) (by kernel_rfl) (by kernel_rfl) 45 rfl rfl ?_
    simp only [cdCs, Tryd.f16, bodyOf]
    obtain ⟨D, hD⟩ : ∃ D : CatD, D = ⟨g, st, su, en, fo, to, bu, fa, fs⟩ := ⟨_, rfl⟩
    obtain ⟨D2, hD2⟩ : ∃ D : CatD, D = ⟨g2, st2, su2, en2, fo2, to2, bu2, fa2, fs2⟩ := ⟨_, rfl⟩
    have hcells : D.cells a cap = [.int .i64 g, .int .i64 st, .int .i64 su, .bool en, .int .i64 fo, .int .i64 to, .int .i64 bu, .int .i64 fa, .slice a fs.length cap] := by subst hD; rfl
    have hcells2 : D2.cells a2 cap2 = [.int .i64 g2, .int .i64 st2, .int .i64 su2, .bool en2, .int .i64 fo2, .int .i64 to2, .int .i64 bu2, .int .i64 fa2, .slice a2 fs2.length cap2] := by subst hD2; rfl
    have hfl : D.files = fs := by rw [hD]
    have hfl2 : D2.files = fs2 := by rw [hD2]
    rw [← hD, ← hD2, ← hcells, ← hcells2]
    have h0 : (Tr.ofList [Value.agg ⟨D.cells a cap⟩, .agg ⟨D2.cells a2 cap2⟩]).get 0 = some (.agg ⟨D.cells a cap⟩) := rfl
    have h1 : (Tr.ofList [Value.agg ⟨D.cells a cap⟩, .agg ⟨D2.cells a2 cap2⟩]).get 1 = some (.agg ⟨D2.cells a2 cap2⟩) := rfl
    generalize Tr.ofList [Value.agg ⟨D.cells a cap⟩, .agg ⟨D2.cells a2 cap2⟩] = t at *
    have hN0 : Nat.ble s.next lastName = true := hbl 0 (by omega)
    have hN1 : Nat.ble (s.next + 1) lastName = true := hbl 1 (by omega)
    have hN1' : Nat.ble (Nat.succ s.next) lastName = true := hN1
    repeat apply go_seq
    apply go_region
    case h => intro m; simp (maxSteps := 2000000) (disch := decide) only [opsLoop, evOper, wantedA, nth, aop, aPick, aBin, aIndexAddr, aFieldAddr, aLoad, aStore, aExtract, aConvert, aAlloc, aBox, aIndex, callA, builtinA, Fr.evs, opt, val, when, AM.run, outV, newA, ptr, force_eq, seen_heap, seen_next, seen_mark, seen_seen, agg_cells, int_cells, Fr.ev, Fr.put, onFr, gps, gpn, bltT, still, flat, List.append_nil, List.nil_append, List.cons_append, Nat.reduceEqDiff, ne_eq, not_false_eq_true, reduceCtorEq, Bool.and_true, Bool.true_and, Bool.and_false, Bool.false_and, Bool.not_true, Bool.not_false, Bool.and_self, h0, h1, tyC, hN0, hN1', show Nat.ble (D.cells a cap).length lastName = true from rfl, show Nat.ble (D2.cells a2 cap2).length lastName = true from rfl]; rfl
    generalize hs1 : S.mk _ _ _ _ _ = s3
    have e1 : s3.next = s.next + 2 := by rw [← hs1]
    have e1h : s3.heap = (s.heap.put s.next (some (.cells (Tr.ofList (D.cells a cap)) (D.cells a cap).length 27 .whole))).put (s.next + 1) (some (.cells (Tr.ofList (D2.cells a2 cap2)) (D2.cells a2 cap2).length 27 .whole)) := by rw [← hs1]
    clear hs1
    rw [show Nat.succ s.next = s.next + 1 from rfl]
    have C1 : Cl s3 s.next 0 (D.cells a cap) := Cl.new (by omega) (by rw [e1h, hg_far hN1 (by omega)]; exact hg_same hN0 _ _) (by rw [hcells]; simp)
    have C2 : Cl s3 (s.next + 1) 0 (D2.cells a2 cap2) := Cl.new (by omega) (by rw [e1h]; exact hg_same hN1 _ _) (by rw [hcells2]; simp)
    have g1 : ∀ m, m ≠ s.next → m ≠ s.next + 1 → s3.heap.get m = s.heap.get m := fun m q1 q2 => by rw [e1h, hg_far hN1 (by omega), hg_far hN0 (by omega)]
    clear e1h
    have hless : ∀ s4 : S, Rd s3 s4 → Less' s4 s' := fun s4 hr => less_new (s := s) (n := 2) (by rw [hr.next]; omega) hn9 hh9 (fun m hm => by rw [hr.heap]; exact g1 m (by omega) (by omega))
    have V1 : Vx s3 a (fcs D.files) := by rw [hfl]; exact hvx.keep (by omega) (fun m hm => g1 m (by omega) (by omega))
    have V2 : Vx s3 a2 (fcs D2.files) := by rw [hfl2]; exact hvx2.keep (by omega) (fun m hm => g1 m (by omega) (by omega))
    have hlen1 : D.files.length ≤ 1000000 := by rw [hfl]; exact ble_iff.1 hc.1
    clear hcells hcells2 hD hD2 hvx hvx2 hfl hfl2 hn9 hh9 hc
    obtain ⟨H, N, mk, rd, wr⟩ := s3
    simp only at e1 g1
    have x0 := C1.ld (k := 0) tiI (by rw [dsI]; rfl) rfl
    have x1 := C1.ld (k := 1) tiI (by rw [dsI]; rfl) rfl
    have x2 := C1.ld (k := 2) tiSt8 (by rw [dsSt8]; rfl) rfl
    have x3 := C1.ld (k := 3) tiBo (by rw [dsBo]; rfl) rfl
    have x8 := C1.ld (k := 8) tiFs (by rw [dsFs]; rfl) rfl
    have x4 := (C1.sub 4 4 (by show 8 ≤ 9; omega)).ldA (β := ANext) tiK (by rw [dsK]; rfl) (by rw [szK]; rfl)
    simp only [Nat.zero_add] at x0 x1 x2 x3 x4 x8
    have y0 := C2.ld (k := 0) tiI (by rw [dsI]; rfl) rfl
    have y1 := C2.ld (k := 1) tiI (by rw [dsI]; rfl) rfl
    have y2 := C2.ld (k := 2) tiSt8 (by rw [dsSt8]; rfl) rfl
    have y3 := C2.ld (k := 3) tiBo (by rw [dsBo]; rfl) rfl
    have y8 := C2.ld (k := 8) tiFs (by rw [dsFs]; rfl) rfl
    have y4 := (C2.sub 4 4 (by show 8 ≤ 9; omega)).ldA (β := ANext) tiK (by rw [dsK]; rfl) (by rw [szK]; rfl)
    simp only [Nat.zero_add] at y0 y1 y2 y3 y4 y8
    have hsub1 : ((D.cells a cap).drop 4).take 4 = [.int .i64 D.from_, .int .i64 D.to_, .int .i64 D.budget, .int .i64 D.fan] := rfl
    have hsub2 : ((D2.cells a2 cap2).drop 4).take 4 = [.int .i64 D2.from_, .int .i64 D2.to_, .int .i64 D2.budget, .int .i64 D2.fan] := rfl
    rw [hsub1] at x4
    rw [hsub2] at y4
    have ax1 : addA ⟨s.next, 0, none⟩ 1 = ⟨s.next, 1, none⟩ := rfl
    have ax2 : addA ⟨s.next, 0, none⟩ 2 = ⟨s.next, 2, none⟩ := rfl
    have ax3 : addA ⟨s.next, 0, none⟩ 3 = ⟨s.next, 3, none⟩ := rfl
    have ax4 : addA ⟨s.next, 0, none⟩ 4 = ⟨s.next, 4, none⟩ := rfl
    have ax8 : addA ⟨s.next, 0, none⟩ 8 = ⟨s.next, 8, none⟩ := rfl
    have ay1 : addA ⟨s.next + 1, 0, none⟩ 1 = ⟨s.next + 1, 1, none⟩ := rfl
    have ay2 : addA ⟨s.next + 1, 0, none⟩ 2 = ⟨s.next + 1, 2, none⟩ := rfl
    have ay3 : addA ⟨s.next + 1, 0, none⟩ 3 = ⟨s.next + 1, 3, none⟩ := rfl
    have ay4 : addA ⟨s.next + 1, 0, none⟩ 4 = ⟨s.next + 1, 4, none⟩ := rfl
    have ay8 : addA ⟨s.next + 1, 0, none⟩ 8 = ⟨s.next + 1, 8, none⟩ := rfl
    have q0 := eqlI D.gen D2.gen 3 (.inl rfl)
    have q1 := eqlI D.step D2.step 3 (.inl rfl)
    have q2 := eqlI D.status D2.status 22 (.inr rfl)
    have q3 := eqlBo D.ended D2.ended
    have q4 := eqlK D.from_ D.to_ D.budget D.fan D2.from_ D2.to_ D2.budget D2.fan
    clear C1 C2 hsub1 hsub2
    by_cases e0 : D.gen = D2.gen
    rotate_left
    · rw [decide_eq_false e0] at q0
      rw [cat_ne (.inl e0)]
      repeat apply go_seq
      apply go_region
      case h => intro m; simp (maxSteps := 2000000) (disch := decide) only [opsLoop, evOper, wantedA, nth, aop, aPick, aBin, aIndexAddr, aFieldAddr, aLoad, aStore, aExtract, aConvert, aAlloc, aBox, aIndex, callA, builtinA, Fr.evs, opt, val, when, AM.run, outV, newA, ptr, force_eq, seen_heap, seen_next, seen_mark, seen_seen, agg_cells, int_cells, Fr.ev, Fr.put, onFr, gps, gpn, bltT, still, flat, List.append_nil, List.nil_append, List.cons_append, Nat.reduceEqDiff, ne_eq, not_false_eq_true, reduceCtorEq, Bool.and_true, Bool.true_and, Bool.and_false, Bool.false_and, Bool.not_true, Bool.not_false, Bool.and_self, undef_eq, tyC, dsC, flC0, flC1, flC2, flC3, flC4, flC5, ftC0, ftC1, ftC2, ftC3, ftC4, ftC5, foC0, foC1, foC2, foC3, foC4, foC5, tyI, szI, tySt8, szSt8, tyBo, szBo, tyK, szK, tyFs, szFs, ble11, show Nat.ble 1 4 = true from rfl, ad0, ax1, ax2, ax3, ax4, ax8, ay1, ay2, ay3, ay4, ay8, x0, x1, x2, x3, x4, x8, y0, y1, y2, y3, y4, y8, q0, q1, q2, q3, q4]; rfl
      repeat apply go_seq
      apply go_ret
      apply ret_intro rfl rfl
      case run => simp (disch := decide) only [resultsM, resultsA, resCs, opsLoop, evOper, wantedA, nth, aop, aPick, aBin, aIndexAddr, aFieldAddr, aLoad, aStore, aExtract, aConvert, aAlloc, aBox, aIndex, callA, builtinA, Fr.evs, opt, val, when, AM.run, outV, newA, ptr, force_eq, seen_heap, seen_next, seen_mark, seen_seen, agg_cells, int_cells, Fr.ev, Fr.put, onFr, gps, gpn, bltT, still, flat, List.append_nil, List.nil_append, List.cons_append, Nat.reduceEqDiff, ne_eq, not_false_eq_true, reduceCtorEq, Bool.and_true, Bool.true_and, Bool.and_false, Bool.false_and, Bool.not_true, Bool.not_false, Bool.and_self]; rfl
      exact ⟨rfl, hless _ ⟨rfl, rfl, rfl⟩⟩
    rw [decide_eq_true e0] at q0
    by_cases e1 : D.step = D2.step
    rotate_left
    · rw [decide_eq_false e1] at q1
      rw [cat_ne (.inr (.inl e1))]
      repeat apply go_seq
      apply go_region
      case h => intro m; simp (maxSteps := 2000000) (disch := decide) only [opsLoop, evOper, wantedA, nth, aop, aPick, aBin, aIndexAddr, aFieldAddr, aLoad, aStore, aExtract, aConvert, aAlloc, aBox, aIndex, callA, builtinA, Fr.evs, opt, val, when, AM.run, outV, newA, ptr, force_eq, seen_heap, seen_next, seen_mark, seen_seen, agg_cells, int_cells, Fr.ev, Fr.put, onFr, gps, gpn, bltT, still, flat, List.append_nil, List.nil_append, List.cons_append, Nat.reduceEqDiff, ne_eq, not_false_eq_true, reduceCtorEq, Bool.and_true, Bool.true_and, Bool.and_false, Bool.false_and, Bool.not_true, Bool.not_false, Bool.and_self, undef_eq, tyC, dsC, flC0, flC1, flC2, flC3, flC4, flC5, ftC0, ftC1, ftC2, ftC3, ftC4, ftC5, foC0, foC1, foC2, foC3, foC4, foC5, tyI, szI, tySt8, szSt8, tyBo, szBo, tyK, szK, tyFs, szFs, ble11, show Nat.ble 1 4 = true from rfl, ad0, ax1, ax2, ax3, ax4, ax8, ay1, ay2, ay3, ay4, ay8, x0, x1, x2, x3, x4, x8, y0, y1, y2, y3, y4, y8, q0, q1, q2, q3, q4]; rfl
      repeat apply go_seq
      apply go_ret
      apply ret_intro rfl rfl
      case run => simp (disch := decide) only [resultsM, resultsA, resCs, opsLoop, evOper, wantedA, nth, aop, aPick, aBin, aIndexAddr, aFieldAddr, aLoad, aStore, aExtract, aConvert, aAlloc, aBox, aIndex, callA, builtinA, Fr.evs, opt, val, when, AM.run, outV, newA, ptr, force_eq, seen_heap, seen_next, seen_mark, seen_seen, agg_cells, int_cells, Fr.ev, Fr.put, onFr, gps, gpn, bltT, still, flat, List.append_nil, List.nil_append, List.cons_append, Nat.reduceEqDiff, ne_eq, not_false_eq_true, reduceCtorEq, Bool.and_true, Bool.true_and, Bool.and_false, Bool.false_and, Bool.not_true, Bool.not_false, Bool.and_self]; rfl
      exact ⟨rfl, hless _ ⟨rfl, rfl, rfl⟩⟩
    rw [decide_eq_true e1] at q1
    by_cases e2 : D.status = D2.status
    rotate_left
    · rw [decide_eq_false e2] at q2
      rw [cat_ne (.inr (.inr (.inl e2)))]
      repeat apply go_seq
      apply go_region
      case h => intro m; simp (maxSteps := 2000000) (disch := decide) only [opsLoop, evOper, wantedA, nth, aop, aPick, aBin, aIndexAddr, aFieldAddr, aLoad, aStore, aExtract, aConvert, aAlloc, aBox, aIndex, callA, builtinA, Fr.evs, opt, val, when, AM.run, outV, newA, ptr, force_eq, seen_heap, seen_next, seen_mark, seen_seen, agg_cells, int_cells, Fr.ev, Fr.put, onFr, gps, gpn, bltT, still, flat, List.append_nil, List.nil_append, List.cons_append, Nat.reduceEqDiff, ne_eq, not_false_eq_true, reduceCtorEq, Bool.and_true, Bool.true_and, Bool.and_false, Bool.false_and, Bool.not_true, Bool.not_false, Bool.and_self, undef_eq, tyC, dsC, flC0, flC1, flC2, flC3, flC4, flC5, ftC0, ftC1, ftC2, ftC3, ftC4, ftC5, foC0, foC1, foC2, foC3, foC4, foC5, tyI, szI, tySt8, szSt8, tyBo, szBo, tyK, szK, tyFs, szFs, ble11, show Nat.ble 1 4 = true from rfl, ad0, ax1, ax2, ax3, ax4, ax8, ay1, ay2, ay3, ay4, ay8, x0, x1, x2, x3, x4, x8, y0, y1, y2, y3, y4, y8, q0, q1, q2, q3, q4]; rfl
      repeat apply go_seq
      apply go_ret
      apply ret_intro rfl rfl
      case run => simp (disch := decide) only [resultsM, resultsA, resCs, opsLoop, evOper, wantedA, nth, aop, aPick, aBin, aIndexAddr, aFieldAddr, aLoad, aStore, aExtract, aConvert, aAlloc, aBox, aIndex, callA, builtinA, Fr.evs, opt, val, when, AM.run, outV, newA, ptr, force_eq, seen_heap, seen_next, seen_mark, seen_seen, agg_cells, int_cells, Fr.ev, Fr.put, onFr, gps, gpn, bltT, still, flat, List.append_nil, List.nil_append, List.cons_append, Nat.reduceEqDiff, ne_eq, not_false_eq_true, reduceCtorEq, Bool.and_true, Bool.true_and, Bool.and_false, Bool.false_and, Bool.not_true, Bool.not_false, Bool.and_self]; rfl
      exact ⟨rfl, hless _ ⟨rfl, rfl, rfl⟩⟩
    rw [decide_eq_true e2] at q2
    by_cases e3 : D.ended = D2.ended
    rotate_left
    · rw [decide_eq_false e3] at q3
      rw [cat_ne (.inr (.inr (.inr (.inl e3))))]
      repeat apply go_seq
      apply go_region
      case h => intro m; simp (maxSteps := 2000000) (disch := decide) only [opsLoop, evOper, wantedA, nth, aop, aPick, aBin, aIndexAddr, aFieldAddr, aLoad, aStore, aExtract, aConvert, aAlloc, aBox, aIndex, callA, builtinA, Fr.evs, opt, val, when, AM.run, outV, newA, ptr, force_eq, seen_heap, seen_next, seen_mark, seen_seen, agg_cells, int_cells, Fr.ev, Fr.put, onFr, gps, gpn, bltT, still, flat, List.append_nil, List.nil_append, List.cons_append, Nat.reduceEqDiff, ne_eq, not_false_eq_true, reduceCtorEq, Bool.and_true, Bool.true_and, Bool.and_false, Bool.false_and, Bool.not_true, Bool.not_false, Bool.and_self, undef_eq, tyC, dsC, flC0, flC1, flC2, flC3, flC4, flC5, ftC0, ftC1, ftC2, ftC3, ftC4, ftC5, foC0, foC1, foC2, foC3, foC4, foC5, tyI, szI, tySt8, szSt8, tyBo, szBo, tyK, szK, tyFs, szFs, ble11, show Nat.ble 1 4 = true from rfl, ad0, ax1, ax2, ax3, ax4, ax8, ay1, ay2, ay3, ay4, ay8, x0, x1, x2, x3, x4, x8, y0, y1, y2, y3, y4, y8, q0, q1, q2, q3, q4]; rfl
      repeat apply go_seq
      apply go_ret
      apply ret_intro rfl rfl
      case run => simp (disch := decide) only [resultsM, resultsA, resCs, opsLoop, evOper, wantedA, nth, aop, aPick, aBin, aIndexAddr, aFieldAddr, aLoad, aStore, aExtract, aConvert, aAlloc, aBox, aIndex, callA, builtinA, Fr.evs, opt, val, when, AM.run, outV, newA, ptr, force_eq, seen_heap, seen_next, seen_mark, seen_seen, agg_cells, int_cells, Fr.ev, Fr.put, onFr, gps, gpn, bltT, still, flat, List.append_nil, List.nil_append, List.cons_append, Nat.reduceEqDiff, ne_eq, not_false_eq_true, reduceCtorEq, Bool.and_true, Bool.true_and, Bool.and_false, Bool.false_and, Bool.not_true, Bool.not_false, Bool.and_self]; rfl
      exact ⟨rfl, hless _ ⟨rfl, rfl, rfl⟩⟩
    rw [decide_eq_true e3] at q3
    by_cases e4 : D.from_ = D2.from_ ∧ D.to_ = D2.to_ ∧ D.budget = D2.budget ∧ D.fan = D2.fan
    rotate_left
    · rw [decide_eq_false e4] at q4
      rw [cat_ne (.inr (.inr (.inr (.inr (.inl e4)))))]
      repeat apply go_seq
      apply go_region
      case h => intro m; simp (maxSteps := 2000000) (disch := decide) only [opsLoop, evOper, wantedA, nth, aop, aPick, aBin, aIndexAddr, aFieldAddr, aLoad, aStore, aExtract, aConvert, aAlloc, aBox, aIndex, callA, builtinA, Fr.evs, opt, val, when, AM.run, outV, newA, ptr, force_eq, seen_heap, seen_next, seen_mark, seen_seen, agg_cells, int_cells, Fr.ev, Fr.put, onFr, gps, gpn, bltT, still, flat, List.append_nil, List.nil_append, List.cons_append, Nat.reduceEqDiff, ne_eq, not_false_eq_true, reduceCtorEq, Bool.and_true, Bool.true_and, Bool.and_false, Bool.false_and, Bool.not_true, Bool.not_false, Bool.and_self, undef_eq, tyC, dsC, flC0, flC1, flC2, flC3, flC4, flC5, ftC0, ftC1, ftC2, ftC3, ftC4, ftC5, foC0, foC1, foC2, foC3, foC4, foC5, tyI, szI, tySt8, szSt8, tyBo, szBo, tyK, szK, tyFs, szFs, ble11, show Nat.ble 1 4 = true from rfl, ad0, ax1, ax2, ax3, ax4, ax8, ay1, ay2, ay3, ay4, ay8, x0, x1, x2, x3, x4, x8, y0, y1, y2, y3, y4, y8, q0, q1, q2, q3, q4]; rfl
      repeat apply go_seq
      apply go_ret
      apply ret_intro rfl rfl
      case run => simp (disch := decide) only [resultsM, resultsA, resCs, opsLoop, evOper, wantedA, nth, aop, aPick, aBin, aIndexAddr, aFieldAddr, aLoad, aStore, aExtract, aConvert, aAlloc, aBox, aIndex, callA, builtinA, Fr.evs, opt, val, when, AM.run, outV, newA, ptr, force_eq, seen_heap, seen_next, seen_mark, seen_seen, agg_cells, int_cells, Fr.ev, Fr.put, onFr, gps, gpn, bltT, still, flat, List.append_nil, List.nil_append, List.cons_append, Nat.reduceEqDiff, ne_eq, not_false_eq_true, reduceCtorEq, Bool.and_true, Bool.true_and, Bool.and_false, Bool.false_and, Bool.not_true, Bool.not_false, Bool.and_self]; rfl
      exact ⟨rfl, hless _ ⟨rfl, rfl, rfl⟩⟩
    rw [decide_eq_true e4] at q4
    have hdec : decide (D = D2) = decide (D.files = D2.files) := by
      apply decide_eq_decide.2
      constructor
      · intro e; rw [e]
      · intro e5
        obtain ⟨k1, k2, k3, k4⟩ := e4
        cases D; cases D2
        simp only at e0 e1 e2 e3 k1 k2 k3 k4 e5
        subst e0; subst e1; subst e2; subst e3; subst k1; subst k2; subst k3; subst k4; subst e5
        rfl
    have hrun : ∀ rd1, ∃ s4, (sameFA [.slice a D.files.length cap, .slice a2 D2.files.length cap2]).run ⟨H, N, mk, rd1, wr⟩ = some (.bool (decide (D.files = D2.files)), s4) ∧ Rd ⟨H, N, mk, rd1, wr⟩ s4 := fun rd1 => sameFA_run hlen1 (V1.rd ⟨rfl, rfl, rfl⟩) (V2.rd ⟨rfl, rfl, rfl⟩)
    obtain ⟨sw, hsw⟩ : ∃ sw : Nat → S, ∀ rd1, (sameFA [.slice a D.files.length cap, .slice a2 D2.files.length cap2]).run ⟨H, N, mk, rd1, wr⟩ = some (.bool (decide (D.files = D2.files)), sw rd1) ∧ Rd ⟨H, N, mk, rd1, wr⟩ (sw rd1) := ⟨fun rd1 => Classical.choose (hrun rd1), fun rd1 => Classical.choose_spec (hrun rd1)⟩
    have hsw1 := fun rd1 => (hsw rd1).1
    repeat apply go_seq
    apply go_region
    case h => intro m; simp (maxSteps := 2000000) (disch := decide) only [opsLoop, evOper, wantedA, nth, aop, aPick, aBin, aIndexAddr, aFieldAddr, aLoad, aStore, aExtract, aConvert, aAlloc, aBox, aIndex, callA, builtinA, Fr.evs, opt, val, when, AM.run, outV, newA, ptr, force_eq, seen_heap, seen_next, seen_mark, seen_seen, agg_cells, int_cells, Fr.ev, Fr.put, onFr, gps, gpn, bltT, still, flat, List.append_nil, List.nil_append, List.cons_append, Nat.reduceEqDiff, ne_eq, not_false_eq_true, reduceCtorEq, Bool.and_true, Bool.true_and, Bool.and_false, Bool.false_and, Bool.not_true, Bool.not_false, Bool.and_self, undef_eq, tyC, dsC, flC0, flC1, flC2, flC3, flC4, flC5, ftC0, ftC1, ftC2, ftC3, ftC4, ftC5, foC0, foC1, foC2, foC3, foC4, foC5, tyI, szI, tySt8, szSt8, tyBo, szBo, tyK, szK, tyFs, szFs, ble11, show Nat.ble 1 4 = true from rfl, ad0, ax1, ax2, ax3, ax4, ax8, ay1, ay2, ay3, ay4, ay8, x0, x1, x2, x3, x4, x8, y0, y1, y2, y3, y4, y8, q0, q1, q2, q3, q4, tgSF, evT_told csS, hsw1]; rfl
    repeat apply go_seq
    apply go_ret
    apply ret_intro rfl rfl
    case run => simp (disch := decide) only [resultsM, resultsA, resCs, opsLoop, evOper, wantedA, nth, aop, aPick, aBin, aIndexAddr, aFieldAddr, aLoad, aStore, aExtract, aConvert, aAlloc, aBox, aIndex, callA, builtinA, Fr.evs, opt, val, when, AM.run, outV, newA, ptr, force_eq, seen_heap, seen_next, seen_mark, seen_seen, agg_cells, int_cells, Fr.ev, Fr.put, onFr, gps, gpn, bltT, still, flat, List.append_nil, List.nil_append, List.cons_append, Nat.reduceEqDiff, ne_eq, not_false_eq_true, reduceCtorEq, Bool.and_true, Bool.true_and, Bool.and_false, Bool.false_and, Bool.not_true, Bool.not_false, Bool.and_self]; rfl
    refine ⟨by rw [hdec], hless _ ?_⟩
    exact ⟨(hsw _).2.heap, (hsw _).2.next, (hsw _).2.mark⟩
  · cases h
end Go.Proofs.YtgofanjbhbeniaaDoor.lf
end
end

section
/- Catalogs: catalog.Put and catalog.Right, told without the names that they take. -/
noncomputable section
namespace Go.Proofs.YtgofanjbhbeniaaDoor.lf
open AE
set_option linter.unusedSimpArgs false
set_option linter.unusedVariables false
set_option maxRecDepth 10000

/-- a call that looks at one catalog and tells a value -/
def lookA (F : CatD → Value) : List Value → AM Value
  | [.agg ⟨[.int .i64 g, .int .i64 st, .int .i64 su, .bool en, .int .i64 f, .int .i64 t, .int .i64 b, .int .i64 fa, .slice a n cap]⟩] =>
    when (Nat.ble n 10000) (rdV a (4 * n) fun cs => opt (filesOf cs) fun fs => .pure (F ⟨g, st, su, en, f, t, b, fa, fs⟩))
  | _ => .fail
theorem lookA_run {s : S} {a : Option Addr} {cap : Nat} (F : CatD → Value) (D : CatD) (hl : D.files.length ≤ 10000) (hv : Vx s a (fcs D.files)) : ∃ s1, (lookA F [.agg ⟨D.cells a cap⟩]).run s = some (F D, s1) ∧ Rd s s1 ∧ s1.wr = s.wr := by
  obtain ⟨s1, e1, hr, hw⟩ := rdV_run hv (fun cs => opt (filesOf cs) fun fs => .pure (F ⟨D.gen, D.step, D.status, D.ended, D.from_, D.to_, D.budget, D.fan, fs⟩))
  rw [fcs_len] at e1
  refine ⟨s1, ?_, hr, hw⟩
  show (when (Nat.ble D.files.length 10000) (rdV a (4 * D.files.length) fun cs => opt (filesOf cs) fun fs => .pure (F ⟨D.gen, D.step, D.status, D.ended, D.from_, D.to_, D.budget, D.fan, fs⟩))).run s = _
  rw [show Nat.ble D.files.length 10000 = true from ble_iff.2 hl, show ∀ k : AM Value, when true k = k from fun _ => rfl, e1, filesOf_fcs]
  rfl
theorem told_look {f : FuncId} {am : List Value → AM Value} (F : CatD → Value) (hF : ∀ D, Plain (F D)) (ht : AE.Told Tryd.prog f am)
    (hrun : ∀ (s : S) (D : CatD) (a : Option Addr) (cap : Nat), s.next ≤ 10 → D.files.length ≤ 10000 → Vx s a (fcs D.files) → ∃ s1, (am [.agg ⟨D.cells a cap⟩]).run s = some (F D, s1)) : AE.Told Tryd.prog f (lookA F) := by
  refine AE.told_nobump ht ?_
  intro args s v s' h
  unfold lookA at h
  split at h
  · rename_i g st su en fo to bu fa a n cap
    obtain ⟨hc, h2⟩ := run_when h
    obtain ⟨L, s1, hL, hvx, hr1, h3⟩ := vx_of_rd h2
    obtain ⟨fs, hfs, h4⟩ := run_opt h3
    obtain rfl := filesOf_inv L fs hfs
    rw [fcs_len] at hL
    obtain rfl : n = fs.length := by omega
    cases h4
    have hlen := ble_iff.1 hc
    refine ⟨hF _, rd_less hr1, ?_⟩
    intro q ρ w args' hRep hargs
    cases hargs with
    | cons hv hl =>
    cases hl with
    | nil =>
    rcases cat_anew hRep rfl hlen hvx hv with ⟨rfl, h0, hmk⟩ | ⟨x, hx, hin, hmk⟩
    · obtain ⟨sE, hE2⟩ := hrun (inS []) ⟨g, st, su, en, fo, to, bu, fa, fs⟩ none cap (Nat.zero_le _) hlen (by show fcs fs = []; rw [h0]; rfl)
      exact ⟨_, inS [], sE, renOf [], inputs_of [] (Nat.zero_le _) (fun x hx => by cases hx), .cons (hmk _) .nil, hE2, Nat.zero_le _⟩
    · have hV : Vx (inS [x]) (some ⟨0, 0, none⟩) (fcs fs) := by
        refine ⟨rfl, ⟨Nat.zero_lt_one, Tr.ofList (fcs fs), (fcs fs).length, .inr ⟨x.e, ?_⟩, by rw [Nat.zero_add]; exact Nat.le_refl _, row_ofList _ (by rw [fcs_len]; unfold Tr.wide; omega)⟩⟩
        show (trOf [(0, AObj.row (Tr.ofList x.L) x.L.length x.e)]).get 0 = _
        rw [hx]
        show ((Tr.nil).put 0 _).get 0 = _
        exact hg_same rfl _ _
      obtain ⟨sE, hE2⟩ := hrun (inS [x]) ⟨g, st, su, en, fo, to, bu, fa, fs⟩ (some ⟨0, 0, none⟩) cap (by show 1 ≤ 10; omega) hlen hV
      exact ⟨_, inS [x], sE, renOf [x], inputs_of [x] (by simp) (fun y hy => by simp only [List.mem_singleton] at hy; subst hy; exact hin), .cons (hmk [x] 0 rfl) .nil, hE2, Nat.zero_le _⟩
  · cases h
def rightF_ (D : CatD) : Value := .bool D.right
def putF_ (D : CatD) : Value := .agg ⟨putD D⟩
theorem told_rightE : AE.Told Tryd.prog 13 (lookA rightF_) :=
  told_look rightF_ (fun D => plain_bool _) told_rightC fun s D a cap hn hl hv => by
    obtain ⟨s1, e, _⟩ := rightCA_run (s := s) (a := a) (cap := cap) D (by omega) hv (fun i hi => bl9 (by omega))
    exact ⟨s1, e⟩
theorem ints_zeroL : Ints zeroL.cells := fun v hv => by
  unfold LeafD.cells at hv
  rcases List.mem_append.1 hv with hv | hv
  · simp only [List.mem_cons, List.not_mem_nil, or_false] at hv
    rcases hv with rfl | rfl | rfl | rfl | rfl <;> exact ⟨_, _, rfl⟩
  · obtain ⟨x, _, rfl⟩ := List.mem_map.1 hv
    exact ⟨_, _, rfl⟩
theorem told_putE : AE.Told Tryd.prog 7 (lookA putF_) :=
  told_look putF_ (fun D => by
    unfold putF_ putD
    split
    · exact plain_agg (ints_put D).plain
    · exact plain_agg ints_zeroL.plain) told_putC fun s D a cap hn hl hv => by
    obtain ⟨s1, e1, hr, _⟩ := rdV_run hv (fun cs => opt (filesOf cs) fun fs => bump (4 + 2 * D.files.length) (.pure (Value.agg ⟨putD ⟨D.gen, D.step, D.status, D.ended, D.from_, D.to_, D.budget, D.fan, fs⟩⟩)))
    rw [fcs_len, filesOf_fcs] at e1
    obtain ⟨s2, e2, _⟩ := bump_ok (4 + 2 * D.files.length) (AM.pure (Value.agg ⟨putD D⟩)) s1 (by rw [hr.next]; intro i hi; exact bl9 (by omega))
    refine ⟨s2, ?_⟩
    show (when (Nat.ble D.files.length 1000000) (rdV a (4 * D.files.length) fun cs => opt (filesOf cs) fun fs => bump (4 + 2 * D.files.length) (.pure (Value.agg ⟨putD ⟨D.gen, D.step, D.status, D.ended, D.from_, D.to_, D.budget, D.fan, fs⟩⟩)))).run s = _
    rw [show Nat.ble D.files.length 1000000 = true from ble_iff.2 (by omega), show ∀ k : AM Value, when true k = k from fun _ => rfl, e1]
    exact e2
end Go.Proofs.YtgofanjbhbeniaaDoor.lf
end
end

section
/- Chapter 6's runs, evaluated over the named memory. -/
namespace Go.Proofs.YtgofanjbhbeniaaDoor

theorem catalogRuns_lawful : AE.lawful Tryd.prog = true := by kernel_rfl
set_option maxRecDepth 100000 in
set_option maxHeartbeats 100000000 in
theorem catalogRuns_run : AE.isTrue (AE.ev (AE.Env.of Tryd.prog) 100000 (.next (.enter 17 [])) AE.s0) = true := by kernel_rfl
theorem catalogRuns_any (w0 : World) : Calls Tryd.prog 17 #[] w0 fun e w' => e = .returned (.bool true) ∧ Go.RowKit.Below w0.heap.size w0 w' :=
  AE.calls_true catalogRuns_lawful (Checked.mixed Tryd.checked) catalogRuns_run w0
end Go.Proofs.YtgofanjbhbeniaaDoor
end

section
/- Catalogs come back: the statement's first steps. -/
noncomputable section
namespace Go.Proofs.YtgofanjbhbeniaaDoor.lf
open AE
set_option linter.unusedSimpArgs false
set_option linter.unusedVariables false
set_option maxRecDepth 10000

noncomputable def fiCK : FI := FI.of Tryd.f6
noncomputable def cdCK : Code := bodyOf Tryd.f6
theorem resCK : fiCK.results = [.tmp 4] := rfl
abbrev sigCK : List (Nat × (List Value → AM Value)) := [(7, lookA putF_), (13, lookA rightF_), (9, getCA), (22, putA), (21, getA), (16, catsA), (17, constA (.bool true))]
theorem tolds_CK : Tolds Tryd.prog (sumsOf sigCK) := tolds_cons told_putE (tolds_cons told_rightE (tolds_cons told_getC (tolds_cons told_put (tolds_cons told_get (tolds_cons told_cats (tolds_cons (told_of_calls rfl catalogRuns_any) tolds_nil))))))
theorem ckP : sumsOf sigCK 7 = some (lookA putF_) := rfl
theorem ckR : sumsOf sigCK 13 = some (lookA rightF_) := rfl
theorem ckG : sumsOf sigCK 9 = some getCA := rfl
theorem ckLP : sumsOf sigCK 22 = some putA := rfl
theorem ckLG : sumsOf sigCK 21 = some getA := rfl
theorem ckC : sumsOf sigCK 16 = some catsA := rfl
theorem ckX : sumsOf sigCK 17 = some (constA (.bool true)) := rfl
theorem tgGC : ∀ a b, targetA E (.func 9) a b = .pure (.enter 9 (b ++ a)) := tgt (fi := fiGC) (c := cdGC) (by kernel_rfl) (by kernel_rfl)
theorem tgCs : ∀ a b, targetA E (.func 16) a b = .pure (.enter 16 (b ++ a)) := tgt (fi := fiCs) (c := cdCs) (by kernel_rfl) (by kernel_rfl)
theorem tgCX : ∀ a b, targetA E (.func 17) a b = .pure (.enter 17 (b ++ a)) := tgt (fi := FI.of Tryd.f17) (c := bodyOf Tryd.f17) (by kernel_rfl) (by kernel_rfl)
theorem cxRun (s : S) : (constA (.bool true) []).run s = some (.bool true, s) := rfl

theorem lookA_at {H : Tr AObj} {N mk rd wr : Nat} {a : Option Addr} {cap : Nat} (F : CatD → Value) (D : CatD) (hl : D.files.length ≤ 10000) (hv : Vx ⟨H, N, 0, 0, 0⟩ a (fcs D.files)) : ∃ rd', (lookA F [.agg ⟨D.cells a cap⟩]).run ⟨H, N, mk, rd, wr⟩ = some (F D, ⟨H, N, mk, rd', wr⟩) := by
  obtain ⟨s1, e1, hr, hw⟩ := lookA_run (s := ⟨H, N, mk, rd, wr⟩) (a := a) (cap := cap) F D hl (hv.keep (Nat.le_refl _) (fun _ _ => rfl))
  obtain ⟨H1, N1, mk1, rd1, wr1⟩ := s1
  have h1 : H1 = H := hr.heap
  have h2 : N1 = N := hr.next
  have h3 : mk1 = mk := hr.mark
  have h4 : wr1 = wr := hw
  subst h1; subst h2; subst h3; subst h4
  exact ⟨rd1, e1⟩
/-- a list that is handed in may be cut -/
def CutOK (a : Option Addr) (n cap : Nat) : Prop := (a = none ∧ n = 0 ∧ cap = 0) ∨ (∃ b, a = some ⟨b, 0, none⟩ ∧ ((Nat.ble OPEN cap = false ∧ n ≤ cap) ∨ ∃ c, Nat.ble OPEN cap = true ∧ Nat.sub cap OPEN = c ∧ Nat.add OPEN c = cap ∧ 0 < c ∧ n ≤ c))
theorem sub0 (k : Nat) : Nat.sub k 0 = k := rfl
theorem slc_nil (s : S) : (sliceA 4 none 0 0 0 none).run s = some (.value (.slice none 0 0), s) := by
  simp only [sliceA, show Nat.ble OPEN 0 = false from rfl, sliceE, when, show Nat.ble 0 0 = true from rfl, Bool.and_self, val, AM.run]
theorem slc_all {b cap m : Nat} (hb : Nat.ble OPEN cap = false) (h2 : Nat.ble m cap = true) (h0 : Nat.ble 0 m = true) (s : S) : (sliceA 4 (some ⟨b, 0, none⟩) cap 0 m none).run s = some (.value (.slice (some ⟨b, 0, none⟩) m cap), s) := by
  have had : addIf ⟨b, 0, none⟩ cap 0 4 = ⟨b, 0, none⟩ := by
    unfold addIf
    split <;> rfl
  simp only [sliceA, hb, sliceE, when, h2, h0, Bool.and_self, val, AM.run, had, sub0]
theorem slc_open {b cap m c : Nat} (hb : Nat.ble OPEN cap = true) (hs : Nat.sub cap OPEN = c) (hadd : Nat.add OPEN c = cap) (hq : Nat.beq c 0 = false) (h2 : Nat.ble m c = true) (h0 : Nat.ble 0 m = true) (s : S) : (sliceA 4 (some ⟨b, 0, none⟩) cap 0 m none).run s = some (.value (.slice (some ⟨b, 0, none⟩) m cap), s) := by
  have had : addA ⟨b, 0, none⟩ (Nat.mul 0 4) = ⟨b, 0, none⟩ := rfl
  have e1 : sliceA 4 (some ⟨b, 0, none⟩) cap 0 m none = sliceO 4 ⟨b, 0, none⟩ c 0 m := by
    unfold sliceA
    simp only [hb, hs]
  rw [e1]
  unfold sliceO
  simp only [when, h2, h0, Bool.and_self, hq, val, AM.run, sub0, hadd, had]
theorem slc_run {a : Option Addr} {n cap m : Nat} (h : CutOK a n cap) (hm : m ≤ n) : ∀ s, (sliceA 4 a cap 0 m none).run s = some (.value (.slice a m cap), s) := by
  intro s
  have h0 : Nat.ble 0 m = true := ble_iff.2 (Nat.zero_le _)
  rcases h with ⟨rfl, rfl, rfl⟩ | ⟨b, rfl, h⟩
  · obtain rfl : m = 0 := by omega
    exact slc_nil s
  · rcases h with ⟨hb, h2⟩ | ⟨c, hb, hs, hadd, h1, h2⟩
    · exact slc_all hb (ble_iff.2 (by omega)) h0 s
    · exact slc_open hb hs hadd (by
        cases hh : Nat.beq c 0 with
        | false => rfl
        | true => have := beq_iff.1 hh; omega) (ble_iff.2 (by omega)) h0 s
theorem min_run (n : Nat) : minMax false [.int .i64 (.ofNat n), .int .i64 16] = some (.int .i64 (.ofNat (min n 16))) := by
  show minMax.go false .i64 (.ofNat n) [.int .i64 16] = _
  show some (Value.int .i64 (match ltI 16 (Int.ofNat n) with | true => 16 | false => Int.ofNat n)) = _
  have e : ltI 16 (Int.ofNat n) = decide (16 < n) := by
    rw [ltI_eq]
    have : (16 : Int) < Int.ofNat n ↔ 16 < n := by show (16 : Int) < (n : Int) ↔ _; omega
    simp only [this]
  rw [e]
  by_cases h : 16 < n
  · rw [decide_eq_true h, Nat.min_eq_right (by omega)]; rfl
  · rw [decide_eq_false h, Nat.min_eq_left (by omega)]
def cutD (D : CatD) : CatD := { D with files := D.files.take 16 }
theorem fcs_take : ∀ (l : List FileD) (k : Nat), fcs (l.take k) = (fcs l).take (4 * k)
  | [], k => by simp [fcs]
  | f :: l, 0 => rfl
  | f :: l, k + 1 => by
    rw [show 4 * (k + 1) = 4 * k + 4 by omega]
    show f.cells ++ fcs (l.take k) = (f.cells ++ fcs l).take (4 * k + 4)
    rw [fcs_take l k]
    rfl
theorem cutD_cells (D : CatD) (a : Option Addr) (cap : Nat) : (D.cells a cap).set 8 (.slice a (min D.files.length 16) cap) = (cutD D).cells a cap := by
  show _ = [_, _, _, _, _, _, _, _, Value.slice a (D.files.take 16).length cap]
  rw [List.length_take, Nat.min_comm]
  rfl
theorem Vx.cut {s : S} {a : Option Addr} {D : CatD} (h : Vx s a (fcs D.files)) : Vx s a (fcs (cutD D).files) := by
  show Vx s a (fcs (D.files.take 16))
  rw [fcs_take]
  cases a with
  | none =>
    have h : fcs D.files = [] := h
    show (fcs D.files).take 64 = []
    rw [h]; rfl
  | some ad =>
    obtain ⟨h1, h2⟩ := h
    refine ⟨h1, ?_⟩
    obtain ⟨hlt, c, m, k1, k2, k3⟩ := h2
    refine ⟨hlt, c, m, k1, by rw [List.length_take]; omega, ?_⟩
    have := k3.sub 0 (4 * 16)
    simpa using this
theorem cut_len (D : CatD) : (cutD D).files.length ≤ 16 := by
  show (D.files.take 16).length ≤ 16
  rw [List.length_take]; omega
theorem clash_zero (b : Nat) : ∀ seen, clash 0 0 b seen = false
  | [] => rfl
  | (i, r, w) :: l => by
    have h1 : Nat.lor (Nat.land w (Nat.lor 0 0)) (Nat.land r 0) = 0 := by
      show (w &&& (0 ||| 0)) ||| (r &&& 0) = 0
      simp
    simp only [clash, h1]
    exact clash_zero b l
/-- ahead of the first question -/
structure BackAt (A B : CatD) (a1 a2 : Option Addr) (c1 c2 : Nat) (t : Tr Value) (s : S) : Prop where
  t2 : t.get 2 = some (.pointer (some ⟨2, 0, none⟩))
  t3 : t.get 3 = some (.pointer (some ⟨3, 0, none⟩))
  t5 : t.get 5 = some (.pointer (some ⟨4, 0, none⟩))
  t6 : t.get 6 = some (.pointer (some ⟨5, 0, none⟩))
  next : s.next = 6
  A2 : Cl s 2 0 (A.cells a1 c1)
  B3 : Cl s 3 0 (B.cells a2 c2)
  P4 : Cl s 4 0 (putD A)
  Q5 : Cl s 5 0 (putD B)
  VA : Vx s a1 (fcs A.files)
  VB : Vx s a2 (fcs B.files)
theorem putD_len (D : CatD) : (putD D).length = 121 := by
  unfold putD
  cases h : D.right with
  | true => exact putV_len D (right_len h)
  | false => exact zeroL.len zero_len
theorem putD_one (D : CatD) : allOne (putD D) = true := by
  have hi : ∀ l, Ints l → allOne l = true := by
    intro l
    induction l with
    | nil => intro _; rfl
    | cons v l ih =>
      intro h
      obtain ⟨k, n, rfl⟩ := h v (by simp)
      simp only [allOne, oneB, ih (fun u hu => h u (by simp [hu]))]
  refine hi _ ?_
  unfold putD
  split
  · exact ints_put D
  · exact ints_zeroL
theorem chCK : cdCK = .seq (sub [0] cdCK) (.seq (sub [1,0] cdCK) (.seq (sub [1,1,0] cdCK) (sub [1,1,1] cdCK))) := rfl
set_option maxHeartbeats 4000000 in
theorem back_start (q : Free) (hq : 100000 ≤ q.hi) (D1 D2 : CatD) (a1 a2 : Option Addr) (c1 c2 : Nat) (sI : S) (hn : sI.next ≤ 2) (hV1 : Vx sI a1 (fcs (cutD D1).files)) (hV2 : Vx sI a2 (fcs (cutD D2).files)) (h1 : CutOK a1 D1.files.length c1) (h2 : CutOK a2 D2.files.length c2)
    (Q : Ex → Fr → S → Prop) (hrest : ∀ t s, BackAt (cutD D1) (cutD D2) a1 a2 c1 c2 t s → GoW Tryd.prog q (sub [1,1,1] cdCK) ⟨6, t, 90, [], none⟩ s Q) :
    GoW Tryd.prog q cdCK ⟨6, Tr.ofList [.agg ⟨D1.cells a1 c1⟩, .agg ⟨D2.cells a2 c2⟩], 90, [], none⟩ sI Q := by
  refine gow_less (fr2 := ⟨6, Tr.ofList [.agg ⟨D1.cells a1 c1⟩, .agg ⟨D2.cells a2 c2⟩], 90, [], none⟩) (s2 := ⟨sI.heap, 2, 0, 0, 0⟩) ?_ ⟨hn, fun m o ho => ⟨o, ho, .refl o⟩⟩ (Nat.zero_le _) ⟨rfl, rfl, rfl, rfl, fun _ _ h => h⟩
  have hV1 : Vx ⟨sI.heap, 2, 0, 0, 0⟩ a1 (fcs (cutD D1).files) := hV1.keep hn (fun _ _ => rfl)
  have hV2 : Vx ⟨sI.heap, 2, 0, 0, 0⟩ a2 (fcs (cutD D2).files) := hV2.keep hn (fun _ _ => rfl)
  generalize hHI : sI.heap = HI at *
  rw [chCK]
  generalize hre : sub [1,1,1] cdCK = re at *
  simp only [cdCK, Tryd.f6, bodyOf, sub]
  have g0 : (Tr.ofList [Value.agg ⟨D1.cells a1 c1⟩, .agg ⟨D2.cells a2 c2⟩]).get 0 = some (.agg ⟨D1.cells a1 c1⟩) := rfl
  have g1 : (Tr.ofList [Value.agg ⟨D1.cells a1 c1⟩, .agg ⟨D2.cells a2 c2⟩]).get 1 = some (.agg ⟨D2.cells a2 c2⟩) := rfl
  generalize Tr.ofList [Value.agg ⟨D1.cells a1 c1⟩, .agg ⟨D2.cells a2 c2⟩] = t at *
  have b2 : Nat.ble 2 lastName = true := rfl
  have b3 : Nat.ble 3 lastName = true := rfl
  have b4 : Nat.ble 4 lastName = true := rfl
  have b5 : Nat.ble 5 lastName = true := rfl
  apply gow_seq
  apply gow_of hE hmix tolds_CK
  repeat apply go_seq
  apply go_region
  case h => intro m; simp (maxSteps := 2000000) (disch := decide) only [opsLoop, evOper, wantedA, nth, aop, aPick, aBin, aIndexAddr, aFieldAddr, aLoad, aStore, aExtract, aConvert, aAlloc, aBox, aIndex, callA, builtinA, Fr.evs, opt, val, when, AM.run, outV, newA, ptr, force_eq, seen_heap, seen_next, seen_mark, seen_seen, agg_cells, int_cells, Fr.ev, Fr.put, onFr, gps, gpn, bltT, still, flat, List.append_nil, List.nil_append, List.cons_append, Nat.reduceEqDiff, ne_eq, not_false_eq_true, reduceCtorEq, Bool.and_true, Bool.true_and, Bool.and_false, Bool.false_and, Bool.not_true, Bool.not_false, Bool.and_self, g0, g1, tyC, b2, show Nat.ble (Nat.succ 2) lastName = true from rfl, show Nat.ble (D1.cells a1 c1).length lastName = true from rfl, show Nat.ble (D2.cells a2 c2).length lastName = true from rfl]; rfl
  refine ⟨by show 4 ≤ q.hi; omega, ?_⟩
  show GoW _ _ _ _ _ _
  generalize hs1 : S.mk _ _ _ _ _ = s2
  have e1 : s2.next = 4 := by rw [← hs1]
  have e1m : s2.mark = 0 := by rw [← hs1]
  have e1h : s2.heap = (HI.put 2 (some (.cells (Tr.ofList (D1.cells a1 c1)) 9 27 .whole))).put 3 (some (.cells (Tr.ofList (D2.cells a2 c2)) 9 27 .whole)) := by rw [← hs1]; rfl
  clear hs1
  have o2 : s2.heap.get 2 = some (.cells (Tr.ofList (D1.cells a1 c1)) 9 27 .whole) := by rw [e1h, hg_far b3 (by omega)]; exact hg_same b2 _ _
  have o3 : s2.heap.get 3 = some (.cells (Tr.ofList (D2.cells a2 c2)) 9 27 .whole) := by rw [e1h]; exact hg_same b3 _ _
  have old : ∀ m, m < 2 → s2.heap.get m = HI.get m := fun m hm => by rw [e1h, hg_far b3 (by omega), hg_far b2 (by omega)]
  clear e1h
  obtain ⟨H, N, mk, rd, wr⟩ := s2
  simp only at e1 e1m o2 o3
  subst e1
  have L2 : Cl ⟨H, 4, 4, 0, 0⟩ 2 0 (D1.cells a1 c1) := ⟨by show 2 < 4; omega, _, _, .inl ⟨_, _, o2⟩, by show 0 + 9 ≤ 9; omega, row_ofList _ (by show 9 ≤ _; unfold Tr.wide; omega)⟩
  have L3 : Cl ⟨H, 4, 4, 0, 0⟩ 3 0 (D2.cells a2 c2) := ⟨by show 3 < 4; omega, _, _, .inl ⟨_, _, o3⟩, by show 0 + 9 ≤ 9; omega, row_ofList _ (by show 9 ≤ _; unfold Tr.wide; omega)⟩
  have x2 := L2.ld (k := 8) tiFs (by rw [dsFs]; rfl) rfl
  have x3 := L3.ld (k := 8) tiFs (by rw [dsFs]; rfl) rfl
  simp only [Nat.zero_add] at x2 x3
  have ad2 : addA ⟨2, 0, none⟩ 8 = ⟨2, 8, none⟩ := rfl
  have ad3 : addA ⟨3, 0, none⟩ 8 = ⟨3, 8, none⟩ := rfl
  have mn1 := min_run D1.files.length
  have mn2 := min_run D2.files.length
  have sc1 := slc_run h1 (Nat.min_le_left D1.files.length 16)
  have sc2 := slc_run h2 (Nat.min_le_left D2.files.length 16)
  generalize hK2 : wrCells (Tr.ofList (D1.cells a1 c1)) 8 [Value.slice a1 (min D1.files.length 16) c1] = K2
  generalize hK3 : wrCells (Tr.ofList (D2.cells a2 c2)) 8 [Value.slice a2 (min D2.files.length 16) c2] = K3
  have st2 : ∀ rd wr, (storeA ⟨2, 8, none⟩ [.slice a1 (min D1.files.length 16) c1] (AM.pure (ANext.value undefV))).run ⟨H, 4, 4, rd, wr⟩ = some (.value undefV, ⟨H.put 2 (some (.cells K2 9 27 .whole)), 4, 4, bit 4 2 rd, bit 4 2 wr⟩) := fun rd wr => by
    rw [storeA_run (s := ⟨H, 4, 4, rd, wr⟩) _ rfl (by show 2 < 4; omega) b2 o2 (by show 8 + 1 ≤ 9; omega) (by omega), hK2]
    rfl
  have st3 : ∀ rd wr, (storeA ⟨3, 8, none⟩ [.slice a2 (min D2.files.length 16) c2] (AM.pure (ANext.value undefV))).run ⟨H.put 2 (some (.cells K2 9 27 .whole)), 4, 4, rd, wr⟩ = some (.value undefV, ⟨(H.put 2 (some (.cells K2 9 27 .whole))).put 3 (some (.cells K3 9 27 .whole)), 4, 4, bit 4 3 rd, bit 4 3 wr⟩) := fun rd wr => by
    rw [storeA_run (s := ⟨H.put 2 (some (.cells K2 9 27 .whole)), 4, 4, rd, wr⟩) _ rfl (by show 3 < 4; omega) b3 (by show (H.put 2 _).get 3 = _; rw [hg_far b2 (by omega)]; exact o3) (by show 8 + 1 ≤ 9; omega) (by omega), hK3]
    rfl
  have rK2 : Row K2 0 ((cutD D1).cells a1 c1) := by
    rw [← hK2, ← cutD_cells]
    exact row_set (row_ofList _ (by show 9 ≤ _; unfold Tr.wide; omega)) (by omega)
  have rK3 : Row K3 0 ((cutD D2).cells a2 c2) := by
    rw [← hK3, ← cutD_cells]
    exact row_set (row_ofList _ (by show 9 ≤ _; unfold Tr.wide; omega)) (by omega)
  have i16 : intOf? (.int .i64 (.ofNat (min D1.files.length 16))) = some (min D1.files.length 16) := rfl
  have i17 : intOf? (.int .i64 (.ofNat (min D2.files.length 16))) = some (min D2.files.length 16) := rfl
  apply gow_seq
  apply gow_of hE hmix tolds_CK
  repeat apply go_seq
  apply go_drawn
  case hs => rfl
  case h => intro m; simp (maxSteps := 2000000) (disch := decide) only [opsLoop, evOper, wantedA, nth, aop, aPick, aBin, aIndexAddr, aFieldAddr, aLoad, aStore, aExtract, aConvert, aAlloc, aBox, aIndex, callA, builtinA, Fr.evs, opt, val, when, AM.run, outV, newA, ptr, force_eq, seen_heap, seen_next, seen_mark, seen_seen, agg_cells, int_cells, Fr.ev, Fr.put, onFr, gps, gpn, bltT, still, flat, List.append_nil, List.nil_append, List.cons_append, Nat.reduceEqDiff, ne_eq, not_false_eq_true, reduceCtorEq, Bool.and_true, Bool.true_and, Bool.and_false, Bool.false_and, Bool.not_true, Bool.not_false, Bool.and_self, drawnLoop, force_eq, S.seen, keep_none, clash_nil, clash_reads, created_self, lor_zero, lor_zero', tyC, dsC, flC5, ftC5, foC5, tyFs, dsFs, szFs, ble11, ad2, ad3, x2, x3, mn1, mn2, aSlice, lowHigh, i16, i17, tyF, szF, sc1, sc2, sl_cells, show Nat.beq ([Value.slice a1 (min D1.files.length 16) c1] : List Value).length 1 = true from rfl, show Nat.beq ([Value.slice a2 (min D2.files.length 16) c2] : List Value).length 1 = true from rfl, st2, st3, clash_bef]; rfl
  refine ⟨by show 4 ≤ q.hi; omega, ?_⟩
  show GoW _ _ _ _ _ _
  generalize hs3 : S.mk _ _ _ _ _ = s3
  have e3 : s3.next = 4 := by rw [← hs3]
  have e3h : s3.heap = (H.put 2 (some (.cells K2 9 27 .whole))).put 3 (some (.cells K3 9 27 .whole)) := by rw [← hs3]
  clear hs3
  have q2 : s3.heap.get 2 = some (.cells K2 9 27 .whole) := by rw [e3h, hg_far b3 (by omega)]; exact hg_same b2 _ _
  have q3 : s3.heap.get 3 = some (.cells K3 9 27 .whole) := by rw [e3h]; exact hg_same b3 _ _
  have qo : ∀ m, m < 2 → s3.heap.get m = H.get m := fun m hm => by rw [e3h, hg_far b3 (by omega), hg_far b2 (by omega)]
  clear e3h
  -- a list that is handed in lies below
  have low : ∀ (a : Option Addr) (D : CatD) (s s' : S), Vx ⟨HI, 2, 0, 0, 0⟩ a (fcs (cutD D).files) → 2 ≤ s'.next → (∀ m, m < 2 → s'.heap.get m = HI.get m) → Vx s' a (fcs (cutD D).files) := fun a D s s' h hn hg => Vx.keep (s := ⟨HI, 2, 0, 0, 0⟩) h hn hg
  have qo2 : ∀ m, m < 2 → s3.heap.get m = HI.get m := fun m hm => (qo m hm).trans (old m hm)
  obtain ⟨H3, N3, mk3, rd3, wr3⟩ := s3
  simp only at e3 q2 q3 qo2
  subst e3
  have M2 : Cl ⟨H3, 4, 4, 0, 0⟩ 2 0 ((cutD D1).cells a1 c1) := ⟨by show 2 < 4; omega, _, _, .inl ⟨_, _, q2⟩, by show 0 + 9 ≤ 9; omega, rK2⟩
  have M3 : Cl ⟨H3, 4, 4, 0, 0⟩ 3 0 ((cutD D2).cells a2 c2) := ⟨by show 3 < 4; omega, _, _, .inl ⟨_, _, q3⟩, by show 0 + 9 ≤ 9; omega, rK3⟩
  have y2 := M2.ldA (β := ANext) tiC (by rw [dsC]; rfl) (by rw [szC]; rfl)
  have y3 := M3.ldA (β := ANext) tiC (by rw [dsC]; rfl) (by rw [szC]; rfl)
  have hl1 := cut_len D1
  have hl2 := cut_len D2
  obtain ⟨rp1, p1⟩ := lookA_at (H := H3) (N := 4) (mk := 4) (rd := 0) (wr := 0) (a := a1) (cap := c1) putF_ (cutD D1) (by omega) (low a1 D1 ⟨H3, 4, 0, 0, 0⟩ _ hV1 (by show 2 ≤ 4; omega) qo2)
  obtain ⟨rp2, p2⟩ := lookA_at (H := H3) (N := 4) (mk := 4) (rd := 0) (wr := 0) (a := a2) (cap := c2) putF_ (cutD D2) (by omega) (low a2 D2 ⟨H3, 4, 0, 0, 0⟩ _ hV2 (by show 2 ≤ 4; omega) qo2)
  have hf1 : putF_ (cutD D1) = .agg ⟨putD (cutD D1)⟩ := rfl
  have hf2 : putF_ (cutD D2) = .agg ⟨putD (cutD D2)⟩ := rfl
  rw [hf1] at p1
  rw [hf2] at p2
  have hzb : Nat.ble zeroL.cells.length lastName = true := by rw [zeroL.len zero_len]; rfl
  have hz : zeroL.cells.length = 121 := zeroL.len zero_len
  have hpl1 : Nat.beq (putD (cutD D1)).length 121 = true := by rw [putD_len]; rfl
  have hpl2 : Nat.beq (putD (cutD D2)).length 121 = true := by rw [putD_len]; rfl
  generalize hH5 : (H3.put 4 (some (.cells (Tr.ofList zeroL.cells) zeroL.cells.length 30 .whole))).put 5 (some (.cells (Tr.ofList zeroL.cells) zeroL.cells.length 30 .whole)) = H5
  have z4 : H5.get 4 = some (.cells (Tr.ofList zeroL.cells) 121 30 .whole) := by rw [← hH5, hg_far b5 (by omega), hg_same b4, hz]
  have z5 : H5.get 5 = some (.cells (Tr.ofList zeroL.cells) 121 30 .whole) := by rw [← hH5, hg_same b5, hz]
  generalize hZ1 : wrCells (Tr.ofList zeroL.cells) 0 (putD (cutD D1)) = Z1
  generalize hZ2 : wrCells (Tr.ofList zeroL.cells) 0 (putD (cutD D2)) = Z2
  have st4 : ∀ rd wr, (storeA ⟨4, 0, none⟩ (putD (cutD D1)) (AM.pure (ANext.value undefV))).run ⟨H5, Nat.succ (Nat.succ 4), Nat.succ (Nat.succ 4), rd, wr⟩ = some (.value undefV, ⟨H5.put 4 (some (.cells Z1 121 30 .whole)), Nat.succ (Nat.succ 4), Nat.succ (Nat.succ 4), bit 6 4 rd, bit 6 4 wr⟩) := fun rd wr => by
    rw [storeA_run (s := ⟨H5, Nat.succ (Nat.succ 4), Nat.succ (Nat.succ 4), rd, wr⟩) _ (putD_one _) (by show 4 < 6; omega) b4 z4 (by rw [putD_len]; omega) (by omega), hZ1]
    rfl
  have st5 : ∀ rd wr, (storeA ⟨5, 0, none⟩ (putD (cutD D2)) (AM.pure (ANext.value undefV))).run ⟨H5.put 4 (some (.cells Z1 121 30 .whole)), Nat.succ (Nat.succ 4), Nat.succ (Nat.succ 4), rd, wr⟩ = some (.value undefV, ⟨(H5.put 4 (some (.cells Z1 121 30 .whole))).put 5 (some (.cells Z2 121 30 .whole)), Nat.succ (Nat.succ 4), Nat.succ (Nat.succ 4), bit 6 5 rd, bit 6 5 wr⟩) := fun rd wr => by
    rw [storeA_run (s := ⟨H5.put 4 (some (.cells Z1 121 30 .whole)), Nat.succ (Nat.succ 4), Nat.succ (Nat.succ 4), rd, wr⟩) _ (putD_one _) (by show 5 < 6; omega) b5 (by show (H5.put 4 _).get 5 = _; rw [hg_far b4 (by omega)]; exact z5) (by rw [putD_len]; omega) (by omega), hZ2]
    rfl
  have hH5' : (H3.put 4 (some (.cells (Tr.ofList zeroL.cells) zeroL.cells.length 30 .whole))).put (Nat.succ 4) (some (.cells (Tr.ofList zeroL.cells) zeroL.cells.length 30 .whole)) = H5 := hH5
  have s5 : Nat.succ 4 = 5 := rfl
  have hh : ∀ m, m < 4 → ((H5.put 4 (some (.cells Z1 121 30 .whole))).put 5 (some (.cells Z2 121 30 .whole))).get m = H3.get m := fun m hm => by
    rw [hg_far b5 (by omega), hg_far b4 (by omega), ← hH5, hg_far b5 (by omega), hg_far b4 (by omega)]
  apply gow_seq
  apply gow_of hE hmix tolds_CK
  repeat apply go_seq
  apply go_drawn
  case hs => rfl
  case h => intro m; simp (maxSteps := 2000000) (disch := decide) only [opsLoop, evOper, wantedA, nth, aop, aPick, aBin, aIndexAddr, aFieldAddr, aLoad, aStore, aExtract, aConvert, aAlloc, aBox, aIndex, callA, builtinA, Fr.evs, opt, val, when, AM.run, outV, newA, ptr, force_eq, seen_heap, seen_next, seen_mark, seen_seen, agg_cells, int_cells, Fr.ev, Fr.put, onFr, gps, gpn, bltT, still, flat, List.append_nil, List.nil_append, List.cons_append, Nat.reduceEqDiff, ne_eq, not_false_eq_true, reduceCtorEq, Bool.and_true, Bool.true_and, Bool.and_false, Bool.false_and, Bool.not_true, Bool.not_false, Bool.and_self, drawnLoop, force_eq, S.seen, keep_none, clash_nil, clash_reads, created_self, lor_zero, lor_zero', tyC, y2, y3, tgPC, evT_told ckP, p1, p2, tyLf, zeLf, hzb, b4, show Nat.ble (Nat.succ 4) lastName = true from rfl, hH5', s5, szLf, hpl1, hpl2, st4, st5, clash_bef, clash_zero]; rfl
  refine ⟨by show 6 ≤ q.hi; omega, ?_⟩
  show GoW _ _ _ _ _ _
  refine hrest _ _ ⟨?_, ?_, ?_, ?_, rfl, ?_, ?_, ?_, ?_, ?_, ?_⟩
  · simp (disch := decide) only [gps, gpn]
  · simp (disch := decide) only [gps, gpn]
  · simp (disch := decide) only [gps, gpn]
  · simp (disch := decide) only [gps, gpn]
  · exact M2.keep (by show 4 ≤ 6; omega) (hh 2 (by omega))
  · exact M3.keep (by show 4 ≤ 6; omega) (hh 3 (by omega))
  · refine ⟨by show 4 < 6; omega, Z1, 121, .inl ⟨30, .whole, ?_⟩, by rw [putD_len]; exact Nat.le_refl 121, ?_⟩
    · show ((H5.put 4 _).put 5 _).get 4 = _
      rw [hg_far b5 (by omega)]; exact hg_same b4 _ _
    · rw [← hZ1]; exact row_wr (by rw [putD_len]; unfold Tr.wide; omega)
  · refine ⟨by show 5 < 6; omega, Z2, 121, .inl ⟨30, .whole, ?_⟩, by rw [putD_len]; exact Nat.le_refl 121, ?_⟩
    · show ((H5.put 4 _).put 5 _).get 5 = _
      exact hg_same b5 _ _
    · rw [← hZ2]; exact row_wr (by rw [putD_len]; unfold Tr.wide; omega)
  · exact low a1 D1 ⟨H3, 4, 0, 0, 0⟩ _ hV1 (by show 2 ≤ 6; omega) (fun m hm => (hh m (by omega)).trans (qo2 m hm))
  · exact low a2 D2 ⟨H3, 4, 0, 0, 0⟩ _ hV2 (by show 2 ≤ 6; omega) (fun m hm => (hh m (by omega)).trans (qo2 m hm))
end Go.Proofs.YtgofanjbhbeniaaDoor.lf
end
end
