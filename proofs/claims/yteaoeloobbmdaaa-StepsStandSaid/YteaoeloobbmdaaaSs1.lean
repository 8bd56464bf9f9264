/- The steps of a job: how many files are there, counted along a map, in whatever order. -/
import Derived.Test.YteaoeloobbmdaaaSs0
noncomputable section
namespace Go.Proofs.Yteaoeloobbmdaaa.lf
open AE
set_option linter.unusedSimpArgs false
set_option linter.unusedVariables false
set_option maxRecDepth 10000

noncomputable def fiSS : FI := FI.of Try.f3
noncomputable def cdSS : Code := bodyOf Try.f3
noncomputable def cdX : Code := sub [1,1,1,0,1,0,0] cdSS
noncomputable def cdY : Code := sub [1,0,0] cdX
noncomputable def cdL8 : Code := sub [1,1,1,1,0,1,0,0] cdY
/-- entries: numbers from 1 on, each there or not -/
def entsFrom : List Bool → Nat → List MapEntry
  | [], _ => []
  | b :: l, k => ⟨.int .i64 (.ofNat (k + 1)), .bool b, k⟩ :: entsFrom l (k + 1)
def isT (e : MapEntry) : Nat := match e.val with | .bool true => 1 | _ => 0
def trues : List MapEntry → Nat
  | [] => 0
  | e :: l => isT e + trues l
theorem trues_app : ∀ (a b : List MapEntry), trues (a ++ b) = trues a + trues b
  | [], b => by simp [trues]
  | e :: a, b => by simp only [List.cons_append, trues, trues_app a b]; omega
theorem ents_bool : ∀ (l : List Bool) (k : Nat) (e : MapEntry), e ∈ entsFrom l k → ∃ v, e.val = .bool v
  | [], k, e, h => by cases h
  | b :: l, k, e, h => by
    rcases List.mem_cons.1 h with rfl | h
    · exact ⟨b, rfl⟩
    · exact ents_bool l (k + 1) e h
theorem ents_born : ∀ (l : List Bool) (k : Nat) (e : MapEntry), e ∈ entsFrom l k → k ≤ e.born ∧ e.born < k + l.length
  | [], k, e, h => by cases h
  | b :: l, k, e, h => by
    rcases List.mem_cons.1 h with rfl | h
    · simp
    · have := ents_born l (k + 1) e h
      simp only [List.length_cons]
      omega
theorem ents_nodup : ∀ (l : List Bool) (k : Nat), ((entsFrom l k).map (·.born)).Nodup
  | [], k => List.nodup_nil
  | b :: l, k => by
    simp only [entsFrom, List.map_cons, List.nodup_cons]
    refine ⟨?_, ents_nodup l (k + 1)⟩
    intro h
    obtain ⟨e, h1, h2⟩ := List.mem_map.1 h
    have := ents_born l (k + 1) e h1
    omega
theorem ents_old : ∀ (l : List Bool) (k n : Nat), k + l.length ≤ n → allOld n (entsFrom l k) = true
  | [], k, n, h => rfl
  | b :: l, k, n, h => by
    simp only [List.length_cons] at h
    simp only [entsFrom, allOld, show Nat.blt k n = true from blt_iff.2 (by omega)]
    exact ents_old l (k + 1) n (by omega)

/-- what is kept while files are counted -/
def Kept (v1 v6 v7 : Value) (t : Tr Value) : Prop := t.get 1 = some v1 ∧ t.get 5 = some (.map (some 0)) ∧ t.get 6 = some v6 ∧ t.get 7 = some v7
def InvR (bl : List Bool) (it top : Nat) (v1 v6 v7 : Value) (k : Nat) (fr : Fr) (s : S) : Prop :=
  ∃ (t : Tr Value) (seen : List Nat) (cnt : Nat), fr = ⟨3, t, 169, [], none⟩ ∧ Kept v1 v6 v7 t ∧ t.get 70 = some (.pointer (some ⟨it, 0, none⟩)) ∧ t.get 14 = some (.int .i64 (.ofNat cnt)) ∧
    s.next = top ∧ s.heap.get 0 = some (.map (entsFrom bl 0) bl.length) ∧ s.heap.get it = some (.mapIter (some 0) bl.length seen bl.length) ∧
    k = (unseen seen (entsFrom bl 0)).length ∧ cnt + trues (unseen seen (entsFrom bl 0)) = trues (entsFrom bl 0)
def PostR (bl : List Bool) (top : Nat) (v1 v6 v7 : Value) (x : Ex) (fr : Fr) (s : S) : Prop :=
  x = .exit 8 ∧ ∃ t : Tr Value, fr = ⟨3, t, 169, [], none⟩ ∧ Kept v1 v6 v7 t ∧ t.get 14 = some (.int .i64 (.ofNat (trues (entsFrom bl 0)))) ∧ s.next = top ∧ s.heap.get 0 = some (.map (entsFrom bl 0) bl.length)

set_option maxHeartbeats 1000000 in
theorem count_round (q : Free) (bl : List Bool) (hbl : bl.length ≤ 1000) (it top : Nat) (v1 v6 v7 : Value) (hit : it < top) (hi0 : it ≠ 0) (htop : top ≤ 100000) (hq : top ≤ q.hi) (k : Nat) (fr : Fr) (s : S) (h : InvR bl it top v1 v6 v7 k fr s) :
    GoW Try.prog q cdL8 fr s (Again (InvR bl it top v1 v6 v7) k (PostR bl top v1 v6 v7)) := by
  obtain ⟨t, seen, cnt, rfl, ⟨h1, h5, h6, h7⟩, h70, h14, hn, h0, hI, rfl, hc⟩ := h
  have hN : Nat.ble it lastName = true := ble_iff.2 (by unfold lastName; omega)
  have hold := ents_old bl 0 bl.length (by omega)
  have hnd := ents_nodup bl 0
  have hbb : Nat.ble bl.length bl.length = true := ble_iff.2 (Nat.le_refl _)
  have hbq : Nat.beq bl.length bl.length = true := beq_iff.2 rfl
  have hbool := ents_bool bl 0
  generalize hes : entsFrom bl 0 = es at *
  simp only [cdL8, cdY, cdX, cdSS, Try.f3, bodyOf, sub]
  cases hu : unseen seen es with
  | nil =>
    obtain ⟨H, N, mk, rd, wr⟩ := s
    simp only at hn h0 hI
    have hb1 : Nat.blt it N = true := blt_iff.2 (by omega)
    have hb0 : Nat.blt 0 N = true := blt_iff.2 (by omega)
    apply gow_of hE hmix tolds_nil
    repeat apply go_seq
    apply go_region
    case h => intro m; simp (maxSteps := 2000000) (disch := decide) only [opsLoop, evOper, wantedA, nth, aop, aPick, aBin, aIndexAddr, aFieldAddr, aLoad, aStore, aExtract, aConvert, aAlloc, aBox, aIndex, callA, builtinA, Fr.evs, opt, val, when, AM.run, outV, newA, ptr, force_eq, seen_heap, seen_next, seen_mark, seen_seen, agg_cells, int_cells, Fr.ev, Fr.put, onFr, gps, gpn, bltT, still, flat, List.append_nil, List.nil_append, List.cons_append, Nat.reduceEqDiff, ne_eq, not_false_eq_true, reduceCtorEq, Bool.and_true, Bool.true_and, Bool.and_false, Bool.false_and, Bool.not_true, Bool.not_false, Bool.and_self, h70, aNext, hb1, hI, hb0, h0, hold, hbb, hu, aExtract, dropL]; rfl
    repeat apply go_seq
    apply go_cond
    case hc => simp (disch := decide) only [opsLoop, evOper, wantedA, nth, aop, aPick, aBin, aIndexAddr, aFieldAddr, aLoad, aStore, aExtract, aConvert, aAlloc, aBox, aIndex, callA, builtinA, Fr.evs, opt, val, when, AM.run, outV, newA, ptr, force_eq, seen_heap, seen_next, seen_mark, seen_seen, agg_cells, int_cells, Fr.ev, Fr.put, onFr, gps, gpn, bltT, still, flat, List.append_nil, List.nil_append, List.cons_append, Nat.reduceEqDiff, ne_eq, not_false_eq_true, reduceCtorEq, Bool.and_true, Bool.true_and, Bool.and_false, Bool.false_and, Bool.not_true, Bool.not_false, Bool.and_self]; rfl
    case h1 => intro h; cases h
    intro _
    apply go_exit
    refine ⟨by show N ≤ _; omega, rfl, _, rfl, ⟨?_, ?_, ?_, ?_⟩, ?_, hn, by rw [hes]; exact h0⟩
    · simp (disch := decide) only [gps, gpn, h1]
    · simp (disch := decide) only [gps, gpn, h5]
    · simp (disch := decide) only [gps, gpn, h6]
    · simp (disch := decide) only [gps, gpn, h7]
    · simp (disch := decide) only [gps, gpn, h14]
      simp only [hu, trues] at hc
      rw [hes, ← hc]; rfl
  | cons e0 l0 =>
    apply gow_seq
    refine gow_next hE hmix (σ := sumsOf []) tolds_nil (o := _) (rest := _) rfl rfl rfl (fr := ⟨3, t, 169, [], none⟩) (it := .tmp 70) h70 hI h0 (by omega) hN hold (Nat.le_refl _) (by rw [hu]; simp) ?_
    intro e he
    obtain ⟨a, b, hu1, hu2⟩ := unseen_step hnd he
    obtain ⟨hmem, _⟩ := unseen_mem he
    obtain ⟨v, hv⟩ := hbool e hmem
    have hbo := bornAt_mem es e hmem hnd
    have hla := lastN_app seen e.born
    refine ⟨⟨3, t.put 71 (some (.tuple ⟨[.bool true, e.key, e.val]⟩)), 169, [], none⟩, ⟨3, (t.put 71 (some (.tuple ⟨[.bool true, e.key, e.val]⟩))).put 72 (some (.bool true)), 169, [], none⟩, s.turn it (some (.mapIter (some 0) bl.length (seen ++ [e.born]) bl.length)), ?_, ⟨1, ?_⟩, by show s.next ≤ _; omega, ?_⟩
    · simp (disch := decide) only [Fr.put, bltT]
    · simp (disch := decide) only [opsLoop, evOper, wantedA, nth, aop, aPick, aBin, aIndexAddr, aFieldAddr, aLoad, aStore, aExtract, aConvert, aAlloc, aBox, aIndex, callA, builtinA, Fr.evs, opt, val, when, AM.run, outV, newA, ptr, force_eq, seen_heap, seen_next, seen_mark, seen_seen, agg_cells, int_cells, Fr.ev, Fr.put, onFr, gps, gpn, bltT, still, flat, List.append_nil, List.nil_append, List.cons_append, Nat.reduceEqDiff, ne_eq, not_false_eq_true, reduceCtorEq, Bool.and_true, Bool.true_and, Bool.and_false, Bool.false_and, Bool.not_true, Bool.not_false, Bool.and_self, aExtract, dropL]
    show GoW _ _ _ _ _ _
    have g0 : (s.turn it (some (.mapIter (some 0) bl.length (seen ++ [e.born]) bl.length))).heap.get 0 = some (.map es bl.length) := by
      show (s.heap.put it _).get 0 = _
      rw [hg_far hN (fun h => hi0 h.symm)]; exact h0
    have gI : (s.turn it (some (.mapIter (some 0) bl.length (seen ++ [e.born]) bl.length))).heap.get it = some (.mapIter (some 0) bl.length (seen ++ [e.born]) bl.length) := hg_same hN _ _
    have gn : (s.turn it (some (.mapIter (some 0) bl.length (seen ++ [e.born]) bl.length))).next = top := hn
    generalize s.turn it (some (.mapIter (some 0) bl.length (seen ++ [e.born]) bl.length)) = s1 at *
    obtain ⟨H, N, mk, rd, wr⟩ := s1
    simp only at gn g0 gI
    have hb1 : Nat.blt it N = true := blt_iff.2 (by omega)
    have hb0 : Nat.blt 0 N = true := blt_iff.2 (by omega)
    have hlen : (unseen (seen ++ [e.born]) es).length < (e0 :: l0).length := by
      rw [← hu, hu1, hu2]; simp
    have hlen2 : bl.length ≤ 1000 := hbl
    have hcl : cnt ≤ trues es := by omega
    have hcnt9 : cnt < 9223372036854775807 := by
      have : ∀ l : List MapEntry, trues l ≤ l.length := by
        intro l
        induction l with
        | nil => exact Nat.le_refl _
        | cons x l ih =>
          have : isT x ≤ 1 := by unfold isT; split <;> omega
          simp only [trues, List.length_cons]; omega
      have h3 := this es
      have h4 : es.length ≤ 1000 := by
        have : ∀ (l : List Bool) (k : Nat), (entsFrom l k).length = l.length := by
          intro l
          induction l with
          | nil => intro k; rfl
          | cons x l ih => intro k; simp only [entsFrom, List.length_cons, ih]
        rw [← hes, this]; exact hbl
      omega
    have hinc := b_incr (n := cnt) hcnt9
    apply gow_of hE hmix tolds_nil
    cases v with
    | true =>
      have hT : isT e = 1 := by unfold isT; rw [hv]
      repeat apply go_seq
      apply go_cond
      case hc => simp (disch := decide) only [opsLoop, evOper, wantedA, nth, aop, aPick, aBin, aIndexAddr, aFieldAddr, aLoad, aStore, aExtract, aConvert, aAlloc, aBox, aIndex, callA, builtinA, Fr.evs, opt, val, when, AM.run, outV, newA, ptr, force_eq, seen_heap, seen_next, seen_mark, seen_seen, agg_cells, int_cells, Fr.ev, Fr.put, onFr, gps, gpn, bltT, still, flat, List.append_nil, List.nil_append, List.cons_append, Nat.reduceEqDiff, ne_eq, not_false_eq_true, reduceCtorEq, Bool.and_true, Bool.true_and, Bool.and_false, Bool.false_and, Bool.not_true, Bool.not_false, Bool.and_self]; rfl
      case h2 => intro h; cases h
      intro _
      apply go_skip
      apply go_block
      repeat apply go_seq
      apply go_region
      case h => intro m; simp (maxSteps := 2000000) (disch := decide) only [opsLoop, evOper, wantedA, nth, aop, aPick, aBin, aIndexAddr, aFieldAddr, aLoad, aStore, aExtract, aConvert, aAlloc, aBox, aIndex, callA, builtinA, Fr.evs, opt, val, when, AM.run, outV, newA, ptr, force_eq, seen_heap, seen_next, seen_mark, seen_seen, agg_cells, int_cells, Fr.ev, Fr.put, onFr, gps, gpn, bltT, still, flat, List.append_nil, List.nil_append, List.cons_append, Nat.reduceEqDiff, ne_eq, not_false_eq_true, reduceCtorEq, Bool.and_true, Bool.true_and, Bool.and_false, Bool.false_and, Bool.not_true, Bool.not_false, Bool.and_self, h70, aEntry, hb1, gI, hla, hb0, g0, hbq, hbo, hv, aExtract, dropL]; rfl
      repeat apply go_seq
      apply go_region
      case h => intro m; simp (maxSteps := 2000000) (disch := decide) only [opsLoop, evOper, wantedA, nth, aop, aPick, aBin, aIndexAddr, aFieldAddr, aLoad, aStore, aExtract, aConvert, aAlloc, aBox, aIndex, callA, builtinA, Fr.evs, opt, val, when, AM.run, outV, newA, ptr, force_eq, seen_heap, seen_next, seen_mark, seen_seen, agg_cells, int_cells, Fr.ev, Fr.put, onFr, gps, gpn, bltT, still, flat, List.append_nil, List.nil_append, List.cons_append, Nat.reduceEqDiff, ne_eq, not_false_eq_true, reduceCtorEq, Bool.and_true, Bool.true_and, Bool.and_false, Bool.false_and, Bool.not_true, Bool.not_false, Bool.and_self]; rfl
      repeat apply go_seq
      apply go_cond
      case hc => simp (disch := decide) only [opsLoop, evOper, wantedA, nth, aop, aPick, aBin, aIndexAddr, aFieldAddr, aLoad, aStore, aExtract, aConvert, aAlloc, aBox, aIndex, callA, builtinA, Fr.evs, opt, val, when, AM.run, outV, newA, ptr, force_eq, seen_heap, seen_next, seen_mark, seen_seen, agg_cells, int_cells, Fr.ev, Fr.put, onFr, gps, gpn, bltT, still, flat, List.append_nil, List.nil_append, List.cons_append, Nat.reduceEqDiff, ne_eq, not_false_eq_true, reduceCtorEq, Bool.and_true, Bool.true_and, Bool.and_false, Bool.false_and, Bool.not_true, Bool.not_false, Bool.and_self]; rfl
      case h2 => intro h; cases h
      intro _
      repeat apply go_seq
      apply go_region
      case h => intro m; simp (maxSteps := 2000000) (disch := decide) only [opsLoop, evOper, wantedA, nth, aop, aPick, aBin, aIndexAddr, aFieldAddr, aLoad, aStore, aExtract, aConvert, aAlloc, aBox, aIndex, callA, builtinA, Fr.evs, opt, val, when, AM.run, outV, newA, ptr, force_eq, seen_heap, seen_next, seen_mark, seen_seen, agg_cells, int_cells, Fr.ev, Fr.put, onFr, gps, gpn, bltT, still, flat, List.append_nil, List.nil_append, List.cons_append, Nat.reduceEqDiff, ne_eq, not_false_eq_true, reduceCtorEq, Bool.and_true, Bool.true_and, Bool.and_false, Bool.false_and, Bool.not_true, Bool.not_false, Bool.and_self, h14, int1, hinc]; rfl
      refine ⟨by show N ≤ _; omega, _, hlen, _, seen ++ [e.born], cnt + 1, rfl, ⟨?_, ?_, ?_, ?_⟩, ?_, ?_, gn, by rw [hes]; exact g0, gI, by rw [hes], ?_⟩
      · simp (disch := decide) only [gps, gpn, h1]
      · simp (disch := decide) only [gps, gpn, h5]
      · simp (disch := decide) only [gps, gpn, h6]
      · simp (disch := decide) only [gps, gpn, h7]
      · simp (disch := decide) only [gps, gpn, h70]
      · simp (disch := decide) only [gps, gpn]
      · rw [hes, hu2]
        rw [hu1] at hc
        simp only [trues_app, trues, hT] at hc ⊢
        omega
    | false =>
      have hT : isT e = 0 := by unfold isT; rw [hv]
      repeat apply go_seq
      apply go_cond
      case hc => simp (disch := decide) only [opsLoop, evOper, wantedA, nth, aop, aPick, aBin, aIndexAddr, aFieldAddr, aLoad, aStore, aExtract, aConvert, aAlloc, aBox, aIndex, callA, builtinA, Fr.evs, opt, val, when, AM.run, outV, newA, ptr, force_eq, seen_heap, seen_next, seen_mark, seen_seen, agg_cells, int_cells, Fr.ev, Fr.put, onFr, gps, gpn, bltT, still, flat, List.append_nil, List.nil_append, List.cons_append, Nat.reduceEqDiff, ne_eq, not_false_eq_true, reduceCtorEq, Bool.and_true, Bool.true_and, Bool.and_false, Bool.false_and, Bool.not_true, Bool.not_false, Bool.and_self]; rfl
      case h2 => intro h; cases h
      intro _
      apply go_skip
      apply go_block
      repeat apply go_seq
      apply go_region
      case h => intro m; simp (maxSteps := 2000000) (disch := decide) only [opsLoop, evOper, wantedA, nth, aop, aPick, aBin, aIndexAddr, aFieldAddr, aLoad, aStore, aExtract, aConvert, aAlloc, aBox, aIndex, callA, builtinA, Fr.evs, opt, val, when, AM.run, outV, newA, ptr, force_eq, seen_heap, seen_next, seen_mark, seen_seen, agg_cells, int_cells, Fr.ev, Fr.put, onFr, gps, gpn, bltT, still, flat, List.append_nil, List.nil_append, List.cons_append, Nat.reduceEqDiff, ne_eq, not_false_eq_true, reduceCtorEq, Bool.and_true, Bool.true_and, Bool.and_false, Bool.false_and, Bool.not_true, Bool.not_false, Bool.and_self, h70, aEntry, hb1, gI, hla, hb0, g0, hbq, hbo, hv, aExtract, dropL]; rfl
      repeat apply go_seq
      apply go_region
      case h => intro m; simp (maxSteps := 2000000) (disch := decide) only [opsLoop, evOper, wantedA, nth, aop, aPick, aBin, aIndexAddr, aFieldAddr, aLoad, aStore, aExtract, aConvert, aAlloc, aBox, aIndex, callA, builtinA, Fr.evs, opt, val, when, AM.run, outV, newA, ptr, force_eq, seen_heap, seen_next, seen_mark, seen_seen, agg_cells, int_cells, Fr.ev, Fr.put, onFr, gps, gpn, bltT, still, flat, List.append_nil, List.nil_append, List.cons_append, Nat.reduceEqDiff, ne_eq, not_false_eq_true, reduceCtorEq, Bool.and_true, Bool.true_and, Bool.and_false, Bool.false_and, Bool.not_true, Bool.not_false, Bool.and_self]; rfl
      repeat apply go_seq
      apply go_cond
      case hc => simp (disch := decide) only [opsLoop, evOper, wantedA, nth, aop, aPick, aBin, aIndexAddr, aFieldAddr, aLoad, aStore, aExtract, aConvert, aAlloc, aBox, aIndex, callA, builtinA, Fr.evs, opt, val, when, AM.run, outV, newA, ptr, force_eq, seen_heap, seen_next, seen_mark, seen_seen, agg_cells, int_cells, Fr.ev, Fr.put, onFr, gps, gpn, bltT, still, flat, List.append_nil, List.nil_append, List.cons_append, Nat.reduceEqDiff, ne_eq, not_false_eq_true, reduceCtorEq, Bool.and_true, Bool.true_and, Bool.and_false, Bool.false_and, Bool.not_true, Bool.not_false, Bool.and_self]; rfl
      case h1 => intro h; cases h
      intro _
      apply go_skip
      refine ⟨by show N ≤ _; omega, _, hlen, _, seen ++ [e.born], cnt, rfl, ⟨?_, ?_, ?_, ?_⟩, ?_, ?_, gn, by rw [hes]; exact g0, gI, by rw [hes], ?_⟩
      · simp (disch := decide) only [gps, gpn, h1]
      · simp (disch := decide) only [gps, gpn, h5]
      · simp (disch := decide) only [gps, gpn, h6]
      · simp (disch := decide) only [gps, gpn, h7]
      · simp (disch := decide) only [gps, gpn, h70]
      · simp (disch := decide) only [gps, gpn, h14]
      · rw [hes, hu2]
        rw [hu1] at hc
        simp only [trues_app, trues, hT] at hc ⊢
        omega
end Go.Proofs.Yteaoeloobbmdaaa.lf
