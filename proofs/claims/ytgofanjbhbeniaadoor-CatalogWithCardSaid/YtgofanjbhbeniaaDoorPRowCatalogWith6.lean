/- Catalogs made anew: each name is found as it should be. -/
import Derived.Test.YtgofanjbhbeniaaDoorPRowCatalogWith5
section
/- Catalogs made anew: the names that are looked at. -/
noncomputable section
namespace Go.Proofs.YtgofanjbhbeniaaDoor.lf
open AE
set_option linter.unusedSimpArgs false
set_option linter.unusedVariables false
set_option maxRecDepth 10000

theorem byI' : tiI.bytes = 8 := by kernel_rfl
theorem app_eqI (a b : Option Addr) (n c n2 c2 : Nat) : builtinA E .append #[43, 43] [.slice a n c, .slice b n2 c2] = appendA 1 1 8 3 a n c n2 (.slice b n2 c2) := by
  simp only [builtinA, tyIs, dsIs, opt, tyI, zeI, szI, byI', lenA, int_cells]
  rfl
/-- numbers that were put one behind the other -/
def AccI (s : S) (lo : Nat) (sv : Value) (ns : List Int) : Prop :=
  (∃ r, r < lo ∧ sv = .slice (some ⟨r, 0, none⟩) ns.length ns.length ∧ Cl s r 0 (icsL ns)) ∨
  ∃ r c, lo ≤ r ∧ r < s.next ∧ sv = .slice (some ⟨r, 0, none⟩) ns.length c ∧ c = Nat.add OPEN ns.length ∧ s.heap.get r = some (.cells (Tr.ofList (icsL ns)) (icsL ns).length 3 .loose)
theorem AccI.keep {s s1 : S} {lo : Nat} {sv : Value} {ns : List Int} (h : AccI s lo sv ns) (hlo : lo ≤ s.next) (hn : s.next ≤ s1.next) (hg : ∀ m, m < s.next → s1.heap.get m = s.heap.get m) : AccI s1 lo sv ns := by
  rcases h with ⟨r, h1, h2, h3⟩ | ⟨r, c, h1, h2, h3, h4, h5⟩
  · exact .inl ⟨r, h1, h2, h3.keep hn (hg r (by omega))⟩
  · exact .inr ⟨r, c, h1, by omega, h3, h4, by rw [hg r h2]; exact h5⟩
theorem AccI.vx {s : S} {lo : Nat} {sv : Value} {ns : List Int} (h : AccI s lo sv ns) (hl : ns.length ≤ 1000) : ∃ r c, sv = .slice (some ⟨r, 0, none⟩) ns.length c ∧ Vx s (some ⟨r, 0, none⟩) (icsL ns) := by
  rcases h with ⟨r, h1, h2, h3⟩ | ⟨r, c, h1, h2, h3, h4, h5⟩
  · exact ⟨r, _, h2, rfl, h3⟩
  · exact ⟨r, c, h3, rfl, Cl.new h2 h5 (by rw [ics_len]; omega)⟩
theorem appendI {s : S} {lo e : Nat} {sv : Value} {ns : List Int} {x : Int} (hA : AccI s lo sv ns) (hf : Cl s e 0 [.int .i64 x]) (hlo : lo ≤ s.next) (h0 : 0 < ns.length) (hmax : ns.length ≤ 1000) (hnext : s.next ≤ 100000000) :
    ∃ s1 sv1, (builtinA E .append #[43, 43] [sv, .slice (some ⟨e, 0, none⟩) 1 1]).run s = some (.value sv1, s1) ∧ s1.next = s.next + 1 ∧ s1.mark = s.mark ∧ AccI s1 lo sv1 (ns ++ [x]) ∧ ∀ m, m < lo → s1.heap.get m = s.heap.get m := by
  have hN : Nat.ble s.next lastName = true := ble_iff.2 (by unfold lastName; omega)
  have hics : icsL ns ++ [.int .i64 x] = icsL (ns ++ [x]) := by unfold icsL; rw [List.map_append]; rfl
  have hlen : (icsL ns).length = ns.length := ics_len ns
  have first : ∀ k : List Value → AM ANext, (firstA 1 1 (.slice (some ⟨e, 0, none⟩) 1 1) k).run s = (k [.int .i64 x]).run (s.seen e) := fun k => cl_load hf k
  have hl2 : (ns ++ [x]).length = ns.length + 1 := by simp
  have mul1' : ∀ n, Nat.mul n 1 = n := Nat.mul_one
  rcases hA with ⟨r, hr, rfl, hcl⟩ | ⟨r, c, hr1, hr2, rfl, hc, hg⟩
  · rw [app_eqI]
    unfold appendA
    have h3 : Nat.ble (Nat.add ns.length 1) maxNeed = true := ble_iff.2 (by show ns.length + 1 ≤ maxNeed; unfold maxNeed; omega)
    have h4 : Nat.ble (Nat.add ns.length 1) ns.length = false := ble_f (by show ns.length < ns.length + 1; omega)
    have h5 : Nat.ble OPEN ns.length = false := ble_f (by unfold OPEN; omega)
    simp only [h3, when, show Nat.ble 1 1 = true from rfl, show Nat.ble 8 1024 = true from rfl, Bool.and_self]
    rw [first]
    simp only [h5, h4]
    have e1 : ∀ k : List Value → AM ANext, (loadA ⟨r, 0, none⟩ (Nat.mul ns.length 1) k).run (s.seen e) = (k (icsL ns)).run ((s.seen e).seen r) := fun k => by
      rw [mul1', ← hlen]; exact cl_load (s := s.seen e) (hcl.of rfl rfl) k
    rw [e1]
    unfold growA
    simp only [when, show Nat.beq 1 1 = true from rfl]
    rw [newA_runW (s := (s.seen e).seen r) (by rw [List.length_append, hlen]; simp; omega) hN]
    refine ⟨_, _, rfl, rfl, rfl, .inr ⟨s.next, _, hlo, Nat.lt_succ_self _, by rw [hl2]; try rfl, by rw [hl2]; try rfl, ?_⟩, fun m hm => hg_far hN (by omega) _ _⟩
    rw [← hics]
    exact hg_same hN _ _
  · have h6 : Nat.ble OPEN c = true := by rw [hc]; exact ble_openW _ _
    have h4 : Nat.sub c OPEN = ns.length := by rw [hc]; exact sub_openW _ _
    rw [app_eqI]
    unfold appendA
    have h3 : Nat.ble (Nat.add ns.length 1) maxNeed = true := ble_iff.2 (by show ns.length + 1 ≤ maxNeed; unfold maxNeed; omega)
    have h5 : Nat.ble (Nat.add ns.length 1) ns.length = false := ble_f (by show ns.length < ns.length + 1; omega)
    simp only [h3, when, show Nat.ble 1 1 = true from rfl, show Nat.ble 8 1024 = true from rfl, Bool.and_self]
    rw [first]
    rw [h6, h4, h5]
    dsimp only
    unfold appendL
    have h7 : rdCells (Tr.ofList (icsL ns)) 0 (Nat.mul ns.length 1) [] = some (icsL ns) := by
      have := rd_row (row_ofList (icsL ns) (by rw [hlen]; unfold Tr.wide; omega))
      rw [hlen] at this
      rw [mul1']; exact this
    have h8 : Nat.beq (Nat.add 0 (Nat.mul ns.length 1)) (icsL ns).length = true := beq_iff.2 (by rw [mul1', hlen]; exact Nat.zero_add _)
    have hN0 : Nat.ble r lastName = true := ble_iff.2 (by unfold lastName; omega)
    simp only [AM.run, seen_next, seen_heap, blt_iff.2 hr2, hg, when, h8, show allOne ([.int .i64 x] : List Value) = true from rfl, show Nat.ble ns.length ns.length = true from ble_iff.2 (Nat.le_refl _), show Nat.beq 3 3 = true from rfl, Bool.and_self, opt, h7]
    simp only [hN0]
    unfold growA
    simp only [when, show Nat.beq 1 1 = true from rfl]
    simp only [Bool.and_self]
    rw [newA_runW (s := ⟨s.heap.put r none, s.next, (s.seen e).mark, bit (s.seen e).mark r (s.seen e).rd, bit (s.seen e).mark r (s.seen e).wr⟩) (by rw [List.length_append, hlen]; simp; omega) hN]
    refine ⟨_, _, rfl, rfl, rfl, .inr ⟨s.next, _, hlo, Nat.lt_succ_self _, by rw [hl2]; try rfl, by rw [hl2]; try rfl, ?_⟩, fun m hm => ?_⟩
    · rw [← hics]
      exact hg_same hN _ _
    · show ((s.heap.put r none).put s.next _).get m = _
      rw [hg_far hN (by omega), hg_far hN0 (by omega)]

noncomputable def cdN : Code := sub [1,1,1,1,1,1,1,1,0,1,0,0] cdWl
def namesOf (name : Int) (M : List FileD) : List Int := name :: M.map (·.name)
theorem namesOf_snoc (name : Int) (M : List FileD) (f : FileD) : namesOf name (M ++ [f]) = namesOf name M ++ [f.name] := by
  unfold namesOf; rw [List.map_append]; rfl
theorem namesOf_len (name : Int) (M : List FileD) : (namesOf name M).length = M.length + 1 := by
  unfold namesOf; simp
def InvN (s0 : S) (X : Nat) (ps : List FileD) (gs : List Int) (name : Int) (a2 a3 : Option Addr) (c2 c3 w n1 cw T R cM : Nat) (M : List FileD) (k : Nat) (fr : Fr) (s : S) : Prop :=
  ∃ (i : Nat) (t : Tr Value) (sv : Value), k = M.length - i ∧ i ≤ M.length ∧ fr = ⟨5, t, 174, [], none⟩ ∧ KX t ps gs name a2 a3 c2 c3 w n1 cw T ∧ t.get 111 = some (.slice (some ⟨R, 0, none⟩) M.length cM) ∧ t.get 112 = some (.int .i64 (.ofNat M.length)) ∧ t.get 113 = some (.int .i64 (.ofNat i)) ∧ t.get 12 = some sv ∧
    s.next = X + 3 * i ∧ AccI s X sv (namesOf name (M.take i)) ∧ ∀ m, m < X → s.heap.get m = s0.heap.get m
def PostN (s0 : S) (X : Nat) (ps : List FileD) (gs : List Int) (name : Int) (a2 a3 : Option Addr) (c2 c3 w n1 cw T : Nat) (M : List FileD) (x : Ex) (fr : Fr) (s : S) : Prop :=
  x = .exit 2 ∧ ∃ (t : Tr Value) (sv : Value), fr = ⟨5, t, 174, [], none⟩ ∧ KX t ps gs name a2 a3 c2 c3 w n1 cw T ∧ t.get 12 = some sv ∧ s.next = X + 3 * M.length ∧ AccI s X sv (namesOf name M) ∧ ∀ m, m < X → s.heap.get m = s0.heap.get m
theorem fillI (x : Int) : fillA (placeA 1) [(0, .int .i64 x)] (repeatL [.int .i64 (Int.ofNat 0)] 1) = some [.int .i64 x] := rfl
set_option maxHeartbeats 4000000 in
theorem name_round (s0 : S) (X : Nat) (hX : X ≤ 1000) (ps : List FileD) (gs : List Int) (name : Int) (a2 a3 : Option Addr) (c2 c3 w n1 cw T R cM : Nat) (M : List FileD) (hl : M.length ≤ 100) (hV : Vx s0 (some ⟨R, 0, none⟩) (fcs M)) (hs0 : s0.next ≤ X) (k : Nat) (fr : Fr) (s : S) (h : InvN s0 X ps gs name a2 a3 c2 c3 w n1 cw T R cM M k fr s) :
    GoC E (sumsOf sigWl) cdN fr s (Again (InvN s0 X ps gs name a2 a3 c2 c3 w n1 cw T R cM M) k (PostN s0 X ps gs name a2 a3 c2 c3 w n1 cw T M)) := by
  obtain ⟨i, t, sv, rfl, hi, rfl, ⟨k1, k2, k3, k4, k9, k10⟩, k111, k112, k113, k12, hn, hA, hg⟩ := h
  simp only [cdN, cdWl, Tryd.f5, bodyOf, sub]
  by_cases hlt : i < M.length
  · obtain ⟨f, hf⟩ : ∃ f, M[i]? = some f := ⟨_, List.getElem?_eq_getElem hlt⟩
    obtain ⟨_, hcl⟩ := hV
    have hR : R < s0.next := hcl.lt
    have hlt' : ltI (Int.ofNat i) (Int.ofNat M.length) = true := by rw [ltI_eq]; simp; omega
    have hbl : Nat.blt i M.length = true := blt_iff.2 hlt
    have hinc := b_incr (n := i) (by omega)
    have htake : M.take (i + 1) = M.take i ++ [f] := by rw [List.take_add_one, hf]; rfl
    have hcs : Cl s R 0 (fcs M) := hcl.keep (by omega) (hg _ (by show R < X; omega))
    have hsub := hcs.sub (i * 4) 4 (by rw [fcs_len]; omega)
    rw [fcs_at M i f hf] at hsub
    have hN1 : Nat.ble s.next lastName = true := ble_iff.2 (by unfold lastName; omega)
    obtain ⟨H, N, mk, rd, wr⟩ := s
    simp only at hn hg hN1
    have st := newCell H N mk hN1 [.int .i64 0, .int .i64 0, .int .i64 0, .int .i64 0] f.cells 41 rfl (by simp [FileD.cells]) rfl
    have lf := hsub.ldA (β := ANext) tiF (by rw [dsF]; rfl) (by rw [szF]; rfl)
    have aa : addA ⟨R, 0, none⟩ (Nat.mul i 4) = ⟨R, 0 + i * 4, none⟩ := addAn R 0 _
    repeat apply go_seq
    apply go_region
    case h => intro m; simp (maxSteps := 2000000) (disch := decide) only [opsLoop, evOper, wantedA, nth, aop, aPick, aBin, aIndexAddr, aFieldAddr, aLoad, aStore, aExtract, aConvert, aAlloc, aBox, aIndex, callA, builtinA, Fr.evs, opt, val, when, AM.run, outV, newA, ptr, force_eq, seen_heap, seen_next, seen_mark, seen_seen, agg_cells, int_cells, Fr.ev, Fr.put, onFr, gps, gpn, bltT, still, flat, List.append_nil, List.nil_append, List.cons_append, Nat.reduceEqDiff, ne_eq, not_false_eq_true, reduceCtorEq, Bool.and_true, Bool.true_and, Bool.and_false, Bool.false_and, Bool.not_true, Bool.not_false, Bool.and_self, k112, k113, b_lss, hlt']; rfl
    repeat apply go_seq
    apply go_cond
    case hc => simp (disch := decide) only [opsLoop, evOper, wantedA, nth, aop, aPick, aBin, aIndexAddr, aFieldAddr, aLoad, aStore, aExtract, aConvert, aAlloc, aBox, aIndex, callA, builtinA, Fr.evs, opt, val, when, AM.run, outV, newA, ptr, force_eq, seen_heap, seen_next, seen_mark, seen_seen, agg_cells, int_cells, Fr.ev, Fr.put, onFr, gps, gpn, bltT, still, flat, List.append_nil, List.nil_append, List.cons_append, Nat.reduceEqDiff, ne_eq, not_false_eq_true, reduceCtorEq, Bool.and_true, Bool.true_and, Bool.and_false, Bool.false_and, Bool.not_true, Bool.not_false, Bool.and_self]; rfl
    case h2 => intro h; cases h
    intro _
    apply go_skip
    apply go_seq
    apply go_block
    repeat apply go_seq
    apply go_region
    case h => intro m; simp (maxSteps := 2000000) (disch := decide) only [opsLoop, evOper, wantedA, nth, aop, aPick, aBin, aIndexAddr, aFieldAddr, aLoad, aStore, aExtract, aConvert, aAlloc, aBox, aIndex, callA, builtinA, Fr.evs, opt, val, when, AM.run, outV, newA, ptr, force_eq, seen_heap, seen_next, seen_mark, seen_seen, agg_cells, int_cells, Fr.ev, Fr.put, onFr, gps, gpn, bltT, still, flat, List.append_nil, List.nil_append, List.cons_append, Nat.reduceEqDiff, ne_eq, not_false_eq_true, reduceCtorEq, Bool.and_true, Bool.true_and, Bool.and_false, Bool.false_and, Bool.not_true, Bool.not_false, Bool.and_self, k111, k113, tyFs, dsFs, hbl, tyF, szF, dsF, aa, lf, zeF, hN1, len4, show Nat.beq f.cells.length 4 = true from rfl, st]; rfl
    generalize hs1 : S.mk _ _ _ _ _ = s1
    have e1 : s1.next = N + 1 := by rw [← hs1]
    have e1h : s1.heap = (H.put N (some (.cells (Tr.ofList [.int .i64 0, .int .i64 0, .int .i64 0, .int .i64 0]) (List.length [Value.int .i64 0, .int .i64 0, .int .i64 0, .int .i64 0]) 41 .whole))).put N (some (.cells (wrCells (Tr.ofList [.int .i64 0, .int .i64 0, .int .i64 0, .int .i64 0]) 0 f.cells) (List.length [Value.int .i64 0, .int .i64 0, .int .i64 0, .int .i64 0]) 41 .whole)) := by rw [← hs1]
    clear hs1
    have F1 : Cl s1 N 0 f.cells := newCell_cl (by omega) (by rw [e1h]; exact hg_same hN1 _ _) rfl (by simp [FileD.cells])
    have g1 : ∀ m, m ≠ N → s1.heap.get m = H.get m := fun m hm => by rw [e1h, hg_far hN1 hm, hg_far hN1 hm]
    clear e1h st
    have A1 : AccI s1 X sv (namesOf name (M.take i)) := hA.keep (by show X ≤ N; omega) (by show N ≤ _; omega) (fun m hm => g1 m (by have : m < N := hm; omega))
    have l2 := cl_one (β := ANext) (k := 0) (v := .int .i64 f.name) tiI (by rw [dsI]; rfl) F1 rfl val
    simp only [Nat.zero_add] at l2
    have hN2 : Nat.ble s1.next lastName = true := ble_iff.2 (by unfold lastName; omega)
    repeat apply go_seq
    apply go_ops
    apply go_take 4
    case h => intro m; simp (disch := decide) only [List.take, opsLoop, evOper, wantedA, nth, aop, aPick, aBin, aIndexAddr, aFieldAddr, aLoad, aStore, aExtract, aConvert, aAlloc, aBox, aIndex, callA, Fr.evs, opt, val, when, AM.run, outV, newA, ptr, force_eq, seen_heap, seen_next, seen_mark, seen_seen, agg_cells, int_cells, Fr.ev, Fr.put, onFr, gps, gpn, bltT, still, flat, List.append_nil, List.nil_append, List.cons_append, Nat.reduceEqDiff, ne_eq, not_false_eq_true, reduceCtorEq, Bool.and_true, Bool.true_and, Bool.and_false, Bool.false_and, Bool.not_true, Bool.not_false, Bool.and_self, k12, tyF, dsF, flF0, ftF0, foF0, tyI, szI, ble11, ad0, l2, aBuildSlice, evParts, tyIs, dsIs, dsI, zeI, fillI, hN2, int_cells, int0, show Nat.ble (Nat.mul 1 1) 1048576 = true from rfl, show Nat.beq ([Value.int .i64 (Int.ofNat 0)] : List Value).length 1 = true from rfl, show Nat.beq ([Value.int .i64 0] : List Value).length 1 = true from rfl, show Nat.ble ([Value.int .i64 f.name] : List Value).length lastName = true from rfl]; rfl
    simp only [List.drop]
    generalize hs3 : S.mk _ _ _ _ _ = s3
    have e3 : s3.next = N + 2 := by rw [← hs3]; show s1.next + 1 = _; omega
    have e3h : s3.heap = s1.heap.put s1.next (some (.cells (Tr.ofList [Value.int .i64 f.name]) ([Value.int .i64 f.name] : List Value).length 3 .whole)) := by rw [← hs3]
    clear hs3
    have g3 : ∀ m, m ≠ s1.next → s3.heap.get m = s1.heap.get m := fun m hm => by rw [e3h, hg_far hN2 hm]
    have I3 : Cl s3 s1.next 0 [.int .i64 f.name] := Cl.new (by omega) (by rw [e3h]; exact hg_same hN2 _ _) (by simp)
    clear e3h
    have A3 : AccI s3 X sv (namesOf name (M.take i)) := A1.keep (by omega) (by omega) (fun m hm => g3 m (by omega))
    have hnl : (namesOf name (M.take i)).length = i + 1 := by rw [namesOf_len, List.length_take]; omega
    obtain ⟨s4, sv4, r4, n4, m4, A4, f4⟩ := appendI A3 I3 (by omega) (by omega) (by omega) (by omega)
    apply go_take 1
    case h => intro m; simp (disch := decide) only [List.take, opsLoop, evOper, wantedA, nth, aop, aPick, aBin, aIndexAddr, aFieldAddr, aLoad, aStore, aExtract, aConvert, aAlloc, aBox, aIndex, callA, Fr.evs, opt, val, when, AM.run, outV, newA, ptr, force_eq, seen_heap, seen_next, seen_mark, seen_seen, agg_cells, int_cells, Fr.ev, Fr.put, onFr, gps, gpn, bltT, still, flat, List.append_nil, List.nil_append, List.cons_append, Nat.reduceEqDiff, ne_eq, not_false_eq_true, reduceCtorEq, Bool.and_true, Bool.true_and, Bool.and_false, Bool.false_and, Bool.not_true, Bool.not_false, Bool.and_self, r4]; rfl
    simp only [List.drop]
    apply go_take 1
    case h => intro m; simp (disch := decide) only [List.take, opsLoop, evOper, wantedA, nth, aop, aPick, aBin, aIndexAddr, aFieldAddr, aLoad, aStore, aExtract, aConvert, aAlloc, aBox, aIndex, callA, Fr.evs, opt, val, when, AM.run, outV, newA, ptr, force_eq, seen_heap, seen_next, seen_mark, seen_seen, agg_cells, int_cells, Fr.ev, Fr.put, onFr, gps, gpn, bltT, still, flat, List.append_nil, List.nil_append, List.cons_append, Nat.reduceEqDiff, ne_eq, not_false_eq_true, reduceCtorEq, Bool.and_true, Bool.true_and, Bool.and_false, Bool.false_and, Bool.not_true, Bool.not_false, Bool.and_self]; rfl
    simp only [List.drop]
    apply go_done
    repeat apply go_seq
    apply go_region
    case h => intro m; simp (maxSteps := 2000000) (disch := decide) only [opsLoop, evOper, wantedA, nth, aop, aPick, aBin, aIndexAddr, aFieldAddr, aLoad, aStore, aExtract, aConvert, aAlloc, aBox, aIndex, callA, builtinA, Fr.evs, opt, val, when, AM.run, outV, newA, ptr, force_eq, seen_heap, seen_next, seen_mark, seen_seen, agg_cells, int_cells, Fr.ev, Fr.put, onFr, gps, gpn, bltT, still, flat, List.append_nil, List.nil_append, List.cons_append, Nat.reduceEqDiff, ne_eq, not_false_eq_true, reduceCtorEq, Bool.and_true, Bool.true_and, Bool.and_false, Bool.false_and, Bool.not_true, Bool.not_false, Bool.and_self, k113, int1, hinc]; rfl
    rw [← namesOf_snoc, ← htake] at A4
    refine ⟨M.length - (i + 1), by omega, i + 1, _, sv4, rfl, by omega, rfl, ⟨?_, ?_, ?_, ?_, ?_, ?_⟩, ?_, ?_, ?_, ?_, by omega, A4, fun m hm => ?_⟩
    · simp (disch := decide) only [gps, gpn, k1]
    · simp (disch := decide) only [gps, gpn, k2]
    · simp (disch := decide) only [gps, gpn, k3]
    · simp (disch := decide) only [gps, gpn, k4]
    · simp (disch := decide) only [gps, gpn, k9]
    · simp (disch := decide) only [gps, gpn, k10]
    · simp (disch := decide) only [gps, gpn, k111]
    · simp (disch := decide) only [gps, gpn, k112]
    · simp (disch := decide) only [gps, gpn]
    · simp (disch := decide) only [gps, gpn]
    · rw [f4 m hm, g3 m (by omega), g1 m (by omega)]
      exact hg m hm
  · obtain rfl : i = M.length := by omega
    have hlt' : ltI (Int.ofNat M.length) (Int.ofNat M.length) = false := by rw [ltI_eq]; simp
    rw [List.take_length] at hA
    repeat apply go_seq
    apply go_region
    case h => intro m; simp (maxSteps := 2000000) (disch := decide) only [opsLoop, evOper, wantedA, nth, aop, aPick, aBin, aIndexAddr, aFieldAddr, aLoad, aStore, aExtract, aConvert, aAlloc, aBox, aIndex, callA, builtinA, Fr.evs, opt, val, when, AM.run, outV, newA, ptr, force_eq, seen_heap, seen_next, seen_mark, seen_seen, agg_cells, int_cells, Fr.ev, Fr.put, onFr, gps, gpn, bltT, still, flat, List.append_nil, List.nil_append, List.cons_append, Nat.reduceEqDiff, ne_eq, not_false_eq_true, reduceCtorEq, Bool.and_true, Bool.true_and, Bool.and_false, Bool.false_and, Bool.not_true, Bool.not_false, Bool.and_self, k112, k113, b_lss, hlt']; rfl
    repeat apply go_seq
    apply go_cond
    case hc => simp (disch := decide) only [opsLoop, evOper, wantedA, nth, aop, aPick, aBin, aIndexAddr, aFieldAddr, aLoad, aStore, aExtract, aConvert, aAlloc, aBox, aIndex, callA, builtinA, Fr.evs, opt, val, when, AM.run, outV, newA, ptr, force_eq, seen_heap, seen_next, seen_mark, seen_seen, agg_cells, int_cells, Fr.ev, Fr.put, onFr, gps, gpn, bltT, still, flat, List.append_nil, List.nil_append, List.cons_append, Nat.reduceEqDiff, ne_eq, not_false_eq_true, reduceCtorEq, Bool.and_true, Bool.true_and, Bool.and_false, Bool.false_and, Bool.not_true, Bool.not_false, Bool.and_self]; rfl
    case h1 => intro h; cases h
    intro _
    apply go_exit
    refine ⟨rfl, _, sv, rfl, ⟨?_, ?_, ?_, ?_, ?_, ?_⟩, ?_, hn, hA, hg⟩
    · simp (disch := decide) only [gps, gpn, k1]
    · simp (disch := decide) only [gps, gpn, k2]
    · simp (disch := decide) only [gps, gpn, k3]
    · simp (disch := decide) only [gps, gpn, k4]
    · simp (disch := decide) only [gps, gpn, k9]
    · simp (disch := decide) only [gps, gpn, k10]
    · simp (disch := decide) only [gps, gpn, k12]
end Go.Proofs.YtgofanjbhbeniaaDoor.lf
end
end

section
/- Catalogs made anew: what is wanted of a name: the plain law, and the two loops that work it out. -/
noncomputable section
namespace Go.Proofs.YtgofanjbhbeniaaDoor.lf
open AE
set_option linter.unusedSimpArgs false
set_option linter.unusedVariables false
set_option maxRecDepth 10000

def stepG (n : Int) (w : Option FileD) (g : Int) : Option FileD := match eqI g n with
  | true => none
  | false => w
def stepP (n : Int) (w : Option FileD) (x : FileD) : Option FileD := match eqI x.name n with
  | true => some x
  | false => w
theorem look_puts : ∀ (ps l : List FileD) (n : Int), lookM (ps.foldl putM l) n = ps.foldl (stepP n) (lookM l n)
  | [], l, n => rfl
  | f :: ps, l, n => by
    simp only [List.foldl_cons]
    rw [look_puts ps (putM l f) n, look_put]
    rfl
theorem look_dels : ∀ (gs : List Int) (l : List FileD) (n : Int), ND l → lookM (gs.foldl delM l) n = gs.foldl (stepG n) (lookM l n)
  | [], l, n, h => rfl
  | g :: gs, l, n, h => by
    simp only [List.foldl_cons]
    rw [look_dels gs (delM l g) n (delM_nd l g h), look_del l g n h]
    rfl
theorem look_first : ∀ (fs : List FileD) (n : Int) (w : Option FileD), ND fs → fs.foldl (stepP n) w = match lookM fs n with | some f => some f | none => w
  | [], n, w, h => rfl
  | f :: fs, n, w, h => by
    simp only [ND, List.map_cons, List.nodup_cons] at h
    simp only [List.foldl_cons, lookM]
    rw [look_first fs n (stepP n w f) h.2]
    unfold stepP
    cases he : eqI f.name n with
    | true =>
      have := look_none fs n (by rw [← eqI_iff'.1 he]; exact h.1)
      rw [this]
    | false => rfl
/-- what the new catalog has of a name -/
theorem with_look (D : CatD) (ps : List FileD) (gs : List Int) (n : Int) (h : ND D.files) : lookM (withD D ps gs).files n = ps.foldl (stepP n) (gs.foldl (stepG n) (lookM D.files n)) := by
  have hnd := (newM_nd D.files ps gs).1
  show lookM (sortN (newM D.files ps gs)) n = _
  rw [look_perm (sortN_perm _) (nd_perm (sortN_perm _).symm hnd)]
  unfold newM
  rw [look_puts, look_dels _ _ _ (fold_put D.files [] List.nodup_nil).1, look_puts, look_first D.files n _ h]
  congr 2
  show (match lookM D.files n with | some f => some f | none => lookM [] n) = _
  cases lookM D.files n <;> rfl

/-! frames of which some places are kept -/
def KeepL (L : List Nat) (t t0 : Tr Value) : Prop := ∀ k ∈ L, t.get k = t0.get k
theorem keep_put {L : List Nat} {t t0 : Tr Value} {j : Nat} {x : Option Value} (h : KeepL L t t0) (hj : j ∉ L) (hj2 : j < 200) : KeepL L (t.put j x) t0 := by
  intro k hk
  rw [Tr.get_put _ _ _ _ (by unfold Tr.wide; omega), if_neg (fun (e : k = j) => hj (e ▸ hk))]
  exact h k hk
/-- a file, or none -/
def wc : Option FileD → List Value
  | some f => f.cells
  | none => [.int .i64 0, .int .i64 0, .int .i64 0, .int .i64 0]
theorem wc_len (r : Option FileD) : (wc r).length = 4 := by cases r <;> rfl
theorem wc_one (r : Option FileD) : allOne (wc r) = true := by cases r <;> rfl
theorem findV_wc (r : Option FileD) : findV r = .tuple ⟨[.agg ⟨wc r⟩, .bool r.isSome]⟩ := by cases r <;> rfl
def Wat (s : S) (W : Nat) (r : Option FileD) : Prop := ∃ c, s.heap.get W = some (.cells c 4 41 .whole) ∧ Row c 0 (wc r)
theorem Wat.cl {s : S} {W : Nat} {r : Option FileD} (h : Wat s W r) (hW : W < s.next) : Cl s W 0 (wc r) := by
  obtain ⟨c, h1, h2⟩ := h
  exact ⟨hW, c, 4, .inl ⟨_, _, h1⟩, by rw [wc_len]; omega, h2⟩
theorem Wat.keep {s s1 : S} {W : Nat} {r : Option FileD} (h : Wat s W r) (hg : s1.heap.get W = s.heap.get W) : Wat s1 W r := by
  obtain ⟨c, h1, h2⟩ := h
  exact ⟨c, by rw [hg]; exact h1, h2⟩
noncomputable def cdQ : Code := sub [1,1,1,1,1,1,1,1,1,0,1,0,0] cdWl
noncomputable def cd6 : Code := sub [1,1,0,0,1,1,1,0,1,0,0] cdQ
noncomputable def cd8 : Code := sub [1,1,0,0,1,1,1,1,0,1,0,0] cdQ
abbrev L6 : List Nat := [1, 2, 3, 4, 9, 10, 123, 124, 125, 16, 17, 18, 19, 141, 142]
abbrev L8 : List Nat := [1, 2, 3, 4, 9, 10, 123, 124, 125, 16, 17, 18, 19, 152, 153]
theorem build_zeroF (fr : Fr) : aBuild E fr 41 #[] = val (.agg ⟨wc none⟩) := by
  simp only [aBuild, opt, evParts, tyF]
  first | rfl | kernel_rfl
def Inv6 (s0 : S) (t0 : Tr Value) (W : Nat) (n : Int) (w0 : Option FileD) (gs : List Int) (k : Nat) (fr : Fr) (s : S) : Prop :=
  ∃ (i : Nat) (t : Tr Value) (wv : Option FileD), k = gs.length - i ∧ i ≤ gs.length ∧ fr = ⟨5, t, 174, [], none⟩ ∧ KeepL L6 t t0 ∧ t.get 143 = some (.int .i64 (.ofNat i)) ∧ t.get 20 = some (.bool wv.isSome) ∧ wv = (gs.take i).foldl (stepG n) w0 ∧
    s.next = s0.next ∧ Wat s W wv ∧ ∀ m, m ≠ W → s.heap.get m = s0.heap.get m
def Post6 (s0 : S) (t0 : Tr Value) (W : Nat) (n : Int) (w0 : Option FileD) (gs : List Int) (x : Ex) (fr : Fr) (s : S) : Prop :=
  x = .exit 6 ∧ ∃ t : Tr Value, fr = ⟨5, t, 174, [], none⟩ ∧ KeepL L6 t t0 ∧ t.get 20 = some (.bool (gs.foldl (stepG n) w0).isSome) ∧ s.next = s0.next ∧ Wat s W (gs.foldl (stepG n) w0) ∧ ∀ m, m ≠ W → s.heap.get m = s0.heap.get m
set_option maxHeartbeats 4000000 in
theorem want6_round (s0 : S) (t0 : Tr Value) (W : Nat) (n : Int) (w0 : Option FileD) (gs : List Int) (a3 : Option Addr) (c3 : Nat) (hl : gs.length ≤ 100) (hN : s0.next ≤ 1000000) (hW : W < s0.next) (hV : Vx s0 a3 (icsL gs)) (ha : ∀ ad, a3 = some ad → ad.block ≠ W)
    (k16 : t0.get 16 = some (.int .i64 n)) (k19 : t0.get 19 = some (.pointer (some ⟨W, 0, none⟩))) (k141 : t0.get 141 = some (.slice a3 gs.length c3)) (k142 : t0.get 142 = some (.int .i64 (.ofNat gs.length))) (k : Nat) (fr : Fr) (s : S) (h : Inv6 s0 t0 W n w0 gs k fr s) :
    GoC E (sumsOf sigWl) cd6 fr s (Again (Inv6 s0 t0 W n w0 gs) k (Post6 s0 t0 W n w0 gs)) := by
  obtain ⟨i, t, wv, rfl, hi, rfl, hK, k143, k20, hwv, hn, hwat, hg⟩ := h
  rw [← hK 16 (by decide)] at k16
  rw [← hK 19 (by decide)] at k19
  rw [← hK 141 (by decide)] at k141
  rw [← hK 142 (by decide)] at k142
  simp only [cd6, cdQ, cdWl, Tryd.f5, bodyOf, sub]
  by_cases hlt : i < gs.length
  · obtain ⟨g, hgi⟩ : ∃ g, gs[i]? = some g := ⟨_, List.getElem?_eq_getElem hlt⟩
    cases a3 with
    | none =>
      have h0 : icsL gs = [] := hV
      have : (icsL gs).length = gs.length := ics_len gs
      rw [h0] at this
      have h4 : (0 : Nat) = gs.length := this
      omega
    | some ad =>
      obtain ⟨ab, ao, asp⟩ := ad
      obtain ⟨hsp, hcl⟩ := hV
      simp only at hsp hcl
      subst hsp
      have hab : ab ≠ W := ha _ rfl
      have hlt' : ltI (Int.ofNat i) (Int.ofNat gs.length) = true := by rw [ltI_eq]; simp; omega
      have hbl : Nat.blt i gs.length = true := blt_iff.2 hlt
      have hinc := b_incr (n := i) (by omega)
      have htake : gs.take (i + 1) = gs.take i ++ [g] := by rw [List.take_add_one, hgi]; rfl
      have hcs : Cl s ab ao (icsL gs) := hcl.keep (by omega) (hg _ hab)
      have hWn : Nat.ble W lastName = true := ble_iff.2 (by unfold lastName; omega)
      obtain ⟨H, N, mk, rd, wr⟩ := s
      simp only at hn hg
      have l2 := hcs.ld (k := i) (v := .int .i64 g) tiI (by rw [dsI]; rfl) (by unfold icsL; rw [List.getElem?_map, hgi]; rfl)
      have aa : addA ⟨ab, ao, none⟩ (Nat.mul i 1) = ⟨ab, ao + i, none⟩ := by rw [show Nat.mul i 1 = i from Nat.mul_one i]; exact addAn ab ao _
      repeat apply go_seq
      apply go_region
      case h => intro m; simp (maxSteps := 2000000) (disch := decide) only [opsLoop, evOper, wantedA, nth, aop, aPick, aBin, aIndexAddr, aFieldAddr, aLoad, aStore, aExtract, aConvert, aAlloc, aBox, aIndex, callA, builtinA, Fr.evs, opt, val, when, AM.run, outV, newA, ptr, force_eq, seen_heap, seen_next, seen_mark, seen_seen, agg_cells, int_cells, Fr.ev, Fr.put, onFr, gps, gpn, bltT, still, flat, List.append_nil, List.nil_append, List.cons_append, Nat.reduceEqDiff, ne_eq, not_false_eq_true, reduceCtorEq, Bool.and_true, Bool.true_and, Bool.and_false, Bool.false_and, Bool.not_true, Bool.not_false, Bool.and_self, k142, k143, b_lss, hlt']; rfl
      repeat apply go_seq
      apply go_cond
      case hc => simp (disch := decide) only [opsLoop, evOper, wantedA, nth, aop, aPick, aBin, aIndexAddr, aFieldAddr, aLoad, aStore, aExtract, aConvert, aAlloc, aBox, aIndex, callA, builtinA, Fr.evs, opt, val, when, AM.run, outV, newA, ptr, force_eq, seen_heap, seen_next, seen_mark, seen_seen, agg_cells, int_cells, Fr.ev, Fr.put, onFr, gps, gpn, bltT, still, flat, List.append_nil, List.nil_append, List.cons_append, Nat.reduceEqDiff, ne_eq, not_false_eq_true, reduceCtorEq, Bool.and_true, Bool.true_and, Bool.and_false, Bool.false_and, Bool.not_true, Bool.not_false, Bool.and_self]; rfl
      case h2 => intro h; cases h
      intro _
      apply go_skip
      apply go_seq
      apply go_block
      repeat apply go_seq
      apply go_region
      case h => intro m; simp (maxSteps := 2000000) (disch := decide) only [opsLoop, evOper, wantedA, nth, aop, aPick, aBin, aIndexAddr, aFieldAddr, aLoad, aStore, aExtract, aConvert, aAlloc, aBox, aIndex, callA, builtinA, Fr.evs, opt, val, when, AM.run, outV, newA, ptr, force_eq, seen_heap, seen_next, seen_mark, seen_seen, agg_cells, int_cells, Fr.ev, Fr.put, onFr, gps, gpn, bltT, still, flat, List.append_nil, List.nil_append, List.cons_append, Nat.reduceEqDiff, ne_eq, not_false_eq_true, reduceCtorEq, Bool.and_true, Bool.true_and, Bool.and_false, Bool.false_and, Bool.not_true, Bool.not_false, Bool.and_self, k141, k143, tyIs, dsIs, hbl, tyI, szI, dsI, aa, l2]; rfl
      cases he : eqI g n with
      | true =>
        obtain ⟨c, hc1, hc2⟩ := hwat
        have st := newCellO (N := W) (H := H) (NN := N) (mk := mk) hWn (by omega) hc1 (wc none) rfl rfl
        repeat apply go_seq
        apply go_region
        case h => intro m; simp (maxSteps := 2000000) (disch := decide) only [opsLoop, evOper, wantedA, nth, aop, aPick, aBin, aIndexAddr, aFieldAddr, aLoad, aStore, aExtract, aConvert, aAlloc, aBox, aIndex, callA, builtinA, Fr.evs, opt, val, when, AM.run, outV, newA, ptr, force_eq, seen_heap, seen_next, seen_mark, seen_seen, agg_cells, int_cells, Fr.ev, Fr.put, onFr, gps, gpn, bltT, still, flat, List.append_nil, List.nil_append, List.cons_append, Nat.reduceEqDiff, ne_eq, not_false_eq_true, reduceCtorEq, Bool.and_true, Bool.true_and, Bool.and_false, Bool.false_and, Bool.not_true, Bool.not_false, Bool.and_self, k16, b_eql, he]; rfl
        repeat apply go_seq
        apply go_cond
        case hc => simp (disch := decide) only [opsLoop, evOper, wantedA, nth, aop, aPick, aBin, aIndexAddr, aFieldAddr, aLoad, aStore, aExtract, aConvert, aAlloc, aBox, aIndex, callA, builtinA, Fr.evs, opt, val, when, AM.run, outV, newA, ptr, force_eq, seen_heap, seen_next, seen_mark, seen_seen, agg_cells, int_cells, Fr.ev, Fr.put, onFr, gps, gpn, bltT, still, flat, List.append_nil, List.nil_append, List.cons_append, Nat.reduceEqDiff, ne_eq, not_false_eq_true, reduceCtorEq, Bool.and_true, Bool.true_and, Bool.and_false, Bool.false_and, Bool.not_true, Bool.not_false, Bool.and_self]; rfl
        case h2 => intro h; cases h
        intro _
        repeat apply go_seq
        apply go_region
        case h => intro m; simp (maxSteps := 2000000) (disch := decide) only [opsLoop, evOper, wantedA, nth, aop, aPick, aBin, aIndexAddr, aFieldAddr, aLoad, aStore, aExtract, aConvert, aAlloc, aBox, aIndex, callA, builtinA, Fr.evs, opt, val, when, AM.run, outV, newA, ptr, force_eq, seen_heap, seen_next, seen_mark, seen_seen, agg_cells, int_cells, Fr.ev, Fr.put, onFr, gps, gpn, bltT, still, flat, List.append_nil, List.nil_append, List.cons_append, Nat.reduceEqDiff, ne_eq, not_false_eq_true, reduceCtorEq, Bool.and_true, Bool.true_and, Bool.and_false, Bool.false_and, Bool.not_true, Bool.not_false, Bool.and_self, build_zeroF, tyF, szF, k19, show Nat.beq (wc none).length 4 = true from rfl, st]; rfl
        repeat apply go_seq
        apply go_region
        case h => intro m; simp (maxSteps := 2000000) (disch := decide) only [opsLoop, evOper, wantedA, nth, aop, aPick, aBin, aIndexAddr, aFieldAddr, aLoad, aStore, aExtract, aConvert, aAlloc, aBox, aIndex, callA, builtinA, Fr.evs, opt, val, when, AM.run, outV, newA, ptr, force_eq, seen_heap, seen_next, seen_mark, seen_seen, agg_cells, int_cells, Fr.ev, Fr.put, onFr, gps, gpn, bltT, still, flat, List.append_nil, List.nil_append, List.cons_append, Nat.reduceEqDiff, ne_eq, not_false_eq_true, reduceCtorEq, Bool.and_true, Bool.true_and, Bool.and_false, Bool.false_and, Bool.not_true, Bool.not_false, Bool.and_self, k143, int1, hinc]; rfl
        refine ⟨gs.length - (i + 1), by omega, i + 1, _, none, rfl, by omega, rfl, ?_, ?_, ?_, ?_, hn, ⟨_, hg_same hWn _ _, row_wr (by unfold Tr.wide; show 0 + 4 ≤ _; omega)⟩, fun m hm => ?_⟩
        · repeat (first | exact hK | refine keep_put ?_ (by decide) (by omega))
        · simp (disch := decide) only [gps, gpn]
        · simp (disch := decide) only [gps, gpn]; rfl
        · rw [htake, List.foldl_append]
          show none = stepG n _ g
          unfold stepG; rw [he]
        · show (H.put W _).get m = _
          rw [hg_far hWn hm]; exact hg m hm
      | false =>
        repeat apply go_seq
        apply go_region
        case h => intro m; simp (maxSteps := 2000000) (disch := decide) only [opsLoop, evOper, wantedA, nth, aop, aPick, aBin, aIndexAddr, aFieldAddr, aLoad, aStore, aExtract, aConvert, aAlloc, aBox, aIndex, callA, builtinA, Fr.evs, opt, val, when, AM.run, outV, newA, ptr, force_eq, seen_heap, seen_next, seen_mark, seen_seen, agg_cells, int_cells, Fr.ev, Fr.put, onFr, gps, gpn, bltT, still, flat, List.append_nil, List.nil_append, List.cons_append, Nat.reduceEqDiff, ne_eq, not_false_eq_true, reduceCtorEq, Bool.and_true, Bool.true_and, Bool.and_false, Bool.false_and, Bool.not_true, Bool.not_false, Bool.and_self, k16, b_eql, he]; rfl
        repeat apply go_seq
        apply go_cond
        case hc => simp (disch := decide) only [opsLoop, evOper, wantedA, nth, aop, aPick, aBin, aIndexAddr, aFieldAddr, aLoad, aStore, aExtract, aConvert, aAlloc, aBox, aIndex, callA, builtinA, Fr.evs, opt, val, when, AM.run, outV, newA, ptr, force_eq, seen_heap, seen_next, seen_mark, seen_seen, agg_cells, int_cells, Fr.ev, Fr.put, onFr, gps, gpn, bltT, still, flat, List.append_nil, List.nil_append, List.cons_append, Nat.reduceEqDiff, ne_eq, not_false_eq_true, reduceCtorEq, Bool.and_true, Bool.true_and, Bool.and_false, Bool.false_and, Bool.not_true, Bool.not_false, Bool.and_self]; rfl
        case h1 => intro h; cases h
        intro _
        apply go_skip
        repeat apply go_seq
        apply go_region
        case h => intro m; simp (maxSteps := 2000000) (disch := decide) only [opsLoop, evOper, wantedA, nth, aop, aPick, aBin, aIndexAddr, aFieldAddr, aLoad, aStore, aExtract, aConvert, aAlloc, aBox, aIndex, callA, builtinA, Fr.evs, opt, val, when, AM.run, outV, newA, ptr, force_eq, seen_heap, seen_next, seen_mark, seen_seen, agg_cells, int_cells, Fr.ev, Fr.put, onFr, gps, gpn, bltT, still, flat, List.append_nil, List.nil_append, List.cons_append, Nat.reduceEqDiff, ne_eq, not_false_eq_true, reduceCtorEq, Bool.and_true, Bool.true_and, Bool.and_false, Bool.false_and, Bool.not_true, Bool.not_false, Bool.and_self, k143, int1, hinc]; rfl
        refine ⟨gs.length - (i + 1), by omega, i + 1, _, wv, rfl, by omega, rfl, ?_, ?_, ?_, ?_, hn, hwat.keep rfl, hg⟩
        · repeat (first | exact hK | refine keep_put ?_ (by decide) (by omega))
        · simp (disch := decide) only [gps, gpn]
        · simp (disch := decide) only [gps, gpn, k20]
        · rw [htake, List.foldl_append, ← hwv]
          show wv = stepG n wv g
          unfold stepG; rw [he]
  · obtain rfl : i = gs.length := by omega
    have hlt' : ltI (Int.ofNat gs.length) (Int.ofNat gs.length) = false := by rw [ltI_eq]; simp
    rw [List.take_length] at hwv
    subst hwv
    repeat apply go_seq
    apply go_region
    case h => intro m; simp (maxSteps := 2000000) (disch := decide) only [opsLoop, evOper, wantedA, nth, aop, aPick, aBin, aIndexAddr, aFieldAddr, aLoad, aStore, aExtract, aConvert, aAlloc, aBox, aIndex, callA, builtinA, Fr.evs, opt, val, when, AM.run, outV, newA, ptr, force_eq, seen_heap, seen_next, seen_mark, seen_seen, agg_cells, int_cells, Fr.ev, Fr.put, onFr, gps, gpn, bltT, still, flat, List.append_nil, List.nil_append, List.cons_append, Nat.reduceEqDiff, ne_eq, not_false_eq_true, reduceCtorEq, Bool.and_true, Bool.true_and, Bool.and_false, Bool.false_and, Bool.not_true, Bool.not_false, Bool.and_self, k142, k143, b_lss, hlt']; rfl
    repeat apply go_seq
    apply go_cond
    case hc => simp (disch := decide) only [opsLoop, evOper, wantedA, nth, aop, aPick, aBin, aIndexAddr, aFieldAddr, aLoad, aStore, aExtract, aConvert, aAlloc, aBox, aIndex, callA, builtinA, Fr.evs, opt, val, when, AM.run, outV, newA, ptr, force_eq, seen_heap, seen_next, seen_mark, seen_seen, agg_cells, int_cells, Fr.ev, Fr.put, onFr, gps, gpn, bltT, still, flat, List.append_nil, List.nil_append, List.cons_append, Nat.reduceEqDiff, ne_eq, not_false_eq_true, reduceCtorEq, Bool.and_true, Bool.true_and, Bool.and_false, Bool.false_and, Bool.not_true, Bool.not_false, Bool.and_self]; rfl
    case h1 => intro h; cases h
    intro _
    apply go_exit
    refine ⟨rfl, _, rfl, ?_, ?_, hn, hwat, hg⟩
    · repeat (first | exact hK | refine keep_put ?_ (by decide) (by omega))
    · simp (disch := decide) only [gps, gpn, k20]

def Inv8 (s0 : S) (t0 : Tr Value) (W : Nat) (n : Int) (w0 : Option FileD) (ps : List FileD) (k : Nat) (fr : Fr) (s : S) : Prop :=
  ∃ (i : Nat) (t : Tr Value) (wv : Option FileD), k = ps.length - i ∧ i ≤ ps.length ∧ fr = ⟨5, t, 174, [], none⟩ ∧ KeepL L8 t t0 ∧ t.get 154 = some (.int .i64 (.ofNat i)) ∧ t.get 20 = some (.bool wv.isSome) ∧ wv = (ps.take i).foldl (stepP n) w0 ∧
    s.next = s0.next + i ∧ Wat s W wv ∧ ∀ m, m < s0.next → m ≠ W → s.heap.get m = s0.heap.get m
def Post8 (s0 : S) (t0 : Tr Value) (W : Nat) (n : Int) (w0 : Option FileD) (ps : List FileD) (x : Ex) (fr : Fr) (s : S) : Prop :=
  x = .exit 8 ∧ ∃ t : Tr Value, fr = ⟨5, t, 174, [], none⟩ ∧ KeepL L8 t t0 ∧ t.get 20 = some (.bool (ps.foldl (stepP n) w0).isSome) ∧ s.next = s0.next + ps.length ∧ Wat s W (ps.foldl (stepP n) w0) ∧ ∀ m, m < s0.next → m ≠ W → s.heap.get m = s0.heap.get m
set_option maxHeartbeats 4000000 in
theorem want8_round (s0 : S) (t0 : Tr Value) (W : Nat) (n : Int) (w0 : Option FileD) (ps : List FileD) (a2 : Option Addr) (c2 : Nat) (hl : ps.length ≤ 100) (hN : s0.next ≤ 1000000) (hW : W < s0.next) (hV : Vx s0 a2 (fcs ps)) (ha : ∀ ad, a2 = some ad → ad.block ≠ W)
    (k16 : t0.get 16 = some (.int .i64 n)) (k19 : t0.get 19 = some (.pointer (some ⟨W, 0, none⟩))) (k152 : t0.get 152 = some (.slice a2 ps.length c2)) (k153 : t0.get 153 = some (.int .i64 (.ofNat ps.length))) (k : Nat) (fr : Fr) (s : S) (h : Inv8 s0 t0 W n w0 ps k fr s) :
    GoC E (sumsOf sigWl) cd8 fr s (Again (Inv8 s0 t0 W n w0 ps) k (Post8 s0 t0 W n w0 ps)) := by
  obtain ⟨i, t, wv, rfl, hi, rfl, hK, k154, k20, hwv, hn, hwat, hg⟩ := h
  rw [← hK 16 (by decide)] at k16
  rw [← hK 19 (by decide)] at k19
  rw [← hK 152 (by decide)] at k152
  rw [← hK 153 (by decide)] at k153
  simp only [cd8, cdQ, cdWl, Tryd.f5, bodyOf, sub]
  by_cases hlt : i < ps.length
  · obtain ⟨f, hf⟩ : ∃ f, ps[i]? = some f := ⟨_, List.getElem?_eq_getElem hlt⟩
    cases a2 with
    | none =>
      have h0 : fcs ps = [] := hV
      have := fcs_len ps
      rw [h0] at this
      have h4 : (0 : Nat) = 4 * ps.length := this
      omega
    | some ad =>
      obtain ⟨ab, ao, asp⟩ := ad
      obtain ⟨hsp, hcl⟩ := hV
      simp only at hsp hcl
      subst hsp
      have hab : ab ≠ W := ha _ rfl
      have hablt : ab < s0.next := hcl.lt
      have hlt' : ltI (Int.ofNat i) (Int.ofNat ps.length) = true := by rw [ltI_eq]; simp; omega
      have hbl : Nat.blt i ps.length = true := blt_iff.2 hlt
      have hinc := b_incr (n := i) (by omega)
      have htake : ps.take (i + 1) = ps.take i ++ [f] := by rw [List.take_add_one, hf]; rfl
      have hcs : Cl s ab ao (fcs ps) := hcl.keep (by omega) (hg _ hablt hab)
      have hsub := hcs.sub (i * 4) 4 (by rw [fcs_len]; omega)
      rw [fcs_at ps i f hf] at hsub
      have hWn : Nat.ble W lastName = true := ble_iff.2 (by unfold lastName; omega)
      have hN1 : Nat.ble s.next lastName = true := ble_iff.2 (by unfold lastName; omega)
      obtain ⟨H, N, mk, rd, wr⟩ := s
      simp only at hn hg hN1
      have st := newCell H N mk hN1 [.int .i64 0, .int .i64 0, .int .i64 0, .int .i64 0] f.cells 41 rfl (by simp [FileD.cells]) rfl
      have lf := hsub.ldA (β := ANext) tiF (by rw [dsF]; rfl) (by rw [szF]; rfl)
      have aa : addA ⟨ab, ao, none⟩ (Nat.mul i 4) = ⟨ab, ao + i * 4, none⟩ := addAn ab ao _
      repeat apply go_seq
      apply go_region
      case h => intro m; simp (maxSteps := 2000000) (disch := decide) only [opsLoop, evOper, wantedA, nth, aop, aPick, aBin, aIndexAddr, aFieldAddr, aLoad, aStore, aExtract, aConvert, aAlloc, aBox, aIndex, callA, builtinA, Fr.evs, opt, val, when, AM.run, outV, newA, ptr, force_eq, seen_heap, seen_next, seen_mark, seen_seen, agg_cells, int_cells, Fr.ev, Fr.put, onFr, gps, gpn, bltT, still, flat, List.append_nil, List.nil_append, List.cons_append, Nat.reduceEqDiff, ne_eq, not_false_eq_true, reduceCtorEq, Bool.and_true, Bool.true_and, Bool.and_false, Bool.false_and, Bool.not_true, Bool.not_false, Bool.and_self, k153, k154, b_lss, hlt']; rfl
      repeat apply go_seq
      apply go_cond
      case hc => simp (disch := decide) only [opsLoop, evOper, wantedA, nth, aop, aPick, aBin, aIndexAddr, aFieldAddr, aLoad, aStore, aExtract, aConvert, aAlloc, aBox, aIndex, callA, builtinA, Fr.evs, opt, val, when, AM.run, outV, newA, ptr, force_eq, seen_heap, seen_next, seen_mark, seen_seen, agg_cells, int_cells, Fr.ev, Fr.put, onFr, gps, gpn, bltT, still, flat, List.append_nil, List.nil_append, List.cons_append, Nat.reduceEqDiff, ne_eq, not_false_eq_true, reduceCtorEq, Bool.and_true, Bool.true_and, Bool.and_false, Bool.false_and, Bool.not_true, Bool.not_false, Bool.and_self]; rfl
      case h2 => intro h; cases h
      intro _
      apply go_skip
      apply go_seq
      apply go_block
      repeat apply go_seq
      apply go_region
      case h => intro m; simp (maxSteps := 2000000) (disch := decide) only [opsLoop, evOper, wantedA, nth, aop, aPick, aBin, aIndexAddr, aFieldAddr, aLoad, aStore, aExtract, aConvert, aAlloc, aBox, aIndex, callA, builtinA, Fr.evs, opt, val, when, AM.run, outV, newA, ptr, force_eq, seen_heap, seen_next, seen_mark, seen_seen, agg_cells, int_cells, Fr.ev, Fr.put, onFr, gps, gpn, bltT, still, flat, List.append_nil, List.nil_append, List.cons_append, Nat.reduceEqDiff, ne_eq, not_false_eq_true, reduceCtorEq, Bool.and_true, Bool.true_and, Bool.and_false, Bool.false_and, Bool.not_true, Bool.not_false, Bool.and_self, k152, k154, tyFs, dsFs, hbl, tyF, szF, dsF, aa, lf, zeF, hN1, len4, show Nat.beq f.cells.length 4 = true from rfl, st]; rfl
      generalize hs1 : S.mk _ _ _ _ _ = s1
      have e1 : s1.next = N + 1 := by rw [← hs1]
      have e1h : s1.heap = (H.put N (some (.cells (Tr.ofList [.int .i64 0, .int .i64 0, .int .i64 0, .int .i64 0]) (List.length [Value.int .i64 0, .int .i64 0, .int .i64 0, .int .i64 0]) 41 .whole))).put N (some (.cells (wrCells (Tr.ofList [.int .i64 0, .int .i64 0, .int .i64 0, .int .i64 0]) 0 f.cells) (List.length [Value.int .i64 0, .int .i64 0, .int .i64 0, .int .i64 0]) 41 .whole)) := by rw [← hs1]
      clear hs1
      have F1 : Cl s1 N 0 f.cells := newCell_cl (by omega) (by rw [e1h]; exact hg_same hN1 _ _) rfl (by simp [FileD.cells])
      have g1 : ∀ m, m ≠ N → s1.heap.get m = H.get m := fun m hm => by rw [e1h, hg_far hN1 hm, hg_far hN1 hm]
      clear e1h st
      have W1 : Wat s1 W wv := hwat.keep (g1 _ (by omega))
      obtain ⟨H1, N1, mk1, rd1, wr1⟩ := s1
      simp only at e1 g1
      have l1 := F1.ldA (β := ANext) tiF (by rw [dsF]; rfl) (by rw [szF]; rfl)
      have l2 := F1.ld (k := 0) tiI (by rw [dsI]; rfl) rfl
      simp only [Nat.zero_add] at l2
      cases he : eqI f.name n with
      | true =>
        obtain ⟨c, hc1, hc2⟩ := W1
        have st := newCellO (N := W) (H := H1) (NN := N1) (mk := mk1) hWn (by omega) hc1 f.cells rfl rfl
        repeat apply go_seq
        apply go_region
        case h => intro m; simp (maxSteps := 2000000) (disch := decide) only [opsLoop, evOper, wantedA, nth, aop, aPick, aBin, aIndexAddr, aFieldAddr, aLoad, aStore, aExtract, aConvert, aAlloc, aBox, aIndex, callA, builtinA, Fr.evs, opt, val, when, AM.run, outV, newA, ptr, force_eq, seen_heap, seen_next, seen_mark, seen_seen, agg_cells, int_cells, Fr.ev, Fr.put, onFr, gps, gpn, bltT, still, flat, List.append_nil, List.nil_append, List.cons_append, Nat.reduceEqDiff, ne_eq, not_false_eq_true, reduceCtorEq, Bool.and_true, Bool.true_and, Bool.and_false, Bool.false_and, Bool.not_true, Bool.not_false, Bool.and_self, tyF, dsF, flF0, ftF0, foF0, tyI, szI, ble11, ad0, l2, k16, b_eql, he]; rfl
        repeat apply go_seq
        apply go_cond
        case hc => simp (disch := decide) only [opsLoop, evOper, wantedA, nth, aop, aPick, aBin, aIndexAddr, aFieldAddr, aLoad, aStore, aExtract, aConvert, aAlloc, aBox, aIndex, callA, builtinA, Fr.evs, opt, val, when, AM.run, outV, newA, ptr, force_eq, seen_heap, seen_next, seen_mark, seen_seen, agg_cells, int_cells, Fr.ev, Fr.put, onFr, gps, gpn, bltT, still, flat, List.append_nil, List.nil_append, List.cons_append, Nat.reduceEqDiff, ne_eq, not_false_eq_true, reduceCtorEq, Bool.and_true, Bool.true_and, Bool.and_false, Bool.false_and, Bool.not_true, Bool.not_false, Bool.and_self]; rfl
        case h2 => intro h; cases h
        intro _
        repeat apply go_seq
        apply go_region
        case h => intro m; simp (maxSteps := 2000000) (disch := decide) only [opsLoop, evOper, wantedA, nth, aop, aPick, aBin, aIndexAddr, aFieldAddr, aLoad, aStore, aExtract, aConvert, aAlloc, aBox, aIndex, callA, builtinA, Fr.evs, opt, val, when, AM.run, outV, newA, ptr, force_eq, seen_heap, seen_next, seen_mark, seen_seen, agg_cells, int_cells, Fr.ev, Fr.put, onFr, gps, gpn, bltT, still, flat, List.append_nil, List.nil_append, List.cons_append, Nat.reduceEqDiff, ne_eq, not_false_eq_true, reduceCtorEq, Bool.and_true, Bool.true_and, Bool.and_false, Bool.false_and, Bool.not_true, Bool.not_false, Bool.and_self, tyF, szF, l1, k19, show Nat.beq f.cells.length 4 = true from rfl, st]; rfl
        repeat apply go_seq
        apply go_region
        case h => intro m; simp (maxSteps := 2000000) (disch := decide) only [opsLoop, evOper, wantedA, nth, aop, aPick, aBin, aIndexAddr, aFieldAddr, aLoad, aStore, aExtract, aConvert, aAlloc, aBox, aIndex, callA, builtinA, Fr.evs, opt, val, when, AM.run, outV, newA, ptr, force_eq, seen_heap, seen_next, seen_mark, seen_seen, agg_cells, int_cells, Fr.ev, Fr.put, onFr, gps, gpn, bltT, still, flat, List.append_nil, List.nil_append, List.cons_append, Nat.reduceEqDiff, ne_eq, not_false_eq_true, reduceCtorEq, Bool.and_true, Bool.true_and, Bool.and_false, Bool.false_and, Bool.not_true, Bool.not_false, Bool.and_self, k154, int1, hinc]; rfl
        refine ⟨ps.length - (i + 1), by omega, i + 1, _, some f, rfl, by omega, rfl, ?_, ?_, ?_, ?_, by show N1 = _; omega, ⟨_, hg_same hWn _ _, row_wr (by unfold Tr.wide; show 0 + 4 ≤ _; omega)⟩, fun m hm hmW => ?_⟩
        · repeat (first | exact hK | refine keep_put ?_ (by decide) (by omega))
        · simp (disch := decide) only [gps, gpn]
        · simp (disch := decide) only [gps, gpn]; rfl
        · rw [htake, List.foldl_append]
          show some f = stepP n _ f
          unfold stepP; rw [he]
        · show (H1.put W _).get m = _
          rw [hg_far hWn hmW, g1 m (by omega)]; exact hg m hm hmW
      | false =>
        repeat apply go_seq
        apply go_region
        case h => intro m; simp (maxSteps := 2000000) (disch := decide) only [opsLoop, evOper, wantedA, nth, aop, aPick, aBin, aIndexAddr, aFieldAddr, aLoad, aStore, aExtract, aConvert, aAlloc, aBox, aIndex, callA, builtinA, Fr.evs, opt, val, when, AM.run, outV, newA, ptr, force_eq, seen_heap, seen_next, seen_mark, seen_seen, agg_cells, int_cells, Fr.ev, Fr.put, onFr, gps, gpn, bltT, still, flat, List.append_nil, List.nil_append, List.cons_append, Nat.reduceEqDiff, ne_eq, not_false_eq_true, reduceCtorEq, Bool.and_true, Bool.true_and, Bool.and_false, Bool.false_and, Bool.not_true, Bool.not_false, Bool.and_self, tyF, dsF, flF0, ftF0, foF0, tyI, szI, ble11, ad0, l2, k16, b_eql, he]; rfl
        repeat apply go_seq
        apply go_cond
        case hc => simp (disch := decide) only [opsLoop, evOper, wantedA, nth, aop, aPick, aBin, aIndexAddr, aFieldAddr, aLoad, aStore, aExtract, aConvert, aAlloc, aBox, aIndex, callA, builtinA, Fr.evs, opt, val, when, AM.run, outV, newA, ptr, force_eq, seen_heap, seen_next, seen_mark, seen_seen, agg_cells, int_cells, Fr.ev, Fr.put, onFr, gps, gpn, bltT, still, flat, List.append_nil, List.nil_append, List.cons_append, Nat.reduceEqDiff, ne_eq, not_false_eq_true, reduceCtorEq, Bool.and_true, Bool.true_and, Bool.and_false, Bool.false_and, Bool.not_true, Bool.not_false, Bool.and_self]; rfl
        case h1 => intro h; cases h
        intro _
        apply go_skip
        repeat apply go_seq
        apply go_region
        case h => intro m; simp (maxSteps := 2000000) (disch := decide) only [opsLoop, evOper, wantedA, nth, aop, aPick, aBin, aIndexAddr, aFieldAddr, aLoad, aStore, aExtract, aConvert, aAlloc, aBox, aIndex, callA, builtinA, Fr.evs, opt, val, when, AM.run, outV, newA, ptr, force_eq, seen_heap, seen_next, seen_mark, seen_seen, agg_cells, int_cells, Fr.ev, Fr.put, onFr, gps, gpn, bltT, still, flat, List.append_nil, List.nil_append, List.cons_append, Nat.reduceEqDiff, ne_eq, not_false_eq_true, reduceCtorEq, Bool.and_true, Bool.true_and, Bool.and_false, Bool.false_and, Bool.not_true, Bool.not_false, Bool.and_self, k154, int1, hinc]; rfl
        refine ⟨ps.length - (i + 1), by omega, i + 1, _, wv, rfl, by omega, rfl, ?_, ?_, ?_, ?_, by show N1 = _; omega, W1.keep rfl, fun m hm hmW => ?_⟩
        · repeat (first | exact hK | refine keep_put ?_ (by decide) (by omega))
        · simp (disch := decide) only [gps, gpn]
        · simp (disch := decide) only [gps, gpn, k20]
        · rw [htake, List.foldl_append, ← hwv]
          show wv = stepP n wv f
          unfold stepP; rw [he]
        · show H1.get m = _
          rw [g1 m (by omega)]; exact hg m hm hmW
  · obtain rfl : i = ps.length := by omega
    have hlt' : ltI (Int.ofNat ps.length) (Int.ofNat ps.length) = false := by rw [ltI_eq]; simp
    rw [List.take_length] at hwv
    subst hwv
    repeat apply go_seq
    apply go_region
    case h => intro m; simp (maxSteps := 2000000) (disch := decide) only [opsLoop, evOper, wantedA, nth, aop, aPick, aBin, aIndexAddr, aFieldAddr, aLoad, aStore, aExtract, aConvert, aAlloc, aBox, aIndex, callA, builtinA, Fr.evs, opt, val, when, AM.run, outV, newA, ptr, force_eq, seen_heap, seen_next, seen_mark, seen_seen, agg_cells, int_cells, Fr.ev, Fr.put, onFr, gps, gpn, bltT, still, flat, List.append_nil, List.nil_append, List.cons_append, Nat.reduceEqDiff, ne_eq, not_false_eq_true, reduceCtorEq, Bool.and_true, Bool.true_and, Bool.and_false, Bool.false_and, Bool.not_true, Bool.not_false, Bool.and_self, k153, k154, b_lss, hlt']; rfl
    repeat apply go_seq
    apply go_cond
    case hc => simp (disch := decide) only [opsLoop, evOper, wantedA, nth, aop, aPick, aBin, aIndexAddr, aFieldAddr, aLoad, aStore, aExtract, aConvert, aAlloc, aBox, aIndex, callA, builtinA, Fr.evs, opt, val, when, AM.run, outV, newA, ptr, force_eq, seen_heap, seen_next, seen_mark, seen_seen, agg_cells, int_cells, Fr.ev, Fr.put, onFr, gps, gpn, bltT, still, flat, List.append_nil, List.nil_append, List.cons_append, Nat.reduceEqDiff, ne_eq, not_false_eq_true, reduceCtorEq, Bool.and_true, Bool.true_and, Bool.and_false, Bool.false_and, Bool.not_true, Bool.not_false, Bool.and_self]; rfl
    case h1 => intro h; cases h
    intro _
    apply go_exit
    refine ⟨rfl, _, rfl, ?_, ?_, hn, hwat, hg⟩
    · repeat (first | exact hK | refine keep_put ?_ (by decide) (by omega))
    · simp (disch := decide) only [gps, gpn, k20]
end Go.Proofs.YtgofanjbhbeniaaDoor.lf
end
end

section
/- Catalogs made anew: each name is found as it should be. -/
noncomputable section
namespace Go.Proofs.YtgofanjbhbeniaaDoor.lf
open AE
set_option linter.unusedSimpArgs false
set_option linter.unusedVariables false
set_option maxRecDepth 10000

theorem neqW (r : Option FileD) : binA E .neq 41 (.agg ⟨wc r⟩) (.agg ⟨wc r⟩) = some (.bool false) := by
  cases r with
  | some f =>
    show binA E .neq 41 (.agg ⟨f.cells⟩) (.agg ⟨f.cells⟩) = _
    rw [neqF, decide_eq_true rfl]; rfl
  | none =>
    show binA E .neq 41 (.agg ⟨FileD.cells ⟨0, 0, 0, 0⟩⟩) (.agg ⟨FileD.cells ⟨0, 0, 0, 0⟩⟩) = _
    rw [neqF, decide_eq_true rfl]; rfl
theorem eq_self_b (b : Bool) : (b == b) = true := by cases b <;> rfl
/-- memory that is looked at -/
structure MemQ (s0 : S) (D D2 : CatD) (ps : List FileD) (gs ns : List Int) (a1 a2 a3 b : Option Addr) (c1 cb T Rn : Nat) : Prop where
  C : Cl s0 3 0 (D.cells a1 c1)
  C2 : Cl s0 T 0 (D2.cells b cb)
  V1 : Vx s0 a1 (fcs D.files)
  V2 : Vx s0 a2 (fcs ps)
  V3 : Vx s0 a3 (icsL gs)
  VB : Vx s0 b (fcs D2.files)
  VN : Vx s0 (some ⟨Rn, 0, none⟩) (icsL ns)
def InvQ (s0 : S) (Y : Nat) (ps : List FileD) (gs ns : List Int) (name : Int) (a2 a3 : Option Addr) (c2 c3 w n1 cw T Rn cn : Nat) (k : Nat) (fr : Fr) (s : S) : Prop :=
  ∃ (i : Nat) (t : Tr Value), k = ns.length - i ∧ i ≤ ns.length ∧ fr = ⟨5, t, 174, [], none⟩ ∧ KX t ps gs name a2 a3 c2 c3 w n1 cw T ∧ t.get 123 = some (.slice (some ⟨Rn, 0, none⟩) ns.length cn) ∧ t.get 124 = some (.int .i64 (.ofNat ns.length)) ∧ t.get 125 = some (.int .i64 (.ofNat i)) ∧
    Y ≤ s.next ∧ s.next ≤ Y + 8 * i ∧ ∀ m, m < Y → s.heap.get m = s0.heap.get m
def PostQ (Y : Nat) (n : Nat) (x : Ex) (fr : Fr) (s : S) : Prop :=
  x = .exit 4 ∧ s.next ≤ Y + 8 * n ∧ ∃ t : Tr Value, fr = ⟨5, t, 174, [], none⟩
set_option maxHeartbeats 8000000 in
theorem find_round (s0 : S) (Y : Nat) (hY : Y ≤ 10000) (D : CatD) (ps : List FileD) (gs ns : List Int) (name : Int) (a1 a2 a3 b : Option Addr) (c1 c2 c3 cb w n1 cw T Rn cn : Nat) (hD : ND D.files) (hl1 : D.files.length ≤ 100) (hl2 : (withD D ps gs).files.length ≤ 100) (hps : ps.length ≤ 6) (hgs : gs.length ≤ 6) (hns : ns.length ≤ 100) (hs0 : s0.next ≤ Y)
    (hM : MemQ s0 D (withD D ps gs) ps gs ns a1 a2 a3 b c1 cb T Rn) (k : Nat) (fr : Fr) (s : S) (h : InvQ s0 Y ps gs ns name a2 a3 c2 c3 w n1 cw T Rn cn k fr s) :
    GoC E (sumsOf sigWl) cdQ fr s (Again (InvQ s0 Y ps gs ns name a2 a3 c2 c3 w n1 cw T Rn cn) k (PostQ Y ns.length)) := by
  obtain ⟨i, t, rfl, hi, rfl, ⟨k1, k2, k3, k4, k9, k10⟩, k123, k124, k125, hn1, hn2, hg⟩ := h
  by_cases hlt : i < ns.length
  · obtain ⟨n, hni⟩ : ∃ n, ns[i]? = some n := ⟨_, List.getElem?_eq_getElem hlt⟩
    have hlt' : ltI (Int.ofNat i) (Int.ofNat ns.length) = true := by rw [ltI_eq]; simp; omega
    have hbl : Nat.blt i ns.length = true := blt_iff.2 hlt
    have hinc := b_incr (n := i) (by omega)
    have low : ∀ {a : Option Addr} {L : List Value}, Vx s0 a L → ∀ s1 : S, Y ≤ s1.next → (∀ m, m < Y → s1.heap.get m = s0.heap.get m) → Vx s1 a L := fun hv s1 h1 h2 => vx_keep hv (by omega) (fun m hm => h2 m (by omega))
    have lowC : ∀ {m0 : Nat} {L : List Value}, Cl s0 m0 0 L → ∀ s1 : S, Y ≤ s1.next → (∀ m, m < Y → s1.heap.get m = s0.heap.get m) → Cl s1 m0 0 L := fun hv s1 h1 h2 => hv.keep (by omega) (h2 _ (by have := hv.lt; omega))
    have ltY : ∀ {a : Option Addr} {L : List Value}, Vx s0 a L → ∀ ad, a = some ad → ad.block < Y := fun hv ad e => by have := vx_lt hv ad e; omega
    have wl := with_look D ps gs n hD
    have hcQ : cdQ = .seq (sub [0] cdQ) (.seq (sub [1,0] cdQ) (.seq (.block 5 (.seq (sub [1,1,0,0,0] cdQ) (.seq (sub [1,1,0,0,1,0] cdQ) (.seq (sub [1,1,0,0,1,1,0] cdQ) (.seq (.seq (sub [1,1,0,0,1,1,1,0,0] cdQ) (.block 6 (.loop cd6))) (.seq (.seq (sub [1,1,0,0,1,1,1,1,0,0] cdQ) (.block 8 (.loop cd8))) (sub [1,1,0,0,1,1,1,1,1] cdQ))))))) (sub [1,1,1] cdQ))) := rfl
    rw [hcQ]
    simp only [cdQ, cdWl, Tryd.f5, bodyOf, sub]
    -- the name
    obtain ⟨H, N, mk, rd, wr⟩ := s
    simp only at hn1 hn2 hg
    have VN := low hM.VN ⟨H, N, mk, rd, wr⟩ hn1 hg
    have l2 := VN.2.ld (k := i) (v := .int .i64 n) tiI (by rw [dsI]; rfl) (by unfold icsL; rw [List.getElem?_map, hni]; rfl)
    have aa : addA ⟨Rn, 0, none⟩ (Nat.mul i 1) = ⟨Rn, 0 + i, none⟩ := by rw [show Nat.mul i 1 = i from Nat.mul_one i]; exact addAn Rn 0 _
    repeat apply go_seq
    apply go_region
    case h => intro m; simp (maxSteps := 2000000) (disch := decide) only [opsLoop, evOper, wantedA, nth, aop, aPick, aBin, aIndexAddr, aFieldAddr, aLoad, aStore, aExtract, aConvert, aAlloc, aBox, aIndex, callA, builtinA, Fr.evs, opt, val, when, AM.run, outV, newA, ptr, force_eq, seen_heap, seen_next, seen_mark, seen_seen, agg_cells, int_cells, Fr.ev, Fr.put, onFr, gps, gpn, bltT, still, flat, List.append_nil, List.nil_append, List.cons_append, Nat.reduceEqDiff, ne_eq, not_false_eq_true, reduceCtorEq, Bool.and_true, Bool.true_and, Bool.and_false, Bool.false_and, Bool.not_true, Bool.not_false, Bool.and_self, k124, k125, b_lss, hlt']; rfl
    repeat apply go_seq
    apply go_cond
    case hc => simp (disch := decide) only [opsLoop, evOper, wantedA, nth, aop, aPick, aBin, aIndexAddr, aFieldAddr, aLoad, aStore, aExtract, aConvert, aAlloc, aBox, aIndex, callA, builtinA, Fr.evs, opt, val, when, AM.run, outV, newA, ptr, force_eq, seen_heap, seen_next, seen_mark, seen_seen, agg_cells, int_cells, Fr.ev, Fr.put, onFr, gps, gpn, bltT, still, flat, List.append_nil, List.nil_append, List.cons_append, Nat.reduceEqDiff, ne_eq, not_false_eq_true, reduceCtorEq, Bool.and_true, Bool.true_and, Bool.and_false, Bool.false_and, Bool.not_true, Bool.not_false, Bool.and_self]; rfl
    case h2 => intro h; cases h
    intro _
    apply go_skip
    apply go_seq
    apply go_block
    repeat apply go_seq
    apply go_region
    case h => intro m; simp (maxSteps := 2000000) (disch := decide) only [opsLoop, evOper, wantedA, nth, aop, aPick, aBin, aIndexAddr, aFieldAddr, aLoad, aStore, aExtract, aConvert, aAlloc, aBox, aIndex, callA, builtinA, Fr.evs, opt, val, when, AM.run, outV, newA, ptr, force_eq, seen_heap, seen_next, seen_mark, seen_seen, agg_cells, int_cells, Fr.ev, Fr.put, onFr, gps, gpn, bltT, still, flat, List.append_nil, List.nil_append, List.cons_append, Nat.reduceEqDiff, ne_eq, not_false_eq_true, reduceCtorEq, Bool.and_true, Bool.true_and, Bool.and_false, Bool.false_and, Bool.not_true, Bool.not_false, Bool.and_self, k123, k125, tyIs, dsIs, hbl, tyI, szI, dsI, aa, l2]; rfl
    generalize hs1 : S.mk _ _ _ _ _ = s1
    have e1 : s1.next = N := by rw [← hs1]
    have e1h : s1.heap = H := by rw [← hs1]
    clear hs1 l2
    have g1 : ∀ m, m < Y → s1.heap.get m = s0.heap.get m := fun m hm => by rw [e1h]; exact hg m hm
    -- in the new catalog
    have C2 := lowC hM.C2 s1 (by omega) g1
    have l3 := cl_agg (β := ANext) tiC (by rw [dsC]; rfl) (by rw [szC]; rfl) C2 val
    obtain ⟨s2, r2, hr2, _⟩ := findA_run (s := s1.seen T) (cap := cb) (withD D ps gs) n (by omega) (vx_keep (low hM.VB s1 (by omega) g1) (Nat.le_refl _) (fun _ _ => rfl))
    rw [findV_wc] at r2
    have e2 : s2.next = N := by have := hr2.next; rw [this]; exact e1
    have e2h : s2.heap = s1.heap := hr2.heap
    have g2 : ∀ m, m < Y → s2.heap.get m = s0.heap.get m := fun m hm => by rw [e2h]; exact g1 m hm
    clear hr2
    obtain ⟨H2, N2, mk2, rd2, wr2⟩ := s2
    simp only at e2 e2h g2
    have hN2 : Nat.ble N2 lastName = true := ble_iff.2 (by unfold lastName; omega)
    have st2 := newCell H2 N2 mk2 hN2 (wc none) (wc (lookM (withD D ps gs).files n)) 41 (by rw [wc_len, wc_len]) (by rw [wc_len]; omega) (wc_one _)
    rw [show wc none = [Value.int .i64 0, .int .i64 0, .int .i64 0, .int .i64 0] from rfl] at st2
    repeat apply go_seq
    apply go_region
    case h => intro m; simp (maxSteps := 2000000) (disch := decide) only [opsLoop, evOper, wantedA, nth, aop, aPick, aBin, aIndexAddr, aFieldAddr, aLoad, aStore, aExtract, aConvert, aAlloc, aBox, aIndex, callA, builtinA, Fr.evs, opt, val, when, AM.run, outV, newA, ptr, force_eq, seen_heap, seen_next, seen_mark, seen_seen, agg_cells, int_cells, Fr.ev, Fr.put, onFr, gps, gpn, bltT, still, flat, List.append_nil, List.nil_append, List.cons_append, Nat.reduceEqDiff, ne_eq, not_false_eq_true, reduceCtorEq, Bool.and_true, Bool.true_and, Bool.and_false, Bool.false_and, Bool.not_true, Bool.not_false, Bool.and_self, k10, tyC, l3, tgWF, evT_told wlF, r2, aExtract, dropL, tyF, zeF, szF, hN2, len4, show ∀ r, Nat.beq (wc r).length 4 = true from fun r => by rw [wc_len]; rfl, st2]; rfl
    generalize hs3 : S.mk _ _ _ _ _ = s3
    have e3 : s3.next = N2 + 1 := by rw [← hs3]
    have e3h : s3.heap = (H2.put N2 (some (.cells (Tr.ofList [.int .i64 0, .int .i64 0, .int .i64 0, .int .i64 0]) (List.length [Value.int .i64 0, .int .i64 0, .int .i64 0, .int .i64 0]) 41 .whole))).put N2 (some (.cells (wrCells (Tr.ofList [.int .i64 0, .int .i64 0, .int .i64 0, .int .i64 0]) 0 (wc (lookM (withD D ps gs).files n))) (List.length [Value.int .i64 0, .int .i64 0, .int .i64 0, .int .i64 0]) 41 .whole)) := by rw [← hs3]
    clear hs3 st2 r2 l3
    have F3 : Cl s3 N2 0 (wc (lookM (withD D ps gs).files n)) := newCell_cl (by omega) (by rw [e3h]; exact hg_same hN2 _ _) (by rw [wc_len]; rfl) (by rw [wc_len]; omega)
    have g3 : ∀ m, m < Y → s3.heap.get m = s0.heap.get m := fun m hm => by rw [e3h, hg_far hN2 (by omega), hg_far hN2 (by omega)]; exact g2 m hm
    clear e3h
    -- in the one that was
    have C4 := lowC hM.C s3 (by omega) g3
    have l4 := cl_agg (β := ANext) tiC (by rw [dsC]; rfl) (by rw [szC]; rfl) C4 val
    obtain ⟨s4, r4, hr4, _⟩ := findA_run (s := s3.seen 3) (cap := c1) D n (by omega) (vx_keep (low hM.V1 s3 (by omega) g3) (Nat.le_refl _) (fun _ _ => rfl))
    rw [findV_wc] at r4
    have e4 : s4.next = N2 + 1 := by have := hr4.next; rw [this]; exact e3
    have e4h : s4.heap = s3.heap := hr4.heap
    have g4 : ∀ m, m < Y → s4.heap.get m = s0.heap.get m := fun m hm => by rw [e4h]; exact g3 m hm
    have F4 : Cl s4 N2 0 (wc (lookM (withD D ps gs).files n)) := F3.keep (by omega) (by rw [e4h])
    clear hr4 e4h
    obtain ⟨H4, W, mk4, rd4, wr4⟩ := s4
    simp only at e4 g4
    have hW : Nat.ble W lastName = true := ble_iff.2 (by unfold lastName; omega)
    have st4 := newCell H4 W mk4 hW (wc none) (wc (lookM D.files n)) 41 (by rw [wc_len, wc_len]) (by rw [wc_len]; omega) (wc_one _)
    rw [show wc none = [Value.int .i64 0, .int .i64 0, .int .i64 0, .int .i64 0] from rfl] at st4
    repeat apply go_seq
    apply go_region
    case h => intro m; simp (maxSteps := 2000000) (disch := decide) only [opsLoop, evOper, wantedA, nth, aop, aPick, aBin, aIndexAddr, aFieldAddr, aLoad, aStore, aExtract, aConvert, aAlloc, aBox, aIndex, callA, builtinA, Fr.evs, opt, val, when, AM.run, outV, newA, ptr, force_eq, seen_heap, seen_next, seen_mark, seen_seen, agg_cells, int_cells, Fr.ev, Fr.put, onFr, gps, gpn, bltT, still, flat, List.append_nil, List.nil_append, List.cons_append, Nat.reduceEqDiff, ne_eq, not_false_eq_true, reduceCtorEq, Bool.and_true, Bool.true_and, Bool.and_false, Bool.false_and, Bool.not_true, Bool.not_false, Bool.and_self, k4, tyC, l4, tgWF, evT_told wlF, r4, aExtract, dropL, tyF, zeF, szF, hW, len4, show ∀ r, Nat.beq (wc r).length 4 = true from fun r => by rw [wc_len]; rfl, st4]; rfl
    generalize hs5 : S.mk _ _ _ _ _ = s5
    have e5 : s5.next = W + 1 := by rw [← hs5]
    have e5h : s5.heap = (H4.put W (some (.cells (Tr.ofList [.int .i64 0, .int .i64 0, .int .i64 0, .int .i64 0]) (List.length [Value.int .i64 0, .int .i64 0, .int .i64 0, .int .i64 0]) 41 .whole))).put W (some (.cells (wrCells (Tr.ofList [.int .i64 0, .int .i64 0, .int .i64 0, .int .i64 0]) 0 (wc (lookM D.files n))) (List.length [Value.int .i64 0, .int .i64 0, .int .i64 0, .int .i64 0]) 41 .whole)) := by rw [← hs5]
    clear hs5 st4 r4 l4
    have W5 : Wat s5 W (lookM D.files n) := ⟨_, by rw [e5h]; exact hg_same hW _ _, row_wr (by rw [wc_len]; unfold Tr.wide; omega)⟩
    have g5 : ∀ m, m < Y → s5.heap.get m = s0.heap.get m := fun m hm => by rw [e5h, hg_far hW (by omega), hg_far hW (by omega)]; exact g4 m hm
    have F5 : Cl s5 N2 0 (wc (lookM (withD D ps gs).files n)) := F4.keep (by show W ≤ _; omega) (by rw [e5h, hg_far hW (by omega), hg_far hW (by omega)])
    clear e5h F3 F4 g4 g3 g2 g1
    -- is it gone?
    repeat apply go_seq
    apply go_region
    case h => intro m; simp (maxSteps := 2000000) (disch := decide) only [opsLoop, evOper, wantedA, nth, aop, aPick, aBin, aIndexAddr, aFieldAddr, aLoad, aStore, aExtract, aConvert, aAlloc, aBox, aIndex, callA, builtinA, Fr.evs, opt, val, when, AM.run, outV, newA, ptr, force_eq, seen_heap, seen_next, seen_mark, seen_seen, agg_cells, int_cells, Fr.ev, Fr.put, onFr, gps, gpn, bltT, still, flat, List.append_nil, List.nil_append, List.cons_append, Nat.reduceEqDiff, ne_eq, not_false_eq_true, reduceCtorEq, Bool.and_true, Bool.true_and, Bool.and_false, Bool.false_and, Bool.not_true, Bool.not_false, Bool.and_self, k2, tyIs, dsIs]; rfl
    generalize ht6 : Tr.put _ _ _ = t6
    have u1 : t6.get 1 = some (.slice a2 ps.length c2) := by rw [← ht6]; simp (disch := decide) only [gps, gpn, k1]
    have u2 : t6.get 2 = some (.slice a3 gs.length c3) := by rw [← ht6]; simp (disch := decide) only [gps, gpn, k2]
    have u3 : t6.get 3 = some (.int .i64 name) := by rw [← ht6]; simp (disch := decide) only [gps, gpn, k3]
    have u4 : t6.get 4 = some (.pointer (some ⟨3, 0, none⟩)) := by rw [← ht6]; simp (disch := decide) only [gps, gpn, k4]
    have u9 : t6.get 9 = some (.slice (some ⟨w, 0, none⟩) n1 cw) := by rw [← ht6]; simp (disch := decide) only [gps, gpn, k9]
    have u10 : t6.get 10 = some (.pointer (some ⟨T, 0, none⟩)) := by rw [← ht6]; simp (disch := decide) only [gps, gpn, k10]
    have u123 : t6.get 123 = some (.slice (some ⟨Rn, 0, none⟩) ns.length cn) := by rw [← ht6]; simp (disch := decide) only [gps, gpn, k123]
    have u124 : t6.get 124 = some (.int .i64 (.ofNat ns.length)) := by rw [← ht6]; simp (disch := decide) only [gps, gpn, k124]
    have u125 : t6.get 125 = some (.int .i64 (.ofNat i)) := by rw [← ht6]; simp (disch := decide) only [gps, gpn, k125]
    have u16 : t6.get 16 = some (.int .i64 n) := by rw [← ht6]; simp (disch := decide) only [gps, gpn]
    have u17 : t6.get 17 = some (.pointer (some ⟨N2, 0, none⟩)) := by rw [← ht6]; simp (disch := decide) only [gps, gpn]
    have u18 : t6.get 18 = some (.bool (lookM (withD D ps gs).files n).isSome) := by rw [← ht6]; simp (disch := decide) only [gps, gpn]
    have u19 : t6.get 19 = some (.pointer (some ⟨W, 0, none⟩)) := by rw [← ht6]; simp (disch := decide) only [gps, gpn]
    have u20 : t6.get 20 = some (.bool (lookM D.files n).isSome) := by rw [← ht6]; simp (disch := decide) only [gps, gpn]
    have u141 : t6.get 141 = some (.slice a3 gs.length c3) := by rw [← ht6]; simp (disch := decide) only [gps, gpn]
    have u142 : t6.get 142 = some (.int .i64 (.ofNat gs.length)) := by rw [← ht6]; simp (disch := decide) only [gps, gpn]
    have u143 : t6.get 143 = some (.int .i64 (.ofNat 0)) := by rw [← ht6]; simp (disch := decide) only [gps, gpn, int0]
    clear ht6
    apply go_block
    refine (go_loop_inv (body := cd6) (Inv6 s5 t6 W n (lookM D.files n) gs) (fun k fr s hI => want6_round s5 t6 W n (lookM D.files n) gs a3 c3 (by omega) (by omega) (by omega) (low hM.V3 s5 (by omega) g5) (fun ad e => by have := ltY hM.V3 ad e; omega) u16 u19 u141 u142 k fr s hI) (gs.length - 0) _ _ ⟨0, t6, _, rfl, by omega, rfl, fun _ _ => rfl, u143, u20, rfl, rfl, W5, fun _ _ => rfl⟩).mono ?_
    rintro x fr s7 ⟨rfl, t7, rfl, K7, v20, n7, W7, f7⟩
    simp only [Out_, if_true]
    show GoC E _ _ _ _ _
    have g7 : ∀ m, m < Y → s7.heap.get m = s0.heap.get m := fun m hm => by rw [f7 m (by omega)]; exact g5 m hm
    have F7 : Cl s7 N2 0 (wc (lookM (withD D ps gs).files n)) := F5.keep (by omega) (f7 _ (by omega))
    rw [← K7 1 (by decide)] at u1
    rw [← K7 2 (by decide)] at u2
    rw [← K7 3 (by decide)] at u3
    rw [← K7 4 (by decide)] at u4
    rw [← K7 9 (by decide)] at u9
    rw [← K7 10 (by decide)] at u10
    rw [← K7 123 (by decide)] at u123
    rw [← K7 124 (by decide)] at u124
    rw [← K7 125 (by decide)] at u125
    rw [← K7 16 (by decide)] at u16
    rw [← K7 17 (by decide)] at u17
    rw [← K7 18 (by decide)] at u18
    rw [← K7 19 (by decide)] at u19
    clear K7 f7 g5 F5 W5 u20 u141 u142 u143
    -- is it put?
    repeat apply go_seq
    apply go_region
    case h => intro m; simp (maxSteps := 2000000) (disch := decide) only [opsLoop, evOper, wantedA, nth, aop, aPick, aBin, aIndexAddr, aFieldAddr, aLoad, aStore, aExtract, aConvert, aAlloc, aBox, aIndex, callA, builtinA, Fr.evs, opt, val, when, AM.run, outV, newA, ptr, force_eq, seen_heap, seen_next, seen_mark, seen_seen, agg_cells, int_cells, Fr.ev, Fr.put, onFr, gps, gpn, bltT, still, flat, List.append_nil, List.nil_append, List.cons_append, Nat.reduceEqDiff, ne_eq, not_false_eq_true, reduceCtorEq, Bool.and_true, Bool.true_and, Bool.and_false, Bool.false_and, Bool.not_true, Bool.not_false, Bool.and_self, u1, tyFs, dsFs]; rfl
    generalize ht8 : Tr.put _ _ _ = t8
    have x1 : t8.get 1 = some (.slice a2 ps.length c2) := by rw [← ht8]; simp (disch := decide) only [gps, gpn, u1]
    have x2 : t8.get 2 = some (.slice a3 gs.length c3) := by rw [← ht8]; simp (disch := decide) only [gps, gpn, u2]
    have x3 : t8.get 3 = some (.int .i64 name) := by rw [← ht8]; simp (disch := decide) only [gps, gpn, u3]
    have x4 : t8.get 4 = some (.pointer (some ⟨3, 0, none⟩)) := by rw [← ht8]; simp (disch := decide) only [gps, gpn, u4]
    have x9 : t8.get 9 = some (.slice (some ⟨w, 0, none⟩) n1 cw) := by rw [← ht8]; simp (disch := decide) only [gps, gpn, u9]
    have x10 : t8.get 10 = some (.pointer (some ⟨T, 0, none⟩)) := by rw [← ht8]; simp (disch := decide) only [gps, gpn, u10]
    have x123 : t8.get 123 = some (.slice (some ⟨Rn, 0, none⟩) ns.length cn) := by rw [← ht8]; simp (disch := decide) only [gps, gpn, u123]
    have x124 : t8.get 124 = some (.int .i64 (.ofNat ns.length)) := by rw [← ht8]; simp (disch := decide) only [gps, gpn, u124]
    have x125 : t8.get 125 = some (.int .i64 (.ofNat i)) := by rw [← ht8]; simp (disch := decide) only [gps, gpn, u125]
    have x16 : t8.get 16 = some (.int .i64 n) := by rw [← ht8]; simp (disch := decide) only [gps, gpn, u16]
    have x17 : t8.get 17 = some (.pointer (some ⟨N2, 0, none⟩)) := by rw [← ht8]; simp (disch := decide) only [gps, gpn, u17]
    have x18 : t8.get 18 = some (.bool (lookM (withD D ps gs).files n).isSome) := by rw [← ht8]; simp (disch := decide) only [gps, gpn, u18]
    have x19 : t8.get 19 = some (.pointer (some ⟨W, 0, none⟩)) := by rw [← ht8]; simp (disch := decide) only [gps, gpn, u19]
    have x20 : t8.get 20 = some (.bool (gs.foldl (stepG n) (lookM D.files n)).isSome) := by rw [← ht8]; simp (disch := decide) only [gps, gpn, v20]
    have x152 : t8.get 152 = some (.slice a2 ps.length c2) := by rw [← ht8]; simp (disch := decide) only [gps, gpn]
    have x153 : t8.get 153 = some (.int .i64 (.ofNat ps.length)) := by rw [← ht8]; simp (disch := decide) only [gps, gpn]
    have x154 : t8.get 154 = some (.int .i64 (.ofNat 0)) := by rw [← ht8]; simp (disch := decide) only [gps, gpn, int0]
    clear ht8
    apply go_block
    refine (go_loop_inv (body := cd8) (Inv8 s7 t8 W n (gs.foldl (stepG n) (lookM D.files n)) ps) (fun k fr s hI => want8_round s7 t8 W n (gs.foldl (stepG n) (lookM D.files n)) ps a2 c2 (by omega) (by omega) (by omega) (low hM.V2 s7 (by omega) g7) (fun ad e => by have := ltY hM.V2 ad e; omega) x16 x19 x152 x153 k fr s hI) (ps.length - 0) _ _ ⟨0, t8, _, rfl, by omega, rfl, fun _ _ => rfl, x154, x20, rfl, rfl, W7, fun _ _ _ => rfl⟩).mono ?_
    rintro x fr s9 ⟨rfl, t9, rfl, K9, y20, n9, W9, f9⟩
    simp only [Out_, if_true]
    show GoC E _ _ _ _ _
    have g9 : ∀ m, m < Y → s9.heap.get m = s0.heap.get m := fun m hm => by rw [f9 m (by omega) (by omega)]; exact g7 m hm
    have F9 : Cl s9 N2 0 (wc (lookM (withD D ps gs).files n)) := F7.keep (by omega) (f9 _ (by omega) (by omega))
    rw [← wl] at y20 W9
    have G9 := W9.cl (by omega)
    rw [← K9 1 (by decide)] at x1
    rw [← K9 2 (by decide)] at x2
    rw [← K9 3 (by decide)] at x3
    rw [← K9 4 (by decide)] at x4
    rw [← K9 9 (by decide)] at x9
    rw [← K9 10 (by decide)] at x10
    rw [← K9 123 (by decide)] at x123
    rw [← K9 124 (by decide)] at x124
    rw [← K9 125 (by decide)] at x125
    rw [← K9 17 (by decide)] at x17
    rw [← K9 18 (by decide)] at x18
    rw [← K9 19 (by decide)] at x19
    clear K9 f9 g7 F7 W7 W9 wl x20 x152 x153 x154
    generalize lookM (withD D ps gs).files n = r at *
    obtain ⟨H9, N9, mk9, rd9, wr9⟩ := s9
    simp only at n9 g9
    have lf := F9.ldA (β := ANext) tiF (by rw [dsF]; rfl) (by rw [szF, wc_len])
    have lw := G9.ldA (β := ANext) tiF (by rw [dsF]; rfl) (by rw [szF, wc_len])
    repeat apply go_seq
    apply go_region
    case h => intro m; simp (maxSteps := 2000000) (disch := decide) only [opsLoop, evOper, wantedA, nth, aop, aPick, aBin, aIndexAddr, aFieldAddr, aLoad, aStore, aExtract, aConvert, aAlloc, aBox, aIndex, callA, builtinA, Fr.evs, opt, val, when, AM.run, outV, newA, ptr, force_eq, seen_heap, seen_next, seen_mark, seen_seen, agg_cells, int_cells, Fr.ev, Fr.put, onFr, gps, gpn, bltT, still, flat, List.append_nil, List.nil_append, List.cons_append, Nat.reduceEqDiff, ne_eq, not_false_eq_true, reduceCtorEq, Bool.and_true, Bool.true_and, Bool.and_false, Bool.false_and, Bool.not_true, Bool.not_false, Bool.and_self, x17, x18, x19, y20, tyF, lf, lw, neqW, neB_tt, eq_self_b]; rfl
    repeat apply go_seq
    apply go_cond
    case hc => simp (disch := decide) only [opsLoop, evOper, wantedA, nth, aop, aPick, aBin, aIndexAddr, aFieldAddr, aLoad, aStore, aExtract, aConvert, aAlloc, aBox, aIndex, callA, builtinA, Fr.evs, opt, val, when, AM.run, outV, newA, ptr, force_eq, seen_heap, seen_next, seen_mark, seen_seen, agg_cells, int_cells, Fr.ev, Fr.put, onFr, gps, gpn, bltT, still, flat, List.append_nil, List.nil_append, List.cons_append, Nat.reduceEqDiff, ne_eq, not_false_eq_true, reduceCtorEq, Bool.and_true, Bool.true_and, Bool.and_false, Bool.false_and, Bool.not_true, Bool.not_false, Bool.and_self]; rfl
    case h1 => intro h; cases h
    intro _
    apply go_skip
    repeat apply go_seq
    apply go_region
    case h => intro m; simp (maxSteps := 2000000) (disch := decide) only [opsLoop, evOper, wantedA, nth, aop, aPick, aBin, aIndexAddr, aFieldAddr, aLoad, aStore, aExtract, aConvert, aAlloc, aBox, aIndex, callA, builtinA, Fr.evs, opt, val, when, AM.run, outV, newA, ptr, force_eq, seen_heap, seen_next, seen_mark, seen_seen, agg_cells, int_cells, Fr.ev, Fr.put, onFr, gps, gpn, bltT, still, flat, List.append_nil, List.nil_append, List.cons_append, Nat.reduceEqDiff, ne_eq, not_false_eq_true, reduceCtorEq, Bool.and_true, Bool.true_and, Bool.and_false, Bool.false_and, Bool.not_true, Bool.not_false, Bool.and_self, x125, int1, hinc]; rfl
    refine ⟨ns.length - (i + 1), by omega, i + 1, _, rfl, by omega, rfl, ⟨?_, ?_, ?_, ?_, ?_, ?_⟩, ?_, ?_, ?_, by show Y ≤ N9; omega, by show N9 ≤ _; omega, g9⟩
    · simp (disch := decide) only [gps, gpn, x1]
    · simp (disch := decide) only [gps, gpn, x2]
    · simp (disch := decide) only [gps, gpn, x3]
    · simp (disch := decide) only [gps, gpn, x4]
    · simp (disch := decide) only [gps, gpn, x9]
    · simp (disch := decide) only [gps, gpn, x10]
    · simp (disch := decide) only [gps, gpn, x123]
    · simp (disch := decide) only [gps, gpn, x124]
    · simp (disch := decide) only [gps, gpn]
  · obtain rfl : i = ns.length := by omega
    have hlt' : ltI (Int.ofNat ns.length) (Int.ofNat ns.length) = false := by rw [ltI_eq]; simp
    simp only [cdQ, cdWl, Tryd.f5, bodyOf, sub]
    repeat apply go_seq
    apply go_region
    case h => intro m; simp (maxSteps := 2000000) (disch := decide) only [opsLoop, evOper, wantedA, nth, aop, aPick, aBin, aIndexAddr, aFieldAddr, aLoad, aStore, aExtract, aConvert, aAlloc, aBox, aIndex, callA, builtinA, Fr.evs, opt, val, when, AM.run, outV, newA, ptr, force_eq, seen_heap, seen_next, seen_mark, seen_seen, agg_cells, int_cells, Fr.ev, Fr.put, onFr, gps, gpn, bltT, still, flat, List.append_nil, List.nil_append, List.cons_append, Nat.reduceEqDiff, ne_eq, not_false_eq_true, reduceCtorEq, Bool.and_true, Bool.true_and, Bool.and_false, Bool.false_and, Bool.not_true, Bool.not_false, Bool.and_self, k124, k125, b_lss, hlt']; rfl
    repeat apply go_seq
    apply go_cond
    case hc => simp (disch := decide) only [opsLoop, evOper, wantedA, nth, aop, aPick, aBin, aIndexAddr, aFieldAddr, aLoad, aStore, aExtract, aConvert, aAlloc, aBox, aIndex, callA, builtinA, Fr.evs, opt, val, when, AM.run, outV, newA, ptr, force_eq, seen_heap, seen_next, seen_mark, seen_seen, agg_cells, int_cells, Fr.ev, Fr.put, onFr, gps, gpn, bltT, still, flat, List.append_nil, List.nil_append, List.cons_append, Nat.reduceEqDiff, ne_eq, not_false_eq_true, reduceCtorEq, Bool.and_true, Bool.true_and, Bool.and_false, Bool.false_and, Bool.not_true, Bool.not_false, Bool.and_self]; rfl
    case h1 => intro h; cases h
    intro _
    apply go_exit
    exact ⟨rfl, hn2, _, rfl⟩
end Go.Proofs.YtgofanjbhbeniaaDoor.lf
end
end
