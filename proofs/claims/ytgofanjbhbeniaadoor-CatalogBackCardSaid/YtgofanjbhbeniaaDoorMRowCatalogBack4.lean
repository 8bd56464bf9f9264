/- Leaves: bytes that are the same; a number of two bytes. -/
import Derived.Test.YtgofanjbhbeniaaDoorMRowCatalogBack3
section
/- Leaves: a leaf as a block's bytes: told. -/
noncomputable section
namespace Go.Proofs.YtgofanjbhbeniaaDoor.lf
open AE
set_option linter.unusedSimpArgs false
set_option linter.unusedVariables false
set_option maxRecDepth 10000

theorem b_shrI (c k : Nat) (hk : k ≤ 64) : ∀ E t, binA E .shr t (.int .i64 (.ofNat c)) (.int .u64 (.ofNat k)) = some (.int .i64 (.ofNat (c >>> k))) := by
  intro E t
  show some (Value.int .i64 (Int.fdiv (.ofNat c) (pow2 (minN k 64)))) = _
  have h : minN k 64 = k := by rw [minN_eq]; omega
  rw [h]
  have h2 : Int.fdiv (.ofNat c) (pow2 k) = Int.ofNat (c >>> k) := by
    rw [Nat.shiftRight_eq_div_pow]
    unfold pow2
    show Int.fdiv ((c : Nat) : Int) ((2 ^ k : Nat) : Int) = ((c / 2 ^ k : Nat) : Int)
    rw [Int.fdiv_eq_ediv_of_nonneg _ (Int.natCast_nonneg _)]
    rfl
  rw [h2]
def InvP (d : LeafD) (n : Nat) (s0 : S) (k : Nat) (fr : Fr) (s : S) : Prop :=
  ∃ (i : Nat) (t : Tr Value), k = 3 - i ∧ i ≤ 3 ∧ fr = ⟨22, t, 45, [], none⟩ ∧ PutAt n d s0 s i ∧ t.get 1 = some (.pointer (some ⟨n, 0, none⟩)) ∧ t.get 3 = some (.slice (some ⟨n + 3, 0, none⟩) (116 + 2 * i) 124) ∧
    t.get 20 = some (.slice (some ⟨n + 4, 0, none⟩) 3 3) ∧ t.get 21 = some (.int .i64 (.ofNat 3)) ∧ t.get 22 = some (.int .i64 (.ofNat i))
def PostP (d : LeafD) (n : Nat) (s0 : S) (x : Ex) (fr : Fr) (s : S) : Prop :=
  x = .exit 0 ∧ ∃ t : Tr Value, fr = ⟨22, t, 45, [], none⟩ ∧ PutAt n d s0 s 3 ∧ t.get 1 = some (.pointer (some ⟨n, 0, none⟩)) ∧ t.get 3 = some (.slice (some ⟨n + 3, 0, none⟩) 122 124)
set_option maxHeartbeats 400000 in
theorem put_round (d : LeafD) (n : Nat) (s0 : S) (hd : d.load.length = 116) (hN : ∀ j, j < 11 → Nat.ble (n + j) lastName = true) (hx : ∀ (j : Nat) (x : Int), (three d)[j]? = some x → 0 ≤ x ∧ x ≤ 65535) (k : Nat) (fr : Fr) (s : S) (h : InvP d n s0 k fr s) :
    GoC E (sumsOf sigP) cdPl fr s (Again (InvP d n s0) k (PostP d n s0)) := by
  obtain ⟨i, t, hk, hi, rfl, hp, g1, g3, g20, g21, g22⟩ := h
  simp only [cdPl, cdP, Tryd.f22, bodyOf, sub]
  by_cases hlt : i < 3
  · obtain ⟨x, hxi⟩ : ∃ x, (three d)[i]? = some x := ⟨_, List.getElem?_eq_getElem (by simpa [three] using hlt)⟩
    have hx2 := hx i x hxi
    have hlt' : ltI (Int.ofNat i) (Int.ofNat 3) = true := by rw [ltI_eq]; simp; omega
    have hb : Nat.blt i 3 = true := blt_iff.2 hlt
    have hld := hp.get i x hxi
    have hinc := b_incr (n := i) (by omega)
    obtain ⟨z, hz⟩ : ∃ z : Nat, x = Int.ofNat z := ⟨x.toNat, (Int.toNat_of_nonneg hx2.1).symm⟩
    have hgd : (three d).getD i 0 = x := by rw [List.getD_eq_getElem?_getD, hxi]; rfl
    repeat apply go_seq
    apply go_region
    case h => intro m; simp (maxSteps := 2000000) (disch := decide) only [opsLoop, evOper, wantedA, nth, aop, aPick, aBin, aIndexAddr, aFieldAddr, aLoad, aStore, aExtract, aConvert, aAlloc, aBox, aIndex, callA, builtinA, Fr.evs, opt, val, when, AM.run, outV, newA, ptr, force_eq, seen_heap, seen_next, seen_mark, seen_seen, agg_cells, int_cells, Fr.ev, Fr.put, onFr, gps, gpn, bltT, still, flat, List.append_nil, List.nil_append, List.cons_append, Nat.reduceEqDiff, ne_eq, not_false_eq_true, reduceCtorEq, Bool.and_true, Bool.true_and, Bool.and_false, Bool.false_and, Bool.not_true, Bool.not_false, Bool.and_self, g21, g22, b_lss, hlt']; rfl
    repeat apply go_seq
    apply go_cond
    case hc => simp (disch := decide) only [opsLoop, evOper, wantedA, nth, aop, aPick, aBin, aIndexAddr, aFieldAddr, aLoad, aStore, aExtract, aConvert, aAlloc, aBox, aIndex, callA, builtinA, Fr.evs, opt, val, when, AM.run, outV, newA, ptr, force_eq, seen_heap, seen_next, seen_mark, seen_seen, agg_cells, int_cells, Fr.ev, Fr.put, onFr, gps, gpn, bltT, still, flat, List.append_nil, List.nil_append, List.cons_append, Nat.reduceEqDiff, ne_eq, not_false_eq_true, reduceCtorEq, Bool.and_true, Bool.true_and, Bool.and_false, Bool.false_and, Bool.not_true, Bool.not_false, Bool.and_self]; rfl
    case h2 => intro h; cases h
    intro _
    apply go_skip
    apply go_seq
    apply go_block
    repeat apply go_seq
    apply go_region
    case h => intro m; simp (maxSteps := 2000000) (disch := decide) only [opsLoop, evOper, wantedA, nth, aop, aPick, aBin, aIndexAddr, aFieldAddr, aLoad, aStore, aExtract, aConvert, aAlloc, aBox, aIndex, callA, builtinA, Fr.evs, opt, val, when, AM.run, outV, newA, ptr, force_eq, seen_heap, seen_next, seen_mark, seen_seen, agg_cells, int_cells, Fr.ev, Fr.put, onFr, gps, gpn, bltT, still, flat, List.append_nil, List.nil_append, List.cons_append, Nat.reduceEqDiff, ne_eq, not_false_eq_true, reduceCtorEq, Bool.and_true, Bool.true_and, Bool.and_false, Bool.false_and, Bool.not_true, Bool.not_false, Bool.and_self, g20, g22, tyL, dsL, tyI, szI, hb, mul1, add0, hld]; rfl
    subst hz
    have hp1 := hp.rd (Rd.seen s (n + 4))
    generalize hs1 : s.seen (n + 4) = s1
    rw [hs1] at hp1
    have hnx := hp1.next
    have hN1 : Nat.ble s1.next lastName = true := by rw [hnx, Nat.add_assoc]; exact hN (5 + i) (by omega)
    have g8 := b_shrI z 8 (by omega)
    have i8 : (8 : Int) = Int.ofNat 8 := rfl
    have f2 := fill2 (UInt8.ofNat z) (UInt8.ofNat (z >>> 8))
    repeat apply go_seq
    apply go_ops
    apply go_take 7
    case h => intro m; simp (disch := decide) only [List.take, opsLoop, evOper, wantedA, nth, aop, aPick, aBin, aIndexAddr, aFieldAddr, aLoad, aStore, aExtract, aConvert, aAlloc, aBox, aIndex, callA, Fr.evs, opt, val, when, AM.run, outV, newA, ptr, force_eq, seen_heap, seen_next, seen_mark, seen_seen, agg_cells, int_cells, Fr.ev, Fr.put, onFr, gps, gpn, bltT, still, flat, List.append_nil, List.nil_append, List.cons_append, Nat.reduceEqDiff, ne_eq, not_false_eq_true, reduceCtorEq, Bool.and_true, Bool.true_and, Bool.and_false, Bool.false_and, Bool.not_true, Bool.not_false, Bool.and_self, g3, tyU8, tyI, dsU8, dsI, i8, g8, cv8, aBuildSlice, evParts, tyB, dsB, zeU8, szU8, byU8, int0, f2, hN1, show Nat.ble (Nat.mul 2 1) 1048576 = true from rfl, show Nat.beq ([Value.int .u8 (Int.ofNat 0)] : List Value).length 1 = true from rfl, show Nat.ble 1 1 = true from rfl, show ∀ a b : Value, Nat.ble ([a, b] : List Value).length lastName = true from fun _ _ => rfl]; rfl
    simp only [List.drop]
    generalize hs3 : S.mk _ _ _ _ _ = s3
    have e3 : s3.next = s1.next + 1 := by rw [← hs3]
    have e3h : s3.heap = s1.heap.put s1.next (some (.cells (Tr.ofList [bv (UInt8.ofNat z), bv (UInt8.ofNat (z >>> 8))]) (List.length [bv (UInt8.ofNat z), bv (UInt8.ofNat (z >>> 8))]) 5 .whole)) := by rw [← hs3]
    have hL2 : [bv (UInt8.ofNat z), bv (UInt8.ofNat (z >>> 8))] = (two (Int.ofNat z)).map bv := rfl
    rw [hL2, List.length_map] at e3h
    clear hs3
    obtain ⟨s4, a4, m1, m2, m3, m4, m5⟩ := hp1.more hd hi hN (two (Int.ofNat z)) rfl _ _ e3 e3h
    apply go_take 2
    case h => intro m; simp (disch := decide) only [List.take, opsLoop, evOper, wantedA, nth, aop, aPick, aBin, aIndexAddr, aFieldAddr, aLoad, aStore, aExtract, aConvert, aAlloc, aBox, aIndex, callA, Fr.evs, opt, val, when, AM.run, outV, newA, ptr, force_eq, seen_heap, seen_next, seen_mark, seen_seen, agg_cells, int_cells, Fr.ev, Fr.put, onFr, gps, gpn, bltT, still, flat, List.append_nil, List.nil_append, List.cons_append, Nat.reduceEqDiff, ne_eq, not_false_eq_true, reduceCtorEq, Bool.and_true, Bool.true_and, Bool.and_false, Bool.false_and, Bool.not_true, Bool.not_false, Bool.and_self, a4]; rfl
    simp only [List.drop]
    apply go_done
    repeat apply go_seq
    apply go_region
    case h => intro m; simp (maxSteps := 2000000) (disch := decide) only [opsLoop, evOper, wantedA, nth, aop, aPick, aBin, aIndexAddr, aFieldAddr, aLoad, aStore, aExtract, aConvert, aAlloc, aBox, aIndex, callA, builtinA, Fr.evs, opt, val, when, AM.run, outV, newA, ptr, force_eq, seen_heap, seen_next, seen_mark, seen_seen, agg_cells, int_cells, Fr.ev, Fr.put, onFr, gps, gpn, bltT, still, flat, List.append_nil, List.nil_append, List.cons_append, Nat.reduceEqDiff, ne_eq, not_false_eq_true, reduceCtorEq, Bool.and_true, Bool.true_and, Bool.and_false, Bool.false_and, Bool.not_true, Bool.not_false, Bool.and_self, g22, int1, hinc]; rfl
    refine ⟨3 - (i + 1), by omega, i + 1, _, rfl, by omega, rfl, ⟨m1, m2, m3, ?_, m5⟩, ?_, ?_, ?_, ?_, ?_⟩
    · show ∃ c e rm, _ ∧ Row c 0 ((d.load ++ (pre d i ++ two ((three d).getD i 0))).map bv)
      rw [hgd, ← List.append_assoc]
      exact m4
    · simp (disch := decide) only [gps, gpn, g1]
    · simp (disch := decide) only [gps, gpn]
    · simp (disch := decide) only [gps, gpn, g20]
    · simp (disch := decide) only [gps, gpn, g21]
    · simp (disch := decide) only [gps, gpn, g22]
  · obtain rfl : i = 3 := by omega
    have hlt' : ltI (Int.ofNat 3) (Int.ofNat 3) = false := rfl
    repeat apply go_seq
    apply go_region
    case h => intro m; simp (maxSteps := 2000000) (disch := decide) only [opsLoop, evOper, wantedA, nth, aop, aPick, aBin, aIndexAddr, aFieldAddr, aLoad, aStore, aExtract, aConvert, aAlloc, aBox, aIndex, callA, builtinA, Fr.evs, opt, val, when, AM.run, outV, newA, ptr, force_eq, seen_heap, seen_next, seen_mark, seen_seen, agg_cells, int_cells, Fr.ev, Fr.put, onFr, gps, gpn, bltT, still, flat, List.append_nil, List.nil_append, List.cons_append, Nat.reduceEqDiff, ne_eq, not_false_eq_true, reduceCtorEq, Bool.and_true, Bool.true_and, Bool.and_false, Bool.false_and, Bool.not_true, Bool.not_false, Bool.and_self, g21, g22, b_lss, hlt']; rfl
    repeat apply go_seq
    apply go_cond
    case hc => simp (disch := decide) only [opsLoop, evOper, wantedA, nth, aop, aPick, aBin, aIndexAddr, aFieldAddr, aLoad, aStore, aExtract, aConvert, aAlloc, aBox, aIndex, callA, builtinA, Fr.evs, opt, val, when, AM.run, outV, newA, ptr, force_eq, seen_heap, seen_next, seen_mark, seen_seen, agg_cells, int_cells, Fr.ev, Fr.put, onFr, gps, gpn, bltT, still, flat, List.append_nil, List.nil_append, List.cons_append, Nat.reduceEqDiff, ne_eq, not_false_eq_true, reduceCtorEq, Bool.and_true, Bool.true_and, Bool.and_false, Bool.false_and, Bool.not_true, Bool.not_false, Bool.and_self]; rfl
    case h1 => intro h; cases h
    intro _
    apply go_exit
    refine ⟨rfl, _, rfl, hp, ?_, ?_⟩
    · simp (disch := decide) only [gps, gpn, g1]
    · simp (disch := decide) only [gps, gpn, g3]
end Go.Proofs.YtgofanjbhbeniaaDoor.lf
end
end

section
/- Leaves: a leaf as a block's bytes: told, whole. -/
noncomputable section
namespace Go.Proofs.YtgofanjbhbeniaaDoor.lf
open AE
set_option linter.unusedSimpArgs false
set_option linter.unusedVariables false
set_option maxRecDepth 10000

theorem closeA_run {s : S} {ad : Addr} {l : List UInt8} (h : Bs s ad l) (h1 : 1 ≤ l.length) (h2 : l.length ≤ 1000) (cap : Nat) (hN : ∀ i, i < 2 → Nat.ble (s.next + i) lastName = true) :
    ∃ s1, (closeA [.slice (some ad) l.length cap]).run s = some (.slice (some ⟨s.next, 0, none⟩) (l.length + 4) (l.length + 4), s1) ∧ s1.next = s.next + 2 ∧
      ∀ m, s1.heap.get m = if m = s.next + 1 then none else if m = s.next then some (.cells (Tr.ofList ((closeL l).map bv)) (closeL l).length 5 .whole) else s.heap.get m := by
  have hN0 := hN 0 (by omega)
  rw [Nat.add_zero] at hN0
  obtain ⟨s1, e1, e2, e3, e4⟩ := bump_ok 1 (AM.pure (Value.slice (some ⟨s.next, 0, none⟩) (l.length + 4) (l.length + 4))) ((s.seen ad.block).grow (.cells (Tr.ofList ((closeL l).map bv)) (closeL l).length 5 .whole))
    (fun i hi => by have : i = 0 := by omega
                    subst this; exact hN 1 (by omega))
  refine ⟨s1, ?_, e2, ?_⟩
  · show (when (Nat.ble 1 l.length && Nat.ble l.length 1000) (loadA ad l.length fun cs => opt (bytesV cs) fun l' => newB (closeL l') fun r => bump 1 (.pure (.slice (some ⟨r, 0, none⟩) (l.length + 4) (l.length + 4))))).run s = _
    simp only [ble_iff.2 h1, ble_iff.2 h2, Bool.and_self, when]
    rw [loadA_run h]
    simp only [bytesV_map, opt, newB, AM.run, force_eq]
    show (match Nat.ble s.next lastName with | false => none | true => _) = _
    rw [hN0]
    exact e1
  · intro m
    rw [e4 m]
    show (if s.next + 1 ≤ m ∧ m < s.next + 1 + 1 then none else (s.heap.put s.next (some (.cells (Tr.ofList ((closeL l).map bv)) (closeL l).length 5 .whole))).get m) = _
    by_cases h3 : m = s.next + 1
    · rw [if_pos (by omega), if_pos h3]
    · rw [if_neg (by omega), if_neg h3]
      by_cases h4 : m = s.next
      · subst h4
        rw [if_pos rfl, hg_same hN0]
      · rw [if_neg h4, hg_far hN0 h4]

theorem rightL_inv {d : LeafD} (h : rightL d = true) : (∀ (j : Nat) (x : Int), (three d)[j]? = some x → 0 ≤ x ∧ x ≤ 65535) ∧ (1 ≤ d.kind ∧ d.kind ≤ 2) ∧ (0 ≤ d.size ∧ d.size ≤ 116) := by
  unfold rightL at h
  simp only [Bool.and_eq_true] at h
  obtain ⟨⟨⟨⟨⟨h1, h2⟩, h3⟩, h4⟩, h5⟩, _⟩ := h
  refine ⟨?_, wi_iff.1 h4, wi_iff.1 h5⟩
  intro j x hj
  have hlt : j < 3 := (List.getElem?_eq_some_iff.1 hj).1
  match j, hlt with
  | 0, _ => simp [three] at hj; subst hj; exact wi_iff.1 h1
  | 1, _ => simp [three] at hj; subst hj; exact wi_iff.1 h2
  | 2, _ => simp [three] at hj; subst hj; exact wi_iff.1 h3

theorem addIf0 (n k : Nat) : addIf ⟨n, k, none⟩ 116 0 1 = ⟨n, k, none⟩ := rfl

set_option maxHeartbeats 1000000 in
theorem told_put : AE.Told Tryd.prog 22 putA := by
  refine told_go hE hmix tolds_P ?_
  intro args s v s' h hm
  unfold putA at h
  split at h
  · rename_i cs
    obtain ⟨d, hd, h2⟩ := run_opt h
    obtain ⟨rfl, hlen⟩ := leafOf_inv hd
    clear h hd
    refine go_enter (fi := fiP) (c := cdP) (by kernel_rfl) (by kernel_rfl) 45 rfl rfl ?_
    have h0 : (Tr.ofList [Value.agg ⟨d.cells⟩]).get 0 = some (.agg ⟨d.cells⟩) := rfl
    generalize Tr.ofList [Value.agg ⟨d.cells⟩] = t at *
    have hcl : d.cells.length = 121 := d.len hlen
    have hcb : Nat.ble d.cells.length lastName = true := by rw [hcl]; rfl
    have hcode : cdP = .seq (sub [0] cdP) (.seq (sub [1,0] cdP) (.seq (sub [1,1,0] cdP) (.seq (sub [1,1,1,0] cdP) (sub [1,1,1,1] cdP)))) := rfl
    -- the names that are there
    have hN3 : ∀ i, i < 3 → Nat.ble (s.next + i) lastName = true := by
      cases hR : rightL d with
      | true =>
        rw [hR] at h2
        obtain ⟨_, _, _, _, _, hbl⟩ := bump_run 9 _ _ _ h2
        exact fun i hi => hbl i (by omega)
      | false =>
        rw [hR] at h2
        obtain ⟨_, _, _, _, _, hbl⟩ := bump_run 3 _ _ _ h2
        exact hbl
    have hN0 : Nat.ble s.next lastName = true := hN3 0 (by omega)
    simp only [cdP, Tryd.f22, bodyOf]
    repeat apply go_seq
    apply go_region
    case h => intro m; simp (maxSteps := 2000000) (disch := decide) only [opsLoop, evOper, wantedA, nth, aop, aPick, aBin, aIndexAddr, aFieldAddr, aLoad, aStore, aExtract, aConvert, aAlloc, aBox, aIndex, callA, builtinA, Fr.evs, opt, val, when, AM.run, outV, newA, ptr, force_eq, seen_heap, seen_next, seen_mark, seen_seen, agg_cells, int_cells, Fr.ev, Fr.put, onFr, gps, gpn, bltT, still, flat, List.append_nil, List.nil_append, List.cons_append, Nat.reduceEqDiff, ne_eq, not_false_eq_true, reduceCtorEq, Bool.and_true, Bool.true_and, Bool.and_false, Bool.false_and, Bool.not_true, Bool.not_false, Bool.and_self, h0, hcb, hN0]; rfl
    generalize hs1 : (S.mk (s.heap.put s.next (some (.cells (Tr.ofList d.cells) d.cells.length 30 .whole))) (Nat.succ s.next) s.mark s.rd s.wr) = s1
    have e1 : s1.next = s.next + 1 := by rw [← hs1]
    have e1h : s1.heap = s.heap.put s.next (some (.cells (Tr.ofList d.cells) d.cells.length 30 .whole)) := by rw [← hs1]
    clear hs1
    have L1 : LfAt s1 s.next d := ⟨by omega, ⟨_, _, _, by rw [e1h, hg_same hN0, hcl], row_ofList _ (by rw [hcl]; unfold Tr.wide; omega)⟩, hlen⟩
    have l1 := L1.load
    obtain ⟨s2, r2, e2, e2h⟩ := rightA_run (s := s1.seen s.next) hlen (fun i hi => by
      have : (s1.seen s.next).next + i = s.next + (i + 1) := by show s1.next + i = _; omega
      rw [this]; exact hN3 (i + 1) (by omega))
    have e2 : s2.next = s.next + 3 := by rw [e2]; show s1.next + 2 = _; omega
    have e2h : ∀ m, s2.heap.get m = if s.next + 1 ≤ m ∧ m < s.next + 3 then none else s1.heap.get m := by
      intro m
      rw [e2h m]
      have : (s1.seen s.next).next = s.next + 1 := e1
      rw [this]
      rfl
    cases hR : rightL d with
    | false =>
      rw [hR] at h2 r2
      repeat apply go_seq
      apply go_region
      case h => intro m; simp (maxSteps := 2000000) (disch := decide) only [opsLoop, evOper, wantedA, nth, aop, aPick, aBin, aIndexAddr, aFieldAddr, aLoad, aStore, aExtract, aConvert, aAlloc, aBox, aIndex, callA, builtinA, Fr.evs, opt, val, when, AM.run, outV, newA, ptr, force_eq, seen_heap, seen_next, seen_mark, seen_seen, agg_cells, int_cells, Fr.ev, Fr.put, onFr, gps, gpn, bltT, still, flat, List.append_nil, List.nil_append, List.cons_append, Nat.reduceEqDiff, ne_eq, not_false_eq_true, reduceCtorEq, Bool.and_true, Bool.true_and, Bool.and_false, Bool.false_and, Bool.not_true, Bool.not_false, Bool.and_self, tyLf, l1, tgR, evT_told sgR, r2, u_not]; rfl
      repeat apply go_seq
      apply go_cond
      case hc => simp (disch := decide) only [opsLoop, evOper, wantedA, nth, aop, aPick, aBin, aIndexAddr, aFieldAddr, aLoad, aStore, aExtract, aConvert, aAlloc, aBox, aIndex, callA, builtinA, Fr.evs, opt, val, when, AM.run, outV, newA, ptr, force_eq, seen_heap, seen_next, seen_mark, seen_seen, agg_cells, int_cells, Fr.ev, Fr.put, onFr, gps, gpn, bltT, still, flat, List.append_nil, List.nil_append, List.cons_append, Nat.reduceEqDiff, ne_eq, not_false_eq_true, reduceCtorEq, Bool.and_true, Bool.true_and, Bool.and_false, Bool.false_and, Bool.not_true, Bool.not_false, Bool.and_self]; rfl
      case h2 => intro h; cases h
      intro _
      repeat apply go_seq
      apply go_region
      case h => intro m; simp (maxSteps := 2000000) (disch := decide) only [opsLoop, evOper, wantedA, nth, aop, aPick, aBin, aIndexAddr, aFieldAddr, aLoad, aStore, aExtract, aConvert, aAlloc, aBox, aIndex, callA, builtinA, Fr.evs, opt, val, when, AM.run, outV, newA, ptr, force_eq, seen_heap, seen_next, seen_mark, seen_seen, agg_cells, int_cells, Fr.ev, Fr.put, onFr, gps, gpn, bltT, still, flat, List.append_nil, List.nil_append, List.cons_append, Nat.reduceEqDiff, ne_eq, not_false_eq_true, reduceCtorEq, Bool.and_true, Bool.true_and, Bool.and_false, Bool.false_and, Bool.not_true, Bool.not_false, Bool.and_self]; rfl
      repeat apply go_seq
      apply go_ret
      apply ret_intro rfl rfl
      case run => simp (disch := decide) only [resultsM, resultsA, resP, opsLoop, evOper, wantedA, nth, aop, aPick, aBin, aIndexAddr, aFieldAddr, aLoad, aStore, aExtract, aConvert, aAlloc, aBox, aIndex, callA, builtinA, Fr.evs, opt, val, when, AM.run, outV, newA, ptr, force_eq, seen_heap, seen_next, seen_mark, seen_seen, agg_cells, int_cells, Fr.ev, Fr.put, onFr, gps, gpn, bltT, still, flat, List.append_nil, List.nil_append, List.cons_append, Nat.reduceEqDiff, ne_eq, not_false_eq_true, reduceCtorEq, Bool.and_true, Bool.true_and, Bool.and_false, Bool.false_and, Bool.not_true, Bool.not_false, Bool.and_self]; rfl
      obtain ⟨s9, h3, hn9, hm9, hh9, _⟩ := bump_run 3 _ _ _ h2
      cases h3
      refine ⟨rfl, less_new (s := s) (n := 3) (by rw [e2, hn9]; exact Nat.le_refl _) hn9 hh9 ?_⟩
      intro m hm2
      rw [e2h, if_neg (by omega), e1h, hg_far hN0 (by omega)]
    | true =>
      rw [hR] at h2 r2
      repeat apply go_seq
      apply go_region
      case h => intro m; simp (maxSteps := 2000000) (disch := decide) only [opsLoop, evOper, wantedA, nth, aop, aPick, aBin, aIndexAddr, aFieldAddr, aLoad, aStore, aExtract, aConvert, aAlloc, aBox, aIndex, callA, builtinA, Fr.evs, opt, val, when, AM.run, outV, newA, ptr, force_eq, seen_heap, seen_next, seen_mark, seen_seen, agg_cells, int_cells, Fr.ev, Fr.put, onFr, gps, gpn, bltT, still, flat, List.append_nil, List.nil_append, List.cons_append, Nat.reduceEqDiff, ne_eq, not_false_eq_true, reduceCtorEq, Bool.and_true, Bool.true_and, Bool.and_false, Bool.false_and, Bool.not_true, Bool.not_false, Bool.and_self, tyLf, l1, tgR, evT_told sgR, r2, u_not]; rfl
      repeat apply go_seq
      apply go_cond
      case hc => simp (disch := decide) only [opsLoop, evOper, wantedA, nth, aop, aPick, aBin, aIndexAddr, aFieldAddr, aLoad, aStore, aExtract, aConvert, aAlloc, aBox, aIndex, callA, builtinA, Fr.evs, opt, val, when, AM.run, outV, newA, ptr, force_eq, seen_heap, seen_next, seen_mark, seen_seen, agg_cells, int_cells, Fr.ev, Fr.put, onFr, gps, gpn, bltT, still, flat, List.append_nil, List.nil_append, List.cons_append, Nat.reduceEqDiff, ne_eq, not_false_eq_true, reduceCtorEq, Bool.and_true, Bool.true_and, Bool.and_false, Bool.false_and, Bool.not_true, Bool.not_false, Bool.and_self]; rfl
      case h1 => intro h; cases h
      intro _
      apply go_skip
      obtain ⟨s8, h3, hn8, hm8, hh8, hb9⟩ := bump_run 9 _ _ _ h2
      obtain ⟨hb10, h4⟩ := new_run h3
      obtain ⟨s9, h5, hn9, hm9, hh9, hb11⟩ := bump_run 1 _ _ _ h4
      cases h5
      have hN : ∀ j, j < 11 → Nat.ble (s.next + j) lastName = true := by
        intro j hj
        by_cases h9 : j < 9
        · exact hb9 j h9
        · by_cases h10 : j = 9
          · subst h10; rw [← hn8]; exact hb10
          · have : j = 10 := by omega
            subst this
            have := hb11 0 (by omega)
            have e : (s8.grow (.cells (Tr.ofList ((putL d).map bv)) (putL d).length 5 .whole)).next + 0 = s.next + 10 := by show s8.next + 1 = _; omega
            rw [e] at this
            exact this
      have hh : ∀ m, s'.heap.get m = if m = s.next + 9 then some (.cells (Tr.ofList ((putL d).map bv)) (putL d).length 5 .whole) else if s.next ≤ m ∧ m < s.next + 11 then none else s.heap.get m := by
        intro m
        rw [hh9 m]
        have e : (s8.grow (.cells (Tr.ofList ((putL d).map bv)) (putL d).length 5 .whole)).next = s.next + 10 := by show s8.next + 1 = _; omega
        rw [e]
        show (if s.next + 10 ≤ m ∧ m < s.next + 10 + 1 then none else (s8.heap.put s8.next (some (.cells (Tr.ofList ((putL d).map bv)) (putL d).length 5 .whole))).get m) = _
        rw [hn8]
        have hN9 := hN 9 (by omega)
        by_cases h9 : m = s.next + 9
        · subst h9
          rw [if_neg (by omega), if_pos rfl, hg_same hN9]
        · rw [if_neg h9]
          by_cases h10 : m = s.next + 10
          · rw [if_pos (by omega), if_pos (by omega)]
          · rw [if_neg (by omega), hg_far hN9 h9, hh8 m]
            by_cases h11 : s.next ≤ m ∧ m < s.next + 9
            · rw [if_pos h11, if_pos (by omega)]
            · rw [if_neg h11, if_neg (by omega)]
      have hn11 : s'.next = s.next + 11 := by rw [hn9]; show s8.next + 1 + 1 = _; omega
      clear h2 h3 h4 hh9 hh8 hb9 hb10 hb11 hm9 hm8
      have hN3' : Nat.ble s2.next lastName = true := by rw [e2]; exact hN 3 (by omega)
      have z124 : (124 : Int) = Int.ofNat 124 := rfl
      have k3 : Nat.ble (repeatL [Value.int .u8 (Int.ofNat 0)] 124).length lastName = true := by rw [repeat_len]; rfl
      repeat apply go_seq
      apply go_region
      case h => intro m; simp (maxSteps := 2000000) (disch := decide) only [opsLoop, evOper, wantedA, nth, aop, aPick, aBin, aIndexAddr, aFieldAddr, aLoad, aStore, aExtract, aConvert, aAlloc, aBox, aIndex, callA, builtinA, Fr.evs, opt, val, when, AM.run, outV, newA, ptr, force_eq, seen_heap, seen_next, seen_mark, seen_seen, agg_cells, int_cells, Fr.ev, Fr.put, onFr, gps, gpn, bltT, still, flat, List.append_nil, List.nil_append, List.cons_append, Nat.reduceEqDiff, ne_eq, not_false_eq_true, reduceCtorEq, Bool.and_true, Bool.true_and, Bool.and_false, Bool.false_and, Bool.not_true, Bool.not_false, Bool.and_self, int0, z124, aMakeSlice, tyB, dsB, tyU8, zeU8, szU8, byU8, k3, hN3', show Nat.ble 0 124 = true from rfl, show Nat.ble 124 maxNeed = true from rfl, show Nat.ble 1 1024 = true from rfl, show Nat.ble 1 1 = true from rfl, show Nat.beq ([Value.int .u8 (Int.ofNat 0)] : List Value).length 1 = true from rfl]; rfl
      generalize hs3 : S.mk _ _ _ _ _ = s3
      have e3 : s3.next = s.next + 4 := by rw [← hs3]; show s2.next + 1 = _; omega
      have e3h : s3.heap = s2.heap.put s2.next (some (.cells (Tr.ofList (repeatL [Value.int .u8 (Int.ofNat 0)] 124)) (repeatL [Value.int .u8 (Int.ofNat 0)] 124).length 5 .whole)) := by rw [← hs3]
      clear hs3
      rw [repeat_len, e2] at e3h
      rw [e2]
      have hN3 := hN 3 (by omega)
      have L3 : LfAt s3 s.next d := by
        refine ⟨by omega, ?_, hlen⟩
        obtain ⟨c, e, rm, q1, q2⟩ := L1.cell
        exact ⟨c, e, rm, by rw [e3h, hg_far hN3 (by omega), e2h, if_neg (by omega)]; exact q1, q2⟩
      have B3 := L3.bs 0 (by omega)
      rw [List.drop_zero] at B3
      have c3 : s3.heap.get (s.next + 3) = some (.cells (Tr.ofList (repeatL [Value.int .u8 (Int.ofNat 0)] 124)) 124 5 .whole) := by rw [e3h]; exact hg_same hN3 _ _
      obtain ⟨s4, a4, e4h, e4, _⟩ := append_b (len := 0) (cap := 124) (c2 := 116) B3 hlen (by omega) (by omega) c3 hN3 (by omega) (by omega) (by omega) (by omega)
      rw [Nat.zero_add] at a4
      repeat apply go_seq
      apply go_region
      case h => intro m; simp (disch := decide) only [opsLoop, evOper, wantedA, nth, aop, aPick, aBin, aIndexAddr, aFieldAddr, aLoad, aStore, aExtract, aConvert, aAlloc, aBox, aIndex, callA, Fr.evs, opt, val, when, AM.run, outV, newA, ptr, force_eq, seen_heap, seen_next, seen_mark, seen_seen, agg_cells, int_cells, Fr.ev, Fr.put, onFr, gps, gpn, bltT, still, flat, List.append_nil, List.nil_append, List.cons_append, Nat.reduceEqDiff, ne_eq, not_false_eq_true, reduceCtorEq, Bool.and_true, Bool.true_and, Bool.and_false, Bool.false_and, Bool.not_true, Bool.not_false, Bool.and_self, tyLf, dsLf, fl5, ft5, fo5, tyA, dsA, szA, tyU8, szU8, ble1A, ad5, aSlice, lowHigh, sliceP, addIf0, show Nat.ble 0 116 = true from rfl, show Nat.ble 116 116 = true from rfl, show Nat.blt 116 OPEN = true from rfl, show Nat.sub 116 0 = 116 from rfl, a4]; rfl
      have L4 : LfAt s4 s.next d := by
        refine ⟨by omega, ?_, hlen⟩
        obtain ⟨c, e, rm, q1, q2⟩ := L3.cell
        exact ⟨c, e, rm, by rw [e4h, hg_far hN3 (by omega)]; exact q1, q2⟩
      have l1 := L4.get 1 (.int .i64 d.file) rfl
      have l2 := (L4.rd (Rd.seen s4 s.next)).get 2 (.int .i64 d.place) rfl
      have l3 := (L4.rd (Rd.seen s4 s.next)).get 3 (.int .i64 d.next) rfl
      rw [seen_seen] at l2 l3
      have hN4 := hN 4 (by omega)
      have hN4' : Nat.ble s4.next lastName = true := by rw [e4, e3]; exact hN4
      apply go_seq
      apply go_seq
      repeat apply go_seq
      apply go_region
      case h => intro m; simp (disch := decide) only [opsLoop, evOper, wantedA, nth, aop, aPick, aBin, aIndexAddr, aFieldAddr, aLoad, aStore, aExtract, aConvert, aAlloc, aBox, aIndex, callA, Fr.evs, opt, val, when, AM.run, outV, newA, ptr, force_eq, seen_heap, seen_next, seen_mark, seen_seen, agg_cells, int_cells, Fr.ev, Fr.put, onFr, gps, gpn, bltT, still, flat, List.append_nil, List.nil_append, List.cons_append, Nat.reduceEqDiff, ne_eq, not_false_eq_true, reduceCtorEq, Bool.and_true, Bool.true_and, Bool.and_false, Bool.false_and, Bool.not_true, Bool.not_false, Bool.and_self, tyLf, dsLf, fl1, fl2, fl3, ft1, ft2, ft3, fo1, fo2, fo3, tyI, szI, zeI, dsL, tyL, ble11, ad1, ad2, ad3', l1, l2, l3, aBuildSlice, evParts, int0, fill3, hN4', len_i, show Nat.ble (Nat.mul 3 1) 1048576 = true from rfl, show Nat.beq ([Value.int .i64 (Int.ofNat 0)] : List Value).length 1 = true from rfl, show Nat.ble ([Value.int .i64 d.file, .int .i64 d.place, .int .i64 d.next] : List Value).length lastName = true from rfl]; rfl
      generalize hs5 : S.mk _ _ _ _ _ = s5
      have e5 : s5.next = s.next + 5 := by rw [← hs5]; show s4.next + 1 = _; omega
      have e5h : s5.heap = s4.heap.put s4.next (some (.cells (Tr.ofList [.int .i64 d.file, .int .i64 d.place, .int .i64 d.next]) (List.length [Value.int .i64 d.file, .int .i64 d.place, .int .i64 d.next]) 3 .whole)) := by rw [← hs5]
      clear hs5
      have hl3 : List.length [Value.int .i64 d.file, .int .i64 d.place, .int .i64 d.next] = 3 := rfl
      have h44 : s4.next = s.next + 4 := by omega
      rw [hl3, h44] at e5h
      rw [h44]
      have h3w : ([Value.int .i64 d.file, .int .i64 d.place, .int .i64 d.next] : List Value).length ≤ Tr.wide := by rw [hl3]; unfold Tr.wide; omega
      have P5 : PutAt s.next d s s5 0 := by
        refine ⟨e5, ⟨by omega, ?_, hlen⟩, ⟨_, _, _, by rw [e5h]; exact hg_same hN4 _ _, row_ofList _ h3w⟩, ⟨_, _, _, by rw [e5h, hg_far hN4 (by omega), e4h]; exact hg_same hN3 _ _, ?_⟩, ?_⟩
        · obtain ⟨c, e, rm, q1, q2⟩ := L4.cell
          exact ⟨c, e, rm, by rw [e5h, hg_far hN4 (by omega)]; exact q1, q2⟩
        · show Row _ 0 ((d.load ++ []).map bv)
          rw [List.append_nil]
          exact row_wr (by rw [List.length_map, hlen]; unfold Tr.wide; omega)
        · intro m hm2
          rw [e5h, hg_far hN4 (by omega), e4h, hg_far hN3 (by omega), e3h, hg_far hN3 (by omega), e2h, if_neg (by omega), e1h, hg_far hN0 (by omega)]
      obtain ⟨hx3, hkd, hsz⟩ := rightL_inv hR
      apply go_block
      refine (go_loop_inv (body := cdPl) (InvP d s.next s) (fun k fr s1 hI => put_round d s.next s hlen hN hx3 k fr s1 hI) (3 - 0) _ _ ⟨0, _, rfl, by omega, rfl, P5, ?_, ?_, ?_, ?_, ?_⟩).mono ?_
      · simp (disch := decide) only [gps, gpn, h0]
      · simp (disch := decide) only [gps, gpn]
      · simp (disch := decide) only [gps, gpn]
      · simp (disch := decide) only [gps, gpn]
      · simp (disch := decide) only [gps, gpn]
      rintro x fr s6 ⟨rfl, t6, rfl, P6, g1, g3⟩
      simp only [Out_, if_true]
      show GoC E _ _ _ _ _
      obtain ⟨zs, hzs⟩ : ∃ z : Nat, d.size = Int.ofNat z := ⟨d.size.toNat, (Int.toNat_of_nonneg hsz.1).symm⟩
      obtain ⟨zk, hzk⟩ : ∃ z : Nat, d.kind = Int.ofNat z := ⟨d.kind.toNat, (Int.toNat_of_nonneg (by omega)).symm⟩
      have l4 := P6.lf.get 4 (.int .i64 d.size) rfl
      have l0 := (P6.lf.rd (Rd.seen s6 s.next)).get 0 (.int .i64 d.kind) rfl
      rw [seen_seen] at l0
      rw [hzs] at l4
      rw [hzk] at l0
      have P6' := P6.rd (Rd.seen s6 s.next)
      have f2 := fill2 (UInt8.ofNat zs) (UInt8.ofNat zk)
      have hN8 := hN 8 (by omega)
      have hN8' : Nat.ble s6.next lastName = true := by rw [P6.next]; exact hN8
      repeat apply go_seq
      apply go_ops
      apply go_take 8
      case h => intro m; simp (disch := decide) only [List.take, opsLoop, evOper, wantedA, nth, aop, aPick, aBin, aIndexAddr, aFieldAddr, aLoad, aStore, aExtract, aConvert, aAlloc, aBox, aIndex, callA, Fr.evs, opt, val, when, AM.run, outV, newA, ptr, force_eq, seen_heap, seen_next, seen_mark, seen_seen, agg_cells, int_cells, Fr.ev, Fr.put, onFr, gps, gpn, bltT, still, flat, List.append_nil, List.nil_append, List.cons_append, Nat.reduceEqDiff, ne_eq, not_false_eq_true, reduceCtorEq, Bool.and_true, Bool.true_and, Bool.and_false, Bool.false_and, Bool.not_true, Bool.not_false, Bool.and_self, g1, g3, tyLf, dsLf, fl4, fl0, ft4, ft0, fo4, fo0, tyI, szI, ble11, ad4, ad0, l4, l0, tyU8, dsU8, dsI, cv8, aBuildSlice, evParts, tyB, dsB, zeU8, szU8, byU8, int0, f2, hN8', show Nat.ble (Nat.mul 2 1) 1048576 = true from rfl, show Nat.beq ([Value.int .u8 (Int.ofNat 0)] : List Value).length 1 = true from rfl, show Nat.ble 1 1 = true from rfl, show ∀ a b : Value, Nat.ble ([a, b] : List Value).length lastName = true from fun _ _ => rfl]; rfl
      simp only [List.drop]
      generalize hs7 : S.mk _ _ _ _ _ = s7
      have e7 : s7.next = (s6.seen s.next).next + 1 := by rw [← hs7]; rfl
      have e7h : s7.heap = (s6.seen s.next).heap.put (s6.seen s.next).next (some (.cells (Tr.ofList [bv (UInt8.ofNat zs), bv (UInt8.ofNat zk)]) (List.length [bv (UInt8.ofNat zs), bv (UInt8.ofNat zk)]) 5 .whole)) := by rw [← hs7, seen_heap, seen_next]
      clear hs7
      have hL2 : [bv (UInt8.ofNat zs), bv (UInt8.ofNat zk)] = [UInt8.ofNat zs, UInt8.ofNat zk].map bv := rfl
      rw [hL2, List.length_map] at e7h
      obtain ⟨s10, a10, m1, m2, m3, ⟨cb, eb, rb, m4, m5⟩, m6⟩ := P6'.more hlen (by omega) hN [UInt8.ofNat zs, UInt8.ofNat zk] rfl _ _ e7 e7h
      rw [seen_next] at a10
      have hLL : (d.load ++ pre d 3 ++ [UInt8.ofNat zs, UInt8.ofNat zk]).length = 124 := by simp [pre_len, hlen]
      have B10 : Bs s10 ⟨s.next + 3, 0, none⟩ (d.load ++ pre d 3 ++ [UInt8.ofNat zs, UInt8.ofNat zk]) := ⟨rfl, by rw [m1]; show s.next + 3 < _; omega, _, _, .inl ⟨_, _, m4⟩, by rw [hLL]; exact Nat.le_refl _, m5⟩
      obtain ⟨s11, r11, m7, m8⟩ := closeA_run B10 (by omega) (by omega) 124 (fun i hi => by rw [m1, show s.next + 5 + (3 + 1) + i = s.next + (9 + i) by omega]; exact hN (9 + i) (by omega))
      rw [hLL] at r11
      apply go_take 3
      case h => intro m; simp (disch := decide) only [List.take, opsLoop, evOper, wantedA, nth, aop, aPick, aBin, aIndexAddr, aFieldAddr, aLoad, aStore, aExtract, aConvert, aAlloc, aBox, aIndex, callA, Fr.evs, opt, val, when, AM.run, outV, newA, ptr, force_eq, seen_heap, seen_next, seen_mark, seen_seen, agg_cells, int_cells, Fr.ev, Fr.put, onFr, gps, gpn, bltT, still, flat, List.append_nil, List.nil_append, List.cons_append, Nat.reduceEqDiff, ne_eq, not_false_eq_true, reduceCtorEq, Bool.and_true, Bool.true_and, Bool.and_false, Bool.false_and, Bool.not_true, Bool.not_false, Bool.and_self, a10, tgC, evT_told sgC, r11]; rfl
      simp only [List.drop]
      apply go_done
      repeat apply go_seq
      apply go_ret
      apply ret_intro rfl rfl
      case run => simp (disch := decide) only [resultsM, resultsA, resP, opsLoop, evOper, wantedA, nth, aop, aPick, aBin, aIndexAddr, aFieldAddr, aLoad, aStore, aExtract, aConvert, aAlloc, aBox, aIndex, callA, builtinA, Fr.evs, opt, val, when, AM.run, outV, newA, ptr, force_eq, seen_heap, seen_next, seen_mark, seen_seen, agg_cells, int_cells, Fr.ev, Fr.put, onFr, gps, gpn, bltT, still, flat, List.append_nil, List.nil_append, List.cons_append, Nat.reduceEqDiff, ne_eq, not_false_eq_true, reduceCtorEq, Bool.and_true, Bool.true_and, Bool.and_false, Bool.false_and, Bool.not_true, Bool.not_false, Bool.and_self]; rfl
      have hput : closeL (d.load ++ pre d 3 ++ [UInt8.ofNat zs, UInt8.ofNat zk]) = putL d := by
        unfold putL
        rw [hzs, hzk]
        rfl
      rw [hput, m1] at m8
      refine ⟨by rw [m1, hn8, show s.next + 5 + (3 + 1) = s.next + 9 by omega], by rw [m7, m1, hn11]; omega, ?_⟩
      intro m o ho
      rw [hh] at ho
      refine ⟨o, ?_, .refl o⟩
      rw [m8]
      by_cases h9 : m = s.next + 9
      · rw [if_pos h9] at ho
        rw [if_neg (by omega), if_pos (by omega)]
        exact ho
      · rw [if_neg h9] at ho
        by_cases h10 : s.next ≤ m ∧ m < s.next + 11
        · rw [if_pos h10] at ho; cases ho
        · rw [if_neg h10] at ho
          rw [if_neg (by omega), if_neg (by omega), m6 m (by omega)]
          exact ho
  · cases h
end Go.Proofs.YtgofanjbhbeniaaDoor.lf
end
end

section
/- Leaves: bytes that are the same; a number of two bytes. -/
noncomputable section
namespace Go.Proofs.YtgofanjbhbeniaaDoor.lf
open AE
set_option linter.unusedSimpArgs false
set_option linter.unusedVariables false
set_option maxRecDepth 10000

theorem bytesOf_map : ∀ l : List UInt8, bytesOf (l.map bv) = some l
  | [] => rfl
  | x :: l => by
    simp only [List.map_cons, bv, bytesOf]
    have := bytesOf_map l
    rw [this]
    show some (UInt8.ofNat (Int.toNat (Int.ofNat x.toNat)) :: l) = _
    rw [show Int.toNat (Int.ofNat x.toNat) = x.toNat from rfl, UInt8.ofNat_toNat]
theorem eqBytes_iff : ∀ a b : List UInt8, eqBytes a b = decide (a = b)
  | [], [] => by simp [eqBytes]
  | [], _ :: _ => by simp [eqBytes]
  | _ :: _, [] => by simp [eqBytes]
  | x :: a, y :: b => by
    simp only [eqBytes]
    cases h : Nat.beq x.toNat y.toNat with
    | true =>
      have : x = y := UInt8.toNat_inj.1 (beq_iff.1 h)
      subst this
      simp only [eqBytes_iff a b]
      simp
    | false =>
      have : x ≠ y := fun e => by subst e; rw [beq_iff.2 rfl] at h; cases h
      simp [this]

def equalA : List Value → AM Value
  | [.slice (some ad) n c, .slice (some ad2) n2 c2] => loadA ad n fun cs => opt (bytesV cs) fun l => loadA ad2 n2 fun cs => opt (bytesV cs) fun l2 => .pure (.bool (eqBytes l l2))
  | [.slice none 0 0, .slice (some ad2) n2 c2] => loadA ad2 n2 fun cs => opt (bytesV cs) fun l2 => .pure (.bool (eqBytes [] l2))
  | _ => .fail
noncomputable def fiE : FI := FI.of Tryd.f37
noncomputable def cdE : Code := bodyOf Tryd.f37
theorem resE : fiE.results = [.tmp 4] := rfl
theorem b_str {E t} (a b : List UInt8) : binA E .eql t (.string ⟨⟨a⟩⟩) (.string ⟨⟨b⟩⟩) = some (.bool (eqBytes a b)) := rfl
theorem told_equal : AE.Told Tryd.prog 37 equalA := by
  refine told_go hE hmix tolds_nil ?_
  intro args s v s' h hm
  unfold equalA at h
  split at h
  · rename_i ad n c ad2 n2 c2
    obtain ⟨l, rfl, hb, h2⟩ := bs_of_load h
    obtain ⟨l2, rfl, hb2, h3⟩ := bs_of_load h2
    cases h3
    refine go_enter (fi := fiE) (c := cdE) (by kernel_rfl) (by kernel_rfl) 10 rfl rfl ?_
    have h0 : (Tr.ofList [Value.slice (some ad) l.length c, .slice (some ad2) l2.length c2]).get 0 = some (.slice (some ad) l.length c) := rfl
    have h1 : (Tr.ofList [Value.slice (some ad) l.length c, .slice (some ad2) l2.length c2]).get 1 = some (.slice (some ad2) l2.length c2) := rfl
    generalize Tr.ofList [Value.slice (some ad) l.length c, .slice (some ad2) l2.length c2] = t at *
    simp only [cdE, Tryd.f37, bodyOf]
    have q1 : ∀ k : List Value → AM ANext, (loadA ad l.length k).run s = (k (l.map bv)).run (s.seen ad.block) := fun k => loadA_run hb k
    have q2 : ∀ k : List Value → AM ANext, (loadA ad2 l2.length k).run (s.seen ad.block) = (k (l2.map bv)).run ((s.seen ad.block).seen ad2.block) := fun k => loadA_run hb2 k
    repeat apply go_seq
    apply go_region
    case h => intro m; simp (maxSteps := 2000000) (disch := decide) only [opsLoop, evOper, wantedA, nth, aop, aPick, aBin, aIndexAddr, aFieldAddr, aLoad, aStore, aExtract, aConvert, aAlloc, aBox, aIndex, callA, builtinA, Fr.evs, opt, val, when, AM.run, outV, newA, ptr, force_eq, seen_heap, seen_next, seen_mark, seen_seen, agg_cells, int_cells, Fr.ev, Fr.put, onFr, gps, gpn, bltT, still, flat, List.append_nil, List.nil_append, List.cons_append, Nat.reduceEqDiff, ne_eq, not_false_eq_true, reduceCtorEq, Bool.and_true, Bool.true_and, Bool.and_false, Bool.false_and, Bool.not_true, Bool.not_false, Bool.and_self]; rfl
    repeat apply go_seq
    apply go_region
    case h => intro m; simp (maxSteps := 2000000) (disch := decide) only [opsLoop, evOper, wantedA, nth, aop, aPick, aBin, aIndexAddr, aFieldAddr, aLoad, aStore, aExtract, aConvert, aAlloc, aBox, aIndex, callA, builtinA, Fr.evs, opt, val, when, AM.run, outV, newA, ptr, force_eq, seen_heap, seen_next, seen_mark, seen_seen, agg_cells, int_cells, Fr.ev, Fr.put, onFr, gps, gpn, bltT, still, flat, List.append_nil, List.nil_append, List.cons_append, Nat.reduceEqDiff, ne_eq, not_false_eq_true, reduceCtorEq, Bool.and_true, Bool.true_and, Bool.and_false, Bool.false_and, Bool.not_true, Bool.not_false, Bool.and_self, h0, h1, tySt, dsSt, tyB, dsB, tyU8, dsU8, q1, q2, bytesOf_map, b_str]; rfl
    repeat apply go_seq
    apply go_ret
    apply ret_intro rfl rfl
    case run => simp (disch := decide) only [resultsM, resultsA, resE, opsLoop, evOper, wantedA, nth, aop, aPick, aBin, aIndexAddr, aFieldAddr, aLoad, aStore, aExtract, aConvert, aAlloc, aBox, aIndex, callA, builtinA, Fr.evs, opt, val, when, AM.run, outV, newA, ptr, force_eq, seen_heap, seen_next, seen_mark, seen_seen, agg_cells, int_cells, Fr.ev, Fr.put, onFr, gps, gpn, bltT, still, flat, List.append_nil, List.nil_append, List.cons_append, Nat.reduceEqDiff, ne_eq, not_false_eq_true, reduceCtorEq, Bool.and_true, Bool.true_and, Bool.and_false, Bool.false_and, Bool.not_true, Bool.not_false, Bool.and_self]; rfl
    exact ⟨rfl, Less'.refl _⟩
  · rename_i ad2 n2 c2
    obtain ⟨l2, rfl, hb2, h3⟩ := bs_of_load h
    cases h3
    refine go_enter (fi := fiE) (c := cdE) (by kernel_rfl) (by kernel_rfl) 10 rfl rfl ?_
    have h0 : (Tr.ofList [Value.slice none 0 0, .slice (some ad2) l2.length c2]).get 0 = some (.slice none 0 0) := rfl
    have h1 : (Tr.ofList [Value.slice none 0 0, .slice (some ad2) l2.length c2]).get 1 = some (.slice (some ad2) l2.length c2) := rfl
    generalize Tr.ofList [Value.slice none 0 0, .slice (some ad2) l2.length c2] = t at *
    simp only [cdE, Tryd.f37, bodyOf]
    have q2 : ∀ k : List Value → AM ANext, (loadA ad2 l2.length k).run s = (k (l2.map bv)).run (s.seen ad2.block) := fun k => loadA_run hb2 k
    repeat apply go_seq
    apply go_region
    case h => intro m; simp (maxSteps := 2000000) (disch := decide) only [opsLoop, evOper, wantedA, nth, aop, aPick, aBin, aIndexAddr, aFieldAddr, aLoad, aStore, aExtract, aConvert, aAlloc, aBox, aIndex, callA, builtinA, Fr.evs, opt, val, when, AM.run, outV, newA, ptr, force_eq, seen_heap, seen_next, seen_mark, seen_seen, agg_cells, int_cells, Fr.ev, Fr.put, onFr, gps, gpn, bltT, still, flat, List.append_nil, List.nil_append, List.cons_append, Nat.reduceEqDiff, ne_eq, not_false_eq_true, reduceCtorEq, Bool.and_true, Bool.true_and, Bool.and_false, Bool.false_and, Bool.not_true, Bool.not_false, Bool.and_self]; rfl
    repeat apply go_seq
    apply go_region
    case h => intro m; simp (maxSteps := 2000000) (disch := decide) only [opsLoop, evOper, wantedA, nth, aop, aPick, aBin, aIndexAddr, aFieldAddr, aLoad, aStore, aExtract, aConvert, aAlloc, aBox, aIndex, callA, builtinA, Fr.evs, opt, val, when, AM.run, outV, newA, ptr, force_eq, seen_heap, seen_next, seen_mark, seen_seen, agg_cells, int_cells, Fr.ev, Fr.put, onFr, gps, gpn, bltT, still, flat, List.append_nil, List.nil_append, List.cons_append, Nat.reduceEqDiff, ne_eq, not_false_eq_true, reduceCtorEq, Bool.and_true, Bool.true_and, Bool.and_false, Bool.false_and, Bool.not_true, Bool.not_false, Bool.and_self, h0, h1, tySt, dsSt, tyB, dsB, tyU8, dsU8, q2, bytesOf_map, b_str]; rfl
    repeat apply go_seq
    apply go_ret
    apply ret_intro rfl rfl
    case run => simp (disch := decide) only [resultsM, resultsA, resE, opsLoop, evOper, wantedA, nth, aop, aPick, aBin, aIndexAddr, aFieldAddr, aLoad, aStore, aExtract, aConvert, aAlloc, aBox, aIndex, callA, builtinA, Fr.evs, opt, val, when, AM.run, outV, newA, ptr, force_eq, seen_heap, seen_next, seen_mark, seen_seen, agg_cells, int_cells, Fr.ev, Fr.put, onFr, gps, gpn, bltT, still, flat, List.append_nil, List.nil_append, List.cons_append, Nat.reduceEqDiff, ne_eq, not_false_eq_true, reduceCtorEq, Bool.and_true, Bool.true_and, Bool.and_false, Bool.false_and, Bool.not_true, Bool.not_false, Bool.and_self]; rfl
    exact ⟨rfl, Less'.refl _⟩
  · cases h

/-! a number of two bytes, in a slice that a variable holds -/
def num2 (x y : UInt8) : Int := wrapA .i64 (.ofNat (Nat.lor (x.toNat % 18446744073709551616) (y.toNat * 256 % 18446744073709551616)))
/-- the variable p holds the slice v -/
structure Holds (s : S) (p : Nat) (v : Value) : Prop where
  lt : p < s.next
  cell : ∃ c m, Has s p c m ∧ 1 ≤ m ∧ c.get 0 = some v
theorem Holds.load {s : S} {p : Nat} {v : Value} (h : Holds s p v) : (loadT tiB ⟨p, 0, none⟩ AE.val).run s = some (.value v, s.seen p) := by
  obtain ⟨c, m, h1, h2, h3⟩ := h.cell
  exact has_load tiB (by rw [dsB]; rfl) h.lt h1 h2 h3
theorem Holds.rd {s s' : S} {p : Nat} {v : Value} (h : Holds s p v) (hr : Rd s s') : Holds s' p v := ⟨by rw [hr.next]; exact h.lt, by obtain ⟨c, m, h1, h2⟩ := h.cell; exact ⟨c, m, h1.of (by rw [hr.heap]), h2⟩⟩
theorem Holds.keep {s s' : S} {p : Nat} {v : Value} (h : Holds s p v) (hn : s.next ≤ s'.next) (hg : s'.heap.get p = s.heap.get p) : Holds s' p v := ⟨by have := h.lt; omega, by obtain ⟨c, m, h1, h2⟩ := h.cell; exact ⟨c, m, h1.of hg, h2⟩⟩
def twoA : List Value → AM Value
  | [.int .i64 (.ofNat k), .pointer (some ⟨p, 0, none⟩)] => loadT tiB ⟨p, 0, none⟩ fun
    | .slice (some ad) n cap => when (Nat.ble (118 + k) n && Nat.ble k 1000 && Nat.blt n 1000000) (loadA ad n fun cs => opt (bytesV cs) fun l => opt l[116 + k]? fun x => opt l[117 + k]? fun y => .pure (.int .i64 (num2 x y)))
    | _ => .fail
  | _ => .fail
noncomputable def fi2 : FI := FI.of Tryd.f36
noncomputable def cd2 : Code := bodyOf Tryd.f36
theorem res2 : fi2.results = [.tmp 3] := rfl
theorem b_plus {a b : Nat} (h : a + b < 9223372036854775808) : ∀ E t, binA E .add t (.int .i64 (.ofNat a)) (.int .i64 (.ofNat b)) = some (.int .i64 (.ofNat (a + b))) := by
  intro E t
  show some (Value.int .i64 (wrapA .i64 (.ofNat (a + b)))) = _
  rw [wrap64 h]
theorem cv64 {x : Nat} (h : x < 9223372036854775808) : wrapA .i64 (.ofNat x) = .ofNat x := wrap64 h
set_option maxHeartbeats 2000000 in
theorem told_two : AE.Told Tryd.prog 36 twoA := by
  refine told_go hE hmix tolds_nil ?_
  intro args s v s' h hm
  unfold twoA at h
  split at h
  · rename_i k p
    -- the slice that the variable holds
    have key : ∃ ad n cap l x y, Holds s p (.slice (some ad) n cap) ∧ l.length = n ∧ Bs s ad l ∧ 118 + k ≤ n ∧ k ≤ 1000 ∧ n < 1000000 ∧ l[116 + k]? = some x ∧ l[117 + k]? = some y ∧ v = .int .i64 (num2 x y) ∧ s' = (s.seen p).seen ad.block := by
      unfold loadT at h
      rw [dsB] at h
      simp only [isAggD] at h
      obtain ⟨c, m, cs, _, hlt, ho, hm1, hcs, h4⟩ := load_inv h
      split at h4
      · rename_i u
        split at h4
        · rename_i ad n cap
          obtain ⟨hc, h5⟩ := run_when h4
          simp only [Bool.and_eq_true] at hc
          obtain ⟨l, hl, hb, h6⟩ := bs_of_load h5
          obtain ⟨x, hx, h7⟩ := run_opt h6
          obtain ⟨y, hy, h8⟩ := run_opt h7
          cases h8
          have hc0 := (rdCells_get hcs).2 0 _ rfl
          exact ⟨ad, n, cap, l, x, y, ⟨hlt, c, m, ho, by simpa using hm1, by simpa using hc0⟩, hl, hb.of rfl rfl, ble_iff.1 hc.1.1, ble_iff.1 hc.1.2, blt_iff.1 hc.2, hx, hy, rfl, rfl⟩
        · cases h4
      · cases h4
    obtain ⟨ad, n, cap, l, x, y, H, rfl, hb, h1, h2, h3, hx, hy, rfl, rfl⟩ := key
    clear h
    refine go_enter (fi := fi2) (c := cd2) (by kernel_rfl) (by kernel_rfl) 19 rfl rfl ?_
    have h0 : (Tr.ofList [Value.int .i64 (.ofNat k), .pointer (some ⟨p, 0, none⟩)]).get 0 = some (.int .i64 (.ofNat k)) := rfl
    have h1' : (Tr.ofList [Value.int .i64 (.ofNat k), .pointer (some ⟨p, 0, none⟩)]).get 1 = some (.pointer (some ⟨p, 0, none⟩)) := rfl
    generalize Tr.ofList [Value.int .i64 (.ofNat k), .pointer (some ⟨p, 0, none⟩)] = t at *
    simp only [cd2, Tryd.f36, bodyOf]
    have q0 := (H.rd (s' := ⟨s.heap, s.next, s.mark, s.rd, s.wr⟩) ⟨rfl, rfl, rfl⟩)
    have H0 : Holds ⟨s.heap, s.next, s.next, 0, 0⟩ p (.slice (some ad) l.length cap) := ⟨H.lt, H.cell⟩
    have B0 : Bs ⟨s.heap, s.next, s.next, 0, 0⟩ ad l := hb.of rfl rfl
    have l1 := H0.load
    have lx := sum.byte_load (Bs.at B0 hx) tiU8 dsU8
    have ly := sum.byte_load (Bs.at B0 hy) tiU8 dsU8
    simp only [S.seen] at l1 lx ly
    have p1 := b_plus (a := 116) (b := k) (by omega)
    have p2 := b_plus (a := 116 + k) (b := 1) (by omega)
    rw [show 116 + k + 1 = 117 + k by omega] at p2
    have n1 : Nat.blt (116 + k) l.length = true := blt_iff.2 (by omega)
    have n2 : Nat.blt (117 + k) l.length = true := blt_iff.2 (by omega)
    have i116 : (116 : Int) = Int.ofNat 116 := rfl
    have hx8 := x.toNat_lt
    have hy8 := y.toNat_lt
    have w1 : wrapA .i64 (Int.ofNat x.toNat) = Int.ofNat x.toNat := cv64 (by omega)
    have w2 : wrapA .i64 (Int.ofNat y.toNat) = Int.ofNat y.toNat := cv64 (by omega)
    have s1 : ∀ E t, binA E .shl t (.int .i64 (.ofNat y.toNat)) (.int .u64 8) = some (.int .i64 (.ofNat (y.toNat * 256))) := by
      intro E t
      show some (Value.int .i64 (wrapA .i64 (Int.ofNat (y.toNat * 256)))) = _
      rw [cv64 (by omega)]
    have o1 : ∀ E t, binA E .or t (.int .i64 (.ofNat x.toNat)) (.int .i64 (.ofNat (y.toNat * 256))) = some (.int .i64 (num2 x y)) := fun E t => rfl
    repeat apply go_seq
    apply go_region
    case h => intro m; simp (maxSteps := 2000000) (disch := decide) only [opsLoop, evOper, wantedA, nth, aop, aPick, aBin, aIndexAddr, aFieldAddr, aLoad, aStore, aExtract, aConvert, aAlloc, aBox, aIndex, callA, builtinA, Fr.evs, opt, val, when, AM.run, outV, newA, ptr, force_eq, seen_heap, seen_next, seen_mark, seen_seen, agg_cells, int_cells, Fr.ev, Fr.put, onFr, gps, gpn, bltT, still, flat, List.append_nil, List.nil_append, List.cons_append, Nat.reduceEqDiff, ne_eq, not_false_eq_true, reduceCtorEq, Bool.and_true, Bool.true_and, Bool.and_false, Bool.false_and, Bool.not_true, Bool.not_false, Bool.and_self]; rfl
    repeat apply go_seq
    apply go_drawn
    case hs => rfl
    case h => intro m; simp (maxSteps := 2000000) (disch := decide) only [opsLoop, evOper, wantedA, nth, aop, aPick, aBin, aIndexAddr, aFieldAddr, aLoad, aStore, aExtract, aConvert, aAlloc, aBox, aIndex, callA, builtinA, Fr.evs, opt, val, when, AM.run, outV, newA, ptr, force_eq, seen_heap, seen_next, seen_mark, seen_seen, agg_cells, int_cells, Fr.ev, Fr.put, onFr, gps, gpn, bltT, still, flat, List.append_nil, List.nil_append, List.cons_append, Nat.reduceEqDiff, ne_eq, not_false_eq_true, reduceCtorEq, Bool.and_true, Bool.true_and, Bool.and_false, Bool.false_and, Bool.not_true, Bool.not_false, Bool.and_self, drawnLoop, force_eq, S.seen, keep_none, clash_nil, clash_reads, created_self, lor_zero, lor_zero', h0, h1', tyB, dsB, tyU8, szU8, dsU8, tyI, dsI, l1, i116, int1, p1, p2, n1, n2, mul1, lx, ly, w1, w2, s1, o1]; rfl
    repeat apply go_seq
    apply go_ret
    apply ret_intro rfl rfl
    case run => simp (disch := decide) only [resultsM, resultsA, res2, opsLoop, evOper, wantedA, nth, aop, aPick, aBin, aIndexAddr, aFieldAddr, aLoad, aStore, aExtract, aConvert, aAlloc, aBox, aIndex, callA, builtinA, Fr.evs, opt, val, when, AM.run, outV, newA, ptr, force_eq, seen_heap, seen_next, seen_mark, seen_seen, agg_cells, int_cells, Fr.ev, Fr.put, onFr, gps, gpn, bltT, still, flat, List.append_nil, List.nil_append, List.cons_append, Nat.reduceEqDiff, ne_eq, not_false_eq_true, reduceCtorEq, Bool.and_true, Bool.true_and, Bool.and_false, Bool.false_and, Bool.not_true, Bool.not_false, Bool.and_self]; rfl
    exact ⟨rfl, Rd.less (s := s) ⟨rfl, rfl, rfl⟩ ⟨rfl, rfl, rfl⟩⟩
  · cases h
end Go.Proofs.YtgofanjbhbeniaaDoor.lf
end
end
