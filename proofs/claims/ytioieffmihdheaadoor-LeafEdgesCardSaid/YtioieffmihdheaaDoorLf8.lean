/- Leaves: a leaf as a block's bytes: told. -/
import Derived.Test.YtioieffmihdheaaDoorLf7
noncomputable section
namespace Go.Proofs.YtioieffmihdheaaDoor.lf
open AE
set_option linter.unusedSimpArgs false
set_option linter.unusedVariables false
set_option maxRecDepth 10000

theorem b_shrI (c k : Nat) (hk : k ≤ 64) : ∀ E t, binA E .shr t (.int .i64 (.ofNat c)) (.int .u64 (.ofNat k)) = some (.int .i64 (.ofNat (c >>> k))) := by
  intro E t
  show some (Value.int .i64 (Int.fdiv (.ofNat c) (pow2 (minN k 64)))) = _
  have h : minN k 64 = k := by rw [minN_eq]; omega
  rw [h]
  have h2 : Int.fdiv (.ofNat c) (pow2 k) = Int.ofNat (c >>> k) := by
    rw [Nat.shiftRight_eq_div_pow]
    unfold pow2
    show Int.fdiv ((c : Nat) : Int) ((2 ^ k : Nat) : Int) = ((c / 2 ^ k : Nat) : Int)
    rw [Int.fdiv_eq_ediv_of_nonneg _ (Int.natCast_nonneg _)]
    rfl
  rw [h2]
def InvP (d : LeafD) (n : Nat) (s0 : S) (k : Nat) (fr : Fr) (s : S) : Prop :=
  ∃ (i : Nat) (t : Tr Value), k = 3 - i ∧ i ≤ 3 ∧ fr = ⟨7, t, 45, [], none⟩ ∧ PutAt n d s0 s i ∧ t.get 1 = some (.pointer (some ⟨n, 0, none⟩)) ∧ t.get 3 = some (.slice (some ⟨n + 3, 0, none⟩) (116 + 2 * i) 124) ∧
    t.get 20 = some (.slice (some ⟨n + 4, 0, none⟩) 3 3) ∧ t.get 21 = some (.int .i64 (.ofNat 3)) ∧ t.get 22 = some (.int .i64 (.ofNat i))
def PostP (d : LeafD) (n : Nat) (s0 : S) (x : Ex) (fr : Fr) (s : S) : Prop :=
  x = .exit 0 ∧ ∃ t : Tr Value, fr = ⟨7, t, 45, [], none⟩ ∧ PutAt n d s0 s 3 ∧ t.get 1 = some (.pointer (some ⟨n, 0, none⟩)) ∧ t.get 3 = some (.slice (some ⟨n + 3, 0, none⟩) 122 124)
set_option maxHeartbeats 400000 in
theorem put_round (d : LeafD) (n : Nat) (s0 : S) (hd : d.load.length = 116) (hN : ∀ j, j < 11 → Nat.ble (n + j) lastName = true) (hx : ∀ (j : Nat) (x : Int), (three d)[j]? = some x → 0 ≤ x ∧ x ≤ 65535) (k : Nat) (fr : Fr) (s : S) (h : InvP d n s0 k fr s) :
    GoC E (sumsOf sigP) cdPl fr s (Again (InvP d n s0) k (PostP d n s0)) := by
  obtain ⟨i, t, hk, hi, rfl, hp, g1, g3, g20, g21, g22⟩ := h
  simp only [cdPl, cdP, Tryd.f7, bodyOf, sub]
  by_cases hlt : i < 3
  · obtain ⟨x, hxi⟩ : ∃ x, (three d)[i]? = some x := ⟨_, List.getElem?_eq_getElem (by simpa [three] using hlt)⟩
    have hx2 := hx i x hxi
    have hlt' : ltI (Int.ofNat i) (Int.ofNat 3) = true := by rw [ltI_eq]; simp; omega
    have hb : Nat.blt i 3 = true := blt_iff.2 hlt
    have hld := hp.get i x hxi
    have hinc := b_incr (n := i) (by omega)
    obtain ⟨z, hz⟩ : ∃ z : Nat, x = Int.ofNat z := ⟨x.toNat, (Int.toNat_of_nonneg hx2.1).symm⟩
    have hgd : (three d).getD i 0 = x := by rw [List.getD_eq_getElem?_getD, hxi]; rfl
    repeat apply go_seq
    apply go_region
    case h => intro m; simp (disch := decide) only [opsLoop, evOper, wantedA, nth, aop, aPick, aBin, aIndexAddr, aFieldAddr, aLoad, aStore, aExtract, aConvert, aAlloc, aBox, aIndex, callA, builtinA, Fr.evs, opt, val, when, AM.run, outV, newA, ptr, force_eq, seen_heap, seen_next, seen_mark, seen_seen, agg_cells, int_cells, Fr.ev, Fr.put, onFr, gps, gpn, bltT, still, flat, List.append_nil, List.nil_append, List.cons_append, Nat.reduceEqDiff, ne_eq, not_false_eq_true, reduceCtorEq, Bool.and_true, Bool.true_and, Bool.and_false, Bool.false_and, Bool.not_true, Bool.not_false, Bool.and_self, g21, g22, b_lss, hlt']; rfl
    repeat apply go_seq
    apply go_cond
    case hc => simp (disch := decide) only [opsLoop, evOper, wantedA, nth, aop, aPick, aBin, aIndexAddr, aFieldAddr, aLoad, aStore, aExtract, aConvert, aAlloc, aBox, aIndex, callA, builtinA, Fr.evs, opt, val, when, AM.run, outV, newA, ptr, force_eq, seen_heap, seen_next, seen_mark, seen_seen, agg_cells, int_cells, Fr.ev, Fr.put, onFr, gps, gpn, bltT, still, flat, List.append_nil, List.nil_append, List.cons_append, Nat.reduceEqDiff, ne_eq, not_false_eq_true, reduceCtorEq, Bool.and_true, Bool.true_and, Bool.and_false, Bool.false_and, Bool.not_true, Bool.not_false, Bool.and_self]; rfl
    case h2 => intro h; cases h
    intro _
    apply go_skip
    apply go_seq
    apply go_block
    repeat apply go_seq
    apply go_region
    case h => intro m; simp (disch := decide) only [opsLoop, evOper, wantedA, nth, aop, aPick, aBin, aIndexAddr, aFieldAddr, aLoad, aStore, aExtract, aConvert, aAlloc, aBox, aIndex, callA, builtinA, Fr.evs, opt, val, when, AM.run, outV, newA, ptr, force_eq, seen_heap, seen_next, seen_mark, seen_seen, agg_cells, int_cells, Fr.ev, Fr.put, onFr, gps, gpn, bltT, still, flat, List.append_nil, List.nil_append, List.cons_append, Nat.reduceEqDiff, ne_eq, not_false_eq_true, reduceCtorEq, Bool.and_true, Bool.true_and, Bool.and_false, Bool.false_and, Bool.not_true, Bool.not_false, Bool.and_self, g20, g22, tyL, dsL, tyI, szI, hb, mul1, add0, hld]; rfl
    subst hz
    have hp1 := hp.rd (Rd.seen s (n + 4))
    generalize hs1 : s.seen (n + 4) = s1
    rw [hs1] at hp1
    have hnx := hp1.next
    have hN1 : Nat.ble s1.next lastName = true := by rw [hnx, Nat.add_assoc]; exact hN (5 + i) (by omega)
    have g8 := b_shrI z 8 (by omega)
    have i8 : (8 : Int) = Int.ofNat 8 := rfl
    have f2 := fill2 (UInt8.ofNat z) (UInt8.ofNat (z >>> 8))
    repeat apply go_seq
    apply go_ops
    apply go_take 7
    case h => intro m; simp (disch := decide) only [List.take, opsLoop, evOper, wantedA, nth, aop, aPick, aBin, aIndexAddr, aFieldAddr, aLoad, aStore, aExtract, aConvert, aAlloc, aBox, aIndex, callA, Fr.evs, opt, val, when, AM.run, outV, newA, ptr, force_eq, seen_heap, seen_next, seen_mark, seen_seen, agg_cells, int_cells, Fr.ev, Fr.put, onFr, gps, gpn, bltT, still, flat, List.append_nil, List.nil_append, List.cons_append, Nat.reduceEqDiff, ne_eq, not_false_eq_true, reduceCtorEq, Bool.and_true, Bool.true_and, Bool.and_false, Bool.false_and, Bool.not_true, Bool.not_false, Bool.and_self, g3, tyU8, tyI, dsU8, dsI, i8, g8, cv8, aBuildSlice, evParts, tyB, dsB, zeU8, szU8, byU8, int0, f2, hN1, show Nat.ble (Nat.mul 2 1) 1048576 = true from rfl, show Nat.beq ([Value.int .u8 (Int.ofNat 0)] : List Value).length 1 = true from rfl, show Nat.ble 1 1 = true from rfl, show ∀ a b : Value, Nat.ble ([a, b] : List Value).length lastName = true from fun _ _ => rfl]; rfl
    simp only [List.drop]
    generalize hs3 : S.mk _ _ _ _ _ = s3
    have e3 : s3.next = s1.next + 1 := by rw [← hs3]
    have e3h : s3.heap = s1.heap.put s1.next (some (.cells (Tr.ofList [bv (UInt8.ofNat z), bv (UInt8.ofNat (z >>> 8))]) (List.length [bv (UInt8.ofNat z), bv (UInt8.ofNat (z >>> 8))]) 5 .whole)) := by rw [← hs3]
    have hL2 : [bv (UInt8.ofNat z), bv (UInt8.ofNat (z >>> 8))] = (two (Int.ofNat z)).map bv := rfl
    rw [hL2, List.length_map] at e3h
    clear hs3
    obtain ⟨s4, a4, m1, m2, m3, m4, m5⟩ := hp1.more hd hi hN (two (Int.ofNat z)) rfl _ _ e3 e3h
    apply go_take 2
    case h => intro m; simp (disch := decide) only [List.take, opsLoop, evOper, wantedA, nth, aop, aPick, aBin, aIndexAddr, aFieldAddr, aLoad, aStore, aExtract, aConvert, aAlloc, aBox, aIndex, callA, Fr.evs, opt, val, when, AM.run, outV, newA, ptr, force_eq, seen_heap, seen_next, seen_mark, seen_seen, agg_cells, int_cells, Fr.ev, Fr.put, onFr, gps, gpn, bltT, still, flat, List.append_nil, List.nil_append, List.cons_append, Nat.reduceEqDiff, ne_eq, not_false_eq_true, reduceCtorEq, Bool.and_true, Bool.true_and, Bool.and_false, Bool.false_and, Bool.not_true, Bool.not_false, Bool.and_self, a4]; rfl
    simp only [List.drop]
    apply go_done
    repeat apply go_seq
    apply go_region
    case h => intro m; simp (disch := decide) only [opsLoop, evOper, wantedA, nth, aop, aPick, aBin, aIndexAddr, aFieldAddr, aLoad, aStore, aExtract, aConvert, aAlloc, aBox, aIndex, callA, builtinA, Fr.evs, opt, val, when, AM.run, outV, newA, ptr, force_eq, seen_heap, seen_next, seen_mark, seen_seen, agg_cells, int_cells, Fr.ev, Fr.put, onFr, gps, gpn, bltT, still, flat, List.append_nil, List.nil_append, List.cons_append, Nat.reduceEqDiff, ne_eq, not_false_eq_true, reduceCtorEq, Bool.and_true, Bool.true_and, Bool.and_false, Bool.false_and, Bool.not_true, Bool.not_false, Bool.and_self, g22, int1, hinc]; rfl
    refine ⟨3 - (i + 1), by omega, i + 1, _, rfl, by omega, rfl, ⟨m1, m2, m3, ?_, m5⟩, ?_, ?_, ?_, ?_, ?_⟩
    · show ∃ c e rm, _ ∧ Row c 0 ((d.load ++ (pre d i ++ two ((three d).getD i 0))).map bv)
      rw [hgd, ← List.append_assoc]
      exact m4
    · simp (disch := decide) only [gps, gpn, g1]
    · simp (disch := decide) only [gps, gpn]
    · simp (disch := decide) only [gps, gpn, g20]
    · simp (disch := decide) only [gps, gpn, g21]
    · simp (disch := decide) only [gps, gpn, g22]
  · obtain rfl : i = 3 := by omega
    have hlt' : ltI (Int.ofNat 3) (Int.ofNat 3) = false := rfl
    repeat apply go_seq
    apply go_region
    case h => intro m; simp (disch := decide) only [opsLoop, evOper, wantedA, nth, aop, aPick, aBin, aIndexAddr, aFieldAddr, aLoad, aStore, aExtract, aConvert, aAlloc, aBox, aIndex, callA, builtinA, Fr.evs, opt, val, when, AM.run, outV, newA, ptr, force_eq, seen_heap, seen_next, seen_mark, seen_seen, agg_cells, int_cells, Fr.ev, Fr.put, onFr, gps, gpn, bltT, still, flat, List.append_nil, List.nil_append, List.cons_append, Nat.reduceEqDiff, ne_eq, not_false_eq_true, reduceCtorEq, Bool.and_true, Bool.true_and, Bool.and_false, Bool.false_and, Bool.not_true, Bool.not_false, Bool.and_self, g21, g22, b_lss, hlt']; rfl
    repeat apply go_seq
    apply go_cond
    case hc => simp (disch := decide) only [opsLoop, evOper, wantedA, nth, aop, aPick, aBin, aIndexAddr, aFieldAddr, aLoad, aStore, aExtract, aConvert, aAlloc, aBox, aIndex, callA, builtinA, Fr.evs, opt, val, when, AM.run, outV, newA, ptr, force_eq, seen_heap, seen_next, seen_mark, seen_seen, agg_cells, int_cells, Fr.ev, Fr.put, onFr, gps, gpn, bltT, still, flat, List.append_nil, List.nil_append, List.cons_append, Nat.reduceEqDiff, ne_eq, not_false_eq_true, reduceCtorEq, Bool.and_true, Bool.true_and, Bool.and_false, Bool.false_and, Bool.not_true, Bool.not_false, Bool.and_self]; rfl
    case h1 => intro h; cases h
    intro _
    apply go_exit
    refine ⟨rfl, _, rfl, hp, ?_, ?_⟩
    · simp (disch := decide) only [gps, gpn, g1]
    · simp (disch := decide) only [gps, gpn, g3]
end Go.Proofs.YtioieffmihdheaaDoor.lf
