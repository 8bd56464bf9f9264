/- Leaves: the law on edges. -/
import Derived.Test.YtioieffmihdheaaDoorLf15
noncomputable section
namespace Go.Proofs.YtioieffmihdheaaDoor.lf
open AE
set_option linter.unusedSimpArgs false
set_option linter.unusedVariables false
set_option maxRecDepth 10000

theorem getA_run {s : S} {ad : Addr} {l : List UInt8} {cap : Nat} (hb : Bs s ad l) (hl : l.length = 128) (hN : ∀ i, i < 3 + putN (sayL l) → Nat.ble (s.next + i) lastName = true) :
    ∃ s1, (getA [.slice (some ad) 128 cap]).run s = some (.tuple ⟨[.agg ⟨(getL l).cells⟩, .bool (getOK l)]⟩, s1) ∧ s1.next = s.next + (3 + putN (sayL l)) ∧ ∀ m, (m < s.next ∨ s.next + (3 + putN (sayL l)) ≤ m) → s1.heap.get m = s.heap.get m := by
  obtain ⟨s1, e1, e2, e3, e4⟩ := bump_ok (3 + putN (sayL l)) (AM.pure (Value.tuple ⟨[.agg ⟨(getL l).cells⟩, .bool (getOK l)]⟩)) (s.seen ad.block) hN
  refine ⟨s1, ?_, e2, ?_⟩
  · show (loadA ad 128 fun cs => opt (bytesV cs) fun l => bump (3 + putN (sayL l)) (.pure (Value.tuple ⟨[.agg ⟨(getL l).cells⟩, .bool (getOK l)]⟩))).run s = _
    have e := loadA_run hb (fun cs => opt (bytesV cs) fun l => bump (3 + putN (sayL l)) (AM.pure (Value.tuple ⟨[.agg ⟨(getL l).cells⟩, .bool (getOK l)]⟩)))
    rw [hl] at e
    rw [e, bytesV_map]
    exact e1
  · intro m hm
    rw [e4 m]
    show (if s.next ≤ m ∧ m < s.next + (3 + putN (sayL l)) then none else s.heap.get m) = _
    rw [if_neg (by omega)]

theorem putA_run0 {s : S} {d : LeafD} (hlen : d.load.length = 116) (hN : ∀ i, i < putN d → Nat.ble (s.next + i) lastName = true) :
    ∃ s1, (putA [.agg ⟨d.cells⟩]).run s = some (putV d s.next, s1) ∧ s1.next = s.next + putN d ∧
      (∀ m, (m < s.next ∨ s.next + putN d ≤ m) → s1.heap.get m = s.heap.get m) ∧ (rightL d = true → s1.heap.get (s.next + 9) = some (.cells (Tr.ofList ((putL d).map bv)) (putL d).length 5 .whole)) := by
  have e0 : (putA [.agg ⟨d.cells⟩]).run s = (match rightL d with
    | true => bump 9 (newB (putL d) fun r => bump 1 (.pure (.slice (some ⟨r, 0, none⟩) 128 128)))
    | false => bump 3 (.pure (.slice none 0 0))).run s := by
    show (opt (leafOf d.cells) fun d => match rightL d with
      | true => bump 9 (newB (putL d) fun r => bump 1 (.pure (.slice (some ⟨r, 0, none⟩) 128 128)))
      | false => bump 3 (.pure (.slice none 0 0))).run s = _
    rw [leafOf_cells d hlen]
    rfl
  rw [e0]
  unfold putN at hN ⊢
  unfold putV
  cases hR : rightL d with
  | false =>
    rw [hR] at hN
    obtain ⟨s1, a1, a2, a3, a6⟩ := bump_ok 3 (AM.pure (Value.slice none 0 0)) s hN
    exact ⟨s1, a1, a2, fun m h => by rw [a6 m, if_neg (by simp at h; omega)], fun h => by cases h⟩
  | true =>
    rw [hR] at hN
    simp only [if_true] at hN ⊢
    obtain ⟨s1, a1, a2, a3, a6⟩ := bump_ok 9 (newB (putL d) fun r => bump 1 (.pure (.slice (some ⟨r, 0, none⟩) 128 128))) s (fun i hi => hN i (by omega))
    have hN9 : Nat.ble (s.next + 9) lastName = true := hN 9 (by omega)
    obtain ⟨s2, b1, b2, b3, b6⟩ := bump_ok 1 (AM.pure (Value.slice (some ⟨s.next + 9, 0, none⟩) 128 128)) (s1.grow (.cells (Tr.ofList ((putL d).map bv)) (putL d).length 5 .whole))
      (fun i hi => by have : i = 0 := by omega
                      subst this
                      show Nat.ble (s1.next + 1) lastName = true
                      rw [a2]; exact hN 10 (by omega))
    have hg : ∀ m, (s1.grow (.cells (Tr.ofList ((putL d).map bv)) (putL d).length 5 .whole)).heap.get m = if m = s.next + 9 then some (.cells (Tr.ofList ((putL d).map bv)) (putL d).length 5 .whole) else s1.heap.get m := by
      intro m
      show (s1.heap.put s1.next _).get m = _
      rw [a2]
      by_cases h : m = s.next + 9
      · subst h; rw [hg_same hN9, if_pos rfl]
      · rw [hg_far hN9 h, if_neg h]
    have hnx : (s1.grow (.cells (Tr.ofList ((putL d).map bv)) (putL d).length 5 .whole)).next = s.next + 10 := by show s1.next + 1 = _; omega
    refine ⟨s2, ?_, by rw [b2, hnx], ?_, ?_⟩
    · rw [a1]
      simp only [newB, AM.run, force_eq]
      rw [a2]
      show (match Nat.ble (s.next + 9) lastName with | false => none | true => _) = _
      rw [hN9]
      have hs : (⟨s1.heap.put (s.next + 9) (some (.cells (Tr.ofList ((putL d).map bv)) (putL d).length 5 .whole)), Nat.succ (s.next + 9), s1.mark, s1.rd, s1.wr⟩ : S) = s1.grow (.cells (Tr.ofList ((putL d).map bv)) (putL d).length 5 .whole) := by
        show _ = S.mk _ _ _ _ _
        rw [a2]
      simp only [hs]
      exact b1
    · intro m h
      rw [b6 m, if_neg (by rw [hnx]; omega), hg m, if_neg (by omega), a6 m, if_neg (by omega)]
    · intro _
      rw [b6 _, if_neg (by rw [hnx]; omega), hg _, if_pos rfl]


def InvE (n z : Nat) (a0 a1 : Int) (k : Nat) (fr : Fr) (s : S) : Prop :=
  ∃ (i : Nat) (t : Tr Value), k = z - i ∧ i ≤ z ∧ fr = ⟨6, t, 114, [], none⟩ ∧ LfAt s n (edge z i) ∧ s.next = n + 1 ∧ t.get 0 = some (.int .i64 a0) ∧ t.get 1 = some (.int .i64 a1) ∧
    t.get 7 = some (.pointer (some ⟨n, 0, none⟩)) ∧ t.get 16 = some (.int .i64 (.ofNat z)) ∧ t.get 17 = some (.int .i64 (.ofNat i))
def PostE (n z : Nat) (a0 a1 : Int) (x : Ex) (fr : Fr) (s : S) : Prop :=
  x = .exit 0 ∧ ∃ t : Tr Value, fr = ⟨6, t, 114, [], none⟩ ∧ LfAt s n (edge z z) ∧ s.next = n + 1 ∧ t.get 0 = some (.int .i64 a0) ∧ t.get 1 = some (.int .i64 a1) ∧ t.get 7 = some (.pointer (some ⟨n, 0, none⟩))
set_option maxHeartbeats 400000 in
theorem edge_round (n z : Nat) (a0 a1 : Int) (hz : z ≤ 115) (hN : Nat.ble n lastName = true) (k : Nat) (fr : Fr) (s : S) (h : InvE n z a0 a1 k fr s) : GoC E (sumsOf sigL) cdLl fr s (Again (InvE n z a0 a1) k (PostE n z a0 a1)) := by
  obtain ⟨i, t, hk, hi, rfl, L, hn, g0, g1, g7, g16, g17⟩ := h
  simp only [cdLl, cdL, Tryd.f6, bodyOf, sub]
  by_cases hlt : i < z
  · have hlt' : ltI (Int.ofNat i) (Int.ofNat z) = true := by rw [ltI_eq]; simp; omega
    have hinc := b_incr (n := i) (by omega)
    have hb := blt_iff.2 (show i < 116 by omega)
    have ha : addA ⟨n, 5, none⟩ i = ⟨n, 5 + i, none⟩ := sum.addA_eq ⟨n, 5, none⟩ i rfl
    have hone : oneB (bv (UInt8.ofNat (i + 1))) = true := rfl
    have hcells : (edge z (i + 1)).cells = (edge z i).cells.set (5 + i) (bv (UInt8.ofNat (i + 1))) := by
      rw [← set_load]
      show (edge z (i + 1)).cells = ({ edge z i with load := (ldz i).set i (UInt8.ofNat (i + 1)) } : LeafD).cells
      rw [ldz_succ i (by omega)]
      rfl
    obtain ⟨c, e, rm, st, L2⟩ := L.cell1 (k := 5 + i) (v := bv (UInt8.ofNat (i + 1))) (d' := edge z (i + 1)) hN (by omega) hone hcells (ldz_len _)
    repeat apply go_seq
    apply go_region
    case h => intro m; simp (maxSteps := 2000000) (disch := decide) only [opsLoop, evOper, wantedA, nth, aop, aPick, aBin, aIndexAddr, aFieldAddr, aLoad, aStore, aExtract, aConvert, aAlloc, aBox, aIndex, callA, builtinA, Fr.evs, opt, val, when, AM.run, outV, newA, ptr, force_eq, seen_heap, seen_next, seen_mark, seen_seen, agg_cells, int_cells, Fr.ev, Fr.put, onFr, gps, gpn, bltT, still, flat, List.append_nil, List.nil_append, List.cons_append, Nat.reduceEqDiff, ne_eq, not_false_eq_true, reduceCtorEq, Bool.and_true, Bool.true_and, Bool.and_false, Bool.false_and, Bool.not_true, Bool.not_false, Bool.and_self, g16, g17, b_lss, hlt']; rfl
    repeat apply go_seq
    apply go_cond
    case hc => simp (disch := decide) only [opsLoop, evOper, wantedA, nth, aop, aPick, aBin, aIndexAddr, aFieldAddr, aLoad, aStore, aExtract, aConvert, aAlloc, aBox, aIndex, callA, builtinA, Fr.evs, opt, val, when, AM.run, outV, newA, ptr, force_eq, seen_heap, seen_next, seen_mark, seen_seen, agg_cells, int_cells, Fr.ev, Fr.put, onFr, gps, gpn, bltT, still, flat, List.append_nil, List.nil_append, List.cons_append, Nat.reduceEqDiff, ne_eq, not_false_eq_true, reduceCtorEq, Bool.and_true, Bool.true_and, Bool.and_false, Bool.false_and, Bool.not_true, Bool.not_false, Bool.and_self]; rfl
    case h2 => intro h; cases h
    intro _
    apply go_skip
    apply go_seq
    apply go_block
    repeat apply go_seq
    apply go_region
    case h => intro m; simp (maxSteps := 2000000) (disch := decide) only [opsLoop, evOper, wantedA, nth, aop, aPick, aBin, aIndexAddr, aFieldAddr, aLoad, aStore, aExtract, aConvert, aAlloc, aBox, aIndex, callA, builtinA, Fr.evs, opt, val, when, AM.run, outV, newA, ptr, force_eq, seen_heap, seen_next, seen_mark, seen_seen, agg_cells, int_cells, Fr.ev, Fr.put, onFr, gps, gpn, bltT, still, flat, List.append_nil, List.nil_append, List.cons_append, Nat.reduceEqDiff, ne_eq, not_false_eq_true, reduceCtorEq, Bool.and_true, Bool.true_and, Bool.and_false, Bool.false_and, Bool.not_true, Bool.not_false, Bool.and_self, g17]; rfl
    repeat apply go_seq
    apply go_region
    case h => intro m; simp (maxSteps := 2000000) (disch := decide) only [opsLoop, evOper, wantedA, nth, aop, aPick, aBin, aIndexAddr, aFieldAddr, aLoad, aStore, aExtract, aConvert, aAlloc, aBox, aIndex, callA, builtinA, Fr.evs, opt, val, when, AM.run, outV, newA, ptr, force_eq, seen_heap, seen_next, seen_mark, seen_seen, agg_cells, int_cells, Fr.ev, Fr.put, onFr, gps, gpn, bltT, still, flat, List.append_nil, List.nil_append, List.cons_append, Nat.reduceEqDiff, ne_eq, not_false_eq_true, reduceCtorEq, Bool.and_true, Bool.true_and, Bool.and_false, Bool.false_and, Bool.not_true, Bool.not_false, Bool.and_self, int1, hinc, tyU8, dsU8, szU8, tyI, dsI, cv8, g7, tyLf, dsLf, fl5, ft5, fo5, tyA, dsA, szA, ble1A, ad5, hb, mul1, ha, bv_cells, show Nat.beq ([bv (UInt8.ofNat (i + 1))] : List Value).length (Int.ofNat 1).toNat = true from rfl, show Nat.beq ([bv (UInt8.ofNat (i + 1))] : List Value).length 1 = true from rfl, st]; rfl
    repeat apply go_seq
    apply go_region
    case h => intro m; simp (maxSteps := 2000000) (disch := decide) only [opsLoop, evOper, wantedA, nth, aop, aPick, aBin, aIndexAddr, aFieldAddr, aLoad, aStore, aExtract, aConvert, aAlloc, aBox, aIndex, callA, builtinA, Fr.evs, opt, val, when, AM.run, outV, newA, ptr, force_eq, seen_heap, seen_next, seen_mark, seen_seen, agg_cells, int_cells, Fr.ev, Fr.put, onFr, gps, gpn, bltT, still, flat, List.append_nil, List.nil_append, List.cons_append, Nat.reduceEqDiff, ne_eq, not_false_eq_true, reduceCtorEq, Bool.and_true, Bool.true_and, Bool.and_false, Bool.false_and, Bool.not_true, Bool.not_false, Bool.and_self, g17, int1, hinc]; rfl
    refine ⟨z - (i + 1), by omega, i + 1, _, rfl, by omega, rfl, ⟨L2.lt, L2.cell, L2.len⟩, hn, ?_, ?_, ?_, ?_, ?_⟩
    · simp (disch := decide) only [gps, gpn, g0]
    · simp (disch := decide) only [gps, gpn, g1]
    · simp (disch := decide) only [gps, gpn, g7]
    · simp (disch := decide) only [gps, gpn, g16]
    · simp (disch := decide) only [gps, gpn, g17]
  · obtain rfl : i = z := by omega
    have hlt' : ltI (Int.ofNat i) (Int.ofNat i) = false := by rw [ltI_eq]; simp
    repeat apply go_seq
    apply go_region
    case h => intro m; simp (maxSteps := 2000000) (disch := decide) only [opsLoop, evOper, wantedA, nth, aop, aPick, aBin, aIndexAddr, aFieldAddr, aLoad, aStore, aExtract, aConvert, aAlloc, aBox, aIndex, callA, builtinA, Fr.evs, opt, val, when, AM.run, outV, newA, ptr, force_eq, seen_heap, seen_next, seen_mark, seen_seen, agg_cells, int_cells, Fr.ev, Fr.put, onFr, gps, gpn, bltT, still, flat, List.append_nil, List.nil_append, List.cons_append, Nat.reduceEqDiff, ne_eq, not_false_eq_true, reduceCtorEq, Bool.and_true, Bool.true_and, Bool.and_false, Bool.false_and, Bool.not_true, Bool.not_false, Bool.and_self, g16, g17, b_lss, hlt']; rfl
    repeat apply go_seq
    apply go_cond
    case hc => simp (disch := decide) only [opsLoop, evOper, wantedA, nth, aop, aPick, aBin, aIndexAddr, aFieldAddr, aLoad, aStore, aExtract, aConvert, aAlloc, aBox, aIndex, callA, builtinA, Fr.evs, opt, val, when, AM.run, outV, newA, ptr, force_eq, seen_heap, seen_next, seen_mark, seen_seen, agg_cells, int_cells, Fr.ev, Fr.put, onFr, gps, gpn, bltT, still, flat, List.append_nil, List.nil_append, List.cons_append, Nat.reduceEqDiff, ne_eq, not_false_eq_true, reduceCtorEq, Bool.and_true, Bool.true_and, Bool.and_false, Bool.false_and, Bool.not_true, Bool.not_false, Bool.and_self]; rfl
    case h1 => intro h; cases h
    intro _
    apply go_exit
    refine ⟨rfl, _, rfl, L, hn, ?_, ?_, ?_⟩
    · simp (disch := decide) only [gps, gpn, g0]
    · simp (disch := decide) only [gps, gpn, g1]
    · simp (disch := decide) only [gps, gpn, g7]

theorem edge_all (n N' z w r : Nat) (hz : z ≤ 115) (hr : r ≤ 99) (hw : w ≤ 8) (hN : Nat.ble n lastName = true) (t : Tr Value) (s : S) (h : LfAt s n (edge z z)) (hn : s.next = N') (g7 : t.get 7 = some (.pointer (some ⟨n, 0, none⟩))) (g11 : t.get 11 = some (.int .i64 (1 + (r : Int)))) (g49 : t.get 49 = some (.int .i64 (.ofNat w))) :
    GoC E (sumsOf sigL) cdLb ⟨6, t, 114, [], none⟩ s (PostB n N' z w r) := by
  match w, hw with
  | 0, _ => exact edge_case0 n N' z r hz hr hN t s h hn g7 g11 g49
  | 1, _ => exact edge_case1 n N' z r hz hr hN t s h hn g7 g11 g49
  | 2, _ => exact edge_case2 n N' z r hz hr hN t s h hn g7 g11 g49
  | 3, _ => exact edge_case3 n N' z r hz hr hN t s h hn g7 g11 g49
  | 4, _ => exact edge_case4 n N' z r hz hr hN t s h hn g7 g11 g49
  | 5, _ => exact edge_case5 n N' z r hz hr hN t s h hn g7 g11 g49
  | 6, _ => exact edge_case6 n N' z r hz hr hN t s h hn g7 g11 g49
  | 7, _ => exact edge_case7 n N' z r hz hr hN t s h hn g7 g11 g49
  | 8, _ => exact edge_case8 n N' z r hz hr hN t s h hn g7 g11 g49

theorem fillE (z : Nat) : fillA (nthP [(0, 1), (1, 1), (2, 1), (3, 1), (4, 1), (5, 116)]) [(0, Value.int .i64 1), (1, .int .i64 65535), (2, .int .i64 65535), (3, .int .i64 65535), (4, .int .i64 (.ofNat z))] zeroL.cells = some (⟨1, 65535, 65535, 65535, Int.ofNat z, List.replicate 116 0⟩ : LeafD).cells := rfl
theorem edge0 (z : Nat) : (⟨1, 65535, 65535, 65535, Int.ofNat z, List.replicate 116 0⟩ : LeafD) = edge z 0 := by
  unfold edge
  rw [ldz_zero]

set_option maxHeartbeats 4000000 in
theorem edges_go (a0 a1 a2 : Int) (s : S) (hm : s.mark ≤ s.next) (hN : ∀ i, i < 60 → Nat.ble (s.next + i) lastName = true) :
    ∃ v s', v = Value.bool true ∧ ∃ n0, ∀ n, n0 ≤ n → evNext (evT E (sumsOf sigL) n) E (.enter 6 [.int .i64 a0, .int .i64 a1, .int .i64 a2]) s = some (.val v, s') := by
  refine go_enter (Q := fun v s' => v = Value.bool true) (fi := fiL) (c := cdL) (by kernel_rfl) (by kernel_rfl) 114 rfl rfl ?_
  have h0 : (Tr.ofList [Value.int .i64 a0, .int .i64 a1, .int .i64 a2]).get 0 = some (.int .i64 a0) := rfl
  have h1 : (Tr.ofList [Value.int .i64 a0, .int .i64 a1, .int .i64 a2]).get 1 = some (.int .i64 a1) := rfl
  have h2 : (Tr.ofList [Value.int .i64 a0, .int .i64 a1, .int .i64 a2]).get 2 = some (.int .i64 a2) := rfl
  generalize Tr.ofList [Value.int .i64 a0, .int .i64 a1, .int .i64 a2] = t at *
  obtain ⟨z, hzz, hz⟩ : ∃ z, wn a2 115 = z ∧ z ≤ 115 := ⟨_, rfl, wn_le a2 115⟩
  obtain ⟨r, hrr, hr⟩ : ∃ r, wn a1 99 = r ∧ r ≤ 99 := ⟨_, rfl, wn_le a1 99⟩
  obtain ⟨w, hww, hw⟩ : ∃ w, wn a0 8 = w ∧ w ≤ 8 := ⟨_, rfl, wn_le a0 8⟩
  have hN0 : Nat.ble s.next lastName = true := hN 0 (by omega)
  have hzb : Nat.ble zeroL.cells.length lastName = true := by rw [zeroL.len zero_len]; rfl
  simp only [cdL, Tryd.f6, bodyOf]
  repeat apply go_seq
  apply go_region
  case h => intro m; simp (maxSteps := 2000000) (disch := decide) only [opsLoop, evOper, wantedA, nth, aop, aPick, aBin, aIndexAddr, aFieldAddr, aLoad, aStore, aExtract, aConvert, aAlloc, aBox, aIndex, callA, builtinA, Fr.evs, opt, val, when, AM.run, outV, newA, ptr, force_eq, seen_heap, seen_next, seen_mark, seen_seen, agg_cells, int_cells, Fr.ev, Fr.put, onFr, gps, gpn, bltT, still, flat, List.append_nil, List.nil_append, List.cons_append, Nat.reduceEqDiff, ne_eq, not_false_eq_true, reduceCtorEq, Bool.and_true, Bool.true_and, Bool.and_false, Bool.false_and, Bool.not_true, Bool.not_false, Bool.and_self]; rfl
  have i115 : (115 : Int) = Int.ofNat 115 := rfl
  have wz := withinBA_run a2 115 (by omega) s
  rw [hzz] at wz
  have fe := fillE z
  rw [edge0] at fe
  have hec : Nat.beq (edge z 0).cells.length 121 = true := by rw [(edge z 0).len (ldz_len 0)]; rfl
  have L0 : LfAt ⟨s.heap.put s.next (some (.cells (Tr.ofList zeroL.cells) zeroL.cells.length 24 .whole)), Nat.succ s.next, s.mark, s.rd, s.wr⟩ s.next zeroL :=
    ⟨Nat.lt_succ_self _, ⟨_, _, _, by rw [zeroL.len zero_len]; exact hg_same hN0 _ _, row_ofList _ (by rw [zeroL.len zero_len]; unfold Tr.wide; omega)⟩, zero_len⟩
  obtain ⟨c, e, rm, st, hrow⟩ := L0.store (d' := edge z 0) hN0 (ldz_len 0)
  simp only [S.seen, S.turn] at st
  repeat apply go_seq
  apply go_region
  case h => intro m; simp (maxSteps := 2000000) (disch := decide) only [opsLoop, evOper, wantedA, nth, aop, aPick, aBin, aIndexAddr, aFieldAddr, aLoad, aStore, aExtract, aConvert, aAlloc, aBox, aIndex, callA, builtinA, Fr.evs, opt, val, when, AM.run, outV, newA, ptr, force_eq, seen_heap, seen_next, seen_mark, seen_seen, agg_cells, int_cells, Fr.ev, Fr.put, onFr, gps, gpn, bltT, still, flat, List.append_nil, List.nil_append, List.cons_append, Nat.reduceEqDiff, ne_eq, not_false_eq_true, reduceCtorEq, Bool.and_true, Bool.true_and, Bool.and_false, Bool.false_and, Bool.not_true, Bool.not_false, Bool.and_self, h2, int0, i115, tgWB, evT_told sgWB, wz, aBuild, evParts, tyLf, zeLf, dsLf, szLf, places_eq, fe, hzb, hN0, hec, st]; rfl
  generalize hs1 : S.mk _ _ _ _ _ = s1
  have L1 : LfAt s1 s.next (edge z 0) := by rw [← hs1]; exact ⟨Nat.lt_succ_self _, ⟨c, e, rm, hg_same hN0 _ _, hrow⟩, ldz_len 0⟩
  have e1 : s1.next = s.next + 1 := by rw [← hs1]
  clear hs1
  have l4 := L1.get 4 (.int .i64 (Int.ofNat z)) rfl
  apply go_seq
  apply go_seq
  repeat apply go_seq
  apply go_region
  case h => intro m; simp (maxSteps := 2000000) (disch := decide) only [opsLoop, evOper, wantedA, nth, aop, aPick, aBin, aIndexAddr, aFieldAddr, aLoad, aStore, aExtract, aConvert, aAlloc, aBox, aIndex, callA, builtinA, Fr.evs, opt, val, when, AM.run, outV, newA, ptr, force_eq, seen_heap, seen_next, seen_mark, seen_seen, agg_cells, int_cells, Fr.ev, Fr.put, onFr, gps, gpn, bltT, still, flat, List.append_nil, List.nil_append, List.cons_append, Nat.reduceEqDiff, ne_eq, not_false_eq_true, reduceCtorEq, Bool.and_true, Bool.true_and, Bool.and_false, Bool.false_and, Bool.not_true, Bool.not_false, Bool.and_self, tyLf, dsLf, fl4, ft4, fo4, tyI, szI, ble11, ad4, l4]; rfl
  apply go_block
  refine (go_loop_inv (body := cdLl) (InvE s.next z a0 a1) (fun k fr s1 hI => edge_round s.next z a0 a1 hz hN0 k fr s1 hI) (z - 0) _ _ ⟨0, _, rfl, by omega, rfl, L1.rd (Rd.seen s1 s.next), e1, ?_, ?_, ?_, ?_, ?_⟩).mono ?_
  · simp (disch := decide) only [gps, gpn, h0]
  · simp (disch := decide) only [gps, gpn, h1]
  · simp (disch := decide) only [gps, gpn]
  · simp (disch := decide) only [gps, gpn]
  · simp (disch := decide) only [gps, gpn, int0]
  rintro x fr s2 ⟨rfl, t2, rfl, L2, e2, g0, g1, g7⟩
  simp only [Out_, if_true]
  show GoC E _ _ _ _ _
  have hR := edge_right z hz
  have hel : (edge z z).load.length = 116 := ldz_len z
  obtain ⟨hgo, hgl⟩ := get_put (edge z z) hel hR
  have hsp := say_put (edge z z) hel hR
  have hpn : putN (edge z z) = 11 := by unfold putN; rw [if_pos hR]
  have ld := L2.load
  obtain ⟨s3, pr, p2, p4, p5⟩ := putA_run0 (s := s2.seen s.next) hel (fun i hi => by
    show Nat.ble (s2.next + i) lastName = true
    rw [e2, Nat.add_assoc]; rw [hpn] at hi; exact hN (1 + i) (by omega))
  have hpv : putV (edge z z) (s2.seen s.next).next = .slice (some ⟨s.next + 10, 0, none⟩) 128 128 := by
    unfold putV
    rw [if_pos hR, seen_next, e2]
  rw [hpv] at pr
  have p2 : s3.next = s.next + 12 := by rw [p2, hpn, seen_next, e2]
  have p4 : ∀ m, (m < s.next + 1 ∨ s.next + 12 ≤ m) → s3.heap.get m = s2.heap.get m := fun m hm2 => p4 m (by rw [hpn, seen_next, e2]; omega)
  have p5 : s3.heap.get (s.next + 10) = some (.cells (Tr.ofList ((putL (edge z z)).map bv)) (putL (edge z z)).length 5 .whole) := by
    have := p5 hR
    rw [seen_next, e2] at this
    exact this
  have hpl := putL_len (edge z z) hel
  have B3 := bs_new (show s.next + 10 < s3.next by omega) p5 (by omega)
  obtain ⟨s4, gr, q2, q4⟩ := getA_run (cap := 128) B3 hpl (fun i hi => by
    rw [hsp, hpn] at hi
    rw [p2, Nat.add_assoc]
    exact hN (12 + i) (by omega))
  rw [hgl, hgo] at gr
  rw [hsp, hpn] at q2 q4
  have q2 : s4.next = s.next + 26 := by rw [q2, p2]
  have L4 : LfAt s4 s.next (edge z z) := by
    obtain ⟨c, e, rm, w1, w2⟩ := L2.cell
    exact ⟨by omega, ⟨c, e, rm, by rw [q4 _ (.inl (by omega)), p4 _ (.inl (by omega))]; exact w1, w2⟩, hel⟩
  -- what comes back is put into a variable
  have hN26 := hN 26 (by omega)
  have hN26' : Nat.ble s4.next lastName = true := by rw [q2]; exact hN26
  have L5 : LfAt ⟨s4.heap.put s4.next (some (.cells (Tr.ofList zeroL.cells) zeroL.cells.length 24 .whole)), Nat.succ s4.next, s4.mark, s4.rd, s4.wr⟩ s4.next zeroL :=
    ⟨Nat.lt_succ_self _, ⟨_, _, _, by rw [zeroL.len zero_len]; exact hg_same hN26' _ _, row_ofList _ (by rw [zeroL.len zero_len]; unfold Tr.wide; omega)⟩, zero_len⟩
  obtain ⟨c5, x5, rm5, st5, hrow5⟩ := L5.store (d' := edge z z) hN26' hel
  simp only [S.seen, S.turn] at st5
  have hez : Nat.beq (edge z z).cells.length 121 = true := by rw [(edge z z).len hel]; rfl
  repeat apply go_seq
  apply go_region
  case h => intro m; simp (maxSteps := 2000000) (disch := decide) only [opsLoop, evOper, wantedA, nth, aop, aPick, aBin, aIndexAddr, aFieldAddr, aLoad, aStore, aExtract, aConvert, aAlloc, aBox, aIndex, callA, builtinA, Fr.evs, opt, val, when, AM.run, outV, newA, ptr, force_eq, seen_heap, seen_next, seen_mark, seen_seen, agg_cells, int_cells, Fr.ev, Fr.put, onFr, gps, gpn, bltT, still, flat, List.append_nil, List.nil_append, List.cons_append, Nat.reduceEqDiff, ne_eq, not_false_eq_true, reduceCtorEq, Bool.and_true, Bool.true_and, Bool.and_false, Bool.false_and, Bool.not_true, Bool.not_false, Bool.and_self, g7, tyLf, ld, tgP, evT_told sgP', pr, tgG, evT_told sgG, gr, dropL, zeLf, szLf, hzb, hN26', hez, st5]; rfl
  generalize hs6 : S.mk _ _ _ _ _ = s6
  have f6 : s6.next = s.next + 27 := by rw [← hs6]; show s4.next + 1 = _; omega
  have f6h : s6.heap = (s4.heap.put s4.next (some (.cells (Tr.ofList zeroL.cells) zeroL.cells.length 24 .whole))).put s4.next (some (.cells c5 121 x5 rm5)) := by rw [← hs6]
  clear hs6
  rw [q2] at f6h ⊢
  have L6 : LfAt s6 s.next (edge z z) := by
    obtain ⟨c, e, rm, w1, w2⟩ := L4.cell
    exact ⟨by omega, ⟨c, e, rm, by rw [f6h, hg_far hN26 (by omega), hg_far hN26 (by omega)]; exact w1, w2⟩, hel⟩
  have M6 : LfAt s6 (s.next + 26) (edge z z) := ⟨by omega, ⟨c5, x5, rm5, by rw [f6h]; exact hg_same hN26 _ _, hrow5⟩, hel⟩
  have ld6 := L6.load
  obtain ⟨s7, rr, r2, r4⟩ := rightA_run (s := s6.seen s.next) hel (fun i hi => by
    show Nat.ble (s6.next + i) lastName = true
    rw [f6, Nat.add_assoc]; exact hN (27 + i) (by omega))
  rw [hR] at rr
  have r2 : s7.next = s.next + 29 := by rw [r2, seen_next, f6]
  have r4 : ∀ m, (m < s.next + 27) → s7.heap.get m = s6.heap.get m := by
    intro m hm2
    rw [r4 m, seen_next, f6, if_neg (by omega), seen_heap]
  have L7 : LfAt s7 s.next (edge z z) := by
    obtain ⟨c, e, rm, w1, w2⟩ := L6.cell
    exact ⟨by omega, ⟨c, e, rm, by rw [r4 _ (by omega)]; exact w1, w2⟩, hel⟩
  have M7 : LfAt s7 (s.next + 26) (edge z z) := by
    obtain ⟨c, e, rm, w1, w2⟩ := M6.cell
    exact ⟨by omega, ⟨c, e, rm, by rw [r4 _ (by omega)]; exact w1, w2⟩, hel⟩
  have m7 := M7.load
  have l7 := (L7.rd (Rd.seen s7 (s.next + 26))).load
  have hq := eqLeaf (edge z z) hel 24 rfl
  repeat apply go_seq
  apply go_region
  case h => intro m; simp (maxSteps := 2000000) (disch := decide) only [opsLoop, evOper, wantedA, nth, aop, aPick, aBin, aIndexAddr, aFieldAddr, aLoad, aStore, aExtract, aConvert, aAlloc, aBox, aIndex, callA, builtinA, Fr.evs, opt, val, when, AM.run, outV, newA, ptr, force_eq, seen_heap, seen_next, seen_mark, seen_seen, agg_cells, int_cells, Fr.ev, Fr.put, onFr, gps, gpn, bltT, still, flat, List.append_nil, List.nil_append, List.cons_append, Nat.reduceEqDiff, ne_eq, not_false_eq_true, reduceCtorEq, Bool.and_true, Bool.true_and, Bool.and_false, Bool.false_and, Bool.not_true, Bool.not_false, Bool.and_self, g7, tyLf, ld6, tgR, evT_told sgR', rr, u_not, m7, l7, hq]; rfl
  repeat apply go_seq
  apply go_cond
  case hc => simp (disch := decide) only [opsLoop, evOper, wantedA, nth, aop, aPick, aBin, aIndexAddr, aFieldAddr, aLoad, aStore, aExtract, aConvert, aAlloc, aBox, aIndex, callA, builtinA, Fr.evs, opt, val, when, AM.run, outV, newA, ptr, force_eq, seen_heap, seen_next, seen_mark, seen_seen, agg_cells, int_cells, Fr.ev, Fr.put, onFr, gps, gpn, bltT, still, flat, List.append_nil, List.nil_append, List.cons_append, Nat.reduceEqDiff, ne_eq, not_false_eq_true, reduceCtorEq, Bool.and_true, Bool.true_and, Bool.and_false, Bool.false_and, Bool.not_true, Bool.not_false, Bool.and_self]; rfl
  case h1 => intro h; cases h
  intro _
  apply go_skip
  have i99 : (99 : Int) = Int.ofNat 99 := rfl
  have i8 : (8 : Int) = Int.ofNat 8 := rfl
  have wr : ∀ s, (withinBA [.int .i64 a1, .int .i64 (.ofNat 0), .int .i64 (.ofNat 99)]).run s = some (.int .i64 (.ofNat r), s) := fun s => by rw [← hrr]; exact withinBA_run a1 99 (by omega) s
  have ww : ∀ s, (withinBA [.int .i64 a0, .int .i64 (.ofNat 0), .int .i64 (.ofNat 8)]).run s = some (.int .i64 (.ofNat w), s) := fun s => by rw [← hww]; exact withinBA_run a0 8 (by omega) s
  have adr : ∀ E t, binA E .add t (.int .i64 1) (.int .i64 (.ofNat r)) = some (.int .i64 (1 + (r : Int))) := b_addI 1 (r : Int) (by omega) (by omega)
  repeat apply go_seq
  apply go_region
  case h => intro m; simp (maxSteps := 2000000) (disch := decide) only [opsLoop, evOper, wantedA, nth, aop, aPick, aBin, aIndexAddr, aFieldAddr, aLoad, aStore, aExtract, aConvert, aAlloc, aBox, aIndex, callA, builtinA, Fr.evs, opt, val, when, AM.run, outV, newA, ptr, force_eq, seen_heap, seen_next, seen_mark, seen_seen, agg_cells, int_cells, Fr.ev, Fr.put, onFr, gps, gpn, bltT, still, flat, List.append_nil, List.nil_append, List.cons_append, Nat.reduceEqDiff, ne_eq, not_false_eq_true, reduceCtorEq, Bool.and_true, Bool.true_and, Bool.and_false, Bool.false_and, Bool.not_true, Bool.not_false, Bool.and_self, g1, tgWB, evT_told sgWB, int0, i99, wr, adr]; rfl
  apply go_seq
  apply go_seq
  repeat apply go_seq
  apply go_region
  case h => intro m; simp (maxSteps := 2000000) (disch := decide) only [opsLoop, evOper, wantedA, nth, aop, aPick, aBin, aIndexAddr, aFieldAddr, aLoad, aStore, aExtract, aConvert, aAlloc, aBox, aIndex, callA, builtinA, Fr.evs, opt, val, when, AM.run, outV, newA, ptr, force_eq, seen_heap, seen_next, seen_mark, seen_seen, agg_cells, int_cells, Fr.ev, Fr.put, onFr, gps, gpn, bltT, still, flat, List.append_nil, List.nil_append, List.cons_append, Nat.reduceEqDiff, ne_eq, not_false_eq_true, reduceCtorEq, Bool.and_true, Bool.true_and, Bool.and_false, Bool.false_and, Bool.not_true, Bool.not_false, Bool.and_self, g0, tgWB, evT_told sgWB, int0, i8, ww]; rfl
  apply go_block
  generalize hs8 : (s7.seen (s.next + 26)).seen s.next = s8
  have L8 : LfAt s8 s.next (edge z z) := by rw [← hs8]; exact (L7.rd (Rd.seen s7 (s.next + 26))).rd (Rd.seen _ s.next)
  have e8 : s8.next = s.next + 29 := by rw [← hs8]; exact r2
  clear hs8
  refine GoC.mono (c := cdLb) (edge_all s.next (s.next + 29) z w r hz hr hw hN0 _ s8 L8 e8 ?_ ?_ ?_) ?_
  · simp (disch := decide) only [gps, gpn, g7]
  · simp (disch := decide) only [gps, gpn]
  · simp (disch := decide) only [gps, gpn]
  rintro x fr s9 ⟨rfl, t9, rfl, L9, e9, k7⟩
  simp only [Out_]
  show GoC E _ _ _ _ _
  have htn := turned_not z w r hz hr
  have htl := turned_len z w r
  have ld9 := L9.load
  obtain ⟨s10, ra, ra2, ra4⟩ := rightA_run (s := s9.seen s.next) htl (fun i hi => by
    show Nat.ble (s9.next + i) lastName = true
    rw [e9, Nat.add_assoc]; exact hN (29 + i) (by omega))
  rw [htn] at ra
  have ra2 : s10.next = s.next + 31 := by rw [ra2, seen_next, e9]
  have L10 : LfAt s10 s.next (turned z w r) := by
    obtain ⟨c, e, rm, w1, w2⟩ := L9.cell
    exact ⟨by omega, ⟨c, e, rm, by rw [ra4 _, seen_next, e9, if_neg (by omega), seen_heap]; exact w1, w2⟩, htl⟩
  have ld10 := L10.load
  have hpn0 : putN (turned z w r) = 3 := by unfold putN; rw [if_neg (by rw [htn]; simp)]
  obtain ⟨s11, pa, _, _, _⟩ := putA_run0 (s := s10.seen s.next) htl (fun i hi => by
    show Nat.ble (s10.next + i) lastName = true
    rw [ra2, Nat.add_assoc]; rw [hpn0] at hi; exact hN (31 + i) (by omega))
  have hpv0 : putV (turned z w r) (s10.seen s.next).next = .slice none 0 0 := by unfold putV; rw [if_neg (by rw [htn]; simp)]
  rw [hpv0] at pa
  have hx : (constA (.bool true) []).run s11 = some (.bool true, s11) := rfl
  repeat apply go_seq
  apply go_region
  case h => intro m; simp (maxSteps := 2000000) (disch := decide) only [opsLoop, evOper, wantedA, nth, aop, aPick, aBin, aIndexAddr, aFieldAddr, aLoad, aStore, aExtract, aConvert, aAlloc, aBox, aIndex, callA, builtinA, Fr.evs, opt, val, when, AM.run, outV, newA, ptr, force_eq, seen_heap, seen_next, seen_mark, seen_seen, agg_cells, int_cells, Fr.ev, Fr.put, onFr, gps, gpn, bltT, still, flat, List.append_nil, List.nil_append, List.cons_append, Nat.reduceEqDiff, ne_eq, not_false_eq_true, reduceCtorEq, Bool.and_true, Bool.true_and, Bool.and_false, Bool.false_and, Bool.not_true, Bool.not_false, Bool.and_self, k7, tyLf, ld9, tgR, evT_told sgR', ra, u_not, ld10, tgP, evT_told sgP', pa, tyB, dsB, b_eql, int0, eqI_t, tgX, evT_told sgX, hx]; rfl
  repeat apply go_seq
  apply go_ret
  apply ret_intro rfl rfl
  case run => simp (disch := decide) only [resultsM, resultsA, resL, opsLoop, evOper, wantedA, nth, aop, aPick, aBin, aIndexAddr, aFieldAddr, aLoad, aStore, aExtract, aConvert, aAlloc, aBox, aIndex, callA, builtinA, Fr.evs, opt, val, when, AM.run, outV, newA, ptr, force_eq, seen_heap, seen_next, seen_mark, seen_seen, agg_cells, int_cells, Fr.ev, Fr.put, onFr, gps, gpn, bltT, still, flat, List.append_nil, List.nil_append, List.cons_append, Nat.reduceEqDiff, ne_eq, not_false_eq_true, reduceCtorEq, Bool.and_true, Bool.true_and, Bool.and_false, Bool.false_and, Bool.not_true, Bool.not_false, Bool.and_self]; rfl
  rfl

/-- **the law on edges**, at all numbers -/
theorem _root_.Go.Proofs.YtioieffmihdheaaDoor.leafEdges_any (a0 a1 a2 : Int) (w0 : World) : Calls Tryd.prog 6 #[.int .i64 a0, .int .i64 a1, .int .i64 a2] w0 fun e w' => e = .returned (.bool true) ∧ Go.RowKit.Below w0.heap.size w0 w' := by
  obtain ⟨v, s', rfl, n0, h⟩ := edges_go a0 a1 a2 s0 (Nat.le_refl _) (fun i hi => ble_iff.2 (by show 0 + i ≤ lastName; unfold lastName; omega))
  exact callsT_true hP hmix tolds_L (h n0 (Nat.le_refl _)) (.cons (.flat rfl) (.cons (.flat rfl) (.cons (.flat rfl) .nil))) w0
end Go.Proofs.YtioieffmihdheaaDoor.lf
