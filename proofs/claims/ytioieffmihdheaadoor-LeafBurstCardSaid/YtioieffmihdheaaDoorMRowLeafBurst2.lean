/- A right leaf comes back; two have the same block just if they are the same; a burst of 32 bits is found; one byte more or less is none: of all leaves, places and bursts. -/
import Derived.Test.YtioieffmihdheaaDoorMRowLeafBurst1
import Derived.ChangeArms
import Derived.ChangeReads
import Derived.ChangeShapes
import Derived.RowKit
import Derived.Test.YtioieffmihdheaaDoorRows
import Derived.Test.YtioieffmihdheaaDoorCards
import Derived.Test.YtioieffmihdheaaDoorTie
import Derived.WalkKit
import Derived.ProofKit
import Derived.OpenShut
import Derived.ShutString
import Derived.ChangeOld
import Derived.ChangeSame
import Derived.Below
import Derived.LaidMore
import Derived.Lay
import Derived.SevenTiedAt
import Derived.Stop.Joined
section
/- Leaves: the law on bursts: both leaves are right: what comes back, of the block, of less and of more. -/
noncomputable section
namespace Go.Proofs.YtioieffmihdheaaDoor.lf
open AE
set_option linter.unusedSimpArgs false
set_option linter.unusedVariables false
set_option maxRecDepth 10000

/-- a block's bytes, all of them -/
structure PB (s : S) (n : Nat) (l : List UInt8) : Prop where
  lt : n < s.next
  cell : ∃ c e rm, s.heap.get n = some (.cells c 128 e rm) ∧ Row c 0 (l.map bv)
  len : l.length = 128
theorem PB.bs {s : S} {n : Nat} {l : List UInt8} (h : PB s n l) : Bs s ⟨n, 0, none⟩ l := by
  obtain ⟨c, e, rm, h1, h2⟩ := h.cell
  exact ⟨rfl, h.lt, c, 128, e, rm, h1, by show 0 + l.length ≤ 128; have := h.len; omega, h2⟩
theorem PB.keep {s s1 : S} {n : Nat} {l : List UInt8} (h : PB s n l) (hn : s.next ≤ s1.next) (hg : s1.heap.get n = s.heap.get n) : PB s1 n l := ⟨by have := h.lt; omega, by rw [hg]; exact h.cell, h.len⟩
/-- the memory of the law: both leaves, and their blocks -/
structure BuAt (s : S) (n : Nat) (dl dm : LeafD) (lp : List UInt8) : Prop where
  a : LfAt s n dl
  b : LfAt s (n + 1) dm
  p : PB s (n + 11) lp
  q : Bs s ⟨n + 22, 0, none⟩ (putL dm)
theorem BuAt.keep {s s1 : S} {n : Nat} {dl dm : LeafD} {lp : List UInt8} (h : BuAt s n dl dm lp) (hn : s.next ≤ s1.next) (hg : ∀ m, m < n + 24 → s1.heap.get m = s.heap.get m) : BuAt s1 n dl dm lp :=
  ⟨h.a.keep hn (hg _ (by omega)), h.b.keep hn (hg _ (by omega)), h.p.keep hn (hg _ (by omega)), h.q.keep hn (hg _ (by show n + 22 < n + 24; omega))⟩
/-- Get of bytes that are no block -/
theorem getA_no {s : S} {a : Option Addr} {k cap : Nat} (hk : Nat.beq k 128 = false) (hN : ∀ i, i < 2 → Nat.ble (s.next + i) lastName = true) :
    ∃ s1, (getA [.slice a k cap]).run s = some (Value.tuple ⟨[.agg ⟨zeroL.cells⟩, .bool false]⟩, s1) ∧ s1.next = s.next + 2 ∧ ∀ m, m < s.next → s1.heap.get m = s.heap.get m := by
  obtain ⟨s1, e1, e2, e3, e4⟩ := bump_ok 2 (AM.pure (Value.tuple ⟨[.agg ⟨zeroL.cells⟩, .bool false]⟩)) s hN
  refine ⟨s1, ?_, e2, fun m hm => by rw [e4, if_neg (by omega)]⟩
  show (match Nat.beq k 128 with
    | false => bump 2 (AM.pure (Value.tuple ⟨[.agg ⟨zeroL.cells⟩, .bool false]⟩))
    | true => match a with
      | none => .fail
      | some ad => loadA ad 128 fun cs => opt (bytesV cs) fun l => bump (3 + putN (sayL l)) (AM.pure (Value.tuple ⟨[.agg ⟨(getL l).cells⟩, .bool (getOK l)]⟩))).run s = _
  rw [hk]
  exact e1
/-- a new variable of leaves -/
theorem newVar (s : S) (hN : Nat.ble s.next lastName = true) {d : LeafD} (hd : d.load.length = 116) :
    ∃ c e rm, (storeA ⟨s.next, 0, none⟩ d.cells (AM.pure (ANext.value undefV))).run ⟨s.heap.put s.next (some (.cells (Tr.ofList zeroL.cells) zeroL.cells.length 24 .whole)), Nat.succ s.next, s.mark, s.rd, s.wr⟩ =
      some (.value undefV, ⟨(s.heap.put s.next (some (.cells (Tr.ofList zeroL.cells) zeroL.cells.length 24 .whole))).put s.next (some (.cells c 121 e rm)), Nat.succ s.next, s.mark, bit s.mark s.next s.rd, bit s.mark s.next s.wr⟩) ∧ Row c 0 d.cells := by
  have L : LfAt ⟨s.heap.put s.next (some (.cells (Tr.ofList zeroL.cells) zeroL.cells.length 24 .whole)), Nat.succ s.next, s.mark, s.rd, s.wr⟩ s.next zeroL :=
    ⟨Nat.lt_succ_self _, ⟨_, _, _, by rw [zeroL.len zero_len]; exact hg_same hN _ _, row_ofList _ (by rw [zeroL.len zero_len]; unfold Tr.wide; omega)⟩, zero_len⟩
  exact L.store hN hd
theorem var_far {s : S} {c : Tr Value} {e : TypeId} {rm : Room} {o : AObj} (hN : Nat.ble s.next lastName = true) (m : Nat) (hm : m ≠ s.next) : ((s.heap.put s.next (some o)).put s.next (some (.cells c 121 e rm))).get m = s.heap.get m := by
  rw [hg_far hN hm, hg_far hN hm]

theorem fill1 : fillA (placeA 1) [(0, Value.int .u8 0)] (repeatL [Value.int .u8 0] 1) = some [Value.int .u8 0] := rfl
set_option maxHeartbeats 2000000 in
/-- what comes back -/
theorem bu_gets (dl dm : LeafD) (hRl : rightL dl = true) (hRm : rightL dm = true) (a : Int) (x n : Nat) (s : S) (t : Tr Value) (M : BuAt s n dl dm (putL dl)) (hn : s.next = n + 24) (hN : ∀ i, i < 200 → Nat.ble (n + i) lastName = true)
    (h2 : t.get 2 = some (.int .i64 a)) (h3 : t.get 3 = some (.int .u32 (.ofNat x))) (h4 : t.get 4 = some (.pointer (some ⟨n, 0, none⟩))) (h5 : t.get 5 = some (.pointer (some ⟨n + 1, 0, none⟩)))
    (h9 : t.get 9 = some (.slice (some ⟨n + 11, 0, none⟩) 128 128)) (h10 : t.get 10 = some (.slice (some ⟨n + 22, 0, none⟩) 128 128)) (Q : Value → S → Prop)
    (h : ∀ (t : Tr Value) (s1 : S), BuAt s1 n dl dm (putL dl) → s1.next = n + 49 → LfAt s1 (n + 38) dl →
      t.get 2 = some (.int .i64 a) → t.get 3 = some (.int .u32 (.ofNat x)) → t.get 4 = some (.pointer (some ⟨n, 0, none⟩)) → t.get 5 = some (.pointer (some ⟨n + 1, 0, none⟩)) →
      t.get 9 = some (.slice (some ⟨n + 11, 0, none⟩) 128 128) → t.get 10 = some (.slice (some ⟨n + 22, 0, none⟩) 128 128) →
      t.get 11 = some (.pointer (some ⟨n + 38, 0, none⟩)) → t.get 12 = some (.bool true) → t.get 14 = some (.bool false) → t.get 16 = some (.bool false) →
      GoC E (sumsOf sigU) (sub [1,1,1,1,1,1] cdU) ⟨5, t, 137, [], none⟩ s1 (Ret E 5 fiU Q)) :
    GoC E (sumsOf sigU) cdU4 ⟨5, t, 137, [], none⟩ s (Ret E 5 fiU Q) := by
  have hcode : cdU4 = .seq (sub [1,1,1,0] cdU) (.seq (sub [1,1,1,1,0] cdU) (.seq (sub [1,1,1,1,1,0] cdU) (sub [1,1,1,1,1,1] cdU))) := rfl
  rw [hcode]
  generalize hrest : sub [1,1,1,1,1,1] cdU = rest at h ⊢
  simp only [cdU, Tryd.f5, bodyOf, sub]
  have hlen := M.a.len
  obtain ⟨hgo, hgl⟩ := get_put dl hlen hRl
  have hsp := say_put dl hlen hRl
  have hpn : putN dl = 11 := by unfold putN; rw [if_pos hRl]
  have hpl := putL_len dl hlen
  have hzb : Nat.ble zeroL.cells.length lastName = true := by rw [zeroL.len zero_len]; rfl
  have hzl : Nat.beq zeroL.cells.length 121 = true := by rw [zeroL.len zero_len]; rfl
  have hdl : Nat.beq dl.cells.length 121 = true := by rw [dl.len hlen]; rfl
  -- the block
  obtain ⟨s1, gr, q1, q2⟩ := getA_run (cap := 128) M.p.bs hpl (fun i hi => by
    rw [hsp, hpn] at hi
    rw [hn, Nat.add_assoc]
    exact hN (24 + i) (by omega))
  rw [hgl, hgo] at gr
  rw [hsp, hpn] at q1 q2
  have q1 : s1.next = n + 38 := by rw [q1, hn]
  have M1 : BuAt s1 n dl dm (putL dl) := M.keep (by omega) (fun m hm => q2 m (.inl (by omega)))
  have hN38 : Nat.ble s1.next lastName = true := by rw [q1]; exact hN 38 (by omega)
  obtain ⟨c1, x1, rm1, st1, row1⟩ := newVar s1 hN38 hlen
  repeat apply go_seq
  apply go_region
  case h => intro m; simp (maxSteps := 2000000) (disch := decide) only [opsLoop, evOper, wantedA, nth, aop, aPick, aBin, aIndexAddr, aFieldAddr, aLoad, aStore, aExtract, aConvert, aAlloc, aBox, aIndex, callA, builtinA, Fr.evs, opt, val, when, AM.run, outV, newA, ptr, force_eq, seen_heap, seen_next, seen_mark, seen_seen, agg_cells, int_cells, Fr.ev, Fr.put, onFr, gps, gpn, bltT, still, flat, List.append_nil, List.nil_append, List.cons_append, Nat.reduceEqDiff, ne_eq, not_false_eq_true, reduceCtorEq, Bool.and_true, Bool.true_and, Bool.and_false, Bool.false_and, Bool.not_true, Bool.not_false, Bool.and_self, h9, tgG, evT_told suG, gr, dropL, tyLf, zeLf, szLf, hzb, hN38, hdl, st1]; rfl
  generalize hs2 : S.mk _ _ _ _ _ = s2
  have f2 : s2.next = n + 39 := by rw [← hs2]; show s1.next + 1 = _; omega
  have f2h : ∀ m, m ≠ s1.next → s2.heap.get m = s1.heap.get m := fun m hm => by rw [← hs2]; exact var_far hN38 m hm
  have f2c : s2.heap.get s1.next = some (.cells c1 121 x1 rm1) := by rw [← hs2]; exact hg_same hN38 _ _
  clear hs2
  have M2 : BuAt s2 n dl dm (putL dl) := M1.keep (by omega) (fun m hm => f2h m (by omega))
  have Y2 : LfAt s2 (n + 38) dl := ⟨by omega, ⟨c1, x1, rm1, by rw [← q1]; exact f2c, row1⟩, hlen⟩
  rw [q1]
  clear st1 f2c f2h gr q2
  -- less
  obtain ⟨s3, gr, q3, q4⟩ := getA_no (s := s2) (a := some (addIf ⟨n + 11, 0, none⟩ 128 1 1)) (k := 127) (cap := 127) rfl (fun i hi => by
    rw [f2, Nat.add_assoc]; exact hN (39 + i) (by omega))
  have q3 : s3.next = n + 41 := by rw [q3, f2]
  have M3 : BuAt s3 n dl dm (putL dl) := M2.keep (by omega) (fun m hm => q4 m (by omega))
  have Y3 : LfAt s3 (n + 38) dl := Y2.keep (by omega) (q4 _ (by omega))
  have hN41 : Nat.ble s3.next lastName = true := by rw [q3]; exact hN 41 (by omega)
  obtain ⟨c3, x3, rm3, st3, row3⟩ := newVar s3 hN41 zero_len
  have hopen : Nat.ble OPEN 128 = false := rfl
  repeat apply go_seq
  apply go_region
  case h => intro m; simp (maxSteps := 2000000) (disch := decide) only [opsLoop, evOper, wantedA, nth, aop, aPick, aBin, aIndexAddr, aFieldAddr, aLoad, aStore, aExtract, aConvert, aAlloc, aBox, aIndex, callA, builtinA, Fr.evs, opt, val, when, AM.run, outV, newA, ptr, force_eq, seen_heap, seen_next, seen_mark, seen_seen, agg_cells, int_cells, Fr.ev, Fr.put, onFr, gps, gpn, bltT, still, flat, List.append_nil, List.nil_append, List.cons_append, Nat.reduceEqDiff, ne_eq, not_false_eq_true, reduceCtorEq, Bool.and_true, Bool.true_and, Bool.and_false, Bool.false_and, Bool.not_true, Bool.not_false, Bool.and_self, h9, aSlice, lowHigh, intOf?, sliceA, sliceE, tyB, tyU8, dsB, dsU8, szU8, int1, hopen, show Nat.ble 1 128 = true from rfl, show Nat.ble 128 128 = true from rfl, show Nat.sub 128 1 = 127 from rfl, tgG, evT_told suG, gr, dropL, tyLf, zeLf, szLf, hzb, hN41, hzl, st3]; rfl
  generalize hs4 : S.mk _ _ _ _ _ = s4
  have f4 : s4.next = n + 42 := by rw [← hs4]; show s3.next + 1 = _; omega
  have f4h : ∀ m, m ≠ s3.next → s4.heap.get m = s3.heap.get m := fun m hm => by rw [← hs4]; exact var_far hN41 m hm
  clear hs4
  have M4 : BuAt s4 n dl dm (putL dl) := M3.keep (by omega) (fun m hm => f4h m (by omega))
  have Y4 : LfAt s4 (n + 38) dl := Y3.keep (by omega) (f4h _ (by omega))
  clear st3 f4h gr q4 M M1 M2 M3 Y2 Y3
  -- more
  have hN42 : Nat.ble s4.next lastName = true := by rw [f4]; exact hN 42 (by omega)
  repeat apply go_seq
  apply go_ops
  apply go_take 2
  case h => intro m; simp (disch := decide) only [List.take, opsLoop, evOper, wantedA, nth, aop, aPick, aBin, aIndexAddr, aFieldAddr, aLoad, aStore, aExtract, aConvert, aAlloc, aBox, aIndex, callA, Fr.evs, opt, val, when, AM.run, outV, newA, ptr, force_eq, seen_heap, seen_next, seen_mark, seen_seen, agg_cells, int_cells, Fr.ev, Fr.put, onFr, gps, gpn, bltT, still, flat, List.append_nil, List.nil_append, List.cons_append, Nat.reduceEqDiff, ne_eq, not_false_eq_true, reduceCtorEq, Bool.and_true, Bool.true_and, Bool.and_false, Bool.false_and, Bool.not_true, Bool.not_false, Bool.and_self, h9, aBuildSlice, evParts, tyB, dsB, tyU8, dsU8, zeU8, szU8, int_cells, fillA, repeatL, hN42, show Nat.ble (Nat.mul 0 1) 1048576 = true from rfl, show Nat.beq ([Value.int .u8 0] : List Value).length 1 = true from rfl, show Nat.ble 1 1 = true from rfl, show Nat.ble ([] : List Value).length lastName = true from rfl]; rfl
  simp only [List.drop]
  generalize hs5 : S.mk _ _ _ _ _ = s5
  have f5 : s5.next = n + 43 := by rw [← hs5]; show s4.next + 1 = _; omega
  have f5h : s5.heap = s4.heap.put s4.next (some (.cells (Tr.ofList []) ([] : List Value).length 5 .whole)) := by rw [← hs5]
  clear hs5
  rw [f4] at f5h ⊢
  have hN42' := hN 42 (by omega)
  have M5 : BuAt s5 n dl dm (putL dl) := M4.keep (by omega) (fun m hm => by rw [f5h]; exact hg_far hN42' (by omega) _ _)
  have Y5 : LfAt s5 (n + 38) dl := Y4.keep (by omega) (by rw [f5h]; exact hg_far hN42' (by omega) _ _)
  have E5 : Bs s5 ⟨n + 42, 0, none⟩ [] := bs_new (l := []) (by omega) (by rw [f5h]; exact hg_same hN42' _ _) (by simp)
  have hN43 : Nat.ble s5.next lastName = true := by rw [f5]; exact hN 43 (by omega)
  obtain ⟨s6, a6, f6h, f6, _⟩ := append_new (c2 := 128) M5.p.bs hpl (by omega) (by omega) E5 hN43
  apply go_take 1
  case h => intro m; simp (disch := decide) only [List.take, opsLoop, evOper, wantedA, nth, aop, aPick, aBin, aIndexAddr, aFieldAddr, aLoad, aStore, aExtract, aConvert, aAlloc, aBox, aIndex, callA, Fr.evs, opt, val, when, AM.run, outV, newA, ptr, force_eq, seen_heap, seen_next, seen_mark, seen_seen, agg_cells, int_cells, Fr.ev, Fr.put, onFr, gps, gpn, bltT, still, flat, List.append_nil, List.nil_append, List.cons_append, Nat.reduceEqDiff, ne_eq, not_false_eq_true, reduceCtorEq, Bool.and_true, Bool.true_and, Bool.and_false, Bool.false_and, Bool.not_true, Bool.not_false, Bool.and_self, h9, a6]; rfl
  simp only [List.drop]
  have f6 : s6.next = n + 44 := by rw [f6, f5]
  rw [f5] at f6h ⊢
  have hN43' := hN 43 (by omega)
  have M6 : BuAt s6 n dl dm (putL dl) := M5.keep (by omega) (fun m hm => by rw [f6h]; exact hg_far hN43' (by omega) _ _)
  have Y6 : LfAt s6 (n + 38) dl := Y5.keep (by omega) (by rw [f6h]; exact hg_far hN43' (by omega) _ _)
  have hN44 : Nat.ble s6.next lastName = true := by rw [f6]; exact hN 44 (by omega)
  apply go_take 1
  case h => intro m; simp (disch := decide) only [List.take, opsLoop, evOper, wantedA, nth, aop, aPick, aBin, aIndexAddr, aFieldAddr, aLoad, aStore, aExtract, aConvert, aAlloc, aBox, aIndex, callA, Fr.evs, opt, val, when, AM.run, outV, newA, ptr, force_eq, seen_heap, seen_next, seen_mark, seen_seen, agg_cells, int_cells, Fr.ev, Fr.put, onFr, gps, gpn, bltT, still, flat, List.append_nil, List.nil_append, List.cons_append, Nat.reduceEqDiff, ne_eq, not_false_eq_true, reduceCtorEq, Bool.and_true, Bool.true_and, Bool.and_false, Bool.false_and, Bool.not_true, Bool.not_false, Bool.and_self, aBuildSlice, evParts, tyB, dsB, tyU8, dsU8, zeU8, szU8, int_cells, fill1, hN44, show Nat.ble (Nat.mul 1 1) 1048576 = true from rfl, show Nat.beq ([Value.int .u8 0] : List Value).length 1 = true from rfl, show Nat.ble 1 1 = true from rfl, show Nat.ble ([Value.int .u8 0] : List Value).length lastName = true from rfl]; rfl
  simp only [List.drop]
  generalize hs7 : S.mk _ _ _ _ _ = s7
  have f7 : s7.next = n + 45 := by rw [← hs7]; show s6.next + 1 = _; omega
  have f7h : s7.heap = s6.heap.put s6.next (some (.cells (Tr.ofList [Value.int .u8 0]) ([Value.int .u8 0] : List Value).length 5 .whole)) := by rw [← hs7]
  rw [show [Value.int .u8 0] = ([0] : List UInt8).map bv from rfl, List.length_map] at f7h
  clear hs7
  rw [f6] at f7h ⊢
  have hN44' := hN 44 (by omega)
  have M7 : BuAt s7 n dl dm (putL dl) := M6.keep (by omega) (fun m hm => by rw [f7h]; exact hg_far hN44' (by omega) _ _)
  have Y7 : LfAt s7 (n + 38) dl := Y6.keep (by omega) (by rw [f7h]; exact hg_far hN44' (by omega) _ _)
  have X7 : Bs s7 ⟨n + 44, 0, none⟩ [0] := bs_new (l := [0]) (by omega) (by rw [f7h]; exact hg_same hN44' _ _) (by simp)
  have hN45 : Nat.ble s7.next lastName = true := by rw [f7]; exact hN 45 (by omega)
  have G7 : s7.heap.get (n + 43) = some (.cells (Tr.ofList ((putL dl).map bv)) (putL dl).length 5 .loose) := by
    rw [f7h, hg_far hN44' (by omega), f6h]; exact hg_same hN43' _ _
  obtain ⟨s8, a8, f8, _, f8h⟩ := append_one (n := 128) (c := Nat.add OPEN 128) rfl rfl X7 hpl (by omega) (by omega) hN43' G7 hN45
  apply go_take 1
  case h => intro m; simp (disch := decide) only [List.take, opsLoop, evOper, wantedA, nth, aop, aPick, aBin, aIndexAddr, aFieldAddr, aLoad, aStore, aExtract, aConvert, aAlloc, aBox, aIndex, callA, Fr.evs, opt, val, when, AM.run, outV, newA, ptr, force_eq, seen_heap, seen_next, seen_mark, seen_seen, agg_cells, int_cells, Fr.ev, Fr.put, onFr, gps, gpn, bltT, still, flat, List.append_nil, List.nil_append, List.cons_append, Nat.reduceEqDiff, ne_eq, not_false_eq_true, reduceCtorEq, Bool.and_true, Bool.true_and, Bool.and_false, Bool.false_and, Bool.not_true, Bool.not_false, Bool.and_self, a8]; rfl
  simp only [List.drop]
  have f8 : s8.next = n + 46 := by rw [f8, f7]
  rw [f7] at f8h ⊢
  have M8 : BuAt s8 n dl dm (putL dl) := M7.keep (by omega) (fun m hm => f8h m (by omega) (by omega))
  have Y8 : LfAt s8 (n + 38) dl := Y7.keep (by omega) (f8h _ (by omega) (by omega))
  obtain ⟨s9, gr, q9, q10⟩ := getA_no (s := s8) (a := some ⟨n + 45, 0, none⟩) (k := Nat.add 128 1) (cap := Nat.add OPEN (Nat.add 128 1)) rfl (fun i hi => by
    rw [f8, Nat.add_assoc]; exact hN (46 + i) (by omega))
  have q9 : s9.next = n + 48 := by rw [q9, f8]
  have M9 : BuAt s9 n dl dm (putL dl) := M8.keep (by omega) (fun m hm => q10 m (by omega))
  have Y9 : LfAt s9 (n + 38) dl := Y8.keep (by omega) (q10 _ (by omega))
  have hN48 : Nat.ble s9.next lastName = true := by rw [q9]; exact hN 48 (by omega)
  obtain ⟨c9, x9, rm9, st9, row9⟩ := newVar s9 hN48 zero_len
  apply go_take 7
  case h => intro m; simp (disch := decide) only [List.take, opsLoop, evOper, wantedA, nth, aop, aPick, aBin, aIndexAddr, aFieldAddr, aLoad, aStore, aExtract, aConvert, aAlloc, aBox, aIndex, callA, Fr.evs, opt, val, when, AM.run, outV, newA, ptr, force_eq, seen_heap, seen_next, seen_mark, seen_seen, agg_cells, int_cells, Fr.ev, Fr.put, onFr, gps, gpn, bltT, still, flat, List.append_nil, List.nil_append, List.cons_append, Nat.reduceEqDiff, ne_eq, not_false_eq_true, reduceCtorEq, Bool.and_true, Bool.true_and, Bool.and_false, Bool.false_and, Bool.not_true, Bool.not_false, Bool.and_self, tgG, evT_told suG, gr, dropL, tyLf, zeLf, szLf, hzb, hN48, hzl, st9]; rfl
  simp only [List.drop]
  apply go_done
  generalize hsA : S.mk _ _ _ _ _ = sA
  have fA : sA.next = n + 49 := by rw [← hsA]; show s9.next + 1 = _; omega
  have fAh : ∀ m, m ≠ s9.next → sA.heap.get m = s9.heap.get m := fun m hm => by rw [← hsA]; exact var_far hN48 m hm
  clear hsA
  apply h
  · exact M9.keep (by omega) (fun m hm => fAh m (by omega))
  · exact fA
  · exact Y9.keep (by omega) (fAh _ (by omega))
  · simp (disch := decide) only [gps, gpn, h2]
  · simp (disch := decide) only [gps, gpn, h3]
  · simp (disch := decide) only [gps, gpn, h4]
  · simp (disch := decide) only [gps, gpn, h5]
  · simp (disch := decide) only [gps, gpn, h9]
  · simp (disch := decide) only [gps, gpn, h10]
  · simp (disch := decide) only [gps, gpn]
  · simp (disch := decide) only [gps, gpn]
  · simp (disch := decide) only [gps, gpn]
  · simp (disch := decide) only [gps, gpn]
end Go.Proofs.YtioieffmihdheaaDoor.lf
end
end

section
/- Leaves: the law on bursts: bits are turned, one by one. -/
noncomputable section
namespace Go.Proofs.YtioieffmihdheaaDoor.lf
open AE
set_option linter.unusedSimpArgs false
set_option linter.unusedVariables false
set_option maxRecDepth 10000

theorem b_shrX (c k : Nat) (hk : k ≤ 32) : ∀ E t, binA E .shr t (.int .u32 (.ofNat c)) (.int .i64 (.ofNat k)) = some (.int .u32 (.ofNat (c >>> k))) := b_shrN c k hk
theorem b_and1 (c : Nat) : ∀ E t, binA E .and t (.int .u32 (.ofNat c)) (.int .u32 1) = some (.int .u32 (.ofNat (c % 4294967296 % 2))) := by
  intro E t
  rw [b_and]
  have h1 : Nat.land (Nat.mod c 4294967296) 1 = c % 4294967296 % 2 := Nat.and_one_is_mod _
  rw [h1]
  have h2 : Nat.mod (c % 4294967296 % 2) 4294967296 = c % 4294967296 % 2 := Nat.mod_eq_of_lt (by omega)
  rw [h2]
theorem b_eqlU {E t} (x y : Int) : binA E .eql t (.int .u32 x) (.int .u32 y) = some (.bool (eqI x y)) := rfl
theorem bit_one (x i : Nat) (hx : x < 4294967296) : eqI (Int.ofNat (x >>> i % 4294967296 % 2)) 1 = Nat.testBit x i := by
  have h0 : x >>> i ≤ x := by rw [Nat.shiftRight_eq_div_pow]; exact Nat.div_le_self _ _
  rw [Nat.mod_eq_of_lt (a := x >>> i) (b := 4294967296) (by omega)]
  show eqI (Int.ofNat _) (Int.ofNat 1) = _
  rw [eqI_lit]
  rw [Nat.testBit_eq_decide_div_mod_eq, Nat.shiftRight_eq_div_pow]
theorem b_quo8 (c : Nat) (h : c < 1000000) : ∀ E t, binA E .quo t (.int .i64 (.ofNat c)) (.int .i64 (.ofNat 8)) = some (.int .i64 (.ofNat (c / 8))) := by
  intro E t
  show some (Value.int .i64 (wrapA .i64 (Int.ofNat (c / 8)))) = _
  rw [wrap64 (by omega)]
theorem b_rem8 (c : Nat) : ∀ E t, binA E .rem t (.int .i64 (.ofNat c)) (.int .i64 (.ofNat 8)) = some (.int .i64 (.ofNat (c % 8))) := fun E t => rfl
theorem b_shl8 (r : Nat) (h : r < 8) : ∀ E t, binA E .shl t (.int .u8 1) (.int .i64 (.ofNat r)) = some (.int .u8 (.ofNat (2 ^ r))) := by
  intro E t
  match r, h with
  | 0, _ => rfl
  | 1, _ => rfl
  | 2, _ => rfl
  | 3, _ => rfl
  | 4, _ => rfl
  | 5, _ => rfl
  | 6, _ => rfl
  | 7, _ => rfl
theorem b_xor8 (x : UInt8) (m : Nat) (hm : m < 256) : ∀ E t, binA E .xor t (.int .u8 (.ofNat x.toNat)) (.int .u8 (.ofNat m)) = some (bv (x ^^^ UInt8.ofNat m)) := by
  intro E t
  have hx := x.toNat_lt
  show some (Value.int .u8 (wrapA .u8 (.ofNat (Nat.xor (x.toNat % 256) (m % 256))))) = _
  rw [Nat.mod_eq_of_lt hx, Nat.mod_eq_of_lt hm, cv8]
  have : UInt8.ofNat (Nat.xor x.toNat m) = x ^^^ UInt8.ofNat m := by
    apply UInt8.toNat_inj.1
    have h2 : x.toNat ^^^ m < 256 := Nat.xor_lt_two_pow (n := 8) hx hm
    rw [UInt8.toNat_xor, UInt8.toNat_ofNat_of_lt' hm]
    exact UInt8.toNat_ofNat_of_lt' h2
  rw [this]

def InvU (n b x : Nat) (dl dm : LeafD) (k : Nat) (fr : Fr) (s : S) : Prop :=
  ∃ (i : Nat) (t : Tr Value), k = 32 - i ∧ i ≤ 32 ∧ fr = ⟨5, t, 137, [], none⟩ ∧ BuAt s n dl dm (flipL (putL dl) x b i) ∧ s.next = n + 49 ∧ t.get 3 = some (.int .u32 (.ofNat x)) ∧
    t.get 9 = some (.slice (some ⟨n + 11, 0, none⟩) 128 128) ∧ t.get 17 = some (.int .i64 (.ofNat b)) ∧ t.get 18 = some (.int .i64 (.ofNat i))
def PostU (n b x : Nat) (dl dm : LeafD) (ex : Ex) (fr : Fr) (s : S) : Prop :=
  ex = .exit 0 ∧ ∃ t : Tr Value, fr = ⟨5, t, 137, [], none⟩ ∧ BuAt s n dl dm (flipL (putL dl) x b 32) ∧ s.next = n + 49 ∧ t.get 3 = some (.int .u32 (.ofNat x)) ∧ t.get 9 = some (.slice (some ⟨n + 11, 0, none⟩) 128 128)
set_option maxHeartbeats 1000000 in
theorem bu_round (n b x : Nat) (dl dm : LeafD) (hb : b ≤ 992) (hx : x < 4294967296) (hN : ∀ i, i < 200 → Nat.ble (n + i) lastName = true) (k : Nat) (fr : Fr) (s : S) (h : InvU n b x dl dm k fr s) :
    GoC E (sumsOf sigU) cdUl fr s (Again (InvU n b x dl dm) k (PostU n b x dl dm)) := by
  obtain ⟨i, t, hk, hi, rfl, M, hn, h3, h9, h17, h18⟩ := h
  have hfl : flipL (putL dl) x b (i + 1) = if Nat.testBit x i = true then (flipL (putL dl) x b i).set ((b + i) / 8) ((flipL (putL dl) x b i).getD ((b + i) / 8) 0 ^^^ UInt8.ofNat (2 ^ ((b + i) % 8))) else flipL (putL dl) x b i := rfl
  simp only [cdUl, cdU, Tryd.f5, bodyOf, sub]
  by_cases hlt : i < 32
  · have hlt' : ltI (Int.ofNat i) 32 = true := by show ltI (Int.ofNat i) (Int.ofNat 32) = true; rw [ltI_eq]; simp; omega
    have sh := b_shrX x i (by omega)
    have an := b_and1 (x >>> i)
    have bo := bit_one x i hx
    have hinc := b_incr (n := i) (by omega)
    have hN11 := hN 11 (by omega)
    generalize hlp : flipL (putL dl) x b i = lp at M hfl
    cases hbit : Nat.testBit x i with
    | true =>
      rw [hbit] at bo hfl
      rw [if_pos rfl] at hfl
      have hj : (b + i) / 8 < 128 := by omega
      generalize hje : (b + i) / 8 = j at hj hfl
      generalize hre : (b + i) % 8 = r at hfl
      have hr : r < 8 := by omega
      have hy : lp[j]? = some (lp.getD j 0) := by
        have := M.p.len
        rw [List.getD_eq_getElem?_getD, List.getElem?_eq_getElem (by omega)]; rfl
      generalize lp.getD j 0 = y at hy hfl
      have hm : 2 ^ r < 256 := by
        have : 2 ^ r ≤ 2 ^ 7 := Nat.pow_le_pow_right (by omega) (by omega)
        have h7 : (2 : Nat) ^ 7 = 128 := by decide
        omega
      have ad := b_plus (a := b) (b := i) (by omega)
      have qu := b_quo8 (b + i) (by omega)
      have re := b_rem8 (b + i)
      rw [hje] at qu
      rw [hre] at re
      have sl := b_shl8 r hr
      have xr := b_xor8 y (2 ^ r) hm
      have B0 : Bs ⟨s.heap, s.next, s.next, 0, 0⟩ ⟨n + 11, 0, none⟩ lp := M.p.bs.of rfl rfl
      have lx := sum.byte_load (Bs.at B0 hy) tiU8 dsU8
      rw [add0] at lx
      obtain ⟨c, e, rm, g1, g2⟩ := M.p.cell
      have st := storeA_run (s := ⟨s.heap, s.next, s.next, 0, 0⟩) (N := n + 11) (o := j) (m := 128) (vs := [bv (y ^^^ UInt8.ofNat (2 ^ r))]) (c := c) (e := e) (rm := rm) (AM.pure (ANext.value undefV)) (by rfl) M.p.lt hN11 g1 (by show j + 1 ≤ 128; omega) (by omega)
      have hbl : Nat.blt j 128 = true := blt_iff.2 hj
      have i8 : (8 : Int) = Int.ofNat 8 := rfl
      simp only [S.seen, S.turn] at lx st
      repeat apply go_seq
      apply go_region
      case h => intro m; simp (maxSteps := 2000000) (disch := decide) only [opsLoop, evOper, wantedA, nth, aop, aPick, aBin, aIndexAddr, aFieldAddr, aLoad, aStore, aExtract, aConvert, aAlloc, aBox, aIndex, callA, builtinA, Fr.evs, opt, val, when, AM.run, outV, newA, ptr, force_eq, seen_heap, seen_next, seen_mark, seen_seen, agg_cells, int_cells, Fr.ev, Fr.put, onFr, gps, gpn, bltT, still, flat, List.append_nil, List.nil_append, List.cons_append, Nat.reduceEqDiff, ne_eq, not_false_eq_true, reduceCtorEq, Bool.and_true, Bool.true_and, Bool.and_false, Bool.false_and, Bool.not_true, Bool.not_false, Bool.and_self, h18, b_lss, hlt']; rfl
      repeat apply go_seq
      apply go_cond
      case hc => simp (disch := decide) only [opsLoop, evOper, wantedA, nth, aop, aPick, aBin, aIndexAddr, aFieldAddr, aLoad, aStore, aExtract, aConvert, aAlloc, aBox, aIndex, callA, builtinA, Fr.evs, opt, val, when, AM.run, outV, newA, ptr, force_eq, seen_heap, seen_next, seen_mark, seen_seen, agg_cells, int_cells, Fr.ev, Fr.put, onFr, gps, gpn, bltT, still, flat, List.append_nil, List.nil_append, List.cons_append, Nat.reduceEqDiff, ne_eq, not_false_eq_true, reduceCtorEq, Bool.and_true, Bool.true_and, Bool.and_false, Bool.false_and, Bool.not_true, Bool.not_false, Bool.and_self]; rfl
      case h2 => intro h; cases h
      intro _
      apply go_skip
      apply go_seq
      apply go_block
      repeat apply go_seq
      apply go_region
      case h => intro m; simp (maxSteps := 2000000) (disch := decide) only [opsLoop, evOper, wantedA, nth, aop, aPick, aBin, aIndexAddr, aFieldAddr, aLoad, aStore, aExtract, aConvert, aAlloc, aBox, aIndex, callA, builtinA, Fr.evs, opt, val, when, AM.run, outV, newA, ptr, force_eq, seen_heap, seen_next, seen_mark, seen_seen, agg_cells, int_cells, Fr.ev, Fr.put, onFr, gps, gpn, bltT, still, flat, List.append_nil, List.nil_append, List.cons_append, Nat.reduceEqDiff, ne_eq, not_false_eq_true, reduceCtorEq, Bool.and_true, Bool.true_and, Bool.and_false, Bool.false_and, Bool.not_true, Bool.not_false, Bool.and_self, h3, h18, sh, an, b_eqlU, bo]; rfl
      repeat apply go_seq
      apply go_cond
      case hc => simp (disch := decide) only [opsLoop, evOper, wantedA, nth, aop, aPick, aBin, aIndexAddr, aFieldAddr, aLoad, aStore, aExtract, aConvert, aAlloc, aBox, aIndex, callA, builtinA, Fr.evs, opt, val, when, AM.run, outV, newA, ptr, force_eq, seen_heap, seen_next, seen_mark, seen_seen, agg_cells, int_cells, Fr.ev, Fr.put, onFr, gps, gpn, bltT, still, flat, List.append_nil, List.nil_append, List.cons_append, Nat.reduceEqDiff, ne_eq, not_false_eq_true, reduceCtorEq, Bool.and_true, Bool.true_and, Bool.and_false, Bool.false_and, Bool.not_true, Bool.not_false, Bool.and_self]; rfl
      case h2 => intro h; cases h
      intro _
      repeat apply go_seq
      apply go_drawn
      case hs => rfl
      case h => intro m; simp (maxSteps := 2000000) (disch := decide) only [opsLoop, evOper, wantedA, nth, aop, aPick, aBin, aIndexAddr, aFieldAddr, aLoad, aStore, aExtract, aConvert, aAlloc, aBox, aIndex, callA, Fr.evs, opt, val, when, AM.run, outV, newA, ptr, force_eq, seen_heap, seen_next, seen_mark, seen_seen, agg_cells, int_cells, Fr.ev, Fr.put, onFr, gps, gpn, bltT, still, flat, List.append_nil, List.nil_append, List.cons_append, Nat.reduceEqDiff, ne_eq, not_false_eq_true, reduceCtorEq, Bool.and_true, Bool.true_and, Bool.and_false, Bool.false_and, Bool.not_true, Bool.not_false, Bool.and_self, drawnLoop, keep_none, clash_nil, clash_reads, created_self, lor_zero, lor_zero', h9, h17, h18, ad, i8, qu, re, sl, xr, tyB, dsB, tyU8, dsU8, szU8, hbl, mul1, add0, lx, bv_cells, show Nat.beq ([bv (y ^^^ UInt8.ofNat (2 ^ r))] : List Value).length 1 = true from rfl, st, clash_bef]; rfl
      generalize hs1 : S.mk _ _ _ _ _ = s1
      have f1 : s1.next = s.next := by rw [← hs1]
      have f1h : s1.heap = s.heap.put (n + 11) (some (.cells (wrCells c j [bv (y ^^^ UInt8.ofNat (2 ^ r))]) 128 e rm)) := by rw [← hs1]
      clear hs1
      repeat apply go_seq
      apply go_region
      case h => intro m; simp (maxSteps := 2000000) (disch := decide) only [opsLoop, evOper, wantedA, nth, aop, aPick, aBin, aIndexAddr, aFieldAddr, aLoad, aStore, aExtract, aConvert, aAlloc, aBox, aIndex, callA, builtinA, Fr.evs, opt, val, when, AM.run, outV, newA, ptr, force_eq, seen_heap, seen_next, seen_mark, seen_seen, agg_cells, int_cells, Fr.ev, Fr.put, onFr, gps, gpn, bltT, still, flat, List.append_nil, List.nil_append, List.cons_append, Nat.reduceEqDiff, ne_eq, not_false_eq_true, reduceCtorEq, Bool.and_true, Bool.true_and, Bool.and_false, Bool.false_and, Bool.not_true, Bool.not_false, Bool.and_self, h18, int1, hinc]; rfl
      have P1 : PB s1 (n + 11) (lp.set j (y ^^^ UInt8.ofNat (2 ^ r))) := by
        refine ⟨by have := M.p.lt; omega, ⟨_, e, rm, by rw [f1h]; exact hg_same hN11 _ _, ?_⟩, by rw [List.length_set]; exact M.p.len⟩
        rw [List.map_set]
        exact row_set g2 (by omega)
      have far : ∀ m, m ≠ n + 11 → s1.heap.get m = s.heap.get m := fun m hm => by rw [f1h]; exact hg_far hN11 hm _ _
      refine ⟨32 - (i + 1), by omega, i + 1, _, rfl, by omega, rfl, ⟨M.a.keep (by omega) (far _ (by omega)), M.b.keep (by omega) (far _ (by omega)), by rw [hfl]; exact P1, M.q.keep (by omega) (far _ (by show n + 22 ≠ n + 11; omega))⟩, by omega, ?_, ?_, ?_, ?_⟩
      · simp (disch := decide) only [gps, gpn, h3]
      · simp (disch := decide) only [gps, gpn, h9]
      · simp (disch := decide) only [gps, gpn, h17]
      · simp (disch := decide) only [gps, gpn]
    | false =>
      rw [hbit] at bo hfl
      rw [if_neg (by simp)] at hfl
      repeat apply go_seq
      apply go_region
      case h => intro m; simp (maxSteps := 2000000) (disch := decide) only [opsLoop, evOper, wantedA, nth, aop, aPick, aBin, aIndexAddr, aFieldAddr, aLoad, aStore, aExtract, aConvert, aAlloc, aBox, aIndex, callA, builtinA, Fr.evs, opt, val, when, AM.run, outV, newA, ptr, force_eq, seen_heap, seen_next, seen_mark, seen_seen, agg_cells, int_cells, Fr.ev, Fr.put, onFr, gps, gpn, bltT, still, flat, List.append_nil, List.nil_append, List.cons_append, Nat.reduceEqDiff, ne_eq, not_false_eq_true, reduceCtorEq, Bool.and_true, Bool.true_and, Bool.and_false, Bool.false_and, Bool.not_true, Bool.not_false, Bool.and_self, h18, b_lss, hlt']; rfl
      repeat apply go_seq
      apply go_cond
      case hc => simp (disch := decide) only [opsLoop, evOper, wantedA, nth, aop, aPick, aBin, aIndexAddr, aFieldAddr, aLoad, aStore, aExtract, aConvert, aAlloc, aBox, aIndex, callA, builtinA, Fr.evs, opt, val, when, AM.run, outV, newA, ptr, force_eq, seen_heap, seen_next, seen_mark, seen_seen, agg_cells, int_cells, Fr.ev, Fr.put, onFr, gps, gpn, bltT, still, flat, List.append_nil, List.nil_append, List.cons_append, Nat.reduceEqDiff, ne_eq, not_false_eq_true, reduceCtorEq, Bool.and_true, Bool.true_and, Bool.and_false, Bool.false_and, Bool.not_true, Bool.not_false, Bool.and_self]; rfl
      case h2 => intro h; cases h
      intro _
      apply go_skip
      apply go_seq
      apply go_block
      repeat apply go_seq
      apply go_region
      case h => intro m; simp (maxSteps := 2000000) (disch := decide) only [opsLoop, evOper, wantedA, nth, aop, aPick, aBin, aIndexAddr, aFieldAddr, aLoad, aStore, aExtract, aConvert, aAlloc, aBox, aIndex, callA, builtinA, Fr.evs, opt, val, when, AM.run, outV, newA, ptr, force_eq, seen_heap, seen_next, seen_mark, seen_seen, agg_cells, int_cells, Fr.ev, Fr.put, onFr, gps, gpn, bltT, still, flat, List.append_nil, List.nil_append, List.cons_append, Nat.reduceEqDiff, ne_eq, not_false_eq_true, reduceCtorEq, Bool.and_true, Bool.true_and, Bool.and_false, Bool.false_and, Bool.not_true, Bool.not_false, Bool.and_self, h3, h18, sh, an, b_eqlU, bo]; rfl
      repeat apply go_seq
      apply go_cond
      case hc => simp (disch := decide) only [opsLoop, evOper, wantedA, nth, aop, aPick, aBin, aIndexAddr, aFieldAddr, aLoad, aStore, aExtract, aConvert, aAlloc, aBox, aIndex, callA, builtinA, Fr.evs, opt, val, when, AM.run, outV, newA, ptr, force_eq, seen_heap, seen_next, seen_mark, seen_seen, agg_cells, int_cells, Fr.ev, Fr.put, onFr, gps, gpn, bltT, still, flat, List.append_nil, List.nil_append, List.cons_append, Nat.reduceEqDiff, ne_eq, not_false_eq_true, reduceCtorEq, Bool.and_true, Bool.true_and, Bool.and_false, Bool.false_and, Bool.not_true, Bool.not_false, Bool.and_self]; rfl
      case h1 => intro h; cases h
      intro _
      apply go_skip
      repeat apply go_seq
      apply go_region
      case h => intro m; simp (maxSteps := 2000000) (disch := decide) only [opsLoop, evOper, wantedA, nth, aop, aPick, aBin, aIndexAddr, aFieldAddr, aLoad, aStore, aExtract, aConvert, aAlloc, aBox, aIndex, callA, builtinA, Fr.evs, opt, val, when, AM.run, outV, newA, ptr, force_eq, seen_heap, seen_next, seen_mark, seen_seen, agg_cells, int_cells, Fr.ev, Fr.put, onFr, gps, gpn, bltT, still, flat, List.append_nil, List.nil_append, List.cons_append, Nat.reduceEqDiff, ne_eq, not_false_eq_true, reduceCtorEq, Bool.and_true, Bool.true_and, Bool.and_false, Bool.false_and, Bool.not_true, Bool.not_false, Bool.and_self, h18, int1, hinc]; rfl
      refine ⟨32 - (i + 1), by omega, i + 1, _, rfl, by omega, rfl, by rw [hfl]; exact M, hn, ?_, ?_, ?_, ?_⟩
      · simp (disch := decide) only [gps, gpn, h3]
      · simp (disch := decide) only [gps, gpn, h9]
      · simp (disch := decide) only [gps, gpn, h17]
      · simp (disch := decide) only [gps, gpn]
  · obtain rfl : i = 32 := by omega
    have hlt' : ltI (Int.ofNat 32) 32 = false := rfl
    repeat apply go_seq
    apply go_region
    case h => intro m; simp (maxSteps := 2000000) (disch := decide) only [opsLoop, evOper, wantedA, nth, aop, aPick, aBin, aIndexAddr, aFieldAddr, aLoad, aStore, aExtract, aConvert, aAlloc, aBox, aIndex, callA, builtinA, Fr.evs, opt, val, when, AM.run, outV, newA, ptr, force_eq, seen_heap, seen_next, seen_mark, seen_seen, agg_cells, int_cells, Fr.ev, Fr.put, onFr, gps, gpn, bltT, still, flat, List.append_nil, List.nil_append, List.cons_append, Nat.reduceEqDiff, ne_eq, not_false_eq_true, reduceCtorEq, Bool.and_true, Bool.true_and, Bool.and_false, Bool.false_and, Bool.not_true, Bool.not_false, Bool.and_self, h18, b_lss, hlt']; rfl
    repeat apply go_seq
    apply go_cond
    case hc => simp (disch := decide) only [opsLoop, evOper, wantedA, nth, aop, aPick, aBin, aIndexAddr, aFieldAddr, aLoad, aStore, aExtract, aConvert, aAlloc, aBox, aIndex, callA, builtinA, Fr.evs, opt, val, when, AM.run, outV, newA, ptr, force_eq, seen_heap, seen_next, seen_mark, seen_seen, agg_cells, int_cells, Fr.ev, Fr.put, onFr, gps, gpn, bltT, still, flat, List.append_nil, List.nil_append, List.cons_append, Nat.reduceEqDiff, ne_eq, not_false_eq_true, reduceCtorEq, Bool.and_true, Bool.true_and, Bool.and_false, Bool.false_and, Bool.not_true, Bool.not_false, Bool.and_self]; rfl
    case h1 => intro h; cases h
    intro _
    apply go_exit
    refine ⟨rfl, _, rfl, M, hn, ?_, ?_⟩
    · simp (disch := decide) only [gps, gpn, h3]
    · simp (disch := decide) only [gps, gpn, h9]
end Go.Proofs.YtioieffmihdheaaDoor.lf
end
end

section
/- Leaves: the law on bursts. -/
noncomputable section
namespace Go.Proofs.YtioieffmihdheaaDoor.lf
open AE
set_option linter.unusedSimpArgs false
set_option linter.unusedVariables false
set_option maxRecDepth 10000

theorem same_run {s : S} {a a2 : Addr} {l l2 : List UInt8} {n c c2 : Nat} (hb : Bs s a l) (hb2 : Bs s a2 l2) (hl : l.length = n) (hl2 : l2.length = n) (hn : n ≤ 1000000) : (sameA [.slice (some a) n c, .slice (some a2) n c2]).run s = some (.bool (eqBytes l l2), (s.seen a.block).seen a2.block) := by
  subst hl
  simp only [sameA, when, ble_iff.2 hn, beq_iff.2 (rfl : l.length = l.length), rdA]
  rw [loadA_run hb, bytesV_map]
  simp only [opt]
  show (loadA a2 l.length fun cs => opt (bytesV cs) fun l2 => AM.pure (Value.bool (eqBytes l l2))).run (s.seen a.block) = _
  have e := loadA_run (s := s.seen a.block) (hb2.of rfl rfl) (fun cs => opt (bytesV cs) fun l2 => AM.pure (Value.bool (eqBytes l l2)))
  rw [hl2] at e
  rw [e, bytesV_map]
  rfl
theorem same_iff {dl dm : LeafD} (hl : dl.load.length = 116) (hm : dm.load.length = 116) (hRl : rightL dl = true) (hRm : rightL dm = true) : (eqBytes (putL dl) (putL dm) == decide (dl = dm)) = true := by
  rw [eqBytes_iff]
  have : decide (putL dl = putL dm) = decide (dl = dm) := decide_eq_decide.2 ⟨fun e => by rw [← say_put dl hl hRl, e, say_put dm hm hRm], fun e => by rw [e]⟩
  rw [this]
  exact beq_self _
theorem get_len {l : List UInt8} (h : l.length = 128) : (getL l).load.length = 116 := by
  unfold getL
  split
  · show (l.take 116).length = 116; rw [List.length_take]; omega
  · exact zero_len
theorem putN_le (d : LeafD) : putN d ≤ 11 := by unfold putN; split <;> omega

set_option maxHeartbeats 2000000 in
/-- the end: the block with the burst -/
theorem bu_end (dl dm : LeafD) (hRl : rightL dl = true) (x b n : Nat) (hb : b ≤ 992) (hx : x < 4294967296) (s : S) (t : Tr Value) (M : BuAt s n dl dm (flipL (putL dl) x b 32)) (hn : s.next = n + 49) (hN : ∀ i, i < 200 → Nat.ble (n + i) lastName = true)
    (h3 : t.get 3 = some (.int .u32 (.ofNat x))) (h9 : t.get 9 = some (.slice (some ⟨n + 11, 0, none⟩) 128 128)) :
    GoC E (sumsOf sigU) cdU15 ⟨5, t, 137, [], none⟩ s (Ret E 5 fiU Yes) := by
  simp only [cdU15, cdU, Tryd.f5, bodyOf, sub]
  have hlen := M.a.len
  obtain ⟨hgo, _⟩ := get_put dl hlen hRl
  have hfa := flip_all (putL dl) x b (putL_len dl hlen) hb hx hgo
  have hpl := M.p.len
  have Mp := M.p.bs
  generalize flipL (putL dl) x b 32 = lp at *
  have hzb : Nat.ble zeroL.cells.length lastName = true := by rw [zeroL.len zero_len]; rfl
  have hzl : Nat.beq zeroL.cells.length 121 = true := by rw [zeroL.len zero_len]; rfl
  have hgl := get_len hpl
  have hdl : Nat.beq (getL lp).cells.length 121 = true := by rw [(getL lp).len hgl]; rfl
  have hpn := putN_le (sayL lp)
  obtain ⟨s1, gr, q1, q2⟩ := getA_run (cap := 128) Mp hpl (fun i hi => by
    rw [hn, Nat.add_assoc]
    exact hN (49 + i) (by omega))
  have hN38 : Nat.ble s1.next lastName = true := by rw [q1, hn, Nat.add_assoc]; exact hN (49 + (3 + putN (sayL lp))) (by omega)
  obtain ⟨c1, x1, rm1, st1, row1⟩ := newVar s1 hN38 hgl
  repeat apply go_seq
  apply go_region
  case h => intro m; simp (maxSteps := 2000000) (disch := decide) only [opsLoop, evOper, wantedA, nth, aop, aPick, aBin, aIndexAddr, aFieldAddr, aLoad, aStore, aExtract, aConvert, aAlloc, aBox, aIndex, callA, builtinA, Fr.evs, opt, val, when, AM.run, outV, newA, ptr, force_eq, seen_heap, seen_next, seen_mark, seen_seen, agg_cells, int_cells, Fr.ev, Fr.put, onFr, gps, gpn, bltT, still, flat, List.append_nil, List.nil_append, List.cons_append, Nat.reduceEqDiff, ne_eq, not_false_eq_true, reduceCtorEq, Bool.and_true, Bool.true_and, Bool.and_false, Bool.false_and, Bool.not_true, Bool.not_false, Bool.and_self, h9, tgG, evT_told suG, gr, dropL, tyLf, zeLf, szLf, hzb, hN38, hdl, st1]; rfl
  generalize hs2 : S.mk _ _ _ _ _ = s2
  have f2 : s2.next = s1.next + 1 := by rw [← hs2]
  have f2c : s2.heap.get s1.next = some (.cells c1 121 x1 rm1) := by rw [← hs2]; exact hg_same hN38 _ _
  clear hs2
  have Y2 : LfAt s2 s1.next (getL lp) := ⟨by omega, ⟨c1, x1, rm1, f2c, row1⟩, hgl⟩
  have ly := Y2.load
  have hx1 : ∀ s, (constA (.bool true) []).run s = some (.bool true, s) := fun s => rfl
  by_cases e : x = 0
  · subst e
    have hok : getOK lp = true := by rw [hfa]; rfl
    simp only [hok]
    repeat apply go_seq
    apply go_region
    case h => intro m; simp (maxSteps := 2000000) (disch := decide) only [opsLoop, evOper, wantedA, nth, aop, aPick, aBin, aIndexAddr, aFieldAddr, aLoad, aStore, aExtract, aConvert, aAlloc, aBox, aIndex, callA, builtinA, Fr.evs, opt, val, when, AM.run, outV, newA, ptr, force_eq, seen_heap, seen_next, seen_mark, seen_seen, agg_cells, int_cells, Fr.ev, Fr.put, onFr, gps, gpn, bltT, still, flat, List.append_nil, List.nil_append, List.cons_append, Nat.reduceEqDiff, ne_eq, not_false_eq_true, reduceCtorEq, Bool.and_true, Bool.true_and, Bool.and_false, Bool.false_and, Bool.not_true, Bool.not_false, Bool.and_self, h3, b_eqlU, show eqI (Int.ofNat 0) 0 = true from rfl, eqB_tt, beq_self, tgX, evT_told suX, hx1]; rfl
    repeat apply go_seq
    apply go_ret
    apply ret_intro rfl rfl
    case run => simp (disch := decide) only [resultsM, resultsA, resU, opsLoop, evOper, wantedA, nth, aop, aPick, aBin, aIndexAddr, aFieldAddr, aLoad, aStore, aExtract, aConvert, aAlloc, aBox, aIndex, callA, builtinA, Fr.evs, opt, val, when, AM.run, outV, newA, ptr, force_eq, seen_heap, seen_next, seen_mark, seen_seen, agg_cells, int_cells, Fr.ev, Fr.put, onFr, gps, gpn, bltT, still, flat, List.append_nil, List.nil_append, List.cons_append, Nat.reduceEqDiff, ne_eq, not_false_eq_true, reduceCtorEq, Bool.and_true, Bool.true_and, Bool.and_false, Bool.false_and, Bool.not_true, Bool.not_false, Bool.and_self]; rfl
    rfl
  · have hok : getOK lp = false := by rw [hfa]; exact decide_eq_false e
    have hz : getL lp = zeroL := by unfold getL; rw [hok]; rfl
    have hne : eqI (Int.ofNat x) 0 = false := eqI_f (b := 0) e
    have he := eqlLf zeroL zeroL zero_len zero_len
    rw [decide_eq_true rfl] at he
    rw [hz] at ly
    simp only [hok]
    repeat apply go_seq
    apply go_region
    case h => intro m; simp (maxSteps := 2000000) (disch := decide) only [opsLoop, evOper, wantedA, nth, aop, aPick, aBin, aIndexAddr, aFieldAddr, aLoad, aStore, aExtract, aConvert, aAlloc, aBox, aIndex, callA, builtinA, Fr.evs, opt, val, when, AM.run, outV, newA, ptr, force_eq, seen_heap, seen_next, seen_mark, seen_seen, agg_cells, int_cells, Fr.ev, Fr.put, onFr, gps, gpn, bltT, still, flat, List.append_nil, List.nil_append, List.cons_append, Nat.reduceEqDiff, ne_eq, not_false_eq_true, reduceCtorEq, Bool.and_true, Bool.true_and, Bool.and_false, Bool.false_and, Bool.not_true, Bool.not_false, Bool.and_self, h3, b_eqlU, hne, eqB_tt, beq_self, tyLf, ly, aBuild, evParts, zeLf, dsLf, places_eq, fillA, szLf, hzl, he, tgX, evT_told suX, hx1]; rfl
    repeat apply go_seq
    apply go_ret
    apply ret_intro rfl rfl
    case run => simp (disch := decide) only [resultsM, resultsA, resU, opsLoop, evOper, wantedA, nth, aop, aPick, aBin, aIndexAddr, aFieldAddr, aLoad, aStore, aExtract, aConvert, aAlloc, aBox, aIndex, callA, builtinA, Fr.evs, opt, val, when, AM.run, outV, newA, ptr, force_eq, seen_heap, seen_next, seen_mark, seen_seen, agg_cells, int_cells, Fr.ev, Fr.put, onFr, gps, gpn, bltT, still, flat, List.append_nil, List.nil_append, List.cons_append, Nat.reduceEqDiff, ne_eq, not_false_eq_true, reduceCtorEq, Bool.and_true, Bool.true_and, Bool.and_false, Bool.false_and, Bool.not_true, Bool.not_false, Bool.and_self]; rfl
    rfl

set_option maxHeartbeats 2000000 in
/-- the middle -/
theorem bu_mid (dl dm : LeafD) (hRl : rightL dl = true) (hRm : rightL dm = true) (a : Int) (x n : Nat) (hx : x < 4294967296) (s : S) (t : Tr Value) (M : BuAt s n dl dm (putL dl)) (hn : s.next = n + 49) (Y : LfAt s (n + 38) dl) (hN : ∀ i, i < 200 → Nat.ble (n + i) lastName = true)
    (h2 : t.get 2 = some (.int .i64 a)) (h3 : t.get 3 = some (.int .u32 (.ofNat x))) (h4 : t.get 4 = some (.pointer (some ⟨n, 0, none⟩))) (h5 : t.get 5 = some (.pointer (some ⟨n + 1, 0, none⟩)))
    (h9 : t.get 9 = some (.slice (some ⟨n + 11, 0, none⟩) 128 128)) (h10 : t.get 10 = some (.slice (some ⟨n + 22, 0, none⟩) 128 128))
    (h11 : t.get 11 = some (.pointer (some ⟨n + 38, 0, none⟩))) (h12 : t.get 12 = some (.bool true)) (h14 : t.get 14 = some (.bool false)) (h16 : t.get 16 = some (.bool false)) :
    GoC E (sumsOf sigU) (sub [1,1,1,1,1,1] cdU) ⟨5, t, 137, [], none⟩ s (Ret E 5 fiU Yes) := by
  have hcode : sub [1,1,1,1,1,1] cdU = .seq (sub [1,1,1,1,1,1,0] cdU) (.seq (sub [1,1,1,1,1,1,1,0] cdU) (.seq (.seq (sub [1,1,1,1,1,1,1,1,0,0] cdU) (.block 0 (.loop cdUl))) cdU15)) := rfl
  rw [hcode]
  simp only [cdU, Tryd.f5, bodyOf, sub]
  have hll := M.a.len
  have hlm := M.b.len
  have A0 : LfAt ⟨s.heap, s.next, s.next, 0, 0⟩ n dl := ⟨M.a.lt, M.a.cell, M.a.len⟩
  have B0 : LfAt ⟨s.heap, s.next, s.next, 0, 0⟩ (n + 1) dm := ⟨M.b.lt, M.b.cell, M.b.len⟩
  have Y0 : LfAt ⟨s.heap, s.next, s.next, 0, 0⟩ (n + 38) dl := ⟨Y.lt, Y.cell, Y.len⟩
  have la := A0.load
  have lb := B0.load
  have ly := Y0.load
  have sm := same_run (s := ⟨s.heap, s.next, s.next, 0, 0⟩) (c := 128) (c2 := 128) (M.p.bs.of rfl rfl) (M.q.of rfl rfl) (putL_len dl hll) (putL_len dm hlm) (by omega)
  simp only [S.seen] at la lb ly sm
  have hne := eqLeaf dl hll 24 rfl
  have heq := eqlLf dl dm hll hlm
  have hsi := same_iff hll hlm hRl hRm
  repeat apply go_seq
  apply go_drawn
  case hs => rfl
  case h => intro m; simp (maxSteps := 2000000) (disch := decide) only [opsLoop, evOper, wantedA, nth, aop, aPick, aBin, aIndexAddr, aFieldAddr, aLoad, aStore, aExtract, aConvert, aAlloc, aBox, aIndex, callA, Fr.evs, opt, val, when, AM.run, outV, newA, ptr, force_eq, seen_heap, seen_next, seen_mark, seen_seen, agg_cells, int_cells, Fr.ev, Fr.put, onFr, gps, gpn, bltT, still, flat, List.append_nil, List.nil_append, List.cons_append, Nat.reduceEqDiff, ne_eq, not_false_eq_true, reduceCtorEq, Bool.and_true, Bool.true_and, Bool.and_false, Bool.false_and, Bool.not_true, Bool.not_false, Bool.and_self, drawnLoop, keep_none, clash_nil, clash_reads, created_self, lor_zero, lor_zero', h4, h5, h9, h10, h11, h12, h14, h16, u_not, tyLf, la, lb, ly, hne, heq, tgSm, evT_told suS, sm, neB_tt, hsi]; rfl
  repeat apply go_seq
  apply go_cond
  case hc => simp (disch := decide) only [opsLoop, evOper, wantedA, nth, aop, aPick, aBin, aIndexAddr, aFieldAddr, aLoad, aStore, aExtract, aConvert, aAlloc, aBox, aIndex, callA, builtinA, Fr.evs, opt, val, when, AM.run, outV, newA, ptr, force_eq, seen_heap, seen_next, seen_mark, seen_seen, agg_cells, int_cells, Fr.ev, Fr.put, onFr, gps, gpn, bltT, still, flat, List.append_nil, List.nil_append, List.cons_append, Nat.reduceEqDiff, ne_eq, not_false_eq_true, reduceCtorEq, Bool.and_true, Bool.true_and, Bool.and_false, Bool.false_and, Bool.not_true, Bool.not_false, Bool.and_self]; rfl
  case h1 => intro h; cases h
  intro _
  apply go_skip
  generalize hs1 : S.mk _ _ _ _ _ = s1
  have f1 : s1.next = n + 49 := by rw [← hs1]; exact hn
  have f1h : s1.heap = s.heap := by rw [← hs1]
  clear hs1
  have M1 : BuAt s1 n dl dm (putL dl) := M.keep (by omega) (fun m _ => by rw [f1h])
  have i992 : (992 : Int) = Int.ofNat 992 := rfl
  have wb := wn_le a 992
  have ww : ∀ s, (withinBA [.int .i64 a, .int .i64 (.ofNat 0), .int .i64 (.ofNat 992)]).run s = some (.int .i64 (.ofNat (wn a 992)), s) := fun s => withinBA_run a 992 (by omega) s
  generalize wn a 992 = b at wb ww
  repeat apply go_seq
  apply go_region
  case h => intro m; simp (maxSteps := 2000000) (disch := decide) only [opsLoop, evOper, wantedA, nth, aop, aPick, aBin, aIndexAddr, aFieldAddr, aLoad, aStore, aExtract, aConvert, aAlloc, aBox, aIndex, callA, builtinA, Fr.evs, opt, val, when, AM.run, outV, newA, ptr, force_eq, seen_heap, seen_next, seen_mark, seen_seen, agg_cells, int_cells, Fr.ev, Fr.put, onFr, gps, gpn, bltT, still, flat, List.append_nil, List.nil_append, List.cons_append, Nat.reduceEqDiff, ne_eq, not_false_eq_true, reduceCtorEq, Bool.and_true, Bool.true_and, Bool.and_false, Bool.false_and, Bool.not_true, Bool.not_false, Bool.and_self, h2, tgWB, evT_told suWB, int0, i992, ww]; rfl
  repeat apply go_seq
  apply go_region
  case h => intro m; simp (maxSteps := 2000000) (disch := decide) only [opsLoop, evOper, wantedA, nth, aop, aPick, aBin, aIndexAddr, aFieldAddr, aLoad, aStore, aExtract, aConvert, aAlloc, aBox, aIndex, callA, builtinA, Fr.evs, opt, val, when, AM.run, outV, newA, ptr, force_eq, seen_heap, seen_next, seen_mark, seen_seen, agg_cells, int_cells, Fr.ev, Fr.put, onFr, gps, gpn, bltT, still, flat, List.append_nil, List.nil_append, List.cons_append, Nat.reduceEqDiff, ne_eq, not_false_eq_true, reduceCtorEq, Bool.and_true, Bool.true_and, Bool.and_false, Bool.false_and, Bool.not_true, Bool.not_false, Bool.and_self]; rfl
  apply go_block
  refine (go_loop_inv (body := cdUl) (InvU n b x dl dm) (fun k fr s1 hI => bu_round n b x dl dm wb hx hN k fr s1 hI) (32 - 0) _ _ ⟨0, _, rfl, by omega, rfl, M1, f1, ?_, ?_, ?_, ?_⟩).mono ?_
  · simp (disch := decide) only [gps, gpn, h3]
  · simp (disch := decide) only [gps, gpn, h9]
  · simp (disch := decide) only [gps, gpn]
  · simp (disch := decide) only [gps, gpn, int0]
  rintro ex fr s2 ⟨rfl, t2, rfl, M2, f2, k3, k9⟩
  simp only [Out_, if_true]
  exact bu_end dl dm hRl x b n wb hx s2 t2 M2 f2 hN k3 k9

set_option maxHeartbeats 2000000 in
theorem burst_go (dl dm : LeafD) (hl : dl.load.length = 116) (hm : dm.load.length = 116) (a : Int) (x : Nat) (hx : x < 4294967296) (s : S) (hN : ∀ i, i < 200 → Nat.ble (s.next + i) lastName = true) :
    ∃ v s', v = Value.bool true ∧ ∃ n0, ∀ n, n0 ≤ n → evNext (evT E (sumsOf sigU) n) E (.enter 5 [.agg ⟨dl.cells⟩, .agg ⟨dm.cells⟩, .int .i64 a, .int .u32 (.ofNat x)]) s = some (.val v, s') := by
  refine go_enter (Q := Yes) (fi := fiU) (c := cdU) (by kernel_rfl) (by kernel_rfl) 137 rfl rfl ?_
  have h0 : (Tr.ofList [Value.agg ⟨dl.cells⟩, .agg ⟨dm.cells⟩, .int .i64 a, .int .u32 (.ofNat x)]).get 0 = some (.agg ⟨dl.cells⟩) := rfl
  have h1 : (Tr.ofList [Value.agg ⟨dl.cells⟩, .agg ⟨dm.cells⟩, .int .i64 a, .int .u32 (.ofNat x)]).get 1 = some (.agg ⟨dm.cells⟩) := rfl
  have h2 : (Tr.ofList [Value.agg ⟨dl.cells⟩, .agg ⟨dm.cells⟩, .int .i64 a, .int .u32 (.ofNat x)]).get 2 = some (.int .i64 a) := rfl
  have h3 : (Tr.ofList [Value.agg ⟨dl.cells⟩, .agg ⟨dm.cells⟩, .int .i64 a, .int .u32 (.ofNat x)]).get 3 = some (.int .u32 (.ofNat x)) := rfl
  generalize Tr.ofList [Value.agg ⟨dl.cells⟩, .agg ⟨dm.cells⟩, .int .i64 a, .int .u32 (.ofNat x)] = t at *
  refine bu_begin dl dm hl hm a x s hN t Yes h0 h1 h2 h3 ?_
  clear h0 h1 h2 h3 t
  intro t s1 e1 A B P Pq h2 h3 h4 h5 h9 h10
  have hp1 := putN_le dl
  have hp2 := putN_le dm
  cases hR : (rightL dl && rightL dm) with
  | false =>
    refine bu_not dl dm hR s.next _ _ s1 t A B (fun i hi => ?_) h4 h5 h9 h10
    rw [e1, Nat.add_assoc, Nat.add_assoc, Nat.add_assoc]
    exact hN _ (by omega)
  | true =>
    rw [Bool.and_eq_true] at hR
    obtain ⟨hRl, hRm⟩ := hR
    have n1 : putN dl = 11 := by unfold putN; rw [if_pos hRl]
    have n2 : putN dm = 11 := by unfold putN; rw [if_pos hRm]
    have v1 : ∀ k, putV dl k = .slice (some ⟨k + 9, 0, none⟩) 128 128 := fun k => by unfold putV; rw [if_pos hRl]
    have v2 : ∀ k, putV dm k = .slice (some ⟨k + 9, 0, none⟩) 128 128 := fun k => by unfold putV; rw [if_pos hRm]
    rw [v1] at h9
    rw [v2, n1] at h10
    obtain ⟨p1, p2⟩ := P hRl
    obtain ⟨p3, p4⟩ := Pq hRm
    rw [n1] at p3 p4
    have M : BuAt s1 s.next dl dm (putL dl) := ⟨A, B, ⟨p1, ⟨_, _, _, by rw [putL_len dl hl] at p2; exact p2, row_ofList _ (by rw [List.length_map, putL_len dl hl]; unfold Tr.wide; omega)⟩, putL_len dl hl⟩, bs_new p3 p4 (by rw [putL_len dm hm]; omega)⟩
    have hcode : cdU2 = .seq (sub [1,1,0] cdU) cdU4 := rfl
    rw [hcode]
    simp only [cdU, Tryd.f5, bodyOf, sub]
    have hz : eqI (Int.ofNat 128) (Int.ofNat 0) = false := rfl
    repeat apply go_seq
    apply go_region
    case h => intro m; simp (maxSteps := 2000000) (disch := decide) only [opsLoop, evOper, wantedA, nth, aop, aPick, aBin, aIndexAddr, aFieldAddr, aLoad, aStore, aExtract, aConvert, aAlloc, aBox, aIndex, callA, builtinA, Fr.evs, opt, val, when, AM.run, outV, newA, ptr, force_eq, seen_heap, seen_next, seen_mark, seen_seen, agg_cells, int_cells, Fr.ev, Fr.put, onFr, gps, gpn, bltT, still, flat, List.append_nil, List.nil_append, List.cons_append, Nat.reduceEqDiff, ne_eq, not_false_eq_true, reduceCtorEq, Bool.and_true, Bool.true_and, Bool.and_false, Bool.false_and, Bool.not_true, Bool.not_false, Bool.and_self, h9, h10, tyB, dsB, b_eql, int0, hz]; rfl
    repeat apply go_seq
    apply go_cond
    case hc => simp (disch := decide) only [opsLoop, evOper, wantedA, nth, aop, aPick, aBin, aIndexAddr, aFieldAddr, aLoad, aStore, aExtract, aConvert, aAlloc, aBox, aIndex, callA, builtinA, Fr.evs, opt, val, when, AM.run, outV, newA, ptr, force_eq, seen_heap, seen_next, seen_mark, seen_seen, agg_cells, int_cells, Fr.ev, Fr.put, onFr, gps, gpn, bltT, still, flat, List.append_nil, List.nil_append, List.cons_append, Nat.reduceEqDiff, ne_eq, not_false_eq_true, reduceCtorEq, Bool.and_true, Bool.true_and, Bool.and_false, Bool.false_and, Bool.not_true, Bool.not_false, Bool.and_self]; rfl
    case h1 => intro h; cases h
    intro _
    apply go_skip
    refine bu_gets dl dm hRl hRm a x s.next s1 _ M (by omega) hN ?_ ?_ ?_ ?_ ?_ ?_ Yes ?_
    · simp (disch := decide) only [gps, gpn, h2]
    · simp (disch := decide) only [gps, gpn, h3]
    · simp (disch := decide) only [gps, gpn, h4]
    · simp (disch := decide) only [gps, gpn, h5]
    · simp (disch := decide) only [gps, gpn, h9]
    · simp (disch := decide) only [gps, gpn, h10]
    · intro t s2 M2 f2 Y2 k2 k3 k4 k5 k9 k10 k11 k12 k14 k16
      exact bu_mid dl dm hRl hRm a x s.next hx s2 t M2 f2 Y2 hN k2 k3 k4 k5 k9 k10 k11 k12 k14 k16

theorem bytes_flat : ∀ l : List UInt8, allFlat (l.map bv) = true
  | [] => rfl
  | x :: l => by simp only [List.map_cons, allFlat, bv, flat, bytes_flat l]
theorem leaf_flat (d : LeafD) : allFlat d.cells = true := by
  unfold LeafD.cells
  simp only [List.cons_append, List.nil_append, allFlat, flat, bytes_flat]
/-- **the law on bursts**, of all leaves -/
theorem _root_.Go.Proofs.YtioieffmihdheaaDoor.leafBurst_any (dl dm : LeafD) (hl : dl.load.length = 116) (hm : dm.load.length = 116) (a : Int) (x : Nat) (hx : x < 4294967296) (w0 : World) :
    Calls Tryd.prog 5 #[.agg ⟨dl.cells⟩, .agg ⟨dm.cells⟩, .int .i64 a, .int .u32 (.ofNat x)] w0 fun e w' => e = .returned (.bool true) ∧ Go.RowKit.Below w0.heap.size w0 w' := by
  obtain ⟨v, s', rfl, n0, h⟩ := burst_go dl dm hl hm a x hx s0 (fun i hi => ble_iff.2 (by show 0 + i ≤ lastName; unfold lastName; omega))
  exact callsT_true hP hmix tolds_U (h n0 (Nat.le_refl _)) (.cons (.agg (allFlat_LR (leaf_flat dl))) (.cons (.agg (allFlat_LR (leaf_flat dm))) (.cons (.flat rfl) (.cons (.flat rfl) .nil)))) w0
end Go.Proofs.YtioieffmihdheaaDoor.lf
end
end

section
/- Leaves: a leaf that is handed in, opened: its numbers and its bytes. -/
noncomputable section
namespace Go.Proofs.YtioieffmihdheaaDoor.lf
open AE
set_option linter.unusedSimpArgs false
set_option linter.unusedVariables false
set_option maxRecDepth 10000

theorem mapM_all {α β : Type} {f : α → Option β} : ∀ (l : List α) (xs : List β), l.mapM f = some xs → ∀ a ∈ l, ∃ y, f a = some y
  | [], xs, _, a, ha => by simp at ha
  | b :: l, xs, h, a, ha => by
    rw [List.mapM_cons] at h
    simp only [bind, Option.bind_eq_some_iff, pure, Option.some.injEq] at h
    obtain ⟨y, hy, ys, hys, _⟩ := h
    rcases List.mem_cons.1 ha with rfl | ha
    · exact ⟨y, hy⟩
    · exact mapM_all l ys hys a ha
theorem undLf : Tryd.prog.underlying 24 = some (.struct fsLf) := by kernel_rfl
theorem undA : Tryd.prog.underlying 22 = some (.array 116 5) := by kernel_rfl
theorem undI : Tryd.prog.underlying 3 = some (.int .i64) := by kernel_rfl
theorem undU8 : Tryd.prog.underlying 5 = some (.int .u8) := by kernel_rfl
theorem celLf : Tryd.prog.cellsOf 24 = 121 := by kernel_rfl
theorem celA : Tryd.prog.cellsOf 22 = 116 := by kernel_rfl
theorem celI : Tryd.prog.cellsOf 3 = 1 := by kernel_rfl
theorem celU8 : Tryd.prog.cellsOf 5 = 1 := by kernel_rfl
def byteOf : Value → UInt8
  | .int _ (.ofNat m) => UInt8.ofNat m
  | _ => 0
theorem wf_u8 {n : Int} (h : (Lit.int .u8 n).wf = true) : ∃ x : Nat, n = .ofNat x ∧ x < 256 := by
  have h2 : 0 ≤ n ∧ n ≤ 255 := by simpa [Lit.wf, IntKind.min, IntKind.max, IntKind.signed, IntKind.bits] using h
  exact ⟨n.toNat, (Int.toNat_of_nonneg h2.1).symm, by omega⟩
theorem wf_u32 {n : Int} (h : (Lit.int .u32 n).wf = true) : ∃ x : Nat, n = .ofNat x ∧ x < 4294967296 := by
  have h2 : 0 ≤ n ∧ n ≤ 4294967295 := by simpa [Lit.wf, IntKind.min, IntKind.max, IntKind.signed, IntKind.bits] using h
  exact ⟨n.toNat, (Int.toNat_of_nonneg h2.1).symm, by omega⟩
section
variable {H : Type} {enc : TypeId × Value → H} {w : World} {base : Nat} {sp : Nat → Bool} {held : Bool}
theorem one_int {fuel : Nat} {ls : List Value} {i : Nat} {y : DataW H × List MemPlace} {t : TypeId} {k : IntKind} (hu : Tryd.prog.underlying t = some (.int k)) (h : DataW.trod enc Tryd.prog w base sp held fuel t ((ls.drop i).take 1) = some y) :
    ∃ n, ls[i]? = some (.int k n) ∧ (Lit.int k n).wf = true := by
  obtain ⟨n, h1, _, h2⟩ := DataW.trod_int hu h
  refine ⟨n, ?_, h2⟩
  have := congrArg (·[0]?) h1
  simpa [List.getElem?_take, List.getElem?_drop] using this
theorem open_bytes {fuel : Nat} {ls : List Value} {y : DataW H × List MemPlace} (h : DataW.trod enc Tryd.prog w base sp held fuel 22 ls = some y) : ls = (ls.map byteOf).map bv ∧ ls.length = 116 := by
  cases fuel with
  | zero => simp [DataW.trod] at h
  | succ n =>
    rw [DataW.trod_step] at h
    unfold DataW.trodStep at h
    simp only [undA, celA, celU8, Nat.mul_one] at h
    split at h
    · rename_i hl
      simp only [Option.map_eq_some_iff] at h
      obtain ⟨xs, hx, _⟩ := h
      refine ⟨?_, hl⟩
      apply List.ext_getElem?
      intro i
      by_cases hi : i < 116
      · obtain ⟨y, hy⟩ := mapM_all _ _ hx i (List.mem_range.2 hi)
        obtain ⟨m, h1, h2⟩ := one_int undU8 hy
        rw [List.getElem?_map, List.getElem?_map, h1]
        obtain ⟨x, rfl, hx⟩ := wf_u8 h2
        show some (Value.int .u8 (.ofNat x)) = some (Value.int .u8 (.ofNat (UInt8.ofNat x).toNat))
        rw [UInt8.toNat_ofNat_of_lt' hx]
      · rw [List.getElem?_eq_none (by omega), List.getElem?_eq_none (by simp; omega)]
    · cases h
theorem open_leaf {r : Reach} {b0 : Nat} {v : Value} {d : DataW H} {ps : List MemPlace} (hval : Value.okWide Tryd.prog w r b0 24 v) (hd : DataW.Trod enc Tryd.prog w base sp held 24 v d ps) :
    ∃ l : LeafD, v = .agg ⟨l.cells⟩ ∧ l.load.length = 116 := by
  simp only [Value.okWide, undLf] at hval
  obtain ⟨⟨cs⟩, rfl, hsz, _⟩ := hval
  obtain ⟨fuel, hf⟩ := hd
  cases fuel with
  | zero => simp [DataW.trod] at hf
  | succ n =>
    rw [DataW.trod_step] at hf
    unfold DataW.trodStep at hf
    simp only [undLf, Value.cells, celLf] at hf
    split at hf
    · rename_i hl
      simp only [Option.map_eq_some_iff, fs_list] at hf
      obtain ⟨xs, hx, _⟩ := hf
      obtain ⟨y0, h0⟩ := mapM_all _ _ hx (fd 0) (by simp)
      obtain ⟨y1, h1⟩ := mapM_all _ _ hx (fd 1) (by simp)
      obtain ⟨y2, h2⟩ := mapM_all _ _ hx (fd 2) (by simp)
      obtain ⟨y3, h3⟩ := mapM_all _ _ hx (fd 3) (by simp)
      obtain ⟨y4, h4⟩ := mapM_all _ _ hx (fd 4) (by simp)
      obtain ⟨y5, h5⟩ := mapM_all _ _ hx (fd 5) (by simp)
      rw [ft0, fo0, celI] at h0
      rw [ft1, fo1, celI] at h1
      rw [ft2, fo2, celI] at h2
      rw [ft3, fo3, celI] at h3
      rw [ft4, fo4, celI] at h4
      rw [ft5, fo5, celA] at h5
      obtain ⟨n0, g0, _⟩ := one_int undI h0
      obtain ⟨n1, g1, _⟩ := one_int undI h1
      obtain ⟨n2, g2, _⟩ := one_int undI h2
      obtain ⟨n3, g3, _⟩ := one_int undI h3
      obtain ⟨n4, g4, _⟩ := one_int undI h4
      obtain ⟨g5, g6⟩ := open_bytes h5
      match cs, hl, g0, g1, g2, g3, g4, g5, g6 with
      | c0 :: c1 :: c2 :: c3 :: c4 :: ls, hl, g0, g1, g2, g3, g4, g5, g6 =>
        have hls : ls.length = 116 := by simpa using hl
        have e : (List.drop 5 (c0 :: c1 :: c2 :: c3 :: c4 :: ls)).take 116 = ls := by
          show ls.take 116 = ls
          rw [List.take_of_length_le (by omega)]
        rw [e] at g5
        simp at g0 g1 g2 g3 g4
        subst g0; subst g1; subst g2; subst g3; subst g4
        refine ⟨⟨n0, n1, n2, n3, n4, ls.map byteOf⟩, ?_, by rw [List.length_map]; exact hls⟩
        show Value.agg ⟨_⟩ = Value.agg ⟨_⟩
        unfold LeafD.cells
        rw [← g5]
        rfl
    · cases hf
end
end Go.Proofs.YtioieffmihdheaaDoor.lf
end
end

section
/- A right leaf comes back; two have the same block just if they are the same; a burst of 32 bits is found; one byte more or less is none: of all leaves, places and bursts. -/
namespace Go.Proofs.YtioieffmihdheaaDoor.leafBurst
open Go.ChangeShapes Go.WideShapes Go.ChangeAt Go.RowKit
set_option linter.unusedVariables false

theorem own : ownKnob Tryd.prog.godebug = none := by kernel_rfl
theorem laidOut : laidOutB Tryd.prog = true := by kernel_rfl

set_option maxRecDepth 100000 in
set_option maxHeartbeats 1600000 in
theorem lifted (os : Os) (started : os.Started) (H : Type) (enc : TypeId × Value → H) :
    ReturnsInHanded {} Tryd.checked os 5 .any (fun w args => (Rows.leafBurstSpec.pre enc Tryd.prog Tryd.f5 Rows.leafBurstRow.domain false w args ∧ laidMetH Tryd.prog Rows.leafBurstRow.laid w) ∧ sizedMet enc Tryd.prog Tryd.f5 (OpenSpec.ofChange Rows.leafBurstSpec) false w args)
      (Rows.leafBurstSpec.post enc Tryd.prog Tryd.f5 false true false false) := by
  refine returnsInHanded_of_change_and (C := Tryd.checked) (X := fun w _ => laidMetH Tryd.prog Rows.leafBurstRow.laid w) (fun _ _ _ hh h => h.of_heap hh) own started (by kernel_rfl) Tryd.func5
    (ChangeSpec.witness_shaped (enc := enc) (C := Tryd.checked) (os := os) (X := fun w _ => laidMetH Tryd.prog Rows.leafBurstRow.laid w) false (World.laidAll Tryd.prog os Rows.leafBurstRow.laid) #[.agg ⟨lf.zeroL.cells⟩, .agg ⟨lf.zeroL.cells⟩, .int .i64 0, .int .u32 0] 8 (World.laidAll_os _ _ _)
      (World.shaped_of_ZipB (by kernel_rfl) (by kernel_rfl)) (by kernel_rfl) (by kernel_rfl) (by kernel_rfl)
      (by rw [MakeChecks.laidMetH_plain _ _ _ (by kernel_rfl)]; exact laidMet_laidAll _ (by kernel_rfl) (by kernel_rfl))) ?_
  intro W base args ds gs before hval0 hW hc _ hL _
  have hval : ∀ (j : Nat) t v, Tryd.f5.params[j]? = some t → args[j]? = some v → Value.okWide Tryd.prog W .any base t v := hval0
  have hW' := hW
  obtain ⟨p, q, hA0, hV, rfl, hfz, hnd⟩ := hW
  have hA : DataW.TrodAll enc Tryd.prog W 0 (fun _ => true) true Tryd.f5.params.toList args.toList ds p := hA0
  rw [Tryd.params5] at hA hval
  obtain ⟨v0, vs0, d0, ds0, p0, q0, hargs, rfl, rfl, h0, r0⟩ := trodAll_cons hA
  obtain ⟨v1, vs1, d1, ds1, p1, q1, rfl, rfl, rfl, h1, r1⟩ := trodAll_cons r0
  obtain ⟨v2, vs2, d2, ds2, p2, q2, rfl, rfl, rfl, h2, r2⟩ := trodAll_cons r1
  obtain ⟨v3, vs3, d3, ds3, p3, q3, rfl, rfl, rfl, h3, r3⟩ := trodAll_cons r2
  obtain ⟨rfl, rfl, rfl⟩ := trodAll_nil r3
  obtain rfl : args = #[v0, v1, v2, v3] := by cases args; simp_all
  obtain ⟨rfl, rfl⟩ := trodVars_none hV
  have k0 := h0
  have lt0 : ∀ x ∈ p0, x.block < W.heap.size := by obtain ⟨m, hm⟩ := k0; exact DataW.trod_lt m _ _ _ hm
  have k1 := h1
  have lt1 : ∀ x ∈ p1, x.block < W.heap.size := by obtain ⟨m, hm⟩ := k1; exact DataW.trod_lt m _ _ _ hm
  have k2 := h2
  have lt2 : ∀ x ∈ p2, x.block < W.heap.size := by obtain ⟨m, hm⟩ := k2; exact DataW.trod_lt m _ _ _ hm
  have k3 := h3
  have lt3 : ∀ x ∈ p3, x.block < W.heap.size := by obtain ⟨m, hm⟩ := k3; exact DataW.trod_lt m _ _ _ hm
  obtain ⟨l0, rfl, ll0⟩ := lf.open_leaf (hval 0 24 v0 rfl rfl) h0
  obtain ⟨l1, rfl, ll1⟩ := lf.open_leaf (hval 1 24 v1 rfl rfl) h1
  obtain ⟨a2, rfl, rfl, rfl, w2⟩ := open_int Tryd.underlying3 (hval 2 3 v2 rfl rfl) h2
  obtain ⟨a3, rfl, rfl, rfl, w3⟩ := open_int Tryd.underlying36 (hval 3 36 v3 rfl rfl) h3
  obtain ⟨x3, rfl, hx3⟩ := lf.wf_u32 w3
  clear hA0 hval0
  refine (leafBurst_any l0 l1 ll0 ll1 a2 x3 hx3 W).mono fun e W' ⟨he, bel⟩ => ?_
  subst he
  exact ⟨_, rfl, _, _, _, [], _, [], hW', trodAll_mk1 (shut_bool Tryd.underlying4 _), (trodAll_cons_mk (Below.trod laidOut (by kernel_rfl) (of_decide_eq_true (by kernel_rfl)) k0 bel lt0) (trodAll_cons_mk (Below.trod laidOut (by kernel_rfl) (of_decide_eq_true (by kernel_rfl)) k1 bel lt1) (trodAll_cons_mk (Below.trod laidOut (by kernel_rfl) (of_decide_eq_true (by kernel_rfl)) k2 bel lt2) (trodAll_cons_mk (Below.trod laidOut (by kernel_rfl) (of_decide_eq_true (by kernel_rfl)) k3 bel lt3) trodAll_mk0)))), rfl, bel.frame _, fun h => by cases h⟩

theorem over : Rows.leafBurstRow.holds Tryd.pinned (OpenSpec.ofChange Rows.leafBurstSpec) :=
  OpenClaim.holds_of_wide 5 Tryd.f5 rfl rfl rfl rfl rfl rfl rfl ⟨rfl, rfl, rfl, rfl, rfl⟩ rfl rfl rfl rfl rfl (by kernel_rfl) Tryd.func5 (by kernel_rfl)
    (of_decide_eq_true (by kernel_rfl)) (by unfold Func.isWrapper; first | (rw [if_pos (by decide +kernel)]; kernel_rfl) | (rw [if_neg (by decide +kernel)]; exact ⟨rfl, rfl⟩))
    (fun os started H enc _ => lifted os started H enc)

theorem wants0 : Tryd.pinned.checked.prog.wantsStandIn 24 = false := by kernel_rfl
theorem wants1 : Tryd.pinned.checked.prog.wantsStandIn 24 = false := by kernel_rfl
theorem wants2 : Tryd.pinned.checked.prog.wantsStandIn 3 = false := by kernel_rfl
theorem wants3 : Tryd.pinned.checked.prog.wantsStandIn 36 = false := by kernel_rfl
/-- the statement -/
theorem proved : Rows.LeafBurstCardSaid :=
  Claim7.holds_tied_plain_at .later [] [.data, .pinned] true (true, "f409cbd75a39e2518997cd3e978b6de5635661d0611dae743bdc3cf4497fdb45") false over (fun _ h => by cases h) (by kernel_rfl) (fun _ h => by cases h) leafBurst_row_tie rfl ⟨rfl, rfl⟩ (by kernel_rfl) rfl
    (fun f fn hf hfn => by
      obtain rfl : f = 5 := Option.some.inj ((show Tryd.prog.funcNamed "sheaf/sheaflaw5.LeafBurst" = some 5 by kernel_rfl).symm.trans hf) |>.symm
      obtain rfl : fn = Tryd.f5 := (Option.some.inj (Tryd.func5.symm.trans hfn)).symm
      exact ⟨by kernel_rfl, fun j t ht => by
        rw [Tryd.params5] at ht
        match j, ht with
        | 0, ht => have e : (24 : Nat) = t := Option.some.inj ht; subst e; exact wants0
        | 1, ht => have e : (24 : Nat) = t := Option.some.inj ht; subst e; exact wants1
        | 2, ht => have e : (3 : Nat) = t := Option.some.inj ht; subst e; exact wants2
        | 3, ht => have e : (36 : Nat) = t := Option.some.inj ht; subst e; exact wants3
        | j + 4, ht => simp at ht⟩)
    (by kernel_rfl)
#print axioms proved
end Go.Proofs.YtioieffmihdheaaDoor.leafBurst
end
