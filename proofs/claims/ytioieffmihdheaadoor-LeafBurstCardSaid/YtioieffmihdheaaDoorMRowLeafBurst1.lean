/- Leaves: bytes that are put behind others, where there is no room; what Get says of bytes that are too few or too many. -/
import Derived.Test.YtioieffmihdheaaDoorMRowLeafBurst0
import Derived.Test.YtioieffmihdheaaDoorRows
import Derived.Test.YtioieffmihdheaaDoorAe29
import Derived.Test.YtioieffmihdheaaDoorAe33
section
/- Leaves: the leaf of a block: told. -/
noncomputable section
namespace Go.Proofs.YtioieffmihdheaaDoor.lf
open AE
set_option linter.unusedSimpArgs false
set_option linter.unusedVariables false
set_option maxRecDepth 10000

abbrev sigG : List (Nat × (List Value → AM Value)) := [(18, twoA), (7, putA), (19, equalA)]
theorem tolds_G : Tolds Tryd.prog (sumsOf sigG) := tolds_cons told_two (tolds_cons told_put (tolds_cons told_equal tolds_nil))
theorem sg2 : sumsOf sigG 18 = some twoA := rfl
theorem sgP : sumsOf sigG 7 = some putA := rfl
theorem sgE : sumsOf sigG 19 = some equalA := rfl
theorem tg2 : ∀ a b, targetA E (.func 18) a b = .pure (.enter 18 (b ++ a)) := tgt (fi := fi2) (c := cd2) (by kernel_rfl) (by kernel_rfl)
theorem tgP : ∀ a b, targetA E (.func 7) a b = .pure (.enter 7 (b ++ a)) := tgt (fi := fiP) (c := cdP) (by kernel_rfl) (by kernel_rfl)
theorem tgE : ∀ a b, targetA E (.func 19) a b = .pure (.enter 19 (b ++ a)) := tgt (fi := fiE) (c := cdE) (by kernel_rfl) (by kernel_rfl)
noncomputable def fiG : FI := FI.of Tryd.f8
noncomputable def cdG : Code := bodyOf Tryd.f8
theorem resG : fiG.results = [.cell 2 24, .tmp 3] := rfl

theorem twoA_run {s : S} {p k n cap : Nat} {ad : Addr} {l : List UInt8} (H : Holds s p (.slice (some ad) n cap)) (hb : Bs s ad l) (hl : l.length = n) (h1 : 118 + k ≤ n) (h2 : k ≤ 1000) (h3 : n < 1000000) :
    (twoA [.int .i64 (.ofNat k), .pointer (some ⟨p, 0, none⟩)]).run s = some (.int .i64 (num2 (l.getD (116 + k) 0) (l.getD (117 + k) 0)), (s.seen p).seen ad.block) := by
  subst hl
  obtain ⟨c, m, e, rm, q1, q2, q3⟩ := H.cell
  have hx : l[116 + k]? = some (l.getD (116 + k) 0) := by rw [List.getD_eq_getElem?_getD, List.getElem?_eq_getElem (by omega)]; rfl
  have hy : l[117 + k]? = some (l.getD (117 + k) 0) := by rw [List.getD_eq_getElem?_getD, List.getElem?_eq_getElem (by omega)]; rfl
  show (loadT tiB ⟨p, 0, none⟩ fun
    | .slice (some ad) n cap => when (Nat.ble (118 + k) n && Nat.ble k 1000 && Nat.blt n 1000000) (loadA ad n fun cs => opt (bytesV cs) fun l => opt l[116 + k]? fun x => opt l[117 + k]? fun y => .pure (Value.int .i64 (num2 x y)))
    | _ => .fail).run s = _
  unfold loadT
  rw [dsB]
  simp only [isAggD]
  unfold loadA
  simp only [AM.run, blt_iff.2 H.lt, q1, when, show Nat.ble (Nat.add 0 1) m = true from ble_iff.2 q2, rdCells, show Nat.add 0 0 = 0 from rfl, q3, opt, ble_iff.2 h1, ble_iff.2 h2, blt_iff.2 h3, Bool.and_self]
  have e3 := loadA_run (s := s.seen p) (hb.of rfl rfl) (fun cs => opt (bytesV cs) fun l => opt l[116 + k]? fun x => opt l[117 + k]? fun y => AM.pure (Value.int .i64 (num2 x y)))
  show (loadA ad l.length fun cs => opt (bytesV cs) fun l => opt l[116 + k]? fun x => opt l[117 + k]? fun y => AM.pure (Value.int .i64 (num2 x y))).run (s.seen p) = _
  rw [e3, bytesV_map]
  simp only [opt, hx, hy, AM.run]

theorem clash_bef (rd wr b i r w : Nat) (seen : List (Nat × Nat × Nat)) (h : Nat.testBit b i = true) : clash rd wr b (keepLog i r w seen) = clash rd wr b seen := by
  unfold keepLog
  split
  · rfl
  · show (match Nat.beq (Nat.lor (Nat.land w (Nat.lor rd wr)) (Nat.land r wr)) 0 with | true => clash rd wr b seen | false => match Nat.testBit b i with | true => clash rd wr b seen | false => true) = _
    rw [h]
    split <;> rfl
theorem land_new {lo hi n mk : Nat} (h : n < lo) : Nat.land (created lo hi) (bit mk n 0) = 0 := by
  apply Nat.eq_of_testBit_eq
  intro i
  show Nat.testBit (created lo hi &&& bit mk n 0) i = Nat.testBit 0 i
  rw [Nat.testBit_and, Nat.zero_testBit]
  unfold bit
  cases Nat.ble mk n with
  | true => simp
  | false =>
    show (Nat.testBit (created lo hi) i && Nat.testBit (0 ||| (1 <<< n)) i) = false
    rw [Nat.zero_or, Nat.one_shiftLeft, Nat.testBit_two_pow]
    by_cases hi' : n = i
    · subst hi'
      have : Nat.testBit (created lo hi) n = false := by
        unfold created
        split
        · simp
        · show Nat.testBit (((1 <<< (hi - lo)) - 1) <<< lo) n = false
          rw [Nat.testBit_shiftLeft]
          simp; omega
      rw [this]; rfl
    · simp [hi']
theorem clash_new {lo hi n mk : Nat} (h : n < lo) (b i : Nat) (seen : List (Nat × Nat × Nat)) : clash (bit mk n 0) 0 b (keepLog i 0 (created lo hi) seen) = clash (bit mk n 0) 0 b seen := by
  unfold keepLog
  split
  · rfl
  · show (match Nat.beq (Nat.lor (Nat.land (created lo hi) (Nat.lor (bit mk n 0) 0)) (Nat.land 0 0)) 0 with | true => clash (bit mk n 0) 0 b seen | false => _) = _
    rw [lor_zero', land_new h]
    try rfl

theorem places_eq : placesA E fsLf.toList = some [(0, 1), (1, 1), (2, 1), (3, 1), (4, 1), (5, 116)] := by kernel_rfl
theorem fillG (a b c e k : Int) : fillA (nthP [(0, 1), (1, 1), (2, 1), (3, 1), (4, 1), (5, 116)]) [(1, Value.int .i64 a), (2, .int .i64 b), (3, .int .i64 c), (4, .int .i64 e), (0, .int .i64 k)] zeroL.cells = some (⟨k, a, b, c, e, List.replicate 116 0⟩ : LeafD).cells := rfl
theorem sl_cells (a : Option Addr) (n c : Nat) : (Value.slice a n c).cells.toList = [.slice a n c] := rfl
theorem ptr_cells (a : Option Addr) : (Value.pointer a).cells.toList = [.pointer a] := rfl

theorem LfAt.loadK {β : Type} {s : S} {n : Nat} {d : LeafD} (h : LfAt s n d) (k : Value → AM β) : (loadT tiLf ⟨n, 0, none⟩ k).run s = (k (.agg ⟨d.cells⟩)).run (s.seen n) := by
  obtain ⟨c, e, rm, h1, h2⟩ := h.cell
  have h4 := rd_row h2
  rw [d.len h.len] at h4
  unfold loadT loadA
  rw [dsLf, szLf]
  simp only [isAggD, AM.run, blt_iff.2 h.lt, h1, when, show Nat.ble (Nat.add 0 121) 121 = true from rfl, opt, h4]
  rfl
/-- the memory of Get -/
structure GetAt (K : Nat) (s0 s : S) (ad : Addr) (cap : Nat) (l : List UInt8) : Prop where
  var : Holds s s0.next (.slice (some ad) 128 cap)
  out : LfAt s (s0.next + 1) zeroL
  bs : Bs s ad l
  old : ∀ m, (m < s0.next ∨ s0.next + K ≤ m) → s.heap.get m = s0.heap.get m
theorem GetAt.of {K : Nat} {s0 s s1 : S} {ad : Addr} {cap : Nat} {l : List UInt8} (h : GetAt K s0 s ad cap l) (hn : s.next ≤ s1.next) (had : ad.block < s0.next) (hh : ∀ m, (m < s0.next + 2 ∨ s0.next + K ≤ m) → s1.heap.get m = s.heap.get m) : GetAt K s0 s1 ad cap l :=
  ⟨⟨by have := h.var.lt; omega, by rw [hh _ (.inl (by omega))]; exact h.var.cell⟩, ⟨by have := h.out.lt; omega, by rw [hh _ (.inl (by omega))]; exact h.out.cell, h.out.len⟩, h.bs.keep hn (hh _ (.inl (by omega))), fun m hm => (hh m (by omega)).trans (h.old m hm)⟩
theorem equalA_run {s : S} {d : LeafD} {N : Nat} {ad : Addr} {l : List UInt8} {c2 : Nat} (hb : Bs s ad l) (hl : l.length = 128) (hd : d.load.length = 116) (hp : rightL d = true → N + 9 < s.next ∧ s.heap.get (N + 9) = some (.cells (Tr.ofList ((putL d).map bv)) (putL d).length 5 .whole)) :
    ∃ s1, (equalA [putV d N, .slice (some ad) 128 c2]).run s = some (.bool (rightL d && eqBytes (putL d) l), s1) ∧ s1.heap = s.heap ∧ s1.next = s.next ∧ s1.mark = s.mark ∧ s1.wr = s.wr := by
  unfold putV
  cases hR : rightL d with
  | false =>
    refine ⟨s.seen ad.block, ?_, rfl, rfl, rfl, rfl⟩
    show (loadA ad 128 fun cs => opt (bytesV cs) fun l2 => .pure (Value.bool (eqBytes [] l2))).run s = _
    rw [← hl, loadA_run hb, bytesV_map]
    cases l with
    | nil => simp at hl
    | cons x l => rfl
  | true =>
    obtain ⟨h1, h2⟩ := hp hR
    have hB := bs_new h1 h2 (by rw [putL_len d hd]; omega)
    refine ⟨(s.seen (N + 9)).seen ad.block, ?_, rfl, rfl, rfl, rfl⟩
    show (loadA ⟨N + 9, 0, none⟩ 128 fun cs => opt (bytesV cs) fun l1 => loadA ad 128 fun cs => opt (bytesV cs) fun l2 => .pure (Value.bool (eqBytes l1 l2))).run s = _
    have e1 := loadA_run hB (fun cs => opt (bytesV cs) fun l1 => loadA ad 128 fun cs => opt (bytesV cs) fun l2 => AM.pure (Value.bool (eqBytes l1 l2)))
    rw [putL_len d hd] at e1
    rw [e1, bytesV_map]
    have e2 := loadA_run (s := s.seen (N + 9)) (hb.of rfl rfl) (fun cs => opt (bytesV cs) fun l2 => AM.pure (Value.bool (eqBytes (putL d) l2)))
    rw [hl] at e2
    show (loadA ad 128 fun cs => opt (bytesV cs) fun l2 => .pure (Value.bool (eqBytes (putL d) l2))).run (s.seen (N + 9)) = _
    rw [e2, bytesV_map]
    rfl

set_option maxHeartbeats 2000000 in
theorem told_get : AE.Told Tryd.prog 8 getA := by
  refine told_go hE hmix tolds_G ?_
  intro args s v s' h hm
  unfold getA at h
  split at h
  · rename_i a n cap
    refine go_enter (fi := fiG) (c := cdG) (by kernel_rfl) (by kernel_rfl) 37 rfl rfl ?_
    have h0 : (Tr.ofList [Value.slice a n cap]).get 0 = some (.slice a n cap) := rfl
    generalize Tr.ofList [Value.slice a n cap] = t at *
    simp only [cdG, Tryd.f8, bodyOf]
    have hzb : Nat.ble zeroL.cells.length lastName = true := by rw [zeroL.len zero_len]; rfl
    have hzl : Nat.beq zeroL.cells.length 121 = true := by rw [zeroL.len zero_len]; rfl
    have i128 : (128 : Int) = Int.ofNat 128 := rfl
    have b_neq : ∀ E t (x y : Int), binA E .neq t (.int .i64 x) (.int .i64 y) = some (.bool (not (eqI x y))) := fun _ _ _ _ => rfl
    cases hn : Nat.beq n 128 with
    | false =>
      rw [hn] at h
      obtain ⟨s9, h3, hn9, hm9, hh9, hbl⟩ := bump_run 2 _ _ _ h
      cases h3
      have hN0 : Nat.ble s.next lastName = true := hbl 0 (by omega)
      have hN1 : Nat.ble (s.next + 1) lastName = true := hbl 1 (by omega)
      have hN1' : Nat.ble (Nat.succ s.next) lastName = true := hN1
      have hne : eqI (Int.ofNat n) (Int.ofNat 128) = false := eqI_f (fun e => by subst e; cases hn)
      repeat apply go_seq
      apply go_region
      case h => intro m; simp (maxSteps := 2000000) (disch := decide) only [opsLoop, evOper, wantedA, nth, aop, aPick, aBin, aIndexAddr, aFieldAddr, aLoad, aStore, aExtract, aConvert, aAlloc, aBox, aIndex, callA, builtinA, Fr.evs, opt, val, when, AM.run, outV, newA, ptr, force_eq, seen_heap, seen_next, seen_mark, seen_seen, agg_cells, int_cells, Fr.ev, Fr.put, onFr, gps, gpn, bltT, still, flat, List.append_nil, List.nil_append, List.cons_append, Nat.reduceEqDiff, ne_eq, not_false_eq_true, reduceCtorEq, Bool.and_true, Bool.true_and, Bool.and_false, Bool.false_and, Bool.not_true, Bool.not_false, Bool.and_self, h0, sl_cells, hN0, hN1', tyLf, zeLf, hzb, show Nat.ble ([Value.slice a n cap] : List Value).length lastName = true from rfl]; rfl
      generalize hs1 : S.mk _ _ _ _ _ = s1
      have e1 : s1.next = s.next + 2 := by rw [← hs1]
      have e1h : s1.heap = (s.heap.put s.next (some (.cells (Tr.ofList [Value.slice a n cap]) (List.length [Value.slice a n cap]) 25 .whole))).put (Nat.succ s.next) (some (.cells (Tr.ofList zeroL.cells) zeroL.cells.length 24 .whole)) := by rw [← hs1]
      clear hs1
      rw [show Nat.succ s.next = s.next + 1 from rfl] at e1h ⊢
      have V1 : Holds s1 s.next (.slice a n cap) := ⟨by omega, _, _, _, _, by rw [e1h, hg_far hN1 (by omega)]; exact hg_same hN0 _ _, Nat.le_refl 1, rfl⟩
      have O1 : LfAt s1 (s.next + 1) zeroL := ⟨by omega, ⟨_, _, _, by rw [e1h, hg_same hN1, zeroL.len zero_len], row_ofList _ (by rw [zeroL.len zero_len]; unfold Tr.wide; omega)⟩, zero_len⟩
      have lv := V1.load
      obtain ⟨c, e, rm, st, hrow⟩ := (O1.rd (Rd.seen s1 s.next)).store hN1 zero_len
      have O2 : LfAt (((s1.seen s.next).seen (s.next + 1)).turn (s.next + 1) (some (.cells c 121 e rm))) (s.next + 1) zeroL := ⟨by show s.next + 1 < s1.next; omega, ⟨c, e, rm, hg_same hN1 _ _, hrow⟩, zero_len⟩
      have lo := fun k : Value → AM Value => O2.loadK k
      repeat apply go_seq
      apply go_region
      case h => intro m; simp (maxSteps := 2000000) (disch := decide) only [opsLoop, evOper, wantedA, nth, aop, aPick, aBin, aIndexAddr, aFieldAddr, aLoad, aStore, aExtract, aConvert, aAlloc, aBox, aIndex, callA, builtinA, Fr.evs, opt, val, when, AM.run, outV, newA, ptr, force_eq, seen_heap, seen_next, seen_mark, seen_seen, agg_cells, int_cells, Fr.ev, Fr.put, onFr, gps, gpn, bltT, still, flat, List.append_nil, List.nil_append, List.cons_append, Nat.reduceEqDiff, ne_eq, not_false_eq_true, reduceCtorEq, Bool.and_true, Bool.true_and, Bool.and_false, Bool.false_and, Bool.not_true, Bool.not_false, Bool.and_self, tyB, dsB, lv, i128, b_neq, hne]; rfl
      repeat apply go_seq
      apply go_cond
      case hc => simp (disch := decide) only [opsLoop, evOper, wantedA, nth, aop, aPick, aBin, aIndexAddr, aFieldAddr, aLoad, aStore, aExtract, aConvert, aAlloc, aBox, aIndex, callA, builtinA, Fr.evs, opt, val, when, AM.run, outV, newA, ptr, force_eq, seen_heap, seen_next, seen_mark, seen_seen, agg_cells, int_cells, Fr.ev, Fr.put, onFr, gps, gpn, bltT, still, flat, List.append_nil, List.nil_append, List.cons_append, Nat.reduceEqDiff, ne_eq, not_false_eq_true, reduceCtorEq, Bool.and_true, Bool.true_and, Bool.and_false, Bool.false_and, Bool.not_true, Bool.not_false, Bool.and_self]; rfl
      case h2 => intro h; cases h
      intro _
      repeat apply go_seq
      apply go_region
      case h => intro m; simp (maxSteps := 2000000) (disch := decide) only [opsLoop, evOper, wantedA, nth, aop, aPick, aBin, aIndexAddr, aFieldAddr, aLoad, aStore, aExtract, aConvert, aAlloc, aBox, aIndex, callA, builtinA, Fr.evs, opt, val, when, AM.run, outV, newA, ptr, force_eq, seen_heap, seen_next, seen_mark, seen_seen, agg_cells, int_cells, Fr.ev, Fr.put, onFr, gps, gpn, bltT, still, flat, List.append_nil, List.nil_append, List.cons_append, Nat.reduceEqDiff, ne_eq, not_false_eq_true, reduceCtorEq, Bool.and_true, Bool.true_and, Bool.and_false, Bool.false_and, Bool.not_true, Bool.not_false, Bool.and_self, aBuild, evParts, tyLf, zeLf, dsLf, places_eq, fillA, szLf, hzl, st]; rfl
      repeat apply go_seq
      apply go_ret
      apply ret_intro rfl rfl
      case run => simp (disch := decide) only [resultsM, resultsA, resG, opsLoop, evOper, wantedA, nth, aop, aPick, aBin, aIndexAddr, aFieldAddr, aLoad, aStore, aExtract, aConvert, aAlloc, aBox, aIndex, callA, builtinA, Fr.evs, opt, val, when, AM.run, outV, newA, ptr, force_eq, seen_heap, seen_next, seen_mark, seen_seen, agg_cells, int_cells, Fr.ev, Fr.put, onFr, gps, gpn, bltT, still, flat, List.append_nil, List.nil_append, List.cons_append, Nat.reduceEqDiff, ne_eq, not_false_eq_true, reduceCtorEq, Bool.and_true, Bool.true_and, Bool.and_false, Bool.false_and, Bool.not_true, Bool.not_false, Bool.and_self, tyLf, lo]; rfl
      refine ⟨rfl, less_new (s := s) (n := 2) (by show s1.next ≤ _; omega) hn9 hh9 ?_⟩
      intro m hm2
      show (s1.heap.put (s.next + 1) _).get m = _
      rw [hg_far hN1 (by omega), e1h, hg_far hN1 (by omega), hg_far hN0 (by omega)]
    | true =>
      rw [hn] at h
      obtain rfl := beq_iff.1 hn
      cases a with
      | none => cases h
      | some ad =>
        have h2 : (loadA ad 128 fun cs => opt (bytesV cs) fun l => bump (3 + putN (sayL l)) (.pure (Value.tuple ⟨[.agg ⟨(getL l).cells⟩, .bool (getOK l)]⟩))).run s = some (v, s') := h
        clear h
        obtain ⟨l, hl, hb, h3⟩ := bs_of_load h2
        obtain ⟨s9, h4, hn9, hm9, hh9, hbl⟩ := bump_run _ _ _ _ h3
        cases h4
        clear h2 h3
        have hN0 : Nat.ble s.next lastName = true := hbl 0 (by omega)
        have hN1 : Nat.ble (s.next + 1) lastName = true := hbl 1 (by omega)
        have hN2 : Nat.ble (s.next + 2) lastName = true := hbl 2 (by omega)
        have hN0s : Nat.ble (s.seen ad.block).next lastName = true := hN0
        have hN1' : Nat.ble (Nat.succ s.next) lastName = true := hN1
        have had : ad.block < s.next := hb.lt
        have hn9 : s'.next = s.next + (3 + putN (sayL l)) := hn9
        have hh9 : ∀ m, s'.heap.get m = if s.next ≤ m ∧ m < s.next + (3 + putN (sayL l)) then none else s.heap.get m := hh9
        have hne : eqI (Int.ofNat 128) (Int.ofNat 128) = true := rfl
        repeat apply go_seq
        apply go_region
        case h => intro m; simp (maxSteps := 2000000) (disch := decide) only [opsLoop, evOper, wantedA, nth, aop, aPick, aBin, aIndexAddr, aFieldAddr, aLoad, aStore, aExtract, aConvert, aAlloc, aBox, aIndex, callA, builtinA, Fr.evs, opt, val, when, AM.run, outV, newA, ptr, force_eq, seen_heap, seen_next, seen_mark, seen_seen, agg_cells, int_cells, Fr.ev, Fr.put, onFr, gps, gpn, bltT, still, flat, List.append_nil, List.nil_append, List.cons_append, Nat.reduceEqDiff, ne_eq, not_false_eq_true, reduceCtorEq, Bool.and_true, Bool.true_and, Bool.and_false, Bool.false_and, Bool.not_true, Bool.not_false, Bool.and_self, h0, sl_cells, hN0, hN1', tyLf, zeLf, hzb, show Nat.ble ([Value.slice (some ad) 128 cap] : List Value).length lastName = true from rfl]; rfl
        generalize hs1 : S.mk _ _ _ _ _ = s1
        have e1 : s1.next = s.next + 2 := by rw [← hs1]
        have e1h : s1.heap = (s.heap.put s.next (some (.cells (Tr.ofList [Value.slice (some ad) 128 cap]) (List.length [Value.slice (some ad) 128 cap]) 25 .whole))).put (Nat.succ s.next) (some (.cells (Tr.ofList zeroL.cells) zeroL.cells.length 24 .whole)) := by rw [← hs1]
        clear hs1
        rw [show Nat.succ s.next = s.next + 1 from rfl] at e1h ⊢
        have G1 : GetAt (3 + putN (sayL l)) s s1 ad cap l := by
          refine ⟨⟨by omega, _, _, _, _, by rw [e1h, hg_far hN1 (by omega)]; exact hg_same hN0 _ _, Nat.le_refl 1, rfl⟩, ⟨by omega, ⟨_, _, _, by rw [e1h, hg_same hN1, zeroL.len zero_len], row_ofList _ (by rw [zeroL.len zero_len]; unfold Tr.wide; omega)⟩, zero_len⟩, hb.keep (by omega) ?_, ?_⟩
          · rw [e1h, hg_far hN1 (by omega), hg_far hN0 (by omega)]
          · intro m hm2
            rw [e1h, hg_far hN1 (by omega), hg_far hN0 (by omega)]
        have lv := G1.var.load
        repeat apply go_seq
        apply go_region
        case h => intro m; simp (maxSteps := 2000000) (disch := decide) only [opsLoop, evOper, wantedA, nth, aop, aPick, aBin, aIndexAddr, aFieldAddr, aLoad, aStore, aExtract, aConvert, aAlloc, aBox, aIndex, callA, builtinA, Fr.evs, opt, val, when, AM.run, outV, newA, ptr, force_eq, seen_heap, seen_next, seen_mark, seen_seen, agg_cells, int_cells, Fr.ev, Fr.put, onFr, gps, gpn, bltT, still, flat, List.append_nil, List.nil_append, List.cons_append, Nat.reduceEqDiff, ne_eq, not_false_eq_true, reduceCtorEq, Bool.and_true, Bool.true_and, Bool.and_false, Bool.false_and, Bool.not_true, Bool.not_false, Bool.and_self, tyB, dsB, lv, i128, b_neq, hne]; rfl
        repeat apply go_seq
        apply go_cond
        case hc => simp (disch := decide) only [opsLoop, evOper, wantedA, nth, aop, aPick, aBin, aIndexAddr, aFieldAddr, aLoad, aStore, aExtract, aConvert, aAlloc, aBox, aIndex, callA, builtinA, Fr.evs, opt, val, when, AM.run, outV, newA, ptr, force_eq, seen_heap, seen_next, seen_mark, seen_seen, agg_cells, int_cells, Fr.ev, Fr.put, onFr, gps, gpn, bltT, still, flat, List.append_nil, List.nil_append, List.cons_append, Nat.reduceEqDiff, ne_eq, not_false_eq_true, reduceCtorEq, Bool.and_true, Bool.true_and, Bool.and_false, Bool.false_and, Bool.not_true, Bool.not_false, Bool.and_self]; rfl
        case h1 => intro h; cases h
        intro _
        apply go_skip
        repeat apply go_seq
        apply go_region
        case h => intro m; simp (maxSteps := 2000000) (disch := decide) only [opsLoop, evOper, wantedA, nth, aop, aPick, aBin, aIndexAddr, aFieldAddr, aLoad, aStore, aExtract, aConvert, aAlloc, aBox, aIndex, callA, builtinA, Fr.evs, opt, val, when, AM.run, outV, newA, ptr, force_eq, seen_heap, seen_next, seen_mark, seen_seen, agg_cells, int_cells, Fr.ev, Fr.put, onFr, gps, gpn, bltT, still, flat, List.append_nil, List.nil_append, List.cons_append, Nat.reduceEqDiff, ne_eq, not_false_eq_true, reduceCtorEq, Bool.and_true, Bool.true_and, Bool.and_false, Bool.false_and, Bool.not_true, Bool.not_false, Bool.and_self, aMakeFunc]; rfl
        -- the numbers
        have S0 : GetAt (3 + putN (sayL l)) s ⟨s1.heap, s1.next, s1.next, 0, 0⟩ ad cap l := G1.of (Nat.le_refl _) had (fun m _ => rfl)
        have lv0 := S0.var.load
        have t0 := twoA_run (k := 0) S0.var S0.bs hl (by omega) (by omega) (by omega)
        have t2 := twoA_run (k := 2) S0.var S0.bs hl (by omega) (by omega) (by omega)
        have t4 := twoA_run (k := 4) S0.var S0.bs hl (by omega) (by omega) (by omega)
        have hx : l[122]? = some (l.getD 122 0) := by rw [List.getD_eq_getElem?_getD, List.getElem?_eq_getElem (by omega)]; rfl
        have hy : l[123]? = some (l.getD 123 0) := by rw [List.getD_eq_getElem?_getD, List.getElem?_eq_getElem (by omega)]; rfl
        have lx := sum.byte_load (Bs.at S0.bs hx) tiU8 dsU8
        have ly := sum.byte_load (Bs.at S0.bs hy) tiU8 dsU8
        have w1 : wrapA .i64 (Int.ofNat (l.getD 122 0).toNat) = Int.ofNat (l.getD 122 0).toNat := cv64 (by have := (l.getD 122 0).toNat_lt; omega)
        have w2 : wrapA .i64 (Int.ofNat (l.getD 123 0).toNat) = Int.ofNat (l.getD 123 0).toNat := cv64 (by have := (l.getD 123 0).toNat_lt; omega)
        have fg := fillG (num2 (l.getD 116 0) (l.getD 117 0)) (num2 (l.getD 118 0) (l.getD 119 0)) (num2 (l.getD 120 0) (l.getD 121 0)) (Int.ofNat (l.getD 122 0).toNat) (Int.ofNat (l.getD 123 0).toNat)
        generalize hdz : (⟨Int.ofNat (l.getD 123 0).toNat, num2 (l.getD 116 0) (l.getD 117 0), num2 (l.getD 118 0) (l.getD 119 0), num2 (l.getD 120 0) (l.getD 121 0), Int.ofNat (l.getD 122 0).toNat, List.replicate 116 0⟩ : LeafD) = dz at fg
        have hdl : dz.load.length = 116 := by rw [← hdz]; simp
        have hdc : Nat.beq dz.cells.length 121 = true := by rw [dz.len hdl]; rfl
        have hN2' : Nat.ble s1.next lastName = true := by rw [e1]; exact hN2
        have L4 : LfAt ⟨s1.heap.put s1.next (some (.cells (Tr.ofList zeroL.cells) zeroL.cells.length 24 .whole)), Nat.succ s1.next, Nat.succ s1.next, 0, 0⟩ s1.next zeroL :=
          ⟨Nat.lt_succ_self _, ⟨_, _, _, by rw [zeroL.len zero_len]; exact hg_same hN2' _ _, row_ofList _ (by rw [zeroL.len zero_len]; unfold Tr.wide; omega)⟩, zero_len⟩
        obtain ⟨c4, e4, rm4, st4, hrow4⟩ := L4.store hN2' hdl
        simp only [S.seen] at lv0 t0 t2 t4 lx ly
        simp only [S.seen, S.turn] at st4
        have i2 : (2 : Int) = Int.ofNat 2 := rfl
        have i4 : (4 : Int) = Int.ofNat 4 := rfl
        have i122 : (122 : Int) = Int.ofNat 122 := rfl
        have i123 : (123 : Int) = Int.ofNat 123 := rfl
        repeat apply go_seq
        apply go_drawn
        case hs => rfl
        case h => intro m; simp (maxSteps := 2000000) (disch := decide) only [opsLoop, evOper, wantedA, nth, aop, aPick, aBin, aIndexAddr, aFieldAddr, aLoad, aStore, aExtract, aConvert, aAlloc, aBox, aIndex, callA, Fr.evs, opt, val, when, AM.run, outV, newA, ptr, force_eq, seen_heap, seen_next, seen_mark, seen_seen, agg_cells, int_cells, Fr.ev, Fr.put, onFr, gps, gpn, bltT, still, flat, List.append_nil, List.nil_append, List.cons_append, Nat.reduceEqDiff, ne_eq, not_false_eq_true, reduceCtorEq, Bool.and_true, Bool.true_and, Bool.and_false, Bool.false_and, Bool.not_true, Bool.not_false, Bool.and_self, drawnLoop, keep_none, clash_nil, clash_reads, created_self, lor_zero, lor_zero', tg2, evT_told sg2, int0, i2, i4, i122, i123, t0, t2, t4, tyB, dsB, tyI, dsI, tyU8, dsU8, szU8, lv0, show Nat.blt 122 128 = true from rfl, show Nat.blt 123 128 = true from rfl, mul1, lx, ly, w1, w2, aBuild, evParts, tyLf, zeLf, dsLf, szLf, places_eq, fg, hzb, hN2', hdc, st4, clash_bef]; rfl
        generalize hs4 : S.mk _ _ _ _ _ = s4
        have f4 : s4.next = s.next + 3 := by rw [← hs4]; show s1.next + 1 = _; omega
        have f4h : s4.heap = (s1.heap.put s1.next (some (.cells (Tr.ofList zeroL.cells) zeroL.cells.length 24 .whole))).put s1.next (some (.cells c4 121 e4 rm4)) := by rw [← hs4]
        clear hs4
        rw [e1] at f4h ⊢
        have G4 : GetAt (3 + putN (sayL l)) s s4 ad cap l := G1.of (by omega) had (fun m hm => by rw [f4h, hg_far hN2 (by omega), hg_far hN2 (by omega)])
        have S5 : GetAt (3 + putN (sayL l)) s ⟨s4.heap, s4.next, s4.next, 0, 0⟩ ad cap l := G4.of (Nat.le_refl _) had (fun m _ => rfl)
        have hlt4 : s.next + 2 < s4.next := by omega
        have L5 : LfAt ⟨s4.heap, s4.next, s4.next, 0, 0⟩ (s.next + 2) dz := ⟨hlt4, ⟨c4, e4, rm4, by show s4.heap.get _ = _; rw [f4h]; exact hg_same hN2 _ _, hrow4⟩, hdl⟩
        have lv5 := S5.var.load
        obtain ⟨c5, e5, rm5, cp, hrow5⟩ := copy_b (c2 := cap) L5 hN2 S5.bs hl
        simp only [S.seen, S.turn] at lv5 cp
        repeat apply go_seq
        apply go_drawn
        case hs => rfl
        case h => intro m; simp (maxSteps := 2000000) (disch := decide) only [opsLoop, evOper, wantedA, nth, aop, aPick, aBin, aIndexAddr, aFieldAddr, aLoad, aStore, aExtract, aConvert, aAlloc, aBox, aIndex, callA, Fr.evs, opt, val, when, AM.run, outV, newA, ptr, force_eq, seen_heap, seen_next, seen_mark, seen_seen, agg_cells, int_cells, Fr.ev, Fr.put, onFr, gps, gpn, bltT, still, flat, List.append_nil, List.nil_append, List.cons_append, Nat.reduceEqDiff, ne_eq, not_false_eq_true, reduceCtorEq, Bool.and_true, Bool.true_and, Bool.and_false, Bool.false_and, Bool.not_true, Bool.not_false, Bool.and_self, drawnLoop, keep_none, clash_nil, clash_reads, created_self, lor_zero, lor_zero', tyLf, dsLf, fl5, ft5, fo5, tyA, dsA, szA, tyU8, szU8, ble1A, ad5, aSlice, lowHigh, sliceP, addIf0, show Nat.ble 0 116 = true from rfl, show Nat.ble 116 116 = true from rfl, show Nat.blt 116 OPEN = true from rfl, show Nat.sub 116 0 = 116 from rfl, tyB, dsB, lv5, cp, clash_bef]; rfl
        generalize hs5 : S.mk _ _ _ _ _ = s5
        have f5 : s5.next = s.next + 3 := by rw [← hs5]; exact f4
        have f5h : s5.heap = s4.heap.put (s.next + 2) (some (.cells c5 121 e5 rm5)) := by rw [← hs5]
        clear hs5
        have hdd : ({ dz with load := l.take 116 } : LeafD) = sayL l := by rw [← hdz]; rfl
        rw [hdd] at hrow5
        have hsl : (sayL l).load.length = 116 := by show (l.take 116).length = 116; rw [List.length_take]; omega
        have G5 : GetAt (3 + putN (sayL l)) s s5 ad cap l := G4.of (by omega) had (fun m hm => by rw [f5h, hg_far hN2 (by omega)])
        have hlt5 : s.next + 2 < s5.next := by omega
        have c5' : s5.heap.get (s.next + 2) = some (.cells c5 121 e5 rm5) := by rw [f5h]; exact hg_same hN2 _ _
        have L6 : LfAt ⟨s5.heap, s5.next, s5.next, 0, 0⟩ (s.next + 2) (sayL l) := ⟨hlt5, ⟨c5, e5, rm5, c5', hrow5⟩, hsl⟩
        have ld := L6.load
        obtain ⟨s6, pr, p2, p3, prd, pwr, p4, p5⟩ := putA_run (s := ⟨s5.heap, s5.next, s5.next, 0, 0⟩) hsl (Nat.le_refl _) (fun i hi => by
          show Nat.ble (s5.next + i) lastName = true
          rw [f5, Nat.add_assoc]
          exact hbl (3 + i) (by omega))
        have pr : (putA [.agg ⟨(sayL l).cells⟩]).run ⟨s5.heap, s5.next, s5.next, 0, 0⟩ = some (putV (sayL l) s5.next, s6) := pr
        have p2 : s6.next = s5.next + putN (sayL l) := p2
        have p4 : ∀ m, (m < s5.next ∨ s5.next + putN (sayL l) ≤ m) → s6.heap.get m = s5.heap.get m := p4
        have prd : s6.rd = 0 := prd
        have pwr : s6.wr = 0 := pwr
        have S7 : GetAt (3 + putN (sayL l)) s ⟨s6.heap, s6.next, s6.next, 0, 0⟩ ad cap l := G5.of (by show s5.next ≤ s6.next; omega) had (fun m hm => p4 m (by omega))
        have lv7 := S7.var.load
        obtain ⟨s8, er, r1, r2, r3, r4⟩ := equalA_run (c2 := cap) (N := s5.next) S7.bs hl hsl (fun hR => ⟨by show s5.next + 9 < s6.next; rw [p2]; unfold putN; rw [if_pos hR]; omega, p5 hR⟩)
        have er : (equalA [putV (sayL l) s5.next, .slice (some ad) 128 cap]).run ⟨s6.heap, s6.next, s6.next, 0, 0⟩ = some (.bool (getOK l), s8) := er
        have r1 : s8.heap = s6.heap := r1
        have r2 : s8.next = s6.next := r2
        have r4 : s8.wr = 0 := r4
        have hcn := clash_new (lo := s5.next) (hi := s6.next) (n := s.next) (mk := s6.next) (by omega)
        simp only [S.seen] at ld lv7
        repeat apply go_seq
        apply go_drawn
        case hs => rfl
        case h => intro m; simp (maxSteps := 2000000) (disch := decide) only [opsLoop, evOper, wantedA, nth, aop, aPick, aBin, aIndexAddr, aFieldAddr, aLoad, aStore, aExtract, aConvert, aAlloc, aBox, aIndex, callA, Fr.evs, opt, val, when, AM.run, outV, newA, ptr, force_eq, seen_heap, seen_next, seen_mark, seen_seen, agg_cells, int_cells, Fr.ev, Fr.put, onFr, gps, gpn, bltT, still, flat, List.append_nil, List.nil_append, List.cons_append, Nat.reduceEqDiff, ne_eq, not_false_eq_true, reduceCtorEq, Bool.and_true, Bool.true_and, Bool.and_false, Bool.false_and, Bool.not_true, Bool.not_false, Bool.and_self, drawnLoop, keep_none, clash_nil, clash_reads, created_self, lor_zero, lor_zero', tyLf, ld, tgP, evT_told sgP, pr, prd, pwr, tyB, lv7, hcn, tgE, evT_told sgE, er, r4, clash_bef, u_not]; rfl
        generalize hs9 : S.mk _ _ _ _ _ = s9
        have f9 : s9.next = s6.next := by rw [← hs9]; exact r2
        have f9h : s9.heap = s6.heap := by rw [← hs9]; exact r1
        clear hs9
        have G9 : GetAt (3 + putN (sayL l)) s s9 ad cap l := S7.of (by rw [f9]; exact Nat.le_refl _) had (fun m _ => by rw [f9h])
        have hlt9 : s.next + 2 < s9.next := by omega
        have L9 : LfAt s9 (s.next + 2) (sayL l) := ⟨hlt9, by rw [f9h, p4 _ (.inl (by omega))]; exact ⟨c5, e5, rm5, c5', hrow5⟩, hsl⟩
        have hless : ∀ s10 : S, s10.next = s9.next → (∀ m, m ≠ s.next + 1 → s10.heap.get m = s9.heap.get m) → Less' s10 s' := by
          intro s10 q1 q2
          refine less_new (s := s) (n := 3 + putN (sayL l)) (by rw [q1, hn9]; omega) hn9 hh9 ?_
          intro m hm2
          rw [q2 m (by omega)]
          exact G9.old m (by omega)
        have hlt1 : s.next + 1 < s9.next := by omega
        cases hok : getOK l with
        | false =>
          have hgl : getL l = zeroL := by unfold getL; rw [hok]; rfl
          obtain ⟨c, e, rm, st, hrow⟩ := G9.out.store hN1 zero_len
          have O2 : LfAt ((s9.seen (s.next + 1)).turn (s.next + 1) (some (.cells c 121 e rm))) (s.next + 1) zeroL := ⟨hlt1, ⟨c, e, rm, hg_same hN1 _ _, hrow⟩, zero_len⟩
          have lo := fun k : Value → AM Value => O2.loadK k
          repeat apply go_seq
          apply go_cond
          case hc => simp (disch := decide) only [opsLoop, evOper, wantedA, nth, aop, aPick, aBin, aIndexAddr, aFieldAddr, aLoad, aStore, aExtract, aConvert, aAlloc, aBox, aIndex, callA, builtinA, Fr.evs, opt, val, when, AM.run, outV, newA, ptr, force_eq, seen_heap, seen_next, seen_mark, seen_seen, agg_cells, int_cells, Fr.ev, Fr.put, onFr, gps, gpn, bltT, still, flat, List.append_nil, List.nil_append, List.cons_append, Nat.reduceEqDiff, ne_eq, not_false_eq_true, reduceCtorEq, Bool.and_true, Bool.true_and, Bool.and_false, Bool.false_and, Bool.not_true, Bool.not_false, Bool.and_self, hok]; rfl
          case h2 => intro h; cases h
          intro _
          repeat apply go_seq
          apply go_region
          case h => intro m; simp (maxSteps := 2000000) (disch := decide) only [opsLoop, evOper, wantedA, nth, aop, aPick, aBin, aIndexAddr, aFieldAddr, aLoad, aStore, aExtract, aConvert, aAlloc, aBox, aIndex, callA, builtinA, Fr.evs, opt, val, when, AM.run, outV, newA, ptr, force_eq, seen_heap, seen_next, seen_mark, seen_seen, agg_cells, int_cells, Fr.ev, Fr.put, onFr, gps, gpn, bltT, still, flat, List.append_nil, List.nil_append, List.cons_append, Nat.reduceEqDiff, ne_eq, not_false_eq_true, reduceCtorEq, Bool.and_true, Bool.true_and, Bool.and_false, Bool.false_and, Bool.not_true, Bool.not_false, Bool.and_self, aBuild, evParts, tyLf, zeLf, dsLf, places_eq, fillA, szLf, hzl, st]; rfl
          repeat apply go_seq
          apply go_ret
          apply ret_intro rfl rfl
          case run => simp (disch := decide) only [resultsM, resultsA, resG, opsLoop, evOper, wantedA, nth, aop, aPick, aBin, aIndexAddr, aFieldAddr, aLoad, aStore, aExtract, aConvert, aAlloc, aBox, aIndex, callA, builtinA, Fr.evs, opt, val, when, AM.run, outV, newA, ptr, force_eq, seen_heap, seen_next, seen_mark, seen_seen, agg_cells, int_cells, Fr.ev, Fr.put, onFr, gps, gpn, bltT, still, flat, List.append_nil, List.nil_append, List.cons_append, Nat.reduceEqDiff, ne_eq, not_false_eq_true, reduceCtorEq, Bool.and_true, Bool.true_and, Bool.and_false, Bool.false_and, Bool.not_true, Bool.not_false, Bool.and_self, tyLf, lo]; rfl
          refine ⟨by rw [hgl], hless _ rfl ?_⟩
          intro m hm2
          exact hg_far hN1 hm2 _ _
        | true =>
          have hgl : getL l = sayL l := by unfold getL; rw [hok]; rfl
          obtain ⟨c, e, rm, st, hrow⟩ := (G9.out.rd (Rd.seen s9 (s.next + 2))).store hN1 hsl
          have O2 : LfAt (((s9.seen (s.next + 2)).seen (s.next + 1)).turn (s.next + 1) (some (.cells c 121 e rm))) (s.next + 1) (sayL l) := ⟨hlt1, ⟨c, e, rm, hg_same hN1 _ _, hrow⟩, hsl⟩
          have lo := fun k : Value → AM Value => O2.loadK k
          have ld9 := L9.load
          have hsc : Nat.beq (sayL l).cells.length 121 = true := by rw [(sayL l).len hsl]; rfl
          repeat apply go_seq
          apply go_cond
          case hc => simp (disch := decide) only [opsLoop, evOper, wantedA, nth, aop, aPick, aBin, aIndexAddr, aFieldAddr, aLoad, aStore, aExtract, aConvert, aAlloc, aBox, aIndex, callA, builtinA, Fr.evs, opt, val, when, AM.run, outV, newA, ptr, force_eq, seen_heap, seen_next, seen_mark, seen_seen, agg_cells, int_cells, Fr.ev, Fr.put, onFr, gps, gpn, bltT, still, flat, List.append_nil, List.nil_append, List.cons_append, Nat.reduceEqDiff, ne_eq, not_false_eq_true, reduceCtorEq, Bool.and_true, Bool.true_and, Bool.and_false, Bool.false_and, Bool.not_true, Bool.not_false, Bool.and_self, hok]; rfl
          case h1 => intro h; cases h
          intro _
          apply go_skip
          repeat apply go_seq
          apply go_region
          case h => intro m; simp (maxSteps := 2000000) (disch := decide) only [opsLoop, evOper, wantedA, nth, aop, aPick, aBin, aIndexAddr, aFieldAddr, aLoad, aStore, aExtract, aConvert, aAlloc, aBox, aIndex, callA, builtinA, Fr.evs, opt, val, when, AM.run, outV, newA, ptr, force_eq, seen_heap, seen_next, seen_mark, seen_seen, agg_cells, int_cells, Fr.ev, Fr.put, onFr, gps, gpn, bltT, still, flat, List.append_nil, List.nil_append, List.cons_append, Nat.reduceEqDiff, ne_eq, not_false_eq_true, reduceCtorEq, Bool.and_true, Bool.true_and, Bool.and_false, Bool.false_and, Bool.not_true, Bool.not_false, Bool.and_self, tyLf, ld9, szLf, hsc, st]; rfl
          repeat apply go_seq
          apply go_ret
          apply ret_intro rfl rfl
          case run => simp (disch := decide) only [resultsM, resultsA, resG, opsLoop, evOper, wantedA, nth, aop, aPick, aBin, aIndexAddr, aFieldAddr, aLoad, aStore, aExtract, aConvert, aAlloc, aBox, aIndex, callA, builtinA, Fr.evs, opt, val, when, AM.run, outV, newA, ptr, force_eq, seen_heap, seen_next, seen_mark, seen_seen, agg_cells, int_cells, Fr.ev, Fr.put, onFr, gps, gpn, bltT, still, flat, List.append_nil, List.nil_append, List.cons_append, Nat.reduceEqDiff, ne_eq, not_false_eq_true, reduceCtorEq, Bool.and_true, Bool.true_and, Bool.and_false, Bool.false_and, Bool.not_true, Bool.not_false, Bool.and_self, tyLf, lo]; rfl
          refine ⟨by rw [hgl], hless _ rfl ?_⟩
          intro m hm2
          exact hg_far hN1 hm2 _ _
  · cases h
end Go.Proofs.YtioieffmihdheaaDoor.lf
end
end

section
/- Leaves: a number brought within bounds; what is put into a block is had out of it; leaves that are the same. -/
noncomputable section
namespace Go.Proofs.YtioieffmihdheaaDoor.lf
open AE
set_option linter.unusedSimpArgs false
set_option linter.unusedVariables false
set_option maxRecDepth 10000

theorem wrap_small {x : Int} (h1 : -9223372036854775808 ≤ x) (h2 : x < 9223372036854775808) : wrapA .i64 x = x := by
  show wrapS 18446744073709551616 9223372036854775808 x = x
  rw [wrapS_eq _ _ (by decide) (by decide)]
  split <;> omega
def wn (n : Int) (hi : Nat) : Nat := (n % ((hi : Int) + 1)).toNat
theorem wn_le (n : Int) (hi : Nat) : wn n hi ≤ hi := by
  unfold wn
  have h1 := Int.emod_nonneg n (show (hi : Int) + 1 ≠ 0 by omega)
  have h2 := Int.emod_lt_of_pos n (show (0 : Int) < (hi : Int) + 1 by omega)
  omega
theorem tmod_wn (n : Int) (hi : Nat) : (Int.tmod n (Int.ofNat (hi + 1)) < 0 ∧ Int.tmod n (Int.ofNat (hi + 1)) + hi + 1 = wn n hi ∧ 1 ≤ wn n hi) ∨ (0 ≤ Int.tmod n (Int.ofNat (hi + 1)) ∧ Int.tmod n (Int.ofNat (hi + 1)) = wn n hi) := by
  have hpos : (0 : Int) < (hi : Int) + 1 := by omega
  have e : Int.ofNat (hi + 1) = (hi : Int) + 1 := by simp
  have h1 := Int.emod_nonneg n (show (hi : Int) + 1 ≠ 0 by omega)
  have h2 := Int.emod_lt_of_pos n hpos
  have hw : (wn n hi : Int) = n % ((hi : Int) + 1) := by unfold wn; omega
  rw [e, hw]
  have h3 := Int.tmod_eq_emod (a := n) (b := (hi : Int) + 1)
  rw [h3]
  split
  · right; constructor <;> omega
  · left
    rename_i hc
    have hne : n % ((hi : Int) + 1) ≠ 0 := fun h => hc (.inr (Int.dvd_of_emod_eq_zero h))
    omega
theorem tmod_bound (n : Int) (hi : Nat) : -(hi : Int) ≤ Int.tmod n (Int.ofNat (hi + 1)) ∧ Int.tmod n (Int.ofNat (hi + 1)) ≤ hi := by
  have := wn_le n hi
  rcases tmod_wn n hi with ⟨h1, h2, h3⟩ | ⟨h1, h2⟩ <;> omega
def withinBA : List Value → AM Value
  | [.int .i64 n, .int .i64 (.ofNat 0), .int .i64 (.ofNat hi)] => when (Nat.ble hi 1000000) (.pure (.int .i64 (.ofNat (wn n hi))))
  | _ => .fail
noncomputable def fiWB : FI := FI.of Tryd.f10
noncomputable def cdWB : Code := bodyOf Tryd.f10
theorem resWB : fiWB.results = [.tmp 6] := rfl
theorem told_withinB : AE.Told Tryd.prog 10 withinBA := by
  refine told_go hE hmix tolds_nil ?_
  intro args s v s' h hm
  unfold withinBA at h
  split at h
  · rename_i n hi
    obtain ⟨hb, h2⟩ := run_when h
    cases h2
    have hb := ble_iff.1 hb
    refine go_enter (fi := fiWB) (c := cdWB) (by kernel_rfl) (by kernel_rfl) 24 rfl rfl ?_
    have h0 : (Tr.ofList [Value.int .i64 n, .int .i64 (.ofNat 0), .int .i64 (.ofNat hi)]).get 0 = some (.int .i64 n) := rfl
    have h1 : (Tr.ofList [Value.int .i64 n, .int .i64 (.ofNat 0), .int .i64 (.ofNat hi)]).get 1 = some (.int .i64 (.ofNat 0)) := rfl
    have h2 : (Tr.ofList [Value.int .i64 n, .int .i64 (.ofNat 0), .int .i64 (.ofNat hi)]).get 2 = some (.int .i64 (.ofNat hi)) := rfl
    generalize Tr.ofList [Value.int .i64 n, .int .i64 (.ofNat 0), .int .i64 (.ofNat hi)] = t at *
    simp only [cdWB, Tryd.f10, bodyOf]
    have a1 : ∀ E t, binA E .sub t (.int .i64 (.ofNat hi)) (.int .i64 (.ofNat 0)) = some (.int .i64 (.ofNat hi)) := by
      intro E t
      show some (Value.int .i64 (wrapA .i64 ((hi : Int) - 0))) = _
      rw [wrap_small (by omega) (by omega), Int.sub_zero]; rfl
    have a2 := b_plus (a := hi) (b := 1) (by omega)
    have a3 : ∀ E t, binA E .rem t (.int .i64 n) (.int .i64 (.ofNat (hi + 1))) = some (.int .i64 (Int.tmod n (.ofNat (hi + 1)))) := fun E t => rfl
    have hbd := tmod_bound n hi
    have htm := tmod_wn n hi
    generalize Int.tmod n (Int.ofNat (hi + 1)) = m at *
    repeat apply go_seq
    apply go_region
    case h => intro m; simp (maxSteps := 2000000) (disch := decide) only [opsLoop, evOper, wantedA, nth, aop, aPick, aBin, aIndexAddr, aFieldAddr, aLoad, aStore, aExtract, aConvert, aAlloc, aBox, aIndex, callA, builtinA, Fr.evs, opt, val, when, AM.run, outV, newA, ptr, force_eq, seen_heap, seen_next, seen_mark, seen_seen, agg_cells, int_cells, Fr.ev, Fr.put, onFr, gps, gpn, bltT, still, flat, List.append_nil, List.nil_append, List.cons_append, Nat.reduceEqDiff, ne_eq, not_false_eq_true, reduceCtorEq, Bool.and_true, Bool.true_and, Bool.and_false, Bool.false_and, Bool.not_true, Bool.not_false, Bool.and_self]; rfl
    repeat apply go_seq
    apply go_region
    case h => intro m; simp (maxSteps := 2000000) (disch := decide) only [opsLoop, evOper, wantedA, nth, aop, aPick, aBin, aIndexAddr, aFieldAddr, aLoad, aStore, aExtract, aConvert, aAlloc, aBox, aIndex, callA, builtinA, Fr.evs, opt, val, when, AM.run, outV, newA, ptr, force_eq, seen_heap, seen_next, seen_mark, seen_seen, agg_cells, int_cells, Fr.ev, Fr.put, onFr, gps, gpn, bltT, still, flat, List.append_nil, List.nil_append, List.cons_append, Nat.reduceEqDiff, ne_eq, not_false_eq_true, reduceCtorEq, Bool.and_true, Bool.true_and, Bool.and_false, Bool.false_and, Bool.not_true, Bool.not_false, Bool.and_self, h0, h1, h2, a1, int1, a2, a3]; rfl
    rcases htm with ⟨q1, q2, _⟩ | ⟨q1, q2⟩
    · have hlt : ltI m (Int.ofNat 0) = true := by rw [ltI_eq]; simp; omega
      have a4 : ∀ E t, binA E .add t (.int .i64 m) (.int .i64 (.ofNat hi)) = some (.int .i64 (m + hi)) := by
        intro E t
        show some (Value.int .i64 (wrapA .i64 (m + hi))) = _
        rw [wrap_small (by omega) (by omega)]
      have a5 : ∀ E t, binA E .sub t (.int .i64 (m + hi)) (.int .i64 (.ofNat 0)) = some (.int .i64 (m + hi)) := by
        intro E t
        show some (Value.int .i64 (wrapA .i64 (m + hi - 0))) = _
        rw [wrap_small (by omega) (by omega), Int.sub_zero]
      have a6 : ∀ E t, binA E .add t (.int .i64 (m + hi)) (.int .i64 (.ofNat 1)) = some (.int .i64 (.ofNat (wn n hi))) := by
        intro E t
        show some (Value.int .i64 (wrapA .i64 (m + hi + 1))) = _
        rw [wrap_small (by omega) (by omega), q2]; rfl
      have hw := wn_le n hi
      have a7 := b_plus (a := 0) (b := wn n hi) (by omega)
      rw [Nat.zero_add] at a7
      repeat apply go_seq
      apply go_region
      case h => intro m; simp (maxSteps := 2000000) (disch := decide) only [opsLoop, evOper, wantedA, nth, aop, aPick, aBin, aIndexAddr, aFieldAddr, aLoad, aStore, aExtract, aConvert, aAlloc, aBox, aIndex, callA, builtinA, Fr.evs, opt, val, when, AM.run, outV, newA, ptr, force_eq, seen_heap, seen_next, seen_mark, seen_seen, agg_cells, int_cells, Fr.ev, Fr.put, onFr, gps, gpn, bltT, still, flat, List.append_nil, List.nil_append, List.cons_append, Nat.reduceEqDiff, ne_eq, not_false_eq_true, reduceCtorEq, Bool.and_true, Bool.true_and, Bool.and_false, Bool.false_and, Bool.not_true, Bool.not_false, Bool.and_self, b_lss, int0, hlt]; rfl
      repeat apply go_seq
      apply go_cond
      case hc => simp (disch := decide) only [opsLoop, evOper, wantedA, nth, aop, aPick, aBin, aIndexAddr, aFieldAddr, aLoad, aStore, aExtract, aConvert, aAlloc, aBox, aIndex, callA, builtinA, Fr.evs, opt, val, when, AM.run, outV, newA, ptr, force_eq, seen_heap, seen_next, seen_mark, seen_seen, agg_cells, int_cells, Fr.ev, Fr.put, onFr, gps, gpn, bltT, still, flat, List.append_nil, List.nil_append, List.cons_append, Nat.reduceEqDiff, ne_eq, not_false_eq_true, reduceCtorEq, Bool.and_true, Bool.true_and, Bool.and_false, Bool.false_and, Bool.not_true, Bool.not_false, Bool.and_self]; rfl
      case h2 => intro h; cases h
      intro _
      repeat apply go_seq
      apply go_region
      case h => intro m; simp (maxSteps := 2000000) (disch := decide) only [opsLoop, evOper, wantedA, nth, aop, aPick, aBin, aIndexAddr, aFieldAddr, aLoad, aStore, aExtract, aConvert, aAlloc, aBox, aIndex, callA, builtinA, Fr.evs, opt, val, when, AM.run, outV, newA, ptr, force_eq, seen_heap, seen_next, seen_mark, seen_seen, agg_cells, int_cells, Fr.ev, Fr.put, onFr, gps, gpn, bltT, still, flat, List.append_nil, List.nil_append, List.cons_append, Nat.reduceEqDiff, ne_eq, not_false_eq_true, reduceCtorEq, Bool.and_true, Bool.true_and, Bool.and_false, Bool.false_and, Bool.not_true, Bool.not_false, Bool.and_self, h1, h2, a4, a5, int1, a6]; rfl
      repeat apply go_seq
      apply go_region
      case h => intro m; simp (maxSteps := 2000000) (disch := decide) only [opsLoop, evOper, wantedA, nth, aop, aPick, aBin, aIndexAddr, aFieldAddr, aLoad, aStore, aExtract, aConvert, aAlloc, aBox, aIndex, callA, builtinA, Fr.evs, opt, val, when, AM.run, outV, newA, ptr, force_eq, seen_heap, seen_next, seen_mark, seen_seen, agg_cells, int_cells, Fr.ev, Fr.put, onFr, gps, gpn, bltT, still, flat, List.append_nil, List.nil_append, List.cons_append, Nat.reduceEqDiff, ne_eq, not_false_eq_true, reduceCtorEq, Bool.and_true, Bool.true_and, Bool.and_false, Bool.false_and, Bool.not_true, Bool.not_false, Bool.and_self, h1, a7]; rfl
      repeat apply go_seq
      apply go_ret
      apply ret_intro rfl rfl
      case run => simp (disch := decide) only [resultsM, resultsA, resWB, opsLoop, evOper, wantedA, nth, aop, aPick, aBin, aIndexAddr, aFieldAddr, aLoad, aStore, aExtract, aConvert, aAlloc, aBox, aIndex, callA, builtinA, Fr.evs, opt, val, when, AM.run, outV, newA, ptr, force_eq, seen_heap, seen_next, seen_mark, seen_seen, agg_cells, int_cells, Fr.ev, Fr.put, onFr, gps, gpn, bltT, still, flat, List.append_nil, List.nil_append, List.cons_append, Nat.reduceEqDiff, ne_eq, not_false_eq_true, reduceCtorEq, Bool.and_true, Bool.true_and, Bool.and_false, Bool.false_and, Bool.not_true, Bool.not_false, Bool.and_self]; rfl
      exact ⟨rfl, Less'.refl _⟩
    · have hlt : ltI m (Int.ofNat 0) = false := by rw [ltI_eq]; simp; omega
      have hw := wn_le n hi
      have a7 : ∀ E t, binA E .add t (.int .i64 (.ofNat 0)) (.int .i64 m) = some (.int .i64 (.ofNat (wn n hi))) := by
        intro E t
        show some (Value.int .i64 (wrapA .i64 (0 + m))) = _
        rw [wrap_small (by omega) (by omega), Int.zero_add, q2]; rfl
      repeat apply go_seq
      apply go_region
      case h => intro m; simp (maxSteps := 2000000) (disch := decide) only [opsLoop, evOper, wantedA, nth, aop, aPick, aBin, aIndexAddr, aFieldAddr, aLoad, aStore, aExtract, aConvert, aAlloc, aBox, aIndex, callA, builtinA, Fr.evs, opt, val, when, AM.run, outV, newA, ptr, force_eq, seen_heap, seen_next, seen_mark, seen_seen, agg_cells, int_cells, Fr.ev, Fr.put, onFr, gps, gpn, bltT, still, flat, List.append_nil, List.nil_append, List.cons_append, Nat.reduceEqDiff, ne_eq, not_false_eq_true, reduceCtorEq, Bool.and_true, Bool.true_and, Bool.and_false, Bool.false_and, Bool.not_true, Bool.not_false, Bool.and_self, b_lss, int0, hlt]; rfl
      repeat apply go_seq
      apply go_cond
      case hc => simp (disch := decide) only [opsLoop, evOper, wantedA, nth, aop, aPick, aBin, aIndexAddr, aFieldAddr, aLoad, aStore, aExtract, aConvert, aAlloc, aBox, aIndex, callA, builtinA, Fr.evs, opt, val, when, AM.run, outV, newA, ptr, force_eq, seen_heap, seen_next, seen_mark, seen_seen, agg_cells, int_cells, Fr.ev, Fr.put, onFr, gps, gpn, bltT, still, flat, List.append_nil, List.nil_append, List.cons_append, Nat.reduceEqDiff, ne_eq, not_false_eq_true, reduceCtorEq, Bool.and_true, Bool.true_and, Bool.and_false, Bool.false_and, Bool.not_true, Bool.not_false, Bool.and_self]; rfl
      case h1 => intro h; cases h
      intro _
      apply go_skip
      repeat apply go_seq
      apply go_region
      case h => intro m; simp (maxSteps := 2000000) (disch := decide) only [opsLoop, evOper, wantedA, nth, aop, aPick, aBin, aIndexAddr, aFieldAddr, aLoad, aStore, aExtract, aConvert, aAlloc, aBox, aIndex, callA, builtinA, Fr.evs, opt, val, when, AM.run, outV, newA, ptr, force_eq, seen_heap, seen_next, seen_mark, seen_seen, agg_cells, int_cells, Fr.ev, Fr.put, onFr, gps, gpn, bltT, still, flat, List.append_nil, List.nil_append, List.cons_append, Nat.reduceEqDiff, ne_eq, not_false_eq_true, reduceCtorEq, Bool.and_true, Bool.true_and, Bool.and_false, Bool.false_and, Bool.not_true, Bool.not_false, Bool.and_self, h1, a7]; rfl
      repeat apply go_seq
      apply go_ret
      apply ret_intro rfl rfl
      case run => simp (disch := decide) only [resultsM, resultsA, resWB, opsLoop, evOper, wantedA, nth, aop, aPick, aBin, aIndexAddr, aFieldAddr, aLoad, aStore, aExtract, aConvert, aAlloc, aBox, aIndex, callA, builtinA, Fr.evs, opt, val, when, AM.run, outV, newA, ptr, force_eq, seen_heap, seen_next, seen_mark, seen_seen, agg_cells, int_cells, Fr.ev, Fr.put, onFr, gps, gpn, bltT, still, flat, List.append_nil, List.nil_append, List.cons_append, Nat.reduceEqDiff, ne_eq, not_false_eq_true, reduceCtorEq, Bool.and_true, Bool.true_and, Bool.and_false, Bool.false_and, Bool.not_true, Bool.not_false, Bool.and_self]; rfl
      exact ⟨rfl, Less'.refl _⟩
  · cases h

/-! what is put is had -/
theorem num2_two (x : Int) (h0 : 0 ≤ x) (h1 : x ≤ 65535) : num2 (UInt8.ofNat x.toNat) (UInt8.ofNat (x.toNat >>> 8)) = x := by
  obtain ⟨n, rfl⟩ := Int.eq_ofNat_of_zero_le h0
  simp only [Int.toNat_natCast]
  have hn : n ≤ 65535 := by omega
  unfold num2
  rw [UInt8.toNat_ofNat', UInt8.toNat_ofNat', Nat.shiftRight_eq_div_pow]
  have e1 : n % 2 ^ 8 % 18446744073709551616 = n % 256 := by omega
  have e2 : n / 2 ^ 8 % 2 ^ 8 * 256 % 18446744073709551616 = 2 ^ 8 * (n / 256) := by omega
  rw [e1, e2]
  have e3 : Nat.lor (n % 256) (2 ^ 8 * (n / 256)) = n := by
    show (n % 256) ||| (2 ^ 8 * (n / 256)) = n
    rw [Nat.or_comm, ← Nat.two_pow_add_eq_or_of_lt (show n % 256 < 2 ^ 8 by omega)]
    omega
  rw [e3]
  exact wrap_small (by simp; try omega) (by simp; try omega)
theorem putL_eq (d : LeafD) : ∃ c, putL d = d.load ++ ([UInt8.ofNat d.file.toNat, UInt8.ofNat (d.file.toNat >>> 8), UInt8.ofNat d.place.toNat, UInt8.ofNat (d.place.toNat >>> 8), UInt8.ofNat d.next.toNat, UInt8.ofNat (d.next.toNat >>> 8), UInt8.ofNat d.size.toNat, UInt8.ofNat d.kind.toNat] ++ sum4 c) := by
  refine ⟨crc32 ((d.load ++ pre d 3) ++ [UInt8.ofNat d.size.toNat, UInt8.ofNat d.kind.toNat]), ?_⟩
  unfold putL closeL
  generalize crc32 ((d.load ++ pre d 3) ++ [UInt8.ofNat d.size.toNat, UInt8.ofNat d.kind.toNat]) = c
  simp only [pre, three, two, List.getD_cons_zero, List.getD_cons_succ, List.nil_append, List.append_assoc, List.cons_append]
theorem getD_app {a b : List UInt8} {n : Nat} (h : a.length = 116) (j : Nat) (hn : n = 116 + j) : (a ++ b).getD n 0 = b.getD j 0 := by
  subst hn
  rw [List.getD_eq_getElem?_getD, List.getElem?_append_right (by omega), h, show 116 + j - 116 = j by omega, List.getD_eq_getElem?_getD]
theorem say_put (d : LeafD) (hd : d.load.length = 116) (hR : rightL d = true) : sayL (putL d) = d := by
  obtain ⟨h3, hk, hs⟩ := rightL_inv hR
  have f := h3 0 d.file rfl
  have p := h3 1 d.place rfl
  have n := h3 2 d.next rfl
  obtain ⟨c, e⟩ := putL_eq d
  rw [e]
  unfold sayL
  rw [getD_app hd 0 rfl, getD_app hd 1 rfl, getD_app hd 2 rfl, getD_app hd 3 rfl, getD_app hd 4 rfl, getD_app hd 5 rfl, getD_app hd 6 rfl, getD_app hd 7 rfl]
  simp only [List.cons_append, List.nil_append, List.getD_cons_zero, List.getD_cons_succ]
  rw [num2_two _ f.1 f.2, num2_two _ p.1 p.2, num2_two _ n.1 n.2, List.take_left' hd]
  have e1 : ((UInt8.ofNat d.size.toNat).toNat : Int) = d.size := by rw [UInt8.toNat_ofNat']; omega
  have e2 : ((UInt8.ofNat d.kind.toNat).toNat : Int) = d.kind := by rw [UInt8.toNat_ofNat']; omega
  rw [e1, e2]
theorem get_put (d : LeafD) (hd : d.load.length = 116) (hR : rightL d = true) : getOK (putL d) = true ∧ getL (putL d) = d := by
  have h1 := say_put d hd hR
  have h2 : getOK (putL d) = true := by
    unfold getOK
    rw [h1, hR, eqBytes_iff]
    simp
  exact ⟨h2, by unfold getL; rw [if_pos h2, h1]⟩
end Go.Proofs.YtioieffmihdheaaDoor.lf
end
end

section
/- Leaves: leaves that are the same; the leaves of the law on edges. -/
noncomputable section
namespace Go.Proofs.YtioieffmihdheaaDoor.lf
open AE
set_option linter.unusedSimpArgs false
set_option linter.unusedVariables false
set_option maxRecDepth 10000

theorem gdLf : tiLf.guard = false := by kernel_rfl
theorem gdA : tiA.guard = false := by kernel_rfl
theorem fs_list : fsLf.toList = [fd 0, fd 1, fd 2, fd 3, fd 4, fd 5] := by kernel_rfl
theorem nm0 : (fd 0).name = "Kind" := by kernel_rfl
theorem nm1 : (fd 1).name = "File" := by kernel_rfl
theorem nm2 : (fd 2).name = "Place" := by kernel_rfl
theorem nm3 : (fd 3).name = "Next" := by kernel_rfl
theorem nm4 : (fd 4).name = "Size" := by kernel_rfl
theorem nm5 : (fd 5).name = "Load" := by kernel_rfl
theorem takeL_all : ∀ l : List Value, takeL l.length l = some l
  | [] => rfl
  | v :: l => by simp only [List.length_cons, takeL, takeL_all l]
theorem eq8 (d : Nat) (x : UInt8) : eqV E (d + 1) 5 (bv x) (bv x) = some true := by
  simp only [eqV, tyU8, dsU8, bv, eqI_t]
  rfl
theorem eqEs_same : ∀ (l : List UInt8) (d : Nat), eqEs E (d + l.length + 2) 5 (l.map bv) (l.map bv) = some true
  | [], d => rfl
  | x :: l, d => by
    simp only [List.map_cons, List.length_cons]
    show eqEs E ((d + l.length + 2) + 1) _ _ _ = _
    simp only [eqEs]
    rw [eq8]
    exact eqEs_same l d
theorem eqInt (d : Nat) (x : Int) : eqV E (d + 1) 3 (.int .i64 x) (.int .i64 x) = some true := by
  have : eqI x x = true := by rw [eqI_eq]; simp
  simp only [eqV, tyI, dsI, this]
  rfl
theorem eqArr (l : List UInt8) (hl : l.length = 116) : eqV E 993 22 (.agg ⟨l.map bv⟩) (.agg ⟨l.map bv⟩) = some true := by
  have h1 : arrB tiA tiU8 116 (l.map bv) (l.map bv) = true := by
    unfold arrB
    rw [gdA, dsU8, szU8, List.length_map, hl]
    rfl
  have h2 := eqEs_same l 874
  rw [hl] at h2
  show eqV E (992 + 1) _ _ _ = _
  simp only [eqV, tyA, dsA, tyU8, h1]
  exact h2
theorem eqLeaf (d : LeafD) (hd : d.load.length = 116) : ∀ t, t = 24 → binA E .neq t (.agg ⟨d.cells⟩) (.agg ⟨d.cells⟩) = some (.bool false) := by
  intro t ht
  subst ht
  have h0 : partA tiI d.cells 0 = some (.int .i64 d.kind) := by unfold partA; rw [dsI]; rfl
  have h1 : partA tiI d.cells 1 = some (.int .i64 d.file) := by unfold partA; rw [dsI]; rfl
  have h2 : partA tiI d.cells 2 = some (.int .i64 d.place) := by unfold partA; rw [dsI]; rfl
  have h3 : partA tiI d.cells 3 = some (.int .i64 d.next) := by unfold partA; rw [dsI]; rfl
  have h4 : partA tiI d.cells 4 = some (.int .i64 d.size) := by unfold partA; rw [dsI]; rfl
  have h5 : partA tiA d.cells 5 = some (.agg ⟨d.load.map bv⟩) := by
    have hd5 : dropL 5 d.cells = some (d.load.map bv) := rfl
    have htk : takeL 116 (d.load.map bv) = some (d.load.map bv) := by
      have := takeL_all (d.load.map bv)
      rwa [List.length_map, hd] at this
    unfold partA
    rw [hd5, dsA, szA]
    simp only [isAggD, htk]
  have hf : eqFs E 999 fsLf.toList d.cells d.cells = some true := by
    rw [fs_list]
    show eqFs E (998 + 1) _ _ _ = _
    simp only [eqFs, nm0, nm1, nm2, nm3, nm4, nm5, ft0, ft1, ft2, ft3, ft4, ft5, fo0, fo1, fo2, fo3, fo4, fo5, tyI, tyA, h0, h1, h2, h3, h4, h5, eqInt, eqArr d.load hd]
    rfl
  have hv : eqV E 1000 24 (.agg ⟨d.cells⟩) (.agg ⟨d.cells⟩) = some true := by
    show eqV E (999 + 1) _ _ _ = _
    simp only [eqV, tyLf, dsLf, gdLf]
    exact hf
  show someB (eqV E 1000 24 (.agg ⟨d.cells⟩) (.agg ⟨d.cells⟩)) false = _
  rw [hv]
  rfl

/-! the law's leaves -/
def ldz (i : Nat) : List UInt8 := (List.range 116).map fun j => if j < i then UInt8.ofNat (j + 1) else 0
theorem ldz_len (i : Nat) : (ldz i).length = 116 := by simp [ldz]
theorem ldz_get (i j : Nat) (hj : j < 116) : (ldz i)[j]? = some (if j < i then UInt8.ofNat (j + 1) else 0) := by
  unfold ldz
  rw [List.getElem?_map, List.getElem?_range hj]
  rfl
theorem ldz_zero : ldz 0 = List.replicate 116 0 := by decide
theorem ldz_succ (i : Nat) (hi : i < 116) : (ldz i).set i (UInt8.ofNat (i + 1)) = ldz (i + 1) := by
  apply List.ext_getElem?
  intro j
  rw [List.getElem?_set, ldz_len]
  by_cases hj : j < 116
  · rw [ldz_get _ j hj, ldz_get _ j hj]
    by_cases e : i = j
    · subst e; rw [if_pos rfl, if_pos hi, if_pos (by omega)]
    · rw [if_neg e]
      by_cases h2 : j < i
      · rw [if_pos h2, if_pos (by omega)]
      · rw [if_neg h2, if_neg (by omega)]
  · rw [if_neg (by omega), List.getElem?_eq_none (by rw [ldz_len]; omega), List.getElem?_eq_none (by rw [ldz_len]; omega)]
def edge (z i : Nat) : LeafD := ⟨1, 65535, 65535, 65535, Int.ofNat z, ldz i⟩
theorem edge_right (z : Nat) (hz : z ≤ 115) : rightL (edge z z) = true := by
  have h1 : noughts ((edge z z).load.drop (edge z z).size.toNat) = true := by
    unfold noughts
    refine beq_iff.2 ((lead_all _).2 ?_)
    intro j x hx
    show x = 0
    have hx : ((ldz z).drop z)[j]? = some x := hx
    rw [List.getElem?_drop] at hx
    have hlt := (List.getElem?_eq_some_iff.1 hx).1
    rw [ldz_len] at hlt
    rw [ldz_get _ _ hlt, if_neg (by omega)] at hx
    cases hx; rfl
  have h2 : wi (Int.ofNat z) 0 116 = true := wi_iff.2 ⟨by simp, by simp; omega⟩
  unfold rightL
  rw [h1]
  show (true && true && true && true && wi (Int.ofNat z) 0 116 && true) = true
  rw [h2]; rfl
/-- what is turned of it -/
def turned (z w r : Nat) : LeafD :=
  if w = 0 then { edge z z with file := 65535 + (1 + r) } else if w = 1 then { edge z z with place := 65535 + (1 + r) } else if w = 2 then { edge z z with next := 65535 + (1 + r) }
  else if w = 3 then { edge z z with file := -(1 + r) } else if w = 4 then { edge z z with place := -(1 + r) } else if w = 5 then { edge z z with next := -(1 + r) }
  else if w = 6 then { edge z z with kind := 2 + (1 + r) } else if w = 7 then { edge z z with load := (ldz z).set z (UInt8.ofNat (1 + r)) } else { edge z z with size := 116 + (1 + r) }
theorem turned_len (z w r : Nat) : (turned z w r).load.length = 116 := by
  unfold turned
  repeat' split
  all_goals first | exact ldz_len z | (show ((ldz z).set z _).length = 116; rw [List.length_set, ldz_len])
theorem wi_f {n lo hi : Int} (h : n < lo ∨ hi < n) : wi n lo hi = false := by
  cases hh : wi n lo hi with
  | false => rfl
  | true => have := wi_iff.1 hh; omega
theorem turned_not (z w r : Nat) (hz : z ≤ 115) (hr : r ≤ 99) : rightL (turned z w r) = false := by
  unfold turned
  repeat' split
  · unfold rightL; rw [show wi ({ edge z z with file := 65535 + (1 + (r : Int)) } : LeafD).file 0 65535 = false from wi_f (.inr (by show (65535 : Int) < 65535 + (1 + (r : Int)); omega))]; rfl
  · unfold rightL; rw [show wi ({ edge z z with place := 65535 + (1 + (r : Int)) } : LeafD).place 0 65535 = false from wi_f (.inr (by show (65535 : Int) < 65535 + (1 + (r : Int)); omega))]; simp
  · unfold rightL; rw [show wi ({ edge z z with next := 65535 + (1 + (r : Int)) } : LeafD).next 0 65535 = false from wi_f (.inr (by show (65535 : Int) < 65535 + (1 + (r : Int)); omega))]; simp
  · unfold rightL; rw [show wi ({ edge z z with file := -(1 + (r : Int)) } : LeafD).file 0 65535 = false from wi_f (.inl (by show -(1 + (r : Int)) < 0; omega))]; rfl
  · unfold rightL; rw [show wi ({ edge z z with place := -(1 + (r : Int)) } : LeafD).place 0 65535 = false from wi_f (.inl (by show -(1 + (r : Int)) < 0; omega))]; simp
  · unfold rightL; rw [show wi ({ edge z z with next := -(1 + (r : Int)) } : LeafD).next 0 65535 = false from wi_f (.inl (by show -(1 + (r : Int)) < 0; omega))]; simp
  · unfold rightL; rw [show wi ({ edge z z with kind := 2 + (1 + (r : Int)) } : LeafD).kind 1 2 = false from wi_f (.inr (by show (2 : Int) < 2 + (1 + (r : Int)); omega))]; simp
  · unfold rightL
    have hn : noughts (((ldz z).set z (UInt8.ofNat (1 + r))).drop z) = false := by
      cases hh : noughts (((ldz z).set z (UInt8.ofNat (1 + r))).drop z) with
      | false => rfl
      | true =>
        have h2 := (lead_all _).1 (beq_iff.1 hh) 0 (UInt8.ofNat (1 + r)) (by rw [List.getElem?_drop, Nat.add_zero, List.getElem?_set, if_pos rfl, ldz_len, if_pos (by omega)])
        have h3 := congrArg UInt8.toNat h2
        rw [UInt8.toNat_ofNat'] at h3
        have h4 : (0 : UInt8).toNat = 0 := rfl
        omega
    have hn : noughts (({ edge z z with load := (ldz z).set z (UInt8.ofNat (1 + r)) } : LeafD).load.drop ({ edge z z with load := (ldz z).set z (UInt8.ofNat (1 + r)) } : LeafD).size.toNat) = false := hn
    rw [hn]; simp
  · unfold rightL; rw [show wi ({ edge z z with size := 116 + (1 + (r : Int)) } : LeafD).size 0 116 = false from wi_f (.inr (by show (116 : Int) < 116 + (1 + (r : Int)); omega))]; simp
end Go.Proofs.YtioieffmihdheaaDoor.lf
end
end

section
/- Chapter 5's runs, evaluated over the named memory. -/
namespace Go.Proofs.YtioieffmihdheaaDoor

theorem leafRuns_lawful : AE.lawful Tryd.prog = true := by kernel_rfl
set_option maxRecDepth 100000 in
set_option maxHeartbeats 100000000 in
theorem leafRuns_run : AE.isTrue (AE.evF (AE.Env.of Tryd.prog) sum.sums 100000 (.next (.enter 3 [])) AE.s0) = true := by kernel_rfl
theorem leafRuns_any (w0 : World) : Calls Tryd.prog 3 #[] w0 fun e w' => e = .returned (.bool true) ∧ Go.RowKit.Below w0.heap.size w0 w' :=
  AE.callsF_true leafRuns_lawful (Checked.mixed Tryd.checked) sum.sums_ok leafRuns_run w0
end Go.Proofs.YtioieffmihdheaaDoor
end

section
/- Leaves: the law on edges: what is turned of a right leaf. -/
noncomputable section
namespace Go.Proofs.YtioieffmihdheaaDoor.lf
open AE
set_option linter.unusedSimpArgs false
set_option linter.unusedVariables false
set_option maxRecDepth 10000

abbrev sigL : List (Nat × (List Value → AM Value)) := [(10, withinBA), (7, putA), (8, getA), (13, rightA), (3, constA (.bool true))]
theorem told_runs : AE.Told Tryd.prog 3 (constA (.bool true)) := told_of_calls rfl leafRuns_any
theorem tolds_L : Tolds Tryd.prog (sumsOf sigL) := tolds_cons told_withinB (tolds_cons told_put (tolds_cons told_get (tolds_cons told_right (tolds_cons told_runs tolds_nil))))
theorem sgWB : sumsOf sigL 10 = some withinBA := rfl
theorem sgP' : sumsOf sigL 7 = some putA := rfl
theorem sgG : sumsOf sigL 8 = some getA := rfl
theorem sgR' : sumsOf sigL 13 = some rightA := rfl
theorem sgX : sumsOf sigL 3 = some (constA (.bool true)) := rfl
noncomputable def fiX : FI := FI.of Tryd.f3
noncomputable def cdX : Code := bodyOf Tryd.f3
theorem tgWB : ∀ a b, targetA E (.func 10) a b = .pure (.enter 10 (b ++ a)) := tgt (fi := fiWB) (c := cdWB) (by kernel_rfl) (by kernel_rfl)
theorem tgG : ∀ a b, targetA E (.func 8) a b = .pure (.enter 8 (b ++ a)) := tgt (fi := fiG) (c := cdG) (by kernel_rfl) (by kernel_rfl)
theorem tgX : ∀ a b, targetA E (.func 3) a b = .pure (.enter 3 (b ++ a)) := tgt (fi := fiX) (c := cdX) (by kernel_rfl) (by kernel_rfl)
noncomputable def fiL : FI := FI.of Tryd.f6
noncomputable def cdL : Code := bodyOf Tryd.f6
noncomputable def cdLl : Code := sub [1,1,0,1,0,0] cdL
noncomputable def cdLb : Code := sub [1,1,1,1,1,1,0,1,0] cdL
theorem resL : fiL.results = [.tmp 6] := rfl
theorem withinBA_run (n : Int) (hi : Nat) (h : hi ≤ 1000000) (s : S) : (withinBA [.int .i64 n, .int .i64 (.ofNat 0), .int .i64 (.ofNat hi)]).run s = some (.int .i64 (.ofNat (wn n hi)), s) := by
  show (when (Nat.ble hi 1000000) (.pure (Value.int .i64 (.ofNat (wn n hi))))).run s = _
  rw [ble_iff.2 h]
  rfl
theorem row_set {c : Tr Value} {L : List Value} {k : Nat} {v : Value} (h : Row c 0 L) (hk : k < 1000) : Row (wrCells c k [v]) 0 (L.set k v) := by
  intro j u hj
  rw [Nat.zero_add]
  rw [List.getElem?_set] at hj
  rw [get_wr [v] c k j (by simp; unfold Tr.wide; omega)]
  by_cases e : k = j
  · subst e
    rw [if_pos rfl] at hj
    split at hj
    · cases hj
      rw [if_pos (by simp), Nat.sub_self]
      rfl
    · cases hj
  · rw [if_neg e] at hj
    rw [if_neg (by simp; omega)]
    have := h j u hj
    rwa [Nat.zero_add] at this
/-- one cell of a leaf is stored -/
theorem LfAt.cell1 {s : S} {n k : Nat} {d d' : LeafD} {v : Value} (h : LfAt s n d) (hN : Nat.ble n lastName = true) (hk : k < 121) (hv : oneB v = true) (hd : d'.cells = d.cells.set k v) (hl : d'.load.length = 116) :
    ∃ c e rm, (storeA ⟨n, k, none⟩ [v] (AM.pure (ANext.value undefV))).run s = some (.value undefV, (s.seen n).turn n (some (.cells c 121 e rm))) ∧ LfAt ((s.seen n).turn n (some (.cells c 121 e rm))) n d' := by
  obtain ⟨c, e, rm, h1, h2⟩ := h.cell
  refine ⟨wrCells c k [v], e, rm, ?_, ⟨h.lt, ⟨_, _, _, hg_same hN _ _, by rw [hd]; exact row_set h2 (by omega)⟩, hl⟩⟩
  rw [storeA_run _ (by simp only [allOne, hv]) h.lt hN h1 (by simp; omega) (by omega)]
  rfl
theorem set_load (d : LeafD) (i : Nat) (x : UInt8) : ({ d with load := d.load.set i x } : LeafD).cells = d.cells.set (5 + i) (bv x) := by
  unfold LeafD.cells
  rw [List.set_append_right _ _ (by simp)]
  simp
theorem b_addI (a b : Int) (h1 : -9223372036854775808 ≤ a + b) (h2 : a + b < 9223372036854775808) : ∀ E t, binA E .add t (.int .i64 a) (.int .i64 b) = some (.int .i64 (a + b)) := by
  intro E t
  show some (Value.int .i64 (wrapA .i64 (a + b))) = _
  rw [wrap_small h1 h2]
theorem u_negI (a : Int) (h1 : -9223372036854775808 ≤ -a) (h2 : -a < 9223372036854775808) : unA .neg (.int .i64 a) = some (.int .i64 (-a)) := by
  show some (Value.int .i64 (wrapA .i64 (0 - a))) = _
  rw [show (0 : Int) - a = -a by omega, wrap_small h1 h2]
theorem eqI_lit (a b : Nat) : eqI (Int.ofNat a) (Int.ofNat b) = decide (a = b) := beq_dec a b
theorem cell_cells {v : Value} (h : oneB v = true) : v.cells.toList = [v] := cells_one h

def PostB (n N' z w r : Nat) (x : Ex) (fr : Fr) (s : S) : Prop := x = .normal ∧ ∃ t : Tr Value, fr = ⟨6, t, 114, [], none⟩ ∧ LfAt s n (turned z w r) ∧ s.next = N' ∧ t.get 7 = some (.pointer (some ⟨n, 0, none⟩))
set_option maxHeartbeats 400000 in
theorem edge_case0 (n N' z r : Nat) (hz : z ≤ 115) (hr : r ≤ 99) (hN : Nat.ble n lastName = true) (t : Tr Value) (s : S) (h : LfAt s n (edge z z)) (hn : s.next = N') (g7 : t.get 7 = some (.pointer (some ⟨n, 0, none⟩))) (g11 : t.get 11 = some (.int .i64 (1 + (r : Int)))) (g49 : t.get 49 = some (.int .i64 (.ofNat 0))) :
    GoC E (sumsOf sigL) cdLb ⟨6, t, 114, [], none⟩ s (PostB n N' z 0 r) := by
  have lit : ∀ k : Nat, (OfNat.ofNat k : Int) = Int.ofNat k := fun k => rfl
  have l := h.get 1 (.int .i64 65535) rfl
  have ad := b_addI 65535 (1 + (r : Int)) (by omega) (by omega)
  obtain ⟨c, e, rm, st, L⟩ := (h.rd (Rd.seen s n)).cell1 (k := 1) (v := .int .i64 (65535 + (1 + (r : Int)))) (d' := turned z 0 r) hN (by omega) rfl rfl (turned_len z 0 r)
  simp only [cdLb, cdL, Tryd.f6, bodyOf, sub]
  repeat apply go_seq
  apply go_region
  case h => intro m; simp (maxSteps := 2000000) (disch := decide) only [opsLoop, evOper, wantedA, nth, aop, aPick, aBin, aIndexAddr, aFieldAddr, aLoad, aStore, aExtract, aConvert, aAlloc, aBox, aIndex, callA, builtinA, Fr.evs, opt, val, when, AM.run, outV, newA, ptr, force_eq, seen_heap, seen_next, seen_mark, seen_seen, agg_cells, int_cells, Fr.ev, Fr.put, onFr, gps, gpn, bltT, still, flat, List.append_nil, List.nil_append, List.cons_append, Nat.reduceEqDiff, ne_eq, not_false_eq_true, reduceCtorEq, Bool.and_true, Bool.true_and, Bool.and_false, Bool.false_and, Bool.not_true, Bool.not_false, Bool.and_self, g49, b_eql, show eqI (Int.ofNat 0) 0 = true from rfl]; rfl
  repeat apply go_seq
  apply go_cond
  case hc => simp (disch := decide) only [opsLoop, evOper, wantedA, nth, aop, aPick, aBin, aIndexAddr, aFieldAddr, aLoad, aStore, aExtract, aConvert, aAlloc, aBox, aIndex, callA, builtinA, Fr.evs, opt, val, when, AM.run, outV, newA, ptr, force_eq, seen_heap, seen_next, seen_mark, seen_seen, agg_cells, int_cells, Fr.ev, Fr.put, onFr, gps, gpn, bltT, still, flat, List.append_nil, List.nil_append, List.cons_append, Nat.reduceEqDiff, ne_eq, not_false_eq_true, reduceCtorEq, Bool.and_true, Bool.true_and, Bool.and_false, Bool.false_and, Bool.not_true, Bool.not_false, Bool.and_self]; rfl
  case h2 => intro h; cases h
  intro _
  repeat apply go_seq
  apply go_region
  case h => intro m; simp (maxSteps := 2000000) (disch := decide) only [opsLoop, evOper, wantedA, nth, aop, aPick, aBin, aIndexAddr, aFieldAddr, aLoad, aStore, aExtract, aConvert, aAlloc, aBox, aIndex, callA, builtinA, Fr.evs, opt, val, when, AM.run, outV, newA, ptr, force_eq, seen_heap, seen_next, seen_mark, seen_seen, agg_cells, int_cells, Fr.ev, Fr.put, onFr, gps, gpn, bltT, still, flat, List.append_nil, List.nil_append, List.cons_append, Nat.reduceEqDiff, ne_eq, not_false_eq_true, reduceCtorEq, Bool.and_true, Bool.true_and, Bool.and_false, Bool.false_and, Bool.not_true, Bool.not_false, Bool.and_self, g7, g11, tyLf, dsLf, fl1, ft1, fo1, tyI, szI, ble11, ad1, l, ad, int_cells, show Nat.beq ([Value.int .i64 (65535 + (1 + (r : Int)))] : List Value).length 1 = true from rfl, st]; rfl
  refine ⟨rfl, _, rfl, ⟨L.lt, L.cell, L.len⟩, hn, ?_⟩
  simp (disch := decide) only [gps, gpn, g7]
set_option maxHeartbeats 400000 in
theorem edge_case1 (n N' z r : Nat) (hz : z ≤ 115) (hr : r ≤ 99) (hN : Nat.ble n lastName = true) (t : Tr Value) (s : S) (h : LfAt s n (edge z z)) (hn : s.next = N') (g7 : t.get 7 = some (.pointer (some ⟨n, 0, none⟩))) (g11 : t.get 11 = some (.int .i64 (1 + (r : Int)))) (g49 : t.get 49 = some (.int .i64 (.ofNat 1))) :
    GoC E (sumsOf sigL) cdLb ⟨6, t, 114, [], none⟩ s (PostB n N' z 1 r) := by
  have lit : ∀ k : Nat, (OfNat.ofNat k : Int) = Int.ofNat k := fun k => rfl
  have l := h.get 2 (.int .i64 65535) rfl
  have ad := b_addI 65535 (1 + (r : Int)) (by omega) (by omega)
  obtain ⟨c, e, rm, st, L⟩ := (h.rd (Rd.seen s n)).cell1 (k := 2) (v := .int .i64 (65535 + (1 + (r : Int)))) (d' := turned z 1 r) hN (by omega) rfl rfl (turned_len z 1 r)
  simp only [cdLb, cdL, Tryd.f6, bodyOf, sub]
  repeat apply go_seq
  apply go_region
  case h => intro m; simp (maxSteps := 2000000) (disch := decide) only [opsLoop, evOper, wantedA, nth, aop, aPick, aBin, aIndexAddr, aFieldAddr, aLoad, aStore, aExtract, aConvert, aAlloc, aBox, aIndex, callA, builtinA, Fr.evs, opt, val, when, AM.run, outV, newA, ptr, force_eq, seen_heap, seen_next, seen_mark, seen_seen, agg_cells, int_cells, Fr.ev, Fr.put, onFr, gps, gpn, bltT, still, flat, List.append_nil, List.nil_append, List.cons_append, Nat.reduceEqDiff, ne_eq, not_false_eq_true, reduceCtorEq, Bool.and_true, Bool.true_and, Bool.and_false, Bool.false_and, Bool.not_true, Bool.not_false, Bool.and_self, g49, b_eql, show eqI (Int.ofNat 1) 0 = false from rfl]; rfl
  repeat apply go_seq
  apply go_cond
  case hc => simp (disch := decide) only [opsLoop, evOper, wantedA, nth, aop, aPick, aBin, aIndexAddr, aFieldAddr, aLoad, aStore, aExtract, aConvert, aAlloc, aBox, aIndex, callA, builtinA, Fr.evs, opt, val, when, AM.run, outV, newA, ptr, force_eq, seen_heap, seen_next, seen_mark, seen_seen, agg_cells, int_cells, Fr.ev, Fr.put, onFr, gps, gpn, bltT, still, flat, List.append_nil, List.nil_append, List.cons_append, Nat.reduceEqDiff, ne_eq, not_false_eq_true, reduceCtorEq, Bool.and_true, Bool.true_and, Bool.and_false, Bool.false_and, Bool.not_true, Bool.not_false, Bool.and_self]; rfl
  case h1 => intro h; cases h
  intro _
  repeat apply go_seq
  apply go_region
  case h => intro m; simp (maxSteps := 2000000) (disch := decide) only [opsLoop, evOper, wantedA, nth, aop, aPick, aBin, aIndexAddr, aFieldAddr, aLoad, aStore, aExtract, aConvert, aAlloc, aBox, aIndex, callA, builtinA, Fr.evs, opt, val, when, AM.run, outV, newA, ptr, force_eq, seen_heap, seen_next, seen_mark, seen_seen, agg_cells, int_cells, Fr.ev, Fr.put, onFr, gps, gpn, bltT, still, flat, List.append_nil, List.nil_append, List.cons_append, Nat.reduceEqDiff, ne_eq, not_false_eq_true, reduceCtorEq, Bool.and_true, Bool.true_and, Bool.and_false, Bool.false_and, Bool.not_true, Bool.not_false, Bool.and_self, g49, b_eql, show eqI (Int.ofNat 1) 1 = true from rfl]; rfl
  repeat apply go_seq
  apply go_cond
  case hc => simp (disch := decide) only [opsLoop, evOper, wantedA, nth, aop, aPick, aBin, aIndexAddr, aFieldAddr, aLoad, aStore, aExtract, aConvert, aAlloc, aBox, aIndex, callA, builtinA, Fr.evs, opt, val, when, AM.run, outV, newA, ptr, force_eq, seen_heap, seen_next, seen_mark, seen_seen, agg_cells, int_cells, Fr.ev, Fr.put, onFr, gps, gpn, bltT, still, flat, List.append_nil, List.nil_append, List.cons_append, Nat.reduceEqDiff, ne_eq, not_false_eq_true, reduceCtorEq, Bool.and_true, Bool.true_and, Bool.and_false, Bool.false_and, Bool.not_true, Bool.not_false, Bool.and_self]; rfl
  case h2 => intro h; cases h
  intro _
  repeat apply go_seq
  apply go_region
  case h => intro m; simp (maxSteps := 2000000) (disch := decide) only [opsLoop, evOper, wantedA, nth, aop, aPick, aBin, aIndexAddr, aFieldAddr, aLoad, aStore, aExtract, aConvert, aAlloc, aBox, aIndex, callA, builtinA, Fr.evs, opt, val, when, AM.run, outV, newA, ptr, force_eq, seen_heap, seen_next, seen_mark, seen_seen, agg_cells, int_cells, Fr.ev, Fr.put, onFr, gps, gpn, bltT, still, flat, List.append_nil, List.nil_append, List.cons_append, Nat.reduceEqDiff, ne_eq, not_false_eq_true, reduceCtorEq, Bool.and_true, Bool.true_and, Bool.and_false, Bool.false_and, Bool.not_true, Bool.not_false, Bool.and_self, g7, g11, tyLf, dsLf, fl2, ft2, fo2, tyI, szI, ble11, ad2, l, ad, int_cells, show Nat.beq ([Value.int .i64 (65535 + (1 + (r : Int)))] : List Value).length 1 = true from rfl, st]; rfl
  refine ⟨rfl, _, rfl, ⟨L.lt, L.cell, L.len⟩, hn, ?_⟩
  simp (disch := decide) only [gps, gpn, g7]
set_option maxHeartbeats 400000 in
theorem edge_case2 (n N' z r : Nat) (hz : z ≤ 115) (hr : r ≤ 99) (hN : Nat.ble n lastName = true) (t : Tr Value) (s : S) (h : LfAt s n (edge z z)) (hn : s.next = N') (g7 : t.get 7 = some (.pointer (some ⟨n, 0, none⟩))) (g11 : t.get 11 = some (.int .i64 (1 + (r : Int)))) (g49 : t.get 49 = some (.int .i64 (.ofNat 2))) :
    GoC E (sumsOf sigL) cdLb ⟨6, t, 114, [], none⟩ s (PostB n N' z 2 r) := by
  have lit : ∀ k : Nat, (OfNat.ofNat k : Int) = Int.ofNat k := fun k => rfl
  have l := h.get 3 (.int .i64 65535) rfl
  have ad := b_addI 65535 (1 + (r : Int)) (by omega) (by omega)
  obtain ⟨c, e, rm, st, L⟩ := (h.rd (Rd.seen s n)).cell1 (k := 3) (v := .int .i64 (65535 + (1 + (r : Int)))) (d' := turned z 2 r) hN (by omega) rfl rfl (turned_len z 2 r)
  simp only [cdLb, cdL, Tryd.f6, bodyOf, sub]
  repeat apply go_seq
  apply go_region
  case h => intro m; simp (maxSteps := 2000000) (disch := decide) only [opsLoop, evOper, wantedA, nth, aop, aPick, aBin, aIndexAddr, aFieldAddr, aLoad, aStore, aExtract, aConvert, aAlloc, aBox, aIndex, callA, builtinA, Fr.evs, opt, val, when, AM.run, outV, newA, ptr, force_eq, seen_heap, seen_next, seen_mark, seen_seen, agg_cells, int_cells, Fr.ev, Fr.put, onFr, gps, gpn, bltT, still, flat, List.append_nil, List.nil_append, List.cons_append, Nat.reduceEqDiff, ne_eq, not_false_eq_true, reduceCtorEq, Bool.and_true, Bool.true_and, Bool.and_false, Bool.false_and, Bool.not_true, Bool.not_false, Bool.and_self, g49, b_eql, show eqI (Int.ofNat 2) 0 = false from rfl]; rfl
  repeat apply go_seq
  apply go_cond
  case hc => simp (disch := decide) only [opsLoop, evOper, wantedA, nth, aop, aPick, aBin, aIndexAddr, aFieldAddr, aLoad, aStore, aExtract, aConvert, aAlloc, aBox, aIndex, callA, builtinA, Fr.evs, opt, val, when, AM.run, outV, newA, ptr, force_eq, seen_heap, seen_next, seen_mark, seen_seen, agg_cells, int_cells, Fr.ev, Fr.put, onFr, gps, gpn, bltT, still, flat, List.append_nil, List.nil_append, List.cons_append, Nat.reduceEqDiff, ne_eq, not_false_eq_true, reduceCtorEq, Bool.and_true, Bool.true_and, Bool.and_false, Bool.false_and, Bool.not_true, Bool.not_false, Bool.and_self]; rfl
  case h1 => intro h; cases h
  intro _
  repeat apply go_seq
  apply go_region
  case h => intro m; simp (maxSteps := 2000000) (disch := decide) only [opsLoop, evOper, wantedA, nth, aop, aPick, aBin, aIndexAddr, aFieldAddr, aLoad, aStore, aExtract, aConvert, aAlloc, aBox, aIndex, callA, builtinA, Fr.evs, opt, val, when, AM.run, outV, newA, ptr, force_eq, seen_heap, seen_next, seen_mark, seen_seen, agg_cells, int_cells, Fr.ev, Fr.put, onFr, gps, gpn, bltT, still, flat, List.append_nil, List.nil_append, List.cons_append, Nat.reduceEqDiff, ne_eq, not_false_eq_true, reduceCtorEq, Bool.and_true, Bool.true_and, Bool.and_false, Bool.false_and, Bool.not_true, Bool.not_false, Bool.and_self, g49, b_eql, show eqI (Int.ofNat 2) 1 = false from rfl]; rfl
  repeat apply go_seq
  apply go_cond
  case hc => simp (disch := decide) only [opsLoop, evOper, wantedA, nth, aop, aPick, aBin, aIndexAddr, aFieldAddr, aLoad, aStore, aExtract, aConvert, aAlloc, aBox, aIndex, callA, builtinA, Fr.evs, opt, val, when, AM.run, outV, newA, ptr, force_eq, seen_heap, seen_next, seen_mark, seen_seen, agg_cells, int_cells, Fr.ev, Fr.put, onFr, gps, gpn, bltT, still, flat, List.append_nil, List.nil_append, List.cons_append, Nat.reduceEqDiff, ne_eq, not_false_eq_true, reduceCtorEq, Bool.and_true, Bool.true_and, Bool.and_false, Bool.false_and, Bool.not_true, Bool.not_false, Bool.and_self]; rfl
  case h1 => intro h; cases h
  intro _
  repeat apply go_seq
  apply go_region
  case h => intro m; simp (maxSteps := 2000000) (disch := decide) only [opsLoop, evOper, wantedA, nth, aop, aPick, aBin, aIndexAddr, aFieldAddr, aLoad, aStore, aExtract, aConvert, aAlloc, aBox, aIndex, callA, builtinA, Fr.evs, opt, val, when, AM.run, outV, newA, ptr, force_eq, seen_heap, seen_next, seen_mark, seen_seen, agg_cells, int_cells, Fr.ev, Fr.put, onFr, gps, gpn, bltT, still, flat, List.append_nil, List.nil_append, List.cons_append, Nat.reduceEqDiff, ne_eq, not_false_eq_true, reduceCtorEq, Bool.and_true, Bool.true_and, Bool.and_false, Bool.false_and, Bool.not_true, Bool.not_false, Bool.and_self, g49, b_eql, show eqI (Int.ofNat 2) 2 = true from rfl]; rfl
  repeat apply go_seq
  apply go_cond
  case hc => simp (disch := decide) only [opsLoop, evOper, wantedA, nth, aop, aPick, aBin, aIndexAddr, aFieldAddr, aLoad, aStore, aExtract, aConvert, aAlloc, aBox, aIndex, callA, builtinA, Fr.evs, opt, val, when, AM.run, outV, newA, ptr, force_eq, seen_heap, seen_next, seen_mark, seen_seen, agg_cells, int_cells, Fr.ev, Fr.put, onFr, gps, gpn, bltT, still, flat, List.append_nil, List.nil_append, List.cons_append, Nat.reduceEqDiff, ne_eq, not_false_eq_true, reduceCtorEq, Bool.and_true, Bool.true_and, Bool.and_false, Bool.false_and, Bool.not_true, Bool.not_false, Bool.and_self]; rfl
  case h2 => intro h; cases h
  intro _
  repeat apply go_seq
  apply go_region
  case h => intro m; simp (maxSteps := 2000000) (disch := decide) only [opsLoop, evOper, wantedA, nth, aop, aPick, aBin, aIndexAddr, aFieldAddr, aLoad, aStore, aExtract, aConvert, aAlloc, aBox, aIndex, callA, builtinA, Fr.evs, opt, val, when, AM.run, outV, newA, ptr, force_eq, seen_heap, seen_next, seen_mark, seen_seen, agg_cells, int_cells, Fr.ev, Fr.put, onFr, gps, gpn, bltT, still, flat, List.append_nil, List.nil_append, List.cons_append, Nat.reduceEqDiff, ne_eq, not_false_eq_true, reduceCtorEq, Bool.and_true, Bool.true_and, Bool.and_false, Bool.false_and, Bool.not_true, Bool.not_false, Bool.and_self, g7, g11, tyLf, dsLf, fl3, ft3, fo3, tyI, szI, ble11, ad3', l, ad, int_cells, show Nat.beq ([Value.int .i64 (65535 + (1 + (r : Int)))] : List Value).length 1 = true from rfl, st]; rfl
  refine ⟨rfl, _, rfl, ⟨L.lt, L.cell, L.len⟩, hn, ?_⟩
  simp (disch := decide) only [gps, gpn, g7]
set_option maxHeartbeats 400000 in
theorem edge_case3 (n N' z r : Nat) (hz : z ≤ 115) (hr : r ≤ 99) (hN : Nat.ble n lastName = true) (t : Tr Value) (s : S) (h : LfAt s n (edge z z)) (hn : s.next = N') (g7 : t.get 7 = some (.pointer (some ⟨n, 0, none⟩))) (g11 : t.get 11 = some (.int .i64 (1 + (r : Int)))) (g49 : t.get 49 = some (.int .i64 (.ofNat 3))) :
    GoC E (sumsOf sigL) cdLb ⟨6, t, 114, [], none⟩ s (PostB n N' z 3 r) := by
  have lit : ∀ k : Nat, (OfNat.ofNat k : Int) = Int.ofNat k := fun k => rfl
  have ng := u_negI (1 + (r : Int)) (by omega) (by omega)
  obtain ⟨c, e, rm, st, L⟩ := h.cell1 (k := 1) (v := .int .i64 (-(1 + (r : Int)))) (d' := turned z 3 r) hN (by omega) rfl rfl (turned_len z 3 r)
  simp only [cdLb, cdL, Tryd.f6, bodyOf, sub]
  repeat apply go_seq
  apply go_region
  case h => intro m; simp (maxSteps := 2000000) (disch := decide) only [opsLoop, evOper, wantedA, nth, aop, aPick, aBin, aIndexAddr, aFieldAddr, aLoad, aStore, aExtract, aConvert, aAlloc, aBox, aIndex, callA, builtinA, Fr.evs, opt, val, when, AM.run, outV, newA, ptr, force_eq, seen_heap, seen_next, seen_mark, seen_seen, agg_cells, int_cells, Fr.ev, Fr.put, onFr, gps, gpn, bltT, still, flat, List.append_nil, List.nil_append, List.cons_append, Nat.reduceEqDiff, ne_eq, not_false_eq_true, reduceCtorEq, Bool.and_true, Bool.true_and, Bool.and_false, Bool.false_and, Bool.not_true, Bool.not_false, Bool.and_self, g49, b_eql, show eqI (Int.ofNat 3) 0 = false from rfl]; rfl
  repeat apply go_seq
  apply go_cond
  case hc => simp (disch := decide) only [opsLoop, evOper, wantedA, nth, aop, aPick, aBin, aIndexAddr, aFieldAddr, aLoad, aStore, aExtract, aConvert, aAlloc, aBox, aIndex, callA, builtinA, Fr.evs, opt, val, when, AM.run, outV, newA, ptr, force_eq, seen_heap, seen_next, seen_mark, seen_seen, agg_cells, int_cells, Fr.ev, Fr.put, onFr, gps, gpn, bltT, still, flat, List.append_nil, List.nil_append, List.cons_append, Nat.reduceEqDiff, ne_eq, not_false_eq_true, reduceCtorEq, Bool.and_true, Bool.true_and, Bool.and_false, Bool.false_and, Bool.not_true, Bool.not_false, Bool.and_self]; rfl
  case h1 => intro h; cases h
  intro _
  repeat apply go_seq
  apply go_region
  case h => intro m; simp (maxSteps := 2000000) (disch := decide) only [opsLoop, evOper, wantedA, nth, aop, aPick, aBin, aIndexAddr, aFieldAddr, aLoad, aStore, aExtract, aConvert, aAlloc, aBox, aIndex, callA, builtinA, Fr.evs, opt, val, when, AM.run, outV, newA, ptr, force_eq, seen_heap, seen_next, seen_mark, seen_seen, agg_cells, int_cells, Fr.ev, Fr.put, onFr, gps, gpn, bltT, still, flat, List.append_nil, List.nil_append, List.cons_append, Nat.reduceEqDiff, ne_eq, not_false_eq_true, reduceCtorEq, Bool.and_true, Bool.true_and, Bool.and_false, Bool.false_and, Bool.not_true, Bool.not_false, Bool.and_self, g49, b_eql, show eqI (Int.ofNat 3) 1 = false from rfl]; rfl
  repeat apply go_seq
  apply go_cond
  case hc => simp (disch := decide) only [opsLoop, evOper, wantedA, nth, aop, aPick, aBin, aIndexAddr, aFieldAddr, aLoad, aStore, aExtract, aConvert, aAlloc, aBox, aIndex, callA, builtinA, Fr.evs, opt, val, when, AM.run, outV, newA, ptr, force_eq, seen_heap, seen_next, seen_mark, seen_seen, agg_cells, int_cells, Fr.ev, Fr.put, onFr, gps, gpn, bltT, still, flat, List.append_nil, List.nil_append, List.cons_append, Nat.reduceEqDiff, ne_eq, not_false_eq_true, reduceCtorEq, Bool.and_true, Bool.true_and, Bool.and_false, Bool.false_and, Bool.not_true, Bool.not_false, Bool.and_self]; rfl
  case h1 => intro h; cases h
  intro _
  repeat apply go_seq
  apply go_region
  case h => intro m; simp (maxSteps := 2000000) (disch := decide) only [opsLoop, evOper, wantedA, nth, aop, aPick, aBin, aIndexAddr, aFieldAddr, aLoad, aStore, aExtract, aConvert, aAlloc, aBox, aIndex, callA, builtinA, Fr.evs, opt, val, when, AM.run, outV, newA, ptr, force_eq, seen_heap, seen_next, seen_mark, seen_seen, agg_cells, int_cells, Fr.ev, Fr.put, onFr, gps, gpn, bltT, still, flat, List.append_nil, List.nil_append, List.cons_append, Nat.reduceEqDiff, ne_eq, not_false_eq_true, reduceCtorEq, Bool.and_true, Bool.true_and, Bool.and_false, Bool.false_and, Bool.not_true, Bool.not_false, Bool.and_self, g49, b_eql, show eqI (Int.ofNat 3) 2 = false from rfl]; rfl
  repeat apply go_seq
  apply go_cond
  case hc => simp (disch := decide) only [opsLoop, evOper, wantedA, nth, aop, aPick, aBin, aIndexAddr, aFieldAddr, aLoad, aStore, aExtract, aConvert, aAlloc, aBox, aIndex, callA, builtinA, Fr.evs, opt, val, when, AM.run, outV, newA, ptr, force_eq, seen_heap, seen_next, seen_mark, seen_seen, agg_cells, int_cells, Fr.ev, Fr.put, onFr, gps, gpn, bltT, still, flat, List.append_nil, List.nil_append, List.cons_append, Nat.reduceEqDiff, ne_eq, not_false_eq_true, reduceCtorEq, Bool.and_true, Bool.true_and, Bool.and_false, Bool.false_and, Bool.not_true, Bool.not_false, Bool.and_self]; rfl
  case h1 => intro h; cases h
  intro _
  repeat apply go_seq
  apply go_region
  case h => intro m; simp (maxSteps := 2000000) (disch := decide) only [opsLoop, evOper, wantedA, nth, aop, aPick, aBin, aIndexAddr, aFieldAddr, aLoad, aStore, aExtract, aConvert, aAlloc, aBox, aIndex, callA, builtinA, Fr.evs, opt, val, when, AM.run, outV, newA, ptr, force_eq, seen_heap, seen_next, seen_mark, seen_seen, agg_cells, int_cells, Fr.ev, Fr.put, onFr, gps, gpn, bltT, still, flat, List.append_nil, List.nil_append, List.cons_append, Nat.reduceEqDiff, ne_eq, not_false_eq_true, reduceCtorEq, Bool.and_true, Bool.true_and, Bool.and_false, Bool.false_and, Bool.not_true, Bool.not_false, Bool.and_self, g49, b_eql, show eqI (Int.ofNat 3) 3 = true from rfl]; rfl
  repeat apply go_seq
  apply go_cond
  case hc => simp (disch := decide) only [opsLoop, evOper, wantedA, nth, aop, aPick, aBin, aIndexAddr, aFieldAddr, aLoad, aStore, aExtract, aConvert, aAlloc, aBox, aIndex, callA, builtinA, Fr.evs, opt, val, when, AM.run, outV, newA, ptr, force_eq, seen_heap, seen_next, seen_mark, seen_seen, agg_cells, int_cells, Fr.ev, Fr.put, onFr, gps, gpn, bltT, still, flat, List.append_nil, List.nil_append, List.cons_append, Nat.reduceEqDiff, ne_eq, not_false_eq_true, reduceCtorEq, Bool.and_true, Bool.true_and, Bool.and_false, Bool.false_and, Bool.not_true, Bool.not_false, Bool.and_self]; rfl
  case h2 => intro h; cases h
  intro _
  repeat apply go_seq
  apply go_region
  case h => intro m; simp (maxSteps := 2000000) (disch := decide) only [opsLoop, evOper, wantedA, nth, aop, aPick, aBin, aIndexAddr, aFieldAddr, aLoad, aStore, aExtract, aConvert, aAlloc, aBox, aIndex, callA, builtinA, Fr.evs, opt, val, when, AM.run, outV, newA, ptr, force_eq, seen_heap, seen_next, seen_mark, seen_seen, agg_cells, int_cells, Fr.ev, Fr.put, onFr, gps, gpn, bltT, still, flat, List.append_nil, List.nil_append, List.cons_append, Nat.reduceEqDiff, ne_eq, not_false_eq_true, reduceCtorEq, Bool.and_true, Bool.true_and, Bool.and_false, Bool.false_and, Bool.not_true, Bool.not_false, Bool.and_self, g7, g11, tyLf, dsLf, fl1, ft1, fo1, tyI, szI, ble11, ad1, ng, int_cells, show Nat.beq ([Value.int .i64 (-(1 + (r : Int)))] : List Value).length 1 = true from rfl, st]; rfl
  refine ⟨rfl, _, rfl, ⟨L.lt, L.cell, L.len⟩, hn, ?_⟩
  simp (disch := decide) only [gps, gpn, g7]
set_option maxHeartbeats 400000 in
theorem edge_case4 (n N' z r : Nat) (hz : z ≤ 115) (hr : r ≤ 99) (hN : Nat.ble n lastName = true) (t : Tr Value) (s : S) (h : LfAt s n (edge z z)) (hn : s.next = N') (g7 : t.get 7 = some (.pointer (some ⟨n, 0, none⟩))) (g11 : t.get 11 = some (.int .i64 (1 + (r : Int)))) (g49 : t.get 49 = some (.int .i64 (.ofNat 4))) :
    GoC E (sumsOf sigL) cdLb ⟨6, t, 114, [], none⟩ s (PostB n N' z 4 r) := by
  have lit : ∀ k : Nat, (OfNat.ofNat k : Int) = Int.ofNat k := fun k => rfl
  have ng := u_negI (1 + (r : Int)) (by omega) (by omega)
  obtain ⟨c, e, rm, st, L⟩ := h.cell1 (k := 2) (v := .int .i64 (-(1 + (r : Int)))) (d' := turned z 4 r) hN (by omega) rfl rfl (turned_len z 4 r)
  simp only [cdLb, cdL, Tryd.f6, bodyOf, sub]
  repeat apply go_seq
  apply go_region
  case h => intro m; simp (maxSteps := 2000000) (disch := decide) only [opsLoop, evOper, wantedA, nth, aop, aPick, aBin, aIndexAddr, aFieldAddr, aLoad, aStore, aExtract, aConvert, aAlloc, aBox, aIndex, callA, builtinA, Fr.evs, opt, val, when, AM.run, outV, newA, ptr, force_eq, seen_heap, seen_next, seen_mark, seen_seen, agg_cells, int_cells, Fr.ev, Fr.put, onFr, gps, gpn, bltT, still, flat, List.append_nil, List.nil_append, List.cons_append, Nat.reduceEqDiff, ne_eq, not_false_eq_true, reduceCtorEq, Bool.and_true, Bool.true_and, Bool.and_false, Bool.false_and, Bool.not_true, Bool.not_false, Bool.and_self, g49, b_eql, show eqI (Int.ofNat 4) 0 = false from rfl]; rfl
  repeat apply go_seq
  apply go_cond
  case hc => simp (disch := decide) only [opsLoop, evOper, wantedA, nth, aop, aPick, aBin, aIndexAddr, aFieldAddr, aLoad, aStore, aExtract, aConvert, aAlloc, aBox, aIndex, callA, builtinA, Fr.evs, opt, val, when, AM.run, outV, newA, ptr, force_eq, seen_heap, seen_next, seen_mark, seen_seen, agg_cells, int_cells, Fr.ev, Fr.put, onFr, gps, gpn, bltT, still, flat, List.append_nil, List.nil_append, List.cons_append, Nat.reduceEqDiff, ne_eq, not_false_eq_true, reduceCtorEq, Bool.and_true, Bool.true_and, Bool.and_false, Bool.false_and, Bool.not_true, Bool.not_false, Bool.and_self]; rfl
  case h1 => intro h; cases h
  intro _
  repeat apply go_seq
  apply go_region
  case h => intro m; simp (maxSteps := 2000000) (disch := decide) only [opsLoop, evOper, wantedA, nth, aop, aPick, aBin, aIndexAddr, aFieldAddr, aLoad, aStore, aExtract, aConvert, aAlloc, aBox, aIndex, callA, builtinA, Fr.evs, opt, val, when, AM.run, outV, newA, ptr, force_eq, seen_heap, seen_next, seen_mark, seen_seen, agg_cells, int_cells, Fr.ev, Fr.put, onFr, gps, gpn, bltT, still, flat, List.append_nil, List.nil_append, List.cons_append, Nat.reduceEqDiff, ne_eq, not_false_eq_true, reduceCtorEq, Bool.and_true, Bool.true_and, Bool.and_false, Bool.false_and, Bool.not_true, Bool.not_false, Bool.and_self, g49, b_eql, show eqI (Int.ofNat 4) 1 = false from rfl]; rfl
  repeat apply go_seq
  apply go_cond
  case hc => simp (disch := decide) only [opsLoop, evOper, wantedA, nth, aop, aPick, aBin, aIndexAddr, aFieldAddr, aLoad, aStore, aExtract, aConvert, aAlloc, aBox, aIndex, callA, builtinA, Fr.evs, opt, val, when, AM.run, outV, newA, ptr, force_eq, seen_heap, seen_next, seen_mark, seen_seen, agg_cells, int_cells, Fr.ev, Fr.put, onFr, gps, gpn, bltT, still, flat, List.append_nil, List.nil_append, List.cons_append, Nat.reduceEqDiff, ne_eq, not_false_eq_true, reduceCtorEq, Bool.and_true, Bool.true_and, Bool.and_false, Bool.false_and, Bool.not_true, Bool.not_false, Bool.and_self]; rfl
  case h1 => intro h; cases h
  intro _
  repeat apply go_seq
  apply go_region
  case h => intro m; simp (maxSteps := 2000000) (disch := decide) only [opsLoop, evOper, wantedA, nth, aop, aPick, aBin, aIndexAddr, aFieldAddr, aLoad, aStore, aExtract, aConvert, aAlloc, aBox, aIndex, callA, builtinA, Fr.evs, opt, val, when, AM.run, outV, newA, ptr, force_eq, seen_heap, seen_next, seen_mark, seen_seen, agg_cells, int_cells, Fr.ev, Fr.put, onFr, gps, gpn, bltT, still, flat, List.append_nil, List.nil_append, List.cons_append, Nat.reduceEqDiff, ne_eq, not_false_eq_true, reduceCtorEq, Bool.and_true, Bool.true_and, Bool.and_false, Bool.false_and, Bool.not_true, Bool.not_false, Bool.and_self, g49, b_eql, show eqI (Int.ofNat 4) 2 = false from rfl]; rfl
  repeat apply go_seq
  apply go_cond
  case hc => simp (disch := decide) only [opsLoop, evOper, wantedA, nth, aop, aPick, aBin, aIndexAddr, aFieldAddr, aLoad, aStore, aExtract, aConvert, aAlloc, aBox, aIndex, callA, builtinA, Fr.evs, opt, val, when, AM.run, outV, newA, ptr, force_eq, seen_heap, seen_next, seen_mark, seen_seen, agg_cells, int_cells, Fr.ev, Fr.put, onFr, gps, gpn, bltT, still, flat, List.append_nil, List.nil_append, List.cons_append, Nat.reduceEqDiff, ne_eq, not_false_eq_true, reduceCtorEq, Bool.and_true, Bool.true_and, Bool.and_false, Bool.false_and, Bool.not_true, Bool.not_false, Bool.and_self]; rfl
  case h1 => intro h; cases h
  intro _
  repeat apply go_seq
  apply go_region
  case h => intro m; simp (maxSteps := 2000000) (disch := decide) only [opsLoop, evOper, wantedA, nth, aop, aPick, aBin, aIndexAddr, aFieldAddr, aLoad, aStore, aExtract, aConvert, aAlloc, aBox, aIndex, callA, builtinA, Fr.evs, opt, val, when, AM.run, outV, newA, ptr, force_eq, seen_heap, seen_next, seen_mark, seen_seen, agg_cells, int_cells, Fr.ev, Fr.put, onFr, gps, gpn, bltT, still, flat, List.append_nil, List.nil_append, List.cons_append, Nat.reduceEqDiff, ne_eq, not_false_eq_true, reduceCtorEq, Bool.and_true, Bool.true_and, Bool.and_false, Bool.false_and, Bool.not_true, Bool.not_false, Bool.and_self, g49, b_eql, show eqI (Int.ofNat 4) 3 = false from rfl]; rfl
  repeat apply go_seq
  apply go_cond
  case hc => simp (disch := decide) only [opsLoop, evOper, wantedA, nth, aop, aPick, aBin, aIndexAddr, aFieldAddr, aLoad, aStore, aExtract, aConvert, aAlloc, aBox, aIndex, callA, builtinA, Fr.evs, opt, val, when, AM.run, outV, newA, ptr, force_eq, seen_heap, seen_next, seen_mark, seen_seen, agg_cells, int_cells, Fr.ev, Fr.put, onFr, gps, gpn, bltT, still, flat, List.append_nil, List.nil_append, List.cons_append, Nat.reduceEqDiff, ne_eq, not_false_eq_true, reduceCtorEq, Bool.and_true, Bool.true_and, Bool.and_false, Bool.false_and, Bool.not_true, Bool.not_false, Bool.and_self]; rfl
  case h1 => intro h; cases h
  intro _
  repeat apply go_seq
  apply go_region
  case h => intro m; simp (maxSteps := 2000000) (disch := decide) only [opsLoop, evOper, wantedA, nth, aop, aPick, aBin, aIndexAddr, aFieldAddr, aLoad, aStore, aExtract, aConvert, aAlloc, aBox, aIndex, callA, builtinA, Fr.evs, opt, val, when, AM.run, outV, newA, ptr, force_eq, seen_heap, seen_next, seen_mark, seen_seen, agg_cells, int_cells, Fr.ev, Fr.put, onFr, gps, gpn, bltT, still, flat, List.append_nil, List.nil_append, List.cons_append, Nat.reduceEqDiff, ne_eq, not_false_eq_true, reduceCtorEq, Bool.and_true, Bool.true_and, Bool.and_false, Bool.false_and, Bool.not_true, Bool.not_false, Bool.and_self, g49, b_eql, show eqI (Int.ofNat 4) 4 = true from rfl]; rfl
  repeat apply go_seq
  apply go_cond
  case hc => simp (disch := decide) only [opsLoop, evOper, wantedA, nth, aop, aPick, aBin, aIndexAddr, aFieldAddr, aLoad, aStore, aExtract, aConvert, aAlloc, aBox, aIndex, callA, builtinA, Fr.evs, opt, val, when, AM.run, outV, newA, ptr, force_eq, seen_heap, seen_next, seen_mark, seen_seen, agg_cells, int_cells, Fr.ev, Fr.put, onFr, gps, gpn, bltT, still, flat, List.append_nil, List.nil_append, List.cons_append, Nat.reduceEqDiff, ne_eq, not_false_eq_true, reduceCtorEq, Bool.and_true, Bool.true_and, Bool.and_false, Bool.false_and, Bool.not_true, Bool.not_false, Bool.and_self]; rfl
  case h2 => intro h; cases h
  intro _
  repeat apply go_seq
  apply go_region
  case h => intro m; simp (maxSteps := 2000000) (disch := decide) only [opsLoop, evOper, wantedA, nth, aop, aPick, aBin, aIndexAddr, aFieldAddr, aLoad, aStore, aExtract, aConvert, aAlloc, aBox, aIndex, callA, builtinA, Fr.evs, opt, val, when, AM.run, outV, newA, ptr, force_eq, seen_heap, seen_next, seen_mark, seen_seen, agg_cells, int_cells, Fr.ev, Fr.put, onFr, gps, gpn, bltT, still, flat, List.append_nil, List.nil_append, List.cons_append, Nat.reduceEqDiff, ne_eq, not_false_eq_true, reduceCtorEq, Bool.and_true, Bool.true_and, Bool.and_false, Bool.false_and, Bool.not_true, Bool.not_false, Bool.and_self, g7, g11, tyLf, dsLf, fl2, ft2, fo2, tyI, szI, ble11, ad2, ng, int_cells, show Nat.beq ([Value.int .i64 (-(1 + (r : Int)))] : List Value).length 1 = true from rfl, st]; rfl
  refine ⟨rfl, _, rfl, ⟨L.lt, L.cell, L.len⟩, hn, ?_⟩
  simp (disch := decide) only [gps, gpn, g7]
set_option maxHeartbeats 400000 in
theorem edge_case5 (n N' z r : Nat) (hz : z ≤ 115) (hr : r ≤ 99) (hN : Nat.ble n lastName = true) (t : Tr Value) (s : S) (h : LfAt s n (edge z z)) (hn : s.next = N') (g7 : t.get 7 = some (.pointer (some ⟨n, 0, none⟩))) (g11 : t.get 11 = some (.int .i64 (1 + (r : Int)))) (g49 : t.get 49 = some (.int .i64 (.ofNat 5))) :
    GoC E (sumsOf sigL) cdLb ⟨6, t, 114, [], none⟩ s (PostB n N' z 5 r) := by
  have lit : ∀ k : Nat, (OfNat.ofNat k : Int) = Int.ofNat k := fun k => rfl
  have ng := u_negI (1 + (r : Int)) (by omega) (by omega)
  obtain ⟨c, e, rm, st, L⟩ := h.cell1 (k := 3) (v := .int .i64 (-(1 + (r : Int)))) (d' := turned z 5 r) hN (by omega) rfl rfl (turned_len z 5 r)
  simp only [cdLb, cdL, Tryd.f6, bodyOf, sub]
  repeat apply go_seq
  apply go_region
  case h => intro m; simp (maxSteps := 2000000) (disch := decide) only [opsLoop, evOper, wantedA, nth, aop, aPick, aBin, aIndexAddr, aFieldAddr, aLoad, aStore, aExtract, aConvert, aAlloc, aBox, aIndex, callA, builtinA, Fr.evs, opt, val, when, AM.run, outV, newA, ptr, force_eq, seen_heap, seen_next, seen_mark, seen_seen, agg_cells, int_cells, Fr.ev, Fr.put, onFr, gps, gpn, bltT, still, flat, List.append_nil, List.nil_append, List.cons_append, Nat.reduceEqDiff, ne_eq, not_false_eq_true, reduceCtorEq, Bool.and_true, Bool.true_and, Bool.and_false, Bool.false_and, Bool.not_true, Bool.not_false, Bool.and_self, g49, b_eql, show eqI (Int.ofNat 5) 0 = false from rfl]; rfl
  repeat apply go_seq
  apply go_cond
  case hc => simp (disch := decide) only [opsLoop, evOper, wantedA, nth, aop, aPick, aBin, aIndexAddr, aFieldAddr, aLoad, aStore, aExtract, aConvert, aAlloc, aBox, aIndex, callA, builtinA, Fr.evs, opt, val, when, AM.run, outV, newA, ptr, force_eq, seen_heap, seen_next, seen_mark, seen_seen, agg_cells, int_cells, Fr.ev, Fr.put, onFr, gps, gpn, bltT, still, flat, List.append_nil, List.nil_append, List.cons_append, Nat.reduceEqDiff, ne_eq, not_false_eq_true, reduceCtorEq, Bool.and_true, Bool.true_and, Bool.and_false, Bool.false_and, Bool.not_true, Bool.not_false, Bool.and_self]; rfl
  case h1 => intro h; cases h
  intro _
  repeat apply go_seq
  apply go_region
  case h => intro m; simp (maxSteps := 2000000) (disch := decide) only [opsLoop, evOper, wantedA, nth, aop, aPick, aBin, aIndexAddr, aFieldAddr, aLoad, aStore, aExtract, aConvert, aAlloc, aBox, aIndex, callA, builtinA, Fr.evs, opt, val, when, AM.run, outV, newA, ptr, force_eq, seen_heap, seen_next, seen_mark, seen_seen, agg_cells, int_cells, Fr.ev, Fr.put, onFr, gps, gpn, bltT, still, flat, List.append_nil, List.nil_append, List.cons_append, Nat.reduceEqDiff, ne_eq, not_false_eq_true, reduceCtorEq, Bool.and_true, Bool.true_and, Bool.and_false, Bool.false_and, Bool.not_true, Bool.not_false, Bool.and_self, g49, b_eql, show eqI (Int.ofNat 5) 1 = false from rfl]; rfl
  repeat apply go_seq
  apply go_cond
  case hc => simp (disch := decide) only [opsLoop, evOper, wantedA, nth, aop, aPick, aBin, aIndexAddr, aFieldAddr, aLoad, aStore, aExtract, aConvert, aAlloc, aBox, aIndex, callA, builtinA, Fr.evs, opt, val, when, AM.run, outV, newA, ptr, force_eq, seen_heap, seen_next, seen_mark, seen_seen, agg_cells, int_cells, Fr.ev, Fr.put, onFr, gps, gpn, bltT, still, flat, List.append_nil, List.nil_append, List.cons_append, Nat.reduceEqDiff, ne_eq, not_false_eq_true, reduceCtorEq, Bool.and_true, Bool.true_and, Bool.and_false, Bool.false_and, Bool.not_true, Bool.not_false, Bool.and_self]; rfl
  case h1 => intro h; cases h
  intro _
  repeat apply go_seq
  apply go_region
  case h => intro m; simp (maxSteps := 2000000) (disch := decide) only [opsLoop, evOper, wantedA, nth, aop, aPick, aBin, aIndexAddr, aFieldAddr, aLoad, aStore, aExtract, aConvert, aAlloc, aBox, aIndex, callA, builtinA, Fr.evs, opt, val, when, AM.run, outV, newA, ptr, force_eq, seen_heap, seen_next, seen_mark, seen_seen, agg_cells, int_cells, Fr.ev, Fr.put, onFr, gps, gpn, bltT, still, flat, List.append_nil, List.nil_append, List.cons_append, Nat.reduceEqDiff, ne_eq, not_false_eq_true, reduceCtorEq, Bool.and_true, Bool.true_and, Bool.and_false, Bool.false_and, Bool.not_true, Bool.not_false, Bool.and_self, g49, b_eql, show eqI (Int.ofNat 5) 2 = false from rfl]; rfl
  repeat apply go_seq
  apply go_cond
  case hc => simp (disch := decide) only [opsLoop, evOper, wantedA, nth, aop, aPick, aBin, aIndexAddr, aFieldAddr, aLoad, aStore, aExtract, aConvert, aAlloc, aBox, aIndex, callA, builtinA, Fr.evs, opt, val, when, AM.run, outV, newA, ptr, force_eq, seen_heap, seen_next, seen_mark, seen_seen, agg_cells, int_cells, Fr.ev, Fr.put, onFr, gps, gpn, bltT, still, flat, List.append_nil, List.nil_append, List.cons_append, Nat.reduceEqDiff, ne_eq, not_false_eq_true, reduceCtorEq, Bool.and_true, Bool.true_and, Bool.and_false, Bool.false_and, Bool.not_true, Bool.not_false, Bool.and_self]; rfl
  case h1 => intro h; cases h
  intro _
  repeat apply go_seq
  apply go_region
  case h => intro m; simp (maxSteps := 2000000) (disch := decide) only [opsLoop, evOper, wantedA, nth, aop, aPick, aBin, aIndexAddr, aFieldAddr, aLoad, aStore, aExtract, aConvert, aAlloc, aBox, aIndex, callA, builtinA, Fr.evs, opt, val, when, AM.run, outV, newA, ptr, force_eq, seen_heap, seen_next, seen_mark, seen_seen, agg_cells, int_cells, Fr.ev, Fr.put, onFr, gps, gpn, bltT, still, flat, List.append_nil, List.nil_append, List.cons_append, Nat.reduceEqDiff, ne_eq, not_false_eq_true, reduceCtorEq, Bool.and_true, Bool.true_and, Bool.and_false, Bool.false_and, Bool.not_true, Bool.not_false, Bool.and_self, g49, b_eql, show eqI (Int.ofNat 5) 3 = false from rfl]; rfl
  repeat apply go_seq
  apply go_cond
  case hc => simp (disch := decide) only [opsLoop, evOper, wantedA, nth, aop, aPick, aBin, aIndexAddr, aFieldAddr, aLoad, aStore, aExtract, aConvert, aAlloc, aBox, aIndex, callA, builtinA, Fr.evs, opt, val, when, AM.run, outV, newA, ptr, force_eq, seen_heap, seen_next, seen_mark, seen_seen, agg_cells, int_cells, Fr.ev, Fr.put, onFr, gps, gpn, bltT, still, flat, List.append_nil, List.nil_append, List.cons_append, Nat.reduceEqDiff, ne_eq, not_false_eq_true, reduceCtorEq, Bool.and_true, Bool.true_and, Bool.and_false, Bool.false_and, Bool.not_true, Bool.not_false, Bool.and_self]; rfl
  case h1 => intro h; cases h
  intro _
  repeat apply go_seq
  apply go_region
  case h => intro m; simp (maxSteps := 2000000) (disch := decide) only [opsLoop, evOper, wantedA, nth, aop, aPick, aBin, aIndexAddr, aFieldAddr, aLoad, aStore, aExtract, aConvert, aAlloc, aBox, aIndex, callA, builtinA, Fr.evs, opt, val, when, AM.run, outV, newA, ptr, force_eq, seen_heap, seen_next, seen_mark, seen_seen, agg_cells, int_cells, Fr.ev, Fr.put, onFr, gps, gpn, bltT, still, flat, List.append_nil, List.nil_append, List.cons_append, Nat.reduceEqDiff, ne_eq, not_false_eq_true, reduceCtorEq, Bool.and_true, Bool.true_and, Bool.and_false, Bool.false_and, Bool.not_true, Bool.not_false, Bool.and_self, g49, b_eql, show eqI (Int.ofNat 5) 4 = false from rfl]; rfl
  repeat apply go_seq
  apply go_cond
  case hc => simp (disch := decide) only [opsLoop, evOper, wantedA, nth, aop, aPick, aBin, aIndexAddr, aFieldAddr, aLoad, aStore, aExtract, aConvert, aAlloc, aBox, aIndex, callA, builtinA, Fr.evs, opt, val, when, AM.run, outV, newA, ptr, force_eq, seen_heap, seen_next, seen_mark, seen_seen, agg_cells, int_cells, Fr.ev, Fr.put, onFr, gps, gpn, bltT, still, flat, List.append_nil, List.nil_append, List.cons_append, Nat.reduceEqDiff, ne_eq, not_false_eq_true, reduceCtorEq, Bool.and_true, Bool.true_and, Bool.and_false, Bool.false_and, Bool.not_true, Bool.not_false, Bool.and_self]; rfl
  case h1 => intro h; cases h
  intro _
  repeat apply go_seq
  apply go_region
  case h => intro m; simp (maxSteps := 2000000) (disch := decide) only [opsLoop, evOper, wantedA, nth, aop, aPick, aBin, aIndexAddr, aFieldAddr, aLoad, aStore, aExtract, aConvert, aAlloc, aBox, aIndex, callA, builtinA, Fr.evs, opt, val, when, AM.run, outV, newA, ptr, force_eq, seen_heap, seen_next, seen_mark, seen_seen, agg_cells, int_cells, Fr.ev, Fr.put, onFr, gps, gpn, bltT, still, flat, List.append_nil, List.nil_append, List.cons_append, Nat.reduceEqDiff, ne_eq, not_false_eq_true, reduceCtorEq, Bool.and_true, Bool.true_and, Bool.and_false, Bool.false_and, Bool.not_true, Bool.not_false, Bool.and_self, g49, b_eql, show eqI (Int.ofNat 5) 5 = true from rfl]; rfl
  repeat apply go_seq
  apply go_cond
  case hc => simp (disch := decide) only [opsLoop, evOper, wantedA, nth, aop, aPick, aBin, aIndexAddr, aFieldAddr, aLoad, aStore, aExtract, aConvert, aAlloc, aBox, aIndex, callA, builtinA, Fr.evs, opt, val, when, AM.run, outV, newA, ptr, force_eq, seen_heap, seen_next, seen_mark, seen_seen, agg_cells, int_cells, Fr.ev, Fr.put, onFr, gps, gpn, bltT, still, flat, List.append_nil, List.nil_append, List.cons_append, Nat.reduceEqDiff, ne_eq, not_false_eq_true, reduceCtorEq, Bool.and_true, Bool.true_and, Bool.and_false, Bool.false_and, Bool.not_true, Bool.not_false, Bool.and_self]; rfl
  case h2 => intro h; cases h
  intro _
  repeat apply go_seq
  apply go_region
  case h => intro m; simp (maxSteps := 2000000) (disch := decide) only [opsLoop, evOper, wantedA, nth, aop, aPick, aBin, aIndexAddr, aFieldAddr, aLoad, aStore, aExtract, aConvert, aAlloc, aBox, aIndex, callA, builtinA, Fr.evs, opt, val, when, AM.run, outV, newA, ptr, force_eq, seen_heap, seen_next, seen_mark, seen_seen, agg_cells, int_cells, Fr.ev, Fr.put, onFr, gps, gpn, bltT, still, flat, List.append_nil, List.nil_append, List.cons_append, Nat.reduceEqDiff, ne_eq, not_false_eq_true, reduceCtorEq, Bool.and_true, Bool.true_and, Bool.and_false, Bool.false_and, Bool.not_true, Bool.not_false, Bool.and_self, g7, g11, tyLf, dsLf, fl3, ft3, fo3, tyI, szI, ble11, ad3', ng, int_cells, show Nat.beq ([Value.int .i64 (-(1 + (r : Int)))] : List Value).length 1 = true from rfl, st]; rfl
  refine ⟨rfl, _, rfl, ⟨L.lt, L.cell, L.len⟩, hn, ?_⟩
  simp (disch := decide) only [gps, gpn, g7]
set_option maxHeartbeats 400000 in
theorem edge_case6 (n N' z r : Nat) (hz : z ≤ 115) (hr : r ≤ 99) (hN : Nat.ble n lastName = true) (t : Tr Value) (s : S) (h : LfAt s n (edge z z)) (hn : s.next = N') (g7 : t.get 7 = some (.pointer (some ⟨n, 0, none⟩))) (g11 : t.get 11 = some (.int .i64 (1 + (r : Int)))) (g49 : t.get 49 = some (.int .i64 (.ofNat 6))) :
    GoC E (sumsOf sigL) cdLb ⟨6, t, 114, [], none⟩ s (PostB n N' z 6 r) := by
  have lit : ∀ k : Nat, (OfNat.ofNat k : Int) = Int.ofNat k := fun k => rfl
  have ad := b_addI 2 (1 + (r : Int)) (by omega) (by omega)
  obtain ⟨c, e, rm, st, L⟩ := h.cell1 (k := 0) (v := .int .i64 (2 + (1 + (r : Int)))) (d' := turned z 6 r) hN (by omega) rfl rfl (turned_len z 6 r)
  simp only [cdLb, cdL, Tryd.f6, bodyOf, sub]
  repeat apply go_seq
  apply go_region
  case h => intro m; simp (maxSteps := 2000000) (disch := decide) only [opsLoop, evOper, wantedA, nth, aop, aPick, aBin, aIndexAddr, aFieldAddr, aLoad, aStore, aExtract, aConvert, aAlloc, aBox, aIndex, callA, builtinA, Fr.evs, opt, val, when, AM.run, outV, newA, ptr, force_eq, seen_heap, seen_next, seen_mark, seen_seen, agg_cells, int_cells, Fr.ev, Fr.put, onFr, gps, gpn, bltT, still, flat, List.append_nil, List.nil_append, List.cons_append, Nat.reduceEqDiff, ne_eq, not_false_eq_true, reduceCtorEq, Bool.and_true, Bool.true_and, Bool.and_false, Bool.false_and, Bool.not_true, Bool.not_false, Bool.and_self, g49, b_eql, show eqI (Int.ofNat 6) 0 = false from rfl]; rfl
  repeat apply go_seq
  apply go_cond
  case hc => simp (disch := decide) only [opsLoop, evOper, wantedA, nth, aop, aPick, aBin, aIndexAddr, aFieldAddr, aLoad, aStore, aExtract, aConvert, aAlloc, aBox, aIndex, callA, builtinA, Fr.evs, opt, val, when, AM.run, outV, newA, ptr, force_eq, seen_heap, seen_next, seen_mark, seen_seen, agg_cells, int_cells, Fr.ev, Fr.put, onFr, gps, gpn, bltT, still, flat, List.append_nil, List.nil_append, List.cons_append, Nat.reduceEqDiff, ne_eq, not_false_eq_true, reduceCtorEq, Bool.and_true, Bool.true_and, Bool.and_false, Bool.false_and, Bool.not_true, Bool.not_false, Bool.and_self]; rfl
  case h1 => intro h; cases h
  intro _
  repeat apply go_seq
  apply go_region
  case h => intro m; simp (maxSteps := 2000000) (disch := decide) only [opsLoop, evOper, wantedA, nth, aop, aPick, aBin, aIndexAddr, aFieldAddr, aLoad, aStore, aExtract, aConvert, aAlloc, aBox, aIndex, callA, builtinA, Fr.evs, opt, val, when, AM.run, outV, newA, ptr, force_eq, seen_heap, seen_next, seen_mark, seen_seen, agg_cells, int_cells, Fr.ev, Fr.put, onFr, gps, gpn, bltT, still, flat, List.append_nil, List.nil_append, List.cons_append, Nat.reduceEqDiff, ne_eq, not_false_eq_true, reduceCtorEq, Bool.and_true, Bool.true_and, Bool.and_false, Bool.false_and, Bool.not_true, Bool.not_false, Bool.and_self, g49, b_eql, show eqI (Int.ofNat 6) 1 = false from rfl]; rfl
  repeat apply go_seq
  apply go_cond
  case hc => simp (disch := decide) only [opsLoop, evOper, wantedA, nth, aop, aPick, aBin, aIndexAddr, aFieldAddr, aLoad, aStore, aExtract, aConvert, aAlloc, aBox, aIndex, callA, builtinA, Fr.evs, opt, val, when, AM.run, outV, newA, ptr, force_eq, seen_heap, seen_next, seen_mark, seen_seen, agg_cells, int_cells, Fr.ev, Fr.put, onFr, gps, gpn, bltT, still, flat, List.append_nil, List.nil_append, List.cons_append, Nat.reduceEqDiff, ne_eq, not_false_eq_true, reduceCtorEq, Bool.and_true, Bool.true_and, Bool.and_false, Bool.false_and, Bool.not_true, Bool.not_false, Bool.and_self]; rfl
  case h1 => intro h; cases h
  intro _
  repeat apply go_seq
  apply go_region
  case h => intro m; simp (maxSteps := 2000000) (disch := decide) only [opsLoop, evOper, wantedA, nth, aop, aPick, aBin, aIndexAddr, aFieldAddr, aLoad, aStore, aExtract, aConvert, aAlloc, aBox, aIndex, callA, builtinA, Fr.evs, opt, val, when, AM.run, outV, newA, ptr, force_eq, seen_heap, seen_next, seen_mark, seen_seen, agg_cells, int_cells, Fr.ev, Fr.put, onFr, gps, gpn, bltT, still, flat, List.append_nil, List.nil_append, List.cons_append, Nat.reduceEqDiff, ne_eq, not_false_eq_true, reduceCtorEq, Bool.and_true, Bool.true_and, Bool.and_false, Bool.false_and, Bool.not_true, Bool.not_false, Bool.and_self, g49, b_eql, show eqI (Int.ofNat 6) 2 = false from rfl]; rfl
  repeat apply go_seq
  apply go_cond
  case hc => simp (disch := decide) only [opsLoop, evOper, wantedA, nth, aop, aPick, aBin, aIndexAddr, aFieldAddr, aLoad, aStore, aExtract, aConvert, aAlloc, aBox, aIndex, callA, builtinA, Fr.evs, opt, val, when, AM.run, outV, newA, ptr, force_eq, seen_heap, seen_next, seen_mark, seen_seen, agg_cells, int_cells, Fr.ev, Fr.put, onFr, gps, gpn, bltT, still, flat, List.append_nil, List.nil_append, List.cons_append, Nat.reduceEqDiff, ne_eq, not_false_eq_true, reduceCtorEq, Bool.and_true, Bool.true_and, Bool.and_false, Bool.false_and, Bool.not_true, Bool.not_false, Bool.and_self]; rfl
  case h1 => intro h; cases h
  intro _
  repeat apply go_seq
  apply go_region
  case h => intro m; simp (maxSteps := 2000000) (disch := decide) only [opsLoop, evOper, wantedA, nth, aop, aPick, aBin, aIndexAddr, aFieldAddr, aLoad, aStore, aExtract, aConvert, aAlloc, aBox, aIndex, callA, builtinA, Fr.evs, opt, val, when, AM.run, outV, newA, ptr, force_eq, seen_heap, seen_next, seen_mark, seen_seen, agg_cells, int_cells, Fr.ev, Fr.put, onFr, gps, gpn, bltT, still, flat, List.append_nil, List.nil_append, List.cons_append, Nat.reduceEqDiff, ne_eq, not_false_eq_true, reduceCtorEq, Bool.and_true, Bool.true_and, Bool.and_false, Bool.false_and, Bool.not_true, Bool.not_false, Bool.and_self, g49, b_eql, show eqI (Int.ofNat 6) 3 = false from rfl]; rfl
  repeat apply go_seq
  apply go_cond
  case hc => simp (disch := decide) only [opsLoop, evOper, wantedA, nth, aop, aPick, aBin, aIndexAddr, aFieldAddr, aLoad, aStore, aExtract, aConvert, aAlloc, aBox, aIndex, callA, builtinA, Fr.evs, opt, val, when, AM.run, outV, newA, ptr, force_eq, seen_heap, seen_next, seen_mark, seen_seen, agg_cells, int_cells, Fr.ev, Fr.put, onFr, gps, gpn, bltT, still, flat, List.append_nil, List.nil_append, List.cons_append, Nat.reduceEqDiff, ne_eq, not_false_eq_true, reduceCtorEq, Bool.and_true, Bool.true_and, Bool.and_false, Bool.false_and, Bool.not_true, Bool.not_false, Bool.and_self]; rfl
  case h1 => intro h; cases h
  intro _
  repeat apply go_seq
  apply go_region
  case h => intro m; simp (maxSteps := 2000000) (disch := decide) only [opsLoop, evOper, wantedA, nth, aop, aPick, aBin, aIndexAddr, aFieldAddr, aLoad, aStore, aExtract, aConvert, aAlloc, aBox, aIndex, callA, builtinA, Fr.evs, opt, val, when, AM.run, outV, newA, ptr, force_eq, seen_heap, seen_next, seen_mark, seen_seen, agg_cells, int_cells, Fr.ev, Fr.put, onFr, gps, gpn, bltT, still, flat, List.append_nil, List.nil_append, List.cons_append, Nat.reduceEqDiff, ne_eq, not_false_eq_true, reduceCtorEq, Bool.and_true, Bool.true_and, Bool.and_false, Bool.false_and, Bool.not_true, Bool.not_false, Bool.and_self, g49, b_eql, show eqI (Int.ofNat 6) 4 = false from rfl]; rfl
  repeat apply go_seq
  apply go_cond
  case hc => simp (disch := decide) only [opsLoop, evOper, wantedA, nth, aop, aPick, aBin, aIndexAddr, aFieldAddr, aLoad, aStore, aExtract, aConvert, aAlloc, aBox, aIndex, callA, builtinA, Fr.evs, opt, val, when, AM.run, outV, newA, ptr, force_eq, seen_heap, seen_next, seen_mark, seen_seen, agg_cells, int_cells, Fr.ev, Fr.put, onFr, gps, gpn, bltT, still, flat, List.append_nil, List.nil_append, List.cons_append, Nat.reduceEqDiff, ne_eq, not_false_eq_true, reduceCtorEq, Bool.and_true, Bool.true_and, Bool.and_false, Bool.false_and, Bool.not_true, Bool.not_false, Bool.and_self]; rfl
  case h1 => intro h; cases h
  intro _
  repeat apply go_seq
  apply go_region
  case h => intro m; simp (maxSteps := 2000000) (disch := decide) only [opsLoop, evOper, wantedA, nth, aop, aPick, aBin, aIndexAddr, aFieldAddr, aLoad, aStore, aExtract, aConvert, aAlloc, aBox, aIndex, callA, builtinA, Fr.evs, opt, val, when, AM.run, outV, newA, ptr, force_eq, seen_heap, seen_next, seen_mark, seen_seen, agg_cells, int_cells, Fr.ev, Fr.put, onFr, gps, gpn, bltT, still, flat, List.append_nil, List.nil_append, List.cons_append, Nat.reduceEqDiff, ne_eq, not_false_eq_true, reduceCtorEq, Bool.and_true, Bool.true_and, Bool.and_false, Bool.false_and, Bool.not_true, Bool.not_false, Bool.and_self, g49, b_eql, show eqI (Int.ofNat 6) 5 = false from rfl]; rfl
  repeat apply go_seq
  apply go_cond
  case hc => simp (disch := decide) only [opsLoop, evOper, wantedA, nth, aop, aPick, aBin, aIndexAddr, aFieldAddr, aLoad, aStore, aExtract, aConvert, aAlloc, aBox, aIndex, callA, builtinA, Fr.evs, opt, val, when, AM.run, outV, newA, ptr, force_eq, seen_heap, seen_next, seen_mark, seen_seen, agg_cells, int_cells, Fr.ev, Fr.put, onFr, gps, gpn, bltT, still, flat, List.append_nil, List.nil_append, List.cons_append, Nat.reduceEqDiff, ne_eq, not_false_eq_true, reduceCtorEq, Bool.and_true, Bool.true_and, Bool.and_false, Bool.false_and, Bool.not_true, Bool.not_false, Bool.and_self]; rfl
  case h1 => intro h; cases h
  intro _
  repeat apply go_seq
  apply go_region
  case h => intro m; simp (maxSteps := 2000000) (disch := decide) only [opsLoop, evOper, wantedA, nth, aop, aPick, aBin, aIndexAddr, aFieldAddr, aLoad, aStore, aExtract, aConvert, aAlloc, aBox, aIndex, callA, builtinA, Fr.evs, opt, val, when, AM.run, outV, newA, ptr, force_eq, seen_heap, seen_next, seen_mark, seen_seen, agg_cells, int_cells, Fr.ev, Fr.put, onFr, gps, gpn, bltT, still, flat, List.append_nil, List.nil_append, List.cons_append, Nat.reduceEqDiff, ne_eq, not_false_eq_true, reduceCtorEq, Bool.and_true, Bool.true_and, Bool.and_false, Bool.false_and, Bool.not_true, Bool.not_false, Bool.and_self, g49, b_eql, show eqI (Int.ofNat 6) 6 = true from rfl]; rfl
  repeat apply go_seq
  apply go_cond
  case hc => simp (disch := decide) only [opsLoop, evOper, wantedA, nth, aop, aPick, aBin, aIndexAddr, aFieldAddr, aLoad, aStore, aExtract, aConvert, aAlloc, aBox, aIndex, callA, builtinA, Fr.evs, opt, val, when, AM.run, outV, newA, ptr, force_eq, seen_heap, seen_next, seen_mark, seen_seen, agg_cells, int_cells, Fr.ev, Fr.put, onFr, gps, gpn, bltT, still, flat, List.append_nil, List.nil_append, List.cons_append, Nat.reduceEqDiff, ne_eq, not_false_eq_true, reduceCtorEq, Bool.and_true, Bool.true_and, Bool.and_false, Bool.false_and, Bool.not_true, Bool.not_false, Bool.and_self]; rfl
  case h2 => intro h; cases h
  intro _
  repeat apply go_seq
  apply go_region
  case h => intro m; simp (maxSteps := 2000000) (disch := decide) only [opsLoop, evOper, wantedA, nth, aop, aPick, aBin, aIndexAddr, aFieldAddr, aLoad, aStore, aExtract, aConvert, aAlloc, aBox, aIndex, callA, builtinA, Fr.evs, opt, val, when, AM.run, outV, newA, ptr, force_eq, seen_heap, seen_next, seen_mark, seen_seen, agg_cells, int_cells, Fr.ev, Fr.put, onFr, gps, gpn, bltT, still, flat, List.append_nil, List.nil_append, List.cons_append, Nat.reduceEqDiff, ne_eq, not_false_eq_true, reduceCtorEq, Bool.and_true, Bool.true_and, Bool.and_false, Bool.false_and, Bool.not_true, Bool.not_false, Bool.and_self, g7, g11, tyLf, dsLf, fl0, ft0, fo0, tyI, szI, ble11, ad0, ad, int_cells, show Nat.beq ([Value.int .i64 (2 + (1 + (r : Int)))] : List Value).length 1 = true from rfl, st]; rfl
  refine ⟨rfl, _, rfl, ⟨L.lt, L.cell, L.len⟩, hn, ?_⟩
  simp (disch := decide) only [gps, gpn, g7]
set_option maxHeartbeats 400000 in
theorem edge_case7 (n N' z r : Nat) (hz : z ≤ 115) (hr : r ≤ 99) (hN : Nat.ble n lastName = true) (t : Tr Value) (s : S) (h : LfAt s n (edge z z)) (hn : s.next = N') (g7 : t.get 7 = some (.pointer (some ⟨n, 0, none⟩))) (g11 : t.get 11 = some (.int .i64 (1 + (r : Int)))) (g49 : t.get 49 = some (.int .i64 (.ofNat 7))) :
    GoC E (sumsOf sigL) cdLb ⟨6, t, 114, [], none⟩ s (PostB n N' z 7 r) := by
  have lit : ∀ k : Nat, (OfNat.ofNat k : Int) = Int.ofNat k := fun k => rfl
  have l := h.get 4 (.int .i64 (Int.ofNat z)) rfl
  have hb := blt_iff.2 (show z < 116 by omega)
  have ha : addA ⟨n, 5, none⟩ z = ⟨n, 5 + z, none⟩ := sum.addA_eq ⟨n, 5, none⟩ z rfl
  have hcv : Value.int .u8 (wrapA .u8 (1 + (r : Int))) = bv (UInt8.ofNat (1 + r)) := cv8 (1 + r)
  have hone : oneB (bv (UInt8.ofNat (1 + r))) = true := rfl
  obtain ⟨c, e, rm, st, L⟩ := (h.rd (Rd.seen s n)).cell1 (k := 5 + z) (v := bv (UInt8.ofNat (1 + r))) (d' := turned z 7 r) hN (by omega) rfl (set_load (edge z z) z (UInt8.ofNat (1 + r))) (turned_len z 7 r)
  simp only [cdLb, cdL, Tryd.f6, bodyOf, sub]
  repeat apply go_seq
  apply go_region
  case h => intro m; simp (maxSteps := 2000000) (disch := decide) only [opsLoop, evOper, wantedA, nth, aop, aPick, aBin, aIndexAddr, aFieldAddr, aLoad, aStore, aExtract, aConvert, aAlloc, aBox, aIndex, callA, builtinA, Fr.evs, opt, val, when, AM.run, outV, newA, ptr, force_eq, seen_heap, seen_next, seen_mark, seen_seen, agg_cells, int_cells, Fr.ev, Fr.put, onFr, gps, gpn, bltT, still, flat, List.append_nil, List.nil_append, List.cons_append, Nat.reduceEqDiff, ne_eq, not_false_eq_true, reduceCtorEq, Bool.and_true, Bool.true_and, Bool.and_false, Bool.false_and, Bool.not_true, Bool.not_false, Bool.and_self, g49, b_eql, show eqI (Int.ofNat 7) 0 = false from rfl]; rfl
  repeat apply go_seq
  apply go_cond
  case hc => simp (disch := decide) only [opsLoop, evOper, wantedA, nth, aop, aPick, aBin, aIndexAddr, aFieldAddr, aLoad, aStore, aExtract, aConvert, aAlloc, aBox, aIndex, callA, builtinA, Fr.evs, opt, val, when, AM.run, outV, newA, ptr, force_eq, seen_heap, seen_next, seen_mark, seen_seen, agg_cells, int_cells, Fr.ev, Fr.put, onFr, gps, gpn, bltT, still, flat, List.append_nil, List.nil_append, List.cons_append, Nat.reduceEqDiff, ne_eq, not_false_eq_true, reduceCtorEq, Bool.and_true, Bool.true_and, Bool.and_false, Bool.false_and, Bool.not_true, Bool.not_false, Bool.and_self]; rfl
  case h1 => intro h; cases h
  intro _
  repeat apply go_seq
  apply go_region
  case h => intro m; simp (maxSteps := 2000000) (disch := decide) only [opsLoop, evOper, wantedA, nth, aop, aPick, aBin, aIndexAddr, aFieldAddr, aLoad, aStore, aExtract, aConvert, aAlloc, aBox, aIndex, callA, builtinA, Fr.evs, opt, val, when, AM.run, outV, newA, ptr, force_eq, seen_heap, seen_next, seen_mark, seen_seen, agg_cells, int_cells, Fr.ev, Fr.put, onFr, gps, gpn, bltT, still, flat, List.append_nil, List.nil_append, List.cons_append, Nat.reduceEqDiff, ne_eq, not_false_eq_true, reduceCtorEq, Bool.and_true, Bool.true_and, Bool.and_false, Bool.false_and, Bool.not_true, Bool.not_false, Bool.and_self, g49, b_eql, show eqI (Int.ofNat 7) 1 = false from rfl]; rfl
  repeat apply go_seq
  apply go_cond
  case hc => simp (disch := decide) only [opsLoop, evOper, wantedA, nth, aop, aPick, aBin, aIndexAddr, aFieldAddr, aLoad, aStore, aExtract, aConvert, aAlloc, aBox, aIndex, callA, builtinA, Fr.evs, opt, val, when, AM.run, outV, newA, ptr, force_eq, seen_heap, seen_next, seen_mark, seen_seen, agg_cells, int_cells, Fr.ev, Fr.put, onFr, gps, gpn, bltT, still, flat, List.append_nil, List.nil_append, List.cons_append, Nat.reduceEqDiff, ne_eq, not_false_eq_true, reduceCtorEq, Bool.and_true, Bool.true_and, Bool.and_false, Bool.false_and, Bool.not_true, Bool.not_false, Bool.and_self]; rfl
  case h1 => intro h; cases h
  intro _
  repeat apply go_seq
  apply go_region
  case h => intro m; simp (maxSteps := 2000000) (disch := decide) only [opsLoop, evOper, wantedA, nth, aop, aPick, aBin, aIndexAddr, aFieldAddr, aLoad, aStore, aExtract, aConvert, aAlloc, aBox, aIndex, callA, builtinA, Fr.evs, opt, val, when, AM.run, outV, newA, ptr, force_eq, seen_heap, seen_next, seen_mark, seen_seen, agg_cells, int_cells, Fr.ev, Fr.put, onFr, gps, gpn, bltT, still, flat, List.append_nil, List.nil_append, List.cons_append, Nat.reduceEqDiff, ne_eq, not_false_eq_true, reduceCtorEq, Bool.and_true, Bool.true_and, Bool.and_false, Bool.false_and, Bool.not_true, Bool.not_false, Bool.and_self, g49, b_eql, show eqI (Int.ofNat 7) 2 = false from rfl]; rfl
  repeat apply go_seq
  apply go_cond
  case hc => simp (disch := decide) only [opsLoop, evOper, wantedA, nth, aop, aPick, aBin, aIndexAddr, aFieldAddr, aLoad, aStore, aExtract, aConvert, aAlloc, aBox, aIndex, callA, builtinA, Fr.evs, opt, val, when, AM.run, outV, newA, ptr, force_eq, seen_heap, seen_next, seen_mark, seen_seen, agg_cells, int_cells, Fr.ev, Fr.put, onFr, gps, gpn, bltT, still, flat, List.append_nil, List.nil_append, List.cons_append, Nat.reduceEqDiff, ne_eq, not_false_eq_true, reduceCtorEq, Bool.and_true, Bool.true_and, Bool.and_false, Bool.false_and, Bool.not_true, Bool.not_false, Bool.and_self]; rfl
  case h1 => intro h; cases h
  intro _
  repeat apply go_seq
  apply go_region
  case h => intro m; simp (maxSteps := 2000000) (disch := decide) only [opsLoop, evOper, wantedA, nth, aop, aPick, aBin, aIndexAddr, aFieldAddr, aLoad, aStore, aExtract, aConvert, aAlloc, aBox, aIndex, callA, builtinA, Fr.evs, opt, val, when, AM.run, outV, newA, ptr, force_eq, seen_heap, seen_next, seen_mark, seen_seen, agg_cells, int_cells, Fr.ev, Fr.put, onFr, gps, gpn, bltT, still, flat, List.append_nil, List.nil_append, List.cons_append, Nat.reduceEqDiff, ne_eq, not_false_eq_true, reduceCtorEq, Bool.and_true, Bool.true_and, Bool.and_false, Bool.false_and, Bool.not_true, Bool.not_false, Bool.and_self, g49, b_eql, show eqI (Int.ofNat 7) 3 = false from rfl]; rfl
  repeat apply go_seq
  apply go_cond
  case hc => simp (disch := decide) only [opsLoop, evOper, wantedA, nth, aop, aPick, aBin, aIndexAddr, aFieldAddr, aLoad, aStore, aExtract, aConvert, aAlloc, aBox, aIndex, callA, builtinA, Fr.evs, opt, val, when, AM.run, outV, newA, ptr, force_eq, seen_heap, seen_next, seen_mark, seen_seen, agg_cells, int_cells, Fr.ev, Fr.put, onFr, gps, gpn, bltT, still, flat, List.append_nil, List.nil_append, List.cons_append, Nat.reduceEqDiff, ne_eq, not_false_eq_true, reduceCtorEq, Bool.and_true, Bool.true_and, Bool.and_false, Bool.false_and, Bool.not_true, Bool.not_false, Bool.and_self]; rfl
  case h1 => intro h; cases h
  intro _
  repeat apply go_seq
  apply go_region
  case h => intro m; simp (maxSteps := 2000000) (disch := decide) only [opsLoop, evOper, wantedA, nth, aop, aPick, aBin, aIndexAddr, aFieldAddr, aLoad, aStore, aExtract, aConvert, aAlloc, aBox, aIndex, callA, builtinA, Fr.evs, opt, val, when, AM.run, outV, newA, ptr, force_eq, seen_heap, seen_next, seen_mark, seen_seen, agg_cells, int_cells, Fr.ev, Fr.put, onFr, gps, gpn, bltT, still, flat, List.append_nil, List.nil_append, List.cons_append, Nat.reduceEqDiff, ne_eq, not_false_eq_true, reduceCtorEq, Bool.and_true, Bool.true_and, Bool.and_false, Bool.false_and, Bool.not_true, Bool.not_false, Bool.and_self, g49, b_eql, show eqI (Int.ofNat 7) 4 = false from rfl]; rfl
  repeat apply go_seq
  apply go_cond
  case hc => simp (disch := decide) only [opsLoop, evOper, wantedA, nth, aop, aPick, aBin, aIndexAddr, aFieldAddr, aLoad, aStore, aExtract, aConvert, aAlloc, aBox, aIndex, callA, builtinA, Fr.evs, opt, val, when, AM.run, outV, newA, ptr, force_eq, seen_heap, seen_next, seen_mark, seen_seen, agg_cells, int_cells, Fr.ev, Fr.put, onFr, gps, gpn, bltT, still, flat, List.append_nil, List.nil_append, List.cons_append, Nat.reduceEqDiff, ne_eq, not_false_eq_true, reduceCtorEq, Bool.and_true, Bool.true_and, Bool.and_false, Bool.false_and, Bool.not_true, Bool.not_false, Bool.and_self]; rfl
  case h1 => intro h; cases h
  intro _
  repeat apply go_seq
  apply go_region
  case h => intro m; simp (maxSteps := 2000000) (disch := decide) only [opsLoop, evOper, wantedA, nth, aop, aPick, aBin, aIndexAddr, aFieldAddr, aLoad, aStore, aExtract, aConvert, aAlloc, aBox, aIndex, callA, builtinA, Fr.evs, opt, val, when, AM.run, outV, newA, ptr, force_eq, seen_heap, seen_next, seen_mark, seen_seen, agg_cells, int_cells, Fr.ev, Fr.put, onFr, gps, gpn, bltT, still, flat, List.append_nil, List.nil_append, List.cons_append, Nat.reduceEqDiff, ne_eq, not_false_eq_true, reduceCtorEq, Bool.and_true, Bool.true_and, Bool.and_false, Bool.false_and, Bool.not_true, Bool.not_false, Bool.and_self, g49, b_eql, show eqI (Int.ofNat 7) 5 = false from rfl]; rfl
  repeat apply go_seq
  apply go_cond
  case hc => simp (disch := decide) only [opsLoop, evOper, wantedA, nth, aop, aPick, aBin, aIndexAddr, aFieldAddr, aLoad, aStore, aExtract, aConvert, aAlloc, aBox, aIndex, callA, builtinA, Fr.evs, opt, val, when, AM.run, outV, newA, ptr, force_eq, seen_heap, seen_next, seen_mark, seen_seen, agg_cells, int_cells, Fr.ev, Fr.put, onFr, gps, gpn, bltT, still, flat, List.append_nil, List.nil_append, List.cons_append, Nat.reduceEqDiff, ne_eq, not_false_eq_true, reduceCtorEq, Bool.and_true, Bool.true_and, Bool.and_false, Bool.false_and, Bool.not_true, Bool.not_false, Bool.and_self]; rfl
  case h1 => intro h; cases h
  intro _
  repeat apply go_seq
  apply go_region
  case h => intro m; simp (maxSteps := 2000000) (disch := decide) only [opsLoop, evOper, wantedA, nth, aop, aPick, aBin, aIndexAddr, aFieldAddr, aLoad, aStore, aExtract, aConvert, aAlloc, aBox, aIndex, callA, builtinA, Fr.evs, opt, val, when, AM.run, outV, newA, ptr, force_eq, seen_heap, seen_next, seen_mark, seen_seen, agg_cells, int_cells, Fr.ev, Fr.put, onFr, gps, gpn, bltT, still, flat, List.append_nil, List.nil_append, List.cons_append, Nat.reduceEqDiff, ne_eq, not_false_eq_true, reduceCtorEq, Bool.and_true, Bool.true_and, Bool.and_false, Bool.false_and, Bool.not_true, Bool.not_false, Bool.and_self, g49, b_eql, show eqI (Int.ofNat 7) 6 = false from rfl]; rfl
  repeat apply go_seq
  apply go_cond
  case hc => simp (disch := decide) only [opsLoop, evOper, wantedA, nth, aop, aPick, aBin, aIndexAddr, aFieldAddr, aLoad, aStore, aExtract, aConvert, aAlloc, aBox, aIndex, callA, builtinA, Fr.evs, opt, val, when, AM.run, outV, newA, ptr, force_eq, seen_heap, seen_next, seen_mark, seen_seen, agg_cells, int_cells, Fr.ev, Fr.put, onFr, gps, gpn, bltT, still, flat, List.append_nil, List.nil_append, List.cons_append, Nat.reduceEqDiff, ne_eq, not_false_eq_true, reduceCtorEq, Bool.and_true, Bool.true_and, Bool.and_false, Bool.false_and, Bool.not_true, Bool.not_false, Bool.and_self]; rfl
  case h1 => intro h; cases h
  intro _
  repeat apply go_seq
  apply go_region
  case h => intro m; simp (maxSteps := 2000000) (disch := decide) only [opsLoop, evOper, wantedA, nth, aop, aPick, aBin, aIndexAddr, aFieldAddr, aLoad, aStore, aExtract, aConvert, aAlloc, aBox, aIndex, callA, builtinA, Fr.evs, opt, val, when, AM.run, outV, newA, ptr, force_eq, seen_heap, seen_next, seen_mark, seen_seen, agg_cells, int_cells, Fr.ev, Fr.put, onFr, gps, gpn, bltT, still, flat, List.append_nil, List.nil_append, List.cons_append, Nat.reduceEqDiff, ne_eq, not_false_eq_true, reduceCtorEq, Bool.and_true, Bool.true_and, Bool.and_false, Bool.false_and, Bool.not_true, Bool.not_false, Bool.and_self, g49, b_eql, show eqI (Int.ofNat 7) 7 = true from rfl]; rfl
  repeat apply go_seq
  apply go_cond
  case hc => simp (disch := decide) only [opsLoop, evOper, wantedA, nth, aop, aPick, aBin, aIndexAddr, aFieldAddr, aLoad, aStore, aExtract, aConvert, aAlloc, aBox, aIndex, callA, builtinA, Fr.evs, opt, val, when, AM.run, outV, newA, ptr, force_eq, seen_heap, seen_next, seen_mark, seen_seen, agg_cells, int_cells, Fr.ev, Fr.put, onFr, gps, gpn, bltT, still, flat, List.append_nil, List.nil_append, List.cons_append, Nat.reduceEqDiff, ne_eq, not_false_eq_true, reduceCtorEq, Bool.and_true, Bool.true_and, Bool.and_false, Bool.false_and, Bool.not_true, Bool.not_false, Bool.and_self]; rfl
  case h2 => intro h; cases h
  intro _
  repeat apply go_seq
  apply go_region
  case h => intro m; simp (maxSteps := 2000000) (disch := decide) only [opsLoop, evOper, wantedA, nth, aop, aPick, aBin, aIndexAddr, aFieldAddr, aLoad, aStore, aExtract, aConvert, aAlloc, aBox, aIndex, callA, builtinA, Fr.evs, opt, val, when, AM.run, outV, newA, ptr, force_eq, seen_heap, seen_next, seen_mark, seen_seen, agg_cells, int_cells, Fr.ev, Fr.put, onFr, gps, gpn, bltT, still, flat, List.append_nil, List.nil_append, List.cons_append, Nat.reduceEqDiff, ne_eq, not_false_eq_true, reduceCtorEq, Bool.and_true, Bool.true_and, Bool.and_false, Bool.false_and, Bool.not_true, Bool.not_false, Bool.and_self, g7, g11, tyLf, dsLf, fl4, ft4, fo4, fl5, ft5, fo5, tyI, szI, dsI, tyU8, szU8, dsU8, tyA, szA, dsA, ble11, ble1A, ad4, ad5, l, hb, mul1, ha, hcv, bv_cells, show Nat.beq ([bv (UInt8.ofNat (1 + r))] : List Value).length 1 = true from rfl, st]; rfl
  refine ⟨rfl, _, rfl, ⟨L.lt, L.cell, L.len⟩, hn, ?_⟩
  simp (disch := decide) only [gps, gpn, g7]
set_option maxHeartbeats 400000 in
theorem edge_case8 (n N' z r : Nat) (hz : z ≤ 115) (hr : r ≤ 99) (hN : Nat.ble n lastName = true) (t : Tr Value) (s : S) (h : LfAt s n (edge z z)) (hn : s.next = N') (g7 : t.get 7 = some (.pointer (some ⟨n, 0, none⟩))) (g11 : t.get 11 = some (.int .i64 (1 + (r : Int)))) (g49 : t.get 49 = some (.int .i64 (.ofNat 8))) :
    GoC E (sumsOf sigL) cdLb ⟨6, t, 114, [], none⟩ s (PostB n N' z 8 r) := by
  have lit : ∀ k : Nat, (OfNat.ofNat k : Int) = Int.ofNat k := fun k => rfl
  have ad := b_addI 116 (1 + (r : Int)) (by omega) (by omega)
  obtain ⟨c, e, rm, st, L⟩ := h.cell1 (k := 4) (v := .int .i64 (116 + (1 + (r : Int)))) (d' := turned z 8 r) hN (by omega) rfl rfl (turned_len z 8 r)
  simp only [cdLb, cdL, Tryd.f6, bodyOf, sub]
  repeat apply go_seq
  apply go_region
  case h => intro m; simp (maxSteps := 2000000) (disch := decide) only [opsLoop, evOper, wantedA, nth, aop, aPick, aBin, aIndexAddr, aFieldAddr, aLoad, aStore, aExtract, aConvert, aAlloc, aBox, aIndex, callA, builtinA, Fr.evs, opt, val, when, AM.run, outV, newA, ptr, force_eq, seen_heap, seen_next, seen_mark, seen_seen, agg_cells, int_cells, Fr.ev, Fr.put, onFr, gps, gpn, bltT, still, flat, List.append_nil, List.nil_append, List.cons_append, Nat.reduceEqDiff, ne_eq, not_false_eq_true, reduceCtorEq, Bool.and_true, Bool.true_and, Bool.and_false, Bool.false_and, Bool.not_true, Bool.not_false, Bool.and_self, g49, b_eql, show eqI (Int.ofNat 8) 0 = false from rfl]; rfl
  repeat apply go_seq
  apply go_cond
  case hc => simp (disch := decide) only [opsLoop, evOper, wantedA, nth, aop, aPick, aBin, aIndexAddr, aFieldAddr, aLoad, aStore, aExtract, aConvert, aAlloc, aBox, aIndex, callA, builtinA, Fr.evs, opt, val, when, AM.run, outV, newA, ptr, force_eq, seen_heap, seen_next, seen_mark, seen_seen, agg_cells, int_cells, Fr.ev, Fr.put, onFr, gps, gpn, bltT, still, flat, List.append_nil, List.nil_append, List.cons_append, Nat.reduceEqDiff, ne_eq, not_false_eq_true, reduceCtorEq, Bool.and_true, Bool.true_and, Bool.and_false, Bool.false_and, Bool.not_true, Bool.not_false, Bool.and_self]; rfl
  case h1 => intro h; cases h
  intro _
  repeat apply go_seq
  apply go_region
  case h => intro m; simp (maxSteps := 2000000) (disch := decide) only [opsLoop, evOper, wantedA, nth, aop, aPick, aBin, aIndexAddr, aFieldAddr, aLoad, aStore, aExtract, aConvert, aAlloc, aBox, aIndex, callA, builtinA, Fr.evs, opt, val, when, AM.run, outV, newA, ptr, force_eq, seen_heap, seen_next, seen_mark, seen_seen, agg_cells, int_cells, Fr.ev, Fr.put, onFr, gps, gpn, bltT, still, flat, List.append_nil, List.nil_append, List.cons_append, Nat.reduceEqDiff, ne_eq, not_false_eq_true, reduceCtorEq, Bool.and_true, Bool.true_and, Bool.and_false, Bool.false_and, Bool.not_true, Bool.not_false, Bool.and_self, g49, b_eql, show eqI (Int.ofNat 8) 1 = false from rfl]; rfl
  repeat apply go_seq
  apply go_cond
  case hc => simp (disch := decide) only [opsLoop, evOper, wantedA, nth, aop, aPick, aBin, aIndexAddr, aFieldAddr, aLoad, aStore, aExtract, aConvert, aAlloc, aBox, aIndex, callA, builtinA, Fr.evs, opt, val, when, AM.run, outV, newA, ptr, force_eq, seen_heap, seen_next, seen_mark, seen_seen, agg_cells, int_cells, Fr.ev, Fr.put, onFr, gps, gpn, bltT, still, flat, List.append_nil, List.nil_append, List.cons_append, Nat.reduceEqDiff, ne_eq, not_false_eq_true, reduceCtorEq, Bool.and_true, Bool.true_and, Bool.and_false, Bool.false_and, Bool.not_true, Bool.not_false, Bool.and_self]; rfl
  case h1 => intro h; cases h
  intro _
  repeat apply go_seq
  apply go_region
  case h => intro m; simp (maxSteps := 2000000) (disch := decide) only [opsLoop, evOper, wantedA, nth, aop, aPick, aBin, aIndexAddr, aFieldAddr, aLoad, aStore, aExtract, aConvert, aAlloc, aBox, aIndex, callA, builtinA, Fr.evs, opt, val, when, AM.run, outV, newA, ptr, force_eq, seen_heap, seen_next, seen_mark, seen_seen, agg_cells, int_cells, Fr.ev, Fr.put, onFr, gps, gpn, bltT, still, flat, List.append_nil, List.nil_append, List.cons_append, Nat.reduceEqDiff, ne_eq, not_false_eq_true, reduceCtorEq, Bool.and_true, Bool.true_and, Bool.and_false, Bool.false_and, Bool.not_true, Bool.not_false, Bool.and_self, g49, b_eql, show eqI (Int.ofNat 8) 2 = false from rfl]; rfl
  repeat apply go_seq
  apply go_cond
  case hc => simp (disch := decide) only [opsLoop, evOper, wantedA, nth, aop, aPick, aBin, aIndexAddr, aFieldAddr, aLoad, aStore, aExtract, aConvert, aAlloc, aBox, aIndex, callA, builtinA, Fr.evs, opt, val, when, AM.run, outV, newA, ptr, force_eq, seen_heap, seen_next, seen_mark, seen_seen, agg_cells, int_cells, Fr.ev, Fr.put, onFr, gps, gpn, bltT, still, flat, List.append_nil, List.nil_append, List.cons_append, Nat.reduceEqDiff, ne_eq, not_false_eq_true, reduceCtorEq, Bool.and_true, Bool.true_and, Bool.and_false, Bool.false_and, Bool.not_true, Bool.not_false, Bool.and_self]; rfl
  case h1 => intro h; cases h
  intro _
  repeat apply go_seq
  apply go_region
  case h => intro m; simp (maxSteps := 2000000) (disch := decide) only [opsLoop, evOper, wantedA, nth, aop, aPick, aBin, aIndexAddr, aFieldAddr, aLoad, aStore, aExtract, aConvert, aAlloc, aBox, aIndex, callA, builtinA, Fr.evs, opt, val, when, AM.run, outV, newA, ptr, force_eq, seen_heap, seen_next, seen_mark, seen_seen, agg_cells, int_cells, Fr.ev, Fr.put, onFr, gps, gpn, bltT, still, flat, List.append_nil, List.nil_append, List.cons_append, Nat.reduceEqDiff, ne_eq, not_false_eq_true, reduceCtorEq, Bool.and_true, Bool.true_and, Bool.and_false, Bool.false_and, Bool.not_true, Bool.not_false, Bool.and_self, g49, b_eql, show eqI (Int.ofNat 8) 3 = false from rfl]; rfl
  repeat apply go_seq
  apply go_cond
  case hc => simp (disch := decide) only [opsLoop, evOper, wantedA, nth, aop, aPick, aBin, aIndexAddr, aFieldAddr, aLoad, aStore, aExtract, aConvert, aAlloc, aBox, aIndex, callA, builtinA, Fr.evs, opt, val, when, AM.run, outV, newA, ptr, force_eq, seen_heap, seen_next, seen_mark, seen_seen, agg_cells, int_cells, Fr.ev, Fr.put, onFr, gps, gpn, bltT, still, flat, List.append_nil, List.nil_append, List.cons_append, Nat.reduceEqDiff, ne_eq, not_false_eq_true, reduceCtorEq, Bool.and_true, Bool.true_and, Bool.and_false, Bool.false_and, Bool.not_true, Bool.not_false, Bool.and_self]; rfl
  case h1 => intro h; cases h
  intro _
  repeat apply go_seq
  apply go_region
  case h => intro m; simp (maxSteps := 2000000) (disch := decide) only [opsLoop, evOper, wantedA, nth, aop, aPick, aBin, aIndexAddr, aFieldAddr, aLoad, aStore, aExtract, aConvert, aAlloc, aBox, aIndex, callA, builtinA, Fr.evs, opt, val, when, AM.run, outV, newA, ptr, force_eq, seen_heap, seen_next, seen_mark, seen_seen, agg_cells, int_cells, Fr.ev, Fr.put, onFr, gps, gpn, bltT, still, flat, List.append_nil, List.nil_append, List.cons_append, Nat.reduceEqDiff, ne_eq, not_false_eq_true, reduceCtorEq, Bool.and_true, Bool.true_and, Bool.and_false, Bool.false_and, Bool.not_true, Bool.not_false, Bool.and_self, g49, b_eql, show eqI (Int.ofNat 8) 4 = false from rfl]; rfl
  repeat apply go_seq
  apply go_cond
  case hc => simp (disch := decide) only [opsLoop, evOper, wantedA, nth, aop, aPick, aBin, aIndexAddr, aFieldAddr, aLoad, aStore, aExtract, aConvert, aAlloc, aBox, aIndex, callA, builtinA, Fr.evs, opt, val, when, AM.run, outV, newA, ptr, force_eq, seen_heap, seen_next, seen_mark, seen_seen, agg_cells, int_cells, Fr.ev, Fr.put, onFr, gps, gpn, bltT, still, flat, List.append_nil, List.nil_append, List.cons_append, Nat.reduceEqDiff, ne_eq, not_false_eq_true, reduceCtorEq, Bool.and_true, Bool.true_and, Bool.and_false, Bool.false_and, Bool.not_true, Bool.not_false, Bool.and_self]; rfl
  case h1 => intro h; cases h
  intro _
  repeat apply go_seq
  apply go_region
  case h => intro m; simp (maxSteps := 2000000) (disch := decide) only [opsLoop, evOper, wantedA, nth, aop, aPick, aBin, aIndexAddr, aFieldAddr, aLoad, aStore, aExtract, aConvert, aAlloc, aBox, aIndex, callA, builtinA, Fr.evs, opt, val, when, AM.run, outV, newA, ptr, force_eq, seen_heap, seen_next, seen_mark, seen_seen, agg_cells, int_cells, Fr.ev, Fr.put, onFr, gps, gpn, bltT, still, flat, List.append_nil, List.nil_append, List.cons_append, Nat.reduceEqDiff, ne_eq, not_false_eq_true, reduceCtorEq, Bool.and_true, Bool.true_and, Bool.and_false, Bool.false_and, Bool.not_true, Bool.not_false, Bool.and_self, g49, b_eql, show eqI (Int.ofNat 8) 5 = false from rfl]; rfl
  repeat apply go_seq
  apply go_cond
  case hc => simp (disch := decide) only [opsLoop, evOper, wantedA, nth, aop, aPick, aBin, aIndexAddr, aFieldAddr, aLoad, aStore, aExtract, aConvert, aAlloc, aBox, aIndex, callA, builtinA, Fr.evs, opt, val, when, AM.run, outV, newA, ptr, force_eq, seen_heap, seen_next, seen_mark, seen_seen, agg_cells, int_cells, Fr.ev, Fr.put, onFr, gps, gpn, bltT, still, flat, List.append_nil, List.nil_append, List.cons_append, Nat.reduceEqDiff, ne_eq, not_false_eq_true, reduceCtorEq, Bool.and_true, Bool.true_and, Bool.and_false, Bool.false_and, Bool.not_true, Bool.not_false, Bool.and_self]; rfl
  case h1 => intro h; cases h
  intro _
  repeat apply go_seq
  apply go_region
  case h => intro m; simp (maxSteps := 2000000) (disch := decide) only [opsLoop, evOper, wantedA, nth, aop, aPick, aBin, aIndexAddr, aFieldAddr, aLoad, aStore, aExtract, aConvert, aAlloc, aBox, aIndex, callA, builtinA, Fr.evs, opt, val, when, AM.run, outV, newA, ptr, force_eq, seen_heap, seen_next, seen_mark, seen_seen, agg_cells, int_cells, Fr.ev, Fr.put, onFr, gps, gpn, bltT, still, flat, List.append_nil, List.nil_append, List.cons_append, Nat.reduceEqDiff, ne_eq, not_false_eq_true, reduceCtorEq, Bool.and_true, Bool.true_and, Bool.and_false, Bool.false_and, Bool.not_true, Bool.not_false, Bool.and_self, g49, b_eql, show eqI (Int.ofNat 8) 6 = false from rfl]; rfl
  repeat apply go_seq
  apply go_cond
  case hc => simp (disch := decide) only [opsLoop, evOper, wantedA, nth, aop, aPick, aBin, aIndexAddr, aFieldAddr, aLoad, aStore, aExtract, aConvert, aAlloc, aBox, aIndex, callA, builtinA, Fr.evs, opt, val, when, AM.run, outV, newA, ptr, force_eq, seen_heap, seen_next, seen_mark, seen_seen, agg_cells, int_cells, Fr.ev, Fr.put, onFr, gps, gpn, bltT, still, flat, List.append_nil, List.nil_append, List.cons_append, Nat.reduceEqDiff, ne_eq, not_false_eq_true, reduceCtorEq, Bool.and_true, Bool.true_and, Bool.and_false, Bool.false_and, Bool.not_true, Bool.not_false, Bool.and_self]; rfl
  case h1 => intro h; cases h
  intro _
  repeat apply go_seq
  apply go_region
  case h => intro m; simp (maxSteps := 2000000) (disch := decide) only [opsLoop, evOper, wantedA, nth, aop, aPick, aBin, aIndexAddr, aFieldAddr, aLoad, aStore, aExtract, aConvert, aAlloc, aBox, aIndex, callA, builtinA, Fr.evs, opt, val, when, AM.run, outV, newA, ptr, force_eq, seen_heap, seen_next, seen_mark, seen_seen, agg_cells, int_cells, Fr.ev, Fr.put, onFr, gps, gpn, bltT, still, flat, List.append_nil, List.nil_append, List.cons_append, Nat.reduceEqDiff, ne_eq, not_false_eq_true, reduceCtorEq, Bool.and_true, Bool.true_and, Bool.and_false, Bool.false_and, Bool.not_true, Bool.not_false, Bool.and_self, g49, b_eql, show eqI (Int.ofNat 8) 7 = false from rfl]; rfl
  repeat apply go_seq
  apply go_cond
  case hc => simp (disch := decide) only [opsLoop, evOper, wantedA, nth, aop, aPick, aBin, aIndexAddr, aFieldAddr, aLoad, aStore, aExtract, aConvert, aAlloc, aBox, aIndex, callA, builtinA, Fr.evs, opt, val, when, AM.run, outV, newA, ptr, force_eq, seen_heap, seen_next, seen_mark, seen_seen, agg_cells, int_cells, Fr.ev, Fr.put, onFr, gps, gpn, bltT, still, flat, List.append_nil, List.nil_append, List.cons_append, Nat.reduceEqDiff, ne_eq, not_false_eq_true, reduceCtorEq, Bool.and_true, Bool.true_and, Bool.and_false, Bool.false_and, Bool.not_true, Bool.not_false, Bool.and_self]; rfl
  case h1 => intro h; cases h
  intro _
  repeat apply go_seq
  apply go_region
  case h => intro m; simp (maxSteps := 2000000) (disch := decide) only [opsLoop, evOper, wantedA, nth, aop, aPick, aBin, aIndexAddr, aFieldAddr, aLoad, aStore, aExtract, aConvert, aAlloc, aBox, aIndex, callA, builtinA, Fr.evs, opt, val, when, AM.run, outV, newA, ptr, force_eq, seen_heap, seen_next, seen_mark, seen_seen, agg_cells, int_cells, Fr.ev, Fr.put, onFr, gps, gpn, bltT, still, flat, List.append_nil, List.nil_append, List.cons_append, Nat.reduceEqDiff, ne_eq, not_false_eq_true, reduceCtorEq, Bool.and_true, Bool.true_and, Bool.and_false, Bool.false_and, Bool.not_true, Bool.not_false, Bool.and_self, g7, g11, tyLf, dsLf, fl4, ft4, fo4, tyI, szI, ble11, ad4, ad, int_cells, show Nat.beq ([Value.int .i64 (116 + (1 + (r : Int)))] : List Value).length 1 = true from rfl, st]; rfl
  refine ⟨rfl, _, rfl, ⟨L.lt, L.cell, L.len⟩, hn, ?_⟩
  simp (disch := decide) only [gps, gpn, g7]
end Go.Proofs.YtioieffmihdheaaDoor.lf
end
end

section
/- Leaves: the law on edges. -/
noncomputable section
namespace Go.Proofs.YtioieffmihdheaaDoor.lf
open AE
set_option linter.unusedSimpArgs false
set_option linter.unusedVariables false
set_option maxRecDepth 10000

theorem getA_run {s : S} {ad : Addr} {l : List UInt8} {cap : Nat} (hb : Bs s ad l) (hl : l.length = 128) (hN : ∀ i, i < 3 + putN (sayL l) → Nat.ble (s.next + i) lastName = true) :
    ∃ s1, (getA [.slice (some ad) 128 cap]).run s = some (.tuple ⟨[.agg ⟨(getL l).cells⟩, .bool (getOK l)]⟩, s1) ∧ s1.next = s.next + (3 + putN (sayL l)) ∧ ∀ m, (m < s.next ∨ s.next + (3 + putN (sayL l)) ≤ m) → s1.heap.get m = s.heap.get m := by
  obtain ⟨s1, e1, e2, e3, e4⟩ := bump_ok (3 + putN (sayL l)) (AM.pure (Value.tuple ⟨[.agg ⟨(getL l).cells⟩, .bool (getOK l)]⟩)) (s.seen ad.block) hN
  refine ⟨s1, ?_, e2, ?_⟩
  · show (loadA ad 128 fun cs => opt (bytesV cs) fun l => bump (3 + putN (sayL l)) (.pure (Value.tuple ⟨[.agg ⟨(getL l).cells⟩, .bool (getOK l)]⟩))).run s = _
    have e := loadA_run hb (fun cs => opt (bytesV cs) fun l => bump (3 + putN (sayL l)) (AM.pure (Value.tuple ⟨[.agg ⟨(getL l).cells⟩, .bool (getOK l)]⟩)))
    rw [hl] at e
    rw [e, bytesV_map]
    exact e1
  · intro m hm
    rw [e4 m]
    show (if s.next ≤ m ∧ m < s.next + (3 + putN (sayL l)) then none else s.heap.get m) = _
    rw [if_neg (by omega)]

theorem putA_run0 {s : S} {d : LeafD} (hlen : d.load.length = 116) (hN : ∀ i, i < putN d → Nat.ble (s.next + i) lastName = true) :
    ∃ s1, (putA [.agg ⟨d.cells⟩]).run s = some (putV d s.next, s1) ∧ s1.next = s.next + putN d ∧
      (∀ m, (m < s.next ∨ s.next + putN d ≤ m) → s1.heap.get m = s.heap.get m) ∧ (rightL d = true → s1.heap.get (s.next + 9) = some (.cells (Tr.ofList ((putL d).map bv)) (putL d).length 5 .whole)) := by
  have e0 : (putA [.agg ⟨d.cells⟩]).run s = (match rightL d with
    | true => bump 9 (newB (putL d) fun r => bump 1 (.pure (.slice (some ⟨r, 0, none⟩) 128 128)))
    | false => bump 3 (.pure (.slice none 0 0))).run s := by
    show (opt (leafOf d.cells) fun d => match rightL d with
      | true => bump 9 (newB (putL d) fun r => bump 1 (.pure (.slice (some ⟨r, 0, none⟩) 128 128)))
      | false => bump 3 (.pure (.slice none 0 0))).run s = _
    rw [leafOf_cells d hlen]
    rfl
  rw [e0]
  unfold putN at hN ⊢
  unfold putV
  cases hR : rightL d with
  | false =>
    rw [hR] at hN
    obtain ⟨s1, a1, a2, a3, a6⟩ := bump_ok 3 (AM.pure (Value.slice none 0 0)) s hN
    exact ⟨s1, a1, a2, fun m h => by rw [a6 m, if_neg (by simp at h; omega)], fun h => by cases h⟩
  | true =>
    rw [hR] at hN
    simp only [if_true] at hN ⊢
    obtain ⟨s1, a1, a2, a3, a6⟩ := bump_ok 9 (newB (putL d) fun r => bump 1 (.pure (.slice (some ⟨r, 0, none⟩) 128 128))) s (fun i hi => hN i (by omega))
    have hN9 : Nat.ble (s.next + 9) lastName = true := hN 9 (by omega)
    obtain ⟨s2, b1, b2, b3, b6⟩ := bump_ok 1 (AM.pure (Value.slice (some ⟨s.next + 9, 0, none⟩) 128 128)) (s1.grow (.cells (Tr.ofList ((putL d).map bv)) (putL d).length 5 .whole))
      (fun i hi => by have : i = 0 := by omega
                      subst this
                      show Nat.ble (s1.next + 1) lastName = true
                      rw [a2]; exact hN 10 (by omega))
    have hg : ∀ m, (s1.grow (.cells (Tr.ofList ((putL d).map bv)) (putL d).length 5 .whole)).heap.get m = if m = s.next + 9 then some (.cells (Tr.ofList ((putL d).map bv)) (putL d).length 5 .whole) else s1.heap.get m := by
      intro m
      show (s1.heap.put s1.next _).get m = _
      rw [a2]
      by_cases h : m = s.next + 9
      · subst h; rw [hg_same hN9, if_pos rfl]
      · rw [hg_far hN9 h, if_neg h]
    have hnx : (s1.grow (.cells (Tr.ofList ((putL d).map bv)) (putL d).length 5 .whole)).next = s.next + 10 := by show s1.next + 1 = _; omega
    refine ⟨s2, ?_, by rw [b2, hnx], ?_, ?_⟩
    · rw [a1]
      simp only [newB, AM.run, force_eq]
      rw [a2]
      show (match Nat.ble (s.next + 9) lastName with | false => none | true => _) = _
      rw [hN9]
      have hs : (⟨s1.heap.put (s.next + 9) (some (.cells (Tr.ofList ((putL d).map bv)) (putL d).length 5 .whole)), Nat.succ (s.next + 9), s1.mark, s1.rd, s1.wr⟩ : S) = s1.grow (.cells (Tr.ofList ((putL d).map bv)) (putL d).length 5 .whole) := by
        show _ = S.mk _ _ _ _ _
        rw [a2]
      simp only [hs]
      exact b1
    · intro m h
      rw [b6 m, if_neg (by rw [hnx]; omega), hg m, if_neg (by omega), a6 m, if_neg (by omega)]
    · intro _
      rw [b6 _, if_neg (by rw [hnx]; omega), hg _, if_pos rfl]


def InvE (n z : Nat) (a0 a1 : Int) (k : Nat) (fr : Fr) (s : S) : Prop :=
  ∃ (i : Nat) (t : Tr Value), k = z - i ∧ i ≤ z ∧ fr = ⟨6, t, 114, [], none⟩ ∧ LfAt s n (edge z i) ∧ s.next = n + 1 ∧ t.get 0 = some (.int .i64 a0) ∧ t.get 1 = some (.int .i64 a1) ∧
    t.get 7 = some (.pointer (some ⟨n, 0, none⟩)) ∧ t.get 16 = some (.int .i64 (.ofNat z)) ∧ t.get 17 = some (.int .i64 (.ofNat i))
def PostE (n z : Nat) (a0 a1 : Int) (x : Ex) (fr : Fr) (s : S) : Prop :=
  x = .exit 0 ∧ ∃ t : Tr Value, fr = ⟨6, t, 114, [], none⟩ ∧ LfAt s n (edge z z) ∧ s.next = n + 1 ∧ t.get 0 = some (.int .i64 a0) ∧ t.get 1 = some (.int .i64 a1) ∧ t.get 7 = some (.pointer (some ⟨n, 0, none⟩))
set_option maxHeartbeats 400000 in
theorem edge_round (n z : Nat) (a0 a1 : Int) (hz : z ≤ 115) (hN : Nat.ble n lastName = true) (k : Nat) (fr : Fr) (s : S) (h : InvE n z a0 a1 k fr s) : GoC E (sumsOf sigL) cdLl fr s (Again (InvE n z a0 a1) k (PostE n z a0 a1)) := by
  obtain ⟨i, t, hk, hi, rfl, L, hn, g0, g1, g7, g16, g17⟩ := h
  simp only [cdLl, cdL, Tryd.f6, bodyOf, sub]
  by_cases hlt : i < z
  · have hlt' : ltI (Int.ofNat i) (Int.ofNat z) = true := by rw [ltI_eq]; simp; omega
    have hinc := b_incr (n := i) (by omega)
    have hb := blt_iff.2 (show i < 116 by omega)
    have ha : addA ⟨n, 5, none⟩ i = ⟨n, 5 + i, none⟩ := sum.addA_eq ⟨n, 5, none⟩ i rfl
    have hone : oneB (bv (UInt8.ofNat (i + 1))) = true := rfl
    have hcells : (edge z (i + 1)).cells = (edge z i).cells.set (5 + i) (bv (UInt8.ofNat (i + 1))) := by
      rw [← set_load]
      show (edge z (i + 1)).cells = ({ edge z i with load := (ldz i).set i (UInt8.ofNat (i + 1)) } : LeafD).cells
      rw [ldz_succ i (by omega)]
      rfl
    obtain ⟨c, e, rm, st, L2⟩ := L.cell1 (k := 5 + i) (v := bv (UInt8.ofNat (i + 1))) (d' := edge z (i + 1)) hN (by omega) hone hcells (ldz_len _)
    repeat apply go_seq
    apply go_region
    case h => intro m; simp (maxSteps := 2000000) (disch := decide) only [opsLoop, evOper, wantedA, nth, aop, aPick, aBin, aIndexAddr, aFieldAddr, aLoad, aStore, aExtract, aConvert, aAlloc, aBox, aIndex, callA, builtinA, Fr.evs, opt, val, when, AM.run, outV, newA, ptr, force_eq, seen_heap, seen_next, seen_mark, seen_seen, agg_cells, int_cells, Fr.ev, Fr.put, onFr, gps, gpn, bltT, still, flat, List.append_nil, List.nil_append, List.cons_append, Nat.reduceEqDiff, ne_eq, not_false_eq_true, reduceCtorEq, Bool.and_true, Bool.true_and, Bool.and_false, Bool.false_and, Bool.not_true, Bool.not_false, Bool.and_self, g16, g17, b_lss, hlt']; rfl
    repeat apply go_seq
    apply go_cond
    case hc => simp (disch := decide) only [opsLoop, evOper, wantedA, nth, aop, aPick, aBin, aIndexAddr, aFieldAddr, aLoad, aStore, aExtract, aConvert, aAlloc, aBox, aIndex, callA, builtinA, Fr.evs, opt, val, when, AM.run, outV, newA, ptr, force_eq, seen_heap, seen_next, seen_mark, seen_seen, agg_cells, int_cells, Fr.ev, Fr.put, onFr, gps, gpn, bltT, still, flat, List.append_nil, List.nil_append, List.cons_append, Nat.reduceEqDiff, ne_eq, not_false_eq_true, reduceCtorEq, Bool.and_true, Bool.true_and, Bool.and_false, Bool.false_and, Bool.not_true, Bool.not_false, Bool.and_self]; rfl
    case h2 => intro h; cases h
    intro _
    apply go_skip
    apply go_seq
    apply go_block
    repeat apply go_seq
    apply go_region
    case h => intro m; simp (maxSteps := 2000000) (disch := decide) only [opsLoop, evOper, wantedA, nth, aop, aPick, aBin, aIndexAddr, aFieldAddr, aLoad, aStore, aExtract, aConvert, aAlloc, aBox, aIndex, callA, builtinA, Fr.evs, opt, val, when, AM.run, outV, newA, ptr, force_eq, seen_heap, seen_next, seen_mark, seen_seen, agg_cells, int_cells, Fr.ev, Fr.put, onFr, gps, gpn, bltT, still, flat, List.append_nil, List.nil_append, List.cons_append, Nat.reduceEqDiff, ne_eq, not_false_eq_true, reduceCtorEq, Bool.and_true, Bool.true_and, Bool.and_false, Bool.false_and, Bool.not_true, Bool.not_false, Bool.and_self, g17]; rfl
    repeat apply go_seq
    apply go_region
    case h => intro m; simp (maxSteps := 2000000) (disch := decide) only [opsLoop, evOper, wantedA, nth, aop, aPick, aBin, aIndexAddr, aFieldAddr, aLoad, aStore, aExtract, aConvert, aAlloc, aBox, aIndex, callA, builtinA, Fr.evs, opt, val, when, AM.run, outV, newA, ptr, force_eq, seen_heap, seen_next, seen_mark, seen_seen, agg_cells, int_cells, Fr.ev, Fr.put, onFr, gps, gpn, bltT, still, flat, List.append_nil, List.nil_append, List.cons_append, Nat.reduceEqDiff, ne_eq, not_false_eq_true, reduceCtorEq, Bool.and_true, Bool.true_and, Bool.and_false, Bool.false_and, Bool.not_true, Bool.not_false, Bool.and_self, int1, hinc, tyU8, dsU8, szU8, tyI, dsI, cv8, g7, tyLf, dsLf, fl5, ft5, fo5, tyA, dsA, szA, ble1A, ad5, hb, mul1, ha, bv_cells, show Nat.beq ([bv (UInt8.ofNat (i + 1))] : List Value).length (Int.ofNat 1).toNat = true from rfl, show Nat.beq ([bv (UInt8.ofNat (i + 1))] : List Value).length 1 = true from rfl, st]; rfl
    repeat apply go_seq
    apply go_region
    case h => intro m; simp (maxSteps := 2000000) (disch := decide) only [opsLoop, evOper, wantedA, nth, aop, aPick, aBin, aIndexAddr, aFieldAddr, aLoad, aStore, aExtract, aConvert, aAlloc, aBox, aIndex, callA, builtinA, Fr.evs, opt, val, when, AM.run, outV, newA, ptr, force_eq, seen_heap, seen_next, seen_mark, seen_seen, agg_cells, int_cells, Fr.ev, Fr.put, onFr, gps, gpn, bltT, still, flat, List.append_nil, List.nil_append, List.cons_append, Nat.reduceEqDiff, ne_eq, not_false_eq_true, reduceCtorEq, Bool.and_true, Bool.true_and, Bool.and_false, Bool.false_and, Bool.not_true, Bool.not_false, Bool.and_self, g17, int1, hinc]; rfl
    refine ⟨z - (i + 1), by omega, i + 1, _, rfl, by omega, rfl, ⟨L2.lt, L2.cell, L2.len⟩, hn, ?_, ?_, ?_, ?_, ?_⟩
    · simp (disch := decide) only [gps, gpn, g0]
    · simp (disch := decide) only [gps, gpn, g1]
    · simp (disch := decide) only [gps, gpn, g7]
    · simp (disch := decide) only [gps, gpn, g16]
    · simp (disch := decide) only [gps, gpn, g17]
  · obtain rfl : i = z := by omega
    have hlt' : ltI (Int.ofNat i) (Int.ofNat i) = false := by rw [ltI_eq]; simp
    repeat apply go_seq
    apply go_region
    case h => intro m; simp (maxSteps := 2000000) (disch := decide) only [opsLoop, evOper, wantedA, nth, aop, aPick, aBin, aIndexAddr, aFieldAddr, aLoad, aStore, aExtract, aConvert, aAlloc, aBox, aIndex, callA, builtinA, Fr.evs, opt, val, when, AM.run, outV, newA, ptr, force_eq, seen_heap, seen_next, seen_mark, seen_seen, agg_cells, int_cells, Fr.ev, Fr.put, onFr, gps, gpn, bltT, still, flat, List.append_nil, List.nil_append, List.cons_append, Nat.reduceEqDiff, ne_eq, not_false_eq_true, reduceCtorEq, Bool.and_true, Bool.true_and, Bool.and_false, Bool.false_and, Bool.not_true, Bool.not_false, Bool.and_self, g16, g17, b_lss, hlt']; rfl
    repeat apply go_seq
    apply go_cond
    case hc => simp (disch := decide) only [opsLoop, evOper, wantedA, nth, aop, aPick, aBin, aIndexAddr, aFieldAddr, aLoad, aStore, aExtract, aConvert, aAlloc, aBox, aIndex, callA, builtinA, Fr.evs, opt, val, when, AM.run, outV, newA, ptr, force_eq, seen_heap, seen_next, seen_mark, seen_seen, agg_cells, int_cells, Fr.ev, Fr.put, onFr, gps, gpn, bltT, still, flat, List.append_nil, List.nil_append, List.cons_append, Nat.reduceEqDiff, ne_eq, not_false_eq_true, reduceCtorEq, Bool.and_true, Bool.true_and, Bool.and_false, Bool.false_and, Bool.not_true, Bool.not_false, Bool.and_self]; rfl
    case h1 => intro h; cases h
    intro _
    apply go_exit
    refine ⟨rfl, _, rfl, L, hn, ?_, ?_, ?_⟩
    · simp (disch := decide) only [gps, gpn, g0]
    · simp (disch := decide) only [gps, gpn, g1]
    · simp (disch := decide) only [gps, gpn, g7]

theorem edge_all (n N' z w r : Nat) (hz : z ≤ 115) (hr : r ≤ 99) (hw : w ≤ 8) (hN : Nat.ble n lastName = true) (t : Tr Value) (s : S) (h : LfAt s n (edge z z)) (hn : s.next = N') (g7 : t.get 7 = some (.pointer (some ⟨n, 0, none⟩))) (g11 : t.get 11 = some (.int .i64 (1 + (r : Int)))) (g49 : t.get 49 = some (.int .i64 (.ofNat w))) :
    GoC E (sumsOf sigL) cdLb ⟨6, t, 114, [], none⟩ s (PostB n N' z w r) := by
  match w, hw with
  | 0, _ => exact edge_case0 n N' z r hz hr hN t s h hn g7 g11 g49
  | 1, _ => exact edge_case1 n N' z r hz hr hN t s h hn g7 g11 g49
  | 2, _ => exact edge_case2 n N' z r hz hr hN t s h hn g7 g11 g49
  | 3, _ => exact edge_case3 n N' z r hz hr hN t s h hn g7 g11 g49
  | 4, _ => exact edge_case4 n N' z r hz hr hN t s h hn g7 g11 g49
  | 5, _ => exact edge_case5 n N' z r hz hr hN t s h hn g7 g11 g49
  | 6, _ => exact edge_case6 n N' z r hz hr hN t s h hn g7 g11 g49
  | 7, _ => exact edge_case7 n N' z r hz hr hN t s h hn g7 g11 g49
  | 8, _ => exact edge_case8 n N' z r hz hr hN t s h hn g7 g11 g49

theorem fillE (z : Nat) : fillA (nthP [(0, 1), (1, 1), (2, 1), (3, 1), (4, 1), (5, 116)]) [(0, Value.int .i64 1), (1, .int .i64 65535), (2, .int .i64 65535), (3, .int .i64 65535), (4, .int .i64 (.ofNat z))] zeroL.cells = some (⟨1, 65535, 65535, 65535, Int.ofNat z, List.replicate 116 0⟩ : LeafD).cells := rfl
theorem edge0 (z : Nat) : (⟨1, 65535, 65535, 65535, Int.ofNat z, List.replicate 116 0⟩ : LeafD) = edge z 0 := by
  unfold edge
  rw [ldz_zero]

set_option maxHeartbeats 4000000 in
theorem edges_go (a0 a1 a2 : Int) (s : S) (hm : s.mark ≤ s.next) (hN : ∀ i, i < 60 → Nat.ble (s.next + i) lastName = true) :
    ∃ v s', v = Value.bool true ∧ ∃ n0, ∀ n, n0 ≤ n → evNext (evT E (sumsOf sigL) n) E (.enter 6 [.int .i64 a0, .int .i64 a1, .int .i64 a2]) s = some (.val v, s') := by
  refine go_enter (Q := fun v s' => v = Value.bool true) (fi := fiL) (c := cdL) (by kernel_rfl) (by kernel_rfl) 114 rfl rfl ?_
  have h0 : (Tr.ofList [Value.int .i64 a0, .int .i64 a1, .int .i64 a2]).get 0 = some (.int .i64 a0) := rfl
  have h1 : (Tr.ofList [Value.int .i64 a0, .int .i64 a1, .int .i64 a2]).get 1 = some (.int .i64 a1) := rfl
  have h2 : (Tr.ofList [Value.int .i64 a0, .int .i64 a1, .int .i64 a2]).get 2 = some (.int .i64 a2) := rfl
  generalize Tr.ofList [Value.int .i64 a0, .int .i64 a1, .int .i64 a2] = t at *
  obtain ⟨z, hzz, hz⟩ : ∃ z, wn a2 115 = z ∧ z ≤ 115 := ⟨_, rfl, wn_le a2 115⟩
  obtain ⟨r, hrr, hr⟩ : ∃ r, wn a1 99 = r ∧ r ≤ 99 := ⟨_, rfl, wn_le a1 99⟩
  obtain ⟨w, hww, hw⟩ : ∃ w, wn a0 8 = w ∧ w ≤ 8 := ⟨_, rfl, wn_le a0 8⟩
  have hN0 : Nat.ble s.next lastName = true := hN 0 (by omega)
  have hzb : Nat.ble zeroL.cells.length lastName = true := by rw [zeroL.len zero_len]; rfl
  simp only [cdL, Tryd.f6, bodyOf]
  repeat apply go_seq
  apply go_region
  case h => intro m; simp (maxSteps := 2000000) (disch := decide) only [opsLoop, evOper, wantedA, nth, aop, aPick, aBin, aIndexAddr, aFieldAddr, aLoad, aStore, aExtract, aConvert, aAlloc, aBox, aIndex, callA, builtinA, Fr.evs, opt, val, when, AM.run, outV, newA, ptr, force_eq, seen_heap, seen_next, seen_mark, seen_seen, agg_cells, int_cells, Fr.ev, Fr.put, onFr, gps, gpn, bltT, still, flat, List.append_nil, List.nil_append, List.cons_append, Nat.reduceEqDiff, ne_eq, not_false_eq_true, reduceCtorEq, Bool.and_true, Bool.true_and, Bool.and_false, Bool.false_and, Bool.not_true, Bool.not_false, Bool.and_self]; rfl
  have i115 : (115 : Int) = Int.ofNat 115 := rfl
  have wz := withinBA_run a2 115 (by omega) s
  rw [hzz] at wz
  have fe := fillE z
  rw [edge0] at fe
  have hec : Nat.beq (edge z 0).cells.length 121 = true := by rw [(edge z 0).len (ldz_len 0)]; rfl
  have L0 : LfAt ⟨s.heap.put s.next (some (.cells (Tr.ofList zeroL.cells) zeroL.cells.length 24 .whole)), Nat.succ s.next, s.mark, s.rd, s.wr⟩ s.next zeroL :=
    ⟨Nat.lt_succ_self _, ⟨_, _, _, by rw [zeroL.len zero_len]; exact hg_same hN0 _ _, row_ofList _ (by rw [zeroL.len zero_len]; unfold Tr.wide; omega)⟩, zero_len⟩
  obtain ⟨c, e, rm, st, hrow⟩ := L0.store (d' := edge z 0) hN0 (ldz_len 0)
  simp only [S.seen, S.turn] at st
  repeat apply go_seq
  apply go_region
  case h => intro m; simp (maxSteps := 2000000) (disch := decide) only [opsLoop, evOper, wantedA, nth, aop, aPick, aBin, aIndexAddr, aFieldAddr, aLoad, aStore, aExtract, aConvert, aAlloc, aBox, aIndex, callA, builtinA, Fr.evs, opt, val, when, AM.run, outV, newA, ptr, force_eq, seen_heap, seen_next, seen_mark, seen_seen, agg_cells, int_cells, Fr.ev, Fr.put, onFr, gps, gpn, bltT, still, flat, List.append_nil, List.nil_append, List.cons_append, Nat.reduceEqDiff, ne_eq, not_false_eq_true, reduceCtorEq, Bool.and_true, Bool.true_and, Bool.and_false, Bool.false_and, Bool.not_true, Bool.not_false, Bool.and_self, h2, int0, i115, tgWB, evT_told sgWB, wz, aBuild, evParts, tyLf, zeLf, dsLf, szLf, places_eq, fe, hzb, hN0, hec, st]; rfl
  generalize hs1 : S.mk _ _ _ _ _ = s1
  have L1 : LfAt s1 s.next (edge z 0) := by rw [← hs1]; exact ⟨Nat.lt_succ_self _, ⟨c, e, rm, hg_same hN0 _ _, hrow⟩, ldz_len 0⟩
  have e1 : s1.next = s.next + 1 := by rw [← hs1]
  clear hs1
  have l4 := L1.get 4 (.int .i64 (Int.ofNat z)) rfl
  apply go_seq
  apply go_seq
  repeat apply go_seq
  apply go_region
  case h => intro m; simp (maxSteps := 2000000) (disch := decide) only [opsLoop, evOper, wantedA, nth, aop, aPick, aBin, aIndexAddr, aFieldAddr, aLoad, aStore, aExtract, aConvert, aAlloc, aBox, aIndex, callA, builtinA, Fr.evs, opt, val, when, AM.run, outV, newA, ptr, force_eq, seen_heap, seen_next, seen_mark, seen_seen, agg_cells, int_cells, Fr.ev, Fr.put, onFr, gps, gpn, bltT, still, flat, List.append_nil, List.nil_append, List.cons_append, Nat.reduceEqDiff, ne_eq, not_false_eq_true, reduceCtorEq, Bool.and_true, Bool.true_and, Bool.and_false, Bool.false_and, Bool.not_true, Bool.not_false, Bool.and_self, tyLf, dsLf, fl4, ft4, fo4, tyI, szI, ble11, ad4, l4]; rfl
  apply go_block
  refine (go_loop_inv (body := cdLl) (InvE s.next z a0 a1) (fun k fr s1 hI => edge_round s.next z a0 a1 hz hN0 k fr s1 hI) (z - 0) _ _ ⟨0, _, rfl, by omega, rfl, L1.rd (Rd.seen s1 s.next), e1, ?_, ?_, ?_, ?_, ?_⟩).mono ?_
  · simp (disch := decide) only [gps, gpn, h0]
  · simp (disch := decide) only [gps, gpn, h1]
  · simp (disch := decide) only [gps, gpn]
  · simp (disch := decide) only [gps, gpn]
  · simp (disch := decide) only [gps, gpn, int0]
  rintro x fr s2 ⟨rfl, t2, rfl, L2, e2, g0, g1, g7⟩
  simp only [Out_, if_true]
  show GoC E _ _ _ _ _
  have hR := edge_right z hz
  have hel : (edge z z).load.length = 116 := ldz_len z
  obtain ⟨hgo, hgl⟩ := get_put (edge z z) hel hR
  have hsp := say_put (edge z z) hel hR
  have hpn : putN (edge z z) = 11 := by unfold putN; rw [if_pos hR]
  have ld := L2.load
  obtain ⟨s3, pr, p2, p4, p5⟩ := putA_run0 (s := s2.seen s.next) hel (fun i hi => by
    show Nat.ble (s2.next + i) lastName = true
    rw [e2, Nat.add_assoc]; rw [hpn] at hi; exact hN (1 + i) (by omega))
  have hpv : putV (edge z z) (s2.seen s.next).next = .slice (some ⟨s.next + 10, 0, none⟩) 128 128 := by
    unfold putV
    rw [if_pos hR, seen_next, e2]
  rw [hpv] at pr
  have p2 : s3.next = s.next + 12 := by rw [p2, hpn, seen_next, e2]
  have p4 : ∀ m, (m < s.next + 1 ∨ s.next + 12 ≤ m) → s3.heap.get m = s2.heap.get m := fun m hm2 => p4 m (by rw [hpn, seen_next, e2]; omega)
  have p5 : s3.heap.get (s.next + 10) = some (.cells (Tr.ofList ((putL (edge z z)).map bv)) (putL (edge z z)).length 5 .whole) := by
    have := p5 hR
    rw [seen_next, e2] at this
    exact this
  have hpl := putL_len (edge z z) hel
  have B3 := bs_new (show s.next + 10 < s3.next by omega) p5 (by omega)
  obtain ⟨s4, gr, q2, q4⟩ := getA_run (cap := 128) B3 hpl (fun i hi => by
    rw [hsp, hpn] at hi
    rw [p2, Nat.add_assoc]
    exact hN (12 + i) (by omega))
  rw [hgl, hgo] at gr
  rw [hsp, hpn] at q2 q4
  have q2 : s4.next = s.next + 26 := by rw [q2, p2]
  have L4 : LfAt s4 s.next (edge z z) := by
    obtain ⟨c, e, rm, w1, w2⟩ := L2.cell
    exact ⟨by omega, ⟨c, e, rm, by rw [q4 _ (.inl (by omega)), p4 _ (.inl (by omega))]; exact w1, w2⟩, hel⟩
  -- what comes back is put into a variable
  have hN26 := hN 26 (by omega)
  have hN26' : Nat.ble s4.next lastName = true := by rw [q2]; exact hN26
  have L5 : LfAt ⟨s4.heap.put s4.next (some (.cells (Tr.ofList zeroL.cells) zeroL.cells.length 24 .whole)), Nat.succ s4.next, s4.mark, s4.rd, s4.wr⟩ s4.next zeroL :=
    ⟨Nat.lt_succ_self _, ⟨_, _, _, by rw [zeroL.len zero_len]; exact hg_same hN26' _ _, row_ofList _ (by rw [zeroL.len zero_len]; unfold Tr.wide; omega)⟩, zero_len⟩
  obtain ⟨c5, x5, rm5, st5, hrow5⟩ := L5.store (d' := edge z z) hN26' hel
  simp only [S.seen, S.turn] at st5
  have hez : Nat.beq (edge z z).cells.length 121 = true := by rw [(edge z z).len hel]; rfl
  repeat apply go_seq
  apply go_region
  case h => intro m; simp (maxSteps := 2000000) (disch := decide) only [opsLoop, evOper, wantedA, nth, aop, aPick, aBin, aIndexAddr, aFieldAddr, aLoad, aStore, aExtract, aConvert, aAlloc, aBox, aIndex, callA, builtinA, Fr.evs, opt, val, when, AM.run, outV, newA, ptr, force_eq, seen_heap, seen_next, seen_mark, seen_seen, agg_cells, int_cells, Fr.ev, Fr.put, onFr, gps, gpn, bltT, still, flat, List.append_nil, List.nil_append, List.cons_append, Nat.reduceEqDiff, ne_eq, not_false_eq_true, reduceCtorEq, Bool.and_true, Bool.true_and, Bool.and_false, Bool.false_and, Bool.not_true, Bool.not_false, Bool.and_self, g7, tyLf, ld, tgP, evT_told sgP', pr, tgG, evT_told sgG, gr, dropL, zeLf, szLf, hzb, hN26', hez, st5]; rfl
  generalize hs6 : S.mk _ _ _ _ _ = s6
  have f6 : s6.next = s.next + 27 := by rw [← hs6]; show s4.next + 1 = _; omega
  have f6h : s6.heap = (s4.heap.put s4.next (some (.cells (Tr.ofList zeroL.cells) zeroL.cells.length 24 .whole))).put s4.next (some (.cells c5 121 x5 rm5)) := by rw [← hs6]
  clear hs6
  rw [q2] at f6h ⊢
  have L6 : LfAt s6 s.next (edge z z) := by
    obtain ⟨c, e, rm, w1, w2⟩ := L4.cell
    exact ⟨by omega, ⟨c, e, rm, by rw [f6h, hg_far hN26 (by omega), hg_far hN26 (by omega)]; exact w1, w2⟩, hel⟩
  have M6 : LfAt s6 (s.next + 26) (edge z z) := ⟨by omega, ⟨c5, x5, rm5, by rw [f6h]; exact hg_same hN26 _ _, hrow5⟩, hel⟩
  have ld6 := L6.load
  obtain ⟨s7, rr, r2, r4⟩ := rightA_run (s := s6.seen s.next) hel (fun i hi => by
    show Nat.ble (s6.next + i) lastName = true
    rw [f6, Nat.add_assoc]; exact hN (27 + i) (by omega))
  rw [hR] at rr
  have r2 : s7.next = s.next + 29 := by rw [r2, seen_next, f6]
  have r4 : ∀ m, (m < s.next + 27) → s7.heap.get m = s6.heap.get m := by
    intro m hm2
    rw [r4 m, seen_next, f6, if_neg (by omega), seen_heap]
  have L7 : LfAt s7 s.next (edge z z) := by
    obtain ⟨c, e, rm, w1, w2⟩ := L6.cell
    exact ⟨by omega, ⟨c, e, rm, by rw [r4 _ (by omega)]; exact w1, w2⟩, hel⟩
  have M7 : LfAt s7 (s.next + 26) (edge z z) := by
    obtain ⟨c, e, rm, w1, w2⟩ := M6.cell
    exact ⟨by omega, ⟨c, e, rm, by rw [r4 _ (by omega)]; exact w1, w2⟩, hel⟩
  have m7 := M7.load
  have l7 := (L7.rd (Rd.seen s7 (s.next + 26))).load
  have hq := eqLeaf (edge z z) hel 24 rfl
  repeat apply go_seq
  apply go_region
  case h => intro m; simp (maxSteps := 2000000) (disch := decide) only [opsLoop, evOper, wantedA, nth, aop, aPick, aBin, aIndexAddr, aFieldAddr, aLoad, aStore, aExtract, aConvert, aAlloc, aBox, aIndex, callA, builtinA, Fr.evs, opt, val, when, AM.run, outV, newA, ptr, force_eq, seen_heap, seen_next, seen_mark, seen_seen, agg_cells, int_cells, Fr.ev, Fr.put, onFr, gps, gpn, bltT, still, flat, List.append_nil, List.nil_append, List.cons_append, Nat.reduceEqDiff, ne_eq, not_false_eq_true, reduceCtorEq, Bool.and_true, Bool.true_and, Bool.and_false, Bool.false_and, Bool.not_true, Bool.not_false, Bool.and_self, g7, tyLf, ld6, tgR, evT_told sgR', rr, u_not, m7, l7, hq]; rfl
  repeat apply go_seq
  apply go_cond
  case hc => simp (disch := decide) only [opsLoop, evOper, wantedA, nth, aop, aPick, aBin, aIndexAddr, aFieldAddr, aLoad, aStore, aExtract, aConvert, aAlloc, aBox, aIndex, callA, builtinA, Fr.evs, opt, val, when, AM.run, outV, newA, ptr, force_eq, seen_heap, seen_next, seen_mark, seen_seen, agg_cells, int_cells, Fr.ev, Fr.put, onFr, gps, gpn, bltT, still, flat, List.append_nil, List.nil_append, List.cons_append, Nat.reduceEqDiff, ne_eq, not_false_eq_true, reduceCtorEq, Bool.and_true, Bool.true_and, Bool.and_false, Bool.false_and, Bool.not_true, Bool.not_false, Bool.and_self]; rfl
  case h1 => intro h; cases h
  intro _
  apply go_skip
  have i99 : (99 : Int) = Int.ofNat 99 := rfl
  have i8 : (8 : Int) = Int.ofNat 8 := rfl
  have wr : ∀ s, (withinBA [.int .i64 a1, .int .i64 (.ofNat 0), .int .i64 (.ofNat 99)]).run s = some (.int .i64 (.ofNat r), s) := fun s => by rw [← hrr]; exact withinBA_run a1 99 (by omega) s
  have ww : ∀ s, (withinBA [.int .i64 a0, .int .i64 (.ofNat 0), .int .i64 (.ofNat 8)]).run s = some (.int .i64 (.ofNat w), s) := fun s => by rw [← hww]; exact withinBA_run a0 8 (by omega) s
  have adr : ∀ E t, binA E .add t (.int .i64 1) (.int .i64 (.ofNat r)) = some (.int .i64 (1 + (r : Int))) := b_addI 1 (r : Int) (by omega) (by omega)
  repeat apply go_seq
  apply go_region
  case h => intro m; simp (maxSteps := 2000000) (disch := decide) only [opsLoop, evOper, wantedA, nth, aop, aPick, aBin, aIndexAddr, aFieldAddr, aLoad, aStore, aExtract, aConvert, aAlloc, aBox, aIndex, callA, builtinA, Fr.evs, opt, val, when, AM.run, outV, newA, ptr, force_eq, seen_heap, seen_next, seen_mark, seen_seen, agg_cells, int_cells, Fr.ev, Fr.put, onFr, gps, gpn, bltT, still, flat, List.append_nil, List.nil_append, List.cons_append, Nat.reduceEqDiff, ne_eq, not_false_eq_true, reduceCtorEq, Bool.and_true, Bool.true_and, Bool.and_false, Bool.false_and, Bool.not_true, Bool.not_false, Bool.and_self, g1, tgWB, evT_told sgWB, int0, i99, wr, adr]; rfl
  apply go_seq
  apply go_seq
  repeat apply go_seq
  apply go_region
  case h => intro m; simp (maxSteps := 2000000) (disch := decide) only [opsLoop, evOper, wantedA, nth, aop, aPick, aBin, aIndexAddr, aFieldAddr, aLoad, aStore, aExtract, aConvert, aAlloc, aBox, aIndex, callA, builtinA, Fr.evs, opt, val, when, AM.run, outV, newA, ptr, force_eq, seen_heap, seen_next, seen_mark, seen_seen, agg_cells, int_cells, Fr.ev, Fr.put, onFr, gps, gpn, bltT, still, flat, List.append_nil, List.nil_append, List.cons_append, Nat.reduceEqDiff, ne_eq, not_false_eq_true, reduceCtorEq, Bool.and_true, Bool.true_and, Bool.and_false, Bool.false_and, Bool.not_true, Bool.not_false, Bool.and_self, g0, tgWB, evT_told sgWB, int0, i8, ww]; rfl
  apply go_block
  generalize hs8 : (s7.seen (s.next + 26)).seen s.next = s8
  have L8 : LfAt s8 s.next (edge z z) := by rw [← hs8]; exact (L7.rd (Rd.seen s7 (s.next + 26))).rd (Rd.seen _ s.next)
  have e8 : s8.next = s.next + 29 := by rw [← hs8]; exact r2
  clear hs8
  refine GoC.mono (c := cdLb) (edge_all s.next (s.next + 29) z w r hz hr hw hN0 _ s8 L8 e8 ?_ ?_ ?_) ?_
  · simp (disch := decide) only [gps, gpn, g7]
  · simp (disch := decide) only [gps, gpn]
  · simp (disch := decide) only [gps, gpn]
  rintro x fr s9 ⟨rfl, t9, rfl, L9, e9, k7⟩
  simp only [Out_]
  show GoC E _ _ _ _ _
  have htn := turned_not z w r hz hr
  have htl := turned_len z w r
  have ld9 := L9.load
  obtain ⟨s10, ra, ra2, ra4⟩ := rightA_run (s := s9.seen s.next) htl (fun i hi => by
    show Nat.ble (s9.next + i) lastName = true
    rw [e9, Nat.add_assoc]; exact hN (29 + i) (by omega))
  rw [htn] at ra
  have ra2 : s10.next = s.next + 31 := by rw [ra2, seen_next, e9]
  have L10 : LfAt s10 s.next (turned z w r) := by
    obtain ⟨c, e, rm, w1, w2⟩ := L9.cell
    exact ⟨by omega, ⟨c, e, rm, by rw [ra4 _, seen_next, e9, if_neg (by omega), seen_heap]; exact w1, w2⟩, htl⟩
  have ld10 := L10.load
  have hpn0 : putN (turned z w r) = 3 := by unfold putN; rw [if_neg (by rw [htn]; simp)]
  obtain ⟨s11, pa, _, _, _⟩ := putA_run0 (s := s10.seen s.next) htl (fun i hi => by
    show Nat.ble (s10.next + i) lastName = true
    rw [ra2, Nat.add_assoc]; rw [hpn0] at hi; exact hN (31 + i) (by omega))
  have hpv0 : putV (turned z w r) (s10.seen s.next).next = .slice none 0 0 := by unfold putV; rw [if_neg (by rw [htn]; simp)]
  rw [hpv0] at pa
  have hx : (constA (.bool true) []).run s11 = some (.bool true, s11) := rfl
  repeat apply go_seq
  apply go_region
  case h => intro m; simp (maxSteps := 2000000) (disch := decide) only [opsLoop, evOper, wantedA, nth, aop, aPick, aBin, aIndexAddr, aFieldAddr, aLoad, aStore, aExtract, aConvert, aAlloc, aBox, aIndex, callA, builtinA, Fr.evs, opt, val, when, AM.run, outV, newA, ptr, force_eq, seen_heap, seen_next, seen_mark, seen_seen, agg_cells, int_cells, Fr.ev, Fr.put, onFr, gps, gpn, bltT, still, flat, List.append_nil, List.nil_append, List.cons_append, Nat.reduceEqDiff, ne_eq, not_false_eq_true, reduceCtorEq, Bool.and_true, Bool.true_and, Bool.and_false, Bool.false_and, Bool.not_true, Bool.not_false, Bool.and_self, k7, tyLf, ld9, tgR, evT_told sgR', ra, u_not, ld10, tgP, evT_told sgP', pa, tyB, dsB, b_eql, int0, eqI_t, tgX, evT_told sgX, hx]; rfl
  repeat apply go_seq
  apply go_ret
  apply ret_intro rfl rfl
  case run => simp (disch := decide) only [resultsM, resultsA, resL, opsLoop, evOper, wantedA, nth, aop, aPick, aBin, aIndexAddr, aFieldAddr, aLoad, aStore, aExtract, aConvert, aAlloc, aBox, aIndex, callA, builtinA, Fr.evs, opt, val, when, AM.run, outV, newA, ptr, force_eq, seen_heap, seen_next, seen_mark, seen_seen, agg_cells, int_cells, Fr.ev, Fr.put, onFr, gps, gpn, bltT, still, flat, List.append_nil, List.nil_append, List.cons_append, Nat.reduceEqDiff, ne_eq, not_false_eq_true, reduceCtorEq, Bool.and_true, Bool.true_and, Bool.and_false, Bool.false_and, Bool.not_true, Bool.not_false, Bool.and_self]; rfl
  rfl

/-- **the law on edges**, at all numbers -/
theorem _root_.Go.Proofs.YtioieffmihdheaaDoor.leafEdges_any (a0 a1 a2 : Int) (w0 : World) : Calls Tryd.prog 6 #[.int .i64 a0, .int .i64 a1, .int .i64 a2] w0 fun e w' => e = .returned (.bool true) ∧ Go.RowKit.Below w0.heap.size w0 w' := by
  obtain ⟨v, s', rfl, n0, h⟩ := edges_go a0 a1 a2 s0 (Nat.le_refl _) (fun i hi => ble_iff.2 (by show 0 + i ≤ lastName; unfold lastName; omega))
  exact callsT_true hP hmix tolds_L (h n0 (Nat.le_refl _)) (.cons (.flat rfl) (.cons (.flat rfl) (.cons (.flat rfl) .nil))) w0
end Go.Proofs.YtioieffmihdheaaDoor.lf
end
end

section
/- Leaves: two leaves compared, whatever they are; a burst of bits in a right leaf's block is found. -/
noncomputable section
namespace Go.Proofs.YtioieffmihdheaaDoor.lf
open AE
set_option linter.unusedSimpArgs false
set_option linter.unusedVariables false
set_option maxRecDepth 10000

theorem eq8_any (d : Nat) (x y : UInt8) : eqV E (d + 1) 5 (bv x) (bv y) = some (decide (x = y)) := by
  have h : eqI (Int.ofNat x.toNat) (Int.ofNat y.toNat) = decide (x = y) := by
    rw [eqI_lit]
    exact decide_eq_decide.2 ⟨fun e => UInt8.toNat_inj.1 e, fun e => by rw [e]⟩
  simp only [eqV, tyU8, dsU8, bv, h]
  rfl
theorem eqEs_any : ∀ (l m : List UInt8) (d : Nat), l.length = m.length → eqEs E (d + l.length + 2) 5 (l.map bv) (m.map bv) = some (decide (l = m))
  | [], [], d, _ => by simp [eqEs]
  | x :: l, y :: m, d, h => by
    simp only [List.map_cons, List.length_cons]
    show eqEs E ((d + l.length + 2) + 1) _ _ _ = _
    simp only [eqEs]
    rw [eq8_any]
    by_cases e : x = y
    · subst e
      rw [decide_eq_true rfl]
      show eqEs E (d + l.length + 2) _ _ _ = _
      rw [eqEs_any l m d (by simpa using h)]
      simp
    · rw [decide_eq_false e]
      show some false = _
      rw [decide_eq_false (by simp [e])]
  | [], _ :: _, d, h => by simp at h
  | _ :: _, [], d, h => by simp at h
theorem eqInt_any (d : Nat) (x y : Int) : eqV E (d + 1) 3 (.int .i64 x) (.int .i64 y) = some (decide (x = y)) := by
  have : eqI x y = decide (x = y) := by rw [eqI_eq]
  simp only [eqV, tyI, dsI, this]
  rfl
theorem eqArr_any (l m : List UInt8) (hl : l.length = 116) (hm : m.length = 116) : eqV E 993 22 (.agg ⟨l.map bv⟩) (.agg ⟨m.map bv⟩) = some (decide (l = m)) := by
  have h1 : arrB tiA tiU8 116 (l.map bv) (m.map bv) = true := by
    unfold arrB
    rw [gdA, dsU8, szU8, List.length_map, List.length_map, hl, hm]
    rfl
  have h2 := eqEs_any l m 874 (by rw [hl, hm])
  rw [hl] at h2
  show eqV E (992 + 1) _ _ _ = _
  simp only [eqV, tyA, dsA, tyU8, h1]
  exact h2
theorem part0 (d : LeafD) : partA tiI d.cells 0 = some (.int .i64 d.kind) := by unfold partA; rw [dsI]; rfl
theorem part1 (d : LeafD) : partA tiI d.cells 1 = some (.int .i64 d.file) := by unfold partA; rw [dsI]; rfl
theorem part2 (d : LeafD) : partA tiI d.cells 2 = some (.int .i64 d.place) := by unfold partA; rw [dsI]; rfl
theorem part3 (d : LeafD) : partA tiI d.cells 3 = some (.int .i64 d.next) := by unfold partA; rw [dsI]; rfl
theorem part4 (d : LeafD) : partA tiI d.cells 4 = some (.int .i64 d.size) := by unfold partA; rw [dsI]; rfl
theorem part5 (d : LeafD) (hd : d.load.length = 116) : partA tiA d.cells 5 = some (.agg ⟨d.load.map bv⟩) := by
  have hd5 : dropL 5 d.cells = some (d.load.map bv) := rfl
  have htk : takeL 116 (d.load.map bv) = some (d.load.map bv) := by
    have := takeL_all (d.load.map bv)
    rwa [List.length_map, hd] at this
  unfold partA
  rw [hd5, dsA, szA]
  simp only [isAggD, htk]
instance : DecidableEq LeafD := fun a b => if h : a.kind = b.kind ∧ a.file = b.file ∧ a.place = b.place ∧ a.next = b.next ∧ a.size = b.size ∧ a.load = b.load then isTrue (by cases a; cases b; simp_all) else isFalse (fun e => h (by subst e; exact ⟨rfl, rfl, rfl, rfl, rfl, rfl⟩))
theorem leaf_eq_iff (d e : LeafD) : (d = e) ↔ (d.kind = e.kind ∧ d.file = e.file ∧ d.place = e.place ∧ d.next = e.next ∧ d.size = e.size ∧ d.load = e.load) :=
  ⟨fun h => by subst h; exact ⟨rfl, rfl, rfl, rfl, rfl, rfl⟩, fun h => by cases d; cases e; simp_all⟩
theorem eqLeafV (d e : LeafD) (hd : d.load.length = 116) (he : e.load.length = 116) : eqV E 1000 24 (.agg ⟨d.cells⟩) (.agg ⟨e.cells⟩) = some (decide (d = e)) := by
  have hf : eqFs E 999 fsLf.toList d.cells e.cells = some (decide (d = e)) := by
    rw [fs_list]
    show eqFs E (998 + 1) _ _ _ = _
    simp only [eqFs, nm0, nm1, nm2, nm3, nm4, nm5, ft0, ft1, ft2, ft3, ft4, ft5, fo0, fo1, fo2, fo3, fo4, fo5, tyI, tyA, part0, part1, part2, part3, part4, part5 d hd, part5 e he, eqInt_any, eqArr_any d.load e.load hd he]
    by_cases h0 : d.kind = e.kind
    · by_cases h1 : d.file = e.file
      · by_cases h2 : d.place = e.place
        · by_cases h3 : d.next = e.next
          · by_cases h4 : d.size = e.size
            · by_cases h5 : d.load = e.load
              · have hx : d = e := (leaf_eq_iff d e).2 ⟨h0, h1, h2, h3, h4, h5⟩
                subst hx
                simp
              · have hx : ¬ d = e := fun hx => h5 ((leaf_eq_iff d e).1 hx).2.2.2.2.2
                simp [h0, h1, h2, h3, h4, h5, hx]
            · have hx : ¬ d = e := fun hx => h4 ((leaf_eq_iff d e).1 hx).2.2.2.2.1
              simp [h0, h1, h2, h3, h4, hx]
          · have hx : ¬ d = e := fun hx => h3 ((leaf_eq_iff d e).1 hx).2.2.2.1
            simp [h0, h1, h2, h3, hx]
        · have hx : ¬ d = e := fun hx => h2 ((leaf_eq_iff d e).1 hx).2.2.1
          simp [h0, h1, h2, hx]
      · have hx : ¬ d = e := fun hx => h1 ((leaf_eq_iff d e).1 hx).2.1
        simp [h0, h1, hx]
    · have hx : ¬ d = e := fun hx => h0 ((leaf_eq_iff d e).1 hx).1
      simp [h0, hx]
  show eqV E (999 + 1) _ _ _ = _
  simp only [eqV, tyLf, dsLf, gdLf]
  exact hf
theorem neqLf (d e : LeafD) (hd : d.load.length = 116) (he : e.load.length = 116) : binA E .neq 24 (.agg ⟨d.cells⟩) (.agg ⟨e.cells⟩) = some (.bool (!decide (d = e))) := by
  show someB (eqV E 1000 24 (.agg ⟨d.cells⟩) (.agg ⟨e.cells⟩)) false = _
  rw [eqLeafV d e hd he]
  rfl
theorem eqlLf (d e : LeafD) (hd : d.load.length = 116) (he : e.load.length = 116) : binA E .eql 24 (.agg ⟨d.cells⟩) (.agg ⟨e.cells⟩) = some (.bool (decide (d = e))) := by
  show someB (eqV E 1000 24 (.agg ⟨d.cells⟩) (.agg ⟨e.cells⟩)) true = _
  rw [eqLeafV d e hd he]
  rfl

/-! the sum of a block that is closed -/
theorem crcL_R : ∀ (l : List UInt8) (r : Nat), crcR l r = crcL l r
  | [], r => rfl
  | x :: l, r => crcL_R l _
theorem crcL_app : ∀ (a b : List UInt8) (r : Nat), crcL (a ++ b) r = crcL b (crcL a r)
  | [], b, r => rfl
  | x :: a, b, r => crcL_app a b _
theorem crcByte_lt {r : Nat} (h : r < 4294967296) (x : UInt8) : crcByte r x.toNat < 4294967296 := by
  rw [crcByte_steps]
  have hx : x.toNat < 4294967296 := by have := x.toNat_lt; omega
  exact steps_lt 8 _ (Nat.xor_lt_two_pow (n := 32) h hx)
theorem crcL_lt : ∀ (l : List UInt8) (r : Nat), r < 4294967296 → crcL l r < 4294967296
  | [], r, h => h
  | x :: l, r, h => crcL_lt l _ (crcByte_lt h x)
theorem val_sum4 (c : Nat) (hc : c < 4294967296) : valL (sum4 c) = c := by
  simp only [sum4, valL, UInt8.toNat_ofNat', Nat.shiftRight_eq_div_pow]
  omega
theorem closed_sum (a : List UInt8) : crcL (closeL a) 4294967295 = steps 32 4294967295 := by
  unfold closeL
  rw [crcL_app, crcL_N (sum4 _)]
  have hr : crcL a 4294967295 < 4294967296 := crcL_lt a _ (by decide)
  have hc : crc32 a < 4294967296 := by
    unfold crc32
    rw [crcL_R]
    exact Nat.xor_lt_two_pow (n := 32) (by decide) hr
  rw [val_sum4 _ hc]
  have h1 := steps_xor 32 (crcL a 4294967295) (crc32 a)
  have h2 : crc32 a / 2 ^ 32 = 0 := Nat.div_eq_of_lt hc
  rw [h2, Nat.xor_zero] at h1
  show crcN 32 (crc32 a) (crcL a 4294967295) = _
  rw [← h1]
  unfold crc32
  rw [crcL_R]
  show steps 32 (crcL a 4294967295 ^^^ (4294967295 ^^^ crcL a 4294967295)) = _
  rw [Nat.xor_comm 4294967295, ← Nat.xor_assoc, Nat.xor_self, Nat.zero_xor]
theorem ok_sum {l : List UInt8} (h : getOK l = true) : crcL l 4294967295 = steps 32 4294967295 := by
  unfold getOK at h
  rw [Bool.and_eq_true, eqBytes_iff] at h
  have h2 : putL (sayL l) = l := of_decide_eq_true h.2
  rw [← h2]
  exact closed_sum _
/-- two right blocks that differ by a burst are the same -/
theorem burst_found {l l' : List UInt8} (hl : l.length = 128) (hl' : l'.length = 128) (x b : Nat) (hx : x < 4294967296) (hb : b ≤ 992) (hv : valL l' = valL l ^^^ (x * 2 ^ b)) (h : getOK l = true) (h' : getOK l' = true) : x = 0 := by
  have e1 := ok_sum h
  have e2 := ok_sum h'
  rw [crcL_N, hl] at e1
  rw [crcL_N, hl', hv] at e2
  have e3 := crcN_xor (8 * 128) (valL l) (x * 2 ^ b) 4294967295 0
  rw [Nat.xor_zero] at e3
  rw [e3, e1] at e2
  have e4 : crcN (8 * 128) (x * 2 ^ b) 0 = 0 := by
    have := congrArg (steps 32 4294967295 ^^^ ·) e2
    simpa [← Nat.xor_assoc] using this
  exact burst_none (8 * 128) b x hx (by omega) e4
theorem valL_inj : ∀ (l l' : List UInt8), l.length = l'.length → valL l = valL l' → l = l'
  | [], [], _, _ => rfl
  | x :: l, y :: l', h, e => by
    have hx : x.toNat < 256 := x.toNat_lt
    have hy : y.toNat < 256 := y.toNat_lt
    have e' : x.toNat + 256 * valL l = y.toNat + 256 * valL l' := e
    have e1 : x.toNat = y.toNat := by omega
    have e2 : valL l = valL l' := by omega
    rw [UInt8.toNat_inj.1 e1, valL_inj l l' (by simpa using h) e2]
  | [], _ :: _, h, _ => by simp at h
  | _ :: _, [], h, _ => by simp at h
/-- the block with the burst's first k bits -/
def flipL (l : List UInt8) (x b : Nat) : Nat → List UInt8
  | 0 => l
  | k + 1 => if Nat.testBit x k = true then (flipL l x b k).set ((b + k) / 8) ((flipL l x b k).getD ((b + k) / 8) 0 ^^^ UInt8.ofNat (2 ^ ((b + k) % 8))) else flipL l x b k
theorem flip_len (l : List UInt8) (x b : Nat) : ∀ k, (flipL l x b k).length = l.length
  | 0 => rfl
  | k + 1 => by
    unfold flipL
    split
    · rw [List.length_set]; exact flip_len l x b k
    · exact flip_len l x b k
theorem mod_step (x k : Nat) : x % 2 ^ (k + 1) = (x % 2 ^ k) ^^^ (if Nat.testBit x k = true then 2 ^ k else 0) := by
  apply Nat.eq_of_testBit_eq
  intro j
  rw [Nat.testBit_xor, Nat.testBit_mod_two_pow, Nat.testBit_mod_two_pow]
  by_cases h : Nat.testBit x k = true
  · rw [if_pos h, Nat.testBit_two_pow]
    by_cases e : k = j
    · subst e; simp [h]
    · have e1 : (j < k + 1) ↔ j < k := by omega
      simp [e, e1]
  · rw [if_neg h, Nat.zero_testBit, Bool.xor_false]
    by_cases e : k = j
    · subst e; simp at h; simp [h]
    · have e1 : (j < k + 1) ↔ j < k := by omega
      simp [e1]
theorem flip_val (l : List UInt8) (x b : Nat) (hl : l.length = 128) (hb : b ≤ 992) : ∀ k, k ≤ 32 → valL (flipL l x b k) = valL l ^^^ ((x % 2 ^ k) * 2 ^ b)
  | 0, _ => by simp [flipL, Nat.mod_one]
  | k + 1, hk => by
    have ih := flip_val l x b hl hb k (by omega)
    have hlen := flip_len l x b k
    unfold flipL
    rw [mod_step]
    by_cases h : Nat.testBit x k = true
    · rw [if_pos h, if_pos h]
      have hi : (b + k) / 8 < (flipL l x b k).length := by rw [hlen, hl]; omega
      have hg : (flipL l x b k)[(b + k) / 8]? = some ((flipL l x b k).getD ((b + k) / 8) 0) := by
        rw [List.getD_eq_getElem?_getD, List.getElem?_eq_getElem hi]; rfl
      rw [valL_set _ _ _ _ hg, ih]
      have hm : (UInt8.ofNat (2 ^ ((b + k) % 8))).toNat = 2 ^ ((b + k) % 8) := by
        apply UInt8.toNat_ofNat_of_lt'
        have : 2 ^ ((b + k) % 8) ≤ 2 ^ 7 := Nat.pow_le_pow_right (by omega) (by omega)
        have : (2 : Nat) ^ 7 = 128 := by decide
        show _ < 256
        omega
      rw [hm, ← Nat.pow_add, show (b + k) % 8 + 8 * ((b + k) / 8) = k + b by omega, Nat.pow_add, Nat.xor_assoc]
      congr 1
      have d1 : ∀ a c : Nat, (a ^^^ c) * 2 ^ b = (a * 2 ^ b) ^^^ (c * 2 ^ b) := fun a c => by
        rw [← Nat.shiftLeft_eq, ← Nat.shiftLeft_eq, ← Nat.shiftLeft_eq, Nat.shiftLeft_xor_distrib]
      rw [d1]
    · rw [if_neg h, if_neg h, Nat.xor_zero]
      exact ih
/-- what comes of a burst -/
theorem flip_all (l : List UInt8) (x b : Nat) (hl : l.length = 128) (hb : b ≤ 992) (hx : x < 4294967296) (h : getOK l = true) : getOK (flipL l x b 32) = decide (x = 0) := by
  have hv := flip_val l x b hl hb 32 (by omega)
  rw [Nat.mod_eq_of_lt hx] at hv
  by_cases e : x = 0
  · subst e
    rw [Nat.zero_mul, Nat.xor_zero] at hv
    rw [valL_inj _ _ (flip_len l 0 b 32) hv, h]
    rfl
  · rw [decide_eq_false e]
    cases hh : getOK (flipL l x b 32) with
    | false => rfl
    | true => exact absurd (burst_found hl (by rw [flip_len, hl]) x b hx hb hv h hh) e
end Go.Proofs.YtioieffmihdheaaDoor.lf
end
end

section
/- Leaves: two lists of bytes compared by the laws' own loop. -/
noncomputable section
namespace Go.Proofs.YtioieffmihdheaaDoor.lf
open AE
set_option linter.unusedSimpArgs false
set_option linter.unusedVariables false
set_option maxRecDepth 10000

/-- the bytes of a slice, which may be nil -/
def rdA (a : Option Addr) (n : Nat) (k : List UInt8 → AM Value) : AM Value := match a with
  | none => match n with
    | 0 => k []
    | _ + 1 => .fail
  | some ad => loadA ad n fun cs => opt (bytesV cs) k
/-- a slice's bytes -/
def Bx (s : S) (a : Option Addr) (l : List UInt8) : Prop := match a with
  | none => l = []
  | some ad => Bs s ad l
theorem Bx.rd {s s' : S} {a : Option Addr} {l : List UInt8} (h : Bx s a l) (hr : Rd s s') : Bx s' a l := by
  cases a with
  | none => exact h
  | some ad => exact Bs.rd h hr
theorem bx_of_rd {a : Option Addr} {n : Nat} {k : List UInt8 → AM Value} {s : S} {r : Value × S} (h : (rdA a n k).run s = some r) : ∃ l s1, l.length = n ∧ Bx s a l ∧ Rd s s1 ∧ (k l).run s1 = some r := by
  cases a with
  | none =>
    cases n with
    | zero => exact ⟨[], s, rfl, rfl, Rd.refl s, h⟩
    | succ n => cases h
  | some ad =>
    obtain ⟨l, hl, hb, h2⟩ := bs_of_load h
    exact ⟨l, _, hl, hb, Rd.seen s _, h2⟩
theorem rdA_run {s : S} {a : Option Addr} {l : List UInt8} (h : Bx s a l) (k : List UInt8 → AM Value) : ∃ s1, (rdA a l.length k).run s = (k l).run s1 ∧ Rd s s1 ∧ (s.mark ≤ s.next → s1.wr = s.wr) := by
  cases a with
  | none => obtain rfl : l = [] := h; exact ⟨s, rfl, Rd.refl s, fun _ => rfl⟩
  | some ad =>
    refine ⟨s.seen ad.block, ?_, Rd.seen s _, fun _ => rfl⟩
    show (loadA ad l.length fun cs => opt (bytesV cs) k).run s = _
    rw [loadA_run h, bytesV_map]
    rfl
def sameA : List Value → AM Value
  | [.slice a n c, .slice a2 n2 c2] => when (Nat.ble n 1000000) (match Nat.beq n n2 with
    | false => .pure (.bool false)
    | true => rdA a n fun l => rdA a2 n fun l2 => .pure (.bool (eqBytes l l2)))
  | _ => .fail
noncomputable def fiSm : FI := FI.of Tryd.f9
noncomputable def cdSm : Code := bodyOf Tryd.f9
noncomputable def cdSml : Code := sub [1,1,0,1,0,0] cdSm
theorem resSm : fiSm.results = [.tmp 4] := rfl
theorem b_neqI {E t} (x y : Int) : binA E .neq t (.int .i64 x) (.int .i64 y) = some (.bool (not (eqI x y))) := rfl
theorem b_neq8 {E t} (x y : Int) : binA E .neq t (.int .u8 x) (.int .u8 y) = some (.bool (not (eqI x y))) := rfl

def InvSm (a a2 : Option Addr) (c c2 : Nat) (l l2 : List UInt8) (s0 : S) (k : Nat) (fr : Fr) (s : S) : Prop :=
  ∃ (i : Nat) (t : Tr Value), k = l.length - i ∧ i ≤ l.length ∧ fr = ⟨9, t, 26, [], none⟩ ∧ Rd s0 s ∧ t.get 0 = some (.slice a l.length c) ∧ t.get 1 = some (.slice a2 l.length c2) ∧ t.get 5 = some (.int .i64 (.ofNat i)) ∧
    (∀ j, j < i → l[j]? = l2[j]?)
def PostSm (l l2 : List UInt8) (s0 : S) (x : Ex) (fr : Fr) (s : S) : Prop :=
  ∃ t : Tr Value, fr = ⟨9, t, 26, [], none⟩ ∧ Rd s0 s ∧ ((x = .exit 0 ∧ l = l2) ∨ (x = .ret ∧ l ≠ l2 ∧ t.get 4 = some (.bool false)))
theorem same_round (a a2 : Option Addr) (c c2 : Nat) (l l2 : List UInt8) (s0 : S) (hl : l.length ≤ 1000000) (hl2 : l2.length = l.length) (hb : Bx s0 a l) (hb2 : Bx s0 a2 l2) (k : Nat) (fr : Fr) (s : S) (h : InvSm a a2 c c2 l l2 s0 k fr s) :
    GoC E (sumsOf []) cdSml fr s (Again (InvSm a a2 c c2 l l2 s0) k (PostSm l l2 s0)) := by
  obtain ⟨i, t, rfl, hi, rfl, hr, h0, h1, h5, hz⟩ := h
  simp only [cdSml, cdSm, Tryd.f9, bodyOf, sub]
  by_cases hlt : i < l.length
  · obtain ⟨x, hx⟩ : ∃ x, l[i]? = some x := ⟨_, List.getElem?_eq_getElem hlt⟩
    obtain ⟨y, hy⟩ : ∃ y, l2[i]? = some y := ⟨_, List.getElem?_eq_getElem (by omega)⟩
    cases a with
    | none => obtain rfl : l = [] := hb; simp at hlt
    | some ad =>
      cases a2 with
      | none => obtain rfl : l2 = [] := hb2; simp at hy
      | some ad2 =>
        have hlt' : ltI (Int.ofNat i) (Int.ofNat l.length) = true := by rw [ltI_eq]; simp; omega
        have hbl : Nat.blt i l.length = true := blt_iff.2 hlt
        have B1 : Bs ⟨s.heap, s.next, s.next, 0, 0⟩ ad l := (Bs.rd hb hr).of rfl rfl
        have B2 : Bs ⟨s.heap, s.next, s.next, 0, 0⟩ ad2 l2 := (Bs.rd hb2 hr).of rfl rfl
        have lx := sum.byte_load (Bs.at B1 hx) tiU8 dsU8
        have ly := sum.byte_load (Bs.at B2 hy) tiU8 dsU8
        simp only [S.seen] at lx ly
        have hinc := b_incr (n := i) (by omega)
        repeat apply go_seq
        apply go_region
        case h => intro m; simp (maxSteps := 2000000) (disch := decide) only [opsLoop, evOper, wantedA, nth, aop, aPick, aBin, aIndexAddr, aFieldAddr, aLoad, aStore, aExtract, aConvert, aAlloc, aBox, aIndex, callA, builtinA, Fr.evs, opt, val, when, AM.run, outV, newA, ptr, force_eq, seen_heap, seen_next, seen_mark, seen_seen, agg_cells, int_cells, Fr.ev, Fr.put, onFr, gps, gpn, bltT, still, flat, List.append_nil, List.nil_append, List.cons_append, Nat.reduceEqDiff, ne_eq, not_false_eq_true, reduceCtorEq, Bool.and_true, Bool.true_and, Bool.and_false, Bool.false_and, Bool.not_true, Bool.not_false, Bool.and_self, h0, h5, tyB, dsB, b_lss, hlt']; rfl
        repeat apply go_seq
        apply go_cond
        case hc => simp (disch := decide) only [opsLoop, evOper, wantedA, nth, aop, aPick, aBin, aIndexAddr, aFieldAddr, aLoad, aStore, aExtract, aConvert, aAlloc, aBox, aIndex, callA, builtinA, Fr.evs, opt, val, when, AM.run, outV, newA, ptr, force_eq, seen_heap, seen_next, seen_mark, seen_seen, agg_cells, int_cells, Fr.ev, Fr.put, onFr, gps, gpn, bltT, still, flat, List.append_nil, List.nil_append, List.cons_append, Nat.reduceEqDiff, ne_eq, not_false_eq_true, reduceCtorEq, Bool.and_true, Bool.true_and, Bool.and_false, Bool.false_and, Bool.not_true, Bool.not_false, Bool.and_self]; rfl
        case h2 => intro h; cases h
        intro _
        apply go_skip
        apply go_seq
        apply go_block
        repeat apply go_seq
        apply go_drawn
        case hs => rfl
        case h => intro m; simp (maxSteps := 2000000) (disch := decide) only [opsLoop, evOper, wantedA, nth, aop, aPick, aBin, aIndexAddr, aFieldAddr, aLoad, aStore, aExtract, aConvert, aAlloc, aBox, aIndex, callA, Fr.evs, opt, val, when, AM.run, outV, newA, ptr, force_eq, seen_heap, seen_next, seen_mark, seen_seen, agg_cells, int_cells, Fr.ev, Fr.put, onFr, gps, gpn, bltT, still, flat, List.append_nil, List.nil_append, List.cons_append, Nat.reduceEqDiff, ne_eq, not_false_eq_true, reduceCtorEq, Bool.and_true, Bool.true_and, Bool.and_false, Bool.false_and, Bool.not_true, Bool.not_false, Bool.and_self, drawnLoop, keep_none, clash_nil, clash_reads, created_self, lor_zero, lor_zero', h0, h1, h5, tyB, dsB, tyU8, dsU8, szU8, hbl, mul1, lx, ly, b_neq8, clash_bef]; rfl
        by_cases e : x = y
        · subst e
          simp only [eqI_t, Bool.not_true]
          repeat apply go_seq
          apply go_cond
          case hc => simp (disch := decide) only [opsLoop, evOper, wantedA, nth, aop, aPick, aBin, aIndexAddr, aFieldAddr, aLoad, aStore, aExtract, aConvert, aAlloc, aBox, aIndex, callA, builtinA, Fr.evs, opt, val, when, AM.run, outV, newA, ptr, force_eq, seen_heap, seen_next, seen_mark, seen_seen, agg_cells, int_cells, Fr.ev, Fr.put, onFr, gps, gpn, bltT, still, flat, List.append_nil, List.nil_append, List.cons_append, Nat.reduceEqDiff, ne_eq, not_false_eq_true, reduceCtorEq, Bool.and_true, Bool.true_and, Bool.and_false, Bool.false_and, Bool.not_true, Bool.not_false, Bool.and_self]; rfl
          case h1 => intro h; cases h
          intro _
          apply go_skip
          repeat apply go_seq
          apply go_region
          case h => intro m; simp (maxSteps := 2000000) (disch := decide) only [opsLoop, evOper, wantedA, nth, aop, aPick, aBin, aIndexAddr, aFieldAddr, aLoad, aStore, aExtract, aConvert, aAlloc, aBox, aIndex, callA, builtinA, Fr.evs, opt, val, when, AM.run, outV, newA, ptr, force_eq, seen_heap, seen_next, seen_mark, seen_seen, agg_cells, int_cells, Fr.ev, Fr.put, onFr, gps, gpn, bltT, still, flat, List.append_nil, List.nil_append, List.cons_append, Nat.reduceEqDiff, ne_eq, not_false_eq_true, reduceCtorEq, Bool.and_true, Bool.true_and, Bool.and_false, Bool.false_and, Bool.not_true, Bool.not_false, Bool.and_self, h5, int1, hinc]; rfl
          refine ⟨l.length - (i + 1), by omega, i + 1, _, rfl, by omega, rfl, ⟨hr.heap, hr.next, hr.mark⟩, ?_, ?_, ?_, ?_⟩
          · simp (disch := decide) only [gps, gpn, h0]
          · simp (disch := decide) only [gps, gpn, h1]
          · simp (disch := decide) only [gps, gpn]
          · intro j hj
            by_cases e : j = i
            · subst e; rw [hx, hy]
            · exact hz j (by omega)
        · have hne : eqI (Int.ofNat x.toNat) (Int.ofNat y.toNat) = false := eqI_f (fun h => e (UInt8.toNat_inj.1 h))
          simp only [hne, Bool.not_false]
          repeat apply go_seq
          apply go_cond
          case hc => simp (disch := decide) only [opsLoop, evOper, wantedA, nth, aop, aPick, aBin, aIndexAddr, aFieldAddr, aLoad, aStore, aExtract, aConvert, aAlloc, aBox, aIndex, callA, builtinA, Fr.evs, opt, val, when, AM.run, outV, newA, ptr, force_eq, seen_heap, seen_next, seen_mark, seen_seen, agg_cells, int_cells, Fr.ev, Fr.put, onFr, gps, gpn, bltT, still, flat, List.append_nil, List.nil_append, List.cons_append, Nat.reduceEqDiff, ne_eq, not_false_eq_true, reduceCtorEq, Bool.and_true, Bool.true_and, Bool.and_false, Bool.false_and, Bool.not_true, Bool.not_false, Bool.and_self]; rfl
          case h2 => intro h; cases h
          intro _
          repeat apply go_seq
          apply go_region
          case h => intro m; simp (maxSteps := 2000000) (disch := decide) only [opsLoop, evOper, wantedA, nth, aop, aPick, aBin, aIndexAddr, aFieldAddr, aLoad, aStore, aExtract, aConvert, aAlloc, aBox, aIndex, callA, builtinA, Fr.evs, opt, val, when, AM.run, outV, newA, ptr, force_eq, seen_heap, seen_next, seen_mark, seen_seen, agg_cells, int_cells, Fr.ev, Fr.put, onFr, gps, gpn, bltT, still, flat, List.append_nil, List.nil_append, List.cons_append, Nat.reduceEqDiff, ne_eq, not_false_eq_true, reduceCtorEq, Bool.and_true, Bool.true_and, Bool.and_false, Bool.false_and, Bool.not_true, Bool.not_false, Bool.and_self]; rfl
          apply go_ret
          refine ⟨_, rfl, ⟨hr.heap, hr.next, hr.mark⟩, .inr ⟨rfl, fun e2 => ?_, ?_⟩⟩
          · subst e2; rw [hx] at hy; exact e (Option.some.inj hy)
          · simp (disch := decide) only [gps, gpn]
  · obtain rfl : i = l.length := by omega
    have hlt' : ltI (Int.ofNat l.length) (Int.ofNat l.length) = false := by rw [ltI_eq]; simp
    repeat apply go_seq
    apply go_region
    case h => intro m; simp (maxSteps := 2000000) (disch := decide) only [opsLoop, evOper, wantedA, nth, aop, aPick, aBin, aIndexAddr, aFieldAddr, aLoad, aStore, aExtract, aConvert, aAlloc, aBox, aIndex, callA, builtinA, Fr.evs, opt, val, when, AM.run, outV, newA, ptr, force_eq, seen_heap, seen_next, seen_mark, seen_seen, agg_cells, int_cells, Fr.ev, Fr.put, onFr, gps, gpn, bltT, still, flat, List.append_nil, List.nil_append, List.cons_append, Nat.reduceEqDiff, ne_eq, not_false_eq_true, reduceCtorEq, Bool.and_true, Bool.true_and, Bool.and_false, Bool.false_and, Bool.not_true, Bool.not_false, Bool.and_self, h0, h5, tyB, dsB, b_lss, hlt']; rfl
    repeat apply go_seq
    apply go_cond
    case hc => simp (disch := decide) only [opsLoop, evOper, wantedA, nth, aop, aPick, aBin, aIndexAddr, aFieldAddr, aLoad, aStore, aExtract, aConvert, aAlloc, aBox, aIndex, callA, builtinA, Fr.evs, opt, val, when, AM.run, outV, newA, ptr, force_eq, seen_heap, seen_next, seen_mark, seen_seen, agg_cells, int_cells, Fr.ev, Fr.put, onFr, gps, gpn, bltT, still, flat, List.append_nil, List.nil_append, List.cons_append, Nat.reduceEqDiff, ne_eq, not_false_eq_true, reduceCtorEq, Bool.and_true, Bool.true_and, Bool.and_false, Bool.false_and, Bool.not_true, Bool.not_false, Bool.and_self]; rfl
    case h1 => intro h; cases h
    intro _
    apply go_exit
    refine ⟨_, rfl, hr, .inl ⟨rfl, List.ext_getElem? fun j => ?_⟩⟩
    by_cases hj : j < l.length
    · exact hz j hj
    · rw [List.getElem?_eq_none (by omega), List.getElem?_eq_none (by omega)]

theorem told_same : AE.Told Tryd.prog 9 sameA := by
  refine told_go hE hmix tolds_nil ?_
  intro args s v s' h hm
  unfold sameA at h
  split at h
  · rename_i a n c a2 n2 c2
    obtain ⟨hc, h2⟩ := run_when h
    have hn := ble_iff.1 hc
    refine go_enter (fi := fiSm) (c := cdSm) (by kernel_rfl) (by kernel_rfl) 26 rfl rfl ?_
    have hcode : cdSm = .seq (sub [0] cdSm) (.seq (sub [1,0] cdSm) (.seq (.seq (sub [1,1,0,0] cdSm) (.block 0 (.loop cdSml))) (sub [1,1,1] cdSm))) := rfl
    rw [hcode]
    have h0 : (Tr.ofList [Value.slice a n c, .slice a2 n2 c2]).get 0 = some (.slice a n c) := rfl
    have h1 : (Tr.ofList [Value.slice a n c, .slice a2 n2 c2]).get 1 = some (.slice a2 n2 c2) := rfl
    generalize Tr.ofList [Value.slice a n c, .slice a2 n2 c2] = t at *
    simp only [cdSm, Tryd.f9, bodyOf, sub]
    cases hbq : Nat.beq n n2 with
    | false =>
      rw [hbq] at h2
      cases h2
      have hne : eqI (Int.ofNat n) (Int.ofNat n2) = false := eqI_f (fun e => by subst e; rw [beq_iff.2 rfl] at hbq; cases hbq)
      repeat apply go_seq
      apply go_region
      case h => intro m; simp (maxSteps := 2000000) (disch := decide) only [opsLoop, evOper, wantedA, nth, aop, aPick, aBin, aIndexAddr, aFieldAddr, aLoad, aStore, aExtract, aConvert, aAlloc, aBox, aIndex, callA, builtinA, Fr.evs, opt, val, when, AM.run, outV, newA, ptr, force_eq, seen_heap, seen_next, seen_mark, seen_seen, agg_cells, int_cells, Fr.ev, Fr.put, onFr, gps, gpn, bltT, still, flat, List.append_nil, List.nil_append, List.cons_append, Nat.reduceEqDiff, ne_eq, not_false_eq_true, reduceCtorEq, Bool.and_true, Bool.true_and, Bool.and_false, Bool.false_and, Bool.not_true, Bool.not_false, Bool.and_self]; rfl
      repeat apply go_seq
      apply go_region
      case h => intro m; simp (maxSteps := 2000000) (disch := decide) only [opsLoop, evOper, wantedA, nth, aop, aPick, aBin, aIndexAddr, aFieldAddr, aLoad, aStore, aExtract, aConvert, aAlloc, aBox, aIndex, callA, builtinA, Fr.evs, opt, val, when, AM.run, outV, newA, ptr, force_eq, seen_heap, seen_next, seen_mark, seen_seen, agg_cells, int_cells, Fr.ev, Fr.put, onFr, gps, gpn, bltT, still, flat, List.append_nil, List.nil_append, List.cons_append, Nat.reduceEqDiff, ne_eq, not_false_eq_true, reduceCtorEq, Bool.and_true, Bool.true_and, Bool.and_false, Bool.false_and, Bool.not_true, Bool.not_false, Bool.and_self, h0, h1, tyB, dsB, b_neqI, hne]; rfl
      repeat apply go_seq
      apply go_cond
      case hc => simp (disch := decide) only [opsLoop, evOper, wantedA, nth, aop, aPick, aBin, aIndexAddr, aFieldAddr, aLoad, aStore, aExtract, aConvert, aAlloc, aBox, aIndex, callA, builtinA, Fr.evs, opt, val, when, AM.run, outV, newA, ptr, force_eq, seen_heap, seen_next, seen_mark, seen_seen, agg_cells, int_cells, Fr.ev, Fr.put, onFr, gps, gpn, bltT, still, flat, List.append_nil, List.nil_append, List.cons_append, Nat.reduceEqDiff, ne_eq, not_false_eq_true, reduceCtorEq, Bool.and_true, Bool.true_and, Bool.and_false, Bool.false_and, Bool.not_true, Bool.not_false, Bool.and_self]; rfl
      case h2 => intro h; cases h
      intro _
      repeat apply go_seq
      apply go_region
      case h => intro m; simp (maxSteps := 2000000) (disch := decide) only [opsLoop, evOper, wantedA, nth, aop, aPick, aBin, aIndexAddr, aFieldAddr, aLoad, aStore, aExtract, aConvert, aAlloc, aBox, aIndex, callA, builtinA, Fr.evs, opt, val, when, AM.run, outV, newA, ptr, force_eq, seen_heap, seen_next, seen_mark, seen_seen, agg_cells, int_cells, Fr.ev, Fr.put, onFr, gps, gpn, bltT, still, flat, List.append_nil, List.nil_append, List.cons_append, Nat.reduceEqDiff, ne_eq, not_false_eq_true, reduceCtorEq, Bool.and_true, Bool.true_and, Bool.and_false, Bool.false_and, Bool.not_true, Bool.not_false, Bool.and_self]; rfl
      repeat apply go_seq
      apply go_ret
      apply ret_intro rfl rfl
      case run => simp (disch := decide) only [resultsM, resultsA, resSm, opsLoop, evOper, wantedA, nth, aop, aPick, aBin, aIndexAddr, aFieldAddr, aLoad, aStore, aExtract, aConvert, aAlloc, aBox, aIndex, callA, builtinA, Fr.evs, opt, val, when, AM.run, outV, newA, ptr, force_eq, seen_heap, seen_next, seen_mark, seen_seen, agg_cells, int_cells, Fr.ev, Fr.put, onFr, gps, gpn, bltT, still, flat, List.append_nil, List.nil_append, List.cons_append, Nat.reduceEqDiff, ne_eq, not_false_eq_true, reduceCtorEq, Bool.and_true, Bool.true_and, Bool.and_false, Bool.false_and, Bool.not_true, Bool.not_false, Bool.and_self]; rfl
      exact ⟨rfl, Less'.refl _⟩
    | true =>
      rw [hbq] at h2
      obtain rfl := beq_iff.1 hbq
      obtain ⟨l, s1, hl, hb, hr1, h3⟩ := bx_of_rd h2
      obtain ⟨l2, s2, hl2, hb2, hr2, h4⟩ := bx_of_rd h3
      cases h4
      have heq : eqI (Int.ofNat n) (Int.ofNat n) = true := eqI_t n
      repeat apply go_seq
      apply go_region
      case h => intro m; simp (maxSteps := 2000000) (disch := decide) only [opsLoop, evOper, wantedA, nth, aop, aPick, aBin, aIndexAddr, aFieldAddr, aLoad, aStore, aExtract, aConvert, aAlloc, aBox, aIndex, callA, builtinA, Fr.evs, opt, val, when, AM.run, outV, newA, ptr, force_eq, seen_heap, seen_next, seen_mark, seen_seen, agg_cells, int_cells, Fr.ev, Fr.put, onFr, gps, gpn, bltT, still, flat, List.append_nil, List.nil_append, List.cons_append, Nat.reduceEqDiff, ne_eq, not_false_eq_true, reduceCtorEq, Bool.and_true, Bool.true_and, Bool.and_false, Bool.false_and, Bool.not_true, Bool.not_false, Bool.and_self]; rfl
      repeat apply go_seq
      apply go_region
      case h => intro m; simp (maxSteps := 2000000) (disch := decide) only [opsLoop, evOper, wantedA, nth, aop, aPick, aBin, aIndexAddr, aFieldAddr, aLoad, aStore, aExtract, aConvert, aAlloc, aBox, aIndex, callA, builtinA, Fr.evs, opt, val, when, AM.run, outV, newA, ptr, force_eq, seen_heap, seen_next, seen_mark, seen_seen, agg_cells, int_cells, Fr.ev, Fr.put, onFr, gps, gpn, bltT, still, flat, List.append_nil, List.nil_append, List.cons_append, Nat.reduceEqDiff, ne_eq, not_false_eq_true, reduceCtorEq, Bool.and_true, Bool.true_and, Bool.and_false, Bool.false_and, Bool.not_true, Bool.not_false, Bool.and_self, h0, h1, tyB, dsB, b_neqI, heq]; rfl
      repeat apply go_seq
      apply go_cond
      case hc => simp (disch := decide) only [opsLoop, evOper, wantedA, nth, aop, aPick, aBin, aIndexAddr, aFieldAddr, aLoad, aStore, aExtract, aConvert, aAlloc, aBox, aIndex, callA, builtinA, Fr.evs, opt, val, when, AM.run, outV, newA, ptr, force_eq, seen_heap, seen_next, seen_mark, seen_seen, agg_cells, int_cells, Fr.ev, Fr.put, onFr, gps, gpn, bltT, still, flat, List.append_nil, List.nil_append, List.cons_append, Nat.reduceEqDiff, ne_eq, not_false_eq_true, reduceCtorEq, Bool.and_true, Bool.true_and, Bool.and_false, Bool.false_and, Bool.not_true, Bool.not_false, Bool.and_self]; rfl
      case h1 => intro h; cases h
      intro _
      apply go_skip
      repeat apply go_seq
      apply go_region
      case h => intro m; simp (maxSteps := 2000000) (disch := decide) only [opsLoop, evOper, wantedA, nth, aop, aPick, aBin, aIndexAddr, aFieldAddr, aLoad, aStore, aExtract, aConvert, aAlloc, aBox, aIndex, callA, builtinA, Fr.evs, opt, val, when, AM.run, outV, newA, ptr, force_eq, seen_heap, seen_next, seen_mark, seen_seen, agg_cells, int_cells, Fr.ev, Fr.put, onFr, gps, gpn, bltT, still, flat, List.append_nil, List.nil_append, List.cons_append, Nat.reduceEqDiff, ne_eq, not_false_eq_true, reduceCtorEq, Bool.and_true, Bool.true_and, Bool.and_false, Bool.false_and, Bool.not_true, Bool.not_false, Bool.and_self]; rfl
      apply go_block
      subst hl
      refine (go_loop_inv (InvSm a a2 c c2 l l2 s) (fun k fr s1 hI => same_round a a2 c c2 l l2 s hn hl2 hb (hb2.rd ⟨hr1.heap.symm, hr1.next.symm, hr1.mark.symm⟩) k fr s1 hI) (l.length - 0) _ _ ⟨0, _, rfl, by omega, rfl, Rd.refl s, ?_, ?_, ?_, fun j hj => by omega⟩).mono ?_
      · simp (disch := decide) only [gps, gpn, h0]
      · simp (disch := decide) only [gps, gpn, h1]
      · simp (disch := decide) only [gps, gpn, int0]
      rintro x fr s3 ⟨t1, rfl, hr3, hx⟩
      have hless : Less' s3 s' := hr3.less (hr1.trans hr2)
      rcases hx with ⟨rfl, rfl⟩ | ⟨rfl, hne, g4⟩
      · simp only [Out_, if_true]
        show GoC E _ _ _ _ _
        repeat apply go_seq
        apply go_region
        case h => intro m; simp (maxSteps := 2000000) (disch := decide) only [opsLoop, evOper, wantedA, nth, aop, aPick, aBin, aIndexAddr, aFieldAddr, aLoad, aStore, aExtract, aConvert, aAlloc, aBox, aIndex, callA, builtinA, Fr.evs, opt, val, when, AM.run, outV, newA, ptr, force_eq, seen_heap, seen_next, seen_mark, seen_seen, agg_cells, int_cells, Fr.ev, Fr.put, onFr, gps, gpn, bltT, still, flat, List.append_nil, List.nil_append, List.cons_append, Nat.reduceEqDiff, ne_eq, not_false_eq_true, reduceCtorEq, Bool.and_true, Bool.true_and, Bool.and_false, Bool.false_and, Bool.not_true, Bool.not_false, Bool.and_self]; rfl
        repeat apply go_seq
        apply go_ret
        apply ret_intro rfl rfl
        case run => simp (disch := decide) only [resultsM, resultsA, resSm, opsLoop, evOper, wantedA, nth, aop, aPick, aBin, aIndexAddr, aFieldAddr, aLoad, aStore, aExtract, aConvert, aAlloc, aBox, aIndex, callA, builtinA, Fr.evs, opt, val, when, AM.run, outV, newA, ptr, force_eq, seen_heap, seen_next, seen_mark, seen_seen, agg_cells, int_cells, Fr.ev, Fr.put, onFr, gps, gpn, bltT, still, flat, List.append_nil, List.nil_append, List.cons_append, Nat.reduceEqDiff, ne_eq, not_false_eq_true, reduceCtorEq, Bool.and_true, Bool.true_and, Bool.and_false, Bool.false_and, Bool.not_true, Bool.not_false, Bool.and_self]; rfl
        exact ⟨by rw [eqBytes_iff]; simp, hless⟩
      · simp only [Out_]
        apply ret_intro rfl rfl
        case run => simp (disch := decide) only [resultsM, resultsA, resSm, opsLoop, evOper, wantedA, nth, aop, aPick, aBin, aIndexAddr, aFieldAddr, aLoad, aStore, aExtract, aConvert, aAlloc, aBox, aIndex, callA, builtinA, Fr.evs, opt, val, when, AM.run, outV, newA, ptr, force_eq, seen_heap, seen_next, seen_mark, seen_seen, agg_cells, int_cells, Fr.ev, Fr.put, onFr, gps, gpn, bltT, still, flat, List.append_nil, List.nil_append, List.cons_append, Nat.reduceEqDiff, ne_eq, not_false_eq_true, reduceCtorEq, Bool.and_true, Bool.true_and, Bool.and_false, Bool.false_and, Bool.not_true, Bool.not_false, Bool.and_self, g4]; rfl
        exact ⟨by rw [eqBytes_iff]; simp [hne], hless⟩
  · cases h
end Go.Proofs.YtioieffmihdheaaDoor.lf
end
end

section
/- Leaves: the law on bursts: its beginning; leaves that aren't right. -/
noncomputable section
namespace Go.Proofs.YtioieffmihdheaaDoor.lf
open AE
set_option linter.unusedSimpArgs false
set_option linter.unusedVariables false
set_option maxRecDepth 10000

abbrev sigU : List (Nat × (List Value → AM Value)) := [(10, withinBA), (7, putA), (8, getA), (13, rightA), (9, sameA), (3, constA (.bool true))]
theorem tolds_U : Tolds Tryd.prog (sumsOf sigU) := tolds_cons told_withinB (tolds_cons told_put (tolds_cons told_get (tolds_cons told_right (tolds_cons told_same (tolds_cons told_runs tolds_nil)))))
theorem suWB : sumsOf sigU 10 = some withinBA := rfl
theorem suP : sumsOf sigU 7 = some putA := rfl
theorem suG : sumsOf sigU 8 = some getA := rfl
theorem suR : sumsOf sigU 13 = some rightA := rfl
theorem suS : sumsOf sigU 9 = some sameA := rfl
theorem suX : sumsOf sigU 3 = some (constA (.bool true)) := rfl
theorem tgSm : ∀ a b, targetA E (.func 9) a b = .pure (.enter 9 (b ++ a)) := tgt (fi := fiSm) (c := cdSm) (by kernel_rfl) (by kernel_rfl)
noncomputable def fiU : FI := FI.of Tryd.f5
noncomputable def cdU : Code := bodyOf Tryd.f5
noncomputable def cdU2 : Code := sub [1,1] cdU
noncomputable def cdU4 : Code := sub [1,1,1] cdU
noncomputable def cdU9 : Code := sub [1,1,1,1,1,1,1] cdU
noncomputable def cdUl : Code := sub [1,1,1,1,1,1,1,1,0,1,0,0] cdU
noncomputable def cdU15 : Code := sub [1,1,1,1,1,1,1,1,1] cdU
theorem resU : fiU.results = [.tmp 8] := rfl
abbrev Yes (v : Value) (s : S) : Prop := v = Value.bool true
theorem LfAt.keep {s s1 : S} {n : Nat} {d : LeafD} (h : LfAt s n d) (hn : s.next ≤ s1.next) (hg : s1.heap.get n = s.heap.get n) : LfAt s1 n d := ⟨by have := h.lt; omega, by rw [hg]; exact h.cell, h.len⟩
theorem LfAt.box {s s1 : S} {n : Nat} {d : LeafD} (hlt : n < s1.next) (hd : d.load.length = 116) {e : TypeId} {rm : Room} (hg : s1.heap.get n = some (.cells (Tr.ofList d.cells) d.cells.length e rm)) : LfAt s1 n d :=
  ⟨hlt, ⟨_, _, _, by rw [hg, d.len hd], row_ofList _ (by rw [d.len hd]; unfold Tr.wide; omega)⟩, hd⟩
/-- the bytes that Put gave -/
def PutAt2 (s : S) (n : Nat) (d : LeafD) : Prop := rightL d = true → n + 9 < s.next ∧ s.heap.get (n + 9) = some (.cells (Tr.ofList ((putL d).map bv)) (putL d).length 5 .whole)
theorem PutAt2.keep {s s1 : S} {n : Nat} {d : LeafD} (h : PutAt2 s n d) (hn : s.next ≤ s1.next) (hg : s1.heap.get (n + 9) = s.heap.get (n + 9)) : PutAt2 s1 n d := fun hr => ⟨by have := (h hr).1; omega, by rw [hg]; exact (h hr).2⟩

set_option maxHeartbeats 1000000 in
/-- the beginning: both leaves are put -/
theorem bu_begin (dl dm : LeafD) (hl : dl.load.length = 116) (hm : dm.load.length = 116) (a : Int) (x : Nat) (s : S) (hN : ∀ i, i < 200 → Nat.ble (s.next + i) lastName = true) (t : Tr Value) (Q : Value → S → Prop)
    (h0 : t.get 0 = some (.agg ⟨dl.cells⟩)) (h1 : t.get 1 = some (.agg ⟨dm.cells⟩)) (h2 : t.get 2 = some (.int .i64 a)) (h3 : t.get 3 = some (.int .u32 (.ofNat x)))
    (h : ∀ (t : Tr Value) (s1 : S), s1.next = s.next + 2 + putN dl + putN dm → LfAt s1 s.next dl → LfAt s1 (s.next + 1) dm → PutAt2 s1 (s.next + 2) dl → PutAt2 s1 (s.next + 2 + putN dl) dm →
      t.get 2 = some (.int .i64 a) → t.get 3 = some (.int .u32 (.ofNat x)) → t.get 4 = some (.pointer (some ⟨s.next, 0, none⟩)) → t.get 5 = some (.pointer (some ⟨s.next + 1, 0, none⟩)) →
      t.get 9 = some (putV dl (s.next + 2)) → t.get 10 = some (putV dm (s.next + 2 + putN dl)) →
      GoC E (sumsOf sigU) cdU2 ⟨5, t, 137, [], none⟩ s1 (Ret E 5 fiU Q)) :
    GoC E (sumsOf sigU) cdU ⟨5, t, 137, [], none⟩ s (Ret E 5 fiU Q) := by
  have hcode : cdU = .seq (sub [0] cdU) (.seq (sub [1,0] cdU) cdU2) := rfl
  rw [hcode]
  simp only [cdU, Tryd.f5, bodyOf, sub]
  have hN0 := hN 0 (by omega)
  have hN1 := hN 1 (by omega)
  rw [Nat.add_zero] at hN0
  have hN1' : Nat.ble (Nat.succ s.next) lastName = true := hN1
  have b1 : Nat.ble dl.cells.length lastName = true := by rw [dl.len hl]; rfl
  have b2 : Nat.ble dm.cells.length lastName = true := by rw [dm.len hm]; rfl
  have hp1 : putN dl ≤ 11 := by unfold putN; split <;> omega
  have hp2 : putN dm ≤ 11 := by unfold putN; split <;> omega
  repeat apply go_seq
  apply go_region
  case h => intro m; simp (maxSteps := 2000000) (disch := decide) only [opsLoop, evOper, wantedA, nth, aop, aPick, aBin, aIndexAddr, aFieldAddr, aLoad, aStore, aExtract, aConvert, aAlloc, aBox, aIndex, callA, builtinA, Fr.evs, opt, val, when, AM.run, outV, newA, ptr, force_eq, seen_heap, seen_next, seen_mark, seen_seen, agg_cells, int_cells, Fr.ev, Fr.put, onFr, gps, gpn, bltT, still, flat, List.append_nil, List.nil_append, List.cons_append, Nat.reduceEqDiff, ne_eq, not_false_eq_true, reduceCtorEq, Bool.and_true, Bool.true_and, Bool.and_false, Bool.false_and, Bool.not_true, Bool.not_false, Bool.and_self, h0, h1, tyLf, hN0, hN1', b1, b2]; rfl
  generalize hs1 : S.mk _ _ _ _ _ = s1
  have e1 : s1.next = s.next + 2 := by rw [← hs1]
  have e1h : s1.heap = (s.heap.put s.next (some (.cells (Tr.ofList dl.cells) dl.cells.length 24 .whole))).put (Nat.succ s.next) (some (.cells (Tr.ofList dm.cells) dm.cells.length 24 .whole)) := by rw [← hs1]
  clear hs1
  rw [show Nat.succ s.next = s.next + 1 from rfl] at e1h ⊢
  have A1 : LfAt s1 s.next dl := LfAt.box (s := s) (by omega) hl (by rw [e1h, hg_far hN1 (by omega)]; exact hg_same hN0 _ _)
  have B1 : LfAt s1 (s.next + 1) dm := LfAt.box (s := s) (by omega) hm (by rw [e1h, hg_same hN1])
  have A0 : LfAt ⟨s1.heap, s1.next, s1.next, 0, 0⟩ s.next dl := ⟨A1.lt, A1.cell, A1.len⟩
  have la := A0.load
  obtain ⟨s2, pr, p2, _, prd, pwr, p4, p5⟩ := putA_run (s := ⟨s1.heap, s1.next, s1.next, 0, 0⟩) hl (Nat.le_refl _) (fun i hi => by
    show Nat.ble (s1.next + i) lastName = true
    rw [e1, Nat.add_assoc]
    exact hN (2 + i) (by omega))
  have pr : (putA [.agg ⟨dl.cells⟩]).run ⟨s1.heap, s1.next, s1.next, 0, 0⟩ = some (putV dl s1.next, s2) := pr
  have p2 : s2.next = s1.next + putN dl := p2
  have p4 : ∀ m, (m < s1.next ∨ s1.next + putN dl ≤ m) → s2.heap.get m = s1.heap.get m := p4
  have prd : s2.rd = 0 := prd
  have pwr : s2.wr = 0 := pwr
  have p5 : rightL dl = true → s2.heap.get (s1.next + 9) = some (.cells (Tr.ofList ((putL dl).map bv)) (putL dl).length 5 .whole) := p5
  have A2 : LfAt s2 s.next dl := A1.keep (by omega) (p4 _ (.inl (by omega)))
  have B2 : LfAt s2 (s.next + 1) dm := B1.keep (by omega) (p4 _ (.inl (by omega)))
  have P2 : PutAt2 s2 (s.next + 2) dl := by
    intro hr
    have : putN dl = 11 := by unfold putN; rw [if_pos hr]
    exact ⟨by omega, by rw [← e1]; exact p5 hr⟩
  have B0 : LfAt ⟨s2.heap, s2.next, s2.next, 0, 0⟩ (s.next + 1) dm := ⟨B2.lt, B2.cell, B2.len⟩
  have lb := B0.load
  obtain ⟨s3, qr, q2, _, qrd, qwr, q4, q5⟩ := putA_run (s := ⟨s2.heap, s2.next, s2.next, 0, 0⟩) hm (Nat.le_refl _) (fun i hi => by
    show Nat.ble (s2.next + i) lastName = true
    rw [p2, e1, Nat.add_assoc, Nat.add_assoc]
    exact hN (2 + (putN dl + i)) (by omega))
  have qr : (putA [.agg ⟨dm.cells⟩]).run ⟨s2.heap, s2.next, s2.next, 0, 0⟩ = some (putV dm s2.next, s3) := qr
  have q2 : s3.next = s2.next + putN dm := q2
  have q4 : ∀ m, (m < s2.next ∨ s2.next + putN dm ≤ m) → s3.heap.get m = s2.heap.get m := q4
  have qrd : s3.rd = 0 := qrd
  have qwr : s3.wr = 0 := qwr
  have q5 : rightL dm = true → s3.heap.get (s2.next + 9) = some (.cells (Tr.ofList ((putL dm).map bv)) (putL dm).length 5 .whole) := q5
  have hcn := clash_new (lo := s1.next) (hi := s2.next) (n := s.next + 1) (mk := s2.next) (by omega)
  simp only [S.seen] at la lb
  repeat apply go_seq
  apply go_drawn
  case hs => rfl
  case h => intro m; simp (maxSteps := 2000000) (disch := decide) only [opsLoop, evOper, wantedA, nth, aop, aPick, aBin, aIndexAddr, aFieldAddr, aLoad, aStore, aExtract, aConvert, aAlloc, aBox, aIndex, callA, Fr.evs, opt, val, when, AM.run, outV, newA, ptr, force_eq, seen_heap, seen_next, seen_mark, seen_seen, agg_cells, int_cells, Fr.ev, Fr.put, onFr, gps, gpn, bltT, still, flat, List.append_nil, List.nil_append, List.cons_append, Nat.reduceEqDiff, ne_eq, not_false_eq_true, reduceCtorEq, Bool.and_true, Bool.true_and, Bool.and_false, Bool.false_and, Bool.not_true, Bool.not_false, Bool.and_self, drawnLoop, keep_none, clash_nil, clash_reads, created_self, lor_zero, lor_zero', tyLf, la, lb, tgP, evT_told suP, pr, prd, pwr, qr, qrd, qwr, hcn, clash_bef]; rfl
  generalize hs4 : S.mk _ _ _ _ _ = s4
  have f4 : s4.next = s3.next := by rw [← hs4]
  have f4h : s4.heap = s3.heap := by rw [← hs4]
  clear hs4
  apply h
  · rw [f4, q2, p2, e1]
  · exact A2.keep (by omega) (by rw [f4h]; exact q4 _ (.inl (by omega)))
  · exact B2.keep (by omega) (by rw [f4h]; exact q4 _ (.inl (by omega)))
  · intro hr
    have : putN dl = 11 := by unfold putN; rw [if_pos hr]
    exact ⟨by omega, by rw [f4h, q4 _ (.inl (by omega))]; exact (P2 hr).2⟩
  · intro hr
    have : putN dm = 11 := by unfold putN; rw [if_pos hr]
    have hq := q5 hr
    rw [p2, e1] at hq
    exact ⟨by omega, by rw [f4h]; exact hq⟩
  · simp (disch := decide) only [gps, gpn, h2]
  · simp (disch := decide) only [gps, gpn, h3]
  · simp (disch := decide) only [gps, gpn]
  · simp (disch := decide) only [gps, gpn]
  · simp (disch := decide) only [gps, gpn, e1]
  · simp (disch := decide) only [gps, gpn, e1, p2]
end Go.Proofs.YtioieffmihdheaaDoor.lf
end
end

section
/- Leaves: the law on bursts: leaves that aren't right. -/
noncomputable section
namespace Go.Proofs.YtioieffmihdheaaDoor.lf
open AE
set_option linter.unusedSimpArgs false
set_option linter.unusedVariables false
set_option maxRecDepth 10000

theorem eqVB (b c : Bool) : eqV E 1000 4 (.bool b) (.bool c) = some (b == c) := by
  show eqV E (999 + 1) _ _ _ = _
  simp only [eqV, tyBo, dsBo, eqBool_eq]
theorem eqB_tt (b c : Bool) : binA E .eql 4 (.bool b) (.bool c) = some (.bool (b == c)) := by
  show someB (eqV E 1000 4 (.bool b) (.bool c)) true = _
  rw [eqVB]
  rfl
theorem neB_tt (b c : Bool) : binA E .neq 4 (.bool b) (.bool c) = some (.bool (!(b == c))) := by
  show someB (eqV E 1000 4 (.bool b) (.bool c)) false = _
  rw [eqVB]
  rfl
/-- a slice's length, as Put gives it -/
def putLen (d : LeafD) : Nat := if rightL d = true then 128 else 0
theorem putV_eq (d : LeafD) (n : Nat) : ∃ a, putV d n = .slice a (putLen d) (putLen d) := by
  unfold putV putLen
  by_cases h : rightL d = true
  · exact ⟨some ⟨n + 9, 0, none⟩, by rw [if_pos h, if_pos h]⟩
  · exact ⟨none, by rw [if_neg h, if_neg h]⟩
theorem len_zero (d : LeafD) : eqI (Int.ofNat (putLen d)) (Int.ofNat 0) = !rightL d := by
  unfold putLen
  cases rightL d <;> rfl
theorem len_pos (d : LeafD) : ltI (Int.ofNat 0) (Int.ofNat (putLen d)) = rightL d := by
  unfold putLen
  cases rightL d <;> rfl
theorem beq_self (b : Bool) : (b == b) = true := by cases b <;> rfl
theorem right_keep {s s1 s2 : S} {n : Nat} {d : LeafD} (h : LfAt s n d) (hn : s1.next = s.next) (hh : s1.heap = s.heap) (h2 : s2.next = s1.next + 2) (h4 : ∀ m, s2.heap.get m = if s1.next ≤ m ∧ m < s1.next + 2 then none else s1.heap.get m) : LfAt s2 n d :=
  h.keep (by omega) (by have := h.lt; rw [h4, if_neg (by omega), hh])

set_option maxHeartbeats 1000000 in
/-- not both are right -/
theorem bu_not (dl dm : LeafD) (hno : (rightL dl && rightL dm) = false) (n k1 k2 : Nat) (s : S) (t : Tr Value) (A : LfAt s n dl) (B : LfAt s (n + 1) dm) (hN : ∀ i, i < 100 → Nat.ble (s.next + i) lastName = true)
    (h4 : t.get 4 = some (.pointer (some ⟨n, 0, none⟩))) (h5 : t.get 5 = some (.pointer (some ⟨n + 1, 0, none⟩))) (h9 : t.get 9 = some (putV dl k1)) (h10 : t.get 10 = some (putV dm k2)) :
    GoC E (sumsOf sigU) cdU2 ⟨5, t, 137, [], none⟩ s (Ret E 5 fiU Yes) := by
  have hcode : cdU2 = .seq (sub [1,1,0] cdU) cdU4 := rfl
  rw [hcode]
  simp only [cdU, Tryd.f5, bodyOf, sub]
  obtain ⟨v1, e1⟩ := putV_eq dl k1
  obtain ⟨v2, e2⟩ := putV_eq dm k2
  rw [e1] at h9
  rw [e2] at h10
  have z1 := len_zero dl
  have z2 := len_zero dm
  have p1 := len_pos dl
  have p2 := len_pos dm
  generalize putLen dl = w1 at *
  generalize putLen dm = w2 at *
  have la := A.load
  obtain ⟨s2, r1, q1, q2⟩ := rightA_run (s := s.seen n) A.len (fun i hi => hN i (by omega))
  have B2 : LfAt s2 (n + 1) dm := right_keep B rfl rfl q1 q2
  have lb := B2.load
  obtain ⟨s3, r2, _, _⟩ := rightA_run (s := s2.seen (n + 1)) B.len (fun i hi => by
    show Nat.ble (s2.next + i) lastName = true
    rw [q1, seen_next, Nat.add_assoc]
    exact hN (2 + i) (by omega))
  have hx : (constA (.bool true) []).run s3 = some (.bool true, s3) := rfl
  cases hL : rightL dl with
  | false =>
    rw [hL] at z1 p1 r1
    cases hM : rightL dm
    all_goals
      rw [hM] at z2 p2 r2
      repeat apply go_seq
      apply go_region
      case h => intro m; simp (maxSteps := 2000000) (disch := decide) only [opsLoop, evOper, wantedA, nth, aop, aPick, aBin, aIndexAddr, aFieldAddr, aLoad, aStore, aExtract, aConvert, aAlloc, aBox, aIndex, callA, builtinA, Fr.evs, opt, val, when, AM.run, outV, newA, ptr, force_eq, seen_heap, seen_next, seen_mark, seen_seen, agg_cells, int_cells, Fr.ev, Fr.put, onFr, gps, gpn, bltT, still, flat, List.append_nil, List.nil_append, List.cons_append, Nat.reduceEqDiff, ne_eq, not_false_eq_true, reduceCtorEq, Bool.and_true, Bool.true_and, Bool.and_false, Bool.false_and, Bool.not_true, Bool.not_false, Bool.and_self, h9, h10, tyB, dsB, b_eql, int0, z1, z2]; rfl
      repeat apply go_seq
      apply go_cond
      case hc => simp (disch := decide) only [opsLoop, evOper, wantedA, nth, aop, aPick, aBin, aIndexAddr, aFieldAddr, aLoad, aStore, aExtract, aConvert, aAlloc, aBox, aIndex, callA, builtinA, Fr.evs, opt, val, when, AM.run, outV, newA, ptr, force_eq, seen_heap, seen_next, seen_mark, seen_seen, agg_cells, int_cells, Fr.ev, Fr.put, onFr, gps, gpn, bltT, still, flat, List.append_nil, List.nil_append, List.cons_append, Nat.reduceEqDiff, ne_eq, not_false_eq_true, reduceCtorEq, Bool.and_true, Bool.true_and, Bool.and_false, Bool.false_and, Bool.not_true, Bool.not_false, Bool.and_self]; rfl
      case h2 => intro h; cases h
      intro _
      repeat apply go_seq
      apply go_region
      case h => intro m; simp (maxSteps := 2000000) (disch := decide) only [opsLoop, evOper, wantedA, nth, aop, aPick, aBin, aIndexAddr, aFieldAddr, aLoad, aStore, aExtract, aConvert, aAlloc, aBox, aIndex, callA, builtinA, Fr.evs, opt, val, when, AM.run, outV, newA, ptr, force_eq, seen_heap, seen_next, seen_mark, seen_seen, agg_cells, int_cells, Fr.ev, Fr.put, onFr, gps, gpn, bltT, still, flat, List.append_nil, List.nil_append, List.cons_append, Nat.reduceEqDiff, ne_eq, not_false_eq_true, reduceCtorEq, Bool.and_true, Bool.true_and, Bool.and_false, Bool.false_and, Bool.not_true, Bool.not_false, Bool.and_self, h4, h5, h9, h10, tyB, dsB, b_gtr, int0, p1, p2, tyLf, la, lb, tgR, evT_told suR, r1, r2, eqB_tt, beq_self, tgX, evT_told suX, hx]; rfl
      repeat apply go_seq
      apply go_ret
      apply ret_intro rfl rfl
      case run => simp (disch := decide) only [resultsM, resultsA, resU, opsLoop, evOper, wantedA, nth, aop, aPick, aBin, aIndexAddr, aFieldAddr, aLoad, aStore, aExtract, aConvert, aAlloc, aBox, aIndex, callA, builtinA, Fr.evs, opt, val, when, AM.run, outV, newA, ptr, force_eq, seen_heap, seen_next, seen_mark, seen_seen, agg_cells, int_cells, Fr.ev, Fr.put, onFr, gps, gpn, bltT, still, flat, List.append_nil, List.nil_append, List.cons_append, Nat.reduceEqDiff, ne_eq, not_false_eq_true, reduceCtorEq, Bool.and_true, Bool.true_and, Bool.and_false, Bool.false_and, Bool.not_true, Bool.not_false, Bool.and_self]; rfl
      rfl
  | true =>
    rw [hL] at z1 p1 r1
    cases hM : rightL dm with
    | true => rw [hL, hM] at hno; cases hno
    | false =>
      rw [hM] at z2 p2 r2
      repeat apply go_seq
      apply go_region
      case h => intro m; simp (maxSteps := 2000000) (disch := decide) only [opsLoop, evOper, wantedA, nth, aop, aPick, aBin, aIndexAddr, aFieldAddr, aLoad, aStore, aExtract, aConvert, aAlloc, aBox, aIndex, callA, builtinA, Fr.evs, opt, val, when, AM.run, outV, newA, ptr, force_eq, seen_heap, seen_next, seen_mark, seen_seen, agg_cells, int_cells, Fr.ev, Fr.put, onFr, gps, gpn, bltT, still, flat, List.append_nil, List.nil_append, List.cons_append, Nat.reduceEqDiff, ne_eq, not_false_eq_true, reduceCtorEq, Bool.and_true, Bool.true_and, Bool.and_false, Bool.false_and, Bool.not_true, Bool.not_false, Bool.and_self, h9, h10, tyB, dsB, b_eql, int0, z1, z2]; rfl
      repeat apply go_seq
      apply go_cond
      case hc => simp (disch := decide) only [opsLoop, evOper, wantedA, nth, aop, aPick, aBin, aIndexAddr, aFieldAddr, aLoad, aStore, aExtract, aConvert, aAlloc, aBox, aIndex, callA, builtinA, Fr.evs, opt, val, when, AM.run, outV, newA, ptr, force_eq, seen_heap, seen_next, seen_mark, seen_seen, agg_cells, int_cells, Fr.ev, Fr.put, onFr, gps, gpn, bltT, still, flat, List.append_nil, List.nil_append, List.cons_append, Nat.reduceEqDiff, ne_eq, not_false_eq_true, reduceCtorEq, Bool.and_true, Bool.true_and, Bool.and_false, Bool.false_and, Bool.not_true, Bool.not_false, Bool.and_self]; rfl
      case h2 => intro h; cases h
      intro _
      repeat apply go_seq
      apply go_region
      case h => intro m; simp (maxSteps := 2000000) (disch := decide) only [opsLoop, evOper, wantedA, nth, aop, aPick, aBin, aIndexAddr, aFieldAddr, aLoad, aStore, aExtract, aConvert, aAlloc, aBox, aIndex, callA, builtinA, Fr.evs, opt, val, when, AM.run, outV, newA, ptr, force_eq, seen_heap, seen_next, seen_mark, seen_seen, agg_cells, int_cells, Fr.ev, Fr.put, onFr, gps, gpn, bltT, still, flat, List.append_nil, List.nil_append, List.cons_append, Nat.reduceEqDiff, ne_eq, not_false_eq_true, reduceCtorEq, Bool.and_true, Bool.true_and, Bool.and_false, Bool.false_and, Bool.not_true, Bool.not_false, Bool.and_self, h4, h5, h9, h10, tyB, dsB, b_gtr, int0, p1, p2, tyLf, la, lb, tgR, evT_told suR, r1, r2, eqB_tt, beq_self, tgX, evT_told suX, hx]; rfl
      repeat apply go_seq
      apply go_ret
      apply ret_intro rfl rfl
      case run => simp (disch := decide) only [resultsM, resultsA, resU, opsLoop, evOper, wantedA, nth, aop, aPick, aBin, aIndexAddr, aFieldAddr, aLoad, aStore, aExtract, aConvert, aAlloc, aBox, aIndex, callA, builtinA, Fr.evs, opt, val, when, AM.run, outV, newA, ptr, force_eq, seen_heap, seen_next, seen_mark, seen_seen, agg_cells, int_cells, Fr.ev, Fr.put, onFr, gps, gpn, bltT, still, flat, List.append_nil, List.nil_append, List.cons_append, Nat.reduceEqDiff, ne_eq, not_false_eq_true, reduceCtorEq, Bool.and_true, Bool.true_and, Bool.and_false, Bool.false_and, Bool.not_true, Bool.not_false, Bool.and_self]; rfl
      rfl
end Go.Proofs.YtioieffmihdheaaDoor.lf
end
end

section
/- Leaves: bytes that are put behind others, where there is no room; what Get says of bytes that are too few or too many. -/
noncomputable section
namespace Go.Proofs.YtioieffmihdheaaDoor.lf
open AE
set_option linter.unusedSimpArgs false
set_option linter.unusedVariables false
set_option maxRecDepth 10000

theorem app_eq (a b : Option Addr) (n c n2 c2 : Nat) : builtinA E .append #[25, 25] [.slice a n c, .slice b n2 c2] = appendA 1 1 1 5 a n c n2 (.slice b n2 c2) := by
  simp only [builtinA, tyB, dsB, opt, tyU8, zeU8, szU8, byU8, lenA, int_cells]
  rfl
theorem first_b {s : S} {ad : Addr} {l : List UInt8} {c2 : Nat} (hb : Bs s ad l) (h0 : 0 < l.length) (k : List Value → AM ANext) : (firstA 1 l.length (.slice (some ad) l.length c2) k).run s = (k (l.map bv)).run (s.seen ad.block) := by
  obtain ⟨x, l', rfl⟩ : ∃ x l', l = x :: l' := by
    cases l with
    | nil => simp at h0
    | cons x l' => exact ⟨x, l', rfl⟩
  have e : firstA 1 (x :: l').length (.slice (some ad) (x :: l').length c2) k = loadA ad (x :: l').length k := by
    show loadA ad (Nat.mul (x :: l').length 1) k = _
    rw [mul1]
  rw [e, loadA_run hb]
theorem newA_run {β : Type} {s : S} {vs : List Value} {e : TypeId} {rm : Room} {k : Nat → AM β} (hl : vs.length ≤ 1000000) (hN : Nat.ble s.next lastName = true) : (newA e vs rm k).run s = (k s.next).run (s.grow (.cells (Tr.ofList vs) vs.length e rm)) := by
  unfold newA
  rw [show Nat.ble vs.length lastName = true from ble_iff.2 (by unfold lastName; omega)]
  simp only [when, AM.run, force_eq, hN]
  rfl
theorem append_new {s : S} {e n c2 : Nat} {ad : Addr} {l : List UInt8} (hb : Bs s ad l) (hn : l.length = n) (h0 : 0 < n) (hmax : n ≤ 1000000) (he : Bs s ⟨e, 0, none⟩ []) (hN : Nat.ble s.next lastName = true) :
    ∃ s1, (builtinA E .append #[25, 25] [.slice (some ⟨e, 0, none⟩) 0 0, .slice (some ad) n c2]).run s = some (.value (.slice (some ⟨s.next, 0, none⟩) n (Nat.add OPEN n)), s1) ∧
      s1.heap = s.heap.put s.next (some (.cells (Tr.ofList (l.map bv)) l.length 5 .loose)) ∧ s1.next = s.next + 1 ∧ s1.mark = s.mark := by
  subst hn
  rw [app_eq]
  unfold appendA
  have h3 : Nat.ble (Nat.add 0 l.length) maxNeed = true := ble_iff.2 (by show 0 + _ ≤ maxNeed; unfold maxNeed; omega)
  have h4 : Nat.ble (Nat.add 0 l.length) 0 = false := ble_f (by show 0 < 0 + l.length; omega)
  simp only [h3, when, show Nat.ble 1 1 = true from rfl, show Nat.ble 1 1024 = true from rfl, Bool.and_self]
  rw [first_b hb h0]
  simp only [show Nat.ble OPEN 0 = false from rfl, h4]
  have e1 : ∀ k : List Value → AM ANext, (loadA ⟨e, 0, none⟩ (Nat.mul 0 1) k).run (s.seen ad.block) = (k []).run ((s.seen ad.block).seen e) := fun k => loadA_run (s := s.seen ad.block) (l := []) (he.of rfl rfl) k
  rw [e1]
  unfold growA
  simp only [when, show Nat.beq 1 1 = true from rfl, List.nil_append]
  rw [newA_run (s := (s.seen ad.block).seen e) (by rw [List.length_map]; omega) hN]
  refine ⟨((s.seen ad.block).seen e).grow (.cells (Tr.ofList (l.map bv)) (l.map bv).length 5 .loose), by rw [show Nat.add 0 l.length = l.length from Nat.zero_add _]; rfl, ?_, rfl, rfl⟩
  rw [List.length_map]
  rfl
theorem sub_open (O n : Nat) : Nat.sub (Nat.add O n) O = n := Nat.add_sub_cancel_left ..
theorem ble_open (O n : Nat) : Nat.ble O (Nat.add O n) = true := ble_iff.2 (Nat.le_add_right ..)
theorem append_one {s : S} {N e n c : Nat} (h6 : Nat.ble OPEN c = true) (h4 : Nat.sub c OPEN = n) {l : List UInt8} {x : UInt8} (hx : Bs s ⟨e, 0, none⟩ [x]) (hn : l.length = n) (hmax : n ≤ 100000) (hlt : N < s.next) (hN0 : Nat.ble N lastName = true) (hg : s.heap.get N = some (.cells (Tr.ofList (l.map bv)) l.length 5 .loose)) (hN : Nat.ble s.next lastName = true) :
    ∃ s1, (builtinA E .append #[25, 25] [.slice (some ⟨N, 0, none⟩) n c, .slice (some ⟨e, 0, none⟩) 1 1]).run s = some (.value (.slice (some ⟨s.next, 0, none⟩) (Nat.add n 1) (Nat.add OPEN (Nat.add n 1))), s1) ∧
      s1.next = s.next + 1 ∧ s1.mark = s.mark ∧ ∀ m, m ≠ N → m ≠ s.next → s1.heap.get m = s.heap.get m := by
  subst hn
  rw [app_eq]
  unfold appendA
  have h3 : Nat.ble (Nat.add l.length 1) maxNeed = true := ble_iff.2 (by show l.length + 1 ≤ maxNeed; unfold maxNeed; omega)
  have h5 : Nat.ble (Nat.add l.length 1) l.length = false := ble_f (by show l.length < l.length + 1; omega)
  simp only [h3, when, show Nat.ble 1 1 = true from rfl, show Nat.ble 1 1024 = true from rfl, Bool.and_self]
  have e0 := first_b (c2 := 1) hx (by simp)
  rw [show ([x] : List UInt8).length = 1 from rfl] at e0
  rw [e0]
  rw [h6, h4, h5]
  dsimp only
  unfold appendL
  have h7 : rdCells (Tr.ofList (l.map bv)) 0 (Nat.mul l.length 1) [] = some (l.map bv) := by
    have := rd_row (row_ofList (l.map bv) (by rw [List.length_map]; unfold Tr.wide; omega))
    rw [List.length_map] at this
    rw [mul1]; exact this
  have h8 : Nat.beq (Nat.add 0 (Nat.mul l.length 1)) l.length = true := beq_iff.2 (by rw [mul1]; exact Nat.zero_add _)
  have h9 : allOne ([x].map bv) = true := rfl
  simp only [AM.run, seen_next, seen_heap, blt_iff.2 hlt, hg, when, h8, h9, show Nat.ble l.length l.length = true from ble_iff.2 (Nat.le_refl _), show Nat.beq 5 5 = true from rfl, Bool.and_self, opt, h7]
  simp only [hN0]
  unfold growA
  simp only [when, show Nat.beq 1 1 = true from rfl]
  simp only [Bool.and_self]
  rw [newA_run (s := ⟨s.heap.put N none, s.next, (s.seen e).mark, bit (s.seen e).mark N (s.seen e).rd, bit (s.seen e).mark N (s.seen e).wr⟩) (by rw [List.length_append, List.length_map, List.length_map]; simp; omega) hN]
  exact ⟨_, rfl, rfl, rfl, fun m h1 h2 => by
    show ((s.heap.put N none).put s.next _).get m = _
    rw [hg_far hN h2, hg_far hN0 h1]⟩
end Go.Proofs.YtioieffmihdheaaDoor.lf
end
end
