/- Catalogs: what is read out of a leaf, put in again, is the leaf. -/
import Derived.Test.YtgofanjbhbeniaaDoorPRowCatalogTells6
section
/- Leaves: whether a leaf may be, as the document has it: told. (printed by wip/gen/lt0.py) -/
noncomputable section
namespace Go.Proofs.YtgofanjbhbeniaaDoor.lf
open AE
set_option linter.unusedSimpArgs false
set_option linter.unusedVariables false
set_option maxRecDepth 10000

theorem b_neq8 {E t} (x y : Int) : binA E .neq t (.int .u8 x) (.int .u8 y) = some (.bool (not (eqI x y))) := rfl
def rightRA : List Value → AM Value
  | [.agg ⟨cs⟩] => opt (leafOf cs) fun d => bump 1 (.pure (.bool (rightL d)))
  | _ => .fail
noncomputable def fiRR : FI := FI.of Tryd.f26
noncomputable def cdRR : Code := bodyOf Tryd.f26
noncomputable def cdRRl : Code := sub [1,0,1,0,0] cdRR
theorem resRR : fiRR.results = [.tmp 2] := rfl
/-- the first place from which noughts are looked for -/
def fromZ (d : LeafD) : Nat := d.size.toNat
def InvRR (d : LeafD) (n : Nat) (s0 : S) (k : Nat) (fr : Fr) (s : S) : Prop :=
  ∃ (i : Nat) (t : Tr Value), k = 116 - i ∧ fromZ d ≤ i ∧ fr = ⟨26, t, 64, [], none⟩ ∧ Rd s0 s ∧ t.get 1 = some (.pointer (some ⟨n, 0, none⟩)) ∧ t.get 3 = some (.int .i64 (.ofNat i)) ∧
    (∀ (j : Nat), fromZ d ≤ j → j < i → j < 116 → d.load[j]? = some 0)
def PostRR (d : LeafD) (n : Nat) (s0 : S) (x : Ex) (fr : Fr) (s : S) : Prop :=
  ∃ t : Tr Value, fr = ⟨26, t, 64, [], none⟩ ∧ Rd s0 s ∧ ((x = .exit 0 ∧ t.get 1 = some (.pointer (some ⟨n, 0, none⟩)) ∧ ∀ (j : Nat), fromZ d ≤ j → j < 116 → d.load[j]? = some 0) ∨
    (x = .ret ∧ t.get 2 = some (.bool false) ∧ ∃ (j : Nat) (y : UInt8), fromZ d ≤ j ∧ j < 116 ∧ d.load[j]? = some y ∧ y ≠ 0))
theorem LfAt.getB {s : S} {n : Nat} {d : LeafD} (h : LfAt s n d) (k : Nat) (x : UInt8) (hk : d.load[k]? = some x) : (loadT tiU8 ⟨n, 5 + k, none⟩ AE.val).run s = some (.value (.int .u8 (.ofNat x.toNat)), s.seen n) := by
  obtain ⟨c, e, rm, h1, h2⟩ := h.cell
  have hlt := (List.getElem?_eq_some_iff.1 hk).1
  rw [h.len] at hlt
  have h3 : d.cells[5 + k]? = some (.int .u8 (.ofNat x.toNat)) := by
    unfold LeafD.cells
    rw [List.getElem?_append_right (by simp), show 5 + k - ([Value.int .i64 d.kind, .int .i64 d.file, .int .i64 d.place, .int .i64 d.next, .int .i64 d.size] : List Value).length = k by simp, List.getElem?_map, hk]
    rfl
  exact cell_load tiU8 (by rw [dsU8]; rfl) h.lt h1 (by omega) (by have := h2 (5 + k) _ h3; rwa [Nat.zero_add] at this)
theorem add5 (n k : Nat) : addA ⟨n, 5, none⟩ k = ⟨n, 5 + k, none⟩ := sum.addA_eq ⟨n, 5, none⟩ k rfl
theorem byte_ne {x : UInt8} : (not (eqI (Int.ofNat x.toNat) (Int.ofNat 0))) = decide (x ≠ 0) := by
  rw [eqI_eq]
  by_cases h : x = 0
  · subst h; rfl
  · have : x.toNat ≠ 0 := fun e => h (by
      have := congrArg UInt8.ofNat e
      simpa using this)
    have e2 : ¬ (Int.ofNat x.toNat = Int.ofNat 0) := fun e => this (by simpa using e)
    rw [decide_eq_false e2, decide_eq_true h]
    rfl
theorem rightR_round (d : LeafD) (n : Nat) (s0 : S) (h3 : LfAt s0 n d) (k : Nat) (fr : Fr) (s : S) (h : InvRR d n s0 k fr s) : GoC E (sumsOf []) cdRRl fr s (Again (InvRR d n s0) k (PostRR d n s0)) := by
  obtain ⟨i, t, hk, hi, rfl, hr, g1, g3, hall⟩ := h
  simp only [cdRRl, cdRR, Tryd.f26, bodyOf, sub]
  have i116 : (116 : Int) = Int.ofNat 116 := rfl
  by_cases hlt : i < 116
  · obtain ⟨x, hx⟩ : ∃ x, d.load[i]? = some x := ⟨_, List.getElem?_eq_getElem (by rw [h3.len]; exact hlt)⟩
    have hlt' : ltI (Int.ofNat i) (Int.ofNat 116) = true := by rw [ltI_eq]; simp; omega
    have hb : Nat.blt i 116 = true := blt_iff.2 hlt
    have hld := (h3.rd hr).getB i x hx
    have hinc := b_incr (n := i) (by omega)
    repeat apply go_seq
    apply go_region
    case h => intro m; simp (maxSteps := 2000000) (disch := decide) only [opsLoop, evOper, wantedA, nth, aop, aPick, aBin, aIndexAddr, aFieldAddr, aLoad, aStore, aExtract, aConvert, aAlloc, aBox, aIndex, callA, builtinA, Fr.evs, opt, val, when, AM.run, outV, newA, ptr, force_eq, seen_heap, seen_next, seen_mark, seen_seen, agg_cells, int_cells, Fr.ev, Fr.put, onFr, gps, gpn, bltT, still, flat, List.append_nil, List.nil_append, List.cons_append, Nat.reduceEqDiff, ne_eq, not_false_eq_true, reduceCtorEq, Bool.and_true, Bool.true_and, Bool.and_false, Bool.false_and, Bool.not_true, Bool.not_false, Bool.and_self, g3, b_lss, i116, hlt']; rfl
    repeat apply go_seq
    apply go_cond
    case hc => simp (disch := decide) only [opsLoop, evOper, wantedA, nth, aop, aPick, aBin, aIndexAddr, aFieldAddr, aLoad, aStore, aExtract, aConvert, aAlloc, aBox, aIndex, callA, builtinA, Fr.evs, opt, val, when, AM.run, outV, newA, ptr, force_eq, seen_heap, seen_next, seen_mark, seen_seen, agg_cells, int_cells, Fr.ev, Fr.put, onFr, gps, gpn, bltT, still, flat, List.append_nil, List.nil_append, List.cons_append, Nat.reduceEqDiff, ne_eq, not_false_eq_true, reduceCtorEq, Bool.and_true, Bool.true_and, Bool.and_false, Bool.false_and, Bool.not_true, Bool.not_false, Bool.and_self]; rfl
    case h2 => intro h; cases h
    intro _
    apply go_skip
    apply go_seq
    apply go_block
    by_cases hx0 : x = 0
    · have hq : (not (eqI (Int.ofNat x.toNat) (Int.ofNat 0))) = false := by rw [byte_ne]; simp [hx0]
      repeat apply go_seq
      apply go_region
      case h => intro m; simp (maxSteps := 2000000) (disch := decide) only [opsLoop, evOper, wantedA, nth, aop, aPick, aBin, aIndexAddr, aFieldAddr, aLoad, aStore, aExtract, aConvert, aAlloc, aBox, aIndex, callA, builtinA, Fr.evs, opt, val, when, AM.run, outV, newA, ptr, force_eq, seen_heap, seen_next, seen_mark, seen_seen, agg_cells, int_cells, Fr.ev, Fr.put, onFr, gps, gpn, bltT, still, flat, List.append_nil, List.nil_append, List.cons_append, Nat.reduceEqDiff, ne_eq, not_false_eq_true, reduceCtorEq, Bool.and_true, Bool.true_and, Bool.and_false, Bool.false_and, Bool.not_true, Bool.not_false, Bool.and_self, g1, g3, tyLf, dsLf, fl5, ft5, fo5, tyA, dsA, szA, ble1A, tyU8, szU8, hb, mul1, ad5, add5, hld, b_neq8, int0, hq]; rfl
      repeat apply go_seq
      apply go_cond
      case hc => simp (disch := decide) only [opsLoop, evOper, wantedA, nth, aop, aPick, aBin, aIndexAddr, aFieldAddr, aLoad, aStore, aExtract, aConvert, aAlloc, aBox, aIndex, callA, builtinA, Fr.evs, opt, val, when, AM.run, outV, newA, ptr, force_eq, seen_heap, seen_next, seen_mark, seen_seen, agg_cells, int_cells, Fr.ev, Fr.put, onFr, gps, gpn, bltT, still, flat, List.append_nil, List.nil_append, List.cons_append, Nat.reduceEqDiff, ne_eq, not_false_eq_true, reduceCtorEq, Bool.and_true, Bool.true_and, Bool.and_false, Bool.false_and, Bool.not_true, Bool.not_false, Bool.and_self]; rfl
      case h1 => intro h; cases h
      intro _
      apply go_skip
      repeat apply go_seq
      apply go_region
      case h => intro m; simp (maxSteps := 2000000) (disch := decide) only [opsLoop, evOper, wantedA, nth, aop, aPick, aBin, aIndexAddr, aFieldAddr, aLoad, aStore, aExtract, aConvert, aAlloc, aBox, aIndex, callA, builtinA, Fr.evs, opt, val, when, AM.run, outV, newA, ptr, force_eq, seen_heap, seen_next, seen_mark, seen_seen, agg_cells, int_cells, Fr.ev, Fr.put, onFr, gps, gpn, bltT, still, flat, List.append_nil, List.nil_append, List.cons_append, Nat.reduceEqDiff, ne_eq, not_false_eq_true, reduceCtorEq, Bool.and_true, Bool.true_and, Bool.and_false, Bool.false_and, Bool.not_true, Bool.not_false, Bool.and_self, g3, int1, hinc]; rfl
      refine ⟨116 - (i + 1), by omega, i + 1, _, rfl, by omega, rfl, hr.trans (Rd.seen s n), ?_, ?_, ?_⟩
      · simp (disch := decide) only [gps, gpn, g1]
      · simp (disch := decide) only [gps, gpn, g3]
      · intro j hj hj2 hj3
        by_cases e : j = i
        · subst e; rw [hx, hx0]
        · exact hall j hj (by omega) hj3
    · have hq : (not (eqI (Int.ofNat x.toNat) (Int.ofNat 0))) = true := by rw [byte_ne]; simp [hx0]
      repeat apply go_seq
      apply go_region
      case h => intro m; simp (maxSteps := 2000000) (disch := decide) only [opsLoop, evOper, wantedA, nth, aop, aPick, aBin, aIndexAddr, aFieldAddr, aLoad, aStore, aExtract, aConvert, aAlloc, aBox, aIndex, callA, builtinA, Fr.evs, opt, val, when, AM.run, outV, newA, ptr, force_eq, seen_heap, seen_next, seen_mark, seen_seen, agg_cells, int_cells, Fr.ev, Fr.put, onFr, gps, gpn, bltT, still, flat, List.append_nil, List.nil_append, List.cons_append, Nat.reduceEqDiff, ne_eq, not_false_eq_true, reduceCtorEq, Bool.and_true, Bool.true_and, Bool.and_false, Bool.false_and, Bool.not_true, Bool.not_false, Bool.and_self, g1, g3, tyLf, dsLf, fl5, ft5, fo5, tyA, dsA, szA, ble1A, tyU8, szU8, hb, mul1, ad5, add5, hld, b_neq8, int0, hq]; rfl
      repeat apply go_seq
      apply go_cond
      case hc => simp (disch := decide) only [opsLoop, evOper, wantedA, nth, aop, aPick, aBin, aIndexAddr, aFieldAddr, aLoad, aStore, aExtract, aConvert, aAlloc, aBox, aIndex, callA, builtinA, Fr.evs, opt, val, when, AM.run, outV, newA, ptr, force_eq, seen_heap, seen_next, seen_mark, seen_seen, agg_cells, int_cells, Fr.ev, Fr.put, onFr, gps, gpn, bltT, still, flat, List.append_nil, List.nil_append, List.cons_append, Nat.reduceEqDiff, ne_eq, not_false_eq_true, reduceCtorEq, Bool.and_true, Bool.true_and, Bool.and_false, Bool.false_and, Bool.not_true, Bool.not_false, Bool.and_self]; rfl
      case h2 => intro h; cases h
      intro _
      repeat apply go_seq
      apply go_region
      case h => intro m; simp (maxSteps := 2000000) (disch := decide) only [opsLoop, evOper, wantedA, nth, aop, aPick, aBin, aIndexAddr, aFieldAddr, aLoad, aStore, aExtract, aConvert, aAlloc, aBox, aIndex, callA, builtinA, Fr.evs, opt, val, when, AM.run, outV, newA, ptr, force_eq, seen_heap, seen_next, seen_mark, seen_seen, agg_cells, int_cells, Fr.ev, Fr.put, onFr, gps, gpn, bltT, still, flat, List.append_nil, List.nil_append, List.cons_append, Nat.reduceEqDiff, ne_eq, not_false_eq_true, reduceCtorEq, Bool.and_true, Bool.true_and, Bool.and_false, Bool.false_and, Bool.not_true, Bool.not_false, Bool.and_self]; rfl
      apply go_ret
      refine ⟨_, rfl, hr.trans (Rd.seen s n), .inr ⟨rfl, ?_, i, x, hi, hlt, hx, hx0⟩⟩
      simp (disch := decide) only [gps, gpn]
  · have hlt' : ltI (Int.ofNat i) (Int.ofNat 116) = false := by rw [ltI_eq]; simp; omega
    repeat apply go_seq
    apply go_region
    case h => intro m; simp (maxSteps := 2000000) (disch := decide) only [opsLoop, evOper, wantedA, nth, aop, aPick, aBin, aIndexAddr, aFieldAddr, aLoad, aStore, aExtract, aConvert, aAlloc, aBox, aIndex, callA, builtinA, Fr.evs, opt, val, when, AM.run, outV, newA, ptr, force_eq, seen_heap, seen_next, seen_mark, seen_seen, agg_cells, int_cells, Fr.ev, Fr.put, onFr, gps, gpn, bltT, still, flat, List.append_nil, List.nil_append, List.cons_append, Nat.reduceEqDiff, ne_eq, not_false_eq_true, reduceCtorEq, Bool.and_true, Bool.true_and, Bool.and_false, Bool.false_and, Bool.not_true, Bool.not_false, Bool.and_self, g3, b_lss, i116, hlt']; rfl
    repeat apply go_seq
    apply go_cond
    case hc => simp (disch := decide) only [opsLoop, evOper, wantedA, nth, aop, aPick, aBin, aIndexAddr, aFieldAddr, aLoad, aStore, aExtract, aConvert, aAlloc, aBox, aIndex, callA, builtinA, Fr.evs, opt, val, when, AM.run, outV, newA, ptr, force_eq, seen_heap, seen_next, seen_mark, seen_seen, agg_cells, int_cells, Fr.ev, Fr.put, onFr, gps, gpn, bltT, still, flat, List.append_nil, List.nil_append, List.cons_append, Nat.reduceEqDiff, ne_eq, not_false_eq_true, reduceCtorEq, Bool.and_true, Bool.true_and, Bool.and_false, Bool.false_and, Bool.not_true, Bool.not_false, Bool.and_self]; rfl
    case h1 => intro h; cases h
    intro _
    apply go_exit
    refine ⟨_, rfl, hr, .inl ⟨rfl, ?_, fun j hj hj2 => hall j hj (by omega) hj2⟩⟩
    simp (disch := decide) only [gps, gpn, g1]
theorem noughts_iff (d : LeafD) (hlen : d.load.length = 116) : noughts (d.load.drop d.size.toNat) = true ↔ ∀ (j : Nat), fromZ d ≤ j → j < 116 → d.load[j]? = some 0 := by
  unfold noughts
  rw [beq_iff, lead_all]
  constructor
  · intro h j hj hj2
    obtain ⟨x, hx⟩ : ∃ x, d.load[j]? = some x := ⟨_, List.getElem?_eq_getElem (by rw [hlen]; exact hj2)⟩
    have hd : (d.load.drop d.size.toNat)[j - d.size.toNat]? = some x := by
      rw [List.getElem?_drop, show d.size.toNat + (j - d.size.toNat) = j by unfold fromZ at hj; omega]
      exact hx
    rw [hx, h _ _ hd]
  · intro h j x hx
    rw [List.getElem?_drop] at hx
    have hlt := (List.getElem?_eq_some_iff.1 hx).1
    rw [hlen] at hlt
    have := h (d.size.toNat + j) (by unfold fromZ; omega) hlt
    rw [hx] at this
    exact Option.some.inj this
/-- the document's chain of questions -/
theorem chain_right (d : LeafD) (hn : noughts (d.load.drop d.size.toNat) = true) :
    rightL d = ((!ltI d.kind 1) && (!ltI 2 d.kind) && (!ltI d.file 0) && ltI d.file 65536 && (!ltI d.place 0) && ltI d.place 65536 && (!ltI d.next 0) && ltI d.next 65536 && (!ltI d.size 0) && (!ltI 116 d.size)) := by
  have hw : ∀ x : Int, ltI x 65536 = !ltI 65535 x := by
    intro x
    rw [ltI_eq, ltI_not]
    by_cases h : x < 65536
    · rw [decide_eq_true h, decide_eq_true (by omega)]
    · rw [decide_eq_false h, decide_eq_false (by omega)]
  unfold rightL wi
  rw [hn, hw, hw, hw]
  simp only [Bool.and_assoc]
  cases (!ltI d.kind 1) <;> cases (!ltI 2 d.kind) <;> simp [Bool.and_assoc]

noncomputable def cdRRt : Code := sub [1,1] cdRR
set_option maxHeartbeats 4000000 in
theorem rightR_tail (d : LeafD) (n : Nat) (s : S) (h3 : LfAt s n d) (t : Tr Value) (g1 : t.get 1 = some (.pointer (some ⟨n, 0, none⟩))) (c1 c2 c3 c4 c5 c6 c7 c8 c9 c10 : Bool)
    (e1 : ∀ E t, binA E .geq t (.int .i64 d.kind) (.int .i64 1) = some (.bool c1))
    (e2 : ∀ E t, binA E .leq t (.int .i64 d.kind) (.int .i64 2) = some (.bool c2))
    (e3 : ∀ E t, binA E .geq t (.int .i64 d.file) (.int .i64 0) = some (.bool c3))
    (e4 : ∀ E t, binA E .lss t (.int .i64 d.file) (.int .i64 65536) = some (.bool c4))
    (e5 : ∀ E t, binA E .geq t (.int .i64 d.place) (.int .i64 0) = some (.bool c5))
    (e6 : ∀ E t, binA E .lss t (.int .i64 d.place) (.int .i64 65536) = some (.bool c6))
    (e7 : ∀ E t, binA E .geq t (.int .i64 d.next) (.int .i64 0) = some (.bool c7))
    (e8 : ∀ E t, binA E .lss t (.int .i64 d.next) (.int .i64 65536) = some (.bool c8))
    (e9 : ∀ E t, binA E .geq t (.int .i64 d.size) (.int .i64 0) = some (.bool c9))
    (e10 : ∀ E t, binA E .leq t (.int .i64 d.size) (.int .i64 116) = some (.bool c10)) (Q : Value → S → Prop) (hQ : Q (.bool (c1 && c2 && c3 && c4 && c5 && c6 && c7 && c8 && c9 && c10)) (s.seen n)) :
    GoC E (sumsOf []) cdRRt ⟨26, t, 64, [], none⟩ s (Ret E 26 fiRR Q) := by
  have l0 := h3.get 0 (.int .i64 d.kind) rfl
  have k0 := (h3.rd (Rd.seen s n)).get 0 (.int .i64 d.kind) rfl
  have k1 := (h3.rd (Rd.seen s n)).get 1 (.int .i64 d.file) rfl
  have k2 := (h3.rd (Rd.seen s n)).get 2 (.int .i64 d.place) rfl
  have k3 := (h3.rd (Rd.seen s n)).get 3 (.int .i64 d.next) rfl
  have k4 := (h3.rd (Rd.seen s n)).get 4 (.int .i64 d.size) rfl
  rw [seen_seen] at k0 k1 k2 k3 k4
  simp only [cdRRt, cdRR, Tryd.f26, bodyOf, sub]
  cases c1
  · repeat apply go_seq
    apply go_region
    case h => intro m; simp (maxSteps := 2000000) (disch := decide) only [opsLoop, evOper, wantedA, nth, aop, aPick, aBin, aIndexAddr, aFieldAddr, aLoad, aStore, aExtract, aConvert, aAlloc, aBox, aIndex, callA, builtinA, Fr.evs, opt, val, when, AM.run, outV, newA, ptr, force_eq, seen_heap, seen_next, seen_mark, seen_seen, agg_cells, int_cells, Fr.ev, Fr.put, onFr, gps, gpn, bltT, still, flat, List.append_nil, List.nil_append, List.cons_append, Nat.reduceEqDiff, ne_eq, not_false_eq_true, reduceCtorEq, Bool.and_true, Bool.true_and, Bool.and_false, Bool.false_and, Bool.not_true, Bool.not_false, Bool.and_self, g1, tyLf, dsLf, fl0, fl1, fl2, fl3, fl4, ft0, ft1, ft2, ft3, ft4, fo0, fo1, fo2, fo3, fo4, tyI, szI, ble11, ad0, ad1, ad2, ad3', ad4, l0, k0, k1, k2, k3, k4, e1]; rfl
    repeat apply go_seq
    apply go_ret
    apply ret_intro rfl rfl
    case run => simp (disch := decide) only [resultsM, resultsA, resRR, opsLoop, evOper, wantedA, nth, aop, aPick, aBin, aIndexAddr, aFieldAddr, aLoad, aStore, aExtract, aConvert, aAlloc, aBox, aIndex, callA, builtinA, Fr.evs, opt, val, when, AM.run, outV, newA, ptr, force_eq, seen_heap, seen_next, seen_mark, seen_seen, agg_cells, int_cells, Fr.ev, Fr.put, onFr, gps, gpn, bltT, still, flat, List.append_nil, List.nil_append, List.cons_append, Nat.reduceEqDiff, ne_eq, not_false_eq_true, reduceCtorEq, Bool.and_true, Bool.true_and, Bool.and_false, Bool.false_and, Bool.not_true, Bool.not_false, Bool.and_self]; rfl
    simpa using hQ
  cases c2
  · repeat apply go_seq
    apply go_region
    case h => intro m; simp (maxSteps := 2000000) (disch := decide) only [opsLoop, evOper, wantedA, nth, aop, aPick, aBin, aIndexAddr, aFieldAddr, aLoad, aStore, aExtract, aConvert, aAlloc, aBox, aIndex, callA, builtinA, Fr.evs, opt, val, when, AM.run, outV, newA, ptr, force_eq, seen_heap, seen_next, seen_mark, seen_seen, agg_cells, int_cells, Fr.ev, Fr.put, onFr, gps, gpn, bltT, still, flat, List.append_nil, List.nil_append, List.cons_append, Nat.reduceEqDiff, ne_eq, not_false_eq_true, reduceCtorEq, Bool.and_true, Bool.true_and, Bool.and_false, Bool.false_and, Bool.not_true, Bool.not_false, Bool.and_self, g1, tyLf, dsLf, fl0, fl1, fl2, fl3, fl4, ft0, ft1, ft2, ft3, ft4, fo0, fo1, fo2, fo3, fo4, tyI, szI, ble11, ad0, ad1, ad2, ad3', ad4, l0, k0, k1, k2, k3, k4, e1, e2]; rfl
    repeat apply go_seq
    apply go_ret
    apply ret_intro rfl rfl
    case run => simp (disch := decide) only [resultsM, resultsA, resRR, opsLoop, evOper, wantedA, nth, aop, aPick, aBin, aIndexAddr, aFieldAddr, aLoad, aStore, aExtract, aConvert, aAlloc, aBox, aIndex, callA, builtinA, Fr.evs, opt, val, when, AM.run, outV, newA, ptr, force_eq, seen_heap, seen_next, seen_mark, seen_seen, agg_cells, int_cells, Fr.ev, Fr.put, onFr, gps, gpn, bltT, still, flat, List.append_nil, List.nil_append, List.cons_append, Nat.reduceEqDiff, ne_eq, not_false_eq_true, reduceCtorEq, Bool.and_true, Bool.true_and, Bool.and_false, Bool.false_and, Bool.not_true, Bool.not_false, Bool.and_self]; rfl
    simpa using hQ
  cases c3
  · repeat apply go_seq
    apply go_region
    case h => intro m; simp (maxSteps := 2000000) (disch := decide) only [opsLoop, evOper, wantedA, nth, aop, aPick, aBin, aIndexAddr, aFieldAddr, aLoad, aStore, aExtract, aConvert, aAlloc, aBox, aIndex, callA, builtinA, Fr.evs, opt, val, when, AM.run, outV, newA, ptr, force_eq, seen_heap, seen_next, seen_mark, seen_seen, agg_cells, int_cells, Fr.ev, Fr.put, onFr, gps, gpn, bltT, still, flat, List.append_nil, List.nil_append, List.cons_append, Nat.reduceEqDiff, ne_eq, not_false_eq_true, reduceCtorEq, Bool.and_true, Bool.true_and, Bool.and_false, Bool.false_and, Bool.not_true, Bool.not_false, Bool.and_self, g1, tyLf, dsLf, fl0, fl1, fl2, fl3, fl4, ft0, ft1, ft2, ft3, ft4, fo0, fo1, fo2, fo3, fo4, tyI, szI, ble11, ad0, ad1, ad2, ad3', ad4, l0, k0, k1, k2, k3, k4, e1, e2, e3]; rfl
    repeat apply go_seq
    apply go_ret
    apply ret_intro rfl rfl
    case run => simp (disch := decide) only [resultsM, resultsA, resRR, opsLoop, evOper, wantedA, nth, aop, aPick, aBin, aIndexAddr, aFieldAddr, aLoad, aStore, aExtract, aConvert, aAlloc, aBox, aIndex, callA, builtinA, Fr.evs, opt, val, when, AM.run, outV, newA, ptr, force_eq, seen_heap, seen_next, seen_mark, seen_seen, agg_cells, int_cells, Fr.ev, Fr.put, onFr, gps, gpn, bltT, still, flat, List.append_nil, List.nil_append, List.cons_append, Nat.reduceEqDiff, ne_eq, not_false_eq_true, reduceCtorEq, Bool.and_true, Bool.true_and, Bool.and_false, Bool.false_and, Bool.not_true, Bool.not_false, Bool.and_self]; rfl
    simpa using hQ
  cases c4
  · repeat apply go_seq
    apply go_region
    case h => intro m; simp (maxSteps := 2000000) (disch := decide) only [opsLoop, evOper, wantedA, nth, aop, aPick, aBin, aIndexAddr, aFieldAddr, aLoad, aStore, aExtract, aConvert, aAlloc, aBox, aIndex, callA, builtinA, Fr.evs, opt, val, when, AM.run, outV, newA, ptr, force_eq, seen_heap, seen_next, seen_mark, seen_seen, agg_cells, int_cells, Fr.ev, Fr.put, onFr, gps, gpn, bltT, still, flat, List.append_nil, List.nil_append, List.cons_append, Nat.reduceEqDiff, ne_eq, not_false_eq_true, reduceCtorEq, Bool.and_true, Bool.true_and, Bool.and_false, Bool.false_and, Bool.not_true, Bool.not_false, Bool.and_self, g1, tyLf, dsLf, fl0, fl1, fl2, fl3, fl4, ft0, ft1, ft2, ft3, ft4, fo0, fo1, fo2, fo3, fo4, tyI, szI, ble11, ad0, ad1, ad2, ad3', ad4, l0, k0, k1, k2, k3, k4, e1, e2, e3, e4]; rfl
    repeat apply go_seq
    apply go_ret
    apply ret_intro rfl rfl
    case run => simp (disch := decide) only [resultsM, resultsA, resRR, opsLoop, evOper, wantedA, nth, aop, aPick, aBin, aIndexAddr, aFieldAddr, aLoad, aStore, aExtract, aConvert, aAlloc, aBox, aIndex, callA, builtinA, Fr.evs, opt, val, when, AM.run, outV, newA, ptr, force_eq, seen_heap, seen_next, seen_mark, seen_seen, agg_cells, int_cells, Fr.ev, Fr.put, onFr, gps, gpn, bltT, still, flat, List.append_nil, List.nil_append, List.cons_append, Nat.reduceEqDiff, ne_eq, not_false_eq_true, reduceCtorEq, Bool.and_true, Bool.true_and, Bool.and_false, Bool.false_and, Bool.not_true, Bool.not_false, Bool.and_self]; rfl
    simpa using hQ
  cases c5
  · repeat apply go_seq
    apply go_region
    case h => intro m; simp (maxSteps := 2000000) (disch := decide) only [opsLoop, evOper, wantedA, nth, aop, aPick, aBin, aIndexAddr, aFieldAddr, aLoad, aStore, aExtract, aConvert, aAlloc, aBox, aIndex, callA, builtinA, Fr.evs, opt, val, when, AM.run, outV, newA, ptr, force_eq, seen_heap, seen_next, seen_mark, seen_seen, agg_cells, int_cells, Fr.ev, Fr.put, onFr, gps, gpn, bltT, still, flat, List.append_nil, List.nil_append, List.cons_append, Nat.reduceEqDiff, ne_eq, not_false_eq_true, reduceCtorEq, Bool.and_true, Bool.true_and, Bool.and_false, Bool.false_and, Bool.not_true, Bool.not_false, Bool.and_self, g1, tyLf, dsLf, fl0, fl1, fl2, fl3, fl4, ft0, ft1, ft2, ft3, ft4, fo0, fo1, fo2, fo3, fo4, tyI, szI, ble11, ad0, ad1, ad2, ad3', ad4, l0, k0, k1, k2, k3, k4, e1, e2, e3, e4, e5]; rfl
    repeat apply go_seq
    apply go_ret
    apply ret_intro rfl rfl
    case run => simp (disch := decide) only [resultsM, resultsA, resRR, opsLoop, evOper, wantedA, nth, aop, aPick, aBin, aIndexAddr, aFieldAddr, aLoad, aStore, aExtract, aConvert, aAlloc, aBox, aIndex, callA, builtinA, Fr.evs, opt, val, when, AM.run, outV, newA, ptr, force_eq, seen_heap, seen_next, seen_mark, seen_seen, agg_cells, int_cells, Fr.ev, Fr.put, onFr, gps, gpn, bltT, still, flat, List.append_nil, List.nil_append, List.cons_append, Nat.reduceEqDiff, ne_eq, not_false_eq_true, reduceCtorEq, Bool.and_true, Bool.true_and, Bool.and_false, Bool.false_and, Bool.not_true, Bool.not_false, Bool.and_self]; rfl
    simpa using hQ
  cases c6
  · repeat apply go_seq
    apply go_region
    case h => intro m; simp (maxSteps := 2000000) (disch := decide) only [opsLoop, evOper, wantedA, nth, aop, aPick, aBin, aIndexAddr, aFieldAddr, aLoad, aStore, aExtract, aConvert, aAlloc, aBox, aIndex, callA, builtinA, Fr.evs, opt, val, when, AM.run, outV, newA, ptr, force_eq, seen_heap, seen_next, seen_mark, seen_seen, agg_cells, int_cells, Fr.ev, Fr.put, onFr, gps, gpn, bltT, still, flat, List.append_nil, List.nil_append, List.cons_append, Nat.reduceEqDiff, ne_eq, not_false_eq_true, reduceCtorEq, Bool.and_true, Bool.true_and, Bool.and_false, Bool.false_and, Bool.not_true, Bool.not_false, Bool.and_self, g1, tyLf, dsLf, fl0, fl1, fl2, fl3, fl4, ft0, ft1, ft2, ft3, ft4, fo0, fo1, fo2, fo3, fo4, tyI, szI, ble11, ad0, ad1, ad2, ad3', ad4, l0, k0, k1, k2, k3, k4, e1, e2, e3, e4, e5, e6]; rfl
    repeat apply go_seq
    apply go_ret
    apply ret_intro rfl rfl
    case run => simp (disch := decide) only [resultsM, resultsA, resRR, opsLoop, evOper, wantedA, nth, aop, aPick, aBin, aIndexAddr, aFieldAddr, aLoad, aStore, aExtract, aConvert, aAlloc, aBox, aIndex, callA, builtinA, Fr.evs, opt, val, when, AM.run, outV, newA, ptr, force_eq, seen_heap, seen_next, seen_mark, seen_seen, agg_cells, int_cells, Fr.ev, Fr.put, onFr, gps, gpn, bltT, still, flat, List.append_nil, List.nil_append, List.cons_append, Nat.reduceEqDiff, ne_eq, not_false_eq_true, reduceCtorEq, Bool.and_true, Bool.true_and, Bool.and_false, Bool.false_and, Bool.not_true, Bool.not_false, Bool.and_self]; rfl
    simpa using hQ
  cases c7
  · repeat apply go_seq
    apply go_region
    case h => intro m; simp (maxSteps := 2000000) (disch := decide) only [opsLoop, evOper, wantedA, nth, aop, aPick, aBin, aIndexAddr, aFieldAddr, aLoad, aStore, aExtract, aConvert, aAlloc, aBox, aIndex, callA, builtinA, Fr.evs, opt, val, when, AM.run, outV, newA, ptr, force_eq, seen_heap, seen_next, seen_mark, seen_seen, agg_cells, int_cells, Fr.ev, Fr.put, onFr, gps, gpn, bltT, still, flat, List.append_nil, List.nil_append, List.cons_append, Nat.reduceEqDiff, ne_eq, not_false_eq_true, reduceCtorEq, Bool.and_true, Bool.true_and, Bool.and_false, Bool.false_and, Bool.not_true, Bool.not_false, Bool.and_self, g1, tyLf, dsLf, fl0, fl1, fl2, fl3, fl4, ft0, ft1, ft2, ft3, ft4, fo0, fo1, fo2, fo3, fo4, tyI, szI, ble11, ad0, ad1, ad2, ad3', ad4, l0, k0, k1, k2, k3, k4, e1, e2, e3, e4, e5, e6, e7]; rfl
    repeat apply go_seq
    apply go_ret
    apply ret_intro rfl rfl
    case run => simp (disch := decide) only [resultsM, resultsA, resRR, opsLoop, evOper, wantedA, nth, aop, aPick, aBin, aIndexAddr, aFieldAddr, aLoad, aStore, aExtract, aConvert, aAlloc, aBox, aIndex, callA, builtinA, Fr.evs, opt, val, when, AM.run, outV, newA, ptr, force_eq, seen_heap, seen_next, seen_mark, seen_seen, agg_cells, int_cells, Fr.ev, Fr.put, onFr, gps, gpn, bltT, still, flat, List.append_nil, List.nil_append, List.cons_append, Nat.reduceEqDiff, ne_eq, not_false_eq_true, reduceCtorEq, Bool.and_true, Bool.true_and, Bool.and_false, Bool.false_and, Bool.not_true, Bool.not_false, Bool.and_self]; rfl
    simpa using hQ
  cases c8
  · repeat apply go_seq
    apply go_region
    case h => intro m; simp (maxSteps := 2000000) (disch := decide) only [opsLoop, evOper, wantedA, nth, aop, aPick, aBin, aIndexAddr, aFieldAddr, aLoad, aStore, aExtract, aConvert, aAlloc, aBox, aIndex, callA, builtinA, Fr.evs, opt, val, when, AM.run, outV, newA, ptr, force_eq, seen_heap, seen_next, seen_mark, seen_seen, agg_cells, int_cells, Fr.ev, Fr.put, onFr, gps, gpn, bltT, still, flat, List.append_nil, List.nil_append, List.cons_append, Nat.reduceEqDiff, ne_eq, not_false_eq_true, reduceCtorEq, Bool.and_true, Bool.true_and, Bool.and_false, Bool.false_and, Bool.not_true, Bool.not_false, Bool.and_self, g1, tyLf, dsLf, fl0, fl1, fl2, fl3, fl4, ft0, ft1, ft2, ft3, ft4, fo0, fo1, fo2, fo3, fo4, tyI, szI, ble11, ad0, ad1, ad2, ad3', ad4, l0, k0, k1, k2, k3, k4, e1, e2, e3, e4, e5, e6, e7, e8]; rfl
    repeat apply go_seq
    apply go_ret
    apply ret_intro rfl rfl
    case run => simp (disch := decide) only [resultsM, resultsA, resRR, opsLoop, evOper, wantedA, nth, aop, aPick, aBin, aIndexAddr, aFieldAddr, aLoad, aStore, aExtract, aConvert, aAlloc, aBox, aIndex, callA, builtinA, Fr.evs, opt, val, when, AM.run, outV, newA, ptr, force_eq, seen_heap, seen_next, seen_mark, seen_seen, agg_cells, int_cells, Fr.ev, Fr.put, onFr, gps, gpn, bltT, still, flat, List.append_nil, List.nil_append, List.cons_append, Nat.reduceEqDiff, ne_eq, not_false_eq_true, reduceCtorEq, Bool.and_true, Bool.true_and, Bool.and_false, Bool.false_and, Bool.not_true, Bool.not_false, Bool.and_self]; rfl
    simpa using hQ
  cases c9
  · repeat apply go_seq
    apply go_region
    case h => intro m; simp (maxSteps := 2000000) (disch := decide) only [opsLoop, evOper, wantedA, nth, aop, aPick, aBin, aIndexAddr, aFieldAddr, aLoad, aStore, aExtract, aConvert, aAlloc, aBox, aIndex, callA, builtinA, Fr.evs, opt, val, when, AM.run, outV, newA, ptr, force_eq, seen_heap, seen_next, seen_mark, seen_seen, agg_cells, int_cells, Fr.ev, Fr.put, onFr, gps, gpn, bltT, still, flat, List.append_nil, List.nil_append, List.cons_append, Nat.reduceEqDiff, ne_eq, not_false_eq_true, reduceCtorEq, Bool.and_true, Bool.true_and, Bool.and_false, Bool.false_and, Bool.not_true, Bool.not_false, Bool.and_self, g1, tyLf, dsLf, fl0, fl1, fl2, fl3, fl4, ft0, ft1, ft2, ft3, ft4, fo0, fo1, fo2, fo3, fo4, tyI, szI, ble11, ad0, ad1, ad2, ad3', ad4, l0, k0, k1, k2, k3, k4, e1, e2, e3, e4, e5, e6, e7, e8, e9]; rfl
    repeat apply go_seq
    apply go_ret
    apply ret_intro rfl rfl
    case run => simp (disch := decide) only [resultsM, resultsA, resRR, opsLoop, evOper, wantedA, nth, aop, aPick, aBin, aIndexAddr, aFieldAddr, aLoad, aStore, aExtract, aConvert, aAlloc, aBox, aIndex, callA, builtinA, Fr.evs, opt, val, when, AM.run, outV, newA, ptr, force_eq, seen_heap, seen_next, seen_mark, seen_seen, agg_cells, int_cells, Fr.ev, Fr.put, onFr, gps, gpn, bltT, still, flat, List.append_nil, List.nil_append, List.cons_append, Nat.reduceEqDiff, ne_eq, not_false_eq_true, reduceCtorEq, Bool.and_true, Bool.true_and, Bool.and_false, Bool.false_and, Bool.not_true, Bool.not_false, Bool.and_self]; rfl
    simpa using hQ
  cases c10
  · repeat apply go_seq
    apply go_region
    case h => intro m; simp (maxSteps := 2000000) (disch := decide) only [opsLoop, evOper, wantedA, nth, aop, aPick, aBin, aIndexAddr, aFieldAddr, aLoad, aStore, aExtract, aConvert, aAlloc, aBox, aIndex, callA, builtinA, Fr.evs, opt, val, when, AM.run, outV, newA, ptr, force_eq, seen_heap, seen_next, seen_mark, seen_seen, agg_cells, int_cells, Fr.ev, Fr.put, onFr, gps, gpn, bltT, still, flat, List.append_nil, List.nil_append, List.cons_append, Nat.reduceEqDiff, ne_eq, not_false_eq_true, reduceCtorEq, Bool.and_true, Bool.true_and, Bool.and_false, Bool.false_and, Bool.not_true, Bool.not_false, Bool.and_self, g1, tyLf, dsLf, fl0, fl1, fl2, fl3, fl4, ft0, ft1, ft2, ft3, ft4, fo0, fo1, fo2, fo3, fo4, tyI, szI, ble11, ad0, ad1, ad2, ad3', ad4, l0, k0, k1, k2, k3, k4, e1, e2, e3, e4, e5, e6, e7, e8, e9, e10]; rfl
    repeat apply go_seq
    apply go_ret
    apply ret_intro rfl rfl
    case run => simp (disch := decide) only [resultsM, resultsA, resRR, opsLoop, evOper, wantedA, nth, aop, aPick, aBin, aIndexAddr, aFieldAddr, aLoad, aStore, aExtract, aConvert, aAlloc, aBox, aIndex, callA, builtinA, Fr.evs, opt, val, when, AM.run, outV, newA, ptr, force_eq, seen_heap, seen_next, seen_mark, seen_seen, agg_cells, int_cells, Fr.ev, Fr.put, onFr, gps, gpn, bltT, still, flat, List.append_nil, List.nil_append, List.cons_append, Nat.reduceEqDiff, ne_eq, not_false_eq_true, reduceCtorEq, Bool.and_true, Bool.true_and, Bool.and_false, Bool.false_and, Bool.not_true, Bool.not_false, Bool.and_self]; rfl
    simpa using hQ
  repeat apply go_seq
  apply go_region
  case h => intro m; simp (maxSteps := 2000000) (disch := decide) only [opsLoop, evOper, wantedA, nth, aop, aPick, aBin, aIndexAddr, aFieldAddr, aLoad, aStore, aExtract, aConvert, aAlloc, aBox, aIndex, callA, builtinA, Fr.evs, opt, val, when, AM.run, outV, newA, ptr, force_eq, seen_heap, seen_next, seen_mark, seen_seen, agg_cells, int_cells, Fr.ev, Fr.put, onFr, gps, gpn, bltT, still, flat, List.append_nil, List.nil_append, List.cons_append, Nat.reduceEqDiff, ne_eq, not_false_eq_true, reduceCtorEq, Bool.and_true, Bool.true_and, Bool.and_false, Bool.false_and, Bool.not_true, Bool.not_false, Bool.and_self, g1, tyLf, dsLf, fl0, fl1, fl2, fl3, fl4, ft0, ft1, ft2, ft3, ft4, fo0, fo1, fo2, fo3, fo4, tyI, szI, ble11, ad0, ad1, ad2, ad3', ad4, l0, k0, k1, k2, k3, k4, e1, e2, e3, e4, e5, e6, e7, e8, e9, e10]; rfl
  repeat apply go_seq
  apply go_ret
  apply ret_intro rfl rfl
  case run => simp (disch := decide) only [resultsM, resultsA, resRR, opsLoop, evOper, wantedA, nth, aop, aPick, aBin, aIndexAddr, aFieldAddr, aLoad, aStore, aExtract, aConvert, aAlloc, aBox, aIndex, callA, builtinA, Fr.evs, opt, val, when, AM.run, outV, newA, ptr, force_eq, seen_heap, seen_next, seen_mark, seen_seen, agg_cells, int_cells, Fr.ev, Fr.put, onFr, gps, gpn, bltT, still, flat, List.append_nil, List.nil_append, List.cons_append, Nat.reduceEqDiff, ne_eq, not_false_eq_true, reduceCtorEq, Bool.and_true, Bool.true_and, Bool.and_false, Bool.false_and, Bool.not_true, Bool.not_false, Bool.and_self]; rfl
  simpa using hQ
set_option maxHeartbeats 1000000 in
theorem told_rightR : AE.Told Tryd.prog 26 rightRA := by
  refine told_go hE hmix tolds_nil ?_
  intro args s v s' h hm
  unfold rightRA at h
  split at h
  · rename_i cs
    obtain ⟨d, hd, h2⟩ := run_opt h
    obtain ⟨rfl, hlen⟩ := leafOf_inv hd
    obtain ⟨s9, h3, hn9, hm9, hh9, hbl⟩ := bump_run 1 _ _ _ h2
    cases h3
    clear h h2 hd
    have hN0 : Nat.ble s.next lastName = true := hbl 0 (by omega)
    refine go_enter (fi := fiRR) (c := cdRR) (by kernel_rfl) (by kernel_rfl) 64 rfl rfl ?_
    have h0 : (Tr.ofList [Value.agg ⟨d.cells⟩]).get 0 = some (.agg ⟨d.cells⟩) := rfl
    generalize Tr.ofList [Value.agg ⟨d.cells⟩] = t at *
    have hcode : cdRR = .seq (sub [0] cdRR) (.seq (.seq (sub [1,0,0] cdRR) (.block 0 (.loop cdRRl))) cdRRt) := rfl
    rw [hcode]
    have hcl : d.cells.length = 121 := d.len hlen
    have hcb : Nat.ble d.cells.length lastName = true := by rw [hcl]; rfl
    apply go_seq
    simp only [cdRR, Tryd.f26, bodyOf, sub]
    repeat apply go_seq
    apply go_region
    case h => intro m; simp (maxSteps := 2000000) (disch := decide) only [opsLoop, evOper, wantedA, nth, aop, aPick, aBin, aIndexAddr, aFieldAddr, aLoad, aStore, aExtract, aConvert, aAlloc, aBox, aIndex, callA, builtinA, Fr.evs, opt, val, when, AM.run, outV, newA, ptr, force_eq, seen_heap, seen_next, seen_mark, seen_seen, agg_cells, int_cells, Fr.ev, Fr.put, onFr, gps, gpn, bltT, still, flat, List.append_nil, List.nil_append, List.cons_append, Nat.reduceEqDiff, ne_eq, not_false_eq_true, reduceCtorEq, Bool.and_true, Bool.true_and, Bool.and_false, Bool.false_and, Bool.not_true, Bool.not_false, Bool.and_self, h0, hcb, hN0]; rfl
    generalize hs1 : (S.mk (s.heap.put s.next (some (.cells (Tr.ofList d.cells) d.cells.length 30 .whole))) (Nat.succ s.next) s.mark s.rd s.wr) = s1
    have e1 : s1.next = s.next + 1 := by rw [← hs1]
    have e1h : s1.heap = s.heap.put s.next (some (.cells (Tr.ofList d.cells) d.cells.length 30 .whole)) := by rw [← hs1]
    have L1 : LfAt s1 s.next d := by
      refine ⟨by omega, ⟨_, _, _, by rw [e1h, hg_same hN0, hcl], row_ofList _ (by rw [hcl]; unfold Tr.wide; omega)⟩, hlen⟩
    have hless : ∀ s5, Rd s1 s5 → Less' s5 s' := by
      intro s5 hr
      refine less_new (s := s) (n := 1) (by rw [hr.next, e1, hn9]; exact Nat.le_refl _) hn9 hh9 ?_
      intro m hmm
      rw [hr.heap, e1h, hg_far hN0 (by omega)]
    clear hs1
    have l4 := L1.get 4 (.int .i64 d.size) rfl
    apply go_seq
    apply go_seq
    have hmax : (match ltI d.size (Int.ofNat 0) with | true => Int.ofNat 0 | false => d.size) = Int.ofNat (fromZ d) := by
      unfold fromZ
      cases hl : ltI d.size (Int.ofNat 0) with
      | true =>
        rw [ltI_eq] at hl
        simp at hl
        show Int.ofNat 0 = _
        rw [Int.toNat_of_nonpos (by omega)]
      | false =>
        rw [ltI_eq] at hl
        simp at hl
        show d.size = _
        exact (Int.toNat_of_nonneg hl).symm
    repeat apply go_seq
    apply go_region
    case h => intro m; simp (maxSteps := 2000000) (disch := decide) only [opsLoop, evOper, wantedA, nth, aop, aPick, aBin, aIndexAddr, aFieldAddr, aLoad, aStore, aExtract, aConvert, aAlloc, aBox, aIndex, callA, builtinA, Fr.evs, opt, val, when, AM.run, outV, newA, ptr, force_eq, seen_heap, seen_next, seen_mark, seen_seen, agg_cells, int_cells, Fr.ev, Fr.put, onFr, gps, gpn, bltT, still, flat, List.append_nil, List.nil_append, List.cons_append, Nat.reduceEqDiff, ne_eq, not_false_eq_true, reduceCtorEq, Bool.and_true, Bool.true_and, Bool.and_false, Bool.false_and, Bool.not_true, Bool.not_false, Bool.and_self, tyLf, dsLf, fl4, ft4, fo4, tyI, szI, ble11, ad4, l4, builtinA, minMax, minMax.go, int0, hmax]; rfl
    apply go_block
    refine (go_loop_inv (InvRR d s.next s1) (fun k fr s2 hI => rightR_round d s.next s1 L1 k fr s2 hI) (116 - fromZ d) _ _ ⟨fromZ d, _, rfl, Nat.le_refl _, rfl, Rd.seen s1 s.next, ?_, ?_, fun j h1 h2 => by omega⟩).mono ?_
    · simp (disch := decide) only [gps, gpn]
    · simp (disch := decide) only [gps, gpn]
      exact congrArg (fun x => some (Value.int .i64 x)) hmax
    rintro x fr s3 ⟨t3, rfl, hr, ⟨rfl, g1, hall⟩ | ⟨rfl, g2, j, y, hj, hj2, hy, hy0⟩⟩
    · simp only [Out_, if_true]
      show GoC E _ _ _ _ _
      have hn := (noughts_iff d hlen).2 hall
      refine rightR_tail d s.next s3 (L1.rd hr) t3 g1 _ _ _ _ _ _ _ _ _ _ (fun E t => rfl) (fun E t => rfl) (fun E t => rfl) (fun E t => rfl) (fun E t => rfl) (fun E t => rfl) (fun E t => rfl) (fun E t => rfl) (fun E t => rfl) (fun E t => rfl) _ ?_
      exact ⟨by rw [chain_right d hn], hless _ (hr.trans (Rd.seen s3 s.next))⟩
    · simp only [Out_, Then]
      apply ret_intro rfl rfl
      case run => simp (disch := decide) only [resultsM, resultsA, resRR, opsLoop, evOper, wantedA, nth, aop, aPick, aBin, aIndexAddr, aFieldAddr, aLoad, aStore, aExtract, aConvert, aAlloc, aBox, aIndex, callA, builtinA, Fr.evs, opt, val, when, AM.run, outV, newA, ptr, force_eq, seen_heap, seen_next, seen_mark, seen_seen, agg_cells, int_cells, Fr.ev, Fr.put, onFr, gps, gpn, bltT, still, flat, List.append_nil, List.nil_append, List.cons_append, Nat.reduceEqDiff, ne_eq, not_false_eq_true, reduceCtorEq, Bool.and_true, Bool.true_and, Bool.and_false, Bool.false_and, Bool.not_true, Bool.not_false, Bool.and_self, g2]; rfl
      refine ⟨?_, hless _ hr⟩
      have hn : noughts (d.load.drop d.size.toNat) = false := by
        cases hb : noughts (d.load.drop d.size.toNat) with
        | false => rfl
        | true =>
          have := (noughts_iff d hlen).1 hb j hj hj2
          rw [hy] at this
          exact absurd (Option.some.inj this) hy0
      unfold rightL
      rw [hn]
      simp
  · cases h
end Go.Proofs.YtgofanjbhbeniaaDoor.lf
end
end

section
/- Catalogs in leaves: what catalog.Get reads out of a leaf, evaluated. -/
noncomputable section
namespace Go.Proofs.YtgofanjbhbeniaaDoor.lf
open AE
set_option linter.unusedSimpArgs false
set_option linter.unusedVariables false
set_option maxRecDepth 10000

noncomputable def fiGC : FI := FI.of Tryd.f9
noncomputable def cdGC : Code := bodyOf Tryd.f9
def orV (n x : Int) (i : Nat) : Int := wrapA .i64 (.ofNat (Nat.lor (modN 18446744073709551616 n) (modN 18446744073709551616 (wrapA .i64 (Int.mul (wrapA .i64 x) (pow2 (8 * i)))))))
def tk4 (b : Nat → Int) (k : Nat) : Int := orV (orV (orV (orV 0 (b k) 0) (b (k + 1)) 1) (b (k + 2)) 2) (b (k + 3)) 3
def tk2 (b : Nat → Int) (k : Nat) : Int := orV (orV 0 (b k) 0) (b (k + 1)) 1
def i64 (x : Int) : Int := wrapA .i64 x
def fileG (b : Nat → Int) (k : Nat) : FileD := ⟨i64 (b k), tk2 b (k + 1), tk2 b (k + 3), tk2 b (k + 5)⟩
def filesG (b : Nat → Int) : Nat → Nat → List FileD
  | 0, _ => []
  | n + 1, k => fileG b k :: filesG b n (k + 7)
/-- what the bytes of a leaf say -/
def catG (b : Nat → Int) (m : Nat) : CatD := ⟨tk4 b 0, i64 (b 4), i64 (b 5), eqI (b 6) 1, tk4 b 9, tk4 b 13, i64 (b 7), i64 (b 8), filesG b m 17⟩
def bytesB (b : Nat → Int) : Nat → Nat → List Value
  | 0, _ => []
  | n + 1, k => .int .u8 (b k) :: bytesB b n (k + 1)
def zeroC : List Value := [.int .i64 0, .int .i64 0, .int .i64 0, .bool false, .int .i64 0, .int .i64 0, .int .i64 0, .int .i64 0, .slice none 0 0]
def capG (m : Nat) : Nat := match m with | 0 => 0 | _ => OPEN + m
end Go.Proofs.YtgofanjbhbeniaaDoor.lf
end
end

section
/- Catalogs: any leaf read as a catalog: the runs. -/
noncomputable section
namespace Go.Proofs.YtgofanjbhbeniaaDoor.lf
open AE
set_option linter.unusedSimpArgs false
set_option linter.unusedVariables false
set_option maxRecDepth 10000

noncomputable def fiGR : FI := FI.of Tryd.f10
noncomputable def cdGR : Code := bodyOf Tryd.f10
def gatesGR : Gates := gatesM [(26, gateOf rightG), (14, rightXG)]
def gatesG1 : Gates := gatesM [(24, gateOf rightG), (7, putXG)]
noncomputable def runGR (k f p n z : Int) (b : Nat → Nat) (told : List (Nat × Option Bool)) : Option (Value × S × List (Bool × Bool)) :=
  ownR E fiGR 9000 10 (evO E gatesGR (sumsOf []) 3000 (.code cdGR ⟨10, Tr.ofList [.agg ⟨leafN k f p n z b⟩], 127, [], none⟩) (inS []) ⟨told, []⟩)
noncomputable def runG1 (k f p n z : Int) (b : Nat → Nat) (told : List (Nat × Option Bool)) : Option (Value × S × List (Bool × Bool)) :=
  ownR E fiGC 9000 9 (evO E gatesG1 (sumsOf []) 3000 (.code cdGC ⟨9, Tr.ofList [.agg ⟨leafN k f p n z b⟩], 114, [], none⟩) (inS []) ⟨told, []⟩)
def sliceAt : Value → Option Addr
  | .tuple ⟨[.agg ⟨[_, _, _, _, _, _, _, _, .slice a _ _]⟩, _]⟩ => a
  | _ => none
def rowAt (v : Value) (s : S) : Option (Nat × TypeId × Room × Option (List Value)) := match sliceAt v with
  | some a => cellsAt s a.block
  | none => none
def probGR (r : Option (Value × S × List (Bool × Bool))) : Option ((Value × Option (Nat × TypeId × Room × Option (List Value))) × List (Bool × Bool)) := match r with
  | some (v, s, qs) => some ((v, rowAt v s), qs)
  | none => none
end Go.Proofs.YtgofanjbhbeniaaDoor.lf
end
end

section
/- Catalogs in leaves: what is put in is read out. -/
noncomputable section
namespace Go.Proofs.YtgofanjbhbeniaaDoor.lf
open AE
set_option linter.unusedSimpArgs false
set_option linter.unusedVariables false
set_option maxRecDepth 10000

theorem u8_nat (n : Nat) : wrapA .u8 (Int.ofNat n) = Int.ofNat (n % 256) := rfl
theorem fdiv_nat (n k : Nat) : Int.fdiv (Int.ofNat n) (pow2 k) = Int.ofNat (n / 2 ^ k) := by
  show Int.fdiv (n : Int) ((2 ^ k : Nat) : Int) = ((n / 2 ^ k : Nat) : Int)
  rw [Int.fdiv_eq_ediv_of_nonneg _ (Int.natCast_nonneg _)]
  rfl
theorem lowV_nat (n i : Nat) : lowV (Int.ofNat n) i = .int .u8 (.ofNat (n / 2 ^ (8 * i) % 256)) := by
  unfold lowV u8V
  rw [fdiv_nat, u8_nat]
theorem mod64 (n : Nat) (h : n < 18446744073709551616) : modN 18446744073709551616 (Int.ofNat n) = n := Nat.mod_eq_of_lt h
theorem wr64 (n : Nat) (h : n < 9223372036854775808) : wrapA .i64 (Int.ofNat n) = Int.ofNat n := wrap64 h
theorem orV_nat (a c i : Nat) (hi : i ≤ 3) (hc : c < 256) (ha : a < 2 ^ (8 * i)) : orV (Int.ofNat a) (Int.ofNat c) i = Int.ofNat (a + c * 2 ^ (8 * i)) := by
  have hp : 2 ^ (8 * i) ≤ 16777216 := by
    have : i = 0 ∨ i = 1 ∨ i = 2 ∨ i = 3 := by omega
    rcases this with rfl | rfl | rfl | rfl <;> decide
  have hm : c * 2 ^ (8 * i) ≤ 255 * 16777216 := Nat.mul_le_mul (by omega) hp
  unfold orV
  rw [wr64 c (by omega)]
  have e1 : Int.mul (Int.ofNat c) (pow2 (8 * i)) = Int.ofNat (c * 2 ^ (8 * i)) := rfl
  rw [e1, wr64 (c * 2 ^ (8 * i)) (by omega), mod64 a (by omega), mod64 (c * 2 ^ (8 * i)) (by omega)]
  have e2 : Nat.lor a (c * 2 ^ (8 * i)) = a + c * 2 ^ (8 * i) := by
    have := Nat.two_pow_add_eq_or_of_lt ha c
    rw [Nat.mul_comm, Nat.add_comm] at this
    rw [this]
    exact (Nat.or_comm _ _)
  rw [e2, wr64 _ (by omega)]
theorem tk4_nat (n : Nat) (h : n < 4294967296) : orV (orV (orV (orV 0 (Int.ofNat (n / 2 ^ (8 * 0) % 256)) 0) (Int.ofNat (n / 2 ^ (8 * 1) % 256)) 1) (Int.ofNat (n / 2 ^ (8 * 2) % 256)) 2) (Int.ofNat (n / 2 ^ (8 * 3) % 256)) 3 = Int.ofNat n := by
  have e0 : (0 : Int) = Int.ofNat 0 := rfl
  rw [e0, orV_nat 0 _ 0 (by omega) (Nat.mod_lt _ (by omega)) (by decide)]
  rw [orV_nat _ _ 1 (by omega) (Nat.mod_lt _ (by omega)) (by simp; omega)]
  rw [orV_nat _ _ 2 (by omega) (Nat.mod_lt _ (by omega)) (by simp; omega)]
  rw [orV_nat _ _ 3 (by omega) (Nat.mod_lt _ (by omega)) (by simp; omega)]
  congr 1
  simp
  omega
theorem tk2_nat (n : Nat) (h : n < 65536) : orV (orV 0 (Int.ofNat (n / 2 ^ (8 * 0) % 256)) 0) (Int.ofNat (n / 2 ^ (8 * 1) % 256)) 1 = Int.ofNat n := by
  have e0 : (0 : Int) = Int.ofNat 0 := rfl
  rw [e0, orV_nat 0 _ 0 (by omega) (Nat.mod_lt _ (by omega)) (by decide)]
  rw [orV_nat _ _ 1 (by omega) (Nat.mod_lt _ (by omega)) (by simp; omega)]
  congr 1
  simp
  omega
theorem i64_u8 (n : Nat) (h : n < 256) : wrapA .i64 (wrapA .u8 (Int.ofNat n)) = Int.ofNat n := by
  rw [u8_nat, Nat.mod_eq_of_lt h, wr64 _ (by omega)]

/-- the number at a place -/
def bOf (l : List Value) (k : Nat) : Int := match l[k]? with
  | some (.int _ n) => n
  | _ => 0
theorem bOf_app_l {a b : List Value} {k : Nat} (h : k < a.length) : bOf (a ++ b) k = bOf a k := by
  unfold bOf; rw [List.getElem?_append_left h]
theorem bOf_app_r {a b : List Value} {k : Nat} (h : a.length ≤ k) : bOf (a ++ b) k = bOf b (k - a.length) := by
  unfold bOf; rw [List.getElem?_append_right h]
theorem tk4_low (x : Int) (h0 : 0 ≤ x) (h1 : x < 4294967296) : orV (orV (orV (orV 0 (wrapA .u8 (Int.fdiv x (pow2 (8 * 0)))) 0) (wrapA .u8 (Int.fdiv x (pow2 (8 * 1)))) 1) (wrapA .u8 (Int.fdiv x (pow2 (8 * 2)))) 2) (wrapA .u8 (Int.fdiv x (pow2 (8 * 3)))) 3 = x := by
  obtain ⟨n, rfl⟩ := Int.eq_ofNat_of_zero_le h0
  have e : (n : Int) = Int.ofNat n := rfl
  simp only [e, fdiv_nat, u8_nat]
  exact tk4_nat n (by omega)
theorem tk2_low (x : Int) (h0 : 0 ≤ x) (h1 : x < 65536) : orV (orV 0 (wrapA .u8 (Int.fdiv x (pow2 (8 * 0)))) 0) (wrapA .u8 (Int.fdiv x (pow2 (8 * 1)))) 1 = x := by
  obtain ⟨n, rfl⟩ := Int.eq_ofNat_of_zero_le h0
  have e : (n : Int) = Int.ofNat n := rfl
  simp only [e, fdiv_nat, u8_nat]
  exact tk2_nat n (by omega)
theorem i64_low (x : Int) (h0 : 0 ≤ x) (h1 : x < 256) : i64 (wrapA .u8 x) = x := by
  obtain ⟨n, rfl⟩ := Int.eq_ofNat_of_zero_le h0
  exact i64_u8 n (by omega)
def U8 (l : List Value) : Prop := ∀ v ∈ l, ∃ n, v = .int .u8 n
theorem U8.app {a b : List Value} (h : U8 a) (h' : U8 b) : U8 (a ++ b) := fun v hv => (List.mem_append.1 hv).elim (h v) (h' v)
theorem U8.nil : U8 [] := fun v h => by cases h
theorem U8.cons {n : Int} {l : List Value} (h : U8 l) : U8 (.int .u8 n :: l) := fun v hv => by
  rcases List.mem_cons.1 hv with rfl | hv
  · exact ⟨n, rfl⟩
  · exact h v hv
theorem files_right : ∀ (l : List FileD) (last : Int), filesOK last l = true → ∀ f ∈ l, f.right = true
  | [], _, _, f, h => by cases h
  | g :: l, last, h, f, hf => by
    simp only [filesOK, Bool.and_eq_true] at h
    rcases List.mem_cons.1 hf with rfl | hf
    · exact h.1
    · exact files_right l g.name h.2.2 f hf
theorem rightF_bounds {f : FileD} (h : f.right = true) : (0 ≤ f.name ∧ f.name < 256) ∧ (0 ≤ f.file ∧ f.file < 65536) ∧ (0 ≤ f.first ∧ f.first < 65536) ∧ (0 ≤ f.blocks ∧ f.blocks < 65536) := by
  unfold FileD.right rightF at h
  simp only [Bool.and_eq_true] at h
  obtain ⟨h1, h2, h3, h4, _⟩ := h
  have h1 := wi_iff.1 h1
  have h2 := wi_iff.1 h2
  have h3 := wi_iff.1 h3
  have h4 := wi_iff.1 h4
  omega
theorem filesG_eq : ∀ (fs : List FileD) (k : Nat) (b : Nat → Int), (∀ f ∈ fs, f.right = true) → (∀ r, r < 7 * fs.length → b (k + r) = bOf (filesV fs) r) → filesG b fs.length k = fs
  | [], k, b, _, _ => rfl
  | f :: l, k, b, hr, hb => by
    simp only [List.length_cons] at hb ⊢
    obtain ⟨⟨a1, a2⟩, ⟨a3, a4⟩, ⟨a5, a6⟩, ⟨a7, a8⟩⟩ := rightF_bounds (hr f (by simp))
    have q : ∀ r, r < 7 → b (k + r) = bOf (fileV f) r := fun r hr7 => by
      rw [hb r (by omega)]
      exact bOf_app_l (show r < (fileV f).length from hr7)
    have hf : fileG b k = f := by
      have e0 : b k = wrapA .u8 f.name := q 0 (by omega)
      have e1 : b (k + 1) = wrapA .u8 (Int.fdiv f.file (pow2 (8 * 0))) := q 1 (by omega)
      have e2 : b (k + 2) = wrapA .u8 (Int.fdiv f.file (pow2 (8 * 1))) := q 2 (by omega)
      have e3 : b (k + 3) = wrapA .u8 (Int.fdiv f.first (pow2 (8 * 0))) := q 3 (by omega)
      have e4 : b (k + 4) = wrapA .u8 (Int.fdiv f.first (pow2 (8 * 1))) := q 4 (by omega)
      have e5 : b (k + 5) = wrapA .u8 (Int.fdiv f.blocks (pow2 (8 * 0))) := q 5 (by omega)
      have e6 : b (k + 6) = wrapA .u8 (Int.fdiv f.blocks (pow2 (8 * 1))) := q 6 (by omega)
      unfold fileG tk2
      rw [e0, e1, e3, e5, show k + 1 + 1 = k + 2 from rfl, show k + 3 + 1 = k + 4 from rfl, show k + 5 + 1 = k + 6 from rfl, e2, e4, e6, i64_low _ a1 a2, tk2_low _ a3 a4, tk2_low _ a5 a6, tk2_low _ a7 a8]
    have hl := filesG_eq l (k + 7) b (fun g hg => hr g (by simp [hg])) (fun r hr7 => by
      have := hb (7 + r) (by omega)
      rw [Nat.add_assoc, this]
      show bOf (fileV f ++ filesV l) (7 + r) = _
      rw [bOf_app_r (show (fileV f).length ≤ 7 + r from Nat.le_add_right 7 r)]
      congr 1
      show 7 + r - 7 = r
      omega)
    show fileG b k :: filesG b l.length (k + 7) = f :: l
    rw [hf, hl]
theorem right_bounds {D : CatD} (h : D.right = true) : (0 ≤ D.gen ∧ D.gen < 4294967296) ∧ (0 ≤ D.step ∧ D.step < 256) ∧ (0 ≤ D.status ∧ D.status < 256) ∧ (0 ≤ D.from_ ∧ D.from_ < 4294967296) ∧ (0 ≤ D.to_ ∧ D.to_ < 4294967296) ∧ (0 ≤ D.budget ∧ D.budget < 256) ∧ (0 ≤ D.fan ∧ D.fan < 256) ∧ ∀ f ∈ D.files, f.right = true := by
  unfold CatD.right at h
  simp only [Bool.and_eq_true] at h
  obtain ⟨h1, h2, h3⟩ := h
  unfold CatD.headOK at h1
  simp only [Bool.and_eq_true] at h1
  obtain ⟨k1, k2, k3⟩ := h1
  have k1 := wi_iff.1 k1
  have k2 := wi_iff.1 k2
  have k3 := wi_iff.1 k3
  unfold CatD.midOK at h2
  simp only [Bool.and_eq_true, Bool.or_eq_true] at h2
  obtain ⟨_, h5, _⟩ := h2
  have hc : (0 ≤ D.from_ ∧ D.from_ < 4294967296) ∧ (0 ≤ D.to_ ∧ D.to_ < 4294967296) ∧ (0 ≤ D.budget ∧ D.budget < 256) ∧ (0 ≤ D.fan ∧ D.fan < 256) := by
    rcases h5 with h5 | h5
    · have := of_decide_eq_true h5
      omega
    · unfold rightK at h5
      simp only [Bool.and_eq_true] at h5
      obtain ⟨g1, g2, g3, g4⟩ := h5
      have g1 := wi_iff.1 g1
      have g3 := wi_iff.1 g3
      have g4 := wi_iff.1 g4
      have g2 : ltI 1073741824 D.to_ = false := by simpa using g2
      rw [ltI_eq] at g2
      have := of_decide_eq_false g2
      omega
  refine ⟨by omega, by omega, by omega, hc.1, hc.2.1, hc.2.2.1, hc.2.2.2, files_right _ _ h3⟩
/-- what was put in is read out -/
theorem catG_enc (D : CatD) (h : D.right = true) (z : List Value) : catG (bOf (encV D ++ z)) D.files.length = D := by
  obtain ⟨⟨a1, a2⟩, ⟨b1, b2⟩, ⟨c1, c2⟩, ⟨d1, d2⟩, ⟨e1, e2⟩, ⟨f1, f2⟩, ⟨g1, g2⟩, hf⟩ := right_bounds h
  have hfl : filesG (bOf (encV D ++ z)) D.files.length 17 = D.files := filesG_eq D.files 17 _ hf (fun r hr => by
    have hl : (low4 D.gen ++ [u8V D.step, u8V D.status, endV D.ended, u8V D.budget, u8V D.fan] ++ low4 D.from_ ++ low4 D.to_).length = 17 := rfl
    unfold encV
    rw [List.append_assoc _ (filesV D.files) z, bOf_app_r (by rw [hl]; omega), hl, show 17 + r - 17 = r by omega, bOf_app_l (by rw [filesV_len]; exact hr)])
  unfold catG
  rw [hfl]
  have t1 : tk4 (bOf (encV D ++ z)) 0 = D.gen := tk4_low D.gen a1 a2
  have t2 : tk4 (bOf (encV D ++ z)) 9 = D.from_ := tk4_low D.from_ d1 d2
  have t3 : tk4 (bOf (encV D ++ z)) 13 = D.to_ := tk4_low D.to_ e1 e2
  have t4 : i64 (bOf (encV D ++ z) 4) = D.step := i64_low D.step b1 b2
  have t5 : i64 (bOf (encV D ++ z) 5) = D.status := i64_low D.status c1 c2
  have t6 : i64 (bOf (encV D ++ z) 7) = D.budget := i64_low D.budget f1 f2
  have t7 : i64 (bOf (encV D ++ z) 8) = D.fan := i64_low D.fan g1 g2
  have t8 : eqI (bOf (encV D ++ z) 6) 1 = D.ended := by
    have h6 : (encV D ++ z)[6]? = some (endV D.ended) := rfl
    unfold bOf
    rw [h6]
    cases D.ended <;> rfl
  rw [t1, t2, t3, t4, t5, t6, t7, t8]
/-- two that have the same leaf are the same -/
theorem put_inj {D D' : CatD} (h : D.right = true) (h' : D'.right = true) (e : putV_ D = putV_ D') : D = D' := by
  have hn : D.files.length = D'.files.length := by
    unfold putV_ at e
    simp only [List.cons_append, List.nil_append, List.cons.injEq, Value.int.injEq, true_and] at e
    have := Int.ofNat.inj e.1
    omega
  have e2 : encV D ++ zerosV (99 - 7 * D.files.length) = encV D' ++ zerosV (99 - 7 * D'.files.length) := by
    unfold putV_ at e
    simp only [List.cons_append, List.nil_append, List.cons.injEq] at e
    exact e.2.2.2.2.2
  have h1 := catG_enc D h (zerosV (99 - 7 * D.files.length))
  have h2 := catG_enc D' h' (zerosV (99 - 7 * D'.files.length))
  rw [← h1, ← h2, e2, hn]
end Go.Proofs.YtgofanjbhbeniaaDoor.lf
end
end

section
/- Catalogs in leaves: the leaf of a catalog that may be, as a leaf; catalog.Get of it, walked. -/
noncomputable section
namespace Go.Proofs.YtgofanjbhbeniaaDoor.lf
open AE
set_option linter.unusedSimpArgs false
set_option linter.unusedVariables false
set_option maxRecDepth 10000

def toB : Value → UInt8
  | .int _ n => UInt8.ofNat n.toNat
  | _ => 0
/-- bytes as values -/
def UB (l : List Value) : Prop := ∀ v ∈ l, ∃ k : Nat, k < 256 ∧ v = .int .u8 (.ofNat k)
theorem UB.app {a b : List Value} (h : UB a) (h' : UB b) : UB (a ++ b) := fun v hv => (List.mem_append.1 hv).elim (h v) (h' v)
theorem UB.nil : UB [] := fun v h => by cases h
theorem UB.cons {v : Value} {l : List Value} (hv : ∃ k : Nat, k < 256 ∧ v = .int .u8 (.ofNat k)) (h : UB l) : UB (v :: l) := fun u hu => by
  rcases List.mem_cons.1 hu with rfl | hu
  · exact hv
  · exact h u hu
theorem ub_u8 (x : Int) : ∃ k : Nat, k < 256 ∧ u8V x = .int .u8 (.ofNat k) := by
  refine ⟨modN 256 x, ?_, rfl⟩
  have h := modN_eq 256 (by omega) x
  have h2 := Int.emod_lt_of_pos x (show (0 : Int) < ((256 : Nat) : Int) by omega)
  omega
theorem ub_low4 (x : Int) : UB (low4 x) := .cons (ub_u8 _) (.cons (ub_u8 _) (.cons (ub_u8 _) (.cons (ub_u8 _) .nil)))
theorem ub_zeros : ∀ n, UB (zerosV n)
  | 0 => .nil
  | n + 1 => .cons ⟨0, by omega, rfl⟩ (ub_zeros n)
theorem ub_files : ∀ l, UB (filesV l)
  | [] => .nil
  | f :: l => .app (.cons (ub_u8 _) (.cons (ub_u8 _) (.cons (ub_u8 _) (.cons (ub_u8 _) (.cons (ub_u8 _) (.cons (ub_u8 _) (.cons (ub_u8 _) .nil))))))) (ub_files l)
theorem ub_enc (D : CatD) : UB (encV D) := by
  unfold encV
  have he : UB [u8V D.step, u8V D.status, endV D.ended, u8V D.budget, u8V D.fan] := by
    refine .cons (ub_u8 _) (.cons (ub_u8 _) (.cons ?_ (.cons (ub_u8 _) (.cons (ub_u8 _) .nil))))
    cases D.ended
    · exact ⟨0, by omega, rfl⟩
    · exact ⟨1, by omega, rfl⟩
  exact .app (.app (.app (.app (ub_low4 _) he) (ub_low4 _)) (ub_low4 _)) (ub_files _)
theorem ub_back : ∀ l, UB l → (l.map toB).map bv = l
  | [], _ => rfl
  | v :: l, h => by
    obtain ⟨k, hk, rfl⟩ := h v (by simp)
    simp only [List.map_cons, ub_back l (fun u hu => h u (by simp [hu])), List.cons.injEq, and_true]
    unfold bv toB
    show Value.int .u8 (.ofNat (UInt8.ofNat k).toNat) = _
    rw [UInt8.toNat_ofNat', Nat.mod_eq_of_lt (by simpa using hk)]
/-- the leaf -/
def leafD (D : CatD) : LeafD := ⟨2, 0, 0, 0, .ofNat (17 + 7 * D.files.length), (encV D ++ zerosV (99 - 7 * D.files.length)).map toB⟩
theorem leafD_cells (D : CatD) : (leafD D).cells = putV_ D := by
  unfold LeafD.cells leafD putV_
  simp only
  rw [ub_back _ (.app (ub_enc D) (ub_zeros _))]
theorem encV_len (D : CatD) : (encV D).length = 17 + 7 * D.files.length := by
  have h4 : ∀ x, (low4 x).length = 4 := fun x => rfl
  unfold encV
  simp only [List.length_append, h4, filesV_len, List.length_cons, List.length_nil]
theorem leafD_len (D : CatD) (h : D.files.length ≤ 14) : (leafD D).load.length = 116 := by
  unfold leafD
  simp only [List.length_map, List.length_append, encV_len, zerosV_len]
  omega
theorem zeros_map : ∀ n, (zerosV n).map toB = List.replicate n 0
  | 0 => rfl
  | n + 1 => by simp only [zerosV, List.map_cons, zeros_map n, List.replicate_succ]; rfl
theorem leafD_right (D : CatD) (h : D.files.length ≤ 14) : rightL (leafD D) = true := by
  have hd : (leafD D).load.drop (leafD D).size.toNat = List.replicate (99 - 7 * D.files.length) 0 := by
    show ((encV D ++ zerosV _).map toB).drop (17 + 7 * D.files.length) = _
    rw [List.map_append, List.drop_append_of_le_length (by rw [List.length_map, encV_len]; exact Nat.le_refl _), List.drop_eq_nil_of_le (by rw [List.length_map, encV_len]; exact Nat.le_refl _), List.nil_append, zeros_map]
  have hn : noughts ((leafD D).load.drop (leafD D).size.toNat) = true := by
    rw [hd]
    unfold noughts
    exact beq_iff.2 ((lead_all _).2 (fun j x hj => by
      have := List.mem_of_getElem? hj
      exact (List.mem_replicate.1 this).2))
  have hs : wi (leafD D).size 0 116 = true := wi_iff.2 (by
    have e : (leafD D).size = ((17 + 7 * D.files.length : Nat) : Int) := rfl
    rw [e]; omega)
  unfold rightL
  rw [hn, hs]
  rfl

end Go.Proofs.YtgofanjbhbeniaaDoor.lf
end
end

section
/- Catalogs in leaves: catalog.Get of the leaf of a catalog that may be, walked. -/
noncomputable section
namespace Go.Proofs.YtgofanjbhbeniaaDoor.lf
open AE
set_option linter.unusedSimpArgs false
set_option linter.unusedVariables false
set_option maxRecDepth 10000

theorem tgPC : ∀ a b, targetA E (.func 7) a b = .pure (.enter 7 (b ++ a)) := tgt (fi := fiPN) (c := cdPN) (by kernel_rfl) (by kernel_rfl)
theorem bl9 {n : Nat} (h : n ≤ 100000) : Nat.ble n lastName = true := ble_iff.2 (by unfold lastName; omega)
theorem obj_of {s : S} {n m : Nat} {e : TypeId} {r : Room} {L : List Value} (h : cellsAt s n = some (m, e, r, some L)) : ∃ c, s.heap.get n = some (.cells c m e r) ∧ L.length = m ∧ Row c 0 L := by
  unfold cellsAt at h
  split at h
  · rename_i c m' e' r' hg
    simp only [Option.some.injEq, Prod.mk.injEq] at h
    obtain ⟨rfl, rfl, rfl, h4⟩ := h
    exact ⟨c, hg, row_of_rd h4⟩
  · cases h
end Go.Proofs.YtgofanjbhbeniaaDoor.lf
end
end

section
/- Catalogs in leaves: catalog.Get, told for the leaf of a catalog that may be. -/
noncomputable section
namespace Go.Proofs.YtgofanjbhbeniaaDoor.lf
open AE
set_option linter.unusedSimpArgs false
set_option linter.unusedVariables false
set_option maxRecDepth 10000

open Classical in
/-- the catalog whose leaf it is -/
def decD (cells : List Value) : Option CatD := if h : ∃ D : CatD, D.right = true ∧ cells = putV_ D then some (Classical.choose h) else none
theorem decD_put {D : CatD} (h : D.right = true) : decD (putV_ D) = some D := by
  have hx : ∃ D' : CatD, D'.right = true ∧ putV_ D = putV_ D' := ⟨D, h, rfl⟩
  unfold decD
  rw [dif_pos hx]
  have := Classical.choose_spec hx
  rw [put_inj this.1 h this.2.symm]
theorem decD_inv {cells : List Value} {D : CatD} (h : decD cells = some D) : D.right = true ∧ cells = putV_ D := by
  unfold decD at h
  split at h
  · rename_i hx
    cases h
    exact Classical.choose_spec hx
  · cases h
theorem plain_nil : Plain (.slice none 0 0) := ⟨fun ρ => .flat rfl, fun ρ v' h => h.sliceN_inv.1⟩
theorem slice_move {ρa ρb : Ren} {a b n c : Nat} {v' : Value} (he : ρa a = ρb b) (h : VR ρa (.slice (some ⟨a, 0, none⟩) n (OPEN + c)) v') : VR ρb (.slice (some ⟨b, 0, none⟩) n (OPEN + c)) v' := by
  generalize hcap : OPEN + c = cap at h
  cases h with
  | flat h => cases h
  | sliceW ha hc => omega
  | sliceL hr =>
    rename_i bb base ex c'
    obtain rfl : c = c' := by omega
    exact .sliceL (n := b) (off := 0) (by rw [← he]; exact hr)
end Go.Proofs.YtgofanjbhbeniaaDoor.lf
end
end

section
/- Catalogs: any leaf read as a catalog: gates. -/
noncomputable section
namespace Go.Proofs.YtgofanjbhbeniaaDoor.lf
open AE
set_option linter.unusedSimpArgs false
set_option linter.unusedVariables false
set_option maxRecDepth 10000

theorem bytes_plain (l : List UInt8) : ∀ v ∈ l.map bv, Plain v := fun v hv => by
  obtain ⟨x, _, rfl⟩ := List.mem_map.1 hv
  exact plain_int _ _
theorem leaf_plain (d : LeafD) : ∀ v ∈ d.cells, Plain v := by
  intro v hv
  unfold LeafD.cells at hv
  rcases List.mem_append.1 hv with h | h
  · simp only [List.mem_cons, List.not_mem_nil, or_false] at h
    rcases h with rfl | rfl | rfl | rfl | rfl <;> exact plain_int _ _
  · exact bytes_plain _ v h
theorem told_rightG_of {f : FuncId} {am : List Value → AM Value} (ht : AE.Told Tryd.prog f am) (hr : ∀ (cs : List Value) (d : LeafD), leafOf cs = some d → ∃ sE, (am [.agg ⟨cs⟩]).run (inS []) = some (.bool (rightL d), sE)) : AE.Told Tryd.prog f (gA rightG) := by
  refine told_nobump ht ?_
  intro args s v s' h
  obtain ⟨h1, rfl⟩ := gA_run h
  unfold rightG at h1
  split at h1
  · rename_i cs
    cases hd : leafOf cs with
    | none => rw [hd] at h1; cases h1
    | some d =>
      rw [hd] at h1
      cases h1
      obtain ⟨sE, hE2⟩ := hr cs d hd
      have hrc : rightC cs = rightL d := by unfold rightC; rw [hd]
      obtain ⟨rfl, hlen⟩ := leafOf_inv hd
      refine ⟨plain_bool _, Less'.refl _, fun q ρ w args' hR ha => ?_⟩
      obtain ⟨p1, p2⟩ := plain_agg (leaf_plain d)
      cases ha with
      | cons a b =>
        cases b with
        | nil =>
          obtain rfl := p2 _ _ a
          rw [hrc]
          exact ⟨[.agg ⟨d.cells⟩], inS [], sE, renOf [], inputs_of [] (Nat.zero_le _) (fun x hx => by cases hx), .cons (p1 _) .nil, hE2, Nat.zero_le _⟩
  · cases h1
theorem told_rightG2 : AE.Told Tryd.prog 26 (gA rightG) := told_rightG_of told_rightR fun cs d hd => by
  unfold rightRA
  dsimp only
  rw [hd]
  exact ⟨_, rfl⟩
theorem told_rightG1 : AE.Told Tryd.prog 24 (gA rightG) := told_rightG_of told_right fun cs d hd => by
  unfold rightA
  dsimp only
  rw [hd]
  exact ⟨_, rfl⟩
theorem tolds_GR : Tolds Tryd.prog (gated gatesGR (sumsOf [])) := tolds_gatesM tolds_nil (by
  intro p hp
  simp only [List.mem_cons, List.not_mem_nil, or_false] at hp
  rcases hp with rfl | rfl
  · exact told_rightG2
  · exact told_rightX)
theorem tolds_G1 : Tolds Tryd.prog (gated gatesG1 (sumsOf [])) := tolds_gatesM tolds_nil (by
  intro p hp
  simp only [List.mem_cons, List.not_mem_nil, or_false] at hp
  rcases hp with rfl | rfl
  · exact told_rightG1
  · exact told_putX1)
end Go.Proofs.YtgofanjbhbeniaaDoor.lf
end
end

section
/- Catalogs: any leaf read as a catalog, by the document and by the program: evaluated. (printed by wip/gen/tl8.py) -/
noncomputable section
namespace Go.Proofs.YtgofanjbhbeniaaDoor.lf
open AE
set_option linter.unusedSimpArgs false
set_option linter.unusedVariables false
set_option maxRecDepth 10000

def orW (n x : Int) : Int := wrapA .i64 (.ofNat (Nat.lor (modN 18446744073709551616 (wrapA .i64 (Int.mul n (pow2 8)))) (modN 18446744073709551616 (wrapA .i64 x))))
def nb4 (b : Nat → Int) (k : Nat) : Int := orW (orW (orW (orW 0 (b (k + 3))) (b (k + 2))) (b (k + 1))) (b k)
def nb2 (b : Nat → Int) (k : Nat) : Int := orW (orW 0 (b (k + 1))) (b k)
def fileR (b : Nat → Int) (k : Nat) : FileD := ⟨i64 (b k), nb2 b (k + 1), nb2 b (k + 3), nb2 b (k + 5)⟩
def filesR (b : Nat → Int) : Nat → Nat → List FileD
  | 0, _ => []
  | n + 1, k => fileR b k :: filesR b n (k + 7)
/-- what the document reads -/
def catR (b : Nat → Int) (m : Nat) : CatD := ⟨nb4 b 0, i64 (b 4), i64 (b 5), eqI (b 6) 1, nb4 b 9, nb4 b 13, i64 (b 7), i64 (b 8), filesR b m 17⟩
def bT (b : Nat → Nat) (k : Nat) : Int := .ofNat (b k)
def qLf (k f p n z : Int) (b : Nat → Nat) : Bool := (leafOf (leafN k f p n z b)).isSome
def qRt (k f p n z : Int) (b : Nat → Nat) : Bool := rightC (leafN k f p n z b)
def noCat : Value := .tuple ⟨[.agg ⟨zeroC⟩, .bool false]⟩
def isCat (D : CatD) (a : Option Addr) (cap : Nat) : Value := .tuple ⟨[.agg ⟨D.cells a cap⟩, .bool true]⟩
def size7 (m : Nat) : Int := .ofNat (17 + 7 * m)
def qCatR (b : Nat → Nat) (m : Nat) : Bool := rightQ (catR (bT b) m)
def qPutG (k f p n : Int) (b : Nat → Nat) (m : Nat) : Option Bool := eqTop E 30 (.agg ⟨putCs (catG (bT b) m).gen (catG (bT b) m).step (catG (bT b) m).status (catG (bT b) m).ended (catG (bT b) m).from_ (catG (bT b) m).to_ (catG (bT b) m).budget (catG (bT b) m).fan (fcs (catG (bT b) m).files)⟩) (.agg ⟨leafN k f p n (size7 m) b⟩)
def adR (m : Nat) : Option Addr := match m with | 0 => none | _ => some ⟨2 + 2 * m, 0, none⟩
def adP (m : Nat) : Option Addr := match m with | 0 => none | _ => some ⟨2 + 3 * m, 0, none⟩
def rowR (D : CatD) : Option (Nat × TypeId × Room × Option (List Value)) := match D.files.length with
  | 0 => none
  | _ => some (4 * D.files.length, 41, .loose, some (fcs D.files))
def toldR (m : Nat) (l : List (Nat × Option Bool)) : List (Nat × Option Bool) := [(0, some true), (0, some false), (3, some false), (3, some false), (3, some false), (3, some false)] ++ l
def qR0 (k f p n : Int) (b : Nat → Nat) (m : Nat) : List (Bool × Bool) := [(!eqI n 0, false), (!eqI p 0, false), (!eqI f 0, false), (!eqI k 2, false), (!qRt k f p n (size7 m) b, false), (qLf k f p n (size7 m) b, true)]

set_option maxRecDepth 100000 in
set_option maxHeartbeats 100000000 in
theorem gr_e1 (k f p n z : Int) (b : Nat → Nat) : probGR (runGR k f p n z b [(0, some true), (0, some true)]) = some ((noCat, none), [(!qRt k f p n z b, true), (qLf k f p n z b, true)]) := by kernel_rfl
set_option maxRecDepth 100000 in
set_option maxHeartbeats 100000000 in
theorem gr_e2 (k f p n z : Int) (b : Nat → Nat) : probGR (runGR k f p n z b [(0, some true), (0, some false), (3, some true)]) = some ((noCat, none), [(!eqI k 2, true), (!qRt k f p n z b, false), (qLf k f p n z b, true)]) := by kernel_rfl
set_option maxRecDepth 100000 in
set_option maxHeartbeats 100000000 in
theorem gr_e3 (k f p n z : Int) (b : Nat → Nat) : probGR (runGR k f p n z b [(0, some true), (0, some false), (3, some false), (3, some true)]) = some ((noCat, none), [(!eqI f 0, true), (!eqI k 2, false), (!qRt k f p n z b, false), (qLf k f p n z b, true)]) := by kernel_rfl
set_option maxRecDepth 100000 in
set_option maxHeartbeats 100000000 in
theorem gr_e4 (k f p n z : Int) (b : Nat → Nat) : probGR (runGR k f p n z b [(0, some true), (0, some false), (3, some false), (3, some false), (3, some true)]) = some ((noCat, none), [(!eqI p 0, true), (!eqI f 0, false), (!eqI k 2, false), (!qRt k f p n z b, false), (qLf k f p n z b, true)]) := by kernel_rfl
set_option maxRecDepth 100000 in
set_option maxHeartbeats 100000000 in
theorem gr_e5 (k f p n z : Int) (b : Nat → Nat) : probGR (runGR k f p n z b [(0, some true), (0, some false), (3, some false), (3, some false), (3, some false), (3, some true)]) = some ((noCat, none), [(!eqI n 0, true), (!eqI p 0, false), (!eqI f 0, false), (!eqI k 2, false), (!qRt k f p n z b, false), (qLf k f p n z b, true)]) := by kernel_rfl
set_option maxRecDepth 100000 in
set_option maxHeartbeats 100000000 in
theorem gr_e6 (k f p n z : Int) (b : Nat → Nat) : probGR (runGR k f p n z b [(0, some true), (0, some false), (3, some false), (3, some false), (3, some false), (3, some false), (3, some true)]) = some ((noCat, none), [(ltI z 17, true), (!eqI n 0, false), (!eqI p 0, false), (!eqI f 0, false), (!eqI k 2, false), (!qRt k f p n z b, false), (qLf k f p n z b, true)]) := by kernel_rfl
set_option maxRecDepth 100000 in
set_option maxHeartbeats 100000000 in
theorem gr_e7 (k f p n z : Int) (b : Nat → Nat) : probGR (runGR k f p n z b [(0, some true), (0, some false), (3, some false), (3, some false), (3, some false), (3, some false), (3, some false), (5, some true)]) = some ((noCat, none), [(!eqI ((wrapA IntKind.i64 (z.sub 17)).tmod 7) 0, true), (ltI z 17, false), (!eqI n 0, false), (!eqI p 0, false), (!eqI f 0, false), (!eqI k 2, false), (!qRt k f p n z b, false), (qLf k f p n z b, true)]) := by kernel_rfl
set_option maxRecDepth 100000 in
set_option maxHeartbeats 100000000 in
theorem g1_e1 (k f p n z : Int) (b : Nat → Nat) : probGR (runG1 k f p n z b [(0, some true), (0, some true)]) = some ((noCat, none), [(!qRt k f p n z b, true), (qLf k f p n z b, true)]) := by kernel_rfl
set_option maxRecDepth 100000 in
set_option maxHeartbeats 100000000 in
theorem g1_e2 (k f p n z : Int) (b : Nat → Nat) : probGR (runG1 k f p n z b [(0, some true), (0, some false), (3, some true)]) = some ((noCat, none), [(ltI z 17, true), (!qRt k f p n z b, false), (qLf k f p n z b, true)]) := by kernel_rfl
set_option maxRecDepth 100000 in
set_option maxHeartbeats 100000000 in
theorem g1_e3 (k f p n z : Int) (b : Nat → Nat) : probGR (runG1 k f p n z b [(0, some true), (0, some false), (3, some false), (5, some true)]) = some ((noCat, none), [(!eqI ((wrapA IntKind.i64 (z.sub 17)).tmod 7) 0, true), (ltI z 17, false), (!qRt k f p n z b, false), (qLf k f p n z b, true)]) := by kernel_rfl
set_option maxRecDepth 100000 in
set_option maxHeartbeats 100000000 in
theorem gr_f1 (k f p n : Int) (b : Nat → Nat) : (List.range 7).map (fun m => probGR (runGR k f p n (size7 (1 + m)) b (toldR (1 + m) [(26 + 10 * (1 + m), some true)]))) = (List.range 7).map (fun m => some ((noCat, none), (ltI 1 (bT b 6), true) :: qR0 k f p n b (1 + m))) := by kernel_rfl
set_option maxRecDepth 100000 in
set_option maxHeartbeats 100000000 in
theorem gr_n1 (k f p n : Int) (b : Nat → Nat) : (List.range 7).map (fun m => probGR (runGR k f p n (size7 (1 + m)) b (toldR (1 + m) [(26 + 10 * (1 + m), some false), (1, some true), (2, some true)]))) = (List.range 7).map (fun m => some ((noCat, none), (!qCatR b (1 + m), true) :: (true, true) :: (ltI 1 (bT b 6), false) :: qR0 k f p n b (1 + m))) := by kernel_rfl
set_option maxRecDepth 100000 in
set_option maxHeartbeats 100000000 in
theorem gr_y1 (k f p n : Int) (b : Nat → Nat) : (List.range 7).map (fun m => probGR (runGR k f p n (size7 (1 + m)) b (toldR (1 + m) [(26 + 10 * (1 + m), some false), (1, some true), (2, some false)]))) = (List.range 7).map (fun m => some ((isCat (catR (bT b) (1 + m)) (adR (1 + m)) (capG (1 + m)), rowR (catR (bT b) (1 + m))), (!qCatR b (1 + m), false) :: (true, true) :: (ltI 1 (bT b 6), false) :: qR0 k f p n b (1 + m))) := by kernel_rfl
set_option maxRecDepth 100000 in
set_option maxHeartbeats 100000000 in
theorem gr_f2 (k f p n : Int) (b : Nat → Nat) : (List.range 7).map (fun m => probGR (runGR k f p n (size7 (8 + m)) b (toldR (8 + m) [(26 + 10 * (8 + m), some true)]))) = (List.range 7).map (fun m => some ((noCat, none), (ltI 1 (bT b 6), true) :: qR0 k f p n b (8 + m))) := by kernel_rfl
set_option maxRecDepth 100000 in
set_option maxHeartbeats 100000000 in
theorem gr_n2 (k f p n : Int) (b : Nat → Nat) : (List.range 7).map (fun m => probGR (runGR k f p n (size7 (8 + m)) b (toldR (8 + m) [(26 + 10 * (8 + m), some false), (1, some true), (2, some true)]))) = (List.range 7).map (fun m => some ((noCat, none), (!qCatR b (8 + m), true) :: (true, true) :: (ltI 1 (bT b 6), false) :: qR0 k f p n b (8 + m))) := by kernel_rfl
set_option maxRecDepth 100000 in
set_option maxHeartbeats 100000000 in
theorem gr_y2 (k f p n : Int) (b : Nat → Nat) : (List.range 7).map (fun m => probGR (runGR k f p n (size7 (8 + m)) b (toldR (8 + m) [(26 + 10 * (8 + m), some false), (1, some true), (2, some false)]))) = (List.range 7).map (fun m => some ((isCat (catR (bT b) (8 + m)) (adR (8 + m)) (capG (8 + m)), rowR (catR (bT b) (8 + m))), (!qCatR b (8 + m), false) :: (true, true) :: (ltI 1 (bT b 6), false) :: qR0 k f p n b (8 + m))) := by kernel_rfl
set_option maxRecDepth 100000 in
set_option maxHeartbeats 100000000 in
theorem gr_f0 (k f p n : Int) (b : Nat → Nat) : (List.range 1).map (fun m => probGR (runGR k f p n (size7 m) b (toldR m [(26, some true)]))) = (List.range 1).map (fun m => some ((noCat, none), (ltI 1 (bT b 6), true) :: qR0 k f p n b m)) := by kernel_rfl
set_option maxRecDepth 100000 in
set_option maxHeartbeats 100000000 in
theorem gr_n0 (k f p n : Int) (b : Nat → Nat) : (List.range 1).map (fun m => probGR (runGR k f p n (size7 m) b (toldR m [(26, some false), (4, some true)]))) = (List.range 1).map (fun m => some ((noCat, none), (!qCatR b m, true) :: (ltI 1 (bT b 6), false) :: qR0 k f p n b m)) := by kernel_rfl
set_option maxRecDepth 100000 in
set_option maxHeartbeats 100000000 in
theorem gr_y0 (k f p n : Int) (b : Nat → Nat) : (List.range 1).map (fun m => probGR (runGR k f p n (size7 m) b (toldR m [(26, some false), (4, some false)]))) = (List.range 1).map (fun m => some ((isCat (catR (bT b) m) none 0, none), (!qCatR b m, false) :: (ltI 1 (bT b 6), false) :: qR0 k f p n b m)) := by kernel_rfl
set_option maxRecDepth 100000 in
set_option maxHeartbeats 100000000 in
theorem g1_n1 (k f p n : Int) (b : Nat → Nat) : (List.range 7).map (fun m => probGR (runG1 k f p n (size7 (1 + m)) b ([(0, some true), (0, some false), (26 + 10 * (1 + m), some true), (0, some true), (0, some true)]))) = (List.range 7).map (fun m => some ((noCat, none), (eqB false (qPutG k f p n b (1 + m)), true) :: ((qPutG k f p n b (1 + m)).isSome, true) :: (true, true) :: [(!qRt k f p n (size7 (1 + m)) b, false), (qLf k f p n (size7 (1 + m)) b, true)])) := by kernel_rfl
set_option maxRecDepth 100000 in
set_option maxHeartbeats 100000000 in
theorem g1_y1 (k f p n : Int) (b : Nat → Nat) : (List.range 7).map (fun m => probGR (runG1 k f p n (size7 (1 + m)) b ([(0, some true), (0, some false), (26 + 10 * (1 + m), some true), (0, some true), (0, some false)]))) = (List.range 7).map (fun m => some ((isCat (catG (bT b) (1 + m)) (adP (1 + m)) (capG (1 + m)), rowR (catG (bT b) (1 + m))), (eqB false (qPutG k f p n b (1 + m)), false) :: ((qPutG k f p n b (1 + m)).isSome, true) :: (true, true) :: [(!qRt k f p n (size7 (1 + m)) b, false), (qLf k f p n (size7 (1 + m)) b, true)])) := by kernel_rfl
set_option maxRecDepth 100000 in
set_option maxHeartbeats 100000000 in
theorem g1_n2 (k f p n : Int) (b : Nat → Nat) : (List.range 7).map (fun m => probGR (runG1 k f p n (size7 (8 + m)) b ([(0, some true), (0, some false), (26 + 10 * (8 + m), some true), (0, some true), (0, some true)]))) = (List.range 7).map (fun m => some ((noCat, none), (eqB false (qPutG k f p n b (8 + m)), true) :: ((qPutG k f p n b (8 + m)).isSome, true) :: (true, true) :: [(!qRt k f p n (size7 (8 + m)) b, false), (qLf k f p n (size7 (8 + m)) b, true)])) := by kernel_rfl
set_option maxRecDepth 100000 in
set_option maxHeartbeats 100000000 in
theorem g1_y2 (k f p n : Int) (b : Nat → Nat) : (List.range 7).map (fun m => probGR (runG1 k f p n (size7 (8 + m)) b ([(0, some true), (0, some false), (26 + 10 * (8 + m), some true), (0, some true), (0, some false)]))) = (List.range 7).map (fun m => some ((isCat (catG (bT b) (8 + m)) (adP (8 + m)) (capG (8 + m)), rowR (catG (bT b) (8 + m))), (eqB false (qPutG k f p n b (8 + m)), false) :: ((qPutG k f p n b (8 + m)).isSome, true) :: (true, true) :: [(!qRt k f p n (size7 (8 + m)) b, false), (qLf k f p n (size7 (8 + m)) b, true)])) := by kernel_rfl
set_option maxRecDepth 100000 in
set_option maxHeartbeats 100000000 in
theorem g1_n0 (k f p n : Int) (b : Nat → Nat) : (List.range 1).map (fun m => probGR (runG1 k f p n (size7 m) b ([(0, some true), (0, some false), (27, some true), (0, some true)]))) = (List.range 1).map (fun m => some ((noCat, none), (eqB false (qPutG k f p n b m), true) :: ((qPutG k f p n b m).isSome, true) :: [(!qRt k f p n (size7 m) b, false), (qLf k f p n (size7 m) b, true)])) := by kernel_rfl
set_option maxRecDepth 100000 in
set_option maxHeartbeats 100000000 in
theorem g1_y0 (k f p n : Int) (b : Nat → Nat) : (List.range 1).map (fun m => probGR (runG1 k f p n (size7 m) b ([(0, some true), (0, some false), (27, some true), (0, some false)]))) = (List.range 1).map (fun m => some ((isCat (catG (bT b) m) none 0, none), (eqB false (qPutG k f p n b m), false) :: ((qPutG k f p n b m).isSome, true) :: [(!qRt k f p n (size7 m) b, false), (qLf k f p n (size7 m) b, true)])) := by kernel_rfl
end Go.Proofs.YtgofanjbhbeniaaDoor.lf
end
end

section
/- Catalogs: what is read out of a leaf, put in again, is the leaf. -/
noncomputable section
namespace Go.Proofs.YtgofanjbhbeniaaDoor.lf
open AE
set_option linter.unusedSimpArgs false
set_option linter.unusedVariables false
set_option maxRecDepth 10000

/-- letters that are bytes -/
def ByteF (b : Nat → Nat) : Prop := ∀ k, b k < 256
def bI (b : Nat → Nat) (k : Nat) : Int := .ofNat (b k)
theorem tk4_val (b : Nat → Nat) (h : ByteF b) (k : Nat) : tk4 (bI b) k = .ofNat (b k + b (k + 1) * 256 + b (k + 2) * 65536 + b (k + 3) * 16777216) := by
  have h0 := h k
  have h1 := h (k + 1)
  have h2 := h (k + 2)
  have h3 := h (k + 3)
  unfold tk4 bI
  have e0 : (0 : Int) = Int.ofNat 0 := rfl
  rw [e0, orV_nat 0 _ 0 (by omega) h0 (by decide)]
  rw [orV_nat _ _ 1 (by omega) h1 (by simp; omega)]
  rw [orV_nat _ _ 2 (by omega) h2 (by simp; omega)]
  rw [orV_nat _ _ 3 (by omega) h3 (by simp; omega)]
  congr 1
  simp
theorem tk2_val (b : Nat → Nat) (h : ByteF b) (k : Nat) : tk2 (bI b) k = .ofNat (b k + b (k + 1) * 256) := by
  have h0 := h k
  have h1 := h (k + 1)
  unfold tk2 bI
  have e0 : (0 : Int) = Int.ofNat 0 := rfl
  rw [e0, orV_nat 0 _ 0 (by omega) h0 (by decide)]
  rw [orV_nat _ _ 1 (by omega) h1 (by simp; omega)]
  congr 1
  simp
theorem low4_tk (b : Nat → Nat) (h : ByteF b) (k : Nat) : low4 (tk4 (bI b) k) = bytesB (bI b) 4 k := by
  have h0 := h k
  have h1 := h (k + 1)
  have h2 := h (k + 2)
  have h3 := h (k + 3)
  rw [tk4_val b h]
  unfold low4
  simp only [lowV_nat, bytesB, bI]
  have e0 : (b k + b (k + 1) * 256 + b (k + 2) * 65536 + b (k + 3) * 16777216) / 2 ^ (8 * 0) % 256 = b k := by simp; omega
  have e1 : (b k + b (k + 1) * 256 + b (k + 2) * 65536 + b (k + 3) * 16777216) / 2 ^ (8 * 1) % 256 = b (k + 1) := by simp; omega
  have e2 : (b k + b (k + 1) * 256 + b (k + 2) * 65536 + b (k + 3) * 16777216) / 2 ^ (8 * 2) % 256 = b (k + 2) := by simp; omega
  have e3 : (b k + b (k + 1) * 256 + b (k + 2) * 65536 + b (k + 3) * 16777216) / 2 ^ (8 * 3) % 256 = b (k + 3) := by simp; omega
  rw [e0, e1, e2, e3]
theorem low2_tk (b : Nat → Nat) (h : ByteF b) (k : Nat) : low2 (tk2 (bI b) k) = bytesB (bI b) 2 k := by
  have h0 := h k
  have h1 := h (k + 1)
  rw [tk2_val b h]
  unfold low2
  simp only [lowV_nat, bytesB, bI]
  have e0 : (b k + b (k + 1) * 256) / 2 ^ (8 * 0) % 256 = b k := by simp; omega
  have e1 : (b k + b (k + 1) * 256) / 2 ^ (8 * 1) % 256 = b (k + 1) := by simp; omega
  rw [e0, e1]
theorem u8_i64 (b : Nat → Nat) (h : ByteF b) (k : Nat) : u8V (i64 (bI b k)) = .int .u8 (bI b k) := by
  have h0 := h k
  unfold u8V i64 bI
  rw [wr64 _ (by omega), u8_nat, Nat.mod_eq_of_lt h0]
theorem bytesB_add (b : Nat → Int) : ∀ (n m k : Nat), bytesB b (n + m) k = bytesB b n k ++ bytesB b m (k + n)
  | 0, m, k => by rw [Nat.zero_add, Nat.add_zero]; rfl
  | n + 1, m, k => by
    rw [show n + 1 + m = (n + m) + 1 by omega]
    simp only [bytesB]
    rw [bytesB_add b n m (k + 1), show k + 1 + n = k + (n + 1) by omega]
    rfl
theorem files_back (b : Nat → Nat) (h : ByteF b) : ∀ (m k : Nat), filesV (filesG (bI b) m k) = bytesB (bI b) (7 * m) k
  | 0, k => rfl
  | m + 1, k => by
    rw [show 7 * (m + 1) = 7 + 7 * m by omega, bytesB_add]
    simp only [filesG, filesV]
    rw [files_back b h m (k + 7)]
    congr 1
    unfold fileV fileG
    simp only
    rw [u8_i64 b h, low2_tk b h, low2_tk b h, low2_tk b h]
    rfl
theorem filesG_len (b : Nat → Int) : ∀ (m k : Nat), (filesG b m k).length = m
  | 0, k => rfl
  | m + 1, k => by simp only [filesG, List.length_cons, filesG_len b m (k + 7)]
theorem enc_back (b : Nat → Nat) (h : ByteF b) (h6 : b 6 ≤ 1) (m : Nat) : encV (catG (bI b) m) = bytesB (bI b) (17 + 7 * m) 0 := by
  have he : endV (eqI (bI b 6) 1) = .int .u8 (bI b 6) := by
    unfold bI
    have : b 6 = 0 ∨ b 6 = 1 := by omega
    rcases this with e | e <;> rw [e] <;> rfl
  unfold encV catG
  simp only
  rw [low4_tk b h, low4_tk b h, low4_tk b h, u8_i64 b h, u8_i64 b h, u8_i64 b h, u8_i64 b h, he, files_back b h, bytesB_add (bI b) 17 (7 * m) 0]
  rfl
/-- the letters of a leaf -/
def ltr (d : LeafD) (k : Nat) : Nat := (d.load.getD k 0).toNat
theorem ltr_byte (d : LeafD) : ByteF (ltr d) := fun k => (d.load.getD k 0).toNat_lt
theorem bytesB_load (d : LeafD) : ∀ (n k : Nat), k + n ≤ d.load.length → bytesB (bI (ltr d)) n k = ((d.load.drop k).take n).map bv
  | 0, k, _ => by simp [bytesB]
  | n + 1, k, h => by
    have hk : k < d.load.length := by omega
    simp only [bytesB]
    rw [bytesB_load d n (k + 1) (by omega), List.drop_eq_getElem_cons hk, List.take_succ_cons, List.map_cons]
    congr 1
    unfold bI ltr bv
    rw [List.getD_eq_getElem?_getD, List.getElem?_eq_getElem hk]
    rfl
theorem noughts_map (l : List UInt8) (h : noughts l = true) : l.map bv = zerosV l.length := by
  have hz := (lead_all l).1 (beq_iff.1 h)
  induction l with
  | nil => rfl
  | cons x l ih =>
    have hx : x = 0 := hz 0 x rfl
    have hl : ∀ (j : Nat) (y : UInt8), l[j]? = some y → y = 0 := fun j y hy => hz (j + 1) y (by simpa using hy)
    simp only [List.map_cons, List.length_cons, zerosV]
    rw [ih (beq_iff.2 ((lead_all l).2 hl)) hl, hx]
    rfl
/-- a leaf that says a right catalog is that catalog's -/
theorem leaf_back (d : LeafD) (hl : d.load.length = 116) (m : Nat) (hm : m ≤ 14) (hk : d.kind = 2) (hf : d.file = 0) (hp : d.place = 0) (hn : d.next = 0) (hs : d.size = .ofNat (17 + 7 * m)) (hR : rightL d = true) (h6 : ltr d 6 ≤ 1) : d.cells = putV_ (catG (bI (ltr d)) m) := by
  have hz : noughts (d.load.drop (17 + 7 * m)) = true := by
    unfold rightL at hR
    simp only [Bool.and_eq_true] at hR
    have := hR.2
    rw [hs] at this
    exact this
  have hfl : (catG (bI (ltr d)) m).files.length = m := filesG_len _ m 17
  unfold putV_ LeafD.cells
  rw [hk, hf, hp, hn, hs, hfl, enc_back _ (ltr_byte d) h6, bytesB_load d (17 + 7 * m) 0 (by omega), List.drop_zero]
  congr 1
  have e := noughts_map _ hz
  rw [List.length_drop, hl, show 116 - (17 + 7 * m) = 99 - 7 * m by omega] at e
  rw [← e, ← List.map_append, List.take_append_drop]
theorem cells_inj {d e : LeafD} (hd : d.load.length = 116) (he : e.load.length = 116) (h : d.cells = e.cells) : d = e := by
  have h1 := leafOf_cells d hd
  have h2 := leafOf_cells e he
  rw [h, h2] at h1
  exact (Option.some.inj h1).symm
theorem ltr_enc (D : CatD) (hl : D.files.length ≤ 14) : ∀ k, k < 116 → bI (ltr (leafD D)) k = bOf (encV D ++ zerosV (99 - 7 * D.files.length)) k := by
  intro k hk
  have hlen : (encV D ++ zerosV (99 - 7 * D.files.length)).length = 116 := by rw [List.length_append, encV_len, zerosV_len]; omega
  obtain ⟨v, hv⟩ : ∃ v, (encV D ++ zerosV (99 - 7 * D.files.length))[k]? = some v := ⟨_, List.getElem?_eq_getElem (by omega)⟩
  obtain ⟨c, hc, rfl⟩ := (UB.app (ub_enc D) (ub_zeros _)) v (List.mem_of_getElem? hv)
  unfold bI ltr bOf
  rw [hv]
  show Int.ofNat (((encV D ++ zerosV (99 - 7 * D.files.length)).map toB).getD k 0).toNat = Int.ofNat c
  rw [List.getD_eq_getElem?_getD, List.getElem?_map, hv]
  show Int.ofNat (toB (.int .u8 (.ofNat c))).toNat = _
  unfold toB
  show Int.ofNat (UInt8.ofNat c).toNat = _
  rw [UInt8.toNat_ofNat', Nat.mod_eq_of_lt (by simpa using hc)]
theorem filesG_same (b b' : Nat → Int) : ∀ (m k : Nat), (∀ j, j < k + 7 * m → b j = b' j) → filesG b m k = filesG b' m k
  | 0, k, _ => rfl
  | m + 1, k, h => by
    simp only [filesG]
    rw [filesG_same b b' m (k + 7) (fun j hj => h j (by omega))]
    congr 1
    unfold fileG tk2
    rw [h k (by omega), h (k + 1) (by omega), h (k + 1 + 1) (by omega), h (k + 3) (by omega), h (k + 3 + 1) (by omega), h (k + 5) (by omega), h (k + 5 + 1) (by omega)]
theorem catG_same (b b' : Nat → Int) (m : Nat) (h : ∀ j, j < 17 + 7 * m → b j = b' j) : catG b m = catG b' m := by
  unfold catG tk4
  rw [filesG_same b b' m 17 h]
  rw [h 0 (by omega), h (0 + 1) (by omega), h (0 + 2) (by omega), h (0 + 3) (by omega), h 4 (by omega), h 5 (by omega), h 6 (by omega), h 7 (by omega), h 8 (by omega), h 9 (by omega), h (9 + 1) (by omega), h (9 + 2) (by omega), h (9 + 3) (by omega), h 13 (by omega), h (13 + 1) (by omega), h (13 + 2) (by omega), h (13 + 3) (by omega)]
/-- the leaf of a right catalog says it -/
theorem leaf_says (D : CatD) (h : D.right = true) : catG (bI (ltr (leafD D))) D.files.length = D := by
  have hl := right_len h
  rw [catG_same _ (bOf (encV D ++ zerosV (99 - 7 * D.files.length))) _ (fun j hj => ltr_enc D hl j (by omega))]
  exact catG_enc D h _
theorem leaf_b6 (D : CatD) (hl : D.files.length ≤ 14) : ltr (leafD D) 6 ≤ 1 := by
  have h := ltr_enc D hl 6 (by omega)
  have e : bOf (encV D ++ zerosV (99 - 7 * D.files.length)) 6 = bOf [endV D.ended] 0 := rfl
  rw [e] at h
  unfold bI at h
  cases hen : D.ended
  · rw [hen] at h
    have h2 : Int.ofNat (ltr (leafD D) 6) = Int.ofNat 0 := h
    have := Int.ofNat.inj h2
    omega
  · rw [hen] at h
    have h2 : Int.ofNat (ltr (leafD D) 6) = Int.ofNat 1 := h
    have := Int.ofNat.inj h2
    omega
end Go.Proofs.YtgofanjbhbeniaaDoor.lf
end
end
