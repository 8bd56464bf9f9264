/- Leaves: the document's leaf of a block: its run. -/
import Derived.Test.YtdkieabjjmhdlaaDoorMRowLeafTells3
import Derived.Test.YtdkieabjjmhdlaaDoorAe41
section
/- Leaves: whether a leaf may be, as the document has it: told. (printed by wip/gen/lt0.py) -/
noncomputable section
namespace Go.Proofs.YtdkieabjjmhdlaaDoor.lf
open AE
set_option linter.unusedSimpArgs false
set_option linter.unusedVariables false
set_option maxRecDepth 10000

def rightRA : List Value → AM Value
  | [.agg ⟨cs⟩] => opt (leafOf cs) fun d => bump 1 (.pure (.bool (rightL d)))
  | _ => .fail
noncomputable def fiRR : FI := FI.of Tryd.f10
noncomputable def cdRR : Code := bodyOf Tryd.f10
noncomputable def cdRRl : Code := sub [1,0,1,0,0] cdRR
theorem resRR : fiRR.results = [.tmp 2] := rfl
/-- the first place from which noughts are looked for -/
def fromZ (d : LeafD) : Nat := d.size.toNat
def InvRR (d : LeafD) (n : Nat) (s0 : S) (k : Nat) (fr : Fr) (s : S) : Prop :=
  ∃ (i : Nat) (t : Tr Value), k = 116 - i ∧ fromZ d ≤ i ∧ fr = ⟨10, t, 64, [], none⟩ ∧ Rd s0 s ∧ t.get 1 = some (.pointer (some ⟨n, 0, none⟩)) ∧ t.get 3 = some (.int .i64 (.ofNat i)) ∧
    (∀ (j : Nat), fromZ d ≤ j → j < i → j < 116 → d.load[j]? = some 0)
def PostRR (d : LeafD) (n : Nat) (s0 : S) (x : Ex) (fr : Fr) (s : S) : Prop :=
  ∃ t : Tr Value, fr = ⟨10, t, 64, [], none⟩ ∧ Rd s0 s ∧ ((x = .exit 0 ∧ t.get 1 = some (.pointer (some ⟨n, 0, none⟩)) ∧ ∀ (j : Nat), fromZ d ≤ j → j < 116 → d.load[j]? = some 0) ∨
    (x = .ret ∧ t.get 2 = some (.bool false) ∧ ∃ (j : Nat) (y : UInt8), fromZ d ≤ j ∧ j < 116 ∧ d.load[j]? = some y ∧ y ≠ 0))
theorem LfAt.getB {s : S} {n : Nat} {d : LeafD} (h : LfAt s n d) (k : Nat) (x : UInt8) (hk : d.load[k]? = some x) : (loadT tiU8 ⟨n, 5 + k, none⟩ AE.val).run s = some (.value (.int .u8 (.ofNat x.toNat)), s.seen n) := by
  obtain ⟨c, e, rm, h1, h2⟩ := h.cell
  have hlt := (List.getElem?_eq_some_iff.1 hk).1
  rw [h.len] at hlt
  have h3 : d.cells[5 + k]? = some (.int .u8 (.ofNat x.toNat)) := by
    unfold LeafD.cells
    rw [List.getElem?_append_right (by simp), show 5 + k - ([Value.int .i64 d.kind, .int .i64 d.file, .int .i64 d.place, .int .i64 d.next, .int .i64 d.size] : List Value).length = k by simp, List.getElem?_map, hk]
    rfl
  exact cell_load tiU8 (by rw [dsU8]; rfl) h.lt h1 (by omega) (by have := h2 (5 + k) _ h3; rwa [Nat.zero_add] at this)
theorem add5 (n k : Nat) : addA ⟨n, 5, none⟩ k = ⟨n, 5 + k, none⟩ := sum.addA_eq ⟨n, 5, none⟩ k rfl
theorem byte_ne {x : UInt8} : (not (eqI (Int.ofNat x.toNat) (Int.ofNat 0))) = decide (x ≠ 0) := by
  rw [eqI_eq]
  by_cases h : x = 0
  · subst h; rfl
  · have : x.toNat ≠ 0 := fun e => h (by
      have := congrArg UInt8.ofNat e
      simpa using this)
    have e2 : ¬ (Int.ofNat x.toNat = Int.ofNat 0) := fun e => this (by simpa using e)
    rw [decide_eq_false e2, decide_eq_true h]
    rfl
theorem rightR_round (d : LeafD) (n : Nat) (s0 : S) (h3 : LfAt s0 n d) (k : Nat) (fr : Fr) (s : S) (h : InvRR d n s0 k fr s) : GoC E (sumsOf []) cdRRl fr s (Again (InvRR d n s0) k (PostRR d n s0)) := by
  obtain ⟨i, t, hk, hi, rfl, hr, g1, g3, hall⟩ := h
  simp only [cdRRl, cdRR, Tryd.f10, bodyOf, sub]
  have i116 : (116 : Int) = Int.ofNat 116 := rfl
  by_cases hlt : i < 116
  · obtain ⟨x, hx⟩ : ∃ x, d.load[i]? = some x := ⟨_, List.getElem?_eq_getElem (by rw [h3.len]; exact hlt)⟩
    have hlt' : ltI (Int.ofNat i) (Int.ofNat 116) = true := by rw [ltI_eq]; simp; omega
    have hb : Nat.blt i 116 = true := blt_iff.2 hlt
    have hld := (h3.rd hr).getB i x hx
    have hinc := b_incr (n := i) (by omega)
    repeat apply go_seq
    apply go_region
    case h => intro m; simp (maxSteps := 2000000) (disch := decide) only [opsLoop, evOper, wantedA, nth, aop, aPick, aBin, aIndexAddr, aFieldAddr, aLoad, aStore, aExtract, aConvert, aAlloc, aBox, aIndex, callA, builtinA, Fr.evs, opt, val, when, AM.run, outV, newA, ptr, force_eq, seen_heap, seen_next, seen_mark, seen_seen, agg_cells, int_cells, Fr.ev, Fr.put, onFr, gps, gpn, bltT, still, flat, List.append_nil, List.nil_append, List.cons_append, Nat.reduceEqDiff, ne_eq, not_false_eq_true, reduceCtorEq, Bool.and_true, Bool.true_and, Bool.and_false, Bool.false_and, Bool.not_true, Bool.not_false, Bool.and_self, g3, b_lss, i116, hlt']; rfl
    repeat apply go_seq
    apply go_cond
    case hc => simp (disch := decide) only [opsLoop, evOper, wantedA, nth, aop, aPick, aBin, aIndexAddr, aFieldAddr, aLoad, aStore, aExtract, aConvert, aAlloc, aBox, aIndex, callA, builtinA, Fr.evs, opt, val, when, AM.run, outV, newA, ptr, force_eq, seen_heap, seen_next, seen_mark, seen_seen, agg_cells, int_cells, Fr.ev, Fr.put, onFr, gps, gpn, bltT, still, flat, List.append_nil, List.nil_append, List.cons_append, Nat.reduceEqDiff, ne_eq, not_false_eq_true, reduceCtorEq, Bool.and_true, Bool.true_and, Bool.and_false, Bool.false_and, Bool.not_true, Bool.not_false, Bool.and_self]; rfl
    case h2 => intro h; cases h
    intro _
    apply go_skip
    apply go_seq
    apply go_block
    by_cases hx0 : x = 0
    · have hq : (not (eqI (Int.ofNat x.toNat) (Int.ofNat 0))) = false := by rw [byte_ne]; simp [hx0]
      repeat apply go_seq
      apply go_region
      case h => intro m; simp (maxSteps := 2000000) (disch := decide) only [opsLoop, evOper, wantedA, nth, aop, aPick, aBin, aIndexAddr, aFieldAddr, aLoad, aStore, aExtract, aConvert, aAlloc, aBox, aIndex, callA, builtinA, Fr.evs, opt, val, when, AM.run, outV, newA, ptr, force_eq, seen_heap, seen_next, seen_mark, seen_seen, agg_cells, int_cells, Fr.ev, Fr.put, onFr, gps, gpn, bltT, still, flat, List.append_nil, List.nil_append, List.cons_append, Nat.reduceEqDiff, ne_eq, not_false_eq_true, reduceCtorEq, Bool.and_true, Bool.true_and, Bool.and_false, Bool.false_and, Bool.not_true, Bool.not_false, Bool.and_self, g1, g3, tyLf, dsLf, fl5, ft5, fo5, tyA, dsA, szA, ble1A, tyU8, szU8, hb, mul1, ad5, add5, hld, b_neq8, int0, hq]; rfl
      repeat apply go_seq
      apply go_cond
      case hc => simp (disch := decide) only [opsLoop, evOper, wantedA, nth, aop, aPick, aBin, aIndexAddr, aFieldAddr, aLoad, aStore, aExtract, aConvert, aAlloc, aBox, aIndex, callA, builtinA, Fr.evs, opt, val, when, AM.run, outV, newA, ptr, force_eq, seen_heap, seen_next, seen_mark, seen_seen, agg_cells, int_cells, Fr.ev, Fr.put, onFr, gps, gpn, bltT, still, flat, List.append_nil, List.nil_append, List.cons_append, Nat.reduceEqDiff, ne_eq, not_false_eq_true, reduceCtorEq, Bool.and_true, Bool.true_and, Bool.and_false, Bool.false_and, Bool.not_true, Bool.not_false, Bool.and_self]; rfl
      case h1 => intro h; cases h
      intro _
      apply go_skip
      repeat apply go_seq
      apply go_region
      case h => intro m; simp (maxSteps := 2000000) (disch := decide) only [opsLoop, evOper, wantedA, nth, aop, aPick, aBin, aIndexAddr, aFieldAddr, aLoad, aStore, aExtract, aConvert, aAlloc, aBox, aIndex, callA, builtinA, Fr.evs, opt, val, when, AM.run, outV, newA, ptr, force_eq, seen_heap, seen_next, seen_mark, seen_seen, agg_cells, int_cells, Fr.ev, Fr.put, onFr, gps, gpn, bltT, still, flat, List.append_nil, List.nil_append, List.cons_append, Nat.reduceEqDiff, ne_eq, not_false_eq_true, reduceCtorEq, Bool.and_true, Bool.true_and, Bool.and_false, Bool.false_and, Bool.not_true, Bool.not_false, Bool.and_self, g3, int1, hinc]; rfl
      refine ⟨116 - (i + 1), by omega, i + 1, _, rfl, by omega, rfl, hr.trans (Rd.seen s n), ?_, ?_, ?_⟩
      · simp (disch := decide) only [gps, gpn, g1]
      · simp (disch := decide) only [gps, gpn, g3]
      · intro j hj hj2 hj3
        by_cases e : j = i
        · subst e; rw [hx, hx0]
        · exact hall j hj (by omega) hj3
    · have hq : (not (eqI (Int.ofNat x.toNat) (Int.ofNat 0))) = true := by rw [byte_ne]; simp [hx0]
      repeat apply go_seq
      apply go_region
      case h => intro m; simp (maxSteps := 2000000) (disch := decide) only [opsLoop, evOper, wantedA, nth, aop, aPick, aBin, aIndexAddr, aFieldAddr, aLoad, aStore, aExtract, aConvert, aAlloc, aBox, aIndex, callA, builtinA, Fr.evs, opt, val, when, AM.run, outV, newA, ptr, force_eq, seen_heap, seen_next, seen_mark, seen_seen, agg_cells, int_cells, Fr.ev, Fr.put, onFr, gps, gpn, bltT, still, flat, List.append_nil, List.nil_append, List.cons_append, Nat.reduceEqDiff, ne_eq, not_false_eq_true, reduceCtorEq, Bool.and_true, Bool.true_and, Bool.and_false, Bool.false_and, Bool.not_true, Bool.not_false, Bool.and_self, g1, g3, tyLf, dsLf, fl5, ft5, fo5, tyA, dsA, szA, ble1A, tyU8, szU8, hb, mul1, ad5, add5, hld, b_neq8, int0, hq]; rfl
      repeat apply go_seq
      apply go_cond
      case hc => simp (disch := decide) only [opsLoop, evOper, wantedA, nth, aop, aPick, aBin, aIndexAddr, aFieldAddr, aLoad, aStore, aExtract, aConvert, aAlloc, aBox, aIndex, callA, builtinA, Fr.evs, opt, val, when, AM.run, outV, newA, ptr, force_eq, seen_heap, seen_next, seen_mark, seen_seen, agg_cells, int_cells, Fr.ev, Fr.put, onFr, gps, gpn, bltT, still, flat, List.append_nil, List.nil_append, List.cons_append, Nat.reduceEqDiff, ne_eq, not_false_eq_true, reduceCtorEq, Bool.and_true, Bool.true_and, Bool.and_false, Bool.false_and, Bool.not_true, Bool.not_false, Bool.and_self]; rfl
      case h2 => intro h; cases h
      intro _
      repeat apply go_seq
      apply go_region
      case h => intro m; simp (maxSteps := 2000000) (disch := decide) only [opsLoop, evOper, wantedA, nth, aop, aPick, aBin, aIndexAddr, aFieldAddr, aLoad, aStore, aExtract, aConvert, aAlloc, aBox, aIndex, callA, builtinA, Fr.evs, opt, val, when, AM.run, outV, newA, ptr, force_eq, seen_heap, seen_next, seen_mark, seen_seen, agg_cells, int_cells, Fr.ev, Fr.put, onFr, gps, gpn, bltT, still, flat, List.append_nil, List.nil_append, List.cons_append, Nat.reduceEqDiff, ne_eq, not_false_eq_true, reduceCtorEq, Bool.and_true, Bool.true_and, Bool.and_false, Bool.false_and, Bool.not_true, Bool.not_false, Bool.and_self]; rfl
      apply go_ret
      refine ⟨_, rfl, hr.trans (Rd.seen s n), .inr ⟨rfl, ?_, i, x, hi, hlt, hx, hx0⟩⟩
      simp (disch := decide) only [gps, gpn]
  · have hlt' : ltI (Int.ofNat i) (Int.ofNat 116) = false := by rw [ltI_eq]; simp; omega
    repeat apply go_seq
    apply go_region
    case h => intro m; simp (maxSteps := 2000000) (disch := decide) only [opsLoop, evOper, wantedA, nth, aop, aPick, aBin, aIndexAddr, aFieldAddr, aLoad, aStore, aExtract, aConvert, aAlloc, aBox, aIndex, callA, builtinA, Fr.evs, opt, val, when, AM.run, outV, newA, ptr, force_eq, seen_heap, seen_next, seen_mark, seen_seen, agg_cells, int_cells, Fr.ev, Fr.put, onFr, gps, gpn, bltT, still, flat, List.append_nil, List.nil_append, List.cons_append, Nat.reduceEqDiff, ne_eq, not_false_eq_true, reduceCtorEq, Bool.and_true, Bool.true_and, Bool.and_false, Bool.false_and, Bool.not_true, Bool.not_false, Bool.and_self, g3, b_lss, i116, hlt']; rfl
    repeat apply go_seq
    apply go_cond
    case hc => simp (disch := decide) only [opsLoop, evOper, wantedA, nth, aop, aPick, aBin, aIndexAddr, aFieldAddr, aLoad, aStore, aExtract, aConvert, aAlloc, aBox, aIndex, callA, builtinA, Fr.evs, opt, val, when, AM.run, outV, newA, ptr, force_eq, seen_heap, seen_next, seen_mark, seen_seen, agg_cells, int_cells, Fr.ev, Fr.put, onFr, gps, gpn, bltT, still, flat, List.append_nil, List.nil_append, List.cons_append, Nat.reduceEqDiff, ne_eq, not_false_eq_true, reduceCtorEq, Bool.and_true, Bool.true_and, Bool.and_false, Bool.false_and, Bool.not_true, Bool.not_false, Bool.and_self]; rfl
    case h1 => intro h; cases h
    intro _
    apply go_exit
    refine ⟨_, rfl, hr, .inl ⟨rfl, ?_, fun j hj hj2 => hall j hj (by omega) hj2⟩⟩
    simp (disch := decide) only [gps, gpn, g1]
theorem noughts_iff (d : LeafD) (hlen : d.load.length = 116) : noughts (d.load.drop d.size.toNat) = true ↔ ∀ (j : Nat), fromZ d ≤ j → j < 116 → d.load[j]? = some 0 := by
  unfold noughts
  rw [beq_iff, lead_all]
  constructor
  · intro h j hj hj2
    obtain ⟨x, hx⟩ : ∃ x, d.load[j]? = some x := ⟨_, List.getElem?_eq_getElem (by rw [hlen]; exact hj2)⟩
    have hd : (d.load.drop d.size.toNat)[j - d.size.toNat]? = some x := by
      rw [List.getElem?_drop, show d.size.toNat + (j - d.size.toNat) = j by unfold fromZ at hj; omega]
      exact hx
    rw [hx, h _ _ hd]
  · intro h j x hx
    rw [List.getElem?_drop] at hx
    have hlt := (List.getElem?_eq_some_iff.1 hx).1
    rw [hlen] at hlt
    have := h (d.size.toNat + j) (by unfold fromZ; omega) hlt
    rw [hx] at this
    exact Option.some.inj this
/-- the document's chain of questions -/
theorem chain_right (d : LeafD) (hn : noughts (d.load.drop d.size.toNat) = true) :
    rightL d = ((!ltI d.kind 1) && (!ltI 2 d.kind) && (!ltI d.file 0) && ltI d.file 65536 && (!ltI d.place 0) && ltI d.place 65536 && (!ltI d.next 0) && ltI d.next 65536 && (!ltI d.size 0) && (!ltI 116 d.size)) := by
  have hw : ∀ x : Int, ltI x 65536 = !ltI 65535 x := by
    intro x
    rw [ltI_eq, ltI_not]
    by_cases h : x < 65536
    · rw [decide_eq_true h, decide_eq_true (by omega)]
    · rw [decide_eq_false h, decide_eq_false (by omega)]
  unfold rightL wi
  rw [hn, hw, hw, hw]
  simp only [Bool.and_assoc]
  cases (!ltI d.kind 1) <;> cases (!ltI 2 d.kind) <;> simp [Bool.and_assoc]

noncomputable def cdRRt : Code := sub [1,1] cdRR
set_option maxHeartbeats 4000000 in
theorem rightR_tail (d : LeafD) (n : Nat) (s : S) (h3 : LfAt s n d) (t : Tr Value) (g1 : t.get 1 = some (.pointer (some ⟨n, 0, none⟩))) (c1 c2 c3 c4 c5 c6 c7 c8 c9 c10 : Bool)
    (e1 : ∀ E t, binA E .geq t (.int .i64 d.kind) (.int .i64 1) = some (.bool c1))
    (e2 : ∀ E t, binA E .leq t (.int .i64 d.kind) (.int .i64 2) = some (.bool c2))
    (e3 : ∀ E t, binA E .geq t (.int .i64 d.file) (.int .i64 0) = some (.bool c3))
    (e4 : ∀ E t, binA E .lss t (.int .i64 d.file) (.int .i64 65536) = some (.bool c4))
    (e5 : ∀ E t, binA E .geq t (.int .i64 d.place) (.int .i64 0) = some (.bool c5))
    (e6 : ∀ E t, binA E .lss t (.int .i64 d.place) (.int .i64 65536) = some (.bool c6))
    (e7 : ∀ E t, binA E .geq t (.int .i64 d.next) (.int .i64 0) = some (.bool c7))
    (e8 : ∀ E t, binA E .lss t (.int .i64 d.next) (.int .i64 65536) = some (.bool c8))
    (e9 : ∀ E t, binA E .geq t (.int .i64 d.size) (.int .i64 0) = some (.bool c9))
    (e10 : ∀ E t, binA E .leq t (.int .i64 d.size) (.int .i64 116) = some (.bool c10)) (Q : Value → S → Prop) (hQ : Q (.bool (c1 && c2 && c3 && c4 && c5 && c6 && c7 && c8 && c9 && c10)) (s.seen n)) :
    GoC E (sumsOf []) cdRRt ⟨10, t, 64, [], none⟩ s (Ret E 10 fiRR Q) := by
  have l0 := h3.get 0 (.int .i64 d.kind) rfl
  have k0 := (h3.rd (Rd.seen s n)).get 0 (.int .i64 d.kind) rfl
  have k1 := (h3.rd (Rd.seen s n)).get 1 (.int .i64 d.file) rfl
  have k2 := (h3.rd (Rd.seen s n)).get 2 (.int .i64 d.place) rfl
  have k3 := (h3.rd (Rd.seen s n)).get 3 (.int .i64 d.next) rfl
  have k4 := (h3.rd (Rd.seen s n)).get 4 (.int .i64 d.size) rfl
  rw [seen_seen] at k0 k1 k2 k3 k4
  simp only [cdRRt, cdRR, Tryd.f10, bodyOf, sub]
  cases c1
  · repeat apply go_seq
    apply go_region
    case h => intro m; simp (maxSteps := 2000000) (disch := decide) only [opsLoop, evOper, wantedA, nth, aop, aPick, aBin, aIndexAddr, aFieldAddr, aLoad, aStore, aExtract, aConvert, aAlloc, aBox, aIndex, callA, builtinA, Fr.evs, opt, val, when, AM.run, outV, newA, ptr, force_eq, seen_heap, seen_next, seen_mark, seen_seen, agg_cells, int_cells, Fr.ev, Fr.put, onFr, gps, gpn, bltT, still, flat, List.append_nil, List.nil_append, List.cons_append, Nat.reduceEqDiff, ne_eq, not_false_eq_true, reduceCtorEq, Bool.and_true, Bool.true_and, Bool.and_false, Bool.false_and, Bool.not_true, Bool.not_false, Bool.and_self, g1, tyLf, dsLf, fl0, fl1, fl2, fl3, fl4, ft0, ft1, ft2, ft3, ft4, fo0, fo1, fo2, fo3, fo4, tyI, szI, ble11, ad0, ad1, ad2, ad3', ad4, l0, k0, k1, k2, k3, k4, e1]; rfl
    repeat apply go_seq
    apply go_ret
    apply ret_intro rfl rfl
    case run => simp (disch := decide) only [resultsM, resultsA, resRR, opsLoop, evOper, wantedA, nth, aop, aPick, aBin, aIndexAddr, aFieldAddr, aLoad, aStore, aExtract, aConvert, aAlloc, aBox, aIndex, callA, builtinA, Fr.evs, opt, val, when, AM.run, outV, newA, ptr, force_eq, seen_heap, seen_next, seen_mark, seen_seen, agg_cells, int_cells, Fr.ev, Fr.put, onFr, gps, gpn, bltT, still, flat, List.append_nil, List.nil_append, List.cons_append, Nat.reduceEqDiff, ne_eq, not_false_eq_true, reduceCtorEq, Bool.and_true, Bool.true_and, Bool.and_false, Bool.false_and, Bool.not_true, Bool.not_false, Bool.and_self]; rfl
    simpa using hQ
  cases c2
  · repeat apply go_seq
    apply go_region
    case h => intro m; simp (maxSteps := 2000000) (disch := decide) only [opsLoop, evOper, wantedA, nth, aop, aPick, aBin, aIndexAddr, aFieldAddr, aLoad, aStore, aExtract, aConvert, aAlloc, aBox, aIndex, callA, builtinA, Fr.evs, opt, val, when, AM.run, outV, newA, ptr, force_eq, seen_heap, seen_next, seen_mark, seen_seen, agg_cells, int_cells, Fr.ev, Fr.put, onFr, gps, gpn, bltT, still, flat, List.append_nil, List.nil_append, List.cons_append, Nat.reduceEqDiff, ne_eq, not_false_eq_true, reduceCtorEq, Bool.and_true, Bool.true_and, Bool.and_false, Bool.false_and, Bool.not_true, Bool.not_false, Bool.and_self, g1, tyLf, dsLf, fl0, fl1, fl2, fl3, fl4, ft0, ft1, ft2, ft3, ft4, fo0, fo1, fo2, fo3, fo4, tyI, szI, ble11, ad0, ad1, ad2, ad3', ad4, l0, k0, k1, k2, k3, k4, e1, e2]; rfl
    repeat apply go_seq
    apply go_ret
    apply ret_intro rfl rfl
    case run => simp (disch := decide) only [resultsM, resultsA, resRR, opsLoop, evOper, wantedA, nth, aop, aPick, aBin, aIndexAddr, aFieldAddr, aLoad, aStore, aExtract, aConvert, aAlloc, aBox, aIndex, callA, builtinA, Fr.evs, opt, val, when, AM.run, outV, newA, ptr, force_eq, seen_heap, seen_next, seen_mark, seen_seen, agg_cells, int_cells, Fr.ev, Fr.put, onFr, gps, gpn, bltT, still, flat, List.append_nil, List.nil_append, List.cons_append, Nat.reduceEqDiff, ne_eq, not_false_eq_true, reduceCtorEq, Bool.and_true, Bool.true_and, Bool.and_false, Bool.false_and, Bool.not_true, Bool.not_false, Bool.and_self]; rfl
    simpa using hQ
  cases c3
  · repeat apply go_seq
    apply go_region
    case h => intro m; simp (maxSteps := 2000000) (disch := decide) only [opsLoop, evOper, wantedA, nth, aop, aPick, aBin, aIndexAddr, aFieldAddr, aLoad, aStore, aExtract, aConvert, aAlloc, aBox, aIndex, callA, builtinA, Fr.evs, opt, val, when, AM.run, outV, newA, ptr, force_eq, seen_heap, seen_next, seen_mark, seen_seen, agg_cells, int_cells, Fr.ev, Fr.put, onFr, gps, gpn, bltT, still, flat, List.append_nil, List.nil_append, List.cons_append, Nat.reduceEqDiff, ne_eq, not_false_eq_true, reduceCtorEq, Bool.and_true, Bool.true_and, Bool.and_false, Bool.false_and, Bool.not_true, Bool.not_false, Bool.and_self, g1, tyLf, dsLf, fl0, fl1, fl2, fl3, fl4, ft0, ft1, ft2, ft3, ft4, fo0, fo1, fo2, fo3, fo4, tyI, szI, ble11, ad0, ad1, ad2, ad3', ad4, l0, k0, k1, k2, k3, k4, e1, e2, e3]; rfl
    repeat apply go_seq
    apply go_ret
    apply ret_intro rfl rfl
    case run => simp (disch := decide) only [resultsM, resultsA, resRR, opsLoop, evOper, wantedA, nth, aop, aPick, aBin, aIndexAddr, aFieldAddr, aLoad, aStore, aExtract, aConvert, aAlloc, aBox, aIndex, callA, builtinA, Fr.evs, opt, val, when, AM.run, outV, newA, ptr, force_eq, seen_heap, seen_next, seen_mark, seen_seen, agg_cells, int_cells, Fr.ev, Fr.put, onFr, gps, gpn, bltT, still, flat, List.append_nil, List.nil_append, List.cons_append, Nat.reduceEqDiff, ne_eq, not_false_eq_true, reduceCtorEq, Bool.and_true, Bool.true_and, Bool.and_false, Bool.false_and, Bool.not_true, Bool.not_false, Bool.and_self]; rfl
    simpa using hQ
  cases c4
  · repeat apply go_seq
    apply go_region
    case h => intro m; simp (maxSteps := 2000000) (disch := decide) only [opsLoop, evOper, wantedA, nth, aop, aPick, aBin, aIndexAddr, aFieldAddr, aLoad, aStore, aExtract, aConvert, aAlloc, aBox, aIndex, callA, builtinA, Fr.evs, opt, val, when, AM.run, outV, newA, ptr, force_eq, seen_heap, seen_next, seen_mark, seen_seen, agg_cells, int_cells, Fr.ev, Fr.put, onFr, gps, gpn, bltT, still, flat, List.append_nil, List.nil_append, List.cons_append, Nat.reduceEqDiff, ne_eq, not_false_eq_true, reduceCtorEq, Bool.and_true, Bool.true_and, Bool.and_false, Bool.false_and, Bool.not_true, Bool.not_false, Bool.and_self, g1, tyLf, dsLf, fl0, fl1, fl2, fl3, fl4, ft0, ft1, ft2, ft3, ft4, fo0, fo1, fo2, fo3, fo4, tyI, szI, ble11, ad0, ad1, ad2, ad3', ad4, l0, k0, k1, k2, k3, k4, e1, e2, e3, e4]; rfl
    repeat apply go_seq
    apply go_ret
    apply ret_intro rfl rfl
    case run => simp (disch := decide) only [resultsM, resultsA, resRR, opsLoop, evOper, wantedA, nth, aop, aPick, aBin, aIndexAddr, aFieldAddr, aLoad, aStore, aExtract, aConvert, aAlloc, aBox, aIndex, callA, builtinA, Fr.evs, opt, val, when, AM.run, outV, newA, ptr, force_eq, seen_heap, seen_next, seen_mark, seen_seen, agg_cells, int_cells, Fr.ev, Fr.put, onFr, gps, gpn, bltT, still, flat, List.append_nil, List.nil_append, List.cons_append, Nat.reduceEqDiff, ne_eq, not_false_eq_true, reduceCtorEq, Bool.and_true, Bool.true_and, Bool.and_false, Bool.false_and, Bool.not_true, Bool.not_false, Bool.and_self]; rfl
    simpa using hQ
  cases c5
  · repeat apply go_seq
    apply go_region
    case h => intro m; simp (maxSteps := 2000000) (disch := decide) only [opsLoop, evOper, wantedA, nth, aop, aPick, aBin, aIndexAddr, aFieldAddr, aLoad, aStore, aExtract, aConvert, aAlloc, aBox, aIndex, callA, builtinA, Fr.evs, opt, val, when, AM.run, outV, newA, ptr, force_eq, seen_heap, seen_next, seen_mark, seen_seen, agg_cells, int_cells, Fr.ev, Fr.put, onFr, gps, gpn, bltT, still, flat, List.append_nil, List.nil_append, List.cons_append, Nat.reduceEqDiff, ne_eq, not_false_eq_true, reduceCtorEq, Bool.and_true, Bool.true_and, Bool.and_false, Bool.false_and, Bool.not_true, Bool.not_false, Bool.and_self, g1, tyLf, dsLf, fl0, fl1, fl2, fl3, fl4, ft0, ft1, ft2, ft3, ft4, fo0, fo1, fo2, fo3, fo4, tyI, szI, ble11, ad0, ad1, ad2, ad3', ad4, l0, k0, k1, k2, k3, k4, e1, e2, e3, e4, e5]; rfl
    repeat apply go_seq
    apply go_ret
    apply ret_intro rfl rfl
    case run => simp (disch := decide) only [resultsM, resultsA, resRR, opsLoop, evOper, wantedA, nth, aop, aPick, aBin, aIndexAddr, aFieldAddr, aLoad, aStore, aExtract, aConvert, aAlloc, aBox, aIndex, callA, builtinA, Fr.evs, opt, val, when, AM.run, outV, newA, ptr, force_eq, seen_heap, seen_next, seen_mark, seen_seen, agg_cells, int_cells, Fr.ev, Fr.put, onFr, gps, gpn, bltT, still, flat, List.append_nil, List.nil_append, List.cons_append, Nat.reduceEqDiff, ne_eq, not_false_eq_true, reduceCtorEq, Bool.and_true, Bool.true_and, Bool.and_false, Bool.false_and, Bool.not_true, Bool.not_false, Bool.and_self]; rfl
    simpa using hQ
  cases c6
  · repeat apply go_seq
    apply go_region
    case h => intro m; simp (maxSteps := 2000000) (disch := decide) only [opsLoop, evOper, wantedA, nth, aop, aPick, aBin, aIndexAddr, aFieldAddr, aLoad, aStore, aExtract, aConvert, aAlloc, aBox, aIndex, callA, builtinA, Fr.evs, opt, val, when, AM.run, outV, newA, ptr, force_eq, seen_heap, seen_next, seen_mark, seen_seen, agg_cells, int_cells, Fr.ev, Fr.put, onFr, gps, gpn, bltT, still, flat, List.append_nil, List.nil_append, List.cons_append, Nat.reduceEqDiff, ne_eq, not_false_eq_true, reduceCtorEq, Bool.and_true, Bool.true_and, Bool.and_false, Bool.false_and, Bool.not_true, Bool.not_false, Bool.and_self, g1, tyLf, dsLf, fl0, fl1, fl2, fl3, fl4, ft0, ft1, ft2, ft3, ft4, fo0, fo1, fo2, fo3, fo4, tyI, szI, ble11, ad0, ad1, ad2, ad3', ad4, l0, k0, k1, k2, k3, k4, e1, e2, e3, e4, e5, e6]; rfl
    repeat apply go_seq
    apply go_ret
    apply ret_intro rfl rfl
    case run => simp (disch := decide) only [resultsM, resultsA, resRR, opsLoop, evOper, wantedA, nth, aop, aPick, aBin, aIndexAddr, aFieldAddr, aLoad, aStore, aExtract, aConvert, aAlloc, aBox, aIndex, callA, builtinA, Fr.evs, opt, val, when, AM.run, outV, newA, ptr, force_eq, seen_heap, seen_next, seen_mark, seen_seen, agg_cells, int_cells, Fr.ev, Fr.put, onFr, gps, gpn, bltT, still, flat, List.append_nil, List.nil_append, List.cons_append, Nat.reduceEqDiff, ne_eq, not_false_eq_true, reduceCtorEq, Bool.and_true, Bool.true_and, Bool.and_false, Bool.false_and, Bool.not_true, Bool.not_false, Bool.and_self]; rfl
    simpa using hQ
  cases c7
  · repeat apply go_seq
    apply go_region
    case h => intro m; simp (maxSteps := 2000000) (disch := decide) only [opsLoop, evOper, wantedA, nth, aop, aPick, aBin, aIndexAddr, aFieldAddr, aLoad, aStore, aExtract, aConvert, aAlloc, aBox, aIndex, callA, builtinA, Fr.evs, opt, val, when, AM.run, outV, newA, ptr, force_eq, seen_heap, seen_next, seen_mark, seen_seen, agg_cells, int_cells, Fr.ev, Fr.put, onFr, gps, gpn, bltT, still, flat, List.append_nil, List.nil_append, List.cons_append, Nat.reduceEqDiff, ne_eq, not_false_eq_true, reduceCtorEq, Bool.and_true, Bool.true_and, Bool.and_false, Bool.false_and, Bool.not_true, Bool.not_false, Bool.and_self, g1, tyLf, dsLf, fl0, fl1, fl2, fl3, fl4, ft0, ft1, ft2, ft3, ft4, fo0, fo1, fo2, fo3, fo4, tyI, szI, ble11, ad0, ad1, ad2, ad3', ad4, l0, k0, k1, k2, k3, k4, e1, e2, e3, e4, e5, e6, e7]; rfl
    repeat apply go_seq
    apply go_ret
    apply ret_intro rfl rfl
    case run => simp (disch := decide) only [resultsM, resultsA, resRR, opsLoop, evOper, wantedA, nth, aop, aPick, aBin, aIndexAddr, aFieldAddr, aLoad, aStore, aExtract, aConvert, aAlloc, aBox, aIndex, callA, builtinA, Fr.evs, opt, val, when, AM.run, outV, newA, ptr, force_eq, seen_heap, seen_next, seen_mark, seen_seen, agg_cells, int_cells, Fr.ev, Fr.put, onFr, gps, gpn, bltT, still, flat, List.append_nil, List.nil_append, List.cons_append, Nat.reduceEqDiff, ne_eq, not_false_eq_true, reduceCtorEq, Bool.and_true, Bool.true_and, Bool.and_false, Bool.false_and, Bool.not_true, Bool.not_false, Bool.and_self]; rfl
    simpa using hQ
  cases c8
  · repeat apply go_seq
    apply go_region
    case h => intro m; simp (maxSteps := 2000000) (disch := decide) only [opsLoop, evOper, wantedA, nth, aop, aPick, aBin, aIndexAddr, aFieldAddr, aLoad, aStore, aExtract, aConvert, aAlloc, aBox, aIndex, callA, builtinA, Fr.evs, opt, val, when, AM.run, outV, newA, ptr, force_eq, seen_heap, seen_next, seen_mark, seen_seen, agg_cells, int_cells, Fr.ev, Fr.put, onFr, gps, gpn, bltT, still, flat, List.append_nil, List.nil_append, List.cons_append, Nat.reduceEqDiff, ne_eq, not_false_eq_true, reduceCtorEq, Bool.and_true, Bool.true_and, Bool.and_false, Bool.false_and, Bool.not_true, Bool.not_false, Bool.and_self, g1, tyLf, dsLf, fl0, fl1, fl2, fl3, fl4, ft0, ft1, ft2, ft3, ft4, fo0, fo1, fo2, fo3, fo4, tyI, szI, ble11, ad0, ad1, ad2, ad3', ad4, l0, k0, k1, k2, k3, k4, e1, e2, e3, e4, e5, e6, e7, e8]; rfl
    repeat apply go_seq
    apply go_ret
    apply ret_intro rfl rfl
    case run => simp (disch := decide) only [resultsM, resultsA, resRR, opsLoop, evOper, wantedA, nth, aop, aPick, aBin, aIndexAddr, aFieldAddr, aLoad, aStore, aExtract, aConvert, aAlloc, aBox, aIndex, callA, builtinA, Fr.evs, opt, val, when, AM.run, outV, newA, ptr, force_eq, seen_heap, seen_next, seen_mark, seen_seen, agg_cells, int_cells, Fr.ev, Fr.put, onFr, gps, gpn, bltT, still, flat, List.append_nil, List.nil_append, List.cons_append, Nat.reduceEqDiff, ne_eq, not_false_eq_true, reduceCtorEq, Bool.and_true, Bool.true_and, Bool.and_false, Bool.false_and, Bool.not_true, Bool.not_false, Bool.and_self]; rfl
    simpa using hQ
  cases c9
  · repeat apply go_seq
    apply go_region
    case h => intro m; simp (maxSteps := 2000000) (disch := decide) only [opsLoop, evOper, wantedA, nth, aop, aPick, aBin, aIndexAddr, aFieldAddr, aLoad, aStore, aExtract, aConvert, aAlloc, aBox, aIndex, callA, builtinA, Fr.evs, opt, val, when, AM.run, outV, newA, ptr, force_eq, seen_heap, seen_next, seen_mark, seen_seen, agg_cells, int_cells, Fr.ev, Fr.put, onFr, gps, gpn, bltT, still, flat, List.append_nil, List.nil_append, List.cons_append, Nat.reduceEqDiff, ne_eq, not_false_eq_true, reduceCtorEq, Bool.and_true, Bool.true_and, Bool.and_false, Bool.false_and, Bool.not_true, Bool.not_false, Bool.and_self, g1, tyLf, dsLf, fl0, fl1, fl2, fl3, fl4, ft0, ft1, ft2, ft3, ft4, fo0, fo1, fo2, fo3, fo4, tyI, szI, ble11, ad0, ad1, ad2, ad3', ad4, l0, k0, k1, k2, k3, k4, e1, e2, e3, e4, e5, e6, e7, e8, e9]; rfl
    repeat apply go_seq
    apply go_ret
    apply ret_intro rfl rfl
    case run => simp (disch := decide) only [resultsM, resultsA, resRR, opsLoop, evOper, wantedA, nth, aop, aPick, aBin, aIndexAddr, aFieldAddr, aLoad, aStore, aExtract, aConvert, aAlloc, aBox, aIndex, callA, builtinA, Fr.evs, opt, val, when, AM.run, outV, newA, ptr, force_eq, seen_heap, seen_next, seen_mark, seen_seen, agg_cells, int_cells, Fr.ev, Fr.put, onFr, gps, gpn, bltT, still, flat, List.append_nil, List.nil_append, List.cons_append, Nat.reduceEqDiff, ne_eq, not_false_eq_true, reduceCtorEq, Bool.and_true, Bool.true_and, Bool.and_false, Bool.false_and, Bool.not_true, Bool.not_false, Bool.and_self]; rfl
    simpa using hQ
  cases c10
  · repeat apply go_seq
    apply go_region
    case h => intro m; simp (maxSteps := 2000000) (disch := decide) only [opsLoop, evOper, wantedA, nth, aop, aPick, aBin, aIndexAddr, aFieldAddr, aLoad, aStore, aExtract, aConvert, aAlloc, aBox, aIndex, callA, builtinA, Fr.evs, opt, val, when, AM.run, outV, newA, ptr, force_eq, seen_heap, seen_next, seen_mark, seen_seen, agg_cells, int_cells, Fr.ev, Fr.put, onFr, gps, gpn, bltT, still, flat, List.append_nil, List.nil_append, List.cons_append, Nat.reduceEqDiff, ne_eq, not_false_eq_true, reduceCtorEq, Bool.and_true, Bool.true_and, Bool.and_false, Bool.false_and, Bool.not_true, Bool.not_false, Bool.and_self, g1, tyLf, dsLf, fl0, fl1, fl2, fl3, fl4, ft0, ft1, ft2, ft3, ft4, fo0, fo1, fo2, fo3, fo4, tyI, szI, ble11, ad0, ad1, ad2, ad3', ad4, l0, k0, k1, k2, k3, k4, e1, e2, e3, e4, e5, e6, e7, e8, e9, e10]; rfl
    repeat apply go_seq
    apply go_ret
    apply ret_intro rfl rfl
    case run => simp (disch := decide) only [resultsM, resultsA, resRR, opsLoop, evOper, wantedA, nth, aop, aPick, aBin, aIndexAddr, aFieldAddr, aLoad, aStore, aExtract, aConvert, aAlloc, aBox, aIndex, callA, builtinA, Fr.evs, opt, val, when, AM.run, outV, newA, ptr, force_eq, seen_heap, seen_next, seen_mark, seen_seen, agg_cells, int_cells, Fr.ev, Fr.put, onFr, gps, gpn, bltT, still, flat, List.append_nil, List.nil_append, List.cons_append, Nat.reduceEqDiff, ne_eq, not_false_eq_true, reduceCtorEq, Bool.and_true, Bool.true_and, Bool.and_false, Bool.false_and, Bool.not_true, Bool.not_false, Bool.and_self]; rfl
    simpa using hQ
  repeat apply go_seq
  apply go_region
  case h => intro m; simp (maxSteps := 2000000) (disch := decide) only [opsLoop, evOper, wantedA, nth, aop, aPick, aBin, aIndexAddr, aFieldAddr, aLoad, aStore, aExtract, aConvert, aAlloc, aBox, aIndex, callA, builtinA, Fr.evs, opt, val, when, AM.run, outV, newA, ptr, force_eq, seen_heap, seen_next, seen_mark, seen_seen, agg_cells, int_cells, Fr.ev, Fr.put, onFr, gps, gpn, bltT, still, flat, List.append_nil, List.nil_append, List.cons_append, Nat.reduceEqDiff, ne_eq, not_false_eq_true, reduceCtorEq, Bool.and_true, Bool.true_and, Bool.and_false, Bool.false_and, Bool.not_true, Bool.not_false, Bool.and_self, g1, tyLf, dsLf, fl0, fl1, fl2, fl3, fl4, ft0, ft1, ft2, ft3, ft4, fo0, fo1, fo2, fo3, fo4, tyI, szI, ble11, ad0, ad1, ad2, ad3', ad4, l0, k0, k1, k2, k3, k4, e1, e2, e3, e4, e5, e6, e7, e8, e9, e10]; rfl
  repeat apply go_seq
  apply go_ret
  apply ret_intro rfl rfl
  case run => simp (disch := decide) only [resultsM, resultsA, resRR, opsLoop, evOper, wantedA, nth, aop, aPick, aBin, aIndexAddr, aFieldAddr, aLoad, aStore, aExtract, aConvert, aAlloc, aBox, aIndex, callA, builtinA, Fr.evs, opt, val, when, AM.run, outV, newA, ptr, force_eq, seen_heap, seen_next, seen_mark, seen_seen, agg_cells, int_cells, Fr.ev, Fr.put, onFr, gps, gpn, bltT, still, flat, List.append_nil, List.nil_append, List.cons_append, Nat.reduceEqDiff, ne_eq, not_false_eq_true, reduceCtorEq, Bool.and_true, Bool.true_and, Bool.and_false, Bool.false_and, Bool.not_true, Bool.not_false, Bool.and_self]; rfl
  simpa using hQ
set_option maxHeartbeats 1000000 in
theorem told_rightR : AE.Told Tryd.prog 10 rightRA := by
  refine told_go hE hmix tolds_nil ?_
  intro args s v s' h hm
  unfold rightRA at h
  split at h
  · rename_i cs
    obtain ⟨d, hd, h2⟩ := run_opt h
    obtain ⟨rfl, hlen⟩ := leafOf_inv hd
    obtain ⟨s9, h3, hn9, hm9, hh9, hbl⟩ := bump_run 1 _ _ _ h2
    cases h3
    clear h h2 hd
    have hN0 : Nat.ble s.next lastName = true := hbl 0 (by omega)
    refine go_enter (fi := fiRR) (c := cdRR) (by kernel_rfl) (by kernel_rfl) 64 rfl rfl ?_
    have h0 : (Tr.ofList [Value.agg ⟨d.cells⟩]).get 0 = some (.agg ⟨d.cells⟩) := rfl
    generalize Tr.ofList [Value.agg ⟨d.cells⟩] = t at *
    have hcode : cdRR = .seq (sub [0] cdRR) (.seq (.seq (sub [1,0,0] cdRR) (.block 0 (.loop cdRRl))) cdRRt) := rfl
    rw [hcode]
    have hcl : d.cells.length = 121 := d.len hlen
    have hcb : Nat.ble d.cells.length lastName = true := by rw [hcl]; rfl
    apply go_seq
    simp only [cdRR, Tryd.f10, bodyOf, sub]
    repeat apply go_seq
    apply go_region
    case h => intro m; simp (maxSteps := 2000000) (disch := decide) only [opsLoop, evOper, wantedA, nth, aop, aPick, aBin, aIndexAddr, aFieldAddr, aLoad, aStore, aExtract, aConvert, aAlloc, aBox, aIndex, callA, builtinA, Fr.evs, opt, val, when, AM.run, outV, newA, ptr, force_eq, seen_heap, seen_next, seen_mark, seen_seen, agg_cells, int_cells, Fr.ev, Fr.put, onFr, gps, gpn, bltT, still, flat, List.append_nil, List.nil_append, List.cons_append, Nat.reduceEqDiff, ne_eq, not_false_eq_true, reduceCtorEq, Bool.and_true, Bool.true_and, Bool.and_false, Bool.false_and, Bool.not_true, Bool.not_false, Bool.and_self, h0, hcb, hN0]; rfl
    generalize hs1 : (S.mk (s.heap.put s.next (some (.cells (Tr.ofList d.cells) d.cells.length 24 .whole))) (Nat.succ s.next) s.mark s.rd s.wr) = s1
    have e1 : s1.next = s.next + 1 := by rw [← hs1]
    have e1h : s1.heap = s.heap.put s.next (some (.cells (Tr.ofList d.cells) d.cells.length 24 .whole)) := by rw [← hs1]
    have L1 : LfAt s1 s.next d := by
      refine ⟨by omega, ⟨_, _, _, by rw [e1h, hg_same hN0, hcl], row_ofList _ (by rw [hcl]; unfold Tr.wide; omega)⟩, hlen⟩
    have hless : ∀ s5, Rd s1 s5 → Less' s5 s' := by
      intro s5 hr
      refine less_new (s := s) (n := 1) (by rw [hr.next, e1, hn9]; exact Nat.le_refl _) hn9 hh9 ?_
      intro m hmm
      rw [hr.heap, e1h, hg_far hN0 (by omega)]
    clear hs1
    have l4 := L1.get 4 (.int .i64 d.size) rfl
    apply go_seq
    apply go_seq
    have hmax : (match ltI d.size (Int.ofNat 0) with | true => Int.ofNat 0 | false => d.size) = Int.ofNat (fromZ d) := by
      unfold fromZ
      cases hl : ltI d.size (Int.ofNat 0) with
      | true =>
        rw [ltI_eq] at hl
        simp at hl
        show Int.ofNat 0 = _
        rw [Int.toNat_of_nonpos (by omega)]
      | false =>
        rw [ltI_eq] at hl
        simp at hl
        show d.size = _
        exact (Int.toNat_of_nonneg hl).symm
    repeat apply go_seq
    apply go_region
    case h => intro m; simp (maxSteps := 2000000) (disch := decide) only [opsLoop, evOper, wantedA, nth, aop, aPick, aBin, aIndexAddr, aFieldAddr, aLoad, aStore, aExtract, aConvert, aAlloc, aBox, aIndex, callA, builtinA, Fr.evs, opt, val, when, AM.run, outV, newA, ptr, force_eq, seen_heap, seen_next, seen_mark, seen_seen, agg_cells, int_cells, Fr.ev, Fr.put, onFr, gps, gpn, bltT, still, flat, List.append_nil, List.nil_append, List.cons_append, Nat.reduceEqDiff, ne_eq, not_false_eq_true, reduceCtorEq, Bool.and_true, Bool.true_and, Bool.and_false, Bool.false_and, Bool.not_true, Bool.not_false, Bool.and_self, tyLf, dsLf, fl4, ft4, fo4, tyI, szI, ble11, ad4, l4, builtinA, minMax, minMax.go, int0, hmax]; rfl
    apply go_block
    refine (go_loop_inv (InvRR d s.next s1) (fun k fr s2 hI => rightR_round d s.next s1 L1 k fr s2 hI) (116 - fromZ d) _ _ ⟨fromZ d, _, rfl, Nat.le_refl _, rfl, Rd.seen s1 s.next, ?_, ?_, fun j h1 h2 => by omega⟩).mono ?_
    · simp (disch := decide) only [gps, gpn]
    · simp (disch := decide) only [gps, gpn]
      exact congrArg (fun x => some (Value.int .i64 x)) hmax
    rintro x fr s3 ⟨t3, rfl, hr, ⟨rfl, g1, hall⟩ | ⟨rfl, g2, j, y, hj, hj2, hy, hy0⟩⟩
    · simp only [Out_, if_true]
      show GoC E _ _ _ _ _
      have hn := (noughts_iff d hlen).2 hall
      refine rightR_tail d s.next s3 (L1.rd hr) t3 g1 _ _ _ _ _ _ _ _ _ _ (fun E t => rfl) (fun E t => rfl) (fun E t => rfl) (fun E t => rfl) (fun E t => rfl) (fun E t => rfl) (fun E t => rfl) (fun E t => rfl) (fun E t => rfl) (fun E t => rfl) _ ?_
      exact ⟨by rw [chain_right d hn], hless _ (hr.trans (Rd.seen s3 s.next))⟩
    · simp only [Out_, Then]
      apply ret_intro rfl rfl
      case run => simp (disch := decide) only [resultsM, resultsA, resRR, opsLoop, evOper, wantedA, nth, aop, aPick, aBin, aIndexAddr, aFieldAddr, aLoad, aStore, aExtract, aConvert, aAlloc, aBox, aIndex, callA, builtinA, Fr.evs, opt, val, when, AM.run, outV, newA, ptr, force_eq, seen_heap, seen_next, seen_mark, seen_seen, agg_cells, int_cells, Fr.ev, Fr.put, onFr, gps, gpn, bltT, still, flat, List.append_nil, List.nil_append, List.cons_append, Nat.reduceEqDiff, ne_eq, not_false_eq_true, reduceCtorEq, Bool.and_true, Bool.true_and, Bool.and_false, Bool.false_and, Bool.not_true, Bool.not_false, Bool.and_self, g2]; rfl
      refine ⟨?_, hless _ hr⟩
      have hn : noughts (d.load.drop d.size.toNat) = false := by
        cases hb : noughts (d.load.drop d.size.toNat) with
        | false => rfl
        | true =>
          have := (noughts_iff d hlen).1 hb j hj hj2
          rw [hy] at this
          exact absurd (Option.some.inj this) hy0
      unfold rightL
      rw [hn]
      simp
  · cases h
end Go.Proofs.YtdkieabjjmhdlaaDoor.lf
end
end

section
/- Leaves: the document's sum, bit by bit: told. -/
noncomputable section
namespace Go.Proofs.YtdkieabjjmhdlaaDoor.lf
open AE
set_option linter.unusedSimpArgs false
set_option linter.unusedVariables false
set_option maxRecDepth 10000

def crcRA : List Value → AM Value
  | [.slice (some ad) n c] => when (Nat.ble n 1000000) (rdA (some ad) n fun l => .pure (.int .u32 (.ofNat (crc32 l))))
  | _ => .fail
noncomputable def fiCr : FI := FI.of Tryd.f19
noncomputable def cdCr : Code := bodyOf Tryd.f19
noncomputable def cdCrl : Code := sub [1,1,0,1,0,0] cdCr
noncomputable def cdCri : Code := sub [1,1,0,0,1,1,1,0,0] cdCrl
theorem resCr : fiCr.results = [.tmp 2] := rfl

theorem w32 {n : Nat} (h : n < 4294967296) : wrapA .u32 (.ofNat n) = .ofNat n := by
  show Int.ofNat (n % 4294967296) = _
  rw [Nat.mod_eq_of_lt h]
theorem c_and {c : Nat} (hc : c < 4294967296) : ∀ E t, binA E .and t (.int .u32 (.ofNat c)) (.int .u32 1) = some (.int .u32 (.ofNat (c % 2))) := fun E t => by
  show some (Value.int .u32 (wrapA .u32 (.ofNat (Nat.land (c % 4294967296) (1 % 4294967296))))) = _
  rw [Nat.mod_eq_of_lt hc]
  have e : Nat.land c (1 % 4294967296) = c % 2 := Nat.and_one_is_mod c
  rw [e, w32 (by omega)]
theorem c_shr (c : Nat) : ∀ E t k, binA E .shr t (.int .u32 (.ofNat c)) (.int k 1) = some (.int .u32 (.ofNat (c >>> 1))) := fun E t k => by
  show some (Value.int .u32 (Int.fdiv (.ofNat c) (pow2 (minN 1 64)))) = _
  have e : pow2 (minN 1 64) = ((2 : Nat) : Int) := rfl
  rw [e]
  show some (Value.int .u32 (Int.fdiv (c : Int) ((2 : Nat) : Int))) = _
  rw [Int.fdiv_eq_ediv_of_nonneg _ (Int.natCast_nonneg _), Nat.shiftRight_eq_div_pow]
  rfl
theorem c_xor {a b : Nat} (ha : a < 4294967296) (hb : b < 4294967296) : ∀ E t, binA E .xor t (.int .u32 (.ofNat a)) (.int .u32 (.ofNat b)) = some (.int .u32 (.ofNat (a ^^^ b))) := fun E t => by
  show some (Value.int .u32 (wrapA .u32 (.ofNat (Nat.xor (a % 4294967296) (b % 4294967296))))) = _
  rw [Nat.mod_eq_of_lt ha, Nat.mod_eq_of_lt hb]
  have e : Nat.xor a b < 4294967296 := Nat.xor_lt_two_pow (n := 32) ha hb
  rw [w32 e]
  rfl
theorem c_not {a : Nat} (ha : a < 4294967296) : unA .xor (.int .u32 (.ofNat a)) = some (.int .u32 (.ofNat (Nat.xor 4294967295 a))) := by
  show some (Value.int .u32 (wrapA .u32 (.ofNat (Nat.xor (4294967295 % 4294967296) (a % 4294967296))))) = _
  rw [Nat.mod_eq_of_lt ha]
  have e : Nat.xor (4294967295 % 4294967296) a < 4294967296 := Nat.xor_lt_two_pow (n := 32) (by decide) ha
  rw [w32 e]
theorem c_conv {x : UInt8} : wrapA .u32 (.ofNat x.toNat) = .ofNat x.toNat := w32 (by have := x.toNat_lt; omega)

/-! eight bits -/
def InvCi (i n : Nat) (a : Option Addr) (c : Nat) (T : Nat) (s0 : S) (k : Nat) (fr : Fr) (s : S) : Prop :=
  ∃ (j r : Nat) (t : Tr Value), k = 8 - j ∧ j ≤ 8 ∧ r < 4294967296 ∧ steps (8 - j) r = T ∧ s = s0 ∧ fr = ⟨19, t, 30, [], none⟩ ∧ t.get 3 = some (.int .u32 (.ofNat r)) ∧ t.get 16 = some (.int .i64 (.ofNat j)) ∧
    t.get 6 = some (.slice a n c) ∧ t.get 7 = some (.int .i64 (.ofNat n)) ∧ t.get 8 = some (.int .i64 (.ofNat i))
def PostCi (i n : Nat) (a : Option Addr) (c : Nat) (T : Nat) (s0 : S) (x : Ex) (fr : Fr) (s : S) : Prop :=
  ∃ (t : Tr Value), x = .exit 2 ∧ s = s0 ∧ fr = ⟨19, t, 30, [], none⟩ ∧ t.get 3 = some (.int .u32 (.ofNat T)) ∧
    t.get 6 = some (.slice a n c) ∧ t.get 7 = some (.int .i64 (.ofNat n)) ∧ t.get 8 = some (.int .i64 (.ofNat i))
theorem bit_odd {r : Nat} (h : r % 2 = 1) : crcBit r = (r >>> 1) ^^^ 3988292384 := by
  rw [crcBit_def, if_pos h]; rfl
theorem bit_even {r : Nat} (h : ¬ r % 2 = 1) : crcBit r = r >>> 1 := by
  rw [crcBit_def, if_neg h, Nat.xor_zero]
theorem crci_round (i n : Nat) (a : Option Addr) (c : Nat) (T : Nat) (s0 : S) (k : Nat) (fr : Fr) (s : S) (h : InvCi i n a c T s0 k fr s) : GoC E (sumsOf []) cdCri fr s (Again (InvCi i n a c T s0) k (PostCi i n a c T s0)) := by
  obtain ⟨j, r, t, rfl, hj, hr, hT, rfl, rfl, g3, g16, g6, g7, g8⟩ := h
  simp only [cdCri, cdCrl, cdCr, Tryd.f19, bodyOf, sub]
  have i8 : (8 : Int) = Int.ofNat 8 := rfl
  by_cases hlt : j < 8
  · have hlt' : ltI (Int.ofNat j) (Int.ofNat 8) = true := by rw [ltI_eq]; simp; omega
    have hinc := b_incr (n := j) (by omega)
    have fa := c_and hr
    have fs := c_shr r
    have hsh : r >>> 1 < 4294967296 := by rw [Nat.shiftRight_eq_div_pow]; omega
    have fx := c_xor (a := r >>> 1) (b := 3988292384) hsh (by decide)
    have ipoly : (3988292384 : Int) = Int.ofNat 3988292384 := rfl
    have hst : steps (8 - (j + 1)) (crcBit r) = T := by
      rw [← hT, show 8 - j = (8 - (j + 1)) + 1 by omega]
      rfl
    have hbl := crcBit_lt hr
    repeat apply go_seq
    apply go_region
    case h => intro m; simp (maxSteps := 2000000) (disch := decide) only [opsLoop, evOper, wantedA, nth, aop, aPick, aBin, aIndexAddr, aFieldAddr, aLoad, aStore, aExtract, aConvert, aAlloc, aBox, aIndex, callA, builtinA, Fr.evs, opt, val, when, AM.run, outV, newA, ptr, force_eq, seen_heap, seen_next, seen_mark, seen_seen, agg_cells, int_cells, Fr.ev, Fr.put, onFr, gps, gpn, bltT, still, flat, List.append_nil, List.nil_append, List.cons_append, Nat.reduceEqDiff, ne_eq, not_false_eq_true, reduceCtorEq, Bool.and_true, Bool.true_and, Bool.and_false, Bool.false_and, Bool.not_true, Bool.not_false, Bool.and_self, g16, b_lss, i8, hlt']; rfl
    repeat apply go_seq
    apply go_cond
    case hc => simp (disch := decide) only [opsLoop, evOper, wantedA, nth, aop, aPick, aBin, aIndexAddr, aFieldAddr, aLoad, aStore, aExtract, aConvert, aAlloc, aBox, aIndex, callA, builtinA, Fr.evs, opt, val, when, AM.run, outV, newA, ptr, force_eq, seen_heap, seen_next, seen_mark, seen_seen, agg_cells, int_cells, Fr.ev, Fr.put, onFr, gps, gpn, bltT, still, flat, List.append_nil, List.nil_append, List.cons_append, Nat.reduceEqDiff, ne_eq, not_false_eq_true, reduceCtorEq, Bool.and_true, Bool.true_and, Bool.and_false, Bool.false_and, Bool.not_true, Bool.not_false, Bool.and_self]; rfl
    case h2 => intro h; cases h
    intro _
    apply go_skip
    apply go_seq
    apply go_block
    by_cases ho : r % 2 = 1
    · have fe : ∀ E t, binA E .eql t (.int .u32 (.ofNat (r % 2))) (.int .u32 1) = some (.bool true) := fun E t => by rw [ho]; rfl
      repeat apply go_seq
      apply go_region
      case h => intro m; simp (maxSteps := 2000000) (disch := decide) only [opsLoop, evOper, wantedA, nth, aop, aPick, aBin, aIndexAddr, aFieldAddr, aLoad, aStore, aExtract, aConvert, aAlloc, aBox, aIndex, callA, builtinA, Fr.evs, opt, val, when, AM.run, outV, newA, ptr, force_eq, seen_heap, seen_next, seen_mark, seen_seen, agg_cells, int_cells, Fr.ev, Fr.put, onFr, gps, gpn, bltT, still, flat, List.append_nil, List.nil_append, List.cons_append, Nat.reduceEqDiff, ne_eq, not_false_eq_true, reduceCtorEq, Bool.and_true, Bool.true_and, Bool.and_false, Bool.false_and, Bool.not_true, Bool.not_false, Bool.and_self, g3, fa, fe]; rfl
      repeat apply go_seq
      apply go_cond
      case hc => simp (disch := decide) only [opsLoop, evOper, wantedA, nth, aop, aPick, aBin, aIndexAddr, aFieldAddr, aLoad, aStore, aExtract, aConvert, aAlloc, aBox, aIndex, callA, builtinA, Fr.evs, opt, val, when, AM.run, outV, newA, ptr, force_eq, seen_heap, seen_next, seen_mark, seen_seen, agg_cells, int_cells, Fr.ev, Fr.put, onFr, gps, gpn, bltT, still, flat, List.append_nil, List.nil_append, List.cons_append, Nat.reduceEqDiff, ne_eq, not_false_eq_true, reduceCtorEq, Bool.and_true, Bool.true_and, Bool.and_false, Bool.false_and, Bool.not_true, Bool.not_false, Bool.and_self]; rfl
      case h2 => intro h; cases h
      intro _
      repeat apply go_seq
      apply go_region
      case h => intro m; simp (maxSteps := 2000000) (disch := decide) only [opsLoop, evOper, wantedA, nth, aop, aPick, aBin, aIndexAddr, aFieldAddr, aLoad, aStore, aExtract, aConvert, aAlloc, aBox, aIndex, callA, builtinA, Fr.evs, opt, val, when, AM.run, outV, newA, ptr, force_eq, seen_heap, seen_next, seen_mark, seen_seen, agg_cells, int_cells, Fr.ev, Fr.put, onFr, gps, gpn, bltT, still, flat, List.append_nil, List.nil_append, List.cons_append, Nat.reduceEqDiff, ne_eq, not_false_eq_true, reduceCtorEq, Bool.and_true, Bool.true_and, Bool.and_false, Bool.false_and, Bool.not_true, Bool.not_false, Bool.and_self, g3, fs, ipoly, fx]; rfl
      repeat apply go_seq
      apply go_region
      case h => intro m; simp (maxSteps := 2000000) (disch := decide) only [opsLoop, evOper, wantedA, nth, aop, aPick, aBin, aIndexAddr, aFieldAddr, aLoad, aStore, aExtract, aConvert, aAlloc, aBox, aIndex, callA, builtinA, Fr.evs, opt, val, when, AM.run, outV, newA, ptr, force_eq, seen_heap, seen_next, seen_mark, seen_seen, agg_cells, int_cells, Fr.ev, Fr.put, onFr, gps, gpn, bltT, still, flat, List.append_nil, List.nil_append, List.cons_append, Nat.reduceEqDiff, ne_eq, not_false_eq_true, reduceCtorEq, Bool.and_true, Bool.true_and, Bool.and_false, Bool.false_and, Bool.not_true, Bool.not_false, Bool.and_self, g16, int1, hinc]; rfl
      refine ⟨8 - (j + 1), by omega, j + 1, crcBit r, _, rfl, by omega, hbl, hst, rfl, rfl, ?_, ?_, ?_, ?_, ?_⟩
      · rw [bit_odd ho]; simp (disch := decide) only [gps, gpn]
      · simp (disch := decide) only [gps, gpn]
      · simp (disch := decide) only [gps, gpn, g6]
      · simp (disch := decide) only [gps, gpn, g7]
      · simp (disch := decide) only [gps, gpn, g8]
    · have fe : ∀ E t, binA E .eql t (.int .u32 (.ofNat (r % 2))) (.int .u32 1) = some (.bool false) := fun E t => by rw [show r % 2 = 0 by omega]; rfl
      repeat apply go_seq
      apply go_region
      case h => intro m; simp (maxSteps := 2000000) (disch := decide) only [opsLoop, evOper, wantedA, nth, aop, aPick, aBin, aIndexAddr, aFieldAddr, aLoad, aStore, aExtract, aConvert, aAlloc, aBox, aIndex, callA, builtinA, Fr.evs, opt, val, when, AM.run, outV, newA, ptr, force_eq, seen_heap, seen_next, seen_mark, seen_seen, agg_cells, int_cells, Fr.ev, Fr.put, onFr, gps, gpn, bltT, still, flat, List.append_nil, List.nil_append, List.cons_append, Nat.reduceEqDiff, ne_eq, not_false_eq_true, reduceCtorEq, Bool.and_true, Bool.true_and, Bool.and_false, Bool.false_and, Bool.not_true, Bool.not_false, Bool.and_self, g3, fa, fe]; rfl
      repeat apply go_seq
      apply go_cond
      case hc => simp (disch := decide) only [opsLoop, evOper, wantedA, nth, aop, aPick, aBin, aIndexAddr, aFieldAddr, aLoad, aStore, aExtract, aConvert, aAlloc, aBox, aIndex, callA, builtinA, Fr.evs, opt, val, when, AM.run, outV, newA, ptr, force_eq, seen_heap, seen_next, seen_mark, seen_seen, agg_cells, int_cells, Fr.ev, Fr.put, onFr, gps, gpn, bltT, still, flat, List.append_nil, List.nil_append, List.cons_append, Nat.reduceEqDiff, ne_eq, not_false_eq_true, reduceCtorEq, Bool.and_true, Bool.true_and, Bool.and_false, Bool.false_and, Bool.not_true, Bool.not_false, Bool.and_self]; rfl
      case h1 => intro h; cases h
      intro _
      repeat apply go_seq
      apply go_region
      case h => intro m; simp (maxSteps := 2000000) (disch := decide) only [opsLoop, evOper, wantedA, nth, aop, aPick, aBin, aIndexAddr, aFieldAddr, aLoad, aStore, aExtract, aConvert, aAlloc, aBox, aIndex, callA, builtinA, Fr.evs, opt, val, when, AM.run, outV, newA, ptr, force_eq, seen_heap, seen_next, seen_mark, seen_seen, agg_cells, int_cells, Fr.ev, Fr.put, onFr, gps, gpn, bltT, still, flat, List.append_nil, List.nil_append, List.cons_append, Nat.reduceEqDiff, ne_eq, not_false_eq_true, reduceCtorEq, Bool.and_true, Bool.true_and, Bool.and_false, Bool.false_and, Bool.not_true, Bool.not_false, Bool.and_self, g3, fs]; rfl
      repeat apply go_seq
      apply go_region
      case h => intro m; simp (maxSteps := 2000000) (disch := decide) only [opsLoop, evOper, wantedA, nth, aop, aPick, aBin, aIndexAddr, aFieldAddr, aLoad, aStore, aExtract, aConvert, aAlloc, aBox, aIndex, callA, builtinA, Fr.evs, opt, val, when, AM.run, outV, newA, ptr, force_eq, seen_heap, seen_next, seen_mark, seen_seen, agg_cells, int_cells, Fr.ev, Fr.put, onFr, gps, gpn, bltT, still, flat, List.append_nil, List.nil_append, List.cons_append, Nat.reduceEqDiff, ne_eq, not_false_eq_true, reduceCtorEq, Bool.and_true, Bool.true_and, Bool.and_false, Bool.false_and, Bool.not_true, Bool.not_false, Bool.and_self, g16, int1, hinc]; rfl
      refine ⟨8 - (j + 1), by omega, j + 1, crcBit r, _, rfl, by omega, hbl, hst, rfl, rfl, ?_, ?_, ?_, ?_, ?_⟩
      · rw [bit_even ho]; simp (disch := decide) only [gps, gpn]
      · simp (disch := decide) only [gps, gpn]
      · simp (disch := decide) only [gps, gpn, g6]
      · simp (disch := decide) only [gps, gpn, g7]
      · simp (disch := decide) only [gps, gpn, g8]
  · obtain rfl : j = 8 := by omega
    have hlt' : ltI (Int.ofNat 8) (Int.ofNat 8) = false := rfl
    repeat apply go_seq
    apply go_region
    case h => intro m; simp (maxSteps := 2000000) (disch := decide) only [opsLoop, evOper, wantedA, nth, aop, aPick, aBin, aIndexAddr, aFieldAddr, aLoad, aStore, aExtract, aConvert, aAlloc, aBox, aIndex, callA, builtinA, Fr.evs, opt, val, when, AM.run, outV, newA, ptr, force_eq, seen_heap, seen_next, seen_mark, seen_seen, agg_cells, int_cells, Fr.ev, Fr.put, onFr, gps, gpn, bltT, still, flat, List.append_nil, List.nil_append, List.cons_append, Nat.reduceEqDiff, ne_eq, not_false_eq_true, reduceCtorEq, Bool.and_true, Bool.true_and, Bool.and_false, Bool.false_and, Bool.not_true, Bool.not_false, Bool.and_self, g16, b_lss, i8, hlt']; rfl
    repeat apply go_seq
    apply go_cond
    case hc => simp (disch := decide) only [opsLoop, evOper, wantedA, nth, aop, aPick, aBin, aIndexAddr, aFieldAddr, aLoad, aStore, aExtract, aConvert, aAlloc, aBox, aIndex, callA, builtinA, Fr.evs, opt, val, when, AM.run, outV, newA, ptr, force_eq, seen_heap, seen_next, seen_mark, seen_seen, agg_cells, int_cells, Fr.ev, Fr.put, onFr, gps, gpn, bltT, still, flat, List.append_nil, List.nil_append, List.cons_append, Nat.reduceEqDiff, ne_eq, not_false_eq_true, reduceCtorEq, Bool.and_true, Bool.true_and, Bool.and_false, Bool.false_and, Bool.not_true, Bool.not_false, Bool.and_self]; rfl
    case h1 => intro h; cases h
    intro _
    apply go_exit
    have hT2 : r = T := hT
    subst hT2
    refine ⟨_, rfl, rfl, rfl, ?_, ?_, ?_, ?_⟩
    · simp (disch := decide) only [gps, gpn, g3]
    · simp (disch := decide) only [gps, gpn, g6]
    · simp (disch := decide) only [gps, gpn, g7]
    · simp (disch := decide) only [gps, gpn, g8]

/-! all bytes -/
theorem crcR_app : ∀ (a : List UInt8) (x : UInt8) (r : Nat), crcR (a ++ [x]) r = crcByte (crcR a r) x.toNat
  | [], x, r => rfl
  | y :: a, x, r => crcR_app a x (crcByte r y.toNat)
theorem crcR_take {l : List UInt8} {i : Nat} {x : UInt8} (h : l[i]? = some x) (r : Nat) : crcR (l.take (i + 1)) r = crcByte (crcR (l.take i) r) x.toNat := by
  rw [List.take_add_one, h]
  exact crcR_app _ _ _
theorem xor_byte_lt {r : Nat} (x : UInt8) (h : r < 4294967296) : r ^^^ x.toNat < 4294967296 := Nat.xor_lt_two_pow (n := 32) h (by have := x.toNat_lt; show x.toNat < 4294967296; omega)
theorem crcR_lt : ∀ (l : List UInt8) (r : Nat), r < 4294967296 → crcR l r < 4294967296
  | [], r, h => h
  | x :: l, r, h => crcR_lt l _ (by rw [crcByte_steps]; exact steps_lt 8 _ (xor_byte_lt x h))
def InvCr (ad : Addr) (c : Nat) (l : List UInt8) (s0 : S) (k : Nat) (fr : Fr) (s : S) : Prop :=
  ∃ (i : Nat) (t : Tr Value), k = l.length - i ∧ i ≤ l.length ∧ fr = ⟨19, t, 30, [], none⟩ ∧ Rd s0 s ∧ t.get 3 = some (.int .u32 (.ofNat (crcR (l.take i) 4294967295))) ∧
    t.get 6 = some (.slice (some ad) l.length c) ∧ t.get 7 = some (.int .i64 (.ofNat l.length)) ∧ t.get 8 = some (.int .i64 (.ofNat i))
def PostCr (l : List UInt8) (s0 : S) (x : Ex) (fr : Fr) (s : S) : Prop :=
  ∃ t : Tr Value, x = .exit 0 ∧ fr = ⟨19, t, 30, [], none⟩ ∧ Rd s0 s ∧ t.get 3 = some (.int .u32 (.ofNat (crcR l 4294967295)))
theorem crc_round (ad : Addr) (c : Nat) (l : List UInt8) (s0 : S) (hl : l.length ≤ 1000000) (hb : Bs s0 ad l) (k : Nat) (fr : Fr) (s : S) (h : InvCr ad c l s0 k fr s) :
    GoC E (sumsOf []) cdCrl fr s (Again (InvCr ad c l s0) k (PostCr l s0)) := by
  obtain ⟨i, t, rfl, hi, rfl, hr, g3, g6, g7, g8⟩ := h
  have hcode : cdCrl = .seq (sub [0] cdCrl) (.seq (sub [1,0] cdCrl) (.seq (.block 1 (.seq (sub [1,1,0,0,0] cdCrl) (.seq (sub [1,1,0,0,1,0] cdCrl) (.seq (sub [1,1,0,0,1,1,0] cdCrl) (.block 2 (.loop cdCri)))))) (sub [1,1,1] cdCrl))) := rfl
  rw [hcode]
  simp only [cdCrl, cdCr, Tryd.f19, bodyOf, sub]
  by_cases hlt : i < l.length
  · obtain ⟨x, hx⟩ : ∃ x, l[i]? = some x := ⟨_, List.getElem?_eq_getElem hlt⟩
    have hlt' : ltI (Int.ofNat i) (Int.ofNat l.length) = true := by rw [ltI_eq]; simp; omega
    have hbl : Nat.blt i l.length = true := blt_iff.2 hlt
    have lx := sum.byte_load (Bs.at (Bs.rd hb hr) hx) tiU8 dsU8
    have hinc := b_incr (n := i) (by omega)
    have hc := crcR_lt (l.take i) 4294967295 (by decide)
    have fx := c_xor (a := crcR (l.take i) 4294967295) (b := x.toNat) hc (by have := x.toNat_lt; omega)
    have hstep : steps 8 (crcR (l.take i) 4294967295 ^^^ x.toNat) = crcR (l.take (i + 1)) 4294967295 := by rw [crcR_take hx, crcByte_steps]
    repeat apply go_seq
    apply go_region
    case h => intro m; simp (maxSteps := 2000000) (disch := decide) only [opsLoop, evOper, wantedA, nth, aop, aPick, aBin, aIndexAddr, aFieldAddr, aLoad, aStore, aExtract, aConvert, aAlloc, aBox, aIndex, callA, builtinA, Fr.evs, opt, val, when, AM.run, outV, newA, ptr, force_eq, seen_heap, seen_next, seen_mark, seen_seen, agg_cells, int_cells, Fr.ev, Fr.put, onFr, gps, gpn, bltT, still, flat, List.append_nil, List.nil_append, List.cons_append, Nat.reduceEqDiff, ne_eq, not_false_eq_true, reduceCtorEq, Bool.and_true, Bool.true_and, Bool.and_false, Bool.false_and, Bool.not_true, Bool.not_false, Bool.and_self, g7, g8, b_lss, hlt']; rfl
    repeat apply go_seq
    apply go_cond
    case hc => simp (disch := decide) only [opsLoop, evOper, wantedA, nth, aop, aPick, aBin, aIndexAddr, aFieldAddr, aLoad, aStore, aExtract, aConvert, aAlloc, aBox, aIndex, callA, builtinA, Fr.evs, opt, val, when, AM.run, outV, newA, ptr, force_eq, seen_heap, seen_next, seen_mark, seen_seen, agg_cells, int_cells, Fr.ev, Fr.put, onFr, gps, gpn, bltT, still, flat, List.append_nil, List.nil_append, List.cons_append, Nat.reduceEqDiff, ne_eq, not_false_eq_true, reduceCtorEq, Bool.and_true, Bool.true_and, Bool.and_false, Bool.false_and, Bool.not_true, Bool.not_false, Bool.and_self]; rfl
    case h2 => intro h; cases h
    intro _
    apply go_skip
    apply go_seq
    apply go_block
    repeat apply go_seq
    apply go_region
    case h => intro m; simp (maxSteps := 2000000) (disch := decide) only [opsLoop, evOper, wantedA, nth, aop, aPick, aBin, aIndexAddr, aFieldAddr, aLoad, aStore, aExtract, aConvert, aAlloc, aBox, aIndex, callA, builtinA, Fr.evs, opt, val, when, AM.run, outV, newA, ptr, force_eq, seen_heap, seen_next, seen_mark, seen_seen, agg_cells, int_cells, Fr.ev, Fr.put, onFr, gps, gpn, bltT, still, flat, List.append_nil, List.nil_append, List.cons_append, Nat.reduceEqDiff, ne_eq, not_false_eq_true, reduceCtorEq, Bool.and_true, Bool.true_and, Bool.and_false, Bool.false_and, Bool.not_true, Bool.not_false, Bool.and_self, g6, g8, tyB, dsB, tyU8, dsU8, szU8, hbl, mul1, lx]; rfl
    repeat apply go_seq
    apply go_region
    case h => intro m; simp (maxSteps := 2000000) (disch := decide) only [opsLoop, evOper, wantedA, nth, aop, aPick, aBin, aIndexAddr, aFieldAddr, aLoad, aStore, aExtract, aConvert, aAlloc, aBox, aIndex, callA, builtinA, Fr.evs, opt, val, when, AM.run, outV, newA, ptr, force_eq, seen_heap, seen_next, seen_mark, seen_seen, agg_cells, int_cells, Fr.ev, Fr.put, onFr, gps, gpn, bltT, still, flat, List.append_nil, List.nil_append, List.cons_append, Nat.reduceEqDiff, ne_eq, not_false_eq_true, reduceCtorEq, Bool.and_true, Bool.true_and, Bool.and_false, Bool.false_and, Bool.not_true, Bool.not_false, Bool.and_self, g3, tyU8, dsU8, tyU32, dsU32, c_conv, fx]; rfl
    repeat apply go_seq
    apply go_region
    case h => intro m; simp (maxSteps := 2000000) (disch := decide) only [opsLoop, evOper, wantedA, nth, aop, aPick, aBin, aIndexAddr, aFieldAddr, aLoad, aStore, aExtract, aConvert, aAlloc, aBox, aIndex, callA, builtinA, Fr.evs, opt, val, when, AM.run, outV, newA, ptr, force_eq, seen_heap, seen_next, seen_mark, seen_seen, agg_cells, int_cells, Fr.ev, Fr.put, onFr, gps, gpn, bltT, still, flat, List.append_nil, List.nil_append, List.cons_append, Nat.reduceEqDiff, ne_eq, not_false_eq_true, reduceCtorEq, Bool.and_true, Bool.true_and, Bool.and_false, Bool.false_and, Bool.not_true, Bool.not_false, Bool.and_self, int0]; rfl
    apply go_block
    refine (go_loop_inv (InvCi i l.length (some ad) c (crcR (l.take (i + 1)) 4294967295) (s.seen ad.block)) (fun k fr s1 hI => crci_round i l.length (some ad) c _ _ k fr s1 hI) (8 - 0) _ _ ⟨0, _, _, rfl, by omega, xor_byte_lt x hc, hstep, rfl, rfl, ?_, ?_, ?_, ?_, ?_⟩).mono ?_
    · simp (disch := decide) only [gps, gpn]
    · simp (disch := decide) only [gps, gpn]
    · simp (disch := decide) only [gps, gpn, g6]
    · simp (disch := decide) only [gps, gpn, g7]
    · simp (disch := decide) only [gps, gpn, g8]
    rintro x2 fr2 s2 ⟨t2, rfl, rfl, rfl, k3, k6, k7, k8⟩
    simp only [Out_, if_true]
    show GoC E _ _ _ _ _
    repeat apply go_seq
    apply go_region
    case h => intro m; simp (maxSteps := 2000000) (disch := decide) only [opsLoop, evOper, wantedA, nth, aop, aPick, aBin, aIndexAddr, aFieldAddr, aLoad, aStore, aExtract, aConvert, aAlloc, aBox, aIndex, callA, builtinA, Fr.evs, opt, val, when, AM.run, outV, newA, ptr, force_eq, seen_heap, seen_next, seen_mark, seen_seen, agg_cells, int_cells, Fr.ev, Fr.put, onFr, gps, gpn, bltT, still, flat, List.append_nil, List.nil_append, List.cons_append, Nat.reduceEqDiff, ne_eq, not_false_eq_true, reduceCtorEq, Bool.and_true, Bool.true_and, Bool.and_false, Bool.false_and, Bool.not_true, Bool.not_false, Bool.and_self, k8, int1, hinc]; rfl
    refine ⟨l.length - (i + 1), by omega, i + 1, _, rfl, by omega, rfl, hr.trans (Rd.seen s _), ?_, ?_, ?_, ?_⟩
    · simp (disch := decide) only [gps, gpn, k3]
    · simp (disch := decide) only [gps, gpn, k6]
    · simp (disch := decide) only [gps, gpn, k7]
    · simp (disch := decide) only [gps, gpn]
  · obtain rfl : i = l.length := by omega
    have hlt' : ltI (Int.ofNat l.length) (Int.ofNat l.length) = false := by rw [ltI_eq]; simp
    rw [List.take_length] at g3
    repeat apply go_seq
    apply go_region
    case h => intro m; simp (maxSteps := 2000000) (disch := decide) only [opsLoop, evOper, wantedA, nth, aop, aPick, aBin, aIndexAddr, aFieldAddr, aLoad, aStore, aExtract, aConvert, aAlloc, aBox, aIndex, callA, builtinA, Fr.evs, opt, val, when, AM.run, outV, newA, ptr, force_eq, seen_heap, seen_next, seen_mark, seen_seen, agg_cells, int_cells, Fr.ev, Fr.put, onFr, gps, gpn, bltT, still, flat, List.append_nil, List.nil_append, List.cons_append, Nat.reduceEqDiff, ne_eq, not_false_eq_true, reduceCtorEq, Bool.and_true, Bool.true_and, Bool.and_false, Bool.false_and, Bool.not_true, Bool.not_false, Bool.and_self, g7, g8, b_lss, hlt']; rfl
    repeat apply go_seq
    apply go_cond
    case hc => simp (disch := decide) only [opsLoop, evOper, wantedA, nth, aop, aPick, aBin, aIndexAddr, aFieldAddr, aLoad, aStore, aExtract, aConvert, aAlloc, aBox, aIndex, callA, builtinA, Fr.evs, opt, val, when, AM.run, outV, newA, ptr, force_eq, seen_heap, seen_next, seen_mark, seen_seen, agg_cells, int_cells, Fr.ev, Fr.put, onFr, gps, gpn, bltT, still, flat, List.append_nil, List.nil_append, List.cons_append, Nat.reduceEqDiff, ne_eq, not_false_eq_true, reduceCtorEq, Bool.and_true, Bool.true_and, Bool.and_false, Bool.false_and, Bool.not_true, Bool.not_false, Bool.and_self]; rfl
    case h1 => intro h; cases h
    intro _
    apply go_exit
    refine ⟨_, rfl, rfl, hr, ?_⟩
    simp (disch := decide) only [gps, gpn, g3]
theorem told_crcR : AE.Told Tryd.prog 19 crcRA := by
  refine told_go hE hmix tolds_nil ?_
  intro args s v s' h hm
  unfold crcRA at h
  split at h
  · rename_i ad n c
    obtain ⟨hc, h2⟩ := run_when h
    have hn := ble_iff.1 hc
    obtain ⟨l, s1, hl, hb, hr1, h3⟩ := bx_of_rd h2
    cases h3
    subst hl
    refine go_enter (fi := fiCr) (c := cdCr) (by kernel_rfl) (by kernel_rfl) 30 rfl rfl ?_
    have hcode : cdCr = .seq (sub [0] cdCr) (.seq (sub [1,0] cdCr) (.seq (.seq (sub [1,1,0,0] cdCr) (.block 0 (.loop cdCrl))) (sub [1,1,1] cdCr))) := rfl
    rw [hcode]
    have h0 : (Tr.ofList [Value.slice (some ad) l.length c]).get 0 = some (.slice (some ad) l.length c) := rfl
    generalize Tr.ofList [Value.slice (some ad) l.length c] = t at *
    simp only [cdCr, Tryd.f19, bodyOf, sub]
    have im : (4294967295 : Int) = Int.ofNat 4294967295 := rfl
    repeat apply go_seq
    apply go_region
    case h => intro m; simp (maxSteps := 2000000) (disch := decide) only [opsLoop, evOper, wantedA, nth, aop, aPick, aBin, aIndexAddr, aFieldAddr, aLoad, aStore, aExtract, aConvert, aAlloc, aBox, aIndex, callA, builtinA, Fr.evs, opt, val, when, AM.run, outV, newA, ptr, force_eq, seen_heap, seen_next, seen_mark, seen_seen, agg_cells, int_cells, Fr.ev, Fr.put, onFr, gps, gpn, bltT, still, flat, List.append_nil, List.nil_append, List.cons_append, Nat.reduceEqDiff, ne_eq, not_false_eq_true, reduceCtorEq, Bool.and_true, Bool.true_and, Bool.and_false, Bool.false_and, Bool.not_true, Bool.not_false, Bool.and_self]; rfl
    repeat apply go_seq
    apply go_region
    case h => intro m; simp (maxSteps := 2000000) (disch := decide) only [opsLoop, evOper, wantedA, nth, aop, aPick, aBin, aIndexAddr, aFieldAddr, aLoad, aStore, aExtract, aConvert, aAlloc, aBox, aIndex, callA, builtinA, Fr.evs, opt, val, when, AM.run, outV, newA, ptr, force_eq, seen_heap, seen_next, seen_mark, seen_seen, agg_cells, int_cells, Fr.ev, Fr.put, onFr, gps, gpn, bltT, still, flat, List.append_nil, List.nil_append, List.cons_append, Nat.reduceEqDiff, ne_eq, not_false_eq_true, reduceCtorEq, Bool.and_true, Bool.true_and, Bool.and_false, Bool.false_and, Bool.not_true, Bool.not_false, Bool.and_self, im]; rfl
    repeat apply go_seq
    apply go_region
    case h => intro m; simp (maxSteps := 2000000) (disch := decide) only [opsLoop, evOper, wantedA, nth, aop, aPick, aBin, aIndexAddr, aFieldAddr, aLoad, aStore, aExtract, aConvert, aAlloc, aBox, aIndex, callA, builtinA, Fr.evs, opt, val, when, AM.run, outV, newA, ptr, force_eq, seen_heap, seen_next, seen_mark, seen_seen, agg_cells, int_cells, Fr.ev, Fr.put, onFr, gps, gpn, bltT, still, flat, List.append_nil, List.nil_append, List.cons_append, Nat.reduceEqDiff, ne_eq, not_false_eq_true, reduceCtorEq, Bool.and_true, Bool.true_and, Bool.and_false, Bool.false_and, Bool.not_true, Bool.not_false, Bool.and_self, h0, tyB, dsB]; rfl
    apply go_block
    refine (go_loop_inv (InvCr ad c l s) (fun k fr s2 hI => crc_round ad c l s hn hb k fr s2 hI) (l.length - 0) _ _ ⟨0, _, rfl, by omega, rfl, Rd.refl s, ?_, ?_, ?_, ?_⟩).mono ?_
    · simp (disch := decide) only [gps, gpn, List.take_zero, crcR]
    · simp (disch := decide) only [gps, gpn, h0]
    · simp (disch := decide) only [gps, gpn]
    · simp (disch := decide) only [gps, gpn, int0]
    rintro x fr s3 ⟨t3, rfl, rfl, hr, g3⟩
    simp only [Out_, if_true]
    show GoC E _ _ _ _ _
    have fn := c_not (crcR_lt l 4294967295 (by decide))
    repeat apply go_seq
    apply go_region
    case h => intro m; simp (maxSteps := 2000000) (disch := decide) only [opsLoop, evOper, wantedA, nth, aop, aPick, aBin, aIndexAddr, aFieldAddr, aLoad, aStore, aExtract, aConvert, aAlloc, aBox, aIndex, callA, builtinA, Fr.evs, opt, val, when, AM.run, outV, newA, ptr, force_eq, seen_heap, seen_next, seen_mark, seen_seen, agg_cells, int_cells, Fr.ev, Fr.put, onFr, gps, gpn, bltT, still, flat, List.append_nil, List.nil_append, List.cons_append, Nat.reduceEqDiff, ne_eq, not_false_eq_true, reduceCtorEq, Bool.and_true, Bool.true_and, Bool.and_false, Bool.false_and, Bool.not_true, Bool.not_false, Bool.and_self, g3, fn]; rfl
    repeat apply go_seq
    apply go_ret
    apply ret_intro rfl rfl
    case run => simp (disch := decide) only [resultsM, resultsA, resCr, opsLoop, evOper, wantedA, nth, aop, aPick, aBin, aIndexAddr, aFieldAddr, aLoad, aStore, aExtract, aConvert, aAlloc, aBox, aIndex, callA, builtinA, Fr.evs, opt, val, when, AM.run, outV, newA, ptr, force_eq, seen_heap, seen_next, seen_mark, seen_seen, agg_cells, int_cells, Fr.ev, Fr.put, onFr, gps, gpn, bltT, still, flat, List.append_nil, List.nil_append, List.cons_append, Nat.reduceEqDiff, ne_eq, not_false_eq_true, reduceCtorEq, Bool.and_true, Bool.true_and, Bool.and_false, Bool.false_and, Bool.not_true, Bool.not_false, Bool.and_self]; rfl
    exact ⟨rfl, ⟨by rw [hr.next, hr1.next]; exact Nat.le_refl _, fun m o ho => ⟨o, by rw [hr.heap]; rw [hr1.heap] at ho; exact ho, .refl o⟩⟩⟩
  · cases h
end Go.Proofs.YtdkieabjjmhdlaaDoor.lf
end
end

section
/- Leaves: the document's blocks: gates. -/
noncomputable section
namespace Go.Proofs.YtdkieabjjmhdlaaDoor.lf
open AE
set_option linter.unusedSimpArgs false
set_option linter.unusedVariables false
set_option maxRecDepth 10000

/-- may it be? of cells -/
def rightC (cs : List Value) : Bool := match leafOf cs with | some d => rightL d | none => false
def rightG : List Value → Option (Bool × Value)
  | [.agg ⟨cs⟩] => some ((leafOf cs).isSome, .bool (rightC cs))
  | _ => none
theorem bytes_plain (l : List UInt8) : ∀ v ∈ l.map bv, Plain v := fun v hv => by
  obtain ⟨x, _, rfl⟩ := List.mem_map.1 hv
  exact plain_int _ _
theorem leaf_plain (d : LeafD) : ∀ v ∈ d.cells, Plain v := by
  intro v hv
  unfold LeafD.cells at hv
  rcases List.mem_append.1 hv with h | h
  · simp only [List.mem_cons, List.not_mem_nil, or_false] at h
    rcases h with rfl | rfl | rfl | rfl | rfl <;> exact plain_int _ _
  · exact bytes_plain _ v h
theorem told_rightG : AE.Told Tryd.prog 10 (gA rightG) := by
  refine told_nobump told_rightR ?_
  intro args s v s' h
  obtain ⟨h1, rfl⟩ := gA_run h
  unfold rightG at h1
  split at h1
  · rename_i cs
    cases hd : leafOf cs with
    | none => rw [hd] at h1; cases h1
    | some d =>
      rw [hd] at h1
      cases h1
      obtain ⟨rfl, hlen⟩ := leafOf_inv hd
      refine ⟨plain_bool _, Less'.refl _, fun q ρ w args' hR ha => ?_⟩
      obtain ⟨p1, p2⟩ := plain_agg (leaf_plain d)
      cases ha with
      | cons a b =>
        cases b with
        | nil =>
          obtain rfl := p2 _ _ a
          have hrun : ∃ sE, (rightRA [.agg ⟨d.cells⟩]).run (inS []) = some (.bool (rightC d.cells), sE) := by
            unfold rightRA rightC
            dsimp only
            rw [hd]
            exact ⟨_, rfl⟩
          obtain ⟨sE, hE2⟩ := hrun
          exact ⟨[.agg ⟨d.cells⟩], inS [], sE, renOf [], inputs_of [] (Nat.zero_le _) (fun x hx => by cases hx), .cons (p1 _) .nil, hE2, Nat.zero_le _⟩
  · cases h1
/-- the sum of cells -/
def crcC (cs : List Value) : Nat := match bytesV cs with | some l => crc32 l | none => 0
def crcPre : List Value → AM Value
  | [.slice (some ad) n c] => loadA ad n fun cs => .pure (.tuple ⟨[.bool ((bytesV cs).isSome && Nat.ble n 1000000), .int .u32 (.ofNat (crcC cs))]⟩)
  | _ => .fail
theorem crc_ok (args : List Value) (s : S) (v : Value) (s' : S) (h : (crcPre args).run s = some (.tuple ⟨[.bool true, v]⟩, s')) : (crcRA args).run s = some (v, s') := by
  unfold crcPre at h
  split at h
  · rename_i ad n c
    obtain ⟨cc, m, cs, h1, h2, h3, h4, h5, h6⟩ := load_inv h
    have hv : (Value.tuple ⟨[.bool ((bytesV cs).isSome && Nat.ble n 1000000), .int .u32 (.ofNat (crcC cs))]⟩, s.seen ad.block) = (Value.tuple ⟨[.bool true, v]⟩, s') := Option.some.inj h6
    have hB : ((bytesV cs).isSome && Nat.ble n 1000000) = true := congrArg (fun p : Value × S => match p.1 with | .tuple ⟨[.bool b, _]⟩ => b | _ => false) hv
    have hV : Value.int .u32 (.ofNat (crcC cs)) = v := congrArg (fun p : Value × S => match p.1 with | .tuple ⟨[_, v]⟩ => v | _ => undefV) hv
    have hS : s.seen ad.block = s' := congrArg Prod.snd hv
    subst hV hS
    rw [Bool.and_eq_true] at hB
    cases hb : bytesV cs with
    | none => rw [hb] at hB; cases hB.1
    | some l =>
      obtain ⟨e1, e2⟩ := row_of_rd h5
      have := bytesV_inv hb
      subst this
      have hln : l.length = n := by simpa using e1
      have hbs : Bs s ad l := ⟨h1, h2, cc, m, h3, by rw [hln]; exact h4, e2⟩
      subst hln
      show (when (Nat.ble l.length 1000000) (loadA ad l.length fun cs => opt (bytesV cs) fun l => .pure (Value.int .u32 (.ofNat (crc32 l))))).run s = _
      rw [hB.2]
      show (loadA ad l.length _).run s = _
      rw [loadA_run hbs, bytesV_map]
      unfold crcC
      rw [bytesV_map]
      rfl
  · cases h
def crcGate : Gate := ⟨crcPre, crcRA, crc_ok⟩
def gatesB : Gates := gatesM [(10, gateOf rightG), (19, crcGate)]
theorem tolds_B : Tolds Tryd.prog (gated gatesB (sumsOf [])) := tolds_gatesM tolds_nil (by
  intro p hp
  simp only [List.mem_cons, List.not_mem_nil, or_false] at hp
  rcases hp with rfl | rfl
  · exact told_rightG
  · exact told_crcR)
/-- a leaf's cells, with letters -/
def bytesN (b : Nat → Nat) : Nat → Nat → List Value
  | 0, _ => []
  | n + 1, k => .int .u8 (.ofNat (b k)) :: bytesN b n (k + 1)
def leafN (k f p n z : Int) (b : Nat → Nat) : List Value := [.int .i64 k, .int .i64 f, .int .i64 p, .int .i64 n, .int .i64 z] ++ bytesN b 116 0
noncomputable def fiPR : FI := FI.of Tryd.f12
noncomputable def cdPR : Code := bodyOf Tryd.f12
noncomputable def runPR (k f p n z : Int) (b : Nat → Nat) (told : List (Nat × Option Bool)) : Option (Value × S × List (Bool × Bool)) :=
  ownR E fiPR 9000 12 (evO E gatesB (sumsOf []) 1000 (.code cdPR ⟨12, Tr.ofList [.agg ⟨leafN k f p n z b⟩], 35, [], none⟩) (inS []) ⟨told, []⟩)
def probPR (r : Option (Value × S × List (Bool × Bool))) : Option ((Value × Option (Nat × TypeId × Room × Option (List Value))) × List (Bool × Bool)) := match r with
  | some (v, s, qs) => match v with
    | .slice (some a) _ _ => some ((v, cellsAt s a.block), qs)
    | _ => some ((v, none), qs)
  | none => none
end Go.Proofs.YtdkieabjjmhdlaaDoor.lf
end
end

section
/- Leaves: the document's block of a leaf: told. -/
noncomputable section
namespace Go.Proofs.YtdkieabjjmhdlaaDoor.lf
open AE
set_option linter.unusedSimpArgs false
set_option linter.unusedVariables false
set_option maxRecDepth 10000

def loB (n : Int) (i : Nat) : Value := .int .u8 (wrapA .u8 (Int.fdiv n (pow2 (8 * i))))
def head124 (k f p n z : Int) (b : Nat → Nat) : List Value := bytesN b 116 0 ++ [loB f 0, loB f 1, loB p 0, loB p 1, loB n 0, loB n 1, .int .u8 (wrapA .u8 z), .int .u8 (wrapA .u8 k)]
def sumB (k f p n z : Int) (b : Nat → Nat) : Int := wrapA .i64 (.ofNat (crcC (head124 k f p n z b)))
def row128 (k f p n z : Int) (b : Nat → Nat) : List Value := head124 k f p n z b ++ [loB (sumB k f p n z b) 0, loB (sumB k f p n z b) 1, loB (sumB k f p n z b) 2, loB (sumB k f p n z b) 3]
set_option maxRecDepth 100000 in
theorem putR_ev (k f p n z : Int) (b : Nat → Nat) : probPR (runPR k f p n z b [(0, some true), (0, some false), (9, some true)]) =
    some ((.slice (some ⟨24, 0, none⟩) 128 (OPEN + 128), some (128, 5, .loose, some (row128 k f p n z b))),
      [((bytesV (head124 k f p n z b)).isSome && Nat.ble 124 1000000, true), (!rightC (leafN k f p n z b), false), ((leafOf (leafN k f p n z b)).isSome, true)]) := by kernel_rfl
theorem putR_no (k f p n z : Int) (b : Nat → Nat) : probPR (runPR k f p n z b [(0, some true), (0, some true)]) =
    some ((.slice none 0 0, none), [(!rightC (leafN k f p n z b), true), ((leafOf (leafN k f p n z b)).isSome, true)]) := by kernel_rfl

/-! in plain bytes -/
def bN (l : List UInt8) (i : Nat) : Nat := (l.getD i 0).toNat
theorem bytesN_map (b : Nat → Nat) : ∀ (n k : Nat), bytesN b n k = (List.range n).map fun i => .int .u8 (.ofNat (b (k + i)))
  | 0, k => rfl
  | n + 1, k => by
    rw [List.range_succ_eq_map, List.map_cons, List.map_map]
    show _ :: bytesN b n (k + 1) = _
    rw [bytesN_map b n (k + 1)]
    congr 1
    exact List.map_congr_left fun i _ => by show _ = Value.int .u8 (.ofNat (b (k + (i + 1)))); rw [show k + (i + 1) = k + 1 + i by omega]
theorem bytesN_bv (l : List UInt8) (n : Nat) (h : l.length = n) : bytesN (bN l) n 0 = l.map bv := by
  rw [bytesN_map]
  subst h
  refine List.ext_getElem? fun i => ?_
  rw [List.getElem?_map, List.getElem?_map]
  by_cases hi : i < l.length
  · rw [List.getElem?_range hi, List.getElem?_eq_getElem hi]
    show some (Value.int .u8 (.ofNat (bN l (0 + i)))) = some (bv l[i])
    unfold bN
    rw [Nat.zero_add, List.getD_eq_getElem?_getD, List.getElem?_eq_getElem hi]
    rfl
  · rw [List.getElem?_eq_none (by simpa using hi), List.getElem?_eq_none (by simpa using hi)]
    rfl
theorem leafN_cells (d : LeafD) (h : d.load.length = 116) : leafN d.kind d.file d.place d.next d.size (bN d.load) = d.cells := by
  unfold leafN LeafD.cells
  rw [bytesN_bv _ _ h]
theorem w8 (n : Nat) : wrapA .u8 (.ofNat n) = .ofNat (n % 256) := rfl
theorem bv_of (n : Nat) : bv (UInt8.ofNat n) = .int .u8 (.ofNat (n % 256)) := by
  unfold bv
  rw [UInt8.toNat_ofNat']
theorem loB_nat (n i : Nat) : loB (.ofNat n) i = bv (UInt8.ofNat (n >>> (8 * i))) := by
  unfold loB
  have e : Int.fdiv (.ofNat n) (pow2 (8 * i)) = .ofNat (n >>> (8 * i)) := by
    show Int.fdiv (n : Int) ((2 ^ (8 * i) : Nat) : Int) = _
    rw [Int.fdiv_eq_ediv_of_nonneg _ (Int.natCast_nonneg _), Nat.shiftRight_eq_div_pow]
    rfl
  rw [e, w8, bv_of]
theorem loB_int {x : Int} (h : 0 ≤ x) (i : Nat) : loB x i = bv (UInt8.ofNat (x.toNat >>> (8 * i))) := by
  obtain ⟨n, rfl⟩ := Int.eq_ofNat_of_zero_le h
  exact loB_nat n i
theorem w8_int {x : Int} (h : 0 ≤ x) : Value.int .u8 (wrapA .u8 x) = bv (UInt8.ofNat x.toNat) := by
  obtain ⟨n, rfl⟩ := Int.eq_ofNat_of_zero_le h
  show Value.int .u8 (wrapA .u8 (.ofNat n)) = bv (UInt8.ofNat n)
  rw [w8, bv_of]
def l124 (d : LeafD) : List UInt8 := (d.load ++ pre d 3) ++ [UInt8.ofNat d.size.toNat, UInt8.ofNat d.kind.toNat]
theorem head_bv (d : LeafD) (h : d.load.length = 116) (hR : rightL d = true) : head124 d.kind d.file d.place d.next d.size (bN d.load) = (l124 d).map bv := by
  obtain ⟨h3, hk, hs⟩ := rightL_inv hR
  have f := h3 0 d.file rfl
  have p := h3 1 d.place rfl
  have n := h3 2 d.next rfl
  unfold head124 l124
  rw [bytesN_bv _ _ h, loB_int f.1, loB_int f.1, loB_int p.1, loB_int p.1, loB_int n.1, loB_int n.1, w8_int (by omega), w8_int (by omega)]
  simp only [pre, three, two, List.getD_cons_zero, List.getD_cons_succ, List.nil_append, List.append_assoc, List.cons_append, List.map_append, List.map_cons, List.map_nil, Nat.mul_zero, Nat.shiftRight_zero, Nat.mul_one]
theorem crc32_lt (l : List UInt8) : crc32 l < 4294967296 := by
  unfold crc32
  exact Nat.xor_lt_two_pow (n := 32) (by decide) (crcR_lt l 4294967295 (by decide))
theorem row_bv (d : LeafD) (h : d.load.length = 116) (hR : rightL d = true) : row128 d.kind d.file d.place d.next d.size (bN d.load) = (putL d).map bv := by
  have hh := head_bv d h hR
  have hc : crcC (head124 d.kind d.file d.place d.next d.size (bN d.load)) = crc32 (l124 d) := by
    unfold crcC
    rw [hh, bytesV_map]
  have hlt := crc32_lt (l124 d)
  have hs : sumB d.kind d.file d.place d.next d.size (bN d.load) = .ofNat (crc32 (l124 d)) := by
    unfold sumB
    rw [hc]
    exact wrap64 (by omega)
  unfold row128
  rw [hh, hs, loB_nat, loB_nat, loB_nat, loB_nat]
  show _ = (closeL (l124 d)).map bv
  unfold closeL sum4
  simp only [List.map_append, List.map_cons, List.map_nil, Nat.mul_zero, Nat.shiftRight_zero, Nat.mul_one]
theorem bytes_some (l : List UInt8) : (bytesV (l.map bv)).isSome = true := by rw [bytesV_map]; rfl
end Go.Proofs.YtdkieabjjmhdlaaDoor.lf
end
end

section
/- Leaves: the document's block of a leaf: told. -/
noncomputable section
namespace Go.Proofs.YtdkieabjjmhdlaaDoor.lf
open AE
set_option linter.unusedSimpArgs false
set_option linter.unusedVariables false
set_option maxRecDepth 10000

theorem qnil : ∀ p ∈ ([] : List (Bool × Bool)), p.1 = p.2 := fun p h => by cases h
theorem qcons {a b : Bool} {l : List (Bool × Bool)} (h : a = b) (hl : ∀ p ∈ l, p.1 = p.2) : ∀ p ∈ (a, b) :: l, p.1 = p.2 := by
  intro p hp
  cases hp with
  | head => exact h
  | tail _ h2 => exact hl p h2
theorem plain_nil : Plain (.slice none 0 0) := ⟨fun ρ => .flat rfl, fun ρ v' h => h.sliceN_inv.1⟩
theorem slice_move {ρa ρb : Ren} {a b n c : Nat} {v' : Value} (he : ρa a = ρb b) (h : VR ρa (.slice (some ⟨a, 0, none⟩) n (OPEN + c)) v') : VR ρb (.slice (some ⟨b, 0, none⟩) n (OPEN + c)) v' := by
  generalize hcap : OPEN + c = cap at h
  cases h with
  | flat h => cases h
  | sliceW ha hc => omega
  | sliceL hr =>
    rename_i bb base ex c'
    obtain rfl : c = c' := by omega
    exact .sliceL (n := b) (off := 0) (by rw [← he]; exact hr)
theorem leaf_same {ρ : Ren} {d : LeafD} {args' : List Value} (h : LR ρ [.agg ⟨d.cells⟩] args') : args' = [.agg ⟨d.cells⟩] ∧ ∀ ρ2 : Ren, LR ρ2 [.agg ⟨d.cells⟩] args' := by
  obtain ⟨p1, p2⟩ := plain_agg (leaf_plain d)
  cases h with
  | cons a b => cases b with
    | nil =>
      obtain rfl := p2 _ _ a
      exact ⟨rfl, fun ρ2 => .cons (p1 ρ2) .nil⟩
/-- what the probe saw -/
theorem probPR_inv {r : Option (Value × S × List (Bool × Bool))} {v : Value} {o : Option (Nat × TypeId × Room × Option (List Value))} {qs : List (Bool × Bool)} (h : probPR r = some ((v, o), qs)) : ∃ s, r = some (v, s, qs) ∧ ∀ a n c, v = .slice (some a) n c → cellsAt s a.block = o := by
  unfold probPR at h
  split at h
  · rename_i v1 s qs1
    split at h
    · rename_i a n c
      cases h
      exact ⟨s, rfl, fun a' n' c' e => by cases e; rfl⟩
    · rename_i hne
      cases h
      exact ⟨s, rfl, fun a n c e => absurd e (hne a n c)⟩
  · cases h
theorem cells_of {s : S} {r n : Nat} {e : TypeId} {rm : Room} {l : List Value} (h : cellsAt s r = some (n, e, rm, some l)) : ∃ c, s.heap.get r = some (.cells c n e rm) ∧ l.length = n ∧ Row c 0 l := by
  unfold cellsAt at h
  split at h
  · rename_i c m e1 rm1 hg
    simp only [Option.some.injEq, Prod.mk.injEq] at h
    obtain ⟨rfl, rfl, rfl, h4⟩ := h
    obtain ⟨e1, e2⟩ := row_of_rd h4
    exact ⟨c, hg, e1, e2⟩
  · cases h
def putRT : List Value → AM Value
  | [.agg ⟨cs⟩] => opt (leafOf cs) fun d => when (rightL d) (.new (.cells (Tr.ofList ((putL d).map bv)) 128 5 .loose) fun r => .pure (.slice (some ⟨r, 0, none⟩) 128 (OPEN + 128)))
  | _ => .fail
def putRF : List Value → AM Value
  | [.agg ⟨cs⟩] => opt (leafOf cs) fun d => when (!rightL d) (.pure (.slice none 0 0))
  | _ => .fail
def putRA : List Value → AM Value
  | [.agg ⟨cs⟩] => opt (leafOf cs) fun d => match rightL d with
    | true => .new (.cells (Tr.ofList ((putL d).map bv)) 128 5 .loose) fun r => .pure (.slice (some ⟨r, 0, none⟩) 128 (OPEN + 128))
    | false => .pure (.slice none 0 0)
  | _ => .fail
theorem rightC_cells (d : LeafD) (h : d.load.length = 116) : rightC d.cells = rightL d ∧ (leafOf d.cells).isSome = true := by
  unfold rightC
  rw [leafOf_cells d h]
  exact ⟨rfl, rfl⟩
theorem told_putRT : AE.Told Tryd.prog 12 putRT := by
  refine told_own1 hE (fi := fiPR) (c := cdPR) (by kernel_rfl) (by kernel_rfl) ?_
  intro args s v s' h hm
  unfold putRT at h
  split at h
  · rename_i cells
    obtain ⟨d, hd, h2⟩ := run_opt h
    obtain ⟨rfl, hlen⟩ := leafOf_inv hd
    obtain ⟨hR, h3⟩ := run_when h2
    have hble : Nat.ble s.next lastName = true := by
      simp only [AM.run, force_eq] at h3
      cases hh : Nat.ble s.next lastName with
      | true => rfl
      | false => rw [hh] at h3; cases h3
    obtain ⟨hw, h4⟩ := run_new h3
    cases h4
    have hpl := putL_len d hlen
    have hml : ((putL d).map bv).length ≤ Tr.wide := by rw [List.length_map, hpl]; unfold Tr.wide; omega
    refine ⟨0, Tr.ofList ((putL d).map bv), 128, 5, .loose, fun r => .slice (some ⟨r, 0, none⟩) 128 (OPEN + 128), rfl, Nat.lt_succ_self _, hble, ?_, ?_, ?_, ?_⟩
    · intro i u hu hi
      rw [get_ofList _ _ hml] at hu
      exact bytes_plain _ u (List.mem_of_getElem? hu)
    · intro ρa ρb a b v' he hv
      exact slice_move he hv
    · intro k
      show (s.grow _).heap.get k = _
      rw [grow_get hw]
      by_cases hk : k = s.next
      · rw [if_pos hk, if_pos (by omega)]
      · rw [if_neg hk, if_neg (by omega), if_neg (by show ¬ (s.next ≤ k ∧ k < s.next + 1); omega)]
    · intro q ρ w args' hRep hargs
      obtain ⟨rfl, hany⟩ := leaf_same hargs
      refine ⟨[.agg ⟨d.cells⟩], inS [], renOf [], 9000, 35, rfl, rfl, inputs_of [] (Nat.zero_le _) (fun x hx => by cases hx), hany _, Nat.zero_le _, ?_⟩
      have hev := putR_ev d.kind d.file d.place d.next d.size (bN d.load)
      obtain ⟨s2, hr, hc⟩ := probPR_inv hev
      have hcell := hc _ _ _ rfl
      unfold runPR at hr
      rw [leafN_cells d hlen] at hr
      obtain ⟨rc1, rc2⟩ := rightC_cells d hlen
      have hq : ∀ p ∈ [((bytesV (head124 d.kind d.file d.place d.next d.size (bN d.load))).isSome && Nat.ble 124 1000000, true), (!rightC d.cells, false), ((leafOf d.cells).isSome, true)], p.1 = p.2 :=
        qcons (by rw [head_bv d hlen hR, bytes_some]; rfl) (qcons (by rw [rc1, hR]; rfl) (qcons rc2 qnil))
      refine gow_own hE hmix tolds_B hr hq (Nat.le_refl _) ?_
      rw [row_bv d hlen hR] at hcell
      obtain ⟨c2, g1, g2, g3⟩ := cells_of hcell
      refine ⟨24, c2, rfl, g1, fun i u hu hi => ?_⟩
      rw [get_ofList _ _ hml] at hu
      have := g3 i u hu
      rwa [Nat.zero_add] at this
  · cases h
theorem told_putRF : AE.Told Tryd.prog 12 putRF := by
  refine told_own hE (fi := fiPR) (c := cdPR) (by kernel_rfl) (by kernel_rfl) ?_
  intro args s v s' h hm
  unfold putRF at h
  split at h
  · rename_i cells
    obtain ⟨d, hd, h2⟩ := run_opt h
    obtain ⟨rfl, hlen⟩ := leafOf_inv hd
    obtain ⟨hR, h3⟩ := run_when h2
    cases h3
    refine ⟨plain_nil, Less'.refl _, ?_⟩
    intro q ρ w args' hRep hargs
    obtain ⟨rfl, hany⟩ := leaf_same hargs
    refine ⟨[.agg ⟨d.cells⟩], inS [], renOf [], 9000, 35, rfl, rfl, inputs_of [] (Nat.zero_le _) (fun x hx => by cases hx), hany _, Nat.zero_le _, ?_⟩
    have hev := putR_no d.kind d.file d.place d.next d.size (bN d.load)
    obtain ⟨s2, hr, hc⟩ := probPR_inv hev
    unfold runPR at hr
    rw [leafN_cells d hlen] at hr
    obtain ⟨rc1, rc2⟩ := rightC_cells d hlen
    have hq : ∀ p ∈ [(!rightC d.cells, true), ((leafOf d.cells).isSome, true)], p.1 = p.2 := qcons (by rw [rc1]; exact hR) (qcons rc2 qnil)
    exact gow_own hE hmix tolds_B hr hq (Nat.le_refl _) rfl
  · cases h
theorem told_putR : AE.Told Tryd.prog 12 putRA := by
  refine AE.told_two told_putRT told_putRF ?_
  intro args s v s' h
  unfold putRA at h
  split at h
  · rename_i cells
    obtain ⟨d, hd, h2⟩ := run_opt h
    cases hR : rightL d with
    | true =>
      left
      refine ⟨s', ?_, Less'.refl _⟩
      show (opt (leafOf cells) fun d => when (rightL d) _).run s = _
      rw [hd]
      show (when (rightL d) _).run s = _
      rw [hR] at h2 ⊢
      exact h2
    | false =>
      right
      refine ⟨s', ?_, Less'.refl _⟩
      show (opt (leafOf cells) fun d => when (!rightL d) _).run s = _
      rw [hd]
      show (when (!rightL d) _).run s = _
      rw [hR] at h2 ⊢
      exact h2
  · cases h
end Go.Proofs.YtdkieabjjmhdlaaDoor.lf
end
end

section
/- Leaves: the document's leaf of a block: its run. -/
noncomputable section
namespace Go.Proofs.YtdkieabjjmhdlaaDoor.lf
open AE
set_option linter.unusedSimpArgs false
set_option linter.unusedVariables false
set_option maxRecDepth 10000

noncomputable def fiGR : FI := FI.of Tryd.f8
noncomputable def cdGR : Code := bodyOf Tryd.f8
def sRow (L : List Value) (n : Nat) (e : TypeId) : S := ⟨trOf [(0, .row (Tr.ofList L) n e)], 1, 0, 0, 0⟩
noncomputable def runGR (b : Nat → Nat) (e : TypeId) (told : List (Nat × Option Bool)) : Option (Value × S × List (Bool × Bool)) :=
  ownR E fiGR 9000 8 (evO E gatesB (sumsOf []) 1000 (.code cdGR ⟨8, Tr.ofList [.slice (some ⟨0, 0, none⟩) 128 (OPEN + 128)], 57, [], none⟩) (sRow (bytesN b 128 0) 128 e) ⟨told, []⟩)
def probGR (r : Option (Value × S × List (Bool × Bool))) : Option (Value × List (Bool × Bool)) := match r with
  | some (v, s, qs) => some (v, qs)
  | none => none
/-- a number with one more byte below -/
def nst (n : Int) (x : Nat) : Int := wrapA .i64 (.ofNat (Nat.lor (modN (maskOf .i64) (wrapA .i64 (Int.mul n (pow2 8)))) (modN (maskOf .i64) (wrapA .i64 (.ofNat x)))))
def num4 (b : Nat → Nat) : Int := nst (nst (nst (nst 0 (b 127)) (b 126)) (b 125)) (b 124)
def leafG (b : Nat → Nat) : List Value := [.int .i64 (wrapA .i64 (.ofNat (b 123))), .int .i64 (nst (nst 0 (b 117)) (b 116)), .int .i64 (nst (nst 0 (b 119)) (b 118)), .int .i64 (nst (nst 0 (b 121)) (b 120)), .int .i64 (wrapA .i64 (.ofNat (b 122)))] ++ bytesN b 116 0
def crcQ (b : Nat → Nat) : Bool := !eqI (num4 b) (wrapA .i64 (.ofNat (crcC (bytesN b 124 0))))
def gateC (b : Nat → Nat) : Bool := (bytesV (bytesN b 124 0)).isSome && Nat.ble 124 1000000
def noLeaf : Value := .tuple ⟨[.agg ⟨zeroL.cells⟩, .bool false]⟩
set_option maxRecDepth 100000 in
theorem getR_ok (b : Nat → Nat) (e : TypeId) : probGR (runGR b e [(11, some true), (3, some false), (126, some true), (0, some false)]) =
    some (.tuple ⟨[.agg ⟨leafG b⟩, .bool true]⟩, [(!rightC (leafG b), false), ((leafOf (leafG b)).isSome, true), (crcQ b, false), (gateC b, true)]) := by kernel_rfl
set_option maxRecDepth 100000 in
theorem getR_bad (b : Nat → Nat) (e : TypeId) : probGR (runGR b e [(11, some true), (3, some false), (126, some true), (0, some true)]) =
    some (noLeaf, [(!rightC (leafG b), true), ((leafOf (leafG b)).isSome, true), (crcQ b, false), (gateC b, true)]) := by kernel_rfl
theorem getR_sum (b : Nat → Nat) (e : TypeId) : probGR (runGR b e [(11, some true), (3, some true)]) =
    some (noLeaf, [(crcQ b, true), (gateC b, true)]) := by kernel_rfl
/-- of another length -/
noncomputable def runGN (n cap : Nat) (e : TypeId) : Option (Value × S × List (Bool × Bool)) :=
  ownR E fiGR 9000 8 (evO E gatesB (sumsOf []) 1000 (.code cdGR ⟨8, Tr.ofList [.slice (some ⟨0, 0, none⟩) n cap], 57, [], none⟩) (sRow [] 0 e) ⟨[(0, some true)], []⟩)
theorem getR_len (n cap : Nat) (e : TypeId) : probGR (runGN n cap e) = some (noLeaf, [(!eqI (.ofNat n) 128, true)]) := by kernel_rfl
noncomputable def runG0 : Option (Value × S × List (Bool × Bool)) :=
  ownR E fiGR 9000 8 (evO E gatesB (sumsOf []) 1000 (.code cdGR ⟨8, Tr.ofList [.slice none 0 0], 57, [], none⟩) (inS []) ⟨[], []⟩)
theorem getR_nil : probGR runG0 = some (noLeaf, []) := by kernel_rfl
theorem probGR_inv {r : Option (Value × S × List (Bool × Bool))} {v : Value} {qs : List (Bool × Bool)} (h : probGR r = some (v, qs)) : ∃ s, r = some (v, s, qs) := by
  unfold probGR at h
  split at h
  · cases h; exact ⟨_, rfl⟩
  · cases h
end Go.Proofs.YtdkieabjjmhdlaaDoor.lf
end
end
