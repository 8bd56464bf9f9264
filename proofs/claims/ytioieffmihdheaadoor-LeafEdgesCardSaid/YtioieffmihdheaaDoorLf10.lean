/- Leaves: bytes that are the same; a number of two bytes. -/
import Derived.Test.YtioieffmihdheaaDoorLf9
noncomputable section
namespace Go.Proofs.YtioieffmihdheaaDoor.lf
open AE
set_option linter.unusedSimpArgs false
set_option linter.unusedVariables false
set_option maxRecDepth 10000

theorem bytesOf_map : ∀ l : List UInt8, bytesOf (l.map bv) = some l
  | [] => rfl
  | x :: l => by
    simp only [List.map_cons, bv, bytesOf]
    have := bytesOf_map l
    rw [this]
    show some (UInt8.ofNat (Int.toNat (Int.ofNat x.toNat)) :: l) = _
    rw [show Int.toNat (Int.ofNat x.toNat) = x.toNat from rfl, UInt8.ofNat_toNat]
theorem eqBytes_iff : ∀ a b : List UInt8, eqBytes a b = decide (a = b)
  | [], [] => by simp [eqBytes]
  | [], _ :: _ => by simp [eqBytes]
  | _ :: _, [] => by simp [eqBytes]
  | x :: a, y :: b => by
    simp only [eqBytes]
    cases h : Nat.beq x.toNat y.toNat with
    | true =>
      have : x = y := UInt8.toNat_inj.1 (beq_iff.1 h)
      subst this
      simp only [eqBytes_iff a b]
      simp
    | false =>
      have : x ≠ y := fun e => by subst e; rw [beq_iff.2 rfl] at h; cases h
      simp [this]

def equalA : List Value → AM Value
  | [.slice (some ad) n c, .slice (some ad2) n2 c2] => loadA ad n fun cs => opt (bytesV cs) fun l => loadA ad2 n2 fun cs => opt (bytesV cs) fun l2 => .pure (.bool (eqBytes l l2))
  | [.slice none 0 0, .slice (some ad2) n2 c2] => loadA ad2 n2 fun cs => opt (bytesV cs) fun l2 => .pure (.bool (eqBytes [] l2))
  | _ => .fail
noncomputable def fiE : FI := FI.of Tryd.f19
noncomputable def cdE : Code := bodyOf Tryd.f19
theorem resE : fiE.results = [.tmp 4] := rfl
theorem b_str {E t} (a b : List UInt8) : binA E .eql t (.string ⟨⟨a⟩⟩) (.string ⟨⟨b⟩⟩) = some (.bool (eqBytes a b)) := rfl
theorem told_equal : AE.Told Tryd.prog 19 equalA := by
  refine told_go hE hmix tolds_nil ?_
  intro args s v s' h hm
  unfold equalA at h
  split at h
  · rename_i ad n c ad2 n2 c2
    obtain ⟨l, rfl, hb, h2⟩ := bs_of_load h
    obtain ⟨l2, rfl, hb2, h3⟩ := bs_of_load h2
    cases h3
    refine go_enter (fi := fiE) (c := cdE) (by kernel_rfl) (by kernel_rfl) 10 rfl rfl ?_
    have h0 : (Tr.ofList [Value.slice (some ad) l.length c, .slice (some ad2) l2.length c2]).get 0 = some (.slice (some ad) l.length c) := rfl
    have h1 : (Tr.ofList [Value.slice (some ad) l.length c, .slice (some ad2) l2.length c2]).get 1 = some (.slice (some ad2) l2.length c2) := rfl
    generalize Tr.ofList [Value.slice (some ad) l.length c, .slice (some ad2) l2.length c2] = t at *
    simp only [cdE, Tryd.f19, bodyOf]
    have q1 : ∀ k : List Value → AM ANext, (loadA ad l.length k).run s = (k (l.map bv)).run (s.seen ad.block) := fun k => loadA_run hb k
    have q2 : ∀ k : List Value → AM ANext, (loadA ad2 l2.length k).run (s.seen ad.block) = (k (l2.map bv)).run ((s.seen ad.block).seen ad2.block) := fun k => loadA_run hb2 k
    repeat apply go_seq
    apply go_region
    case h => intro m; simp (maxSteps := 2000000) (disch := decide) only [opsLoop, evOper, wantedA, nth, aop, aPick, aBin, aIndexAddr, aFieldAddr, aLoad, aStore, aExtract, aConvert, aAlloc, aBox, aIndex, callA, builtinA, Fr.evs, opt, val, when, AM.run, outV, newA, ptr, force_eq, seen_heap, seen_next, seen_mark, seen_seen, agg_cells, int_cells, Fr.ev, Fr.put, onFr, gps, gpn, bltT, still, flat, List.append_nil, List.nil_append, List.cons_append, Nat.reduceEqDiff, ne_eq, not_false_eq_true, reduceCtorEq, Bool.and_true, Bool.true_and, Bool.and_false, Bool.false_and, Bool.not_true, Bool.not_false, Bool.and_self]; rfl
    repeat apply go_seq
    apply go_region
    case h => intro m; simp (maxSteps := 2000000) (disch := decide) only [opsLoop, evOper, wantedA, nth, aop, aPick, aBin, aIndexAddr, aFieldAddr, aLoad, aStore, aExtract, aConvert, aAlloc, aBox, aIndex, callA, builtinA, Fr.evs, opt, val, when, AM.run, outV, newA, ptr, force_eq, seen_heap, seen_next, seen_mark, seen_seen, agg_cells, int_cells, Fr.ev, Fr.put, onFr, gps, gpn, bltT, still, flat, List.append_nil, List.nil_append, List.cons_append, Nat.reduceEqDiff, ne_eq, not_false_eq_true, reduceCtorEq, Bool.and_true, Bool.true_and, Bool.and_false, Bool.false_and, Bool.not_true, Bool.not_false, Bool.and_self, h0, h1, tySt, dsSt, tyB, dsB, tyU8, dsU8, q1, q2, bytesOf_map, b_str]; rfl
    repeat apply go_seq
    apply go_ret
    apply ret_intro rfl rfl
    case run => simp (disch := decide) only [resultsM, resultsA, resE, opsLoop, evOper, wantedA, nth, aop, aPick, aBin, aIndexAddr, aFieldAddr, aLoad, aStore, aExtract, aConvert, aAlloc, aBox, aIndex, callA, builtinA, Fr.evs, opt, val, when, AM.run, outV, newA, ptr, force_eq, seen_heap, seen_next, seen_mark, seen_seen, agg_cells, int_cells, Fr.ev, Fr.put, onFr, gps, gpn, bltT, still, flat, List.append_nil, List.nil_append, List.cons_append, Nat.reduceEqDiff, ne_eq, not_false_eq_true, reduceCtorEq, Bool.and_true, Bool.true_and, Bool.and_false, Bool.false_and, Bool.not_true, Bool.not_false, Bool.and_self]; rfl
    exact ⟨rfl, Less'.refl _⟩
  · rename_i ad2 n2 c2
    obtain ⟨l2, rfl, hb2, h3⟩ := bs_of_load h
    cases h3
    refine go_enter (fi := fiE) (c := cdE) (by kernel_rfl) (by kernel_rfl) 10 rfl rfl ?_
    have h0 : (Tr.ofList [Value.slice none 0 0, .slice (some ad2) l2.length c2]).get 0 = some (.slice none 0 0) := rfl
    have h1 : (Tr.ofList [Value.slice none 0 0, .slice (some ad2) l2.length c2]).get 1 = some (.slice (some ad2) l2.length c2) := rfl
    generalize Tr.ofList [Value.slice none 0 0, .slice (some ad2) l2.length c2] = t at *
    simp only [cdE, Tryd.f19, bodyOf]
    have q2 : ∀ k : List Value → AM ANext, (loadA ad2 l2.length k).run s = (k (l2.map bv)).run (s.seen ad2.block) := fun k => loadA_run hb2 k
    repeat apply go_seq
    apply go_region
    case h => intro m; simp (maxSteps := 2000000) (disch := decide) only [opsLoop, evOper, wantedA, nth, aop, aPick, aBin, aIndexAddr, aFieldAddr, aLoad, aStore, aExtract, aConvert, aAlloc, aBox, aIndex, callA, builtinA, Fr.evs, opt, val, when, AM.run, outV, newA, ptr, force_eq, seen_heap, seen_next, seen_mark, seen_seen, agg_cells, int_cells, Fr.ev, Fr.put, onFr, gps, gpn, bltT, still, flat, List.append_nil, List.nil_append, List.cons_append, Nat.reduceEqDiff, ne_eq, not_false_eq_true, reduceCtorEq, Bool.and_true, Bool.true_and, Bool.and_false, Bool.false_and, Bool.not_true, Bool.not_false, Bool.and_self]; rfl
    repeat apply go_seq
    apply go_region
    case h => intro m; simp (maxSteps := 2000000) (disch := decide) only [opsLoop, evOper, wantedA, nth, aop, aPick, aBin, aIndexAddr, aFieldAddr, aLoad, aStore, aExtract, aConvert, aAlloc, aBox, aIndex, callA, builtinA, Fr.evs, opt, val, when, AM.run, outV, newA, ptr, force_eq, seen_heap, seen_next, seen_mark, seen_seen, agg_cells, int_cells, Fr.ev, Fr.put, onFr, gps, gpn, bltT, still, flat, List.append_nil, List.nil_append, List.cons_append, Nat.reduceEqDiff, ne_eq, not_false_eq_true, reduceCtorEq, Bool.and_true, Bool.true_and, Bool.and_false, Bool.false_and, Bool.not_true, Bool.not_false, Bool.and_self, h0, h1, tySt, dsSt, tyB, dsB, tyU8, dsU8, q2, bytesOf_map, b_str]; rfl
    repeat apply go_seq
    apply go_ret
    apply ret_intro rfl rfl
    case run => simp (disch := decide) only [resultsM, resultsA, resE, opsLoop, evOper, wantedA, nth, aop, aPick, aBin, aIndexAddr, aFieldAddr, aLoad, aStore, aExtract, aConvert, aAlloc, aBox, aIndex, callA, builtinA, Fr.evs, opt, val, when, AM.run, outV, newA, ptr, force_eq, seen_heap, seen_next, seen_mark, seen_seen, agg_cells, int_cells, Fr.ev, Fr.put, onFr, gps, gpn, bltT, still, flat, List.append_nil, List.nil_append, List.cons_append, Nat.reduceEqDiff, ne_eq, not_false_eq_true, reduceCtorEq, Bool.and_true, Bool.true_and, Bool.and_false, Bool.false_and, Bool.not_true, Bool.not_false, Bool.and_self]; rfl
    exact ⟨rfl, Less'.refl _⟩
  · cases h

/-! a number of two bytes, in a slice that a variable holds -/
def num2 (x y : UInt8) : Int := wrapA .i64 (.ofNat (Nat.lor (x.toNat % 18446744073709551616) (y.toNat * 256 % 18446744073709551616)))
/-- the variable p holds the slice v -/
structure Holds (s : S) (p : Nat) (v : Value) : Prop where
  lt : p < s.next
  cell : ∃ c m e rm, s.heap.get p = some (.cells c m e rm) ∧ 1 ≤ m ∧ c.get 0 = some v
theorem Holds.load {s : S} {p : Nat} {v : Value} (h : Holds s p v) : (loadT tiB ⟨p, 0, none⟩ AE.val).run s = some (.value v, s.seen p) := by
  obtain ⟨c, m, e, rm, h1, h2, h3⟩ := h.cell
  exact cell_load tiB (by rw [dsB]; rfl) h.lt h1 h2 h3
theorem Holds.rd {s s' : S} {p : Nat} {v : Value} (h : Holds s p v) (hr : Rd s s') : Holds s' p v := ⟨by rw [hr.next]; exact h.lt, by rw [hr.heap]; exact h.cell⟩
def twoA : List Value → AM Value
  | [.int .i64 (.ofNat k), .pointer (some ⟨p, 0, none⟩)] => loadT tiB ⟨p, 0, none⟩ fun
    | .slice (some ad) n cap => when (Nat.ble (118 + k) n && Nat.ble k 1000 && Nat.blt n 1000000) (loadA ad n fun cs => opt (bytesV cs) fun l => opt l[116 + k]? fun x => opt l[117 + k]? fun y => .pure (.int .i64 (num2 x y)))
    | _ => .fail
  | _ => .fail
noncomputable def fi2 : FI := FI.of Tryd.f18
noncomputable def cd2 : Code := bodyOf Tryd.f18
theorem res2 : fi2.results = [.tmp 3] := rfl
theorem b_plus {a b : Nat} (h : a + b < 9223372036854775808) : ∀ E t, binA E .add t (.int .i64 (.ofNat a)) (.int .i64 (.ofNat b)) = some (.int .i64 (.ofNat (a + b))) := by
  intro E t
  show some (Value.int .i64 (wrapA .i64 (.ofNat (a + b)))) = _
  rw [wrap64 h]
theorem cv64 {x : Nat} (h : x < 9223372036854775808) : wrapA .i64 (.ofNat x) = .ofNat x := wrap64 h
set_option maxHeartbeats 2000000 in
theorem told_two : AE.Told Tryd.prog 18 twoA := by
  refine told_go hE hmix tolds_nil ?_
  intro args s v s' h hm
  unfold twoA at h
  split at h
  · rename_i k p
    -- the slice that the variable holds
    have key : ∃ ad n cap l x y, Holds s p (.slice (some ad) n cap) ∧ l.length = n ∧ Bs s ad l ∧ 118 + k ≤ n ∧ k ≤ 1000 ∧ n < 1000000 ∧ l[116 + k]? = some x ∧ l[117 + k]? = some y ∧ v = .int .i64 (num2 x y) ∧ s' = (s.seen p).seen ad.block := by
      unfold loadT loadA at h
      rw [dsB] at h
      simp only [isAggD] at h
      have hlt : p < s.next := by
        simp only [AM.run] at h
        split at h
        · cases h
        · rename_i hb; exact blt_iff.1 hb
      obtain ⟨o, ho, h2⟩ := run_get h
      split at h2
      · rename_i c m e rm
        obtain ⟨hm1, h3⟩ := run_when h2
        obtain ⟨cs, hcs, h4⟩ := run_opt h3
        split at h4
        · rename_i u
          split at h4
          · rename_i ad n cap
            obtain ⟨hc, h5⟩ := run_when h4
            simp only [Bool.and_eq_true] at hc
            obtain ⟨l, hl, hb, h6⟩ := bs_of_load h5
            obtain ⟨x, hx, h7⟩ := run_opt h6
            obtain ⟨y, hy, h8⟩ := run_opt h7
            cases h8
            have hc0 := (rdCells_get hcs).2 0 _ rfl
            exact ⟨ad, n, cap, l, x, y, ⟨hlt, c, m, e, rm, ho, by have := ble_iff.1 hm1; simpa using this, by simpa using hc0⟩, hl, hb.of rfl rfl, ble_iff.1 hc.1.1, ble_iff.1 hc.1.2, blt_iff.1 hc.2, hx, hy, rfl, rfl⟩
          · cases h4
        · cases h4
      · cases h2
    obtain ⟨ad, n, cap, l, x, y, H, rfl, hb, h1, h2, h3, hx, hy, rfl, rfl⟩ := key
    clear h
    refine go_enter (fi := fi2) (c := cd2) (by kernel_rfl) (by kernel_rfl) 19 rfl rfl ?_
    have h0 : (Tr.ofList [Value.int .i64 (.ofNat k), .pointer (some ⟨p, 0, none⟩)]).get 0 = some (.int .i64 (.ofNat k)) := rfl
    have h1' : (Tr.ofList [Value.int .i64 (.ofNat k), .pointer (some ⟨p, 0, none⟩)]).get 1 = some (.pointer (some ⟨p, 0, none⟩)) := rfl
    generalize Tr.ofList [Value.int .i64 (.ofNat k), .pointer (some ⟨p, 0, none⟩)] = t at *
    simp only [cd2, Tryd.f18, bodyOf]
    have q0 := (H.rd (s' := ⟨s.heap, s.next, s.mark, s.rd, s.wr⟩) ⟨rfl, rfl, rfl⟩)
    have H0 : Holds ⟨s.heap, s.next, s.next, 0, 0⟩ p (.slice (some ad) l.length cap) := ⟨H.lt, H.cell⟩
    have B0 : Bs ⟨s.heap, s.next, s.next, 0, 0⟩ ad l := hb.of rfl rfl
    have l1 := H0.load
    have lx := sum.byte_load (Bs.at B0 hx) tiU8 dsU8
    have ly := sum.byte_load (Bs.at B0 hy) tiU8 dsU8
    simp only [S.seen] at l1 lx ly
    have p1 := b_plus (a := 116) (b := k) (by omega)
    have p2 := b_plus (a := 116 + k) (b := 1) (by omega)
    rw [show 116 + k + 1 = 117 + k by omega] at p2
    have n1 : Nat.blt (116 + k) l.length = true := blt_iff.2 (by omega)
    have n2 : Nat.blt (117 + k) l.length = true := blt_iff.2 (by omega)
    have i116 : (116 : Int) = Int.ofNat 116 := rfl
    have hx8 := x.toNat_lt
    have hy8 := y.toNat_lt
    have w1 : wrapA .i64 (Int.ofNat x.toNat) = Int.ofNat x.toNat := cv64 (by omega)
    have w2 : wrapA .i64 (Int.ofNat y.toNat) = Int.ofNat y.toNat := cv64 (by omega)
    have s1 : ∀ E t, binA E .shl t (.int .i64 (.ofNat y.toNat)) (.int .u64 8) = some (.int .i64 (.ofNat (y.toNat * 256))) := by
      intro E t
      show some (Value.int .i64 (wrapA .i64 (Int.ofNat (y.toNat * 256)))) = _
      rw [cv64 (by omega)]
    have o1 : ∀ E t, binA E .or t (.int .i64 (.ofNat x.toNat)) (.int .i64 (.ofNat (y.toNat * 256))) = some (.int .i64 (num2 x y)) := fun E t => rfl
    repeat apply go_seq
    apply go_region
    case h => intro m; simp (maxSteps := 2000000) (disch := decide) only [opsLoop, evOper, wantedA, nth, aop, aPick, aBin, aIndexAddr, aFieldAddr, aLoad, aStore, aExtract, aConvert, aAlloc, aBox, aIndex, callA, builtinA, Fr.evs, opt, val, when, AM.run, outV, newA, ptr, force_eq, seen_heap, seen_next, seen_mark, seen_seen, agg_cells, int_cells, Fr.ev, Fr.put, onFr, gps, gpn, bltT, still, flat, List.append_nil, List.nil_append, List.cons_append, Nat.reduceEqDiff, ne_eq, not_false_eq_true, reduceCtorEq, Bool.and_true, Bool.true_and, Bool.and_false, Bool.false_and, Bool.not_true, Bool.not_false, Bool.and_self]; rfl
    repeat apply go_seq
    apply go_drawn
    case hs => rfl
    case h => intro m; simp (maxSteps := 2000000) (disch := decide) only [opsLoop, evOper, wantedA, nth, aop, aPick, aBin, aIndexAddr, aFieldAddr, aLoad, aStore, aExtract, aConvert, aAlloc, aBox, aIndex, callA, builtinA, Fr.evs, opt, val, when, AM.run, outV, newA, ptr, force_eq, seen_heap, seen_next, seen_mark, seen_seen, agg_cells, int_cells, Fr.ev, Fr.put, onFr, gps, gpn, bltT, still, flat, List.append_nil, List.nil_append, List.cons_append, Nat.reduceEqDiff, ne_eq, not_false_eq_true, reduceCtorEq, Bool.and_true, Bool.true_and, Bool.and_false, Bool.false_and, Bool.not_true, Bool.not_false, Bool.and_self, drawnLoop, force_eq, S.seen, keep_none, clash_nil, clash_reads, created_self, lor_zero, lor_zero', h0, h1', tyB, dsB, tyU8, szU8, dsU8, tyI, dsI, l1, i116, int1, p1, p2, n1, n2, mul1, lx, ly, w1, w2, s1, o1]; rfl
    repeat apply go_seq
    apply go_ret
    apply ret_intro rfl rfl
    case run => simp (disch := decide) only [resultsM, resultsA, res2, opsLoop, evOper, wantedA, nth, aop, aPick, aBin, aIndexAddr, aFieldAddr, aLoad, aStore, aExtract, aConvert, aAlloc, aBox, aIndex, callA, builtinA, Fr.evs, opt, val, when, AM.run, outV, newA, ptr, force_eq, seen_heap, seen_next, seen_mark, seen_seen, agg_cells, int_cells, Fr.ev, Fr.put, onFr, gps, gpn, bltT, still, flat, List.append_nil, List.nil_append, List.cons_append, Nat.reduceEqDiff, ne_eq, not_false_eq_true, reduceCtorEq, Bool.and_true, Bool.true_and, Bool.and_false, Bool.false_and, Bool.not_true, Bool.not_false, Bool.and_self]; rfl
    exact ⟨rfl, Rd.less (s := s) ⟨rfl, rfl, rfl⟩ ⟨rfl, rfl, rfl⟩⟩
  · cases h
end Go.Proofs.YtioieffmihdheaaDoor.lf
