/- Leaves: what the code that makes and reads them does, told shortly: a cut set of one byte; whether a leaf may be. -/
import Derived.Test.YtioieffmihdheaaDoorLf0
noncomputable section
namespace Go.Proofs.YtioieffmihdheaaDoor.lf
open AE
set_option linter.unusedSimpArgs false
set_option linter.unusedVariables false
set_option maxRecDepth 10000

/-! drawn orders of reads -/
theorem clash_reads (rd b i r : Nat) (seen : List (Nat × Nat × Nat)) : clash rd 0 b (keepLog i r 0 seen) = clash rd 0 b seen := by
  unfold keepLog
  split
  · rfl
  · show (match Nat.beq (Nat.lor (Nat.land 0 (Nat.lor rd 0)) (Nat.land r 0)) 0 with | true => clash rd 0 b seen | false => _) = _
    have h1 : Nat.land 0 (Nat.lor rd 0) = 0 := Nat.zero_and _
    have h2 : Nat.land r 0 = 0 := Nat.and_zero _
    rw [h1, h2]
theorem created_self (n : Nat) : created n n = 0 := by
  unfold created
  rw [beq_iff.2 rfl]
theorem clash_nil (rd wr b : Nat) : clash rd wr b [] = false := rfl
theorem keep_none (i : Nat) (seen : List (Nat × Nat × Nat)) : keepLog i 0 0 seen = seen := rfl
theorem lor_zero (n : Nat) : Nat.lor 0 n = n := Nat.zero_or _
theorem lor_zero' (n : Nat) : Nat.lor n 0 = n := Nat.or_zero _

def Z : ByteArray := ⟨⟨[0]⟩⟩
theorem zsize : Z.size = 1 := rfl
theorem zbyte : byteAt Z.data.toList 0 = some (.int .u8 (.ofNat 0)) := rfl

def trimV (ad : Addr) (cap : Nat) (l : List UInt8) : Value := trimLV ad cap (l.take (rl l))
def trimA : List Value → AM Value
  | [.slice a n cap, .string ⟨⟨[x]⟩⟩] => when (Nat.beq x.toNat 0) (match n with
    | 0 => .pure (.slice none 0 0)
    | n + 1 => match a with
      | none => .fail
      | some ad => when (Nat.ble (n + 1) cap && Nat.blt cap OPEN) (loadA ad (n + 1) fun cs => opt (bytesV cs) fun l => .pure (trimV ad cap l)))
  | _ => .fail
abbrev sigT : List (Nat × (List Value → AM Value)) := [(26, trimLA), (27, trimRA)]
theorem tolds_T : Tolds Tryd.prog (sumsOf sigT) := tolds_cons told_trimL (tolds_cons told_trimR tolds_nil)
theorem tgt {f : FuncId} {fi : FI} {c : Code} (hf : E.fn.get f = some fi) (hb : fi.body = some c) : ∀ a b, targetA E (.func f) a b = .pure (.enter f (b ++ a)) := by
  intro a b
  simp only [targetA, hf, opt, hb]
theorem tgTL : ∀ a b, targetA E (.func 26) a b = .pure (.enter 26 (b ++ a)) := tgt (fi := fiTL) (c := cdTL) (by kernel_rfl) (by kernel_rfl)
theorem tgTR : ∀ a b, targetA E (.func 27) a b = .pure (.enter 27 (b ++ a)) := tgt (fi := fiTR) (c := cdTR) (by kernel_rfl) (by kernel_rfl)
theorem sgTL : sumsOf sigT 26 = some trimLA := rfl
theorem sgTR : sumsOf sigT 27 = some trimRA := rfl

theorem Bs.load {s : S} {ad : Addr} {l : List UInt8} (h : Bs s ad l) {β : Type} (k : List UInt8 → AM β) : (loadA ad l.length fun cs => opt (bytesV cs) k).run s = (k l).run (s.seen ad.block) := by
  obtain ⟨c, m, e, rm, h1, h2, h3⟩ := h.cell
  have h4 := rd_row h3
  rw [List.length_map] at h4
  unfold loadA
  rw [h.spot]
  simp only [AM.run, blt_iff.2 h.lt, h1, when, ble_iff.2 h2, show Nat.ble (Nat.add ad.off l.length) m = true from ble_iff.2 h2, opt, h4, bytesV_map]
  rfl
theorem Bs.take {s : S} {ad : Addr} {l : List UInt8} (h : Bs s ad l) (n : Nat) : Bs s ad (l.take n) := by
  obtain ⟨c, m, e, rm, h1, h2, h3⟩ := h.cell
  refine ⟨h.spot, h.lt, c, m, e, rm, h1, by rw [List.length_take]; omega, ?_⟩
  have := h3.sub 0 n
  simpa using this
theorem Bs.of {s s' : S} {ad : Addr} {l : List UInt8} (h : Bs s ad l) (hh : s'.heap = s.heap) (hn : s'.next = s.next) : Bs s' ad l := ⟨h.spot, by rw [hn]; exact h.lt, by rw [hh]; exact h.cell⟩
theorem trimRA_run {s : S} {ad : Addr} {l : List UInt8} {cap : Nat} (h : Bs s ad l) (h1 : l.length ≤ cap) (h2 : cap < OPEN) (h3 : 1 ≤ cap) :
    (trimRA [.slice (some ad) l.length cap, .int .u8 (.ofNat 0)]).run s = some (.slice (some ad) (rl l) cap, s.seen ad.block) := by
  simp only [trimRA, when, ble_iff.2 h1, blt_iff.2 h2, ble_iff.2 h3, Bool.and_self, Bs.load h, AM.run]
theorem trimLA_run {s : S} {ad : Addr} {l : List UInt8} {cap : Nat} (h : Bs s ad l) (h1 : l.length ≤ cap) (h2 : cap < OPEN) :
    (trimLA [.slice (some ad) l.length cap, .int .u8 (.ofNat 0)]).run s = some (trimLV ad cap l, s.seen ad.block) := by
  simp only [trimLA, when, ble_iff.2 h1, blt_iff.2 h2, Bool.and_self, Bs.load h, AM.run]

noncomputable def fiT : FI := FI.of Tryd.f23
noncomputable def cdT : Code := bodyOf Tryd.f23
theorem resT : fiT.results = [.tmp 4] := rfl
theorem told_trim : AE.Told Tryd.prog 23 trimA := by
  refine told_go hE hmix tolds_T ?_
  intro args s v s' h hm
  unfold trimA at h
  split at h
  · rename_i a n cap x
    obtain ⟨hx, h2⟩ := run_when h
    obtain rfl : x = 0 := UInt8.toNat_inj.1 (by simpa using beq_iff.1 hx)
    clear h
    refine go_enter (fi := fiT) (c := cdT) (by kernel_rfl) (by kernel_rfl) 42 rfl rfl ?_
    have h0 : (Tr.ofList [Value.slice a n cap, .string ⟨⟨[0]⟩⟩]).get 0 = some (.slice a n cap) := rfl
    have h1 : (Tr.ofList [Value.slice a n cap, .string ⟨⟨[0]⟩⟩]).get 1 = some (.string Z) := rfl
    generalize Tr.ofList [Value.slice a n cap, .string ⟨⟨[0]⟩⟩] = t at *
    simp only [cdT, Tryd.f23, bodyOf]
    cases n with
    | zero =>
      have h3 : (AM.pure (Value.slice none 0 0)).run s = some (v, s') := h2
      cases h3
      have h0' : t.get 0 = some (.slice a 0 cap) := h0
      repeat apply go_seq
      apply go_region
      case h => intro m; simp (disch := decide) only [opsLoop, evOper, wantedA, nth, aop, aPick, aBin, aIndexAddr, aFieldAddr, aLoad, aStore, aExtract, aConvert, aAlloc, aBox, aIndex, callA, builtinA, Fr.evs, opt, val, when, AM.run, outV, newA, ptr, force_eq, seen_heap, seen_next, seen_mark, seen_seen, agg_cells, int_cells, Fr.ev, Fr.put, onFr, gps, gpn, bltT, still, flat, List.append_nil, List.nil_append, List.cons_append, Nat.reduceEqDiff, ne_eq, not_false_eq_true, reduceCtorEq, Bool.and_true, Bool.true_and, Bool.and_false, Bool.false_and, Bool.not_true, Bool.not_false, Bool.and_self]; rfl
      repeat apply go_seq
      apply go_region
      case h => intro m; simp (disch := decide) only [opsLoop, evOper, wantedA, nth, aop, aPick, aBin, aIndexAddr, aFieldAddr, aLoad, aStore, aExtract, aConvert, aAlloc, aBox, aIndex, callA, builtinA, Fr.evs, opt, val, when, AM.run, outV, newA, ptr, force_eq, seen_heap, seen_next, seen_mark, seen_seen, agg_cells, int_cells, Fr.ev, Fr.put, onFr, gps, gpn, bltT, still, flat, List.append_nil, List.nil_append, List.cons_append, Nat.reduceEqDiff, ne_eq, not_false_eq_true, reduceCtorEq, Bool.and_true, Bool.true_and, Bool.and_false, Bool.false_and, Bool.not_true, Bool.not_false, Bool.and_self, h0', tyB, dsB, b_eql, int0, eqI_t]; rfl
      repeat apply go_seq
      apply go_cond
      case hc => simp (disch := decide) only [opsLoop, evOper, wantedA, nth, aop, aPick, aBin, aIndexAddr, aFieldAddr, aLoad, aStore, aExtract, aConvert, aAlloc, aBox, aIndex, callA, builtinA, Fr.evs, opt, val, when, AM.run, outV, newA, ptr, force_eq, seen_heap, seen_next, seen_mark, seen_seen, agg_cells, int_cells, Fr.ev, Fr.put, onFr, gps, gpn, bltT, still, flat, List.append_nil, List.nil_append, List.cons_append, Nat.reduceEqDiff, ne_eq, not_false_eq_true, reduceCtorEq, Bool.and_true, Bool.true_and, Bool.and_false, Bool.false_and, Bool.not_true, Bool.not_false, Bool.and_self]; rfl
      case h2 => intro h; cases h
      intro _
      repeat apply go_seq
      apply go_region
      case h => intro m; simp (disch := decide) only [opsLoop, evOper, wantedA, nth, aop, aPick, aBin, aIndexAddr, aFieldAddr, aLoad, aStore, aExtract, aConvert, aAlloc, aBox, aIndex, callA, builtinA, Fr.evs, opt, val, when, AM.run, outV, newA, ptr, force_eq, seen_heap, seen_next, seen_mark, seen_seen, agg_cells, int_cells, Fr.ev, Fr.put, onFr, gps, gpn, bltT, still, flat, List.append_nil, List.nil_append, List.cons_append, Nat.reduceEqDiff, ne_eq, not_false_eq_true, reduceCtorEq, Bool.and_true, Bool.true_and, Bool.and_false, Bool.false_and, Bool.not_true, Bool.not_false, Bool.and_self]; rfl
      repeat apply go_seq
      apply go_ret
      apply ret_intro rfl rfl
      case run => simp (disch := decide) only [resultsM, resultsA, resT, opsLoop, evOper, wantedA, nth, aop, aPick, aBin, aIndexAddr, aFieldAddr, aLoad, aStore, aExtract, aConvert, aAlloc, aBox, aIndex, callA, builtinA, Fr.evs, opt, val, when, AM.run, outV, newA, ptr, force_eq, seen_heap, seen_next, seen_mark, seen_seen, agg_cells, int_cells, Fr.ev, Fr.put, onFr, gps, gpn, bltT, still, flat, List.append_nil, List.nil_append, List.cons_append, Nat.reduceEqDiff, ne_eq, not_false_eq_true, reduceCtorEq, Bool.and_true, Bool.true_and, Bool.and_false, Bool.false_and, Bool.not_true, Bool.not_false, Bool.and_self]; rfl
      exact ⟨rfl, Less'.refl _⟩
    | succ n =>
      cases a with
      | none => cases h2
      | some ad =>
        have h3 : (when (Nat.ble (n + 1) cap && Nat.blt cap OPEN) (loadA ad (n + 1) fun cs => opt (bytesV cs) fun l => .pure (trimV ad cap l))).run s = some (v, s') := h2
        clear h2
        obtain ⟨hc, h4⟩ := run_when h3
        simp only [Bool.and_eq_true] at hc
        have hle := ble_iff.1 hc.1
        have hop := blt_iff.1 hc.2
        obtain ⟨l, hl, hb, h5⟩ := bs_of_load h4
        cases h5
        have hne : eqI (Int.ofNat (n + 1)) (Int.ofNat 0) = false := eqI_f (by omega)
        have hstr : ∀ E t, binA E .eql t (.string Z) (.string ⟨#[]⟩) = some (.bool false) := fun E t => rfl
        have hlss : ∀ E t, binA E .lss t (.int .u8 (.ofNat 0)) (.int .u8 128) = some (.bool true) := fun E t => rfl
        have hz1 : eqI (Int.ofNat 1) (Int.ofNat 1) = true := rfl
        repeat apply go_seq
        apply go_region
        case h => intro m; simp (disch := decide) only [opsLoop, evOper, wantedA, nth, aop, aPick, aBin, aIndexAddr, aFieldAddr, aLoad, aStore, aExtract, aConvert, aAlloc, aBox, aIndex, callA, builtinA, Fr.evs, opt, val, when, AM.run, outV, newA, ptr, force_eq, seen_heap, seen_next, seen_mark, seen_seen, agg_cells, int_cells, Fr.ev, Fr.put, onFr, gps, gpn, bltT, still, flat, List.append_nil, List.nil_append, List.cons_append, Nat.reduceEqDiff, ne_eq, not_false_eq_true, reduceCtorEq, Bool.and_true, Bool.true_and, Bool.and_false, Bool.false_and, Bool.not_true, Bool.not_false, Bool.and_self]; rfl
        repeat apply go_seq
        apply go_region
        case h => intro m; simp (disch := decide) only [opsLoop, evOper, wantedA, nth, aop, aPick, aBin, aIndexAddr, aFieldAddr, aLoad, aStore, aExtract, aConvert, aAlloc, aBox, aIndex, callA, builtinA, Fr.evs, opt, val, when, AM.run, outV, newA, ptr, force_eq, seen_heap, seen_next, seen_mark, seen_seen, agg_cells, int_cells, Fr.ev, Fr.put, onFr, gps, gpn, bltT, still, flat, List.append_nil, List.nil_append, List.cons_append, Nat.reduceEqDiff, ne_eq, not_false_eq_true, reduceCtorEq, Bool.and_true, Bool.true_and, Bool.and_false, Bool.false_and, Bool.not_true, Bool.not_false, Bool.and_self, h0, tyB, dsB, b_eql, int0, hne]; rfl
        repeat apply go_seq
        apply go_cond
        case hc => simp (disch := decide) only [opsLoop, evOper, wantedA, nth, aop, aPick, aBin, aIndexAddr, aFieldAddr, aLoad, aStore, aExtract, aConvert, aAlloc, aBox, aIndex, callA, builtinA, Fr.evs, opt, val, when, AM.run, outV, newA, ptr, force_eq, seen_heap, seen_next, seen_mark, seen_seen, agg_cells, int_cells, Fr.ev, Fr.put, onFr, gps, gpn, bltT, still, flat, List.append_nil, List.nil_append, List.cons_append, Nat.reduceEqDiff, ne_eq, not_false_eq_true, reduceCtorEq, Bool.and_true, Bool.true_and, Bool.and_false, Bool.false_and, Bool.not_true, Bool.not_false, Bool.and_self]; rfl
        case h1 => intro h; cases h
        intro _
        apply go_skip
        repeat apply go_seq
        apply go_region
        case h => intro m; simp (disch := decide) only [opsLoop, evOper, wantedA, nth, aop, aPick, aBin, aIndexAddr, aFieldAddr, aLoad, aStore, aExtract, aConvert, aAlloc, aBox, aIndex, callA, builtinA, Fr.evs, opt, val, when, AM.run, outV, newA, ptr, force_eq, seen_heap, seen_next, seen_mark, seen_seen, agg_cells, int_cells, Fr.ev, Fr.put, onFr, gps, gpn, bltT, still, flat, List.append_nil, List.nil_append, List.cons_append, Nat.reduceEqDiff, ne_eq, not_false_eq_true, reduceCtorEq, Bool.and_true, Bool.true_and, Bool.and_false, Bool.false_and, Bool.not_true, Bool.not_false, Bool.and_self, h0, h1, hstr]; rfl
        repeat apply go_seq
        apply go_cond
        case hc => simp (disch := decide) only [opsLoop, evOper, wantedA, nth, aop, aPick, aBin, aIndexAddr, aFieldAddr, aLoad, aStore, aExtract, aConvert, aAlloc, aBox, aIndex, callA, builtinA, Fr.evs, opt, val, when, AM.run, outV, newA, ptr, force_eq, seen_heap, seen_next, seen_mark, seen_seen, agg_cells, int_cells, Fr.ev, Fr.put, onFr, gps, gpn, bltT, still, flat, List.append_nil, List.nil_append, List.cons_append, Nat.reduceEqDiff, ne_eq, not_false_eq_true, reduceCtorEq, Bool.and_true, Bool.true_and, Bool.and_false, Bool.false_and, Bool.not_true, Bool.not_false, Bool.and_self]; rfl
        case h1 => intro h; cases h
        intro _
        apply go_skip
        repeat apply go_seq
        apply go_region
        case h => intro m; simp (disch := decide) only [opsLoop, evOper, wantedA, nth, aop, aPick, aBin, aIndexAddr, aFieldAddr, aLoad, aStore, aExtract, aConvert, aAlloc, aBox, aIndex, callA, builtinA, Fr.evs, opt, val, when, AM.run, outV, newA, ptr, force_eq, seen_heap, seen_next, seen_mark, seen_seen, agg_cells, int_cells, Fr.ev, Fr.put, onFr, gps, gpn, bltT, still, flat, List.append_nil, List.nil_append, List.cons_append, Nat.reduceEqDiff, ne_eq, not_false_eq_true, reduceCtorEq, Bool.and_true, Bool.true_and, Bool.and_false, Bool.false_and, Bool.not_true, Bool.not_false, Bool.and_self, h0, h1, tySt, dsSt, zsize, zbyte, b_eql, int1, hz1, int0, hlss]; rfl
        repeat apply go_seq
        apply go_cond
        case hc => simp (disch := decide) only [opsLoop, evOper, wantedA, nth, aop, aPick, aBin, aIndexAddr, aFieldAddr, aLoad, aStore, aExtract, aConvert, aAlloc, aBox, aIndex, callA, builtinA, Fr.evs, opt, val, when, AM.run, outV, newA, ptr, force_eq, seen_heap, seen_next, seen_mark, seen_seen, agg_cells, int_cells, Fr.ev, Fr.put, onFr, gps, gpn, bltT, still, flat, List.append_nil, List.nil_append, List.cons_append, Nat.reduceEqDiff, ne_eq, not_false_eq_true, reduceCtorEq, Bool.and_true, Bool.true_and, Bool.and_false, Bool.false_and, Bool.not_true, Bool.not_false, Bool.and_self]; rfl
        case h2 => intro h; cases h
        intro _
        have htk : (l.take (rl l)).length = rl l := by rw [List.length_take]; have := rl_le l; omega
        have hR := trimRA_run (cap := cap) (hb.of (s' := ⟨s.heap, s.next, s.next, 0, 0⟩) rfl rfl) (by omega) hop (by omega)
        have hL := trimLA_run (cap := cap) ((hb.take (rl l)).of (s' := ⟨s.heap, s.next, s.next, 0, 0⟩) rfl rfl) (by rw [htk]; have := rl_le l; omega) hop
        rw [hl] at hR
        rw [htk] at hL
        simp only [S.seen] at hR hL
        repeat apply go_seq
        apply go_drawn
        case hs => rfl
        case h => intro m; simp (disch := decide) only [opsLoop, evOper, wantedA, nth, aop, aPick, aBin, aIndexAddr, aFieldAddr, aLoad, aStore, aExtract, aConvert, aAlloc, aBox, aIndex, callA, builtinA, Fr.evs, opt, val, when, AM.run, outV, newA, ptr, force_eq, seen_heap, seen_next, seen_mark, seen_seen, agg_cells, int_cells, Fr.ev, Fr.put, onFr, gps, gpn, bltT, still, flat, List.append_nil, List.nil_append, List.cons_append, Nat.reduceEqDiff, ne_eq, not_false_eq_true, reduceCtorEq, Bool.and_true, Bool.true_and, Bool.and_false, Bool.false_and, Bool.not_true, Bool.not_false, Bool.and_self, drawnLoop, force_eq, S.seen, keep_none, clash_nil, clash_reads, created_self, lor_zero, lor_zero', h0, h1, tySt, dsSt, zbyte, int0, tgTL, tgTR, evT_told sgTR, evT_told sgTL, hR, hL]; rfl
        repeat apply go_seq
        apply go_ret
        apply ret_intro rfl rfl
        case run => simp (disch := decide) only [resultsM, resultsA, resT, opsLoop, evOper, wantedA, nth, aop, aPick, aBin, aIndexAddr, aFieldAddr, aLoad, aStore, aExtract, aConvert, aAlloc, aBox, aIndex, callA, builtinA, Fr.evs, opt, val, when, AM.run, outV, newA, ptr, force_eq, seen_heap, seen_next, seen_mark, seen_seen, agg_cells, int_cells, Fr.ev, Fr.put, onFr, gps, gpn, bltT, still, flat, List.append_nil, List.nil_append, List.cons_append, Nat.reduceEqDiff, ne_eq, not_false_eq_true, reduceCtorEq, Bool.and_true, Bool.true_and, Bool.and_false, Bool.false_and, Bool.not_true, Bool.not_false, Bool.and_self]; rfl
        exact ⟨rfl, Rd.less (s := s) ⟨rfl, rfl, rfl⟩ (Rd.seen s ad.block)⟩
  · cases h
end Go.Proofs.YtioieffmihdheaaDoor.lf
