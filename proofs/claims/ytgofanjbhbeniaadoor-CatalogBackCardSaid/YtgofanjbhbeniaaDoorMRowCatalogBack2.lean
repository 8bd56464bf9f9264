/- Leaves: whether a leaf may be: the walk. -/
import Derived.Test.YtgofanjbhbeniaaDoorMRowCatalogBack1
section
/- Leaves: what the code that makes and reads them does, told shortly: a cut set of one byte; whether a leaf may be. -/
noncomputable section
namespace Go.Proofs.YtgofanjbhbeniaaDoor.lf
open AE
set_option linter.unusedSimpArgs false
set_option linter.unusedVariables false
set_option maxRecDepth 10000

/-! drawn orders of reads -/
theorem clash_reads (rd b i r : Nat) (seen : List (Nat × Nat × Nat)) : clash rd 0 b (keepLog i r 0 seen) = clash rd 0 b seen := by
  unfold keepLog
  split
  · rfl
  · show (match Nat.beq (Nat.lor (Nat.land 0 (Nat.lor rd 0)) (Nat.land r 0)) 0 with | true => clash rd 0 b seen | false => _) = _
    have h1 : Nat.land 0 (Nat.lor rd 0) = 0 := Nat.zero_and _
    have h2 : Nat.land r 0 = 0 := Nat.and_zero _
    rw [h1, h2]
theorem created_self (n : Nat) : created n n = 0 := by
  unfold created
  rw [beq_iff.2 rfl]
theorem clash_nil (rd wr b : Nat) : clash rd wr b [] = false := rfl
theorem keep_none (i : Nat) (seen : List (Nat × Nat × Nat)) : keepLog i 0 0 seen = seen := rfl
theorem lor_zero (n : Nat) : Nat.lor 0 n = n := Nat.zero_or _
theorem lor_zero' (n : Nat) : Nat.lor n 0 = n := Nat.or_zero _

def Z : ByteArray := ⟨⟨[0]⟩⟩
theorem zsize : Z.size = 1 := rfl
theorem zbyte : byteAt Z.data.toList 0 = some (.int .u8 (.ofNat 0)) := rfl

def trimV (ad : Addr) (cap : Nat) (l : List UInt8) : Value := trimLV ad cap (l.take (rl l))
def trimA : List Value → AM Value
  | [.slice a n cap, .string ⟨⟨[x]⟩⟩] => when (Nat.beq x.toNat 0) (match n with
    | 0 => .pure (.slice none 0 0)
    | n + 1 => match a with
      | none => .fail
      | some ad => when (Nat.ble (n + 1) cap && Nat.blt cap OPEN) (loadA ad (n + 1) fun cs => opt (bytesV cs) fun l => .pure (trimV ad cap l)))
  | _ => .fail
abbrev sigT : List (Nat × (List Value → AM Value)) := [(45, trimLA), (46, trimRA)]
theorem tolds_T : Tolds Tryd.prog (sumsOf sigT) := tolds_cons told_trimL (tolds_cons told_trimR tolds_nil)
theorem tgt {f : FuncId} {fi : FI} {c : Code} (hf : E.fn.get f = some fi) (hb : fi.body = some c) : ∀ a b, targetA E (.func f) a b = .pure (.enter f (b ++ a)) := by
  intro a b
  simp only [targetA, hf, opt, hb]
theorem tgTL : ∀ a b, targetA E (.func 45) a b = .pure (.enter 45 (b ++ a)) := tgt (fi := fiTL) (c := cdTL) (by kernel_rfl) (by kernel_rfl)
theorem tgTR : ∀ a b, targetA E (.func 46) a b = .pure (.enter 46 (b ++ a)) := tgt (fi := fiTR) (c := cdTR) (by kernel_rfl) (by kernel_rfl)
theorem sgTL : sumsOf sigT 45 = some trimLA := rfl
theorem sgTR : sumsOf sigT 46 = some trimRA := rfl

theorem Bs.load {s : S} {ad : Addr} {l : List UInt8} (h : Bs s ad l) {β : Type} (k : List UInt8 → AM β) : (loadA ad l.length fun cs => opt (bytesV cs) k).run s = (k l).run (s.seen ad.block) := by
  obtain ⟨c, m, h1, h2, h3⟩ := h.cell
  have h4 := rd_row h3
  rw [List.length_map] at h4
  unfold loadA
  rw [h.spot]
  rcases h1 with ⟨e, rm, h1⟩ | ⟨e, h1⟩
  all_goals
    simp only [AM.run, blt_iff.2 h.lt, h1, when, ble_iff.2 h2, show Nat.ble (Nat.add ad.off l.length) m = true from ble_iff.2 h2, opt, h4, bytesV_map]
    rfl
theorem Bs.take {s : S} {ad : Addr} {l : List UInt8} (h : Bs s ad l) (n : Nat) : Bs s ad (l.take n) := by
  obtain ⟨c, m, h1, h2, h3⟩ := h.cell
  refine ⟨h.spot, h.lt, c, m, h1, by rw [List.length_take]; omega, ?_⟩
  have := h3.sub 0 n
  simpa using this
theorem Bs.of {s s' : S} {ad : Addr} {l : List UInt8} (h : Bs s ad l) (hh : s'.heap = s.heap) (hn : s'.next = s.next) : Bs s' ad l := ⟨h.spot, by rw [hn]; exact h.lt, by obtain ⟨c, m, h1, h2⟩ := h.cell; exact ⟨c, m, h1.of (by rw [hh]), h2⟩⟩
theorem trimRA_run {s : S} {ad : Addr} {l : List UInt8} {cap : Nat} (h : Bs s ad l) (h1 : l.length ≤ cap) (h2 : cap < OPEN) (h3 : 1 ≤ cap) :
    (trimRA [.slice (some ad) l.length cap, .int .u8 (.ofNat 0)]).run s = some (.slice (some ad) (rl l) cap, s.seen ad.block) := by
  simp only [trimRA, when, ble_iff.2 h1, blt_iff.2 h2, ble_iff.2 h3, Bool.and_self, Bs.load h, AM.run]
theorem trimLA_run {s : S} {ad : Addr} {l : List UInt8} {cap : Nat} (h : Bs s ad l) (h1 : l.length ≤ cap) (h2 : cap < OPEN) :
    (trimLA [.slice (some ad) l.length cap, .int .u8 (.ofNat 0)]).run s = some (trimLV ad cap l, s.seen ad.block) := by
  simp only [trimLA, when, ble_iff.2 h1, blt_iff.2 h2, Bool.and_self, Bs.load h, AM.run]

noncomputable def fiT : FI := FI.of Tryd.f40
noncomputable def cdT : Code := bodyOf Tryd.f40
theorem resT : fiT.results = [.tmp 4] := rfl
theorem told_trim : AE.Told Tryd.prog 40 trimA := by
  refine told_go hE hmix tolds_T ?_
  intro args s v s' h hm
  unfold trimA at h
  split at h
  · rename_i a n cap x
    obtain ⟨hx, h2⟩ := run_when h
    obtain rfl : x = 0 := UInt8.toNat_inj.1 (by simpa using beq_iff.1 hx)
    clear h
    refine go_enter (fi := fiT) (c := cdT) (by kernel_rfl) (by kernel_rfl) 42 rfl rfl ?_
    have h0 : (Tr.ofList [Value.slice a n cap, .string ⟨⟨[0]⟩⟩]).get 0 = some (.slice a n cap) := rfl
    have h1 : (Tr.ofList [Value.slice a n cap, .string ⟨⟨[0]⟩⟩]).get 1 = some (.string Z) := rfl
    generalize Tr.ofList [Value.slice a n cap, .string ⟨⟨[0]⟩⟩] = t at *
    simp only [cdT, Tryd.f40, bodyOf]
    cases n with
    | zero =>
      have h3 : (AM.pure (Value.slice none 0 0)).run s = some (v, s') := h2
      cases h3
      have h0' : t.get 0 = some (.slice a 0 cap) := h0
      repeat apply go_seq
      apply go_region
      case h => intro m; simp (maxSteps := 2000000) (disch := decide) only [opsLoop, evOper, wantedA, nth, aop, aPick, aBin, aIndexAddr, aFieldAddr, aLoad, aStore, aExtract, aConvert, aAlloc, aBox, aIndex, callA, builtinA, Fr.evs, opt, val, when, AM.run, outV, newA, ptr, force_eq, seen_heap, seen_next, seen_mark, seen_seen, agg_cells, int_cells, Fr.ev, Fr.put, onFr, gps, gpn, bltT, still, flat, List.append_nil, List.nil_append, List.cons_append, Nat.reduceEqDiff, ne_eq, not_false_eq_true, reduceCtorEq, Bool.and_true, Bool.true_and, Bool.and_false, Bool.false_and, Bool.not_true, Bool.not_false, Bool.and_self]; rfl
      repeat apply go_seq
      apply go_region
      case h => intro m; simp (maxSteps := 2000000) (disch := decide) only [opsLoop, evOper, wantedA, nth, aop, aPick, aBin, aIndexAddr, aFieldAddr, aLoad, aStore, aExtract, aConvert, aAlloc, aBox, aIndex, callA, builtinA, Fr.evs, opt, val, when, AM.run, outV, newA, ptr, force_eq, seen_heap, seen_next, seen_mark, seen_seen, agg_cells, int_cells, Fr.ev, Fr.put, onFr, gps, gpn, bltT, still, flat, List.append_nil, List.nil_append, List.cons_append, Nat.reduceEqDiff, ne_eq, not_false_eq_true, reduceCtorEq, Bool.and_true, Bool.true_and, Bool.and_false, Bool.false_and, Bool.not_true, Bool.not_false, Bool.and_self, h0', tyB, dsB, b_eql, int0, eqI_t]; rfl
      repeat apply go_seq
      apply go_cond
      case hc => simp (disch := decide) only [opsLoop, evOper, wantedA, nth, aop, aPick, aBin, aIndexAddr, aFieldAddr, aLoad, aStore, aExtract, aConvert, aAlloc, aBox, aIndex, callA, builtinA, Fr.evs, opt, val, when, AM.run, outV, newA, ptr, force_eq, seen_heap, seen_next, seen_mark, seen_seen, agg_cells, int_cells, Fr.ev, Fr.put, onFr, gps, gpn, bltT, still, flat, List.append_nil, List.nil_append, List.cons_append, Nat.reduceEqDiff, ne_eq, not_false_eq_true, reduceCtorEq, Bool.and_true, Bool.true_and, Bool.and_false, Bool.false_and, Bool.not_true, Bool.not_false, Bool.and_self]; rfl
      case h2 => intro h; cases h
      intro _
      repeat apply go_seq
      apply go_region
      case h => intro m; simp (maxSteps := 2000000) (disch := decide) only [opsLoop, evOper, wantedA, nth, aop, aPick, aBin, aIndexAddr, aFieldAddr, aLoad, aStore, aExtract, aConvert, aAlloc, aBox, aIndex, callA, builtinA, Fr.evs, opt, val, when, AM.run, outV, newA, ptr, force_eq, seen_heap, seen_next, seen_mark, seen_seen, agg_cells, int_cells, Fr.ev, Fr.put, onFr, gps, gpn, bltT, still, flat, List.append_nil, List.nil_append, List.cons_append, Nat.reduceEqDiff, ne_eq, not_false_eq_true, reduceCtorEq, Bool.and_true, Bool.true_and, Bool.and_false, Bool.false_and, Bool.not_true, Bool.not_false, Bool.and_self]; rfl
      repeat apply go_seq
      apply go_ret
      apply ret_intro rfl rfl
      case run => simp (disch := decide) only [resultsM, resultsA, resT, opsLoop, evOper, wantedA, nth, aop, aPick, aBin, aIndexAddr, aFieldAddr, aLoad, aStore, aExtract, aConvert, aAlloc, aBox, aIndex, callA, builtinA, Fr.evs, opt, val, when, AM.run, outV, newA, ptr, force_eq, seen_heap, seen_next, seen_mark, seen_seen, agg_cells, int_cells, Fr.ev, Fr.put, onFr, gps, gpn, bltT, still, flat, List.append_nil, List.nil_append, List.cons_append, Nat.reduceEqDiff, ne_eq, not_false_eq_true, reduceCtorEq, Bool.and_true, Bool.true_and, Bool.and_false, Bool.false_and, Bool.not_true, Bool.not_false, Bool.and_self]; rfl
      exact ⟨rfl, Less'.refl _⟩
    | succ n =>
      cases a with
      | none => cases h2
      | some ad =>
        have h3 : (when (Nat.ble (n + 1) cap && Nat.blt cap OPEN) (loadA ad (n + 1) fun cs => opt (bytesV cs) fun l => .pure (trimV ad cap l))).run s = some (v, s') := h2
        clear h2
        obtain ⟨hc, h4⟩ := run_when h3
        simp only [Bool.and_eq_true] at hc
        have hle := ble_iff.1 hc.1
        have hop := blt_iff.1 hc.2
        obtain ⟨l, hl, hb, h5⟩ := bs_of_load h4
        cases h5
        have hne : eqI (Int.ofNat (n + 1)) (Int.ofNat 0) = false := eqI_f (by omega)
        have hstr : ∀ E t, binA E .eql t (.string Z) (.string ⟨#[]⟩) = some (.bool false) := fun E t => rfl
        have hlss : ∀ E t, binA E .lss t (.int .u8 (.ofNat 0)) (.int .u8 128) = some (.bool true) := fun E t => rfl
        have hz1 : eqI (Int.ofNat 1) (Int.ofNat 1) = true := rfl
        repeat apply go_seq
        apply go_region
        case h => intro m; simp (maxSteps := 2000000) (disch := decide) only [opsLoop, evOper, wantedA, nth, aop, aPick, aBin, aIndexAddr, aFieldAddr, aLoad, aStore, aExtract, aConvert, aAlloc, aBox, aIndex, callA, builtinA, Fr.evs, opt, val, when, AM.run, outV, newA, ptr, force_eq, seen_heap, seen_next, seen_mark, seen_seen, agg_cells, int_cells, Fr.ev, Fr.put, onFr, gps, gpn, bltT, still, flat, List.append_nil, List.nil_append, List.cons_append, Nat.reduceEqDiff, ne_eq, not_false_eq_true, reduceCtorEq, Bool.and_true, Bool.true_and, Bool.and_false, Bool.false_and, Bool.not_true, Bool.not_false, Bool.and_self]; rfl
        repeat apply go_seq
        apply go_region
        case h => intro m; simp (maxSteps := 2000000) (disch := decide) only [opsLoop, evOper, wantedA, nth, aop, aPick, aBin, aIndexAddr, aFieldAddr, aLoad, aStore, aExtract, aConvert, aAlloc, aBox, aIndex, callA, builtinA, Fr.evs, opt, val, when, AM.run, outV, newA, ptr, force_eq, seen_heap, seen_next, seen_mark, seen_seen, agg_cells, int_cells, Fr.ev, Fr.put, onFr, gps, gpn, bltT, still, flat, List.append_nil, List.nil_append, List.cons_append, Nat.reduceEqDiff, ne_eq, not_false_eq_true, reduceCtorEq, Bool.and_true, Bool.true_and, Bool.and_false, Bool.false_and, Bool.not_true, Bool.not_false, Bool.and_self, h0, tyB, dsB, b_eql, int0, hne]; rfl
        repeat apply go_seq
        apply go_cond
        case hc => simp (disch := decide) only [opsLoop, evOper, wantedA, nth, aop, aPick, aBin, aIndexAddr, aFieldAddr, aLoad, aStore, aExtract, aConvert, aAlloc, aBox, aIndex, callA, builtinA, Fr.evs, opt, val, when, AM.run, outV, newA, ptr, force_eq, seen_heap, seen_next, seen_mark, seen_seen, agg_cells, int_cells, Fr.ev, Fr.put, onFr, gps, gpn, bltT, still, flat, List.append_nil, List.nil_append, List.cons_append, Nat.reduceEqDiff, ne_eq, not_false_eq_true, reduceCtorEq, Bool.and_true, Bool.true_and, Bool.and_false, Bool.false_and, Bool.not_true, Bool.not_false, Bool.and_self]; rfl
        case h1 => intro h; cases h
        intro _
        apply go_skip
        repeat apply go_seq
        apply go_region
        case h => intro m; simp (maxSteps := 2000000) (disch := decide) only [opsLoop, evOper, wantedA, nth, aop, aPick, aBin, aIndexAddr, aFieldAddr, aLoad, aStore, aExtract, aConvert, aAlloc, aBox, aIndex, callA, builtinA, Fr.evs, opt, val, when, AM.run, outV, newA, ptr, force_eq, seen_heap, seen_next, seen_mark, seen_seen, agg_cells, int_cells, Fr.ev, Fr.put, onFr, gps, gpn, bltT, still, flat, List.append_nil, List.nil_append, List.cons_append, Nat.reduceEqDiff, ne_eq, not_false_eq_true, reduceCtorEq, Bool.and_true, Bool.true_and, Bool.and_false, Bool.false_and, Bool.not_true, Bool.not_false, Bool.and_self, h0, h1, hstr]; rfl
        repeat apply go_seq
        apply go_cond
        case hc => simp (disch := decide) only [opsLoop, evOper, wantedA, nth, aop, aPick, aBin, aIndexAddr, aFieldAddr, aLoad, aStore, aExtract, aConvert, aAlloc, aBox, aIndex, callA, builtinA, Fr.evs, opt, val, when, AM.run, outV, newA, ptr, force_eq, seen_heap, seen_next, seen_mark, seen_seen, agg_cells, int_cells, Fr.ev, Fr.put, onFr, gps, gpn, bltT, still, flat, List.append_nil, List.nil_append, List.cons_append, Nat.reduceEqDiff, ne_eq, not_false_eq_true, reduceCtorEq, Bool.and_true, Bool.true_and, Bool.and_false, Bool.false_and, Bool.not_true, Bool.not_false, Bool.and_self]; rfl
        case h1 => intro h; cases h
        intro _
        apply go_skip
        repeat apply go_seq
        apply go_region
        case h => intro m; simp (maxSteps := 2000000) (disch := decide) only [opsLoop, evOper, wantedA, nth, aop, aPick, aBin, aIndexAddr, aFieldAddr, aLoad, aStore, aExtract, aConvert, aAlloc, aBox, aIndex, callA, builtinA, Fr.evs, opt, val, when, AM.run, outV, newA, ptr, force_eq, seen_heap, seen_next, seen_mark, seen_seen, agg_cells, int_cells, Fr.ev, Fr.put, onFr, gps, gpn, bltT, still, flat, List.append_nil, List.nil_append, List.cons_append, Nat.reduceEqDiff, ne_eq, not_false_eq_true, reduceCtorEq, Bool.and_true, Bool.true_and, Bool.and_false, Bool.false_and, Bool.not_true, Bool.not_false, Bool.and_self, h0, h1, tySt, dsSt, zsize, zbyte, b_eql, int1, hz1, int0, hlss]; rfl
        repeat apply go_seq
        apply go_cond
        case hc => simp (disch := decide) only [opsLoop, evOper, wantedA, nth, aop, aPick, aBin, aIndexAddr, aFieldAddr, aLoad, aStore, aExtract, aConvert, aAlloc, aBox, aIndex, callA, builtinA, Fr.evs, opt, val, when, AM.run, outV, newA, ptr, force_eq, seen_heap, seen_next, seen_mark, seen_seen, agg_cells, int_cells, Fr.ev, Fr.put, onFr, gps, gpn, bltT, still, flat, List.append_nil, List.nil_append, List.cons_append, Nat.reduceEqDiff, ne_eq, not_false_eq_true, reduceCtorEq, Bool.and_true, Bool.true_and, Bool.and_false, Bool.false_and, Bool.not_true, Bool.not_false, Bool.and_self]; rfl
        case h2 => intro h; cases h
        intro _
        have htk : (l.take (rl l)).length = rl l := by rw [List.length_take]; have := rl_le l; omega
        have hR := trimRA_run (cap := cap) (hb.of (s' := ⟨s.heap, s.next, s.next, 0, 0⟩) rfl rfl) (by omega) hop (by omega)
        have hL := trimLA_run (cap := cap) ((hb.take (rl l)).of (s' := ⟨s.heap, s.next, s.next, 0, 0⟩) rfl rfl) (by rw [htk]; have := rl_le l; omega) hop
        rw [hl] at hR
        rw [htk] at hL
        simp only [S.seen] at hR hL
        repeat apply go_seq
        apply go_drawn
        case hs => rfl
        case h => intro m; simp (maxSteps := 2000000) (disch := decide) only [opsLoop, evOper, wantedA, nth, aop, aPick, aBin, aIndexAddr, aFieldAddr, aLoad, aStore, aExtract, aConvert, aAlloc, aBox, aIndex, callA, builtinA, Fr.evs, opt, val, when, AM.run, outV, newA, ptr, force_eq, seen_heap, seen_next, seen_mark, seen_seen, agg_cells, int_cells, Fr.ev, Fr.put, onFr, gps, gpn, bltT, still, flat, List.append_nil, List.nil_append, List.cons_append, Nat.reduceEqDiff, ne_eq, not_false_eq_true, reduceCtorEq, Bool.and_true, Bool.true_and, Bool.and_false, Bool.false_and, Bool.not_true, Bool.not_false, Bool.and_self, drawnLoop, force_eq, S.seen, keep_none, clash_nil, clash_reads, created_self, lor_zero, lor_zero', h0, h1, tySt, dsSt, zbyte, int0, tgTL, tgTR, evT_told sgTR, evT_told sgTL, hR, hL]; rfl
        repeat apply go_seq
        apply go_ret
        apply ret_intro rfl rfl
        case run => simp (disch := decide) only [resultsM, resultsA, resT, opsLoop, evOper, wantedA, nth, aop, aPick, aBin, aIndexAddr, aFieldAddr, aLoad, aStore, aExtract, aConvert, aAlloc, aBox, aIndex, callA, builtinA, Fr.evs, opt, val, when, AM.run, outV, newA, ptr, force_eq, seen_heap, seen_next, seen_mark, seen_seen, agg_cells, int_cells, Fr.ev, Fr.put, onFr, gps, gpn, bltT, still, flat, List.append_nil, List.nil_append, List.cons_append, Nat.reduceEqDiff, ne_eq, not_false_eq_true, reduceCtorEq, Bool.and_true, Bool.true_and, Bool.and_false, Bool.false_and, Bool.not_true, Bool.not_false, Bool.and_self]; rfl
        exact ⟨rfl, Rd.less (s := s) ⟨rfl, rfl, rfl⟩ (Rd.seen s ad.block)⟩
  · cases h
end Go.Proofs.YtgofanjbhbeniaaDoor.lf
end
end

section
/- Leaves: whether a leaf may be. -/
noncomputable section
namespace Go.Proofs.YtgofanjbhbeniaaDoor.lf
open AE
set_option linter.unusedSimpArgs false
set_option linter.unusedVariables false
set_option maxRecDepth 10000

/-- a leaf, as plain data -/
structure LeafD where
  kind : Int
  file : Int
  place : Int
  next : Int
  size : Int
  load : List UInt8
def LeafD.cells (d : LeafD) : List Value := [.int .i64 d.kind, .int .i64 d.file, .int .i64 d.place, .int .i64 d.next, .int .i64 d.size] ++ d.load.map bv
def LeafD.val (d : LeafD) : Value := .agg ⟨d.cells⟩
def leafOf : List Value → Option LeafD
  | .int .i64 a :: .int .i64 b :: .int .i64 c :: .int .i64 d :: .int .i64 e :: l => match bytesV l with
    | none => none
    | some bs => match Nat.beq bs.length 116 with
      | true => some ⟨a, b, c, d, e, bs⟩
      | false => none
  | _ => none
theorem leafOf_inv {cs : List Value} {d : LeafD} (h : leafOf cs = some d) : cs = d.cells ∧ d.load.length = 116 := by
  unfold leafOf at h
  split at h
  · rename_i a b c e f l
    split at h
    · cases h
    · rename_i bs hbs
      split at h
      · rename_i hb
        cases h
        exact ⟨by rw [bytesV_inv hbs]; rfl, beq_iff.1 hb⟩
      · cases h
  · cases h
theorem leafOf_cells (d : LeafD) (h : d.load.length = 116) : leafOf d.cells = some d := by
  simp only [LeafD.cells, List.cons_append, List.nil_append, leafOf, bytesV_map, beq_iff.2 h]
theorem LeafD.len (d : LeafD) (h : d.load.length = 116) : d.cells.length = 121 := by simp [LeafD.cells, h]

def wi (n lo hi : Int) : Bool := not (ltI n lo) && not (ltI hi n)
theorem wi_iff {n lo hi : Int} : wi n lo hi = true ↔ lo ≤ n ∧ n ≤ hi := by
  unfold wi
  rw [ltI_not, ltI_not]
  simp
def noughts (l : List UInt8) : Bool := Nat.beq (lead l) l.length
/-- may it be? -/
def rightL (d : LeafD) : Bool := wi d.file 0 65535 && wi d.place 0 65535 && wi d.next 0 65535 && wi d.kind 1 2 && wi d.size 0 116 && noughts (d.load.drop d.size.toNat)
def rightA : List Value → AM Value
  | [.agg ⟨cs⟩] => opt (leafOf cs) fun d => bump 2 (.pure (.bool (rightL d)))
  | _ => .fail

/-! a cell is read -/
theorem cell_load {s : S} {b off : Nat} {v : Value} {c : Tr Value} {m : Nat} {e : TypeId} {rm : Room} (i : TI) (hi : isAggD i.desc = false) (hlt : b < s.next) (hg : s.heap.get b = some (.cells c m e rm)) (hm : off + 1 ≤ m) (hc : c.get off = some v) :
    (loadT i ⟨b, off, none⟩ AE.val).run s = some (.value v, s.seen b) := by
  unfold loadT loadA
  rw [hi]
  simp only [AM.run, blt_iff.2 hlt, hg, when, show Nat.ble (Nat.add off 1) m = true from ble_iff.2 hm, rdCells, show Nat.add off 0 = off from rfl, hc, opt, AE.val]
  rfl

theorem has_load {s : S} {b off : Nat} {v : Value} {c : Tr Value} {m : Nat} (i : TI) (hi : isAggD i.desc = false) (hlt : b < s.next) (hg : Has s b c m) (hm : off + 1 ≤ m) (hc : c.get off = some v) :
    (loadT i ⟨b, off, none⟩ AE.val).run s = some (.value v, s.seen b) := by
  unfold loadT loadA
  rw [hi]
  rcases hg with ⟨e, rm, hg⟩ | ⟨e, hg⟩
  all_goals
    simp only [AM.run, blt_iff.2 hlt, hg, when, show Nat.ble (Nat.add off 1) m = true from ble_iff.2 hm, rdCells, show Nat.add off 0 = off from rfl, hc, opt, AE.val]
    rfl
noncomputable def tiLf : TI := TI.of Tryd.prog 30
theorem tyLf : E.ty.get 30 = some tiLf := by kernel_rfl
theorem szLf : tiLf.size = 121 := by kernel_rfl
noncomputable def fsLf : Array Field := match tiLf.desc with | .struct fs => fs | _ => #[]
theorem dsLf : tiLf.desc = .struct fsLf := by kernel_rfl
noncomputable def fd (i : Nat) : Field := (fieldAt? fsLf.toList i).getD default
theorem fl0 : fieldAt? fsLf.toList 0 = some (fd 0) := by kernel_rfl
theorem fl1 : fieldAt? fsLf.toList 1 = some (fd 1) := by kernel_rfl
theorem fl2 : fieldAt? fsLf.toList 2 = some (fd 2) := by kernel_rfl
theorem fl3 : fieldAt? fsLf.toList 3 = some (fd 3) := by kernel_rfl
theorem fl4 : fieldAt? fsLf.toList 4 = some (fd 4) := by kernel_rfl
theorem fl5 : fieldAt? fsLf.toList 5 = some (fd 5) := by kernel_rfl
theorem ft0 : (fd 0).type = 3 := by kernel_rfl
theorem ft1 : (fd 1).type = 3 := by kernel_rfl
theorem ft2 : (fd 2).type = 3 := by kernel_rfl
theorem ft3 : (fd 3).type = 3 := by kernel_rfl
theorem ft4 : (fd 4).type = 3 := by kernel_rfl
theorem ft5 : (fd 5).type = 28 := by kernel_rfl
theorem fo0 : (fd 0).offset = 0 := by kernel_rfl
theorem fo1 : (fd 1).offset = 1 := by kernel_rfl
theorem fo2 : (fd 2).offset = 2 := by kernel_rfl
theorem fo3 : (fd 3).offset = 3 := by kernel_rfl
theorem fo4 : (fd 4).offset = 4 := by kernel_rfl
theorem fo5 : (fd 5).offset = 5 := by kernel_rfl
theorem ble11 : Nat.ble 1 1 = true := rfl
theorem ble1A : Nat.ble 1 116 = true := rfl
theorem ad0 (n : Nat) : addA ⟨n, 0, none⟩ 0 = ⟨n, 0, none⟩ := rfl
theorem ad1 (n : Nat) : addA ⟨n, 0, none⟩ 1 = ⟨n, 1, none⟩ := rfl
theorem ad2 (n : Nat) : addA ⟨n, 0, none⟩ 2 = ⟨n, 2, none⟩ := rfl
theorem ad3' (n : Nat) : addA ⟨n, 0, none⟩ 3 = ⟨n, 3, none⟩ := rfl
theorem ad4 (n : Nat) : addA ⟨n, 0, none⟩ 4 = ⟨n, 4, none⟩ := rfl
theorem ad5 (n : Nat) : addA ⟨n, 0, none⟩ 5 = ⟨n, 5, none⟩ := rfl

/-- the leaf d lies in the block n, whole -/
structure LfAt (s : S) (n : Nat) (d : LeafD) : Prop where
  lt : n < s.next
  cell : ∃ c e rm, s.heap.get n = some (.cells c 121 e rm) ∧ Row c 0 d.cells
  len : d.load.length = 116
theorem LfAt.rd {s s' : S} {n : Nat} {d : LeafD} (h : LfAt s n d) (hr : Rd s s') : LfAt s' n d := ⟨by rw [hr.next]; exact h.lt, by rw [hr.heap]; exact h.cell, h.len⟩
theorem LfAt.get {s : S} {n : Nat} {d : LeafD} (h : LfAt s n d) (k : Nat) (v : Value) (hk : d.cells[k]? = some v) : (loadT tiI ⟨n, k, none⟩ AE.val).run s = some (.value v, s.seen n) := by
  obtain ⟨c, e, rm, h1, h2⟩ := h.cell
  have hlt := (List.getElem?_eq_some_iff.1 hk).1
  rw [d.len h.len] at hlt
  exact cell_load tiI (by rw [dsI]; rfl) h.lt h1 (by omega) (by have := h2 k v hk; rwa [Nat.zero_add] at this)
theorem LfAt.bs {s : S} {n : Nat} {d : LeafD} (h : LfAt s n d) (k : Nat) (hk : k ≤ 116) : Bs s ⟨n, 5 + k, none⟩ (d.load.drop k) := by
  obtain ⟨c, e, rm, h1, h2⟩ := h.cell
  refine ⟨rfl, h.lt, c, 121, .inl ⟨e, rm, h1⟩, by simp [h.len]; omega, ?_⟩
  intro j v hj
  have h3 : d.cells[5 + k + j]? = some v := by
    unfold LeafD.cells
    rw [List.getElem?_append_right (by simp; omega)]
    rw [List.map_drop, List.getElem?_drop] at hj
    simpa [show 5 + k + j - 5 = k + j by omega] using hj
  have := h2 _ _ h3
  simpa using this
end Go.Proofs.YtgofanjbhbeniaaDoor.lf
end
end

section
/- Leaves: whether a leaf may be: the walk. -/
noncomputable section
namespace Go.Proofs.YtgofanjbhbeniaaDoor.lf
open AE
set_option linter.unusedSimpArgs false
set_option linter.unusedVariables false
set_option maxRecDepth 10000

abbrev sigR : List (Nat × (List Value → AM Value)) := [(39, withinA), (40, trimA)]
theorem tolds_R : Tolds Tryd.prog (sumsOf sigR) := tolds_cons told_within (tolds_cons told_trim tolds_nil)
theorem sgW : sumsOf sigR 39 = some withinA := rfl
theorem sgT : sumsOf sigR 40 = some trimA := rfl
theorem tgW : ∀ a b, targetA E (.func 39) a b = .pure (.enter 39 (b ++ a)) := tgt (fi := fiW) (c := cdW) (by kernel_rfl) (by kernel_rfl)
theorem tgT : ∀ a b, targetA E (.func 40) a b = .pure (.enter 40 (b ++ a)) := tgt (fi := fiT) (c := cdT) (by kernel_rfl) (by kernel_rfl)
theorem withinA_run (n lo hi : Int) (s : S) : (withinA [.int .i64 n, .int .i64 lo, .int .i64 hi]).run s = some (.bool (wi n lo hi), s) := rfl
theorem add0 (b i : Nat) : addA ⟨b, 0, none⟩ i = ⟨b, i, none⟩ := by
  cases i with
  | zero => rfl
  | succ k => show (⟨b, Nat.add 0 (Nat.succ k), none⟩ : Addr) = _; rw [show Nat.add 0 (Nat.succ k) = k + 1 from Nat.zero_add _]
theorem mul1 (i : Nat) : Nat.mul i 1 = i := Nat.mul_one i
theorem b_incr {n : Nat} (h : n < 9223372036854775807) : ∀ E t, binA E .add t (.int .i64 (.ofNat n)) (.int .i64 (.ofNat 1)) = some (.int .i64 (.ofNat (n + 1))) := fun E t => b_inc h

noncomputable def fiR : FI := FI.of Tryd.f24
noncomputable def cdR : Code := bodyOf Tryd.f24
noncomputable def cdRl : Code := sub [1,0,1,0,0] cdR
theorem resR : fiR.results = [.tmp 2] := rfl

def three (d : LeafD) : List Int := [d.file, d.place, d.next]
structure R3 (s : S) (n : Nat) (d : LeafD) : Prop where
  lf : LfAt s n d
  lt : n + 1 < s.next
  cell : ∃ c e rm, s.heap.get (n + 1) = some (.cells c 3 e rm) ∧ Row c 0 [.int .i64 d.file, .int .i64 d.place, .int .i64 d.next]
theorem R3.rd {s s' : S} {n : Nat} {d : LeafD} (h : R3 s n d) (hr : Rd s s') : R3 s' n d := ⟨h.lf.rd hr, by rw [hr.next]; exact h.lt, by rw [hr.heap]; exact h.cell⟩
theorem R3.get {s : S} {n : Nat} {d : LeafD} (h : R3 s n d) (k : Nat) (x : Int) (hk : (three d)[k]? = some x) : (loadT tiI ⟨n + 1, k, none⟩ AE.val).run s = some (.value (.int .i64 x), s.seen (n + 1)) := by
  obtain ⟨c, e, rm, h1, h2⟩ := h.cell
  have hlt : k < 3 := (List.getElem?_eq_some_iff.1 hk).1
  refine cell_load tiI (by rw [dsI]; rfl) h.lt h1 (by omega) ?_
  have h3 : [Value.int .i64 d.file, .int .i64 d.place, .int .i64 d.next][k]? = some (.int .i64 x) := by
    match k, hlt with
    | 0, _ => simpa [three] using hk
    | 1, _ => simpa [three] using hk
    | 2, _ => simpa [three] using hk
  have := h2 k _ h3
  rwa [Nat.zero_add] at this

def InvR (d : LeafD) (n : Nat) (s0 : S) (k : Nat) (fr : Fr) (s : S) : Prop :=
  ∃ (i : Nat) (t : Tr Value), k = 3 - i ∧ i ≤ 3 ∧ fr = ⟨24, t, 38, [], none⟩ ∧ Rd s0 s ∧ t.get 1 = some (.pointer (some ⟨n, 0, none⟩)) ∧ t.get 11 = some (.slice (some ⟨n + 1, 0, none⟩) 3 3) ∧
    t.get 12 = some (.int .i64 (.ofNat 3)) ∧ t.get 13 = some (.int .i64 (.ofNat i)) ∧ (∀ (j : Nat) (x : Int), j < i → (three d)[j]? = some x → wi x 0 65535 = true)
def PostR (d : LeafD) (n : Nat) (s0 : S) (x : Ex) (fr : Fr) (s : S) : Prop :=
  ∃ t : Tr Value, fr = ⟨24, t, 38, [], none⟩ ∧ Rd s0 s ∧ ((x = .exit 0 ∧ t.get 1 = some (.pointer (some ⟨n, 0, none⟩)) ∧ ∀ (j : Nat) (x : Int), (three d)[j]? = some x → wi x 0 65535 = true) ∨
    (x = .ret ∧ t.get 2 = some (.bool false) ∧ ∃ (j : Nat) (x : Int), (three d)[j]? = some x ∧ wi x 0 65535 = false))
theorem right_round (d : LeafD) (n : Nat) (s0 : S) (h3 : R3 s0 n d) (k : Nat) (fr : Fr) (s : S) (h : InvR d n s0 k fr s) : GoC E (sumsOf sigR) cdRl fr s (Again (InvR d n s0) k (PostR d n s0)) := by
  obtain ⟨i, t, hk, hi, rfl, hr, g1, g11, g12, g13, hall⟩ := h
  simp only [cdRl, cdR, Tryd.f24, bodyOf, sub]
  by_cases hlt : i < 3
  · obtain ⟨x, hx⟩ : ∃ x, (three d)[i]? = some x := ⟨_, List.getElem?_eq_getElem (by simpa [three] using hlt)⟩
    have hlt' : ltI (Int.ofNat i) (Int.ofNat 3) = true := by rw [ltI_eq]; simp; omega
    have hb : Nat.blt i 3 = true := blt_iff.2 hlt
    have hld := (h3.rd hr).get i x hx
    have hinc := b_incr (n := i) (by omega)
    repeat apply go_seq
    apply go_region
    case h => intro m; simp (maxSteps := 2000000) (disch := decide) only [opsLoop, evOper, wantedA, nth, aop, aPick, aBin, aIndexAddr, aFieldAddr, aLoad, aStore, aExtract, aConvert, aAlloc, aBox, aIndex, callA, builtinA, Fr.evs, opt, val, when, AM.run, outV, newA, ptr, force_eq, seen_heap, seen_next, seen_mark, seen_seen, agg_cells, int_cells, Fr.ev, Fr.put, onFr, gps, gpn, bltT, still, flat, List.append_nil, List.nil_append, List.cons_append, Nat.reduceEqDiff, ne_eq, not_false_eq_true, reduceCtorEq, Bool.and_true, Bool.true_and, Bool.and_false, Bool.false_and, Bool.not_true, Bool.not_false, Bool.and_self, g12, g13, b_lss, hlt']; rfl
    repeat apply go_seq
    apply go_cond
    case hc => simp (disch := decide) only [opsLoop, evOper, wantedA, nth, aop, aPick, aBin, aIndexAddr, aFieldAddr, aLoad, aStore, aExtract, aConvert, aAlloc, aBox, aIndex, callA, builtinA, Fr.evs, opt, val, when, AM.run, outV, newA, ptr, force_eq, seen_heap, seen_next, seen_mark, seen_seen, agg_cells, int_cells, Fr.ev, Fr.put, onFr, gps, gpn, bltT, still, flat, List.append_nil, List.nil_append, List.cons_append, Nat.reduceEqDiff, ne_eq, not_false_eq_true, reduceCtorEq, Bool.and_true, Bool.true_and, Bool.and_false, Bool.false_and, Bool.not_true, Bool.not_false, Bool.and_self]; rfl
    case h2 => intro h; cases h
    intro _
    apply go_skip
    apply go_seq
    apply go_block
    repeat apply go_seq
    apply go_region
    case h => intro m; simp (maxSteps := 2000000) (disch := decide) only [opsLoop, evOper, wantedA, nth, aop, aPick, aBin, aIndexAddr, aFieldAddr, aLoad, aStore, aExtract, aConvert, aAlloc, aBox, aIndex, callA, builtinA, Fr.evs, opt, val, when, AM.run, outV, newA, ptr, force_eq, seen_heap, seen_next, seen_mark, seen_seen, agg_cells, int_cells, Fr.ev, Fr.put, onFr, gps, gpn, bltT, still, flat, List.append_nil, List.nil_append, List.cons_append, Nat.reduceEqDiff, ne_eq, not_false_eq_true, reduceCtorEq, Bool.and_true, Bool.true_and, Bool.and_false, Bool.false_and, Bool.not_true, Bool.not_false, Bool.and_self, g11, g13, tyL, dsL, tyI, szI, hb, mul1, add0, hld]; rfl
    cases hw : wi x 0 65535
    · repeat apply go_seq
      apply go_region
      case h => intro m; simp (maxSteps := 2000000) (disch := decide) only [opsLoop, evOper, wantedA, nth, aop, aPick, aBin, aIndexAddr, aFieldAddr, aLoad, aStore, aExtract, aConvert, aAlloc, aBox, aIndex, callA, builtinA, Fr.evs, opt, val, when, AM.run, outV, newA, ptr, force_eq, seen_heap, seen_next, seen_mark, seen_seen, agg_cells, int_cells, Fr.ev, Fr.put, onFr, gps, gpn, bltT, still, flat, List.append_nil, List.nil_append, List.cons_append, Nat.reduceEqDiff, ne_eq, not_false_eq_true, reduceCtorEq, Bool.and_true, Bool.true_and, Bool.and_false, Bool.false_and, Bool.not_true, Bool.not_false, Bool.and_self, tgW, evT_told sgW, withinA_run, hw, u_not]; rfl
      repeat apply go_seq
      apply go_cond
      case hc => simp (disch := decide) only [opsLoop, evOper, wantedA, nth, aop, aPick, aBin, aIndexAddr, aFieldAddr, aLoad, aStore, aExtract, aConvert, aAlloc, aBox, aIndex, callA, builtinA, Fr.evs, opt, val, when, AM.run, outV, newA, ptr, force_eq, seen_heap, seen_next, seen_mark, seen_seen, agg_cells, int_cells, Fr.ev, Fr.put, onFr, gps, gpn, bltT, still, flat, List.append_nil, List.nil_append, List.cons_append, Nat.reduceEqDiff, ne_eq, not_false_eq_true, reduceCtorEq, Bool.and_true, Bool.true_and, Bool.and_false, Bool.false_and, Bool.not_true, Bool.not_false, Bool.and_self]; rfl
      case h2 => intro h; cases h
      intro _
      repeat apply go_seq
      apply go_region
      case h => intro m; simp (maxSteps := 2000000) (disch := decide) only [opsLoop, evOper, wantedA, nth, aop, aPick, aBin, aIndexAddr, aFieldAddr, aLoad, aStore, aExtract, aConvert, aAlloc, aBox, aIndex, callA, builtinA, Fr.evs, opt, val, when, AM.run, outV, newA, ptr, force_eq, seen_heap, seen_next, seen_mark, seen_seen, agg_cells, int_cells, Fr.ev, Fr.put, onFr, gps, gpn, bltT, still, flat, List.append_nil, List.nil_append, List.cons_append, Nat.reduceEqDiff, ne_eq, not_false_eq_true, reduceCtorEq, Bool.and_true, Bool.true_and, Bool.and_false, Bool.false_and, Bool.not_true, Bool.not_false, Bool.and_self]; rfl
      apply go_ret
      refine ⟨_, rfl, hr.trans (Rd.seen s (n + 1)), .inr ⟨rfl, ?_, i, x, hx, hw⟩⟩
      simp (disch := decide) only [gps, gpn]
    · repeat apply go_seq
      apply go_region
      case h => intro m; simp (maxSteps := 2000000) (disch := decide) only [opsLoop, evOper, wantedA, nth, aop, aPick, aBin, aIndexAddr, aFieldAddr, aLoad, aStore, aExtract, aConvert, aAlloc, aBox, aIndex, callA, builtinA, Fr.evs, opt, val, when, AM.run, outV, newA, ptr, force_eq, seen_heap, seen_next, seen_mark, seen_seen, agg_cells, int_cells, Fr.ev, Fr.put, onFr, gps, gpn, bltT, still, flat, List.append_nil, List.nil_append, List.cons_append, Nat.reduceEqDiff, ne_eq, not_false_eq_true, reduceCtorEq, Bool.and_true, Bool.true_and, Bool.and_false, Bool.false_and, Bool.not_true, Bool.not_false, Bool.and_self, tgW, evT_told sgW, withinA_run, hw, u_not]; rfl
      repeat apply go_seq
      apply go_cond
      case hc => simp (disch := decide) only [opsLoop, evOper, wantedA, nth, aop, aPick, aBin, aIndexAddr, aFieldAddr, aLoad, aStore, aExtract, aConvert, aAlloc, aBox, aIndex, callA, builtinA, Fr.evs, opt, val, when, AM.run, outV, newA, ptr, force_eq, seen_heap, seen_next, seen_mark, seen_seen, agg_cells, int_cells, Fr.ev, Fr.put, onFr, gps, gpn, bltT, still, flat, List.append_nil, List.nil_append, List.cons_append, Nat.reduceEqDiff, ne_eq, not_false_eq_true, reduceCtorEq, Bool.and_true, Bool.true_and, Bool.and_false, Bool.false_and, Bool.not_true, Bool.not_false, Bool.and_self]; rfl
      case h1 => intro h; cases h
      intro _
      apply go_skip
      repeat apply go_seq
      apply go_region
      case h => intro m; simp (maxSteps := 2000000) (disch := decide) only [opsLoop, evOper, wantedA, nth, aop, aPick, aBin, aIndexAddr, aFieldAddr, aLoad, aStore, aExtract, aConvert, aAlloc, aBox, aIndex, callA, builtinA, Fr.evs, opt, val, when, AM.run, outV, newA, ptr, force_eq, seen_heap, seen_next, seen_mark, seen_seen, agg_cells, int_cells, Fr.ev, Fr.put, onFr, gps, gpn, bltT, still, flat, List.append_nil, List.nil_append, List.cons_append, Nat.reduceEqDiff, ne_eq, not_false_eq_true, reduceCtorEq, Bool.and_true, Bool.true_and, Bool.and_false, Bool.false_and, Bool.not_true, Bool.not_false, Bool.and_self, g13, int1, hinc]; rfl
      refine ⟨3 - (i + 1), by omega, i + 1, _, rfl, by omega, rfl, hr.trans (Rd.seen s (n + 1)), ?_, ?_, ?_, ?_, ?_⟩
      · simp (disch := decide) only [gps, gpn, g1]
      · simp (disch := decide) only [gps, gpn, g11]
      · simp (disch := decide) only [gps, gpn, g12]
      · simp (disch := decide) only [gps, gpn, g13]
      · intro j y hj hy
        by_cases e : j = i
        · subst e; rw [hx] at hy; cases hy; exact hw
        · exact hall j y (by omega) hy
  · obtain rfl : i = 3 := by omega
    have hlt' : ltI (Int.ofNat 3) (Int.ofNat 3) = false := rfl
    repeat apply go_seq
    apply go_region
    case h => intro m; simp (maxSteps := 2000000) (disch := decide) only [opsLoop, evOper, wantedA, nth, aop, aPick, aBin, aIndexAddr, aFieldAddr, aLoad, aStore, aExtract, aConvert, aAlloc, aBox, aIndex, callA, builtinA, Fr.evs, opt, val, when, AM.run, outV, newA, ptr, force_eq, seen_heap, seen_next, seen_mark, seen_seen, agg_cells, int_cells, Fr.ev, Fr.put, onFr, gps, gpn, bltT, still, flat, List.append_nil, List.nil_append, List.cons_append, Nat.reduceEqDiff, ne_eq, not_false_eq_true, reduceCtorEq, Bool.and_true, Bool.true_and, Bool.and_false, Bool.false_and, Bool.not_true, Bool.not_false, Bool.and_self, g12, g13, b_lss, hlt']; rfl
    repeat apply go_seq
    apply go_cond
    case hc => simp (disch := decide) only [opsLoop, evOper, wantedA, nth, aop, aPick, aBin, aIndexAddr, aFieldAddr, aLoad, aStore, aExtract, aConvert, aAlloc, aBox, aIndex, callA, builtinA, Fr.evs, opt, val, when, AM.run, outV, newA, ptr, force_eq, seen_heap, seen_next, seen_mark, seen_seen, agg_cells, int_cells, Fr.ev, Fr.put, onFr, gps, gpn, bltT, still, flat, List.append_nil, List.nil_append, List.cons_append, Nat.reduceEqDiff, ne_eq, not_false_eq_true, reduceCtorEq, Bool.and_true, Bool.true_and, Bool.and_false, Bool.false_and, Bool.not_true, Bool.not_false, Bool.and_self]; rfl
    case h1 => intro h; cases h
    intro _
    apply go_exit
    refine ⟨_, rfl, hr, .inl ⟨rfl, ?_, fun j x hx => hall j x (by have := (List.getElem?_eq_some_iff.1 hx).1; simpa [three] using this) hx⟩⟩
    simp (disch := decide) only [gps, gpn, g1]

/-! names that are taken and let go -/
theorem bump_run {α : Type} : ∀ (n : Nat) (k : AM α) (s : S) (r : α × S), (bump n k).run s = some r → ∃ s1, k.run s1 = some r ∧ s1.next = s.next + n ∧ s1.mark = s.mark ∧ (∀ m, s1.heap.get m = if s.next ≤ m ∧ m < s.next + n then none else s.heap.get m) ∧ (∀ i, i < n → Nat.ble (s.next + i) lastName = true)
  | 0, k, s, r, h => ⟨s, h, rfl, rfl, fun m => by rw [if_neg (by omega)], fun i hi => by omega⟩
  | n + 1, k, s, r, h => by
    obtain ⟨h1, h2⟩ := run_new h
    have hb : Nat.ble s.next lastName = true := by
      simp only [bump, AM.run, force_eq] at h
      cases hh : Nat.ble s.next lastName with
      | true => rfl
      | false => rw [hh] at h; cases h
    obtain ⟨_, _, h3⟩ := run_del h2
    obtain ⟨s1, e1, e2, e3, e4, e5⟩ := bump_run n k _ r h3
    refine ⟨s1, e1, by rw [e2]; show s.next + 1 + n = _; omega, by rw [e3]; rfl, ?_, ?_⟩
    · intro m
      rw [e4 m]
      show (if s.next + 1 ≤ m ∧ m < s.next + 1 + n then none else ((s.heap.put s.next (some (.deferred none))).put s.next none).get m) = _
      rw [Tr.get_put _ _ _ _ h1, Tr.get_put _ _ _ _ h1]
      by_cases hm : m = s.next
      · rw [if_neg (by omega), if_pos hm, if_pos (by omega)]
      · rw [if_neg hm, if_neg hm]
        by_cases h5 : s.next + 1 ≤ m ∧ m < s.next + 1 + n
        · rw [if_pos h5, if_pos (by omega)]
        · rw [if_neg h5, if_neg (by omega)]
    · intro i hi
      cases i with
      | zero => exact hb
      | succ i =>
        have h6 := e5 i (by omega)
        have h7 : (S.turn (s.grow (.deferred none)) s.next none).next + i = s.next + (i + 1) := by show s.next + 1 + i = _; omega
        rw [h7] at h6
        exact h6
theorem hg_same {α : Type} {n : Nat} (h : Nat.ble n lastName = true) (t : Tr α) (x : Option α) : (t.put n x).get n = x := by
  have := ble_iff.1 h
  rw [Tr.get_put _ _ _ _ (by unfold lastName at this; unfold Tr.wide; omega), if_pos rfl]
theorem hg_far {α : Type} {n m : Nat} (h : Nat.ble n lastName = true) (hne : m ≠ n) (t : Tr α) (x : Option α) : (t.put n x).get m = t.get m := by
  have := ble_iff.1 h
  rw [Tr.get_put _ _ _ _ (by unfold lastName at this; unfold Tr.wide; omega), if_neg hne]

/-! all noughts, or not -/
theorem lead_all (l : List UInt8) : lead l = l.length ↔ ∀ (j : Nat) (x : UInt8), l[j]? = some x → x = 0 := by
  induction l with
  | nil => simp [lead]
  | cons y l ih =>
    unfold lead
    constructor
    · intro h
      by_cases hy : y = 0
      · rw [if_pos hy] at h
        have h2 := ih.1 (by simpa using h)
        intro j x hx
        cases j with
        | zero => simp at hx; subst hx; exact hy
        | succ j => exact h2 j x (by simpa using hx)
      · rw [if_neg hy] at h; simp at h
    · intro h
      have hy : y = 0 := h 0 y rfl
      rw [if_pos hy, ih.2 (fun j x hx => h (j + 1) x (by simpa using hx))]
      simp
theorem rl_pos (l : List UInt8) (h : rl l = 0) : ∀ (j : Nat) (x : UInt8), l[j]? = some x → x = 0 := by
  induction l with
  | nil => intro j x hx; simp at hx
  | cons y l ih =>
    unfold rl at h
    split at h
    · rename_i hc
      intro j x hx
      cases j with
      | zero => simp at hx; subst hx; exact hc.2
      | succ j => exact ih hc.1 j x (by simpa using hx)
    · omega
theorem rl_last : ∀ (l : List UInt8) (n : Nat), rl l = n + 1 → ∃ x, l[n]? = some x ∧ x ≠ 0
  | [], n, h => by simp [rl] at h
  | y :: l, n, h => by
    unfold rl at h
    split at h
    · omega
    · rename_i hc
      cases hr : rl l with
      | zero =>
        have : n = 0 := by omega
        subst this
        exact ⟨y, rfl, fun e => hc ⟨hr, e⟩⟩
      | succ k =>
        have : n = k + 1 := by omega
        subst this
        obtain ⟨x, h1, h2⟩ := rl_last l k hr
        exact ⟨x, by simpa using h1, h2⟩
theorem trim_len (ad : Addr) (cap : Nat) (l : List UInt8) : ∃ a n c, trimV ad cap l = .slice a n c ∧ eqI (Int.ofNat n) (Int.ofNat 0) = noughts l := by
  unfold trimV trimLV
  by_cases hn : lead l = l.length
  · have hz := (lead_all l).1 hn
    have h0 : rl l = 0 := rl_zero l hz
    rw [h0, List.take_zero]
    refine ⟨none, 0, 0, rfl, ?_⟩
    unfold noughts
    rw [beq_iff.2 hn]
    rfl
  · have hk : noughts l = false := by
      unfold noughts
      cases hb : Nat.beq (lead l) l.length with
      | false => rfl
      | true => exact absurd (beq_iff.1 hb) hn
    cases hr : rl l with
    | zero => exact absurd ((lead_all l).2 (rl_pos l hr)) hn
    | succ k =>
      obtain ⟨x, hx, hx0⟩ := rl_last l k hr
      have hne : lead (l.take (k + 1)) ≠ (l.take (k + 1)).length := by
        intro e
        refine hx0 ((lead_all _).1 e k x ?_)
        rw [List.getElem?_take, if_pos (by omega)]
        exact hx
      have hle := lead_le (l.take (k + 1))
      rw [if_neg hne]
      exact ⟨_, _, _, rfl, by rw [hk]; exact eqI_f (by omega)⟩

theorem rightL_three {d : LeafD} {j : Nat} {x : Int} (h : (three d)[j]? = some x) (hw : wi x 0 65535 = false) : rightL d = false := by
  have hlt : j < 3 := (List.getElem?_eq_some_iff.1 h).1
  unfold rightL
  match j, hlt with
  | 0, _ => simp [three] at h; subst h; rw [hw]; rfl
  | 1, _ => simp [three] at h; subst h; rw [hw]; simp
  | 2, _ => simp [three] at h; subst h; rw [hw]; simp
end Go.Proofs.YtgofanjbhbeniaaDoor.lf
end
end
