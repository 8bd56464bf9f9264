/- A sum is split: the quotient of 128 bits by ten thousand, as the code finds it. -/
import Derived.Test.YtldelmmaimbbmaaGreatSp0
import Derived.Test.YtldelmmaimbbmaaGreatDv1
noncomputable section
namespace Go.Proofs.YtldelmmaimbbmaaGreat.sp
open AE
set_option linter.unusedSimpArgs false
set_option linter.unusedVariables false
set_option maxRecDepth 10000

theorem clash_reads (rd b i r : Nat) (seen : List (Nat × Nat × Nat)) : clash rd 0 b (keepLog i r 0 seen) = clash rd 0 b seen := by
  unfold keepLog
  split
  · rfl
  · show (match Nat.beq (Nat.lor (Nat.land 0 (Nat.lor rd 0)) (Nat.land r 0)) 0 with | true => clash rd 0 b seen | false => _) = _
    have h1 : Nat.land 0 (Nat.lor rd 0) = 0 := Nat.zero_and _
    have h2 : Nat.land r 0 = 0 := Nat.and_zero _
    rw [h1, h2]
theorem created_self (n : Nat) : created n n = 0 := by
  unfold created
  rw [beq_iff.2 rfl]
theorem clash_nil (rd wr b : Nat) : clash rd wr b [] = false := rfl
theorem keep_none (i : Nat) (seen : List (Nat × Nat × Nat)) : keepLog i 0 0 seen = seen := rfl
theorem lor_zero (n : Nat) : Nat.lor 0 n = n := Nat.zero_or _
theorem lor_zero' (n : Nat) : Nat.lor n 0 = n := Nat.or_zero _

theorem wU {n : Nat} (h : n < 18446744073709551616) : wrapA .u64 (.ofNat n) = .ofNat n := by
  show Int.ofNat (n % 18446744073709551616) = _
  rw [Nat.mod_eq_of_lt h]
theorem b_mulU {a b c : Nat} (h : a * b % 18446744073709551616 = c) : ∀ E t, binA E .mul t (.int .u64 (.ofNat a)) (.int .u64 (.ofNat b)) = some (.int .u64 (.ofNat c)) := fun E t => by
  subst h; rfl
theorem b_addU {a b c : Nat} (h : (a + b) % 18446744073709551616 = c) : ∀ E t, binA E .add t (.int .u64 (.ofNat a)) (.int .u64 (.ofNat b)) = some (.int .u64 (.ofNat c)) := fun E t => by
  subst h; rfl
theorem modN_int {x : Int} {c : Nat} (h : x % 18446744073709551616 = c) : modN 18446744073709551616 x = c := by
  have := modN_eq 18446744073709551616 (by decide) x
  have h2 : ((18446744073709551616 : Nat) : Int) = 18446744073709551616 := rfl
  rw [h2] at this
  omega
theorem b_subU {a b c : Nat} (h : ((a : Int) - b) % 18446744073709551616 = c) : ∀ E t, binA E .sub t (.int .u64 (.ofNat a)) (.int .u64 (.ofNat b)) = some (.int .u64 (.ofNat c)) := fun E t => by
  have e : modN 18446744073709551616 (Int.sub (.ofNat a) (.ofNat b)) = c := modN_int h
  show some (Value.int .u64 (.ofNat (modN 18446744073709551616 (Int.sub (.ofNat a) (.ofNat b))))) = _
  rw [e]
theorem b_shlU {a b c p : Nat} (hb : b ≤ 64) (hp : 2 ^ b = p) (h : a * p % 18446744073709551616 = c) : ∀ E t k, binA E .shl t (.int .u64 (.ofNat a)) (.int k (.ofNat b)) = some (.int .u64 (.ofNat c)) := fun E t k => by
  subst hp
  subst h
  show some (Value.int .u64 (wrapA .u64 (Int.mul (.ofNat a) (pow2 (minN b 64))))) = _
  rw [minN_eq, Nat.min_eq_left hb]
  rfl
theorem b_shrU {a b c p : Nat} (hb : b ≤ 64) (hp : 2 ^ b = p) (h : a / p = c) : ∀ E t k, binA E .shr t (.int .u64 (.ofNat a)) (.int k (.ofNat b)) = some (.int .u64 (.ofNat c)) := fun E t k => by
  subst hp
  subst h
  show some (Value.int .u64 (Int.fdiv (.ofNat a) (pow2 (minN b 64)))) = _
  rw [minN_eq, Nat.min_eq_left hb]
  show some (Value.int .u64 (Int.fdiv (a : Int) ((2 ^ b : Nat) : Int))) = _
  rw [Int.fdiv_eq_ediv_of_nonneg _ (Int.natCast_nonneg _)]
  rfl
theorem b_andU {a c : Nat} (ha : a < 18446744073709551616) (h : a % 4294967296 = c) : ∀ E t, binA E .and t (.int .u64 (.ofNat a)) (.int .u64 (.ofNat 4294967295)) = some (.int .u64 (.ofNat c)) := fun E t => by
  subst h
  show some (Value.int .u64 (wrapA .u64 (.ofNat (Nat.land (a % 18446744073709551616) (4294967295 % 18446744073709551616))))) = _
  rw [Nat.mod_eq_of_lt ha]
  have e : Nat.land a (4294967295 % 18446744073709551616) = a % 4294967296 := Nat.and_two_pow_sub_one_eq_mod a 32
  rw [e, wU (by omega)]
theorem b_orU {a b c : Nat} (ha : a < 18446744073709551616) (hb : b < 18446744073709551616) (h : a ||| b = c) (hc : c < 18446744073709551616) : ∀ E t, binA E .or t (.int .u64 (.ofNat a)) (.int .u64 (.ofNat b)) = some (.int .u64 (.ofNat c)) := fun E t => by
  show some (Value.int .u64 (wrapA .u64 (.ofNat (Nat.lor (a % 18446744073709551616) (b % 18446744073709551616))))) = _
  rw [Nat.mod_eq_of_lt ha, Nat.mod_eq_of_lt hb]
  have e : Nat.lor a b = c := h
  rw [e, wU hc]
theorem b_quoU {a b c : Nat} (h : a / (b + 1) = c) (ha : a < 18446744073709551616) : ∀ E t, binA E .quo t (.int .u64 (.ofNat a)) (.int .u64 (.ofNat (b + 1))) = some (.int .u64 (.ofNat c)) := fun E t => by
  subst h
  show some (Value.int .u64 (wrapA .u64 (.ofNat (a / (b + 1))))) = _
  rw [wU]
  exact Nat.lt_of_le_of_lt (Nat.div_le_self _ _) ha
theorem b_remU {a b c : Nat} (h : a % (b + 1) = c) : ∀ E t, binA E .rem t (.int .u64 (.ofNat a)) (.int .u64 (.ofNat (b + 1))) = some (.int .u64 (.ofNat c)) := fun E t => by
  subst h
  rfl
theorem b_eqlU (a b : Nat) : ∀ E t, binA E .eql t (.int .u64 (.ofNat a)) (.int .u64 (.ofNat b)) = some (.bool (decide (a = b))) := fun E t => by
  show some (Value.bool (eqI (.ofNat a) (.ofNat b))) = _
  rw [eqI_eq]
  simp
  omega
theorem b_leqU (a b : Nat) : ∀ E t, binA E .leq t (.int .u64 (.ofNat a)) (.int .u64 (.ofNat b)) = some (.bool (decide (a ≤ b))) := fun E t => by
  show some (Value.bool (not (ltI (.ofNat b) (.ofNat a)))) = _
  rw [ltI_not]
  simp
theorem b_geqU (a b : Nat) : ∀ E t, binA E .geq t (.int .u64 (.ofNat a)) (.int .u64 (.ofNat b)) = some (.bool (decide (b ≤ a))) := fun E t => by
  show some (Value.bool (not (ltI (.ofNat a) (.ofNat b)))) = _
  rw [ltI_not]
  simp
theorem b_gtrU (a b : Nat) : ∀ E t, binA E .gtr t (.int .u64 (.ofNat a)) (.int .u64 (.ofNat b)) = some (.bool (decide (b < a))) := fun E t => by
  show some (Value.bool (ltI (.ofNat b) (.ofNat a))) = _
  rw [ltI_eq]
  simp
theorem intLit (n : Nat) : (OfNat.ofNat n : Int) = Int.ofNat n := rfl

def div64A : List Value → AM Value
  | [.int .u64 (.ofNat hi), .int .u64 (.ofNat lo), .int .u64 (.ofNat d)] => when (Nat.beq d 10000 && Nat.blt hi 10000 && Nat.blt lo 18446744073709551616)
      (.pure (.tuple ⟨[.int .u64 (.ofNat ((hi * 18446744073709551616 + lo) / 10000)), .int .u64 (.ofNat ((hi * 18446744073709551616 + lo) % 10000))]⟩))
  | _ => .fail
noncomputable def fiD : FI := FI.of Tryz.f61
noncomputable def cdD : Code := bodyOf Tryz.f61
theorem resD : fiD.results = [.tmp 6, .tmp 7] := rfl
noncomputable def sigD : List (FuncId × (List Value → AM Value)) := [(81, lzA)]
theorem tolds_D : Tolds Tryz.prog (sumsOf sigD) := tolds_cons told_lz tolds_nil
theorem suD : sumsOf sigD 81 = some lzA := rfl
theorem tgt {f : FuncId} {fi : FI} {c : Code} (hf : E.fn.get f = some fi) (hb : fi.body = some c) : ∀ a b, targetA E (.func f) a b = .pure (.enter f (b ++ a)) := by
  intro a b
  simp only [targetA, hf, opt, hb]
noncomputable def fiLz : FI := FI.of Tryz.f81
noncomputable def cdLz : Code := bodyOf Tryz.f81
theorem tgD : ∀ a b, targetA E (.func 81) a b = .pure (.enter 81 (b ++ a)) := tgt (fi := fiLz) (c := cdLz) (by kernel_rfl) (by kernel_rfl)
theorem seen_heap (s : S) (n : Nat) : (s.seen n).heap = s.heap := rfl
theorem seen_next (s : S) (n : Nat) : (s.seen n).next = s.next := rfl
theorem seen_mark (s : S) (n : Nat) : (s.seen n).mark = s.mark := rfl
theorem agg_cells (cs : List Value) : (Value.agg ⟨cs⟩).cells.toList = cs := rfl
theorem int_cells (k : IntKind) (n : Int) : (Value.int k n).cells.toList = [.int k n] := rfl
noncomputable def tiU64 : TI := TI.of Tryz.prog 63
theorem tyU64 : E.ty.get 63 = some tiU64 := by kernel_rfl
theorem dsU64 : tiU64.desc = .int .u64 := by kernel_rfl
noncomputable def tiUn : TI := TI.of Tryz.prog 93
theorem tyUn : E.ty.get 93 = some tiUn := by kernel_rfl
theorem dsUn : tiUn.desc = .int .u64 := by kernel_rfl
noncomputable def tiI : TI := TI.of Tryz.prog 3
theorem tyI : E.ty.get 3 = some tiI := by kernel_rfl
theorem dsI : tiI.desc = .int .i64 := by kernel_rfl
theorem lz_run (s : S) : (lzA [.int .u64 (.ofNat 10000)]).run s = some (.int .i64 (.ofNat 50), s) := rfl

set_option maxHeartbeats 4000000 in
theorem walk_small (vhi vlo vd vQ vR : Value) (e1 : ∀ E t, binA E .eql t vd (.int .u64 0) = some (.bool false)) (e2 : ∀ E t, binA E .leq t vd vhi = some (.bool false)) (e3 : ∀ E t, binA E .eql t vhi (.int .u64 0) = some (.bool true))
    (f1 : ∀ E t, binA E .quo t vlo vd = some vQ) (f2 : ∀ E t, binA E .rem t vlo vd = some vR) (s : S) :
    ∃ v1 s1, (v1 = .tuple ⟨[vQ, vR]⟩ ∧ Less' s1 s) ∧ ∃ n0, ∀ n, n0 ≤ n → evNext (evT E (sumsOf sigD) n) E (.enter 61 [vhi, vlo, vd]) s = some (.val v1, s1) := by
  refine go_enter (fi := fiD) (c := cdD) (by kernel_rfl) (by kernel_rfl) 135 rfl rfl ?_
  simp only [cdD, Tryz.f61, bodyOf]
  have h0 : (Tr.ofList [vhi, vlo, vd]).get 0 = some vhi := rfl
  have h1 : (Tr.ofList [vhi, vlo, vd]).get 1 = some vlo := rfl
  have h2 : (Tr.ofList [vhi, vlo, vd]).get 2 = some vd := rfl
  generalize Tr.ofList [vhi, vlo, vd] = t at *
  repeat apply go_seq
  apply go_region
  case h => intro m; simp (maxSteps := 2000000) (disch := decide) only [opsLoop, evOper, wantedA, nth, aop, aPick, aBin, aIndexAddr, aFieldAddr, aLoad, aStore, aExtract, aConvert, aAlloc, aBox, aIndex, callA, builtinA, Fr.evs, opt, val, when, AM.run, outV, newA, ptr, force_eq, seen_heap, seen_next, seen_mark, seen_seen, agg_cells, int_cells, Fr.ev, Fr.put, onFr, gps, gpn, bltT, still, flat, List.append_nil, List.nil_append, List.cons_append, Nat.reduceEqDiff, ne_eq, not_false_eq_true, reduceCtorEq, Bool.and_true, Bool.true_and, Bool.and_false, Bool.false_and, Bool.not_true, Bool.not_false, Bool.and_self]; rfl
  repeat apply go_seq
  apply go_region
  case h => intro m; simp (maxSteps := 2000000) (disch := decide) only [opsLoop, evOper, wantedA, nth, aop, aPick, aBin, aIndexAddr, aFieldAddr, aLoad, aStore, aExtract, aConvert, aAlloc, aBox, aIndex, callA, builtinA, Fr.evs, opt, val, when, AM.run, outV, newA, ptr, force_eq, seen_heap, seen_next, seen_mark, seen_seen, agg_cells, int_cells, Fr.ev, Fr.put, onFr, gps, gpn, bltT, still, flat, List.append_nil, List.nil_append, List.cons_append, Nat.reduceEqDiff, ne_eq, not_false_eq_true, reduceCtorEq, Bool.and_true, Bool.true_and, Bool.and_false, Bool.false_and, Bool.not_true, Bool.not_false, Bool.and_self, h2, e1]; rfl
  repeat apply go_seq
  apply go_cond
  case hc => simp (disch := decide) only [opsLoop, evOper, wantedA, nth, aop, aPick, aBin, aIndexAddr, aFieldAddr, aLoad, aStore, aExtract, aConvert, aAlloc, aBox, aIndex, callA, builtinA, Fr.evs, opt, val, when, AM.run, outV, newA, ptr, force_eq, seen_heap, seen_next, seen_mark, seen_seen, agg_cells, int_cells, Fr.ev, Fr.put, onFr, gps, gpn, bltT, still, flat, List.append_nil, List.nil_append, List.cons_append, Nat.reduceEqDiff, ne_eq, not_false_eq_true, reduceCtorEq, Bool.and_true, Bool.true_and, Bool.and_false, Bool.false_and, Bool.not_true, Bool.not_false, Bool.and_self]; rfl
  case h1 => intro h; cases h
  intro _
  apply go_skip
  repeat apply go_seq
  apply go_region
  case h => intro m; simp (maxSteps := 2000000) (disch := decide) only [opsLoop, evOper, wantedA, nth, aop, aPick, aBin, aIndexAddr, aFieldAddr, aLoad, aStore, aExtract, aConvert, aAlloc, aBox, aIndex, callA, builtinA, Fr.evs, opt, val, when, AM.run, outV, newA, ptr, force_eq, seen_heap, seen_next, seen_mark, seen_seen, agg_cells, int_cells, Fr.ev, Fr.put, onFr, gps, gpn, bltT, still, flat, List.append_nil, List.nil_append, List.cons_append, Nat.reduceEqDiff, ne_eq, not_false_eq_true, reduceCtorEq, Bool.and_true, Bool.true_and, Bool.and_false, Bool.false_and, Bool.not_true, Bool.not_false, Bool.and_self, h0, h2, e2]; rfl
  repeat apply go_seq
  apply go_cond
  case hc => simp (disch := decide) only [opsLoop, evOper, wantedA, nth, aop, aPick, aBin, aIndexAddr, aFieldAddr, aLoad, aStore, aExtract, aConvert, aAlloc, aBox, aIndex, callA, builtinA, Fr.evs, opt, val, when, AM.run, outV, newA, ptr, force_eq, seen_heap, seen_next, seen_mark, seen_seen, agg_cells, int_cells, Fr.ev, Fr.put, onFr, gps, gpn, bltT, still, flat, List.append_nil, List.nil_append, List.cons_append, Nat.reduceEqDiff, ne_eq, not_false_eq_true, reduceCtorEq, Bool.and_true, Bool.true_and, Bool.and_false, Bool.false_and, Bool.not_true, Bool.not_false, Bool.and_self]; rfl
  case h1 => intro h; cases h
  intro _
  apply go_skip
  repeat apply go_seq
  apply go_region
  case h => intro m; simp (maxSteps := 2000000) (disch := decide) only [opsLoop, evOper, wantedA, nth, aop, aPick, aBin, aIndexAddr, aFieldAddr, aLoad, aStore, aExtract, aConvert, aAlloc, aBox, aIndex, callA, builtinA, Fr.evs, opt, val, when, AM.run, outV, newA, ptr, force_eq, seen_heap, seen_next, seen_mark, seen_seen, agg_cells, int_cells, Fr.ev, Fr.put, onFr, gps, gpn, bltT, still, flat, List.append_nil, List.nil_append, List.cons_append, Nat.reduceEqDiff, ne_eq, not_false_eq_true, reduceCtorEq, Bool.and_true, Bool.true_and, Bool.and_false, Bool.false_and, Bool.not_true, Bool.not_false, Bool.and_self, h0, e3]; rfl
  repeat apply go_seq
  apply go_cond
  case hc => simp (disch := decide) only [opsLoop, evOper, wantedA, nth, aop, aPick, aBin, aIndexAddr, aFieldAddr, aLoad, aStore, aExtract, aConvert, aAlloc, aBox, aIndex, callA, builtinA, Fr.evs, opt, val, when, AM.run, outV, newA, ptr, force_eq, seen_heap, seen_next, seen_mark, seen_seen, agg_cells, int_cells, Fr.ev, Fr.put, onFr, gps, gpn, bltT, still, flat, List.append_nil, List.nil_append, List.cons_append, Nat.reduceEqDiff, ne_eq, not_false_eq_true, reduceCtorEq, Bool.and_true, Bool.true_and, Bool.and_false, Bool.false_and, Bool.not_true, Bool.not_false, Bool.and_self]; rfl
  case h2 => intro h; cases h
  intro _
  repeat apply go_seq
  apply go_drawn
  case hs => rfl
  case h => intro m; simp (maxSteps := 2000000) (disch := decide) only [opsLoop, evOper, wantedA, nth, aop, aPick, aBin, aIndexAddr, aFieldAddr, aLoad, aStore, aExtract, aConvert, aAlloc, aBox, aIndex, callA, builtinA, Fr.evs, opt, val, when, AM.run, outV, newA, ptr, force_eq, seen_heap, seen_next, seen_mark, seen_seen, agg_cells, int_cells, Fr.ev, Fr.put, onFr, gps, gpn, bltT, still, flat, List.append_nil, List.nil_append, List.cons_append, Nat.reduceEqDiff, ne_eq, not_false_eq_true, reduceCtorEq, Bool.and_true, Bool.true_and, Bool.and_false, Bool.false_and, Bool.not_true, Bool.not_false, Bool.and_self, drawnLoop, force_eq, S.seen, keep_none, clash_nil, clash_reads, created_self, lor_zero, lor_zero', h1, h2, f1, f2]; rfl
  repeat apply go_seq
  apply go_ret
  apply ret_intro rfl rfl
  case run => simp (disch := decide) only [resultsM, resultsA, resD, opsLoop, evOper, wantedA, nth, aop, aPick, aBin, aIndexAddr, aFieldAddr, aLoad, aStore, aExtract, aConvert, aAlloc, aBox, aIndex, callA, builtinA, Fr.evs, opt, val, when, AM.run, outV, newA, ptr, force_eq, seen_heap, seen_next, seen_mark, seen_seen, agg_cells, int_cells, Fr.ev, Fr.put, onFr, gps, gpn, bltT, still, flat, List.append_nil, List.nil_append, List.cons_append, Nat.reduceEqDiff, ne_eq, not_false_eq_true, reduceCtorEq, Bool.and_true, Bool.true_and, Bool.and_false, Bool.false_and, Bool.not_true, Bool.not_false, Bool.and_self]; rfl
  exact ⟨rfl, Nat.le_refl _, fun m o ho => ⟨o, ho, .refl o⟩⟩
set_option maxHeartbeats 4000000 in
/-- the way through the text, whatever the numbers -/
theorem walk_big (vd vhi vs vy vn1 vn0 x1 vt vlo x2 vu vw vu1 vu0 vq1 x3 vr1 x4 x5 x6 x7 x8 x9 vv vq0 x10 vr0 x11 x12 x13 x14 vQ x15 x16 x17 x18 vR : Value) (e1 : ∀ E t, binA E .eql t vd (.int .u64 0) = some (.bool false))
    (e2 : ∀ E t, binA E .leq t vd vhi = some (.bool false))
    (e3 : ∀ E t, binA E .eql t vhi (.int .u64 0) = some (.bool false))
    (f3 : ∀ E t, binA E .shl t vd vs = some vy)
    (f4 : ∀ E t k, binA E .shr t vy (.int k 32) = some vn1)
    (f5 : ∀ E t, binA E .and t vy (.int .u64 4294967295) = some vn0)
    (f6 : ∀ E t, binA E .shl t vhi vs = some x1)
    (f7 : ∀ E t, binA E .sub t (.int .u64 64) vs = some vt)
    (f8 : ∀ E t, binA E .shr t vlo vt = some x2)
    (f9 : ∀ E t, binA E .or t x1 x2 = some vu)
    (g1 : ∀ E t, binA E .shl t vlo vs = some vw)
    (g2 : ∀ E t k, binA E .shr t vw (.int k 32) = some vu1)
    (g3 : ∀ E t, binA E .and t vw (.int .u64 4294967295) = some vu0)
    (g4 : ∀ E t, binA E .quo t vu vn1 = some vq1)
    (g5 : ∀ E t, binA E .mul t vq1 vn1 = some x3)
    (g6 : ∀ E t, binA E .sub t vu x3 = some vr1)
    (g7 : ∀ E t, binA E .geq t vq1 (.int .u64 4294967296) = some (.bool false))
    (g8 : ∀ E t, binA E .mul t vq1 vn0 = some x4)
    (g9 : ∀ E t, binA E .mul t (.int .u64 4294967296) vr1 = some x5)
    (k1 : ∀ E t, binA E .add t x5 vu1 = some x6)
    (k2 : ∀ E t, binA E .gtr t x4 x6 = some (.bool false))
    (k3 : ∀ E t, binA E .mul t vu (.int .u64 4294967296) = some x7)
    (k4 : ∀ E t, binA E .add t x7 vu1 = some x8)
    (k5 : ∀ E t, binA E .mul t vq1 vy = some x9)
    (k6 : ∀ E t, binA E .sub t x8 x9 = some vv)
    (k7 : ∀ E t, binA E .quo t vv vn1 = some vq0)
    (k8 : ∀ E t, binA E .mul t vq0 vn1 = some x10)
    (k9 : ∀ E t, binA E .sub t vv x10 = some vr0)
    (l1 : ∀ E t, binA E .geq t vq0 (.int .u64 4294967296) = some (.bool false))
    (l2 : ∀ E t, binA E .mul t vq0 vn0 = some x11)
    (l3 : ∀ E t, binA E .mul t (.int .u64 4294967296) vr0 = some x12)
    (l4 : ∀ E t, binA E .add t x12 vu0 = some x13)
    (l5 : ∀ E t, binA E .gtr t x11 x13 = some (.bool false))
    (l6 : ∀ E t, binA E .mul t vq1 (.int .u64 4294967296) = some x14)
    (l7 : ∀ E t, binA E .add t x14 vq0 = some vQ)
    (l8 : ∀ E t, binA E .mul t vv (.int .u64 4294967296) = some x15)
    (l9 : ∀ E t, binA E .add t x15 vu0 = some x16)
    (m1 : ∀ E t, binA E .mul t vq0 vy = some x17)
    (m2 : ∀ E t, binA E .sub t x16 x17 = some x18)
    (m3 : ∀ E t, binA E .shr t x18 vs = some vR)
    (hlz : ∀ s, (lzA [vd]).run s = some (.int .i64 (.ofNat 50), s)) (hs : vs = .int .u64 (.ofNat 50)) (s : S) :
    ∃ v1 s1, (v1 = .tuple ⟨[vQ, vR]⟩ ∧ Less' s1 s) ∧ ∃ n0, ∀ n, n0 ≤ n → evNext (evT E (sumsOf sigD) n) E (.enter 61 [vhi, vlo, vd]) s = some (.val v1, s1) := by
  refine go_enter (fi := fiD) (c := cdD) (by kernel_rfl) (by kernel_rfl) 135 rfl rfl ?_
  simp only [cdD, Tryz.f61, bodyOf]
  have h0 : (Tr.ofList [vhi, vlo, vd]).get 0 = some vhi := rfl
  have h1 : (Tr.ofList [vhi, vlo, vd]).get 1 = some vlo := rfl
  have h2 : (Tr.ofList [vhi, vlo, vd]).get 2 = some vd := rfl
  generalize Tr.ofList [vhi, vlo, vd] = t at *
  have fc : Value.int .u64 (wrapA .u64 (.ofNat 50)) = vs := hs.symm
  repeat apply go_seq
  apply go_region
  case h => intro m; simp (maxSteps := 2000000) (disch := decide) only [opsLoop, evOper, wantedA, nth, aop, aPick, aBin, aIndexAddr, aFieldAddr, aLoad, aStore, aExtract, aConvert, aAlloc, aBox, aIndex, callA, builtinA, Fr.evs, opt, val, when, AM.run, outV, newA, ptr, force_eq, seen_heap, seen_next, seen_mark, seen_seen, agg_cells, int_cells, Fr.ev, Fr.put, onFr, gps, gpn, bltT, still, flat, List.append_nil, List.nil_append, List.cons_append, Nat.reduceEqDiff, ne_eq, not_false_eq_true, reduceCtorEq, Bool.and_true, Bool.true_and, Bool.and_false, Bool.false_and, Bool.not_true, Bool.not_false, Bool.and_self]; rfl
  repeat apply go_seq
  apply go_region
  case h => intro m; simp (maxSteps := 2000000) (disch := decide) only [opsLoop, evOper, wantedA, nth, aop, aPick, aBin, aIndexAddr, aFieldAddr, aLoad, aStore, aExtract, aConvert, aAlloc, aBox, aIndex, callA, builtinA, Fr.evs, opt, val, when, AM.run, outV, newA, ptr, force_eq, seen_heap, seen_next, seen_mark, seen_seen, agg_cells, int_cells, Fr.ev, Fr.put, onFr, gps, gpn, bltT, still, flat, List.append_nil, List.nil_append, List.cons_append, Nat.reduceEqDiff, ne_eq, not_false_eq_true, reduceCtorEq, Bool.and_true, Bool.true_and, Bool.and_false, Bool.false_and, Bool.not_true, Bool.not_false, Bool.and_self, h2, e1]; rfl
  repeat apply go_seq
  apply go_cond
  case hc => simp (disch := decide) only [opsLoop, evOper, wantedA, nth, aop, aPick, aBin, aIndexAddr, aFieldAddr, aLoad, aStore, aExtract, aConvert, aAlloc, aBox, aIndex, callA, builtinA, Fr.evs, opt, val, when, AM.run, outV, newA, ptr, force_eq, seen_heap, seen_next, seen_mark, seen_seen, agg_cells, int_cells, Fr.ev, Fr.put, onFr, gps, gpn, bltT, still, flat, List.append_nil, List.nil_append, List.cons_append, Nat.reduceEqDiff, ne_eq, not_false_eq_true, reduceCtorEq, Bool.and_true, Bool.true_and, Bool.and_false, Bool.false_and, Bool.not_true, Bool.not_false, Bool.and_self]; rfl
  case h1 => intro h; cases h
  intro _
  apply go_skip
  repeat apply go_seq
  apply go_region
  case h => intro m; simp (maxSteps := 2000000) (disch := decide) only [opsLoop, evOper, wantedA, nth, aop, aPick, aBin, aIndexAddr, aFieldAddr, aLoad, aStore, aExtract, aConvert, aAlloc, aBox, aIndex, callA, builtinA, Fr.evs, opt, val, when, AM.run, outV, newA, ptr, force_eq, seen_heap, seen_next, seen_mark, seen_seen, agg_cells, int_cells, Fr.ev, Fr.put, onFr, gps, gpn, bltT, still, flat, List.append_nil, List.nil_append, List.cons_append, Nat.reduceEqDiff, ne_eq, not_false_eq_true, reduceCtorEq, Bool.and_true, Bool.true_and, Bool.and_false, Bool.false_and, Bool.not_true, Bool.not_false, Bool.and_self, h0, h2, e2]; rfl
  repeat apply go_seq
  apply go_cond
  case hc => simp (disch := decide) only [opsLoop, evOper, wantedA, nth, aop, aPick, aBin, aIndexAddr, aFieldAddr, aLoad, aStore, aExtract, aConvert, aAlloc, aBox, aIndex, callA, builtinA, Fr.evs, opt, val, when, AM.run, outV, newA, ptr, force_eq, seen_heap, seen_next, seen_mark, seen_seen, agg_cells, int_cells, Fr.ev, Fr.put, onFr, gps, gpn, bltT, still, flat, List.append_nil, List.nil_append, List.cons_append, Nat.reduceEqDiff, ne_eq, not_false_eq_true, reduceCtorEq, Bool.and_true, Bool.true_and, Bool.and_false, Bool.false_and, Bool.not_true, Bool.not_false, Bool.and_self]; rfl
  case h1 => intro h; cases h
  intro _
  apply go_skip
  repeat apply go_seq
  apply go_region
  case h => intro m; simp (maxSteps := 2000000) (disch := decide) only [opsLoop, evOper, wantedA, nth, aop, aPick, aBin, aIndexAddr, aFieldAddr, aLoad, aStore, aExtract, aConvert, aAlloc, aBox, aIndex, callA, builtinA, Fr.evs, opt, val, when, AM.run, outV, newA, ptr, force_eq, seen_heap, seen_next, seen_mark, seen_seen, agg_cells, int_cells, Fr.ev, Fr.put, onFr, gps, gpn, bltT, still, flat, List.append_nil, List.nil_append, List.cons_append, Nat.reduceEqDiff, ne_eq, not_false_eq_true, reduceCtorEq, Bool.and_true, Bool.true_and, Bool.and_false, Bool.false_and, Bool.not_true, Bool.not_false, Bool.and_self, h0, e3]; rfl
  repeat apply go_seq
  apply go_cond
  case hc => simp (disch := decide) only [opsLoop, evOper, wantedA, nth, aop, aPick, aBin, aIndexAddr, aFieldAddr, aLoad, aStore, aExtract, aConvert, aAlloc, aBox, aIndex, callA, builtinA, Fr.evs, opt, val, when, AM.run, outV, newA, ptr, force_eq, seen_heap, seen_next, seen_mark, seen_seen, agg_cells, int_cells, Fr.ev, Fr.put, onFr, gps, gpn, bltT, still, flat, List.append_nil, List.nil_append, List.cons_append, Nat.reduceEqDiff, ne_eq, not_false_eq_true, reduceCtorEq, Bool.and_true, Bool.true_and, Bool.and_false, Bool.false_and, Bool.not_true, Bool.not_false, Bool.and_self]; rfl
  case h1 => intro h; cases h
  intro _
  apply go_skip
  repeat apply go_seq
  apply go_region
  case h => intro m; simp (maxSteps := 2000000) (disch := decide) only [opsLoop, evOper, wantedA, nth, aop, aPick, aBin, aIndexAddr, aFieldAddr, aLoad, aStore, aExtract, aConvert, aAlloc, aBox, aIndex, callA, builtinA, Fr.evs, opt, val, when, AM.run, outV, newA, ptr, force_eq, seen_heap, seen_next, seen_mark, seen_seen, agg_cells, int_cells, Fr.ev, Fr.put, onFr, gps, gpn, bltT, still, flat, List.append_nil, List.nil_append, List.cons_append, Nat.reduceEqDiff, ne_eq, not_false_eq_true, reduceCtorEq, Bool.and_true, Bool.true_and, Bool.and_false, Bool.false_and, Bool.not_true, Bool.not_false, Bool.and_self, h2, tgD, evT_told suD, hlz, tyI, tyUn, dsI, dsUn, fc]; rfl
  repeat apply go_seq
  apply go_region
  case h => intro m; simp (maxSteps := 2000000) (disch := decide) only [opsLoop, evOper, wantedA, nth, aop, aPick, aBin, aIndexAddr, aFieldAddr, aLoad, aStore, aExtract, aConvert, aAlloc, aBox, aIndex, callA, builtinA, Fr.evs, opt, val, when, AM.run, outV, newA, ptr, force_eq, seen_heap, seen_next, seen_mark, seen_seen, agg_cells, int_cells, Fr.ev, Fr.put, onFr, gps, gpn, bltT, still, flat, List.append_nil, List.nil_append, List.cons_append, Nat.reduceEqDiff, ne_eq, not_false_eq_true, reduceCtorEq, Bool.and_true, Bool.true_and, Bool.and_false, Bool.false_and, Bool.not_true, Bool.not_false, Bool.and_self, h2, f3]; rfl
  repeat apply go_seq
  apply go_region
  case h => intro m; simp (maxSteps := 2000000) (disch := decide) only [opsLoop, evOper, wantedA, nth, aop, aPick, aBin, aIndexAddr, aFieldAddr, aLoad, aStore, aExtract, aConvert, aAlloc, aBox, aIndex, callA, builtinA, Fr.evs, opt, val, when, AM.run, outV, newA, ptr, force_eq, seen_heap, seen_next, seen_mark, seen_seen, agg_cells, int_cells, Fr.ev, Fr.put, onFr, gps, gpn, bltT, still, flat, List.append_nil, List.nil_append, List.cons_append, Nat.reduceEqDiff, ne_eq, not_false_eq_true, reduceCtorEq, Bool.and_true, Bool.true_and, Bool.and_false, Bool.false_and, Bool.not_true, Bool.not_false, Bool.and_self, f4]; rfl
  repeat apply go_seq
  apply go_region
  case h => intro m; simp (maxSteps := 2000000) (disch := decide) only [opsLoop, evOper, wantedA, nth, aop, aPick, aBin, aIndexAddr, aFieldAddr, aLoad, aStore, aExtract, aConvert, aAlloc, aBox, aIndex, callA, builtinA, Fr.evs, opt, val, when, AM.run, outV, newA, ptr, force_eq, seen_heap, seen_next, seen_mark, seen_seen, agg_cells, int_cells, Fr.ev, Fr.put, onFr, gps, gpn, bltT, still, flat, List.append_nil, List.nil_append, List.cons_append, Nat.reduceEqDiff, ne_eq, not_false_eq_true, reduceCtorEq, Bool.and_true, Bool.true_and, Bool.and_false, Bool.false_and, Bool.not_true, Bool.not_false, Bool.and_self, f5]; rfl
  repeat apply go_seq
  apply go_region
  case h => intro m; simp (maxSteps := 2000000) (disch := decide) only [opsLoop, evOper, wantedA, nth, aop, aPick, aBin, aIndexAddr, aFieldAddr, aLoad, aStore, aExtract, aConvert, aAlloc, aBox, aIndex, callA, builtinA, Fr.evs, opt, val, when, AM.run, outV, newA, ptr, force_eq, seen_heap, seen_next, seen_mark, seen_seen, agg_cells, int_cells, Fr.ev, Fr.put, onFr, gps, gpn, bltT, still, flat, List.append_nil, List.nil_append, List.cons_append, Nat.reduceEqDiff, ne_eq, not_false_eq_true, reduceCtorEq, Bool.and_true, Bool.true_and, Bool.and_false, Bool.false_and, Bool.not_true, Bool.not_false, Bool.and_self, h0, h1, f6, f7, f8, f9]; rfl
  repeat apply go_seq
  apply go_region
  case h => intro m; simp (maxSteps := 2000000) (disch := decide) only [opsLoop, evOper, wantedA, nth, aop, aPick, aBin, aIndexAddr, aFieldAddr, aLoad, aStore, aExtract, aConvert, aAlloc, aBox, aIndex, callA, builtinA, Fr.evs, opt, val, when, AM.run, outV, newA, ptr, force_eq, seen_heap, seen_next, seen_mark, seen_seen, agg_cells, int_cells, Fr.ev, Fr.put, onFr, gps, gpn, bltT, still, flat, List.append_nil, List.nil_append, List.cons_append, Nat.reduceEqDiff, ne_eq, not_false_eq_true, reduceCtorEq, Bool.and_true, Bool.true_and, Bool.and_false, Bool.false_and, Bool.not_true, Bool.not_false, Bool.and_self, h1, g1]; rfl
  repeat apply go_seq
  apply go_region
  case h => intro m; simp (maxSteps := 2000000) (disch := decide) only [opsLoop, evOper, wantedA, nth, aop, aPick, aBin, aIndexAddr, aFieldAddr, aLoad, aStore, aExtract, aConvert, aAlloc, aBox, aIndex, callA, builtinA, Fr.evs, opt, val, when, AM.run, outV, newA, ptr, force_eq, seen_heap, seen_next, seen_mark, seen_seen, agg_cells, int_cells, Fr.ev, Fr.put, onFr, gps, gpn, bltT, still, flat, List.append_nil, List.nil_append, List.cons_append, Nat.reduceEqDiff, ne_eq, not_false_eq_true, reduceCtorEq, Bool.and_true, Bool.true_and, Bool.and_false, Bool.false_and, Bool.not_true, Bool.not_false, Bool.and_self, g2]; rfl
  repeat apply go_seq
  apply go_region
  case h => intro m; simp (maxSteps := 2000000) (disch := decide) only [opsLoop, evOper, wantedA, nth, aop, aPick, aBin, aIndexAddr, aFieldAddr, aLoad, aStore, aExtract, aConvert, aAlloc, aBox, aIndex, callA, builtinA, Fr.evs, opt, val, when, AM.run, outV, newA, ptr, force_eq, seen_heap, seen_next, seen_mark, seen_seen, agg_cells, int_cells, Fr.ev, Fr.put, onFr, gps, gpn, bltT, still, flat, List.append_nil, List.nil_append, List.cons_append, Nat.reduceEqDiff, ne_eq, not_false_eq_true, reduceCtorEq, Bool.and_true, Bool.true_and, Bool.and_false, Bool.false_and, Bool.not_true, Bool.not_false, Bool.and_self, g3]; rfl
  repeat apply go_seq
  apply go_region
  case h => intro m; simp (maxSteps := 2000000) (disch := decide) only [opsLoop, evOper, wantedA, nth, aop, aPick, aBin, aIndexAddr, aFieldAddr, aLoad, aStore, aExtract, aConvert, aAlloc, aBox, aIndex, callA, builtinA, Fr.evs, opt, val, when, AM.run, outV, newA, ptr, force_eq, seen_heap, seen_next, seen_mark, seen_seen, agg_cells, int_cells, Fr.ev, Fr.put, onFr, gps, gpn, bltT, still, flat, List.append_nil, List.nil_append, List.cons_append, Nat.reduceEqDiff, ne_eq, not_false_eq_true, reduceCtorEq, Bool.and_true, Bool.true_and, Bool.and_false, Bool.false_and, Bool.not_true, Bool.not_false, Bool.and_self, g4]; rfl
  repeat apply go_seq
  apply go_region
  case h => intro m; simp (maxSteps := 2000000) (disch := decide) only [opsLoop, evOper, wantedA, nth, aop, aPick, aBin, aIndexAddr, aFieldAddr, aLoad, aStore, aExtract, aConvert, aAlloc, aBox, aIndex, callA, builtinA, Fr.evs, opt, val, when, AM.run, outV, newA, ptr, force_eq, seen_heap, seen_next, seen_mark, seen_seen, agg_cells, int_cells, Fr.ev, Fr.put, onFr, gps, gpn, bltT, still, flat, List.append_nil, List.nil_append, List.cons_append, Nat.reduceEqDiff, ne_eq, not_false_eq_true, reduceCtorEq, Bool.and_true, Bool.true_and, Bool.and_false, Bool.false_and, Bool.not_true, Bool.not_false, Bool.and_self, g5, g6]; rfl
  repeat apply go_seq
  apply go_block
  apply go_loop
  repeat apply go_seq
  apply go_region
  case h => intro m; simp (maxSteps := 2000000) (disch := decide) only [opsLoop, evOper, wantedA, nth, aop, aPick, aBin, aIndexAddr, aFieldAddr, aLoad, aStore, aExtract, aConvert, aAlloc, aBox, aIndex, callA, builtinA, Fr.evs, opt, val, when, AM.run, outV, newA, ptr, force_eq, seen_heap, seen_next, seen_mark, seen_seen, agg_cells, int_cells, Fr.ev, Fr.put, onFr, gps, gpn, bltT, still, flat, List.append_nil, List.nil_append, List.cons_append, Nat.reduceEqDiff, ne_eq, not_false_eq_true, reduceCtorEq, Bool.and_true, Bool.true_and, Bool.and_false, Bool.false_and, Bool.not_true, Bool.not_false, Bool.and_self, g7, g8, g9, k1, k2]; rfl
  repeat apply go_seq
  apply go_cond
  case hc => simp (disch := decide) only [opsLoop, evOper, wantedA, nth, aop, aPick, aBin, aIndexAddr, aFieldAddr, aLoad, aStore, aExtract, aConvert, aAlloc, aBox, aIndex, callA, builtinA, Fr.evs, opt, val, when, AM.run, outV, newA, ptr, force_eq, seen_heap, seen_next, seen_mark, seen_seen, agg_cells, int_cells, Fr.ev, Fr.put, onFr, gps, gpn, bltT, still, flat, List.append_nil, List.nil_append, List.cons_append, Nat.reduceEqDiff, ne_eq, not_false_eq_true, reduceCtorEq, Bool.and_true, Bool.true_and, Bool.and_false, Bool.false_and, Bool.not_true, Bool.not_false, Bool.and_self]; rfl
  case h1 => intro h; cases h
  intro _
  apply go_exit
  repeat apply go_seq
  apply go_region
  case h => intro m; simp (maxSteps := 2000000) (disch := decide) only [opsLoop, evOper, wantedA, nth, aop, aPick, aBin, aIndexAddr, aFieldAddr, aLoad, aStore, aExtract, aConvert, aAlloc, aBox, aIndex, callA, builtinA, Fr.evs, opt, val, when, AM.run, outV, newA, ptr, force_eq, seen_heap, seen_next, seen_mark, seen_seen, agg_cells, int_cells, Fr.ev, Fr.put, onFr, gps, gpn, bltT, still, flat, List.append_nil, List.nil_append, List.cons_append, Nat.reduceEqDiff, ne_eq, not_false_eq_true, reduceCtorEq, Bool.and_true, Bool.true_and, Bool.and_false, Bool.false_and, Bool.not_true, Bool.not_false, Bool.and_self, k3, k4, k5, k6]; rfl
  repeat apply go_seq
  apply go_region
  case h => intro m; simp (maxSteps := 2000000) (disch := decide) only [opsLoop, evOper, wantedA, nth, aop, aPick, aBin, aIndexAddr, aFieldAddr, aLoad, aStore, aExtract, aConvert, aAlloc, aBox, aIndex, callA, builtinA, Fr.evs, opt, val, when, AM.run, outV, newA, ptr, force_eq, seen_heap, seen_next, seen_mark, seen_seen, agg_cells, int_cells, Fr.ev, Fr.put, onFr, gps, gpn, bltT, still, flat, List.append_nil, List.nil_append, List.cons_append, Nat.reduceEqDiff, ne_eq, not_false_eq_true, reduceCtorEq, Bool.and_true, Bool.true_and, Bool.and_false, Bool.false_and, Bool.not_true, Bool.not_false, Bool.and_self, k7]; rfl
  repeat apply go_seq
  apply go_region
  case h => intro m; simp (maxSteps := 2000000) (disch := decide) only [opsLoop, evOper, wantedA, nth, aop, aPick, aBin, aIndexAddr, aFieldAddr, aLoad, aStore, aExtract, aConvert, aAlloc, aBox, aIndex, callA, builtinA, Fr.evs, opt, val, when, AM.run, outV, newA, ptr, force_eq, seen_heap, seen_next, seen_mark, seen_seen, agg_cells, int_cells, Fr.ev, Fr.put, onFr, gps, gpn, bltT, still, flat, List.append_nil, List.nil_append, List.cons_append, Nat.reduceEqDiff, ne_eq, not_false_eq_true, reduceCtorEq, Bool.and_true, Bool.true_and, Bool.and_false, Bool.false_and, Bool.not_true, Bool.not_false, Bool.and_self, k8, k9]; rfl
  repeat apply go_seq
  apply go_block
  apply go_loop
  repeat apply go_seq
  apply go_region
  case h => intro m; simp (maxSteps := 2000000) (disch := decide) only [opsLoop, evOper, wantedA, nth, aop, aPick, aBin, aIndexAddr, aFieldAddr, aLoad, aStore, aExtract, aConvert, aAlloc, aBox, aIndex, callA, builtinA, Fr.evs, opt, val, when, AM.run, outV, newA, ptr, force_eq, seen_heap, seen_next, seen_mark, seen_seen, agg_cells, int_cells, Fr.ev, Fr.put, onFr, gps, gpn, bltT, still, flat, List.append_nil, List.nil_append, List.cons_append, Nat.reduceEqDiff, ne_eq, not_false_eq_true, reduceCtorEq, Bool.and_true, Bool.true_and, Bool.and_false, Bool.false_and, Bool.not_true, Bool.not_false, Bool.and_self, l1, l2, l3, l4, l5]; rfl
  repeat apply go_seq
  apply go_cond
  case hc => simp (disch := decide) only [opsLoop, evOper, wantedA, nth, aop, aPick, aBin, aIndexAddr, aFieldAddr, aLoad, aStore, aExtract, aConvert, aAlloc, aBox, aIndex, callA, builtinA, Fr.evs, opt, val, when, AM.run, outV, newA, ptr, force_eq, seen_heap, seen_next, seen_mark, seen_seen, agg_cells, int_cells, Fr.ev, Fr.put, onFr, gps, gpn, bltT, still, flat, List.append_nil, List.nil_append, List.cons_append, Nat.reduceEqDiff, ne_eq, not_false_eq_true, reduceCtorEq, Bool.and_true, Bool.true_and, Bool.and_false, Bool.false_and, Bool.not_true, Bool.not_false, Bool.and_self]; rfl
  case h1 => intro h; cases h
  intro _
  apply go_exit
  repeat apply go_seq
  apply go_region
  case h => intro m; simp (maxSteps := 2000000) (disch := decide) only [opsLoop, evOper, wantedA, nth, aop, aPick, aBin, aIndexAddr, aFieldAddr, aLoad, aStore, aExtract, aConvert, aAlloc, aBox, aIndex, callA, builtinA, Fr.evs, opt, val, when, AM.run, outV, newA, ptr, force_eq, seen_heap, seen_next, seen_mark, seen_seen, agg_cells, int_cells, Fr.ev, Fr.put, onFr, gps, gpn, bltT, still, flat, List.append_nil, List.nil_append, List.cons_append, Nat.reduceEqDiff, ne_eq, not_false_eq_true, reduceCtorEq, Bool.and_true, Bool.true_and, Bool.and_false, Bool.false_and, Bool.not_true, Bool.not_false, Bool.and_self, l6, l7, l8, l9, m1, m2, m3]; rfl
  repeat apply go_seq
  apply go_ret
  apply ret_intro rfl rfl
  case run => simp (disch := decide) only [resultsM, resultsA, resD, opsLoop, evOper, wantedA, nth, aop, aPick, aBin, aIndexAddr, aFieldAddr, aLoad, aStore, aExtract, aConvert, aAlloc, aBox, aIndex, callA, builtinA, Fr.evs, opt, val, when, AM.run, outV, newA, ptr, force_eq, seen_heap, seen_next, seen_mark, seen_seen, agg_cells, int_cells, Fr.ev, Fr.put, onFr, gps, gpn, bltT, still, flat, List.append_nil, List.nil_append, List.cons_append, Nat.reduceEqDiff, ne_eq, not_false_eq_true, reduceCtorEq, Bool.and_true, Bool.true_and, Bool.and_false, Bool.false_and, Bool.not_true, Bool.not_false, Bool.and_self]; rfl
  exact ⟨rfl, Less'.refl _⟩
set_option maxHeartbeats 4000000 in
theorem told_div64 : AE.Told Tryz.prog 61 div64A := by
  refine told_go hE hmix tolds_D ?_
  intro args s v s' h hm
  unfold div64A at h
  split at h
  · rename_i hi lo d
    obtain ⟨hc, h2⟩ := run_when h
    cases h2
    simp only [Bool.and_eq_true, beq_iff, blt_iff] at hc
    obtain ⟨⟨rfl, hhi⟩, hlo⟩ := hc
    have e1 := b_eqlU 10000 0
    simp only [show decide (10000 = 0) = false from rfl] at e1
    have e2 := b_leqU 10000 hi
    rw [decide_eq_false (by omega : ¬ 10000 ≤ hi)] at e2
    have e3 := b_eqlU hi 0
    by_cases hz : hi = 0
    · subst hz
      simp only [decide_true] at e3
      have f1 := b_quoU (a := lo) (b := 9999) rfl hlo
      have f2 := b_remU (a := lo) (b := 9999) rfl
      simp only [Nat.reduceAdd] at f1 f2
      rw [Nat.zero_mul, Nat.zero_add]
      exact walk_small _ _ _ _ _ e1 e2 e3 f1 f2 s
    · rw [decide_eq_false hz] at e3
      -- the numbers on the way
      obtain ⟨u, w, u1, u0, q1, r1, v, q0, r0, N⟩ := wd.nums hi lo hhi hlo
      have b1 : u < 18446744073709551616 := by have := N.bu; omega
      have b2 : v < 18446744073709551616 := by have := N.bv; omega
      have f3 := b_shlU (a := 10000) (b := 50) (c := 11258999068426240000) (by decide) rfl (by decide)
      have f4 := b_shrU (a := 11258999068426240000) (b := 32) (c := 2621440000) (by decide) rfl (by decide)
      have f5 := b_andU (a := 11258999068426240000) (c := 0) (by decide) (by decide)
      have f6 := b_shlU (a := hi) (b := 50) (p := 1125899906842624) (by decide) rfl N.shl
      have f7 := b_subU (a := 64) (b := 50) (c := 14) (by decide)
      have f8 := b_shrU (a := lo) (b := 14) (p := 16384) (by decide) rfl rfl
      have f9 := b_orU N.bhi N.blo N.eo b1
      have g1 := b_shlU (a := lo) (b := 50) (p := 1125899906842624) (by decide) rfl N.ew
      have g2 := b_shrU (a := w) (b := 32) (p := 4294967296) (by decide) rfl N.ez1
      have g3 := b_andU (a := w) N.bw N.ez0
      have g4 := b_quoU (a := u) (b := 2621439999) N.eq1 b1
      have g5 := b_mulU (a := q1) (b := 2621440000) N.a2
      have g6 := b_subU (a := u) (b := q1 * 2621440000) N.a3
      have g7 := b_geqU q1 4294967296
      rw [decide_eq_false (Nat.not_le.2 N.a1)] at g7
      have g8 := b_mulU (a := q1) (b := 0) (c := 0) (by rw [Nat.mul_zero])
      have g9 := b_mulU (a := 4294967296) (b := r1) N.a4
      have k1 := b_addU (a := 4294967296 * r1) (b := u1) N.a5
      have k2 := b_gtrU 0 (4294967296 * r1 + u1)
      rw [decide_eq_false (Nat.not_lt.2 (Nat.zero_le _))] at k2
      have k3 := b_mulU (a := u) (b := 4294967296) rfl
      have k4 := b_addU (a := u * 4294967296 % 18446744073709551616) (b := u1) rfl
      have k5 := b_mulU (a := q1) (b := 11258999068426240000) rfl
      have k6 := b_subU N.a6
      have k7 := b_quoU (a := v) (b := 2621439999) N.eq0 b2
      have k8 := b_mulU (a := q0) (b := 2621440000) N.c2
      have k9 := b_subU (a := v) (b := q0 * 2621440000) N.c3
      have l1 := b_geqU q0 4294967296
      rw [decide_eq_false (Nat.not_le.2 N.c1)] at l1
      have l2 := b_mulU (a := q0) (b := 0) (c := 0) (by rw [Nat.mul_zero])
      have l3 := b_mulU (a := 4294967296) (b := r0) N.c4
      have l4 := b_addU (a := 4294967296 * r0) (b := u0) N.c5
      have l5 := b_gtrU 0 (4294967296 * r0 + u0)
      rw [decide_eq_false (Nat.not_lt.2 (Nat.zero_le _))] at l5
      have l6 := b_mulU (a := q1) (b := 4294967296) N.d1
      have l7 := b_addU (a := q1 * 4294967296) (b := q0) N.d2
      have l8 := b_mulU (a := v) (b := 4294967296) rfl
      have l9 := b_addU (a := v * 4294967296 % 18446744073709551616) (b := u0) rfl
      have m1 := b_mulU (a := q0) (b := 11258999068426240000) rfl
      have m2 := b_subU N.c6
      have m3 := b_shrU (a := r0 * 4294967296 + u0) (b := 50) (p := 1125899906842624) (by decide) rfl N.d3
      simp only [Nat.reduceAdd] at g4 k7
      exact walk_big _ _ _ _ _ _ _ _ _ _ _ _ _ _ _ _ _ _ _ _ _ _ _ _ _ _ _ _ _ _ _ _ _ _ _ _ _ e1 e2 e3 (fun E t => f3 E t _) f4 f5 (fun E t => f6 E t _) f7 (fun E t => f8 E t _) f9 (fun E t => g1 E t _) g2 g3 g4 g5 g6 g7 g8 g9 k1 k2 k3 k4 k5 k6 k7 k8 k9 l1 l2 l3 l4 l5 l6 l7 l8 l9 m1 m2 (fun E t => m3 E t _) (fun s => lz_run s) rfl s
  · cases h
end Go.Proofs.YtldelmmaimbbmaaGreat.sp
