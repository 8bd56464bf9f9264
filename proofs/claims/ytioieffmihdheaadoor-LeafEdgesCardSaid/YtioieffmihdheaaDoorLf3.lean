/- Leaves: whether a leaf may be: the walk. -/
import Derived.Test.YtioieffmihdheaaDoorLf2
noncomputable section
namespace Go.Proofs.YtioieffmihdheaaDoor.lf
open AE
set_option linter.unusedSimpArgs false
set_option linter.unusedVariables false
set_option maxRecDepth 10000

abbrev sigR : List (Nat × (List Value → AM Value)) := [(22, withinA), (23, trimA)]
theorem tolds_R : Tolds Tryd.prog (sumsOf sigR) := tolds_cons told_within (tolds_cons told_trim tolds_nil)
theorem sgW : sumsOf sigR 22 = some withinA := rfl
theorem sgT : sumsOf sigR 23 = some trimA := rfl
theorem tgW : ∀ a b, targetA E (.func 22) a b = .pure (.enter 22 (b ++ a)) := tgt (fi := fiW) (c := cdW) (by kernel_rfl) (by kernel_rfl)
theorem tgT : ∀ a b, targetA E (.func 23) a b = .pure (.enter 23 (b ++ a)) := tgt (fi := fiT) (c := cdT) (by kernel_rfl) (by kernel_rfl)
theorem withinA_run (n lo hi : Int) (s : S) : (withinA [.int .i64 n, .int .i64 lo, .int .i64 hi]).run s = some (.bool (wi n lo hi), s) := rfl
theorem add0 (b i : Nat) : addA ⟨b, 0, none⟩ i = ⟨b, i, none⟩ := by
  cases i with
  | zero => rfl
  | succ k => show (⟨b, Nat.add 0 (Nat.succ k), none⟩ : Addr) = _; rw [show Nat.add 0 (Nat.succ k) = k + 1 from Nat.zero_add _]
theorem mul1 (i : Nat) : Nat.mul i 1 = i := Nat.mul_one i
theorem b_incr {n : Nat} (h : n < 9223372036854775807) : ∀ E t, binA E .add t (.int .i64 (.ofNat n)) (.int .i64 (.ofNat 1)) = some (.int .i64 (.ofNat (n + 1))) := fun E t => b_inc h

noncomputable def fiR : FI := FI.of Tryd.f13
noncomputable def cdR : Code := bodyOf Tryd.f13
noncomputable def cdRl : Code := sub [1,0,1,0,0] cdR
theorem resR : fiR.results = [.tmp 2] := rfl

def three (d : LeafD) : List Int := [d.file, d.place, d.next]
structure R3 (s : S) (n : Nat) (d : LeafD) : Prop where
  lf : LfAt s n d
  lt : n + 1 < s.next
  cell : ∃ c e rm, s.heap.get (n + 1) = some (.cells c 3 e rm) ∧ Row c 0 [.int .i64 d.file, .int .i64 d.place, .int .i64 d.next]
theorem R3.rd {s s' : S} {n : Nat} {d : LeafD} (h : R3 s n d) (hr : Rd s s') : R3 s' n d := ⟨h.lf.rd hr, by rw [hr.next]; exact h.lt, by rw [hr.heap]; exact h.cell⟩
theorem R3.get {s : S} {n : Nat} {d : LeafD} (h : R3 s n d) (k : Nat) (x : Int) (hk : (three d)[k]? = some x) : (loadT tiI ⟨n + 1, k, none⟩ AE.val).run s = some (.value (.int .i64 x), s.seen (n + 1)) := by
  obtain ⟨c, e, rm, h1, h2⟩ := h.cell
  have hlt : k < 3 := (List.getElem?_eq_some_iff.1 hk).1
  refine cell_load tiI (by rw [dsI]; rfl) h.lt h1 (by omega) ?_
  have h3 : [Value.int .i64 d.file, .int .i64 d.place, .int .i64 d.next][k]? = some (.int .i64 x) := by
    match k, hlt with
    | 0, _ => simpa [three] using hk
    | 1, _ => simpa [three] using hk
    | 2, _ => simpa [three] using hk
  have := h2 k _ h3
  rwa [Nat.zero_add] at this

def InvR (d : LeafD) (n : Nat) (s0 : S) (k : Nat) (fr : Fr) (s : S) : Prop :=
  ∃ (i : Nat) (t : Tr Value), k = 3 - i ∧ i ≤ 3 ∧ fr = ⟨13, t, 38, [], none⟩ ∧ Rd s0 s ∧ t.get 1 = some (.pointer (some ⟨n, 0, none⟩)) ∧ t.get 11 = some (.slice (some ⟨n + 1, 0, none⟩) 3 3) ∧
    t.get 12 = some (.int .i64 (.ofNat 3)) ∧ t.get 13 = some (.int .i64 (.ofNat i)) ∧ (∀ (j : Nat) (x : Int), j < i → (three d)[j]? = some x → wi x 0 65535 = true)
def PostR (d : LeafD) (n : Nat) (s0 : S) (x : Ex) (fr : Fr) (s : S) : Prop :=
  ∃ t : Tr Value, fr = ⟨13, t, 38, [], none⟩ ∧ Rd s0 s ∧ ((x = .exit 0 ∧ t.get 1 = some (.pointer (some ⟨n, 0, none⟩)) ∧ ∀ (j : Nat) (x : Int), (three d)[j]? = some x → wi x 0 65535 = true) ∨
    (x = .ret ∧ t.get 2 = some (.bool false) ∧ ∃ (j : Nat) (x : Int), (three d)[j]? = some x ∧ wi x 0 65535 = false))
theorem right_round (d : LeafD) (n : Nat) (s0 : S) (h3 : R3 s0 n d) (k : Nat) (fr : Fr) (s : S) (h : InvR d n s0 k fr s) : GoC E (sumsOf sigR) cdRl fr s (Again (InvR d n s0) k (PostR d n s0)) := by
  obtain ⟨i, t, hk, hi, rfl, hr, g1, g11, g12, g13, hall⟩ := h
  simp only [cdRl, cdR, Tryd.f13, bodyOf, sub]
  by_cases hlt : i < 3
  · obtain ⟨x, hx⟩ : ∃ x, (three d)[i]? = some x := ⟨_, List.getElem?_eq_getElem (by simpa [three] using hlt)⟩
    have hlt' : ltI (Int.ofNat i) (Int.ofNat 3) = true := by rw [ltI_eq]; simp; omega
    have hb : Nat.blt i 3 = true := blt_iff.2 hlt
    have hld := (h3.rd hr).get i x hx
    have hinc := b_incr (n := i) (by omega)
    repeat apply go_seq
    apply go_region
    case h => intro m; simp (disch := decide) only [opsLoop, evOper, wantedA, nth, aop, aPick, aBin, aIndexAddr, aFieldAddr, aLoad, aStore, aExtract, aConvert, aAlloc, aBox, aIndex, callA, builtinA, Fr.evs, opt, val, when, AM.run, outV, newA, ptr, force_eq, seen_heap, seen_next, seen_mark, seen_seen, agg_cells, int_cells, Fr.ev, Fr.put, onFr, gps, gpn, bltT, still, flat, List.append_nil, List.nil_append, List.cons_append, Nat.reduceEqDiff, ne_eq, not_false_eq_true, reduceCtorEq, Bool.and_true, Bool.true_and, Bool.and_false, Bool.false_and, Bool.not_true, Bool.not_false, Bool.and_self, g12, g13, b_lss, hlt']; rfl
    repeat apply go_seq
    apply go_cond
    case hc => simp (disch := decide) only [opsLoop, evOper, wantedA, nth, aop, aPick, aBin, aIndexAddr, aFieldAddr, aLoad, aStore, aExtract, aConvert, aAlloc, aBox, aIndex, callA, builtinA, Fr.evs, opt, val, when, AM.run, outV, newA, ptr, force_eq, seen_heap, seen_next, seen_mark, seen_seen, agg_cells, int_cells, Fr.ev, Fr.put, onFr, gps, gpn, bltT, still, flat, List.append_nil, List.nil_append, List.cons_append, Nat.reduceEqDiff, ne_eq, not_false_eq_true, reduceCtorEq, Bool.and_true, Bool.true_and, Bool.and_false, Bool.false_and, Bool.not_true, Bool.not_false, Bool.and_self]; rfl
    case h2 => intro h; cases h
    intro _
    apply go_skip
    apply go_seq
    apply go_block
    repeat apply go_seq
    apply go_region
    case h => intro m; simp (disch := decide) only [opsLoop, evOper, wantedA, nth, aop, aPick, aBin, aIndexAddr, aFieldAddr, aLoad, aStore, aExtract, aConvert, aAlloc, aBox, aIndex, callA, builtinA, Fr.evs, opt, val, when, AM.run, outV, newA, ptr, force_eq, seen_heap, seen_next, seen_mark, seen_seen, agg_cells, int_cells, Fr.ev, Fr.put, onFr, gps, gpn, bltT, still, flat, List.append_nil, List.nil_append, List.cons_append, Nat.reduceEqDiff, ne_eq, not_false_eq_true, reduceCtorEq, Bool.and_true, Bool.true_and, Bool.and_false, Bool.false_and, Bool.not_true, Bool.not_false, Bool.and_self, g11, g13, tyL, dsL, tyI, szI, hb, mul1, add0, hld]; rfl
    cases hw : wi x 0 65535
    · repeat apply go_seq
      apply go_region
      case h => intro m; simp (disch := decide) only [opsLoop, evOper, wantedA, nth, aop, aPick, aBin, aIndexAddr, aFieldAddr, aLoad, aStore, aExtract, aConvert, aAlloc, aBox, aIndex, callA, builtinA, Fr.evs, opt, val, when, AM.run, outV, newA, ptr, force_eq, seen_heap, seen_next, seen_mark, seen_seen, agg_cells, int_cells, Fr.ev, Fr.put, onFr, gps, gpn, bltT, still, flat, List.append_nil, List.nil_append, List.cons_append, Nat.reduceEqDiff, ne_eq, not_false_eq_true, reduceCtorEq, Bool.and_true, Bool.true_and, Bool.and_false, Bool.false_and, Bool.not_true, Bool.not_false, Bool.and_self, tgW, evT_told sgW, withinA_run, hw, u_not]; rfl
      repeat apply go_seq
      apply go_cond
      case hc => simp (disch := decide) only [opsLoop, evOper, wantedA, nth, aop, aPick, aBin, aIndexAddr, aFieldAddr, aLoad, aStore, aExtract, aConvert, aAlloc, aBox, aIndex, callA, builtinA, Fr.evs, opt, val, when, AM.run, outV, newA, ptr, force_eq, seen_heap, seen_next, seen_mark, seen_seen, agg_cells, int_cells, Fr.ev, Fr.put, onFr, gps, gpn, bltT, still, flat, List.append_nil, List.nil_append, List.cons_append, Nat.reduceEqDiff, ne_eq, not_false_eq_true, reduceCtorEq, Bool.and_true, Bool.true_and, Bool.and_false, Bool.false_and, Bool.not_true, Bool.not_false, Bool.and_self]; rfl
      case h2 => intro h; cases h
      intro _
      repeat apply go_seq
      apply go_region
      case h => intro m; simp (disch := decide) only [opsLoop, evOper, wantedA, nth, aop, aPick, aBin, aIndexAddr, aFieldAddr, aLoad, aStore, aExtract, aConvert, aAlloc, aBox, aIndex, callA, builtinA, Fr.evs, opt, val, when, AM.run, outV, newA, ptr, force_eq, seen_heap, seen_next, seen_mark, seen_seen, agg_cells, int_cells, Fr.ev, Fr.put, onFr, gps, gpn, bltT, still, flat, List.append_nil, List.nil_append, List.cons_append, Nat.reduceEqDiff, ne_eq, not_false_eq_true, reduceCtorEq, Bool.and_true, Bool.true_and, Bool.and_false, Bool.false_and, Bool.not_true, Bool.not_false, Bool.and_self]; rfl
      apply go_ret
      refine ⟨_, rfl, hr.trans (Rd.seen s (n + 1)), .inr ⟨rfl, ?_, i, x, hx, hw⟩⟩
      simp (disch := decide) only [gps, gpn]
    · repeat apply go_seq
      apply go_region
      case h => intro m; simp (disch := decide) only [opsLoop, evOper, wantedA, nth, aop, aPick, aBin, aIndexAddr, aFieldAddr, aLoad, aStore, aExtract, aConvert, aAlloc, aBox, aIndex, callA, builtinA, Fr.evs, opt, val, when, AM.run, outV, newA, ptr, force_eq, seen_heap, seen_next, seen_mark, seen_seen, agg_cells, int_cells, Fr.ev, Fr.put, onFr, gps, gpn, bltT, still, flat, List.append_nil, List.nil_append, List.cons_append, Nat.reduceEqDiff, ne_eq, not_false_eq_true, reduceCtorEq, Bool.and_true, Bool.true_and, Bool.and_false, Bool.false_and, Bool.not_true, Bool.not_false, Bool.and_self, tgW, evT_told sgW, withinA_run, hw, u_not]; rfl
      repeat apply go_seq
      apply go_cond
      case hc => simp (disch := decide) only [opsLoop, evOper, wantedA, nth, aop, aPick, aBin, aIndexAddr, aFieldAddr, aLoad, aStore, aExtract, aConvert, aAlloc, aBox, aIndex, callA, builtinA, Fr.evs, opt, val, when, AM.run, outV, newA, ptr, force_eq, seen_heap, seen_next, seen_mark, seen_seen, agg_cells, int_cells, Fr.ev, Fr.put, onFr, gps, gpn, bltT, still, flat, List.append_nil, List.nil_append, List.cons_append, Nat.reduceEqDiff, ne_eq, not_false_eq_true, reduceCtorEq, Bool.and_true, Bool.true_and, Bool.and_false, Bool.false_and, Bool.not_true, Bool.not_false, Bool.and_self]; rfl
      case h1 => intro h; cases h
      intro _
      apply go_skip
      repeat apply go_seq
      apply go_region
      case h => intro m; simp (disch := decide) only [opsLoop, evOper, wantedA, nth, aop, aPick, aBin, aIndexAddr, aFieldAddr, aLoad, aStore, aExtract, aConvert, aAlloc, aBox, aIndex, callA, builtinA, Fr.evs, opt, val, when, AM.run, outV, newA, ptr, force_eq, seen_heap, seen_next, seen_mark, seen_seen, agg_cells, int_cells, Fr.ev, Fr.put, onFr, gps, gpn, bltT, still, flat, List.append_nil, List.nil_append, List.cons_append, Nat.reduceEqDiff, ne_eq, not_false_eq_true, reduceCtorEq, Bool.and_true, Bool.true_and, Bool.and_false, Bool.false_and, Bool.not_true, Bool.not_false, Bool.and_self, g13, int1, hinc]; rfl
      refine ⟨3 - (i + 1), by omega, i + 1, _, rfl, by omega, rfl, hr.trans (Rd.seen s (n + 1)), ?_, ?_, ?_, ?_, ?_⟩
      · simp (disch := decide) only [gps, gpn, g1]
      · simp (disch := decide) only [gps, gpn, g11]
      · simp (disch := decide) only [gps, gpn, g12]
      · simp (disch := decide) only [gps, gpn, g13]
      · intro j y hj hy
        by_cases e : j = i
        · subst e; rw [hx] at hy; cases hy; exact hw
        · exact hall j y (by omega) hy
  · obtain rfl : i = 3 := by omega
    have hlt' : ltI (Int.ofNat 3) (Int.ofNat 3) = false := rfl
    repeat apply go_seq
    apply go_region
    case h => intro m; simp (disch := decide) only [opsLoop, evOper, wantedA, nth, aop, aPick, aBin, aIndexAddr, aFieldAddr, aLoad, aStore, aExtract, aConvert, aAlloc, aBox, aIndex, callA, builtinA, Fr.evs, opt, val, when, AM.run, outV, newA, ptr, force_eq, seen_heap, seen_next, seen_mark, seen_seen, agg_cells, int_cells, Fr.ev, Fr.put, onFr, gps, gpn, bltT, still, flat, List.append_nil, List.nil_append, List.cons_append, Nat.reduceEqDiff, ne_eq, not_false_eq_true, reduceCtorEq, Bool.and_true, Bool.true_and, Bool.and_false, Bool.false_and, Bool.not_true, Bool.not_false, Bool.and_self, g12, g13, b_lss, hlt']; rfl
    repeat apply go_seq
    apply go_cond
    case hc => simp (disch := decide) only [opsLoop, evOper, wantedA, nth, aop, aPick, aBin, aIndexAddr, aFieldAddr, aLoad, aStore, aExtract, aConvert, aAlloc, aBox, aIndex, callA, builtinA, Fr.evs, opt, val, when, AM.run, outV, newA, ptr, force_eq, seen_heap, seen_next, seen_mark, seen_seen, agg_cells, int_cells, Fr.ev, Fr.put, onFr, gps, gpn, bltT, still, flat, List.append_nil, List.nil_append, List.cons_append, Nat.reduceEqDiff, ne_eq, not_false_eq_true, reduceCtorEq, Bool.and_true, Bool.true_and, Bool.and_false, Bool.false_and, Bool.not_true, Bool.not_false, Bool.and_self]; rfl
    case h1 => intro h; cases h
    intro _
    apply go_exit
    refine ⟨_, rfl, hr, .inl ⟨rfl, ?_, fun j x hx => hall j x (by have := (List.getElem?_eq_some_iff.1 hx).1; simpa [three] using this) hx⟩⟩
    simp (disch := decide) only [gps, gpn, g1]

/-! names that are taken and let go -/
theorem bump_run {α : Type} : ∀ (n : Nat) (k : AM α) (s : S) (r : α × S), (bump n k).run s = some r → ∃ s1, k.run s1 = some r ∧ s1.next = s.next + n ∧ s1.mark = s.mark ∧ (∀ m, s1.heap.get m = if s.next ≤ m ∧ m < s.next + n then none else s.heap.get m) ∧ (∀ i, i < n → Nat.ble (s.next + i) lastName = true)
  | 0, k, s, r, h => ⟨s, h, rfl, rfl, fun m => by rw [if_neg (by omega)], fun i hi => by omega⟩
  | n + 1, k, s, r, h => by
    obtain ⟨h1, h2⟩ := run_new h
    have hb : Nat.ble s.next lastName = true := by
      simp only [bump, AM.run, force_eq] at h
      cases hh : Nat.ble s.next lastName with
      | true => rfl
      | false => rw [hh] at h; cases h
    obtain ⟨_, _, h3⟩ := run_del h2
    obtain ⟨s1, e1, e2, e3, e4, e5⟩ := bump_run n k _ r h3
    refine ⟨s1, e1, by rw [e2]; show s.next + 1 + n = _; omega, by rw [e3]; rfl, ?_, ?_⟩
    · intro m
      rw [e4 m]
      show (if s.next + 1 ≤ m ∧ m < s.next + 1 + n then none else ((s.heap.put s.next (some (.deferred none))).put s.next none).get m) = _
      rw [Tr.get_put _ _ _ _ h1, Tr.get_put _ _ _ _ h1]
      by_cases hm : m = s.next
      · rw [if_neg (by omega), if_pos hm, if_pos (by omega)]
      · rw [if_neg hm, if_neg hm]
        by_cases h5 : s.next + 1 ≤ m ∧ m < s.next + 1 + n
        · rw [if_pos h5, if_pos (by omega)]
        · rw [if_neg h5, if_neg (by omega)]
    · intro i hi
      cases i with
      | zero => exact hb
      | succ i =>
        have h6 := e5 i (by omega)
        have h7 : (S.turn (s.grow (.deferred none)) s.next none).next + i = s.next + (i + 1) := by show s.next + 1 + i = _; omega
        rw [h7] at h6
        exact h6
theorem hg_same {α : Type} {n : Nat} (h : Nat.ble n lastName = true) (t : Tr α) (x : Option α) : (t.put n x).get n = x := by
  have := ble_iff.1 h
  rw [Tr.get_put _ _ _ _ (by unfold lastName at this; unfold Tr.wide; omega), if_pos rfl]
theorem hg_far {α : Type} {n m : Nat} (h : Nat.ble n lastName = true) (hne : m ≠ n) (t : Tr α) (x : Option α) : (t.put n x).get m = t.get m := by
  have := ble_iff.1 h
  rw [Tr.get_put _ _ _ _ (by unfold lastName at this; unfold Tr.wide; omega), if_neg hne]

/-! all noughts, or not -/
theorem lead_all (l : List UInt8) : lead l = l.length ↔ ∀ (j : Nat) (x : UInt8), l[j]? = some x → x = 0 := by
  induction l with
  | nil => simp [lead]
  | cons y l ih =>
    unfold lead
    constructor
    · intro h
      by_cases hy : y = 0
      · rw [if_pos hy] at h
        have h2 := ih.1 (by simpa using h)
        intro j x hx
        cases j with
        | zero => simp at hx; subst hx; exact hy
        | succ j => exact h2 j x (by simpa using hx)
      · rw [if_neg hy] at h; simp at h
    · intro h
      have hy : y = 0 := h 0 y rfl
      rw [if_pos hy, ih.2 (fun j x hx => h (j + 1) x (by simpa using hx))]
      simp
theorem rl_pos (l : List UInt8) (h : rl l = 0) : ∀ (j : Nat) (x : UInt8), l[j]? = some x → x = 0 := by
  induction l with
  | nil => intro j x hx; simp at hx
  | cons y l ih =>
    unfold rl at h
    split at h
    · rename_i hc
      intro j x hx
      cases j with
      | zero => simp at hx; subst hx; exact hc.2
      | succ j => exact ih hc.1 j x (by simpa using hx)
    · omega
theorem rl_last : ∀ (l : List UInt8) (n : Nat), rl l = n + 1 → ∃ x, l[n]? = some x ∧ x ≠ 0
  | [], n, h => by simp [rl] at h
  | y :: l, n, h => by
    unfold rl at h
    split at h
    · omega
    · rename_i hc
      cases hr : rl l with
      | zero =>
        have : n = 0 := by omega
        subst this
        exact ⟨y, rfl, fun e => hc ⟨hr, e⟩⟩
      | succ k =>
        have : n = k + 1 := by omega
        subst this
        obtain ⟨x, h1, h2⟩ := rl_last l k hr
        exact ⟨x, by simpa using h1, h2⟩
theorem trim_len (ad : Addr) (cap : Nat) (l : List UInt8) : ∃ a n c, trimV ad cap l = .slice a n c ∧ eqI (Int.ofNat n) (Int.ofNat 0) = noughts l := by
  unfold trimV trimLV
  by_cases hn : lead l = l.length
  · have hz := (lead_all l).1 hn
    have h0 : rl l = 0 := rl_zero l hz
    rw [h0, List.take_zero]
    refine ⟨none, 0, 0, rfl, ?_⟩
    unfold noughts
    rw [beq_iff.2 hn]
    rfl
  · have hk : noughts l = false := by
      unfold noughts
      cases hb : Nat.beq (lead l) l.length with
      | false => rfl
      | true => exact absurd (beq_iff.1 hb) hn
    cases hr : rl l with
    | zero => exact absurd ((lead_all l).2 (rl_pos l hr)) hn
    | succ k =>
      obtain ⟨x, hx, hx0⟩ := rl_last l k hr
      have hne : lead (l.take (k + 1)) ≠ (l.take (k + 1)).length := by
        intro e
        refine hx0 ((lead_all _).1 e k x ?_)
        rw [List.getElem?_take, if_pos (by omega)]
        exact hx
      have hle := lead_le (l.take (k + 1))
      rw [if_neg hne]
      exact ⟨_, _, _, rfl, by rw [hk]; exact eqI_f (by omega)⟩

theorem rightL_three {d : LeafD} {j : Nat} {x : Int} (h : (three d)[j]? = some x) (hw : wi x 0 65535 = false) : rightL d = false := by
  have hlt : j < 3 := (List.getElem?_eq_some_iff.1 h).1
  unfold rightL
  match j, hlt with
  | 0, _ => simp [three] at h; subst h; rw [hw]; rfl
  | 1, _ => simp [three] at h; subst h; rw [hw]; simp
  | 2, _ => simp [three] at h; subst h; rw [hw]; simp
end Go.Proofs.YtioieffmihdheaaDoor.lf
