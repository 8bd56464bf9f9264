/- Leaves: a leaf as a block's bytes: told. -/
import Derived.Test.YtdkieabjjmhdlaaDoorMRowLeafTells0
section
/- Leaves: whether a leaf may be. -/
noncomputable section
namespace Go.Proofs.YtdkieabjjmhdlaaDoor.lf
open AE
set_option linter.unusedSimpArgs false
set_option linter.unusedVariables false
set_option maxRecDepth 10000

/-- a leaf, as plain data -/
structure LeafD where
  kind : Int
  file : Int
  place : Int
  next : Int
  size : Int
  load : List UInt8
def LeafD.cells (d : LeafD) : List Value := [.int .i64 d.kind, .int .i64 d.file, .int .i64 d.place, .int .i64 d.next, .int .i64 d.size] ++ d.load.map bv
def LeafD.val (d : LeafD) : Value := .agg ⟨d.cells⟩
def leafOf : List Value → Option LeafD
  | .int .i64 a :: .int .i64 b :: .int .i64 c :: .int .i64 d :: .int .i64 e :: l => match bytesV l with
    | none => none
    | some bs => match Nat.beq bs.length 116 with
      | true => some ⟨a, b, c, d, e, bs⟩
      | false => none
  | _ => none
theorem leafOf_inv {cs : List Value} {d : LeafD} (h : leafOf cs = some d) : cs = d.cells ∧ d.load.length = 116 := by
  unfold leafOf at h
  split at h
  · rename_i a b c e f l
    split at h
    · cases h
    · rename_i bs hbs
      split at h
      · rename_i hb
        cases h
        exact ⟨by rw [bytesV_inv hbs]; rfl, beq_iff.1 hb⟩
      · cases h
  · cases h
theorem leafOf_cells (d : LeafD) (h : d.load.length = 116) : leafOf d.cells = some d := by
  simp only [LeafD.cells, List.cons_append, List.nil_append, leafOf, bytesV_map, beq_iff.2 h]
theorem LeafD.len (d : LeafD) (h : d.load.length = 116) : d.cells.length = 121 := by simp [LeafD.cells, h]

def wi (n lo hi : Int) : Bool := not (ltI n lo) && not (ltI hi n)
theorem wi_iff {n lo hi : Int} : wi n lo hi = true ↔ lo ≤ n ∧ n ≤ hi := by
  unfold wi
  rw [ltI_not, ltI_not]
  simp
def noughts (l : List UInt8) : Bool := Nat.beq (lead l) l.length
/-- may it be? -/
def rightL (d : LeafD) : Bool := wi d.file 0 65535 && wi d.place 0 65535 && wi d.next 0 65535 && wi d.kind 1 2 && wi d.size 0 116 && noughts (d.load.drop d.size.toNat)
def rightA : List Value → AM Value
  | [.agg ⟨cs⟩] => opt (leafOf cs) fun d => bump 2 (.pure (.bool (rightL d)))
  | _ => .fail

/-! a cell is read -/
theorem cell_load {s : S} {b off : Nat} {v : Value} {c : Tr Value} {m : Nat} {e : TypeId} {rm : Room} (i : TI) (hi : isAggD i.desc = false) (hlt : b < s.next) (hg : s.heap.get b = some (.cells c m e rm)) (hm : off + 1 ≤ m) (hc : c.get off = some v) :
    (loadT i ⟨b, off, none⟩ AE.val).run s = some (.value v, s.seen b) := by
  unfold loadT loadA
  rw [hi]
  simp only [AM.run, blt_iff.2 hlt, hg, when, show Nat.ble (Nat.add off 1) m = true from ble_iff.2 hm, rdCells, show Nat.add off 0 = off from rfl, hc, opt, AE.val]
  rfl

theorem has_load {s : S} {b off : Nat} {v : Value} {c : Tr Value} {m : Nat} (i : TI) (hi : isAggD i.desc = false) (hlt : b < s.next) (hg : Has s b c m) (hm : off + 1 ≤ m) (hc : c.get off = some v) :
    (loadT i ⟨b, off, none⟩ AE.val).run s = some (.value v, s.seen b) := by
  unfold loadT loadA
  rw [hi]
  rcases hg with ⟨e, rm, hg⟩ | ⟨e, hg⟩
  all_goals
    simp only [AM.run, blt_iff.2 hlt, hg, when, show Nat.ble (Nat.add off 1) m = true from ble_iff.2 hm, rdCells, show Nat.add off 0 = off from rfl, hc, opt, AE.val]
    rfl
noncomputable def tiLf : TI := TI.of Tryd.prog 24
theorem tyLf : E.ty.get 24 = some tiLf := by kernel_rfl
theorem szLf : tiLf.size = 121 := by kernel_rfl
noncomputable def fsLf : Array Field := match tiLf.desc with | .struct fs => fs | _ => #[]
theorem dsLf : tiLf.desc = .struct fsLf := by kernel_rfl
noncomputable def fd (i : Nat) : Field := (fieldAt? fsLf.toList i).getD default
theorem fl0 : fieldAt? fsLf.toList 0 = some (fd 0) := by kernel_rfl
theorem fl1 : fieldAt? fsLf.toList 1 = some (fd 1) := by kernel_rfl
theorem fl2 : fieldAt? fsLf.toList 2 = some (fd 2) := by kernel_rfl
theorem fl3 : fieldAt? fsLf.toList 3 = some (fd 3) := by kernel_rfl
theorem fl4 : fieldAt? fsLf.toList 4 = some (fd 4) := by kernel_rfl
theorem fl5 : fieldAt? fsLf.toList 5 = some (fd 5) := by kernel_rfl
theorem ft0 : (fd 0).type = 3 := by kernel_rfl
theorem ft1 : (fd 1).type = 3 := by kernel_rfl
theorem ft2 : (fd 2).type = 3 := by kernel_rfl
theorem ft3 : (fd 3).type = 3 := by kernel_rfl
theorem ft4 : (fd 4).type = 3 := by kernel_rfl
theorem ft5 : (fd 5).type = 22 := by kernel_rfl
theorem fo0 : (fd 0).offset = 0 := by kernel_rfl
theorem fo1 : (fd 1).offset = 1 := by kernel_rfl
theorem fo2 : (fd 2).offset = 2 := by kernel_rfl
theorem fo3 : (fd 3).offset = 3 := by kernel_rfl
theorem fo4 : (fd 4).offset = 4 := by kernel_rfl
theorem fo5 : (fd 5).offset = 5 := by kernel_rfl
theorem ble11 : Nat.ble 1 1 = true := rfl
theorem ble1A : Nat.ble 1 116 = true := rfl
theorem ad0 (n : Nat) : addA ⟨n, 0, none⟩ 0 = ⟨n, 0, none⟩ := rfl
theorem ad1 (n : Nat) : addA ⟨n, 0, none⟩ 1 = ⟨n, 1, none⟩ := rfl
theorem ad2 (n : Nat) : addA ⟨n, 0, none⟩ 2 = ⟨n, 2, none⟩ := rfl
theorem ad3' (n : Nat) : addA ⟨n, 0, none⟩ 3 = ⟨n, 3, none⟩ := rfl
theorem ad4 (n : Nat) : addA ⟨n, 0, none⟩ 4 = ⟨n, 4, none⟩ := rfl
theorem ad5 (n : Nat) : addA ⟨n, 0, none⟩ 5 = ⟨n, 5, none⟩ := rfl

/-- the leaf d lies in the block n, whole -/
structure LfAt (s : S) (n : Nat) (d : LeafD) : Prop where
  lt : n < s.next
  cell : ∃ c e rm, s.heap.get n = some (.cells c 121 e rm) ∧ Row c 0 d.cells
  len : d.load.length = 116
theorem LfAt.rd {s s' : S} {n : Nat} {d : LeafD} (h : LfAt s n d) (hr : Rd s s') : LfAt s' n d := ⟨by rw [hr.next]; exact h.lt, by rw [hr.heap]; exact h.cell, h.len⟩
theorem LfAt.get {s : S} {n : Nat} {d : LeafD} (h : LfAt s n d) (k : Nat) (v : Value) (hk : d.cells[k]? = some v) : (loadT tiI ⟨n, k, none⟩ AE.val).run s = some (.value v, s.seen n) := by
  obtain ⟨c, e, rm, h1, h2⟩ := h.cell
  have hlt := (List.getElem?_eq_some_iff.1 hk).1
  rw [d.len h.len] at hlt
  exact cell_load tiI (by rw [dsI]; rfl) h.lt h1 (by omega) (by have := h2 k v hk; rwa [Nat.zero_add] at this)
theorem LfAt.bs {s : S} {n : Nat} {d : LeafD} (h : LfAt s n d) (k : Nat) (hk : k ≤ 116) : Bs s ⟨n, 5 + k, none⟩ (d.load.drop k) := by
  obtain ⟨c, e, rm, h1, h2⟩ := h.cell
  refine ⟨rfl, h.lt, c, 121, .inl ⟨e, rm, h1⟩, by simp [h.len]; omega, ?_⟩
  intro j v hj
  have h3 : d.cells[5 + k + j]? = some v := by
    unfold LeafD.cells
    rw [List.getElem?_append_right (by simp; omega)]
    rw [List.map_drop, List.getElem?_drop] at hj
    simpa [show 5 + k + j - 5 = k + j by omega] using hj
  have := h2 _ _ h3
  simpa using this
end Go.Proofs.YtdkieabjjmhdlaaDoor.lf
end
end

section
/- Leaves: whether a leaf may be: the walk. -/
noncomputable section
namespace Go.Proofs.YtdkieabjjmhdlaaDoor.lf
open AE
set_option linter.unusedSimpArgs false
set_option linter.unusedVariables false
set_option maxRecDepth 10000

abbrev sigR : List (Nat × (List Value → AM Value)) := [(20, withinA), (21, trimA)]
theorem tolds_R : Tolds Tryd.prog (sumsOf sigR) := tolds_cons told_within (tolds_cons told_trim tolds_nil)
theorem sgW : sumsOf sigR 20 = some withinA := rfl
theorem sgT : sumsOf sigR 21 = some trimA := rfl
theorem tgW : ∀ a b, targetA E (.func 20) a b = .pure (.enter 20 (b ++ a)) := tgt (fi := fiW) (c := cdW) (by kernel_rfl) (by kernel_rfl)
theorem tgT : ∀ a b, targetA E (.func 21) a b = .pure (.enter 21 (b ++ a)) := tgt (fi := fiT) (c := cdT) (by kernel_rfl) (by kernel_rfl)
theorem withinA_run (n lo hi : Int) (s : S) : (withinA [.int .i64 n, .int .i64 lo, .int .i64 hi]).run s = some (.bool (wi n lo hi), s) := rfl
theorem add0 (b i : Nat) : addA ⟨b, 0, none⟩ i = ⟨b, i, none⟩ := by
  cases i with
  | zero => rfl
  | succ k => show (⟨b, Nat.add 0 (Nat.succ k), none⟩ : Addr) = _; rw [show Nat.add 0 (Nat.succ k) = k + 1 from Nat.zero_add _]
theorem mul1 (i : Nat) : Nat.mul i 1 = i := Nat.mul_one i
theorem b_incr {n : Nat} (h : n < 9223372036854775807) : ∀ E t, binA E .add t (.int .i64 (.ofNat n)) (.int .i64 (.ofNat 1)) = some (.int .i64 (.ofNat (n + 1))) := fun E t => b_inc h

noncomputable def fiR : FI := FI.of Tryd.f9
noncomputable def cdR : Code := bodyOf Tryd.f9
noncomputable def cdRl : Code := sub [1,0,1,0,0] cdR
theorem resR : fiR.results = [.tmp 2] := rfl

def three (d : LeafD) : List Int := [d.file, d.place, d.next]
structure R3 (s : S) (n : Nat) (d : LeafD) : Prop where
  lf : LfAt s n d
  lt : n + 1 < s.next
  cell : ∃ c e rm, s.heap.get (n + 1) = some (.cells c 3 e rm) ∧ Row c 0 [.int .i64 d.file, .int .i64 d.place, .int .i64 d.next]
theorem R3.rd {s s' : S} {n : Nat} {d : LeafD} (h : R3 s n d) (hr : Rd s s') : R3 s' n d := ⟨h.lf.rd hr, by rw [hr.next]; exact h.lt, by rw [hr.heap]; exact h.cell⟩
theorem R3.get {s : S} {n : Nat} {d : LeafD} (h : R3 s n d) (k : Nat) (x : Int) (hk : (three d)[k]? = some x) : (loadT tiI ⟨n + 1, k, none⟩ AE.val).run s = some (.value (.int .i64 x), s.seen (n + 1)) := by
  obtain ⟨c, e, rm, h1, h2⟩ := h.cell
  have hlt : k < 3 := (List.getElem?_eq_some_iff.1 hk).1
  refine cell_load tiI (by rw [dsI]; rfl) h.lt h1 (by omega) ?_
  have h3 : [Value.int .i64 d.file, .int .i64 d.place, .int .i64 d.next][k]? = some (.int .i64 x) := by
    match k, hlt with
    | 0, _ => simpa [three] using hk
    | 1, _ => simpa [three] using hk
    | 2, _ => simpa [three] using hk
  have := h2 k _ h3
  rwa [Nat.zero_add] at this

def InvR (d : LeafD) (n : Nat) (s0 : S) (k : Nat) (fr : Fr) (s : S) : Prop :=
  ∃ (i : Nat) (t : Tr Value), k = 3 - i ∧ i ≤ 3 ∧ fr = ⟨9, t, 38, [], none⟩ ∧ Rd s0 s ∧ t.get 1 = some (.pointer (some ⟨n, 0, none⟩)) ∧ t.get 11 = some (.slice (some ⟨n + 1, 0, none⟩) 3 3) ∧
    t.get 12 = some (.int .i64 (.ofNat 3)) ∧ t.get 13 = some (.int .i64 (.ofNat i)) ∧ (∀ (j : Nat) (x : Int), j < i → (three d)[j]? = some x → wi x 0 65535 = true)
def PostR (d : LeafD) (n : Nat) (s0 : S) (x : Ex) (fr : Fr) (s : S) : Prop :=
  ∃ t : Tr Value, fr = ⟨9, t, 38, [], none⟩ ∧ Rd s0 s ∧ ((x = .exit 0 ∧ t.get 1 = some (.pointer (some ⟨n, 0, none⟩)) ∧ ∀ (j : Nat) (x : Int), (three d)[j]? = some x → wi x 0 65535 = true) ∨
    (x = .ret ∧ t.get 2 = some (.bool false) ∧ ∃ (j : Nat) (x : Int), (three d)[j]? = some x ∧ wi x 0 65535 = false))
theorem right_round (d : LeafD) (n : Nat) (s0 : S) (h3 : R3 s0 n d) (k : Nat) (fr : Fr) (s : S) (h : InvR d n s0 k fr s) : GoC E (sumsOf sigR) cdRl fr s (Again (InvR d n s0) k (PostR d n s0)) := by
  obtain ⟨i, t, hk, hi, rfl, hr, g1, g11, g12, g13, hall⟩ := h
  simp only [cdRl, cdR, Tryd.f9, bodyOf, sub]
  by_cases hlt : i < 3
  · obtain ⟨x, hx⟩ : ∃ x, (three d)[i]? = some x := ⟨_, List.getElem?_eq_getElem (by simpa [three] using hlt)⟩
    have hlt' : ltI (Int.ofNat i) (Int.ofNat 3) = true := by rw [ltI_eq]; simp; omega
    have hb : Nat.blt i 3 = true := blt_iff.2 hlt
    have hld := (h3.rd hr).get i x hx
    have hinc := b_incr (n := i) (by omega)
    repeat apply go_seq
    apply go_region
    case h => intro m; simp (maxSteps := 2000000) (disch := decide) only [opsLoop, evOper, wantedA, nth, aop, aPick, aBin, aIndexAddr, aFieldAddr, aLoad, aStore, aExtract, aConvert, aAlloc, aBox, aIndex, callA, builtinA, Fr.evs, opt, val, when, AM.run, outV, newA, ptr, force_eq, seen_heap, seen_next, seen_mark, seen_seen, agg_cells, int_cells, Fr.ev, Fr.put, onFr, gps, gpn, bltT, still, flat, List.append_nil, List.nil_append, List.cons_append, Nat.reduceEqDiff, ne_eq, not_false_eq_true, reduceCtorEq, Bool.and_true, Bool.true_and, Bool.and_false, Bool.false_and, Bool.not_true, Bool.not_false, Bool.and_self, g12, g13, b_lss, hlt']; rfl
    repeat apply go_seq
    apply go_cond
    case hc => simp (disch := decide) only [opsLoop, evOper, wantedA, nth, aop, aPick, aBin, aIndexAddr, aFieldAddr, aLoad, aStore, aExtract, aConvert, aAlloc, aBox, aIndex, callA, builtinA, Fr.evs, opt, val, when, AM.run, outV, newA, ptr, force_eq, seen_heap, seen_next, seen_mark, seen_seen, agg_cells, int_cells, Fr.ev, Fr.put, onFr, gps, gpn, bltT, still, flat, List.append_nil, List.nil_append, List.cons_append, Nat.reduceEqDiff, ne_eq, not_false_eq_true, reduceCtorEq, Bool.and_true, Bool.true_and, Bool.and_false, Bool.false_and, Bool.not_true, Bool.not_false, Bool.and_self]; rfl
    case h2 => intro h; cases h
    intro _
    apply go_skip
    apply go_seq
    apply go_block
    repeat apply go_seq
    apply go_region
    case h => intro m; simp (maxSteps := 2000000) (disch := decide) only [opsLoop, evOper, wantedA, nth, aop, aPick, aBin, aIndexAddr, aFieldAddr, aLoad, aStore, aExtract, aConvert, aAlloc, aBox, aIndex, callA, builtinA, Fr.evs, opt, val, when, AM.run, outV, newA, ptr, force_eq, seen_heap, seen_next, seen_mark, seen_seen, agg_cells, int_cells, Fr.ev, Fr.put, onFr, gps, gpn, bltT, still, flat, List.append_nil, List.nil_append, List.cons_append, Nat.reduceEqDiff, ne_eq, not_false_eq_true, reduceCtorEq, Bool.and_true, Bool.true_and, Bool.and_false, Bool.false_and, Bool.not_true, Bool.not_false, Bool.and_self, g11, g13, tyL, dsL, tyI, szI, hb, mul1, add0, hld]; rfl
    cases hw : wi x 0 65535
    · repeat apply go_seq
      apply go_region
      case h => intro m; simp (maxSteps := 2000000) (disch := decide) only [opsLoop, evOper, wantedA, nth, aop, aPick, aBin, aIndexAddr, aFieldAddr, aLoad, aStore, aExtract, aConvert, aAlloc, aBox, aIndex, callA, builtinA, Fr.evs, opt, val, when, AM.run, outV, newA, ptr, force_eq, seen_heap, seen_next, seen_mark, seen_seen, agg_cells, int_cells, Fr.ev, Fr.put, onFr, gps, gpn, bltT, still, flat, List.append_nil, List.nil_append, List.cons_append, Nat.reduceEqDiff, ne_eq, not_false_eq_true, reduceCtorEq, Bool.and_true, Bool.true_and, Bool.and_false, Bool.false_and, Bool.not_true, Bool.not_false, Bool.and_self, tgW, evT_told sgW, withinA_run, hw, u_not]; rfl
      repeat apply go_seq
      apply go_cond
      case hc => simp (disch := decide) only [opsLoop, evOper, wantedA, nth, aop, aPick, aBin, aIndexAddr, aFieldAddr, aLoad, aStore, aExtract, aConvert, aAlloc, aBox, aIndex, callA, builtinA, Fr.evs, opt, val, when, AM.run, outV, newA, ptr, force_eq, seen_heap, seen_next, seen_mark, seen_seen, agg_cells, int_cells, Fr.ev, Fr.put, onFr, gps, gpn, bltT, still, flat, List.append_nil, List.nil_append, List.cons_append, Nat.reduceEqDiff, ne_eq, not_false_eq_true, reduceCtorEq, Bool.and_true, Bool.true_and, Bool.and_false, Bool.false_and, Bool.not_true, Bool.not_false, Bool.and_self]; rfl
      case h2 => intro h; cases h
      intro _
      repeat apply go_seq
      apply go_region
      case h => intro m; simp (maxSteps := 2000000) (disch := decide) only [opsLoop, evOper, wantedA, nth, aop, aPick, aBin, aIndexAddr, aFieldAddr, aLoad, aStore, aExtract, aConvert, aAlloc, aBox, aIndex, callA, builtinA, Fr.evs, opt, val, when, AM.run, outV, newA, ptr, force_eq, seen_heap, seen_next, seen_mark, seen_seen, agg_cells, int_cells, Fr.ev, Fr.put, onFr, gps, gpn, bltT, still, flat, List.append_nil, List.nil_append, List.cons_append, Nat.reduceEqDiff, ne_eq, not_false_eq_true, reduceCtorEq, Bool.and_true, Bool.true_and, Bool.and_false, Bool.false_and, Bool.not_true, Bool.not_false, Bool.and_self]; rfl
      apply go_ret
      refine ⟨_, rfl, hr.trans (Rd.seen s (n + 1)), .inr ⟨rfl, ?_, i, x, hx, hw⟩⟩
      simp (disch := decide) only [gps, gpn]
    · repeat apply go_seq
      apply go_region
      case h => intro m; simp (maxSteps := 2000000) (disch := decide) only [opsLoop, evOper, wantedA, nth, aop, aPick, aBin, aIndexAddr, aFieldAddr, aLoad, aStore, aExtract, aConvert, aAlloc, aBox, aIndex, callA, builtinA, Fr.evs, opt, val, when, AM.run, outV, newA, ptr, force_eq, seen_heap, seen_next, seen_mark, seen_seen, agg_cells, int_cells, Fr.ev, Fr.put, onFr, gps, gpn, bltT, still, flat, List.append_nil, List.nil_append, List.cons_append, Nat.reduceEqDiff, ne_eq, not_false_eq_true, reduceCtorEq, Bool.and_true, Bool.true_and, Bool.and_false, Bool.false_and, Bool.not_true, Bool.not_false, Bool.and_self, tgW, evT_told sgW, withinA_run, hw, u_not]; rfl
      repeat apply go_seq
      apply go_cond
      case hc => simp (disch := decide) only [opsLoop, evOper, wantedA, nth, aop, aPick, aBin, aIndexAddr, aFieldAddr, aLoad, aStore, aExtract, aConvert, aAlloc, aBox, aIndex, callA, builtinA, Fr.evs, opt, val, when, AM.run, outV, newA, ptr, force_eq, seen_heap, seen_next, seen_mark, seen_seen, agg_cells, int_cells, Fr.ev, Fr.put, onFr, gps, gpn, bltT, still, flat, List.append_nil, List.nil_append, List.cons_append, Nat.reduceEqDiff, ne_eq, not_false_eq_true, reduceCtorEq, Bool.and_true, Bool.true_and, Bool.and_false, Bool.false_and, Bool.not_true, Bool.not_false, Bool.and_self]; rfl
      case h1 => intro h; cases h
      intro _
      apply go_skip
      repeat apply go_seq
      apply go_region
      case h => intro m; simp (maxSteps := 2000000) (disch := decide) only [opsLoop, evOper, wantedA, nth, aop, aPick, aBin, aIndexAddr, aFieldAddr, aLoad, aStore, aExtract, aConvert, aAlloc, aBox, aIndex, callA, builtinA, Fr.evs, opt, val, when, AM.run, outV, newA, ptr, force_eq, seen_heap, seen_next, seen_mark, seen_seen, agg_cells, int_cells, Fr.ev, Fr.put, onFr, gps, gpn, bltT, still, flat, List.append_nil, List.nil_append, List.cons_append, Nat.reduceEqDiff, ne_eq, not_false_eq_true, reduceCtorEq, Bool.and_true, Bool.true_and, Bool.and_false, Bool.false_and, Bool.not_true, Bool.not_false, Bool.and_self, g13, int1, hinc]; rfl
      refine ⟨3 - (i + 1), by omega, i + 1, _, rfl, by omega, rfl, hr.trans (Rd.seen s (n + 1)), ?_, ?_, ?_, ?_, ?_⟩
      · simp (disch := decide) only [gps, gpn, g1]
      · simp (disch := decide) only [gps, gpn, g11]
      · simp (disch := decide) only [gps, gpn, g12]
      · simp (disch := decide) only [gps, gpn, g13]
      · intro j y hj hy
        by_cases e : j = i
        · subst e; rw [hx] at hy; cases hy; exact hw
        · exact hall j y (by omega) hy
  · obtain rfl : i = 3 := by omega
    have hlt' : ltI (Int.ofNat 3) (Int.ofNat 3) = false := rfl
    repeat apply go_seq
    apply go_region
    case h => intro m; simp (maxSteps := 2000000) (disch := decide) only [opsLoop, evOper, wantedA, nth, aop, aPick, aBin, aIndexAddr, aFieldAddr, aLoad, aStore, aExtract, aConvert, aAlloc, aBox, aIndex, callA, builtinA, Fr.evs, opt, val, when, AM.run, outV, newA, ptr, force_eq, seen_heap, seen_next, seen_mark, seen_seen, agg_cells, int_cells, Fr.ev, Fr.put, onFr, gps, gpn, bltT, still, flat, List.append_nil, List.nil_append, List.cons_append, Nat.reduceEqDiff, ne_eq, not_false_eq_true, reduceCtorEq, Bool.and_true, Bool.true_and, Bool.and_false, Bool.false_and, Bool.not_true, Bool.not_false, Bool.and_self, g12, g13, b_lss, hlt']; rfl
    repeat apply go_seq
    apply go_cond
    case hc => simp (disch := decide) only [opsLoop, evOper, wantedA, nth, aop, aPick, aBin, aIndexAddr, aFieldAddr, aLoad, aStore, aExtract, aConvert, aAlloc, aBox, aIndex, callA, builtinA, Fr.evs, opt, val, when, AM.run, outV, newA, ptr, force_eq, seen_heap, seen_next, seen_mark, seen_seen, agg_cells, int_cells, Fr.ev, Fr.put, onFr, gps, gpn, bltT, still, flat, List.append_nil, List.nil_append, List.cons_append, Nat.reduceEqDiff, ne_eq, not_false_eq_true, reduceCtorEq, Bool.and_true, Bool.true_and, Bool.and_false, Bool.false_and, Bool.not_true, Bool.not_false, Bool.and_self]; rfl
    case h1 => intro h; cases h
    intro _
    apply go_exit
    refine ⟨_, rfl, hr, .inl ⟨rfl, ?_, fun j x hx => hall j x (by have := (List.getElem?_eq_some_iff.1 hx).1; simpa [three] using this) hx⟩⟩
    simp (disch := decide) only [gps, gpn, g1]

/-! names that are taken and let go -/
theorem bump_run {α : Type} : ∀ (n : Nat) (k : AM α) (s : S) (r : α × S), (bump n k).run s = some r → ∃ s1, k.run s1 = some r ∧ s1.next = s.next + n ∧ s1.mark = s.mark ∧ (∀ m, s1.heap.get m = if s.next ≤ m ∧ m < s.next + n then none else s.heap.get m) ∧ (∀ i, i < n → Nat.ble (s.next + i) lastName = true)
  | 0, k, s, r, h => ⟨s, h, rfl, rfl, fun m => by rw [if_neg (by omega)], fun i hi => by omega⟩
  | n + 1, k, s, r, h => by
    obtain ⟨h1, h2⟩ := run_new h
    have hb : Nat.ble s.next lastName = true := by
      simp only [bump, AM.run, force_eq] at h
      cases hh : Nat.ble s.next lastName with
      | true => rfl
      | false => rw [hh] at h; cases h
    obtain ⟨_, _, h3⟩ := run_del h2
    obtain ⟨s1, e1, e2, e3, e4, e5⟩ := bump_run n k _ r h3
    refine ⟨s1, e1, by rw [e2]; show s.next + 1 + n = _; omega, by rw [e3]; rfl, ?_, ?_⟩
    · intro m
      rw [e4 m]
      show (if s.next + 1 ≤ m ∧ m < s.next + 1 + n then none else ((s.heap.put s.next (some (.deferred none))).put s.next none).get m) = _
      rw [Tr.get_put _ _ _ _ h1, Tr.get_put _ _ _ _ h1]
      by_cases hm : m = s.next
      · rw [if_neg (by omega), if_pos hm, if_pos (by omega)]
      · rw [if_neg hm, if_neg hm]
        by_cases h5 : s.next + 1 ≤ m ∧ m < s.next + 1 + n
        · rw [if_pos h5, if_pos (by omega)]
        · rw [if_neg h5, if_neg (by omega)]
    · intro i hi
      cases i with
      | zero => exact hb
      | succ i =>
        have h6 := e5 i (by omega)
        have h7 : (S.turn (s.grow (.deferred none)) s.next none).next + i = s.next + (i + 1) := by show s.next + 1 + i = _; omega
        rw [h7] at h6
        exact h6
theorem hg_same {α : Type} {n : Nat} (h : Nat.ble n lastName = true) (t : Tr α) (x : Option α) : (t.put n x).get n = x := by
  have := ble_iff.1 h
  rw [Tr.get_put _ _ _ _ (by unfold lastName at this; unfold Tr.wide; omega), if_pos rfl]
theorem hg_far {α : Type} {n m : Nat} (h : Nat.ble n lastName = true) (hne : m ≠ n) (t : Tr α) (x : Option α) : (t.put n x).get m = t.get m := by
  have := ble_iff.1 h
  rw [Tr.get_put _ _ _ _ (by unfold lastName at this; unfold Tr.wide; omega), if_neg hne]

/-! all noughts, or not -/
theorem lead_all (l : List UInt8) : lead l = l.length ↔ ∀ (j : Nat) (x : UInt8), l[j]? = some x → x = 0 := by
  induction l with
  | nil => simp [lead]
  | cons y l ih =>
    unfold lead
    constructor
    · intro h
      by_cases hy : y = 0
      · rw [if_pos hy] at h
        have h2 := ih.1 (by simpa using h)
        intro j x hx
        cases j with
        | zero => simp at hx; subst hx; exact hy
        | succ j => exact h2 j x (by simpa using hx)
      · rw [if_neg hy] at h; simp at h
    · intro h
      have hy : y = 0 := h 0 y rfl
      rw [if_pos hy, ih.2 (fun j x hx => h (j + 1) x (by simpa using hx))]
      simp
theorem rl_pos (l : List UInt8) (h : rl l = 0) : ∀ (j : Nat) (x : UInt8), l[j]? = some x → x = 0 := by
  induction l with
  | nil => intro j x hx; simp at hx
  | cons y l ih =>
    unfold rl at h
    split at h
    · rename_i hc
      intro j x hx
      cases j with
      | zero => simp at hx; subst hx; exact hc.2
      | succ j => exact ih hc.1 j x (by simpa using hx)
    · omega
theorem rl_last : ∀ (l : List UInt8) (n : Nat), rl l = n + 1 → ∃ x, l[n]? = some x ∧ x ≠ 0
  | [], n, h => by simp [rl] at h
  | y :: l, n, h => by
    unfold rl at h
    split at h
    · omega
    · rename_i hc
      cases hr : rl l with
      | zero =>
        have : n = 0 := by omega
        subst this
        exact ⟨y, rfl, fun e => hc ⟨hr, e⟩⟩
      | succ k =>
        have : n = k + 1 := by omega
        subst this
        obtain ⟨x, h1, h2⟩ := rl_last l k hr
        exact ⟨x, by simpa using h1, h2⟩
theorem trim_len (ad : Addr) (cap : Nat) (l : List UInt8) : ∃ a n c, trimV ad cap l = .slice a n c ∧ eqI (Int.ofNat n) (Int.ofNat 0) = noughts l := by
  unfold trimV trimLV
  by_cases hn : lead l = l.length
  · have hz := (lead_all l).1 hn
    have h0 : rl l = 0 := rl_zero l hz
    rw [h0, List.take_zero]
    refine ⟨none, 0, 0, rfl, ?_⟩
    unfold noughts
    rw [beq_iff.2 hn]
    rfl
  · have hk : noughts l = false := by
      unfold noughts
      cases hb : Nat.beq (lead l) l.length with
      | false => rfl
      | true => exact absurd (beq_iff.1 hb) hn
    cases hr : rl l with
    | zero => exact absurd ((lead_all l).2 (rl_pos l hr)) hn
    | succ k =>
      obtain ⟨x, hx, hx0⟩ := rl_last l k hr
      have hne : lead (l.take (k + 1)) ≠ (l.take (k + 1)).length := by
        intro e
        refine hx0 ((lead_all _).1 e k x ?_)
        rw [List.getElem?_take, if_pos (by omega)]
        exact hx
      have hle := lead_le (l.take (k + 1))
      rw [if_neg hne]
      exact ⟨_, _, _, rfl, by rw [hk]; exact eqI_f (by omega)⟩

theorem rightL_three {d : LeafD} {j : Nat} {x : Int} (h : (three d)[j]? = some x) (hw : wi x 0 65535 = false) : rightL d = false := by
  have hlt : j < 3 := (List.getElem?_eq_some_iff.1 h).1
  unfold rightL
  match j, hlt with
  | 0, _ => simp [three] at h; subst h; rw [hw]; rfl
  | 1, _ => simp [three] at h; subst h; rw [hw]; simp
  | 2, _ => simp [three] at h; subst h; rw [hw]; simp
end Go.Proofs.YtdkieabjjmhdlaaDoor.lf
end
end

section
/- Leaves: whether a leaf may be: told. -/
noncomputable section
namespace Go.Proofs.YtdkieabjjmhdlaaDoor.lf
open AE
set_option linter.unusedSimpArgs false
set_option linter.unusedVariables false
set_option maxRecDepth 10000

theorem fill3 (x y z : Int) : fillA (placeA 1) [(0, Value.int .i64 x), (1, .int .i64 y), (2, .int .i64 z)] (repeatL [Value.int .i64 (Int.ofNat 0)] 3) = some [.int .i64 x, .int .i64 y, .int .i64 z] := rfl
theorem trim_call {s : S} {n : Nat} {d : LeafD} (h : LfAt s n d) (k : Nat) (hk : k ≤ 116) : ∃ a m c s', (trimA [.slice (some (addIf ⟨n, 5, none⟩ 116 k 1)) (Nat.sub 116 k) (Nat.sub 116 k), .string ⟨#[0]⟩]).run s = some (.slice a m c, s') ∧ Rd s s' ∧ eqI (Int.ofNat m) (Int.ofNat 0) = noughts (d.load.drop k) := by
  by_cases he : k = 116
  · subst he
    refine ⟨none, 0, 0, s, rfl, Rd.refl s, ?_⟩
    rw [List.drop_eq_nil_of_le (by rw [h.len]; omega)]
    rfl
  · obtain ⟨j, hj⟩ : ∃ j, Nat.sub 116 k = j + 1 := ⟨115 - k, by show 116 - k = _; omega⟩
    have hb := h.bs k hk
    have hlen : (d.load.drop k).length = j + 1 := by rw [List.length_drop, h.len]; exact hj
    have ha : addIf ⟨n, 5, none⟩ 116 k 1 = ⟨n, 5 + k, none⟩ := by
      unfold addIf
      have : Nat.beq 116 k = false := by
        cases hh : Nat.beq 116 k with
        | false => rfl
        | true => have := beq_iff.1 hh; omega
      rw [this, mul1]
      exact sum.addA_eq ⟨n, 5, none⟩ k rfl
    obtain ⟨a, m, c, e1, e2⟩ := trim_len ⟨n, 5 + k, none⟩ (j + 1) (d.load.drop k)
    refine ⟨a, m, c, s.seen n, ?_, Rd.seen s n, e2⟩
    rw [ha, hj, ← e1]
    show (when (Nat.beq (UInt8.toNat 0) 0) (when (Nat.ble (j + 1) (j + 1) && Nat.blt (j + 1) OPEN) (loadA ⟨n, 5 + k, none⟩ (j + 1) fun cs => opt (bytesV cs) fun l => .pure (trimV ⟨n, 5 + k, none⟩ (j + 1) l)))).run s = _
    have h116 : j + 1 ≤ 116 := by rw [← hj]; exact Nat.sub_le _ _
    have h2 : Nat.blt (j + 1) OPEN = true := blt_iff.2 (by unfold OPEN; omega)
    rw [← hlen]
    rw [← hlen] at h2
    simp only [when, show Nat.beq (UInt8.toNat 0) 0 = true from rfl, ble_iff.2 (Nat.le_refl _), h2, Bool.and_self, Bs.load hb, AM.run]

theorem less_new {s s1 s2 : S} {n : Nat} (h1 : s1.next ≤ s2.next) (h2 : s2.next = s.next + n) (hh : ∀ m, s2.heap.get m = if s.next ≤ m ∧ m < s.next + n then none else s.heap.get m) (hf : ∀ m, ¬ (s.next ≤ m ∧ m < s.next + n) → s1.heap.get m = s.heap.get m) : Less' s1 s2 := by
  refine ⟨h1, fun m o e => ?_⟩
  rw [hh] at e
  split at e
  · cases e
  · rename_i hm
    exact ⟨o, (hf m hm).trans e, .refl o⟩

set_option maxHeartbeats 400000 in
theorem told_right : AE.Told Tryd.prog 9 rightA := by
  refine told_go hE hmix tolds_R ?_
  intro args s v s' h hm
  unfold rightA at h
  split at h
  · rename_i cs
    obtain ⟨d, hd, h2⟩ := run_opt h
    obtain ⟨rfl, hlen⟩ := leafOf_inv hd
    obtain ⟨s9, h3, hn9, hm9, hh9, hbl⟩ := bump_run 2 _ _ _ h2
    cases h3
    clear h h2 hd
    have hN0 : Nat.ble s.next lastName = true := hbl 0 (by omega)
    have hN1 : Nat.ble (s.next + 1) lastName = true := hbl 1 (by omega)
    refine go_enter (fi := fiR) (c := cdR) (by kernel_rfl) (by kernel_rfl) 38 rfl rfl ?_
    have h0 : (Tr.ofList [Value.agg ⟨d.cells⟩]).get 0 = some (.agg ⟨d.cells⟩) := rfl
    generalize Tr.ofList [Value.agg ⟨d.cells⟩] = t at *
    have hcode : cdR = .seq (sub [0] cdR) (.seq (.seq (sub [1,0,0] cdR) (.block 0 (.loop cdRl))) (sub [1,1] cdR)) := rfl
    rw [hcode]
    have hcl : d.cells.length = 121 := d.len hlen
    have hcb : Nat.ble d.cells.length lastName = true := by rw [hcl]; rfl
    apply go_seq
    simp only [cdR, Tryd.f9, bodyOf, sub]
    repeat apply go_seq
    apply go_region
    case h => intro m; simp (maxSteps := 2000000) (disch := decide) only [opsLoop, evOper, wantedA, nth, aop, aPick, aBin, aIndexAddr, aFieldAddr, aLoad, aStore, aExtract, aConvert, aAlloc, aBox, aIndex, callA, builtinA, Fr.evs, opt, val, when, AM.run, outV, newA, ptr, force_eq, seen_heap, seen_next, seen_mark, seen_seen, agg_cells, int_cells, Fr.ev, Fr.put, onFr, gps, gpn, bltT, still, flat, List.append_nil, List.nil_append, List.cons_append, Nat.reduceEqDiff, ne_eq, not_false_eq_true, reduceCtorEq, Bool.and_true, Bool.true_and, Bool.and_false, Bool.false_and, Bool.not_true, Bool.not_false, Bool.and_self, h0, hcb, hN0]; rfl
    generalize hs1 : (S.mk (s.heap.put s.next (some (.cells (Tr.ofList d.cells) d.cells.length 24 .whole))) (Nat.succ s.next) s.mark s.rd s.wr) = s1
    have e1 : s1.next = s.next + 1 := by rw [← hs1]
    have e1h : s1.heap = s.heap.put s.next (some (.cells (Tr.ofList d.cells) d.cells.length 24 .whole)) := by rw [← hs1]
    have L1 : LfAt s1 s.next d := by
      refine ⟨by omega, ⟨_, _, _, by rw [e1h, hg_same hN0, hcl], row_ofList _ (by rw [hcl]; unfold Tr.wide; omega)⟩, hlen⟩
    clear hs1
    have l1 := L1.get 1 (.int .i64 d.file) rfl
    have l2 := (L1.rd (Rd.seen s1 s.next)).get 2 (.int .i64 d.place) rfl
    have l3 := (L1.rd (Rd.seen s1 s.next)).get 3 (.int .i64 d.next) rfl
    rw [seen_seen] at l2 l3
    have hN1' : Nat.ble s1.next lastName = true := by rw [e1]; exact hN1
    apply go_seq
    apply go_seq
    repeat apply go_seq
    apply go_region
    case h => intro m; simp (maxSteps := 2000000) (disch := decide) only [opsLoop, evOper, wantedA, nth, aop, aPick, aBin, aIndexAddr, aFieldAddr, aLoad, aStore, aExtract, aConvert, aAlloc, aBox, aIndex, callA, builtinA, Fr.evs, opt, val, when, AM.run, outV, newA, ptr, force_eq, seen_heap, seen_next, seen_mark, seen_seen, agg_cells, int_cells, Fr.ev, Fr.put, onFr, gps, gpn, bltT, still, flat, List.append_nil, List.nil_append, List.cons_append, Nat.reduceEqDiff, ne_eq, not_false_eq_true, reduceCtorEq, Bool.and_true, Bool.true_and, Bool.and_false, Bool.false_and, Bool.not_true, Bool.not_false, Bool.and_self, tyLf, dsLf, fl1, fl2, fl3, ft1, ft2, ft3, fo1, fo2, fo3, tyI, szI, zeI, dsL, tyL, ble11, ad1, ad2, ad3', l1, l2, l3, aBuildSlice, evParts, int0, fill3, hN1', show Nat.ble (Nat.mul 3 1) 1048576 = true from rfl, show Nat.beq ([Value.int .i64 (Int.ofNat 0)] : List Value).length 1 = true from rfl, show Nat.ble ([Value.int .i64 d.file, .int .i64 d.place, .int .i64 d.next] : List Value).length lastName = true from rfl]; rfl
    generalize hs2 : S.mk _ _ _ _ _ = s2
    have e2 : s2.next = s.next + 2 := by rw [← hs2]; show s1.next + 1 = _; omega
    have e2h : s2.heap = s1.heap.put s1.next (some (.cells (Tr.ofList [Value.int .i64 d.file, .int .i64 d.place, .int .i64 d.next]) (List.length [Value.int .i64 d.file, .int .i64 d.place, .int .i64 d.next]) 3 .whole)) := by rw [← hs2]
    have hl3 : List.length [Value.int .i64 d.file, .int .i64 d.place, .int .i64 d.next] = 3 := rfl
    rw [hl3] at e2h
    have h3w : ([Value.int .i64 d.file, .int .i64 d.place, .int .i64 d.next] : List Value).length ≤ Tr.wide := by show 3 ≤ Tr.wide; unfold Tr.wide; omega
    have c2 : s2.heap.get (s.next + 1) = some (.cells (Tr.ofList [.int .i64 d.file, .int .i64 d.place, .int .i64 d.next]) 3 3 .whole) := by rw [e2h, e1]; exact hg_same hN1 _ _
    have hlt2 : s.next < s2.next := by omega
    have hlt3 : s.next + 1 < s2.next := by omega
    have hrow := row_ofList [Value.int .i64 d.file, .int .i64 d.place, .int .i64 d.next] h3w
    have hc0 : ∃ c e rm, s2.heap.get s.next = some (.cells c 121 e rm) ∧ Row c 0 d.cells := by
      obtain ⟨c, e, rm, g1, g2⟩ := L1.cell
      exact ⟨c, e, rm, by rw [e2h, e1, hg_far hN1 (by omega)]; exact g1, g2⟩
    have R2 : R3 s2 s.next d := ⟨⟨hlt2, hc0, hlen⟩, hlt3, ⟨_, _, _, c2, hrow⟩⟩
    have hless : ∀ s5, Rd s2 s5 → Less' s5 s' := by
      intro s5 hr
      refine less_new (s := s) (n := 2) (by rw [hr.next, e2, hn9]; exact Nat.le_refl _) hn9 hh9 ?_
      intro m hmm
      rw [hr.heap, e2h, e1, hg_far hN1 (by omega), e1h, hg_far hN0 (by omega)]
    clear hs2
    apply go_block
    refine (go_loop_inv (InvR d s.next s2) (fun k fr s1 hI => right_round d s.next s2 R2 k fr s1 hI) (3 - 0) _ _ ⟨0, _, rfl, by omega, rfl, Rd.refl s2, ?_, ?_, ?_, ?_, fun j x hj => by omega⟩).mono ?_
    · simp (disch := decide) only [gps, gpn, h0]
    · rw [← e1]; simp (disch := decide) only [gps, gpn]
    · simp (disch := decide) only [gps, gpn]
    · simp (disch := decide) only [gps, gpn, int0]
    rintro x fr s3 ⟨t3, rfl, hr, ⟨rfl, g1, hall⟩ | ⟨rfl, g2, j, y, hy, hw⟩⟩
    · simp only [Out_, if_true]
      show GoC E _ _ _ _ _
      have w0 := hall 0 d.file rfl
      have w1 := hall 1 d.place rfl
      have w2 := hall 2 d.next rfl
      have L3 := R2.lf.rd hr
      have l0 := L3.get 0 (.int .i64 d.kind) rfl
      have l4 := (L3.rd (Rd.seen s3 s.next)).get 4 (.int .i64 d.size) rfl
      rw [seen_seen] at l4
      have hrs := hr.trans (Rd.seen s3 s.next)
      cases hk : wi d.kind 1 2
      · repeat apply go_seq
        apply go_region
        case h => intro m; simp (maxSteps := 2000000) (disch := decide) only [opsLoop, evOper, wantedA, nth, aop, aPick, aBin, aIndexAddr, aFieldAddr, aLoad, aStore, aExtract, aConvert, aAlloc, aBox, aIndex, callA, builtinA, Fr.evs, opt, val, when, AM.run, outV, newA, ptr, force_eq, seen_heap, seen_next, seen_mark, seen_seen, agg_cells, int_cells, Fr.ev, Fr.put, onFr, gps, gpn, bltT, still, flat, List.append_nil, List.nil_append, List.cons_append, Nat.reduceEqDiff, ne_eq, not_false_eq_true, reduceCtorEq, Bool.and_true, Bool.true_and, Bool.and_false, Bool.false_and, Bool.not_true, Bool.not_false, Bool.and_self, g1, tyLf, dsLf, fl0, fl4, ft0, ft4, fo0, fo4, tyI, szI, ble11, ad0, ad4, l0, l4, tgW, evT_told sgW, withinA_run, hk, u_not]; rfl
        repeat apply go_seq
        apply go_cond
        case hc => simp (disch := decide) only [opsLoop, evOper, wantedA, nth, aop, aPick, aBin, aIndexAddr, aFieldAddr, aLoad, aStore, aExtract, aConvert, aAlloc, aBox, aIndex, callA, builtinA, Fr.evs, opt, val, when, AM.run, outV, newA, ptr, force_eq, seen_heap, seen_next, seen_mark, seen_seen, agg_cells, int_cells, Fr.ev, Fr.put, onFr, gps, gpn, bltT, still, flat, List.append_nil, List.nil_append, List.cons_append, Nat.reduceEqDiff, ne_eq, not_false_eq_true, reduceCtorEq, Bool.and_true, Bool.true_and, Bool.and_false, Bool.false_and, Bool.not_true, Bool.not_false, Bool.and_self]; rfl
        case h2 => intro h; cases h
        intro _
        repeat apply go_seq
        apply go_region
        case h => intro m; simp (maxSteps := 2000000) (disch := decide) only [opsLoop, evOper, wantedA, nth, aop, aPick, aBin, aIndexAddr, aFieldAddr, aLoad, aStore, aExtract, aConvert, aAlloc, aBox, aIndex, callA, builtinA, Fr.evs, opt, val, when, AM.run, outV, newA, ptr, force_eq, seen_heap, seen_next, seen_mark, seen_seen, agg_cells, int_cells, Fr.ev, Fr.put, onFr, gps, gpn, bltT, still, flat, List.append_nil, List.nil_append, List.cons_append, Nat.reduceEqDiff, ne_eq, not_false_eq_true, reduceCtorEq, Bool.and_true, Bool.true_and, Bool.and_false, Bool.false_and, Bool.not_true, Bool.not_false, Bool.and_self]; rfl
        repeat apply go_seq
        apply go_ret
        apply ret_intro rfl rfl
        case run => simp (disch := decide) only [resultsM, resultsA, resR, opsLoop, evOper, wantedA, nth, aop, aPick, aBin, aIndexAddr, aFieldAddr, aLoad, aStore, aExtract, aConvert, aAlloc, aBox, aIndex, callA, builtinA, Fr.evs, opt, val, when, AM.run, outV, newA, ptr, force_eq, seen_heap, seen_next, seen_mark, seen_seen, agg_cells, int_cells, Fr.ev, Fr.put, onFr, gps, gpn, bltT, still, flat, List.append_nil, List.nil_append, List.cons_append, Nat.reduceEqDiff, ne_eq, not_false_eq_true, reduceCtorEq, Bool.and_true, Bool.true_and, Bool.and_false, Bool.false_and, Bool.not_true, Bool.not_false, Bool.and_self]; rfl
        exact ⟨by unfold rightL; rw [hk]; simp, hless _ hrs⟩
      · cases hz : wi d.size 0 116
        · repeat apply go_seq
          apply go_region
          case h => intro m; simp (maxSteps := 2000000) (disch := decide) only [opsLoop, evOper, wantedA, nth, aop, aPick, aBin, aIndexAddr, aFieldAddr, aLoad, aStore, aExtract, aConvert, aAlloc, aBox, aIndex, callA, builtinA, Fr.evs, opt, val, when, AM.run, outV, newA, ptr, force_eq, seen_heap, seen_next, seen_mark, seen_seen, agg_cells, int_cells, Fr.ev, Fr.put, onFr, gps, gpn, bltT, still, flat, List.append_nil, List.nil_append, List.cons_append, Nat.reduceEqDiff, ne_eq, not_false_eq_true, reduceCtorEq, Bool.and_true, Bool.true_and, Bool.and_false, Bool.false_and, Bool.not_true, Bool.not_false, Bool.and_self, g1, tyLf, dsLf, fl0, fl4, ft0, ft4, fo0, fo4, tyI, szI, ble11, ad0, ad4, l0, l4, tgW, evT_told sgW, withinA_run, hk, hz, u_not]; rfl
          repeat apply go_seq
          apply go_cond
          case hc => simp (disch := decide) only [opsLoop, evOper, wantedA, nth, aop, aPick, aBin, aIndexAddr, aFieldAddr, aLoad, aStore, aExtract, aConvert, aAlloc, aBox, aIndex, callA, builtinA, Fr.evs, opt, val, when, AM.run, outV, newA, ptr, force_eq, seen_heap, seen_next, seen_mark, seen_seen, agg_cells, int_cells, Fr.ev, Fr.put, onFr, gps, gpn, bltT, still, flat, List.append_nil, List.nil_append, List.cons_append, Nat.reduceEqDiff, ne_eq, not_false_eq_true, reduceCtorEq, Bool.and_true, Bool.true_and, Bool.and_false, Bool.false_and, Bool.not_true, Bool.not_false, Bool.and_self]; rfl
          case h2 => intro h; cases h
          intro _
          repeat apply go_seq
          apply go_region
          case h => intro m; simp (maxSteps := 2000000) (disch := decide) only [opsLoop, evOper, wantedA, nth, aop, aPick, aBin, aIndexAddr, aFieldAddr, aLoad, aStore, aExtract, aConvert, aAlloc, aBox, aIndex, callA, builtinA, Fr.evs, opt, val, when, AM.run, outV, newA, ptr, force_eq, seen_heap, seen_next, seen_mark, seen_seen, agg_cells, int_cells, Fr.ev, Fr.put, onFr, gps, gpn, bltT, still, flat, List.append_nil, List.nil_append, List.cons_append, Nat.reduceEqDiff, ne_eq, not_false_eq_true, reduceCtorEq, Bool.and_true, Bool.true_and, Bool.and_false, Bool.false_and, Bool.not_true, Bool.not_false, Bool.and_self]; rfl
          repeat apply go_seq
          apply go_ret
          apply ret_intro rfl rfl
          case run => simp (disch := decide) only [resultsM, resultsA, resR, opsLoop, evOper, wantedA, nth, aop, aPick, aBin, aIndexAddr, aFieldAddr, aLoad, aStore, aExtract, aConvert, aAlloc, aBox, aIndex, callA, builtinA, Fr.evs, opt, val, when, AM.run, outV, newA, ptr, force_eq, seen_heap, seen_next, seen_mark, seen_seen, agg_cells, int_cells, Fr.ev, Fr.put, onFr, gps, gpn, bltT, still, flat, List.append_nil, List.nil_append, List.cons_append, Nat.reduceEqDiff, ne_eq, not_false_eq_true, reduceCtorEq, Bool.and_true, Bool.true_and, Bool.and_false, Bool.false_and, Bool.not_true, Bool.not_false, Bool.and_self]; rfl
          exact ⟨by unfold rightL; rw [hz]; simp, hless _ hrs⟩
        · obtain ⟨z, hz2⟩ := Int.eq_ofNat_of_zero_le (wi_iff.1 hz).1
          have hz3 : z ≤ 116 := by have := (wi_iff.1 hz).2; omega
          have hz4 : d.size = Int.ofNat z := hz2
          obtain ⟨a, m, c, s4, q1, q2, q3⟩ := trim_call (L3.rd (Rd.seen s3 s.next)) z hz3
          rw [hz4] at l4
          have hsz : Nat.ble z 116 = true := ble_iff.2 hz3
          repeat apply go_seq
          apply go_region
          case h => intro m; simp (maxSteps := 2000000) (disch := decide) only [opsLoop, evOper, wantedA, nth, aop, aPick, aBin, aIndexAddr, aFieldAddr, aLoad, aStore, aExtract, aConvert, aAlloc, aBox, aIndex, callA, builtinA, Fr.evs, opt, val, when, AM.run, outV, newA, ptr, force_eq, seen_heap, seen_next, seen_mark, seen_seen, agg_cells, int_cells, Fr.ev, Fr.put, onFr, gps, gpn, bltT, still, flat, List.append_nil, List.nil_append, List.cons_append, Nat.reduceEqDiff, ne_eq, not_false_eq_true, reduceCtorEq, Bool.and_true, Bool.true_and, Bool.and_false, Bool.false_and, Bool.not_true, Bool.not_false, Bool.and_self, g1, tyLf, dsLf, fl0, fl4, ft0, ft4, fo0, fo4, tyI, szI, ble11, ad0, ad4, l0, l4, tgW, evT_told sgW, withinA_run, hk, hz4 ▸ hz, u_not]; rfl
          repeat apply go_seq
          apply go_cond
          case hc => simp (disch := decide) only [opsLoop, evOper, wantedA, nth, aop, aPick, aBin, aIndexAddr, aFieldAddr, aLoad, aStore, aExtract, aConvert, aAlloc, aBox, aIndex, callA, builtinA, Fr.evs, opt, val, when, AM.run, outV, newA, ptr, force_eq, seen_heap, seen_next, seen_mark, seen_seen, agg_cells, int_cells, Fr.ev, Fr.put, onFr, gps, gpn, bltT, still, flat, List.append_nil, List.nil_append, List.cons_append, Nat.reduceEqDiff, ne_eq, not_false_eq_true, reduceCtorEq, Bool.and_true, Bool.true_and, Bool.and_false, Bool.false_and, Bool.not_true, Bool.not_false, Bool.and_self]; rfl
          case h1 => intro h; cases h
          intro _
          apply go_skip
          have f5 : Nat.ble z 116 = true := ble_iff.2 hz3
          have f6 : Nat.ble 116 116 = true := rfl
          have f7 : Nat.blt 116 OPEN = true := rfl
          have hv : rightL d = noughts (d.load.drop z) := by
            unfold rightL
            rw [w0, w1, w2, hk, hz, hz4]
            simp
          repeat apply go_seq
          apply go_region
          case h => intro m; simp (maxSteps := 2000000) (disch := decide) only [opsLoop, evOper, wantedA, nth, aop, aPick, aBin, aIndexAddr, aFieldAddr, aLoad, aStore, aExtract, aConvert, aAlloc, aBox, aIndex, callA, builtinA, Fr.evs, opt, val, when, AM.run, outV, newA, ptr, force_eq, seen_heap, seen_next, seen_mark, seen_seen, agg_cells, int_cells, Fr.ev, Fr.put, onFr, gps, gpn, bltT, still, flat, List.append_nil, List.nil_append, List.cons_append, Nat.reduceEqDiff, ne_eq, not_false_eq_true, reduceCtorEq, Bool.and_true, Bool.true_and, Bool.and_false, Bool.false_and, Bool.not_true, Bool.not_false, Bool.and_self, g1, tyLf, dsLf, fl4, fl5, ft4, ft5, fo4, fo5, tyI, szI, tyA, dsA, szA, tyU8, szU8, tyB, dsB, ble11, ble1A, ad4, ad5, l4, aSlice, lowHigh, intOf?, sliceP, f5, f6, f7, tgT, evT_told sgT, q1, b_eql, int0, q3]; rfl
          repeat apply go_seq
          apply go_ret
          apply ret_intro rfl rfl
          case run => simp (disch := decide) only [resultsM, resultsA, resR, opsLoop, evOper, wantedA, nth, aop, aPick, aBin, aIndexAddr, aFieldAddr, aLoad, aStore, aExtract, aConvert, aAlloc, aBox, aIndex, callA, builtinA, Fr.evs, opt, val, when, AM.run, outV, newA, ptr, force_eq, seen_heap, seen_next, seen_mark, seen_seen, agg_cells, int_cells, Fr.ev, Fr.put, onFr, gps, gpn, bltT, still, flat, List.append_nil, List.nil_append, List.cons_append, Nat.reduceEqDiff, ne_eq, not_false_eq_true, reduceCtorEq, Bool.and_true, Bool.true_and, Bool.and_false, Bool.false_and, Bool.not_true, Bool.not_false, Bool.and_self]; rfl
          exact ⟨by rw [hv], hless _ (hrs.trans q2)⟩
    · simp only [Out_, Then]
      apply ret_intro rfl rfl
      case run => simp (disch := decide) only [resultsM, resultsA, resR, opsLoop, evOper, wantedA, nth, aop, aPick, aBin, aIndexAddr, aFieldAddr, aLoad, aStore, aExtract, aConvert, aAlloc, aBox, aIndex, callA, builtinA, Fr.evs, opt, val, when, AM.run, outV, newA, ptr, force_eq, seen_heap, seen_next, seen_mark, seen_seen, agg_cells, int_cells, Fr.ev, Fr.put, onFr, gps, gpn, bltT, still, flat, List.append_nil, List.nil_append, List.cons_append, Nat.reduceEqDiff, ne_eq, not_false_eq_true, reduceCtorEq, Bool.and_true, Bool.true_and, Bool.and_false, Bool.false_and, Bool.not_true, Bool.not_false, Bool.and_self, g2]; rfl
      exact ⟨by rw [rightL_three hy hw], hless _ hr⟩
  · cases h
end Go.Proofs.YtdkieabjjmhdlaaDoor.lf
end
end

section
/- Leaves: rules for parts of a region; bytes that are put behind others; the sum of bytes as a list has it; bytes closed with their sum. -/
noncomputable section
namespace Go.Proofs.YtdkieabjjmhdlaaDoor.lf
open AE
set_option linter.unusedSimpArgs false
set_option linter.unusedVariables false
set_option maxRecDepth 10000

/-! a region in parts -/
def GoO (σ : Sums) (all l : List Oper) (fr : Fr) (s : S) (Q : Fr → S → Prop) : Prop := ∃ fr' s', Q fr' s' ∧ ∀ m, opsLoop (evT E σ (m + 1)) E all l fr s = some (fr', s')
theorem go_ops {σ : Sums} {id : Nat} {ops : Array Oper} {fr : Fr} {s : S} {Q : Ex → Fr → S → Prop} (h : GoO σ ops.toList ops.toList fr s (fun fr s => Q .normal fr s)) : GoC E σ (.region id ops false) fr s Q := by
  obtain ⟨fr', s', hq, h⟩ := h
  exact go_region h hq
theorem opsLoop_app {rc : Rec} {all : List Oper} : ∀ (a b : List Oper) (fr : Fr) (s : S), opsLoop rc E all (a ++ b) fr s = match opsLoop rc E all a fr s with | some (fr, s) => opsLoop rc E all b fr s | none => none
  | [], b, fr, s => rfl
  | o :: a, b, fr, s => by
    simp only [List.cons_append, opsLoop]
    cases evOper rc E false all o fr s with
    | none => rfl
    | some p => exact opsLoop_app a b p.1 p.2
theorem go_take {σ : Sums} {all l : List Oper} {fr fr1 : Fr} {s s1 : S} {Q : Fr → S → Prop} (n : Nat) (h : ∀ m, opsLoop (evT E σ (m + 1)) E all (l.take n) fr s = some (fr1, s1)) (hq : GoO σ all (l.drop n) fr1 s1 Q) : GoO σ all l fr s Q := by
  obtain ⟨fr', s', hq, h2⟩ := hq
  refine ⟨fr', s', hq, fun m => ?_⟩
  have e : l = l.take n ++ l.drop n := (List.take_append_drop n l).symm
  rw [e, opsLoop_app, h m]
  exact h2 m
theorem go_done {σ : Sums} {all : List Oper} {fr : Fr} {s : S} {Q : Fr → S → Prop} (h : Q fr s) : GoO σ all [] fr s Q := ⟨fr, s, h, fun _ => rfl⟩

/-! bytes behind others -/
theorem len_b (a : Option Addr) (n c : Nat) : builtinA E .len #[25] [.slice a n c] = AE.val (.int .i64 (.ofNat n)) := by
  simp only [builtinA, tyB, opt, dsB]
theorem len_i (a : Option Addr) (n c : Nat) : builtinA E .len #[36] [.slice a n c] = AE.val (.int .i64 (.ofNat n)) := by
  simp only [builtinA, tyL, opt, dsL]
theorem bv_one (x : UInt8) : oneB (bv x) = true := rfl
theorem bvs_one : ∀ l : List UInt8, allOne (l.map bv) = true
  | [] => rfl
  | x :: l => by simp only [List.map_cons, allOne, bv_one, bvs_one l]
theorem loadA_run {β : Type} {s : S} {ad : Addr} {l : List UInt8} (h : Bs s ad l) (k : List Value → AM β) : (loadA ad l.length k).run s = (k (l.map bv)).run (s.seen ad.block) := by
  obtain ⟨c, m, h1, h2, h3⟩ := h.cell
  have h4 := rd_row h3
  rw [List.length_map] at h4
  unfold loadA
  rw [h.spot]
  rcases h1 with ⟨e, rm, h1⟩ | ⟨e, h1⟩
  all_goals
    simp only [AM.run, blt_iff.2 h.lt, h1, when, show Nat.ble (Nat.add ad.off l.length) m = true from ble_iff.2 h2, opt, h4]
    rfl
theorem storeA_run {β : Type} {s : S} {N o m : Nat} {vs : List Value} {c : Tr Value} {e : TypeId} {rm : Room} (k : AM β) (h1 : allOne vs = true) (hlt : N < s.next) (hN : Nat.ble N lastName = true) (hg : s.heap.get N = some (.cells c m e rm)) (ho : o + vs.length ≤ m) (hm : m ≤ 1000000000) :
    (storeA ⟨N, o, none⟩ vs k).run s = k.run ((s.seen N).turn N (some (.cells (wrCells c o vs) m e rm))) := by
  have h6 : Nat.ble m lastName = true := ble_iff.2 (by unfold lastName; omega)
  unfold storeA
  simp only [h1, when, AM.run, blt_iff.2 hlt, hg, show Nat.ble (Nat.add o vs.length) m = true from ble_iff.2 ho, h6, hN, Bool.and_self]
  rfl
theorem append_b {s : S} {N len cap n c2 m : Nat} {ad : Addr} {l : List UInt8} {c : Tr Value} {e : TypeId} {rm : Room} (hb : Bs s ad l) (hn : l.length = n) (hn0 : 0 < n) (hlt : N < s.next) (hg : s.heap.get N = some (.cells c m e rm)) (hN : Nat.ble N lastName = true)
    (hc1 : len + n ≤ cap) (hc2 : cap ≤ m) (hm : m ≤ 1000000000) (hmax : len + n ≤ 1000000) :
    ∃ s1, (builtinA E .append #[25, 25] [.slice (some ⟨N, 0, none⟩) len cap, .slice (some ad) n c2]).run s = some (.value (.slice (some ⟨N, 0, none⟩) (len + n) cap), s1) ∧
      s1.heap = s.heap.put N (some (.cells (wrCells c len (l.map bv)) m e rm)) ∧ s1.next = s.next ∧ s1.mark = s.mark := by
  subst hn
  obtain ⟨x, l', rfl⟩ : ∃ x l', l = x :: l' := by
    cases l with
    | nil => simp at hn0
    | cons x l' => exact ⟨x, l', rfl⟩
  have h1 : Nat.ble OPEN cap = false := ble_f (by unfold OPEN; omega)
  have h2 : Nat.ble (Nat.add len (x :: l').length) cap = true := ble_iff.2 hc1
  have h3 : Nat.ble (Nat.add len (x :: l').length) maxNeed = true := ble_iff.2 (by show len + _ ≤ maxNeed; unfold maxNeed; omega)
  have h8 : addA ⟨N, 0, none⟩ (Nat.mul len 1) = ⟨N, len, none⟩ := by rw [mul1, add0]
  refine ⟨((s.seen ad.block).seen N).turn N (some (.cells (wrCells c len ((x :: l').map bv)) m e rm)), ?_, rfl, rfl, rfl⟩
  have e1 : builtinA E .append #[25, 25] [.slice (some ⟨N, 0, none⟩) len cap, .slice (some ad) (x :: l').length c2] = appendA 1 1 1 5 (some ⟨N, 0, none⟩) len cap (x :: l').length (.slice (some ad) (x :: l').length c2) := by
    simp only [builtinA, tyB, dsB, opt, tyU8, zeU8, szU8, byU8, lenA, int_cells]
    rfl
  rw [e1]
  unfold appendA
  simp only [h3, when, show Nat.ble 1 1 = true from rfl, show Nat.ble 1 1024 = true from rfl, Bool.and_self]
  have e2 : ∀ k : List Value → AM ANext, firstA 1 (x :: l').length (.slice (some ad) (x :: l').length c2) k = loadA ad (x :: l').length k := fun k => by
    show loadA ad (Nat.mul (x :: l').length 1) k = _
    rw [mul1]
  rw [e2, loadA_run hb]
  simp only [h1, h2]
  show (storeA (addA ⟨N, 0, none⟩ (Nat.mul len 1)) ((x :: l').map bv) (AE.val (.slice (some ⟨N, 0, none⟩) (Nat.add len (x :: l').length) cap))).run (s.seen ad.block) = _
  rw [h8, storeA_run (s := s.seen ad.block) _ (bvs_one _) hlt hN hg (by rw [List.length_map]; omega) hm]
  rfl

/-! the sum, over lists -/
def crcR : List UInt8 → Nat → Nat
  | [], r => r
  | x :: l, r => crcR l (crcByte r x.toNat)
theorem crcVals_map : ∀ (l : List UInt8) (r : Nat), crcVals (l.map bv) r = some (crcR l r)
  | [], r => rfl
  | x :: l, r => by
    have h : Nat.blt x.toNat 256 = true := blt_iff.2 x.toNat_lt
    simp only [List.map_cons, bv, crcVals, h, force_eq, crcR]
    exact crcVals_map l _
def crc32 (l : List UInt8) : Nat := Nat.xor 4294967295 (crcR l 4294967295)
theorem crcA_run {s : S} {ad : Addr} {l : List UInt8} (h : Bs s ad l) (h0 : 0 < l.length) (hl : l.length ≤ 1000000) (cap : Nat) : (crcA [.slice (some ad) l.length cap]).run s = some (.int .u32 (.ofNat (crc32 l)), s.seen ad.block) := by
  obtain ⟨x, l', rfl⟩ : ∃ x l', l = x :: l' := by
    cases l with
    | nil => simp at h0
    | cons x l' => exact ⟨x, l', rfl⟩
  have h1 : Nat.blt l'.length 1099511627776 = true := blt_iff.2 (by simp at hl; omega)
  show (when (Nat.blt l'.length 1099511627776) <| loadA ad (x :: l').length fun cs => opt (crcVals cs 4294967295) fun r => .pure (Value.int .u32 (.ofNat (Nat.xor 4294967295 r)))).run s = _
  simp only [h1, when]
  rw [loadA_run h, crcVals_map]
  rfl
theorem told_sum : AE.Told Tryd.prog 23 crcA :=
  told_of_sum hE hmix fun args s v s' h => sum.sum_ev ⟨⟨tiB, tyB, dsB⟩, ⟨tiU8, tyU8, dsU8, szU8⟩, ⟨tiU32, tyU32, dsU32⟩⟩ (by kernel_rfl) h
end Go.Proofs.YtdkieabjjmhdlaaDoor.lf
end
end

section
/- Leaves: bytes closed with their sum: told. -/
noncomputable section
namespace Go.Proofs.YtdkieabjjmhdlaaDoor.lf
open AE
set_option linter.unusedSimpArgs false
set_option linter.unusedVariables false
set_option maxRecDepth 10000

theorem b_shrN (c k : Nat) (hk : k ≤ 32) : ∀ E t, binA E .shr t (.int .u32 (.ofNat c)) (.int .u64 (.ofNat k)) = some (.int .u32 (.ofNat (c >>> k))) := by
  intro E t
  show some (Value.int .u32 (Int.fdiv (.ofNat c) (pow2 (minN k 32)))) = _
  have h : minN k 32 = k := by rw [minN_eq]; omega
  rw [h]
  have h2 : Int.fdiv (.ofNat c) (pow2 k) = Int.ofNat (c >>> k) := by
    rw [Nat.shiftRight_eq_div_pow]
    unfold pow2
    show Int.fdiv ((c : Nat) : Int) ((2 ^ k : Nat) : Int) = ((c / 2 ^ k : Nat) : Int)
    rw [Int.fdiv_eq_ediv_of_nonneg _ (Int.natCast_nonneg _)]
    rfl
  rw [h2]
theorem cv8 (c : Nat) : Value.int .u8 (wrapA .u8 (.ofNat c)) = bv (UInt8.ofNat c) := by
  unfold bv
  rw [UInt8.toNat_ofNat']
  rfl
theorem bv_cells (x : UInt8) : (bv x).cells.toList = [bv x] := rfl
theorem fill4 (a b c d : UInt8) : fillA (placeA 1) [(0, bv a), (1, bv b), (2, bv c), (3, bv d)] (repeatL [Value.int .u8 (Int.ofNat 0)] 4) = some [bv a, bv b, bv c, bv d] := rfl
theorem fill2 (a b : UInt8) : fillA (placeA 1) [(0, bv a), (1, bv b)] (repeatL [Value.int .u8 (Int.ofNat 0)] 2) = some [bv a, bv b] := rfl
theorem repeat_len (v : Value) : ∀ n, (repeatL [v] n).length = n
  | 0 => rfl
  | n + 1 => by simp only [repeatL, List.cons_append, List.nil_append, List.length_cons, repeat_len v n]

def sum4 (c : Nat) : List UInt8 := [UInt8.ofNat c, UInt8.ofNat (c >>> 8), UInt8.ofNat (c >>> 16), UInt8.ofNat (c >>> 24)]
def closeL (l : List UInt8) : List UInt8 := l ++ sum4 (crc32 l)
theorem closeL_len (l : List UInt8) : (closeL l).length = l.length + 4 := by simp [closeL, sum4]
/-- bytes, new in memory -/
def newB (l : List UInt8) (k : Nat → AM Value) : AM Value := .new (.cells (Tr.ofList (l.map bv)) l.length 5 .whole) k
def closeA : List Value → AM Value
  | [.slice (some ad) n cap] => when (Nat.ble 1 n && Nat.ble n 1000) (loadA ad n fun cs => opt (bytesV cs) fun l => newB (closeL l) fun r => bump 1 (.pure (.slice (some ⟨r, 0, none⟩) (n + 4) (n + 4))))
  | _ => .fail
abbrev sigC : List (Nat × (List Value → AM Value)) := [(23, crcA)]
theorem tolds_C : Tolds Tryd.prog (sumsOf sigC) := tolds_cons told_sum tolds_nil
theorem sgS : sumsOf sigC 23 = some crcA := rfl
noncomputable def fiS : FI := FI.of Tryd.f23
noncomputable def cdS : Code := bodyOf Tryd.f23
theorem tgS : ∀ a b, targetA E (.func 23) a b = .pure (.enter 23 (b ++ a)) := tgt (fi := fiS) (c := cdS) (by kernel_rfl) (by kernel_rfl)
noncomputable def fiC : FI := FI.of Tryd.f15
noncomputable def cdC : Code := bodyOf Tryd.f15
theorem resC : fiC.results = [.tmp 2] := rfl

/-- what a new object leaves -/
theorem new_run {β : Type} {o : AObj} {k : Nat → AM β} {s : S} {r : β × S} (h : (AM.new o k).run s = some r) : Nat.ble s.next lastName = true ∧ (k s.next).run (s.grow o) = some r := by
  refine ⟨?_, (run_new h).2⟩
  simp only [AM.run, force_eq] at h
  cases hh : Nat.ble s.next lastName with
  | true => rfl
  | false => rw [hh] at h; cases h

theorem Bs.keep {s s1 : S} {ad : Addr} {l : List UInt8} (h : Bs s ad l) (hn : s.next ≤ s1.next) (hg : s1.heap.get ad.block = s.heap.get ad.block) : Bs s1 ad l :=
  ⟨h.spot, by have := h.lt; omega, by obtain ⟨c, m, h1, h2⟩ := h.cell; exact ⟨c, m, h1.of hg, h2⟩⟩
theorem sub_row {c : Tr Value} {L : List Value} (h : Row c 0 L) (hl : L.length ≤ Tr.wide) : ∀ i v, (Tr.ofList L).get i = some v → c.get i = some v := by
  intro i v hi
  rw [get_ofList L i hl] at hi
  have := h i v hi
  rwa [Nat.zero_add] at this
theorem bs_new {s : S} {n : Nat} {l : List UInt8} {e : TypeId} {rm : Room} (hlt : n < s.next) (hg : s.heap.get n = some (.cells (Tr.ofList (l.map bv)) l.length e rm)) (hl : l.length ≤ 1000000) : Bs s ⟨n, 0, none⟩ l :=
  ⟨rfl, hlt, _, _, .inl ⟨_, _, hg⟩, by show 0 + l.length ≤ l.length; omega, row_ofList _ (by rw [List.length_map]; unfold Tr.wide; omega)⟩

set_option maxHeartbeats 400000 in
theorem told_close : AE.Told Tryd.prog 15 closeA := by
  refine told_go hE hmix tolds_C ?_
  intro args s v s' h hm
  unfold closeA at h
  split at h
  · rename_i ad n cap
    obtain ⟨hc, h2⟩ := run_when h
    simp only [Bool.and_eq_true] at hc
    have hn1 := ble_iff.1 hc.1
    have hn2 := ble_iff.1 hc.2
    obtain ⟨l, rfl, hb, h3⟩ := bs_of_load h2
    obtain ⟨hN0, h4⟩ := new_run h3
    obtain ⟨s9, h5, hn9, hm9, hh9, hbl⟩ := bump_run 1 _ _ _ h4
    have hN1 : Nat.ble (s.next + 1) lastName = true := hbl 0 (by omega)
    cases h5
    clear h h2 h3 h4
    have hN0 : Nat.ble s.next lastName = true := hN0
    have hn9 : s'.next = s.next + 2 := hn9
    have hh9 : ∀ m, s'.heap.get m = if s.next + 1 ≤ m ∧ m < s.next + 2 then none else (s.heap.put s.next (some (.cells (Tr.ofList ((closeL l).map bv)) (closeL l).length 5 .whole))).get m := hh9
    refine go_enter (fi := fiC) (c := cdC) (by kernel_rfl) (by kernel_rfl) 27 rfl rfl ?_
    have h0 : (Tr.ofList [Value.slice (some ad) l.length cap]).get 0 = some (.slice (some ad) l.length cap) := rfl
    generalize Tr.ofList [Value.slice (some ad) l.length cap] = t at *
    simp only [cdC, Tryd.f15, bodyOf]
    have hcrc := crcA_run hb (by omega) (by omega) cap
    have hadd : ∀ E t, binA E .add t (.int .i64 (.ofNat l.length)) (.int .i64 (.ofNat 4)) = some (.int .i64 (.ofNat (l.length + 4))) := by
      intro E t
      show some (Value.int .i64 (wrapA .i64 (.ofNat (l.length + 4)))) = _
      rw [wrap64 (by omega)]
    have k1 : Nat.ble 0 (l.length + 4) = true := rfl
    have k2 : Nat.ble (l.length + 4) maxNeed = true := ble_iff.2 (by unfold maxNeed; omega)
    have k3 : Nat.ble (repeatL [Value.int .u8 (Int.ofNat 0)] (l.length + 4)).length lastName = true := by rw [repeat_len]; exact ble_iff.2 (by unfold lastName; omega)
    have int4 : (4 : Int) = Int.ofNat 4 := rfl
    repeat apply go_seq
    apply go_region
    case h => intro m; simp (maxSteps := 2000000) (disch := decide) only [opsLoop, evOper, wantedA, nth, aop, aPick, aBin, aIndexAddr, aFieldAddr, aLoad, aStore, aExtract, aConvert, aAlloc, aBox, aIndex, callA, builtinA, Fr.evs, opt, val, when, AM.run, outV, newA, ptr, force_eq, seen_heap, seen_next, seen_mark, seen_seen, agg_cells, int_cells, Fr.ev, Fr.put, onFr, gps, gpn, bltT, still, flat, List.append_nil, List.nil_append, List.cons_append, Nat.reduceEqDiff, ne_eq, not_false_eq_true, reduceCtorEq, Bool.and_true, Bool.true_and, Bool.and_false, Bool.false_and, Bool.not_true, Bool.not_false, Bool.and_self]; rfl
    repeat apply go_seq
    apply go_region
    case h => intro m; simp (maxSteps := 2000000) (disch := decide) only [opsLoop, evOper, wantedA, nth, aop, aPick, aBin, aIndexAddr, aFieldAddr, aLoad, aStore, aExtract, aConvert, aAlloc, aBox, aIndex, callA, builtinA, Fr.evs, opt, val, when, AM.run, outV, newA, ptr, force_eq, seen_heap, seen_next, seen_mark, seen_seen, agg_cells, int_cells, Fr.ev, Fr.put, onFr, gps, gpn, bltT, still, flat, List.append_nil, List.nil_append, List.cons_append, Nat.reduceEqDiff, ne_eq, not_false_eq_true, reduceCtorEq, Bool.and_true, Bool.true_and, Bool.and_false, Bool.false_and, Bool.not_true, Bool.not_false, Bool.and_self, h0, tgS, evT_told sgS, hcrc]; rfl
    repeat apply go_seq
    apply go_region
    case h => intro m; simp (disch := decide) only [opsLoop, evOper, wantedA, nth, aop, aPick, aBin, aIndexAddr, aFieldAddr, aLoad, aStore, aExtract, aConvert, aAlloc, aBox, aIndex, callA, Fr.evs, opt, val, when, AM.run, outV, newA, ptr, force_eq, seen_heap, seen_next, seen_mark, seen_seen, agg_cells, int_cells, Fr.ev, Fr.put, onFr, gps, gpn, bltT, still, flat, List.append_nil, List.nil_append, List.cons_append, Nat.reduceEqDiff, ne_eq, not_false_eq_true, reduceCtorEq, Bool.and_true, Bool.true_and, Bool.and_false, Bool.false_and, Bool.not_true, Bool.not_false, Bool.and_self, h0, len_b, int0, int4, hadd, aMakeSlice, tyB, dsB, tyU8, zeU8, szU8, byU8, k1, k2, k3, hN0, show Nat.ble 1 1024 = true from rfl, show Nat.ble 1 1 = true from rfl, show Nat.beq ([Value.int .u8 (Int.ofNat 0)] : List Value).length 1 = true from rfl]; rfl
    generalize hs1 : S.mk _ _ _ _ _ = s1
    have e1 : s1.next = s.next + 1 := by rw [← hs1]
    have e1h : s1.heap = s.heap.put s.next (some (.cells (Tr.ofList (repeatL [Value.int .u8 (Int.ofNat 0)] (l.length + 4))) (repeatL [Value.int .u8 (Int.ofNat 0)] (l.length + 4)).length 5 .whole)) := by rw [← hs1]
    rw [repeat_len] at e1h
    clear hs1
    have hbl := hb.lt
    have hne : ad.block ≠ s.next := by omega
    have B1 : Bs s1 ad l := hb.keep (by omega) (by rw [e1h, hg_far hN0 hne])
    have c1 : s1.heap.get s.next = some (.cells (Tr.ofList (repeatL [Value.int .u8 (Int.ofNat 0)] (l.length + 4))) (l.length + 4) 5 .whole) := by rw [e1h]; exact hg_same hN0 _ _
    obtain ⟨s2, a2, e2h, e2, e2m⟩ := append_b (len := 0) (cap := l.length + 4) (c2 := cap) B1 rfl (by omega) (by omega) c1 hN0 (by omega) (by omega) (by omega) (by omega)
    rw [Nat.zero_add] at a2
    repeat apply go_seq
    apply go_ops
    apply go_take 3
    case h => intro m; simp (disch := decide) only [List.take, opsLoop, evOper, wantedA, nth, aop, aPick, aBin, aIndexAddr, aFieldAddr, aLoad, aStore, aExtract, aConvert, aAlloc, aBox, aIndex, callA, Fr.evs, opt, val, when, AM.run, outV, newA, ptr, force_eq, seen_heap, seen_next, seen_mark, seen_seen, agg_cells, int_cells, Fr.ev, Fr.put, onFr, gps, gpn, bltT, still, flat, List.append_nil, List.nil_append, List.cons_append, Nat.reduceEqDiff, ne_eq, not_false_eq_true, reduceCtorEq, Bool.and_true, Bool.true_and, Bool.and_false, Bool.false_and, Bool.not_true, Bool.not_false, Bool.and_self, h0, a2]; rfl
    simp only [List.drop]
    have g8 := b_shrN (crc32 l) 8 (by omega)
    have g16 := b_shrN (crc32 l) 16 (by omega)
    have g24 := b_shrN (crc32 l) 24 (by omega)
    have f4 := fill4 (UInt8.ofNat (crc32 l)) (UInt8.ofNat (crc32 l >>> 8)) (UInt8.ofNat (crc32 l >>> 16)) (UInt8.ofNat (crc32 l >>> 24))
    have hN1' : Nat.ble s2.next lastName = true := by rw [e2, e1]; exact hN1
    have i8 : (8 : Int) = Int.ofNat 8 := rfl
    have i16 : (16 : Int) = Int.ofNat 16 := rfl
    have i24 : (24 : Int) = Int.ofNat 24 := rfl
    apply go_take 12
    case h => intro m; simp (disch := decide) only [List.take, opsLoop, evOper, wantedA, nth, aop, aPick, aBin, aIndexAddr, aFieldAddr, aLoad, aStore, aExtract, aConvert, aAlloc, aBox, aIndex, callA, Fr.evs, opt, val, when, AM.run, outV, newA, ptr, force_eq, seen_heap, seen_next, seen_mark, seen_seen, agg_cells, int_cells, Fr.ev, Fr.put, onFr, gps, gpn, bltT, still, flat, List.append_nil, List.nil_append, List.cons_append, Nat.reduceEqDiff, ne_eq, not_false_eq_true, reduceCtorEq, Bool.and_true, Bool.true_and, Bool.and_false, Bool.false_and, Bool.not_true, Bool.not_false, Bool.and_self, tyU8, tyU32, dsU8, dsU32, i8, i16, i24, g8, g16, g24, cv8, aBuildSlice, evParts, tyB, dsB, zeU8, szU8, byU8, int0, f4, hN1', show Nat.ble (Nat.mul 4 1) 1048576 = true from rfl, show Nat.beq ([Value.int .u8 (Int.ofNat 0)] : List Value).length 1 = true from rfl, show Nat.ble 1 1 = true from rfl, show ∀ a b c d : Value, Nat.ble ([a, b, c, d] : List Value).length lastName = true from fun _ _ _ _ => rfl]; rfl
    simp only [List.drop]
    generalize hs3 : S.mk _ _ _ _ _ = s3
    have e3 : s3.next = s.next + 2 := by rw [← hs3]; show s2.next + 1 = _; omega
    have e3h : s3.heap = s2.heap.put s2.next (some (.cells (Tr.ofList [bv (UInt8.ofNat (crc32 l)), bv (UInt8.ofNat (crc32 l >>> 8)), bv (UInt8.ofNat (crc32 l >>> 16)), bv (UInt8.ofNat (crc32 l >>> 24))]) (List.length [bv (UInt8.ofNat (crc32 l)), bv (UInt8.ofNat (crc32 l >>> 8)), bv (UInt8.ofNat (crc32 l >>> 16)), bv (UInt8.ofNat (crc32 l >>> 24))]) 5 .whole)) := by rw [← hs3]
    have hL4 : [bv (UInt8.ofNat (crc32 l)), bv (UInt8.ofNat (crc32 l >>> 8)), bv (UInt8.ofNat (crc32 l >>> 16)), bv (UInt8.ofNat (crc32 l >>> 24))] = (sum4 (crc32 l)).map bv := rfl
    rw [hL4, List.length_map] at e3h
    clear hs3
    have h21 : s2.next = s.next + 1 := by omega
    rw [h21] at e3h
    have c2 : s2.heap.get s.next = some (.cells (wrCells (Tr.ofList (repeatL [Value.int .u8 (Int.ofNat 0)] (l.length + 4))) 0 (l.map bv)) (l.length + 4) 5 .whole) := by rw [e2h]; exact hg_same hN0 _ _
    have c3 : s3.heap.get s.next = some (.cells (wrCells (Tr.ofList (repeatL [Value.int .u8 (Int.ofNat 0)] (l.length + 4))) 0 (l.map bv)) (l.length + 4) 5 .whole) := by
      rw [e3h, hg_far hN1 (by omega)]; exact c2
    have B3 : Bs s3 ⟨s.next + 1, 0, none⟩ (sum4 (crc32 l)) := bs_new (by omega) (by rw [e3h]; exact hg_same hN1 _ _) (by simp [sum4])
    obtain ⟨s4, a4, e4h, e4, e4m⟩ := append_b (len := l.length) (cap := l.length + 4) (c2 := 4) (n := 4) B3 rfl (by omega) (by omega) c3 hN0 (by omega) (by omega) (by omega) (by omega)
    rw [← h21] at a4
    apply go_take 2
    case h => intro m; simp (disch := decide) only [List.take, opsLoop, evOper, wantedA, nth, aop, aPick, aBin, aIndexAddr, aFieldAddr, aLoad, aStore, aExtract, aConvert, aAlloc, aBox, aIndex, callA, Fr.evs, opt, val, when, AM.run, outV, newA, ptr, force_eq, seen_heap, seen_next, seen_mark, seen_seen, agg_cells, int_cells, Fr.ev, Fr.put, onFr, gps, gpn, bltT, still, flat, List.append_nil, List.nil_append, List.cons_append, Nat.reduceEqDiff, ne_eq, not_false_eq_true, reduceCtorEq, Bool.and_true, Bool.true_and, Bool.and_false, Bool.false_and, Bool.not_true, Bool.not_false, Bool.and_self, a4]; rfl
    simp only [List.drop]
    apply go_done
    repeat apply go_seq
    apply go_ret
    apply ret_intro rfl rfl
    case run => simp (disch := decide) only [resultsM, resultsA, resC, opsLoop, evOper, wantedA, nth, aop, aPick, aBin, aIndexAddr, aFieldAddr, aLoad, aStore, aExtract, aConvert, aAlloc, aBox, aIndex, callA, builtinA, Fr.evs, opt, val, when, AM.run, outV, newA, ptr, force_eq, seen_heap, seen_next, seen_mark, seen_seen, agg_cells, int_cells, Fr.ev, Fr.put, onFr, gps, gpn, bltT, still, flat, List.append_nil, List.nil_append, List.cons_append, Nat.reduceEqDiff, ne_eq, not_false_eq_true, reduceCtorEq, Bool.and_true, Bool.true_and, Bool.and_false, Bool.false_and, Bool.not_true, Bool.not_false, Bool.and_self]; rfl
    refine ⟨rfl, by rw [e4, e3, hn9]; exact Nat.le_refl _, ?_⟩
    intro m o ho
    rw [hh9] at ho
    by_cases h1 : s.next + 1 ≤ m ∧ m < s.next + 2
    · rw [if_pos h1] at ho; cases ho
    · rw [if_neg h1] at ho
      by_cases h2 : m = s.next
      · subst h2
        rw [hg_same hN0] at ho
        cases ho
        have hw : Row (wrCells (wrCells (Tr.ofList (repeatL [Value.int .u8 (Int.ofNat 0)] (l.length + 4))) 0 (l.map bv)) l.length ((sum4 (crc32 l)).map bv)) 0 ((closeL l).map bv) := by
          have hwide : l.length + 4 ≤ Tr.wide := by unfold Tr.wide; omega
          unfold closeL
          rw [List.map_append]
          refine row_app (row_wr_far ?_ (row_wr ?_) (.inl ?_)) ?_
          · rw [List.length_map]; exact hwide
          · rw [List.length_map]; omega
          · rw [List.length_map]; omega
          · rw [List.length_map, Nat.zero_add]
            exact row_wr (by rw [List.length_map]; exact hwide)
        refine ⟨_, by rw [e4h]; exact hg_same hN0 _ _, ?_⟩
        rw [closeL_len]
        exact .cells fun i v hi _ => sub_row hw (by rw [List.length_map, closeL_len]; unfold Tr.wide; omega) i v hi
      · rw [hg_far hN0 h2] at ho
        refine ⟨o, ?_, .refl o⟩
        rw [e4h, hg_far hN0 h2, e3h, hg_far hN1 (by omega), e2h, hg_far hN0 h2, e1h, hg_far hN0 h2]
        exact ho
  · cases h
end Go.Proofs.YtdkieabjjmhdlaaDoor.lf
end
end

section
/- Leaves: a leaf as a block's bytes: the parts of its walk. -/
noncomputable section
namespace Go.Proofs.YtdkieabjjmhdlaaDoor.lf
open AE
set_option linter.unusedSimpArgs false
set_option linter.unusedVariables false
set_option maxRecDepth 10000

theorem bump_ok {α : Type} : ∀ (n : Nat) (k : AM α) (s : S), (∀ i, i < n → Nat.ble (s.next + i) lastName = true) → ∃ s1, (bump n k).run s = k.run s1 ∧ s1.next = s.next + n ∧ s1.mark = s.mark ∧ ∀ m, s1.heap.get m = if s.next ≤ m ∧ m < s.next + n then none else s.heap.get m
  | 0, k, s, h => ⟨s, rfl, rfl, rfl, fun m => by rw [if_neg (by omega)]⟩
  | n + 1, k, s, h => by
    have h0 : Nat.ble s.next lastName = true := h 0 (by omega)
    have h7 : ∀ i, (S.turn (s.grow (.deferred none)) s.next none).next + i = s.next + (i + 1) := fun i => by show s.next + 1 + i = _; omega
    obtain ⟨s1, e1, e2, e3, e4⟩ := bump_ok n k (S.turn (s.grow (.deferred none)) s.next none) (fun i hi => by rw [h7]; exact h (i + 1) (by omega))
    refine ⟨s1, ?_, by rw [e2]; show s.next + 1 + n = _; omega, by rw [e3]; rfl, ?_⟩
    · rw [← e1]
      have hb : Nat.blt s.next (Nat.succ s.next) = true := blt_iff.2 (Nat.lt_succ_self _)
      have hg := hg_same h0 s.heap (some (AObj.deferred none))
      simp only [bump, AM.run, force_eq, h0, hb, Bool.and_self, hg]
      rfl
    · intro m
      rw [e4 m]
      show (if s.next + 1 ≤ m ∧ m < s.next + 1 + n then none else ((s.heap.put s.next (some (.deferred none))).put s.next none).get m) = _
      by_cases hm : m = s.next
      · subst hm
        rw [if_neg (by omega), hg_same h0, if_pos (by omega)]
      · rw [hg_far h0 hm, hg_far h0 hm]
        by_cases h5 : s.next + 1 ≤ m ∧ m < s.next + 1 + n
        · rw [if_pos h5, if_pos (by omega)]
        · rw [if_neg h5, if_neg (by omega)]
theorem rightA_run {s : S} {d : LeafD} (hlen : d.load.length = 116) (h : ∀ i, i < 2 → Nat.ble (s.next + i) lastName = true) :
    ∃ s1, (rightA [.agg ⟨d.cells⟩]).run s = some (.bool (rightL d), s1) ∧ s1.next = s.next + 2 ∧ ∀ m, s1.heap.get m = if s.next ≤ m ∧ m < s.next + 2 then none else s.heap.get m := by
  obtain ⟨s1, e1, e2, e3, e4⟩ := bump_ok 2 (AM.pure (Value.bool (rightL d))) s h
  refine ⟨s1, ?_, e2, e4⟩
  show (opt (leafOf d.cells) fun d => bump 2 (.pure (Value.bool (rightL d)))).run s = _
  rw [leafOf_cells d hlen]
  exact e1
theorem LfAt.load {s : S} {n : Nat} {d : LeafD} (h : LfAt s n d) : (loadT tiLf ⟨n, 0, none⟩ AE.val).run s = some (.value (.agg ⟨d.cells⟩), s.seen n) := by
  obtain ⟨c, e, rm, h1, h2⟩ := h.cell
  have h4 := rd_row h2
  rw [d.len h.len] at h4
  unfold loadT loadA
  rw [dsLf, szLf]
  simp only [isAggD, AM.run, blt_iff.2 h.lt, h1, when, show Nat.ble (Nat.add 0 121) 121 = true from rfl, opt, h4]
  rfl

def two (x : Int) : List UInt8 := [UInt8.ofNat x.toNat, UInt8.ofNat (x.toNat >>> 8)]
def pre (d : LeafD) : Nat → List UInt8
  | 0 => []
  | i + 1 => pre d i ++ two ((three d).getD i 0)
def putL (d : LeafD) : List UInt8 := closeL ((d.load ++ pre d 3) ++ [UInt8.ofNat d.size.toNat, UInt8.ofNat d.kind.toNat])
theorem pre_len (d : LeafD) : ∀ i, (pre d i).length = 2 * i
  | 0 => rfl
  | i + 1 => by simp only [pre, List.length_append, pre_len d i, two, List.length_cons, List.length_nil]; omega
theorem putL_len (d : LeafD) (h : d.load.length = 116) : (putL d).length = 128 := by
  unfold putL
  rw [closeL_len]
  simp [pre_len, h]
def putA : List Value → AM Value
  | [.agg ⟨cs⟩] => opt (leafOf cs) fun d => match rightL d with
    | true => bump 9 (newB (putL d) fun r => bump 1 (.pure (.slice (some ⟨r, 0, none⟩) 128 128)))
    | false => bump 3 (.pure (.slice none 0 0))
  | _ => .fail

abbrev sigP : List (Nat × (List Value → AM Value)) := [(9, rightA), (15, closeA)]
theorem tolds_P : Tolds Tryd.prog (sumsOf sigP) := tolds_cons told_right (tolds_cons told_close tolds_nil)
theorem sgR : sumsOf sigP 9 = some rightA := rfl
theorem sgC : sumsOf sigP 15 = some closeA := rfl
theorem tgR : ∀ a b, targetA E (.func 9) a b = .pure (.enter 9 (b ++ a)) := tgt (fi := fiR) (c := cdR) (by kernel_rfl) (by kernel_rfl)
theorem tgC : ∀ a b, targetA E (.func 15) a b = .pure (.enter 15 (b ++ a)) := tgt (fi := fiC) (c := cdC) (by kernel_rfl) (by kernel_rfl)
noncomputable def fiP : FI := FI.of Tryd.f4
noncomputable def cdP : Code := bodyOf Tryd.f4
noncomputable def cdPl : Code := sub [1,1,1,1,0,1,0,0] cdP
theorem resP : fiP.results = [.tmp 2] := rfl

/-- the memory in the loop -/
structure PutAt (n : Nat) (d : LeafD) (s0 s : S) (i : Nat) : Prop where
  next : s.next = n + 5 + i
  lf : LfAt s n d
  ints : ∃ c e rm, s.heap.get (n + 4) = some (.cells c 3 e rm) ∧ Row c 0 [.int .i64 d.file, .int .i64 d.place, .int .i64 d.next]
  buf : ∃ c e rm, s.heap.get (n + 3) = some (.cells c 124 e rm) ∧ Row c 0 ((d.load ++ pre d i).map bv)
  old : ∀ m, (m < n ∨ n + 11 ≤ m) → s.heap.get m = s0.heap.get m
theorem PutAt.rd {n : Nat} {d : LeafD} {s0 s s' : S} {i : Nat} (h : PutAt n d s0 s i) (hr : Rd s s') : PutAt n d s0 s' i :=
  ⟨by rw [hr.next]; exact h.next, h.lf.rd hr, by rw [hr.heap]; exact h.ints, by rw [hr.heap]; exact h.buf, fun m hm => by rw [hr.heap]; exact h.old m hm⟩
theorem PutAt.get {n : Nat} {d : LeafD} {s0 s : S} {i : Nat} (h : PutAt n d s0 s i) (k : Nat) (x : Int) (hk : (three d)[k]? = some x) : (loadT tiI ⟨n + 4, k, none⟩ AE.val).run s = some (.value (.int .i64 x), s.seen (n + 4)) := by
  obtain ⟨c, e, rm, h1, h2⟩ := h.ints
  have hlt : k < 3 := (List.getElem?_eq_some_iff.1 hk).1
  refine cell_load tiI (by rw [dsI]; rfl) (by rw [h.next]; omega) h1 (by omega) ?_
  have h3 : [Value.int .i64 d.file, .int .i64 d.place, .int .i64 d.next][k]? = some (.int .i64 x) := by
    match k, hlt with
    | 0, _ => simpa [three] using hk
    | 1, _ => simpa [three] using hk
    | 2, _ => simpa [three] using hk
  have := h2 k _ h3
  rwa [Nat.zero_add] at this
/-- two bytes more -/
theorem PutAt.more {n : Nat} {d : LeafD} {s0 s s3 : S} {i : Nat} (h : PutAt n d s0 s i) (hd : d.load.length = 116) (hi : i ≤ 3) (hN : ∀ j, j < 11 → Nat.ble (n + j) lastName = true) (b : List UInt8) (hb : b.length = 2) (e : TypeId) (rm : Room)
    (e3 : s3.next = s.next + 1) (e3h : s3.heap = s.heap.put s.next (some (.cells (Tr.ofList (b.map bv)) b.length e rm))) :
    ∃ s4, (builtinA E .append #[25, 25] [.slice (some ⟨n + 3, 0, none⟩) (116 + 2 * i) 124, .slice (some ⟨s.next, 0, none⟩) 2 2]).run s3 = some (.value (.slice (some ⟨n + 3, 0, none⟩) (116 + 2 * (i + 1)) 124), s4) ∧
      s4.next = n + 5 + (i + 1) ∧ LfAt s4 n d ∧ (∃ c e rm, s4.heap.get (n + 4) = some (.cells c 3 e rm) ∧ Row c 0 [.int .i64 d.file, .int .i64 d.place, .int .i64 d.next]) ∧
      (∃ c e rm, s4.heap.get (n + 3) = some (.cells c 124 e rm) ∧ Row c 0 ((d.load ++ pre d i ++ b).map bv)) ∧ ∀ m, (m < n ∨ n + 11 ≤ m) → s4.heap.get m = s0.heap.get m := by
  have hnx := h.next
  have hNs : Nat.ble s.next lastName = true := by rw [hnx, Nat.add_assoc]; exact hN (5 + i) (by omega)
  have hN3 := hN 3 (by omega)
  have B3 : Bs s3 ⟨s.next, 0, none⟩ b := bs_new (by omega) (by rw [e3h]; exact hg_same hNs _ _) (by omega)
  obtain ⟨c, e', rm', g1, g2⟩ := h.buf
  have c3 : s3.heap.get (n + 3) = some (.cells c 124 e' rm') := by rw [e3h, hg_far hNs (by omega)]; exact g1
  obtain ⟨s4, a4, e4h, e4, e4m⟩ := append_b (len := 116 + 2 * i) (cap := 124) (c2 := 2) (n := 2) B3 hb (by omega) (by omega) c3 hN3 (by omega) (by omega) (by omega) (by omega)
  have hk : ∀ m, m ≠ n + 3 → m ≠ s.next → s4.heap.get m = s.heap.get m := fun m h1 h2 => by rw [e4h, hg_far hN3 h1, e3h, hg_far hNs h2]
  refine ⟨s4, a4, by rw [e4, e3, hnx]; omega, ⟨by rw [e4, e3]; omega, by rw [hk n (by omega) (by omega)]; exact h.lf.cell, h.lf.len⟩, by rw [hk (n + 4) (by omega) (by omega)]; exact h.ints, ?_, fun m hm => by rw [hk m (by omega) (by omega)]; exact h.old m hm⟩
  refine ⟨_, _, _, by rw [e4h]; exact hg_same hN3 _ _, ?_⟩
  have hwide : 200 ≤ Tr.wide := by unfold Tr.wide; omega
  have hpl := pre_len d i
  rw [List.map_append]
  refine row_app (row_wr_far ?_ g2 (.inl ?_)) ?_
  · rw [List.length_map]; omega
  · rw [List.length_map, List.length_append]; omega
  · rw [List.length_map, List.length_append, Nat.zero_add, hd, hpl]
    exact row_wr (by rw [List.length_map]; omega)
end Go.Proofs.YtdkieabjjmhdlaaDoor.lf
end
end

section
/- Leaves: a leaf as a block's bytes: told. -/
noncomputable section
namespace Go.Proofs.YtdkieabjjmhdlaaDoor.lf
open AE
set_option linter.unusedSimpArgs false
set_option linter.unusedVariables false
set_option maxRecDepth 10000

theorem b_shrI (c k : Nat) (hk : k ≤ 64) : ∀ E t, binA E .shr t (.int .i64 (.ofNat c)) (.int .u64 (.ofNat k)) = some (.int .i64 (.ofNat (c >>> k))) := by
  intro E t
  show some (Value.int .i64 (Int.fdiv (.ofNat c) (pow2 (minN k 64)))) = _
  have h : minN k 64 = k := by rw [minN_eq]; omega
  rw [h]
  have h2 : Int.fdiv (.ofNat c) (pow2 k) = Int.ofNat (c >>> k) := by
    rw [Nat.shiftRight_eq_div_pow]
    unfold pow2
    show Int.fdiv ((c : Nat) : Int) ((2 ^ k : Nat) : Int) = ((c / 2 ^ k : Nat) : Int)
    rw [Int.fdiv_eq_ediv_of_nonneg _ (Int.natCast_nonneg _)]
    rfl
  rw [h2]
def InvP (d : LeafD) (n : Nat) (s0 : S) (k : Nat) (fr : Fr) (s : S) : Prop :=
  ∃ (i : Nat) (t : Tr Value), k = 3 - i ∧ i ≤ 3 ∧ fr = ⟨4, t, 45, [], none⟩ ∧ PutAt n d s0 s i ∧ t.get 1 = some (.pointer (some ⟨n, 0, none⟩)) ∧ t.get 3 = some (.slice (some ⟨n + 3, 0, none⟩) (116 + 2 * i) 124) ∧
    t.get 20 = some (.slice (some ⟨n + 4, 0, none⟩) 3 3) ∧ t.get 21 = some (.int .i64 (.ofNat 3)) ∧ t.get 22 = some (.int .i64 (.ofNat i))
def PostP (d : LeafD) (n : Nat) (s0 : S) (x : Ex) (fr : Fr) (s : S) : Prop :=
  x = .exit 0 ∧ ∃ t : Tr Value, fr = ⟨4, t, 45, [], none⟩ ∧ PutAt n d s0 s 3 ∧ t.get 1 = some (.pointer (some ⟨n, 0, none⟩)) ∧ t.get 3 = some (.slice (some ⟨n + 3, 0, none⟩) 122 124)
set_option maxHeartbeats 400000 in
theorem put_round (d : LeafD) (n : Nat) (s0 : S) (hd : d.load.length = 116) (hN : ∀ j, j < 11 → Nat.ble (n + j) lastName = true) (hx : ∀ (j : Nat) (x : Int), (three d)[j]? = some x → 0 ≤ x ∧ x ≤ 65535) (k : Nat) (fr : Fr) (s : S) (h : InvP d n s0 k fr s) :
    GoC E (sumsOf sigP) cdPl fr s (Again (InvP d n s0) k (PostP d n s0)) := by
  obtain ⟨i, t, hk, hi, rfl, hp, g1, g3, g20, g21, g22⟩ := h
  simp only [cdPl, cdP, Tryd.f4, bodyOf, sub]
  by_cases hlt : i < 3
  · obtain ⟨x, hxi⟩ : ∃ x, (three d)[i]? = some x := ⟨_, List.getElem?_eq_getElem (by simpa [three] using hlt)⟩
    have hx2 := hx i x hxi
    have hlt' : ltI (Int.ofNat i) (Int.ofNat 3) = true := by rw [ltI_eq]; simp; omega
    have hb : Nat.blt i 3 = true := blt_iff.2 hlt
    have hld := hp.get i x hxi
    have hinc := b_incr (n := i) (by omega)
    obtain ⟨z, hz⟩ : ∃ z : Nat, x = Int.ofNat z := ⟨x.toNat, (Int.toNat_of_nonneg hx2.1).symm⟩
    have hgd : (three d).getD i 0 = x := by rw [List.getD_eq_getElem?_getD, hxi]; rfl
    repeat apply go_seq
    apply go_region
    case h => intro m; simp (maxSteps := 2000000) (disch := decide) only [opsLoop, evOper, wantedA, nth, aop, aPick, aBin, aIndexAddr, aFieldAddr, aLoad, aStore, aExtract, aConvert, aAlloc, aBox, aIndex, callA, builtinA, Fr.evs, opt, val, when, AM.run, outV, newA, ptr, force_eq, seen_heap, seen_next, seen_mark, seen_seen, agg_cells, int_cells, Fr.ev, Fr.put, onFr, gps, gpn, bltT, still, flat, List.append_nil, List.nil_append, List.cons_append, Nat.reduceEqDiff, ne_eq, not_false_eq_true, reduceCtorEq, Bool.and_true, Bool.true_and, Bool.and_false, Bool.false_and, Bool.not_true, Bool.not_false, Bool.and_self, g21, g22, b_lss, hlt']; rfl
    repeat apply go_seq
    apply go_cond
    case hc => simp (disch := decide) only [opsLoop, evOper, wantedA, nth, aop, aPick, aBin, aIndexAddr, aFieldAddr, aLoad, aStore, aExtract, aConvert, aAlloc, aBox, aIndex, callA, builtinA, Fr.evs, opt, val, when, AM.run, outV, newA, ptr, force_eq, seen_heap, seen_next, seen_mark, seen_seen, agg_cells, int_cells, Fr.ev, Fr.put, onFr, gps, gpn, bltT, still, flat, List.append_nil, List.nil_append, List.cons_append, Nat.reduceEqDiff, ne_eq, not_false_eq_true, reduceCtorEq, Bool.and_true, Bool.true_and, Bool.and_false, Bool.false_and, Bool.not_true, Bool.not_false, Bool.and_self]; rfl
    case h2 => intro h; cases h
    intro _
    apply go_skip
    apply go_seq
    apply go_block
    repeat apply go_seq
    apply go_region
    case h => intro m; simp (maxSteps := 2000000) (disch := decide) only [opsLoop, evOper, wantedA, nth, aop, aPick, aBin, aIndexAddr, aFieldAddr, aLoad, aStore, aExtract, aConvert, aAlloc, aBox, aIndex, callA, builtinA, Fr.evs, opt, val, when, AM.run, outV, newA, ptr, force_eq, seen_heap, seen_next, seen_mark, seen_seen, agg_cells, int_cells, Fr.ev, Fr.put, onFr, gps, gpn, bltT, still, flat, List.append_nil, List.nil_append, List.cons_append, Nat.reduceEqDiff, ne_eq, not_false_eq_true, reduceCtorEq, Bool.and_true, Bool.true_and, Bool.and_false, Bool.false_and, Bool.not_true, Bool.not_false, Bool.and_self, g20, g22, tyL, dsL, tyI, szI, hb, mul1, add0, hld]; rfl
    subst hz
    have hp1 := hp.rd (Rd.seen s (n + 4))
    generalize hs1 : s.seen (n + 4) = s1
    rw [hs1] at hp1
    have hnx := hp1.next
    have hN1 : Nat.ble s1.next lastName = true := by rw [hnx, Nat.add_assoc]; exact hN (5 + i) (by omega)
    have g8 := b_shrI z 8 (by omega)
    have i8 : (8 : Int) = Int.ofNat 8 := rfl
    have f2 := fill2 (UInt8.ofNat z) (UInt8.ofNat (z >>> 8))
    repeat apply go_seq
    apply go_ops
    apply go_take 7
    case h => intro m; simp (disch := decide) only [List.take, opsLoop, evOper, wantedA, nth, aop, aPick, aBin, aIndexAddr, aFieldAddr, aLoad, aStore, aExtract, aConvert, aAlloc, aBox, aIndex, callA, Fr.evs, opt, val, when, AM.run, outV, newA, ptr, force_eq, seen_heap, seen_next, seen_mark, seen_seen, agg_cells, int_cells, Fr.ev, Fr.put, onFr, gps, gpn, bltT, still, flat, List.append_nil, List.nil_append, List.cons_append, Nat.reduceEqDiff, ne_eq, not_false_eq_true, reduceCtorEq, Bool.and_true, Bool.true_and, Bool.and_false, Bool.false_and, Bool.not_true, Bool.not_false, Bool.and_self, g3, tyU8, tyI, dsU8, dsI, i8, g8, cv8, aBuildSlice, evParts, tyB, dsB, zeU8, szU8, byU8, int0, f2, hN1, show Nat.ble (Nat.mul 2 1) 1048576 = true from rfl, show Nat.beq ([Value.int .u8 (Int.ofNat 0)] : List Value).length 1 = true from rfl, show Nat.ble 1 1 = true from rfl, show ∀ a b : Value, Nat.ble ([a, b] : List Value).length lastName = true from fun _ _ => rfl]; rfl
    simp only [List.drop]
    generalize hs3 : S.mk _ _ _ _ _ = s3
    have e3 : s3.next = s1.next + 1 := by rw [← hs3]
    have e3h : s3.heap = s1.heap.put s1.next (some (.cells (Tr.ofList [bv (UInt8.ofNat z), bv (UInt8.ofNat (z >>> 8))]) (List.length [bv (UInt8.ofNat z), bv (UInt8.ofNat (z >>> 8))]) 5 .whole)) := by rw [← hs3]
    have hL2 : [bv (UInt8.ofNat z), bv (UInt8.ofNat (z >>> 8))] = (two (Int.ofNat z)).map bv := rfl
    rw [hL2, List.length_map] at e3h
    clear hs3
    obtain ⟨s4, a4, m1, m2, m3, m4, m5⟩ := hp1.more hd hi hN (two (Int.ofNat z)) rfl _ _ e3 e3h
    apply go_take 2
    case h => intro m; simp (disch := decide) only [List.take, opsLoop, evOper, wantedA, nth, aop, aPick, aBin, aIndexAddr, aFieldAddr, aLoad, aStore, aExtract, aConvert, aAlloc, aBox, aIndex, callA, Fr.evs, opt, val, when, AM.run, outV, newA, ptr, force_eq, seen_heap, seen_next, seen_mark, seen_seen, agg_cells, int_cells, Fr.ev, Fr.put, onFr, gps, gpn, bltT, still, flat, List.append_nil, List.nil_append, List.cons_append, Nat.reduceEqDiff, ne_eq, not_false_eq_true, reduceCtorEq, Bool.and_true, Bool.true_and, Bool.and_false, Bool.false_and, Bool.not_true, Bool.not_false, Bool.and_self, a4]; rfl
    simp only [List.drop]
    apply go_done
    repeat apply go_seq
    apply go_region
    case h => intro m; simp (maxSteps := 2000000) (disch := decide) only [opsLoop, evOper, wantedA, nth, aop, aPick, aBin, aIndexAddr, aFieldAddr, aLoad, aStore, aExtract, aConvert, aAlloc, aBox, aIndex, callA, builtinA, Fr.evs, opt, val, when, AM.run, outV, newA, ptr, force_eq, seen_heap, seen_next, seen_mark, seen_seen, agg_cells, int_cells, Fr.ev, Fr.put, onFr, gps, gpn, bltT, still, flat, List.append_nil, List.nil_append, List.cons_append, Nat.reduceEqDiff, ne_eq, not_false_eq_true, reduceCtorEq, Bool.and_true, Bool.true_and, Bool.and_false, Bool.false_and, Bool.not_true, Bool.not_false, Bool.and_self, g22, int1, hinc]; rfl
    refine ⟨3 - (i + 1), by omega, i + 1, _, rfl, by omega, rfl, ⟨m1, m2, m3, ?_, m5⟩, ?_, ?_, ?_, ?_, ?_⟩
    · show ∃ c e rm, _ ∧ Row c 0 ((d.load ++ (pre d i ++ two ((three d).getD i 0))).map bv)
      rw [hgd, ← List.append_assoc]
      exact m4
    · simp (disch := decide) only [gps, gpn, g1]
    · simp (disch := decide) only [gps, gpn]
    · simp (disch := decide) only [gps, gpn, g20]
    · simp (disch := decide) only [gps, gpn, g21]
    · simp (disch := decide) only [gps, gpn, g22]
  · obtain rfl : i = 3 := by omega
    have hlt' : ltI (Int.ofNat 3) (Int.ofNat 3) = false := rfl
    repeat apply go_seq
    apply go_region
    case h => intro m; simp (maxSteps := 2000000) (disch := decide) only [opsLoop, evOper, wantedA, nth, aop, aPick, aBin, aIndexAddr, aFieldAddr, aLoad, aStore, aExtract, aConvert, aAlloc, aBox, aIndex, callA, builtinA, Fr.evs, opt, val, when, AM.run, outV, newA, ptr, force_eq, seen_heap, seen_next, seen_mark, seen_seen, agg_cells, int_cells, Fr.ev, Fr.put, onFr, gps, gpn, bltT, still, flat, List.append_nil, List.nil_append, List.cons_append, Nat.reduceEqDiff, ne_eq, not_false_eq_true, reduceCtorEq, Bool.and_true, Bool.true_and, Bool.and_false, Bool.false_and, Bool.not_true, Bool.not_false, Bool.and_self, g21, g22, b_lss, hlt']; rfl
    repeat apply go_seq
    apply go_cond
    case hc => simp (disch := decide) only [opsLoop, evOper, wantedA, nth, aop, aPick, aBin, aIndexAddr, aFieldAddr, aLoad, aStore, aExtract, aConvert, aAlloc, aBox, aIndex, callA, builtinA, Fr.evs, opt, val, when, AM.run, outV, newA, ptr, force_eq, seen_heap, seen_next, seen_mark, seen_seen, agg_cells, int_cells, Fr.ev, Fr.put, onFr, gps, gpn, bltT, still, flat, List.append_nil, List.nil_append, List.cons_append, Nat.reduceEqDiff, ne_eq, not_false_eq_true, reduceCtorEq, Bool.and_true, Bool.true_and, Bool.and_false, Bool.false_and, Bool.not_true, Bool.not_false, Bool.and_self]; rfl
    case h1 => intro h; cases h
    intro _
    apply go_exit
    refine ⟨rfl, _, rfl, hp, ?_, ?_⟩
    · simp (disch := decide) only [gps, gpn, g1]
    · simp (disch := decide) only [gps, gpn, g3]
end Go.Proofs.YtdkieabjjmhdlaaDoor.lf
end
end
