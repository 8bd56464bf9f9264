/- Leaves: two leaves compared, whatever they are; a burst of bits in a right leaf's block is found. -/
import Derived.Test.YtgofanjbhbeniaaDoorPRowCatalogTells0
import Derived.Test.YtgofanjbhbeniaaDoorAe33
section
/- Leaves: whether a leaf may be. -/
noncomputable section
namespace Go.Proofs.YtgofanjbhbeniaaDoor.lf
open AE
set_option linter.unusedSimpArgs false
set_option linter.unusedVariables false
set_option maxRecDepth 10000

/-- a leaf, as plain data -/
structure LeafD where
  kind : Int
  file : Int
  place : Int
  next : Int
  size : Int
  load : List UInt8
def LeafD.cells (d : LeafD) : List Value := [.int .i64 d.kind, .int .i64 d.file, .int .i64 d.place, .int .i64 d.next, .int .i64 d.size] ++ d.load.map bv
def LeafD.val (d : LeafD) : Value := .agg ⟨d.cells⟩
def leafOf : List Value → Option LeafD
  | .int .i64 a :: .int .i64 b :: .int .i64 c :: .int .i64 d :: .int .i64 e :: l => match bytesV l with
    | none => none
    | some bs => match Nat.beq bs.length 116 with
      | true => some ⟨a, b, c, d, e, bs⟩
      | false => none
  | _ => none
theorem leafOf_inv {cs : List Value} {d : LeafD} (h : leafOf cs = some d) : cs = d.cells ∧ d.load.length = 116 := by
  unfold leafOf at h
  split at h
  · rename_i a b c e f l
    split at h
    · cases h
    · rename_i bs hbs
      split at h
      · rename_i hb
        cases h
        exact ⟨by rw [bytesV_inv hbs]; rfl, beq_iff.1 hb⟩
      · cases h
  · cases h
theorem leafOf_cells (d : LeafD) (h : d.load.length = 116) : leafOf d.cells = some d := by
  simp only [LeafD.cells, List.cons_append, List.nil_append, leafOf, bytesV_map, beq_iff.2 h]
theorem LeafD.len (d : LeafD) (h : d.load.length = 116) : d.cells.length = 121 := by simp [LeafD.cells, h]

def wi (n lo hi : Int) : Bool := not (ltI n lo) && not (ltI hi n)
theorem wi_iff {n lo hi : Int} : wi n lo hi = true ↔ lo ≤ n ∧ n ≤ hi := by
  unfold wi
  rw [ltI_not, ltI_not]
  simp
def noughts (l : List UInt8) : Bool := Nat.beq (lead l) l.length
/-- may it be? -/
def rightL (d : LeafD) : Bool := wi d.file 0 65535 && wi d.place 0 65535 && wi d.next 0 65535 && wi d.kind 1 2 && wi d.size 0 116 && noughts (d.load.drop d.size.toNat)
def rightA : List Value → AM Value
  | [.agg ⟨cs⟩] => opt (leafOf cs) fun d => bump 2 (.pure (.bool (rightL d)))
  | _ => .fail

/-! a cell is read -/
theorem cell_load {s : S} {b off : Nat} {v : Value} {c : Tr Value} {m : Nat} {e : TypeId} {rm : Room} (i : TI) (hi : isAggD i.desc = false) (hlt : b < s.next) (hg : s.heap.get b = some (.cells c m e rm)) (hm : off + 1 ≤ m) (hc : c.get off = some v) :
    (loadT i ⟨b, off, none⟩ AE.val).run s = some (.value v, s.seen b) := by
  unfold loadT loadA
  rw [hi]
  simp only [AM.run, blt_iff.2 hlt, hg, when, show Nat.ble (Nat.add off 1) m = true from ble_iff.2 hm, rdCells, show Nat.add off 0 = off from rfl, hc, opt, AE.val]
  rfl

theorem has_load {s : S} {b off : Nat} {v : Value} {c : Tr Value} {m : Nat} (i : TI) (hi : isAggD i.desc = false) (hlt : b < s.next) (hg : Has s b c m) (hm : off + 1 ≤ m) (hc : c.get off = some v) :
    (loadT i ⟨b, off, none⟩ AE.val).run s = some (.value v, s.seen b) := by
  unfold loadT loadA
  rw [hi]
  rcases hg with ⟨e, rm, hg⟩ | ⟨e, hg⟩
  all_goals
    simp only [AM.run, blt_iff.2 hlt, hg, when, show Nat.ble (Nat.add off 1) m = true from ble_iff.2 hm, rdCells, show Nat.add off 0 = off from rfl, hc, opt, AE.val]
    rfl
noncomputable def tiLf : TI := TI.of Tryd.prog 30
theorem tyLf : E.ty.get 30 = some tiLf := by kernel_rfl
theorem szLf : tiLf.size = 121 := by kernel_rfl
noncomputable def fsLf : Array Field := match tiLf.desc with | .struct fs => fs | _ => #[]
theorem dsLf : tiLf.desc = .struct fsLf := by kernel_rfl
noncomputable def fd (i : Nat) : Field := (fieldAt? fsLf.toList i).getD default
theorem fl0 : fieldAt? fsLf.toList 0 = some (fd 0) := by kernel_rfl
theorem fl1 : fieldAt? fsLf.toList 1 = some (fd 1) := by kernel_rfl
theorem fl2 : fieldAt? fsLf.toList 2 = some (fd 2) := by kernel_rfl
theorem fl3 : fieldAt? fsLf.toList 3 = some (fd 3) := by kernel_rfl
theorem fl4 : fieldAt? fsLf.toList 4 = some (fd 4) := by kernel_rfl
theorem fl5 : fieldAt? fsLf.toList 5 = some (fd 5) := by kernel_rfl
theorem ft0 : (fd 0).type = 3 := by kernel_rfl
theorem ft1 : (fd 1).type = 3 := by kernel_rfl
theorem ft2 : (fd 2).type = 3 := by kernel_rfl
theorem ft3 : (fd 3).type = 3 := by kernel_rfl
theorem ft4 : (fd 4).type = 3 := by kernel_rfl
theorem ft5 : (fd 5).type = 28 := by kernel_rfl
theorem fo0 : (fd 0).offset = 0 := by kernel_rfl
theorem fo1 : (fd 1).offset = 1 := by kernel_rfl
theorem fo2 : (fd 2).offset = 2 := by kernel_rfl
theorem fo3 : (fd 3).offset = 3 := by kernel_rfl
theorem fo4 : (fd 4).offset = 4 := by kernel_rfl
theorem fo5 : (fd 5).offset = 5 := by kernel_rfl
theorem ble11 : Nat.ble 1 1 = true := rfl
theorem ble1A : Nat.ble 1 116 = true := rfl
theorem ad0 (n : Nat) : addA ⟨n, 0, none⟩ 0 = ⟨n, 0, none⟩ := rfl
theorem ad1 (n : Nat) : addA ⟨n, 0, none⟩ 1 = ⟨n, 1, none⟩ := rfl
theorem ad2 (n : Nat) : addA ⟨n, 0, none⟩ 2 = ⟨n, 2, none⟩ := rfl
theorem ad3' (n : Nat) : addA ⟨n, 0, none⟩ 3 = ⟨n, 3, none⟩ := rfl
theorem ad4 (n : Nat) : addA ⟨n, 0, none⟩ 4 = ⟨n, 4, none⟩ := rfl
theorem ad5 (n : Nat) : addA ⟨n, 0, none⟩ 5 = ⟨n, 5, none⟩ := rfl

/-- the leaf d lies in the block n, whole -/
structure LfAt (s : S) (n : Nat) (d : LeafD) : Prop where
  lt : n < s.next
  cell : ∃ c e rm, s.heap.get n = some (.cells c 121 e rm) ∧ Row c 0 d.cells
  len : d.load.length = 116
theorem LfAt.rd {s s' : S} {n : Nat} {d : LeafD} (h : LfAt s n d) (hr : Rd s s') : LfAt s' n d := ⟨by rw [hr.next]; exact h.lt, by rw [hr.heap]; exact h.cell, h.len⟩
theorem LfAt.get {s : S} {n : Nat} {d : LeafD} (h : LfAt s n d) (k : Nat) (v : Value) (hk : d.cells[k]? = some v) : (loadT tiI ⟨n, k, none⟩ AE.val).run s = some (.value v, s.seen n) := by
  obtain ⟨c, e, rm, h1, h2⟩ := h.cell
  have hlt := (List.getElem?_eq_some_iff.1 hk).1
  rw [d.len h.len] at hlt
  exact cell_load tiI (by rw [dsI]; rfl) h.lt h1 (by omega) (by have := h2 k v hk; rwa [Nat.zero_add] at this)
theorem LfAt.bs {s : S} {n : Nat} {d : LeafD} (h : LfAt s n d) (k : Nat) (hk : k ≤ 116) : Bs s ⟨n, 5 + k, none⟩ (d.load.drop k) := by
  obtain ⟨c, e, rm, h1, h2⟩ := h.cell
  refine ⟨rfl, h.lt, c, 121, .inl ⟨e, rm, h1⟩, by simp [h.len]; omega, ?_⟩
  intro j v hj
  have h3 : d.cells[5 + k + j]? = some v := by
    unfold LeafD.cells
    rw [List.getElem?_append_right (by simp; omega)]
    rw [List.map_drop, List.getElem?_drop] at hj
    simpa [show 5 + k + j - 5 = k + j by omega] using hj
  have := h2 _ _ h3
  simpa using this
end Go.Proofs.YtgofanjbhbeniaaDoor.lf
end
end

section
/- Leaves: whether a leaf may be: the walk. -/
noncomputable section
namespace Go.Proofs.YtgofanjbhbeniaaDoor.lf
open AE
set_option linter.unusedSimpArgs false
set_option linter.unusedVariables false
set_option maxRecDepth 10000

abbrev sigR : List (Nat × (List Value → AM Value)) := [(39, withinA), (40, trimA)]
theorem tolds_R : Tolds Tryd.prog (sumsOf sigR) := tolds_cons told_within (tolds_cons told_trim tolds_nil)
theorem sgW : sumsOf sigR 39 = some withinA := rfl
theorem sgT : sumsOf sigR 40 = some trimA := rfl
theorem tgW : ∀ a b, targetA E (.func 39) a b = .pure (.enter 39 (b ++ a)) := tgt (fi := fiW) (c := cdW) (by kernel_rfl) (by kernel_rfl)
theorem tgT : ∀ a b, targetA E (.func 40) a b = .pure (.enter 40 (b ++ a)) := tgt (fi := fiT) (c := cdT) (by kernel_rfl) (by kernel_rfl)
theorem withinA_run (n lo hi : Int) (s : S) : (withinA [.int .i64 n, .int .i64 lo, .int .i64 hi]).run s = some (.bool (wi n lo hi), s) := rfl
theorem add0 (b i : Nat) : addA ⟨b, 0, none⟩ i = ⟨b, i, none⟩ := by
  cases i with
  | zero => rfl
  | succ k => show (⟨b, Nat.add 0 (Nat.succ k), none⟩ : Addr) = _; rw [show Nat.add 0 (Nat.succ k) = k + 1 from Nat.zero_add _]
theorem mul1 (i : Nat) : Nat.mul i 1 = i := Nat.mul_one i
theorem b_incr {n : Nat} (h : n < 9223372036854775807) : ∀ E t, binA E .add t (.int .i64 (.ofNat n)) (.int .i64 (.ofNat 1)) = some (.int .i64 (.ofNat (n + 1))) := fun E t => b_inc h

noncomputable def fiR : FI := FI.of Tryd.f24
noncomputable def cdR : Code := bodyOf Tryd.f24
noncomputable def cdRl : Code := sub [1,0,1,0,0] cdR
theorem resR : fiR.results = [.tmp 2] := rfl

def three (d : LeafD) : List Int := [d.file, d.place, d.next]
structure R3 (s : S) (n : Nat) (d : LeafD) : Prop where
  lf : LfAt s n d
  lt : n + 1 < s.next
  cell : ∃ c e rm, s.heap.get (n + 1) = some (.cells c 3 e rm) ∧ Row c 0 [.int .i64 d.file, .int .i64 d.place, .int .i64 d.next]
theorem R3.rd {s s' : S} {n : Nat} {d : LeafD} (h : R3 s n d) (hr : Rd s s') : R3 s' n d := ⟨h.lf.rd hr, by rw [hr.next]; exact h.lt, by rw [hr.heap]; exact h.cell⟩
theorem R3.get {s : S} {n : Nat} {d : LeafD} (h : R3 s n d) (k : Nat) (x : Int) (hk : (three d)[k]? = some x) : (loadT tiI ⟨n + 1, k, none⟩ AE.val).run s = some (.value (.int .i64 x), s.seen (n + 1)) := by
  obtain ⟨c, e, rm, h1, h2⟩ := h.cell
  have hlt : k < 3 := (List.getElem?_eq_some_iff.1 hk).1
  refine cell_load tiI (by rw [dsI]; rfl) h.lt h1 (by omega) ?_
  have h3 : [Value.int .i64 d.file, .int .i64 d.place, .int .i64 d.next][k]? = some (.int .i64 x) := by
    match k, hlt with
    | 0, _ => simpa [three] using hk
    | 1, _ => simpa [three] using hk
    | 2, _ => simpa [three] using hk
  have := h2 k _ h3
  rwa [Nat.zero_add] at this

def InvR (d : LeafD) (n : Nat) (s0 : S) (k : Nat) (fr : Fr) (s : S) : Prop :=
  ∃ (i : Nat) (t : Tr Value), k = 3 - i ∧ i ≤ 3 ∧ fr = ⟨24, t, 38, [], none⟩ ∧ Rd s0 s ∧ t.get 1 = some (.pointer (some ⟨n, 0, none⟩)) ∧ t.get 11 = some (.slice (some ⟨n + 1, 0, none⟩) 3 3) ∧
    t.get 12 = some (.int .i64 (.ofNat 3)) ∧ t.get 13 = some (.int .i64 (.ofNat i)) ∧ (∀ (j : Nat) (x : Int), j < i → (three d)[j]? = some x → wi x 0 65535 = true)
def PostR (d : LeafD) (n : Nat) (s0 : S) (x : Ex) (fr : Fr) (s : S) : Prop :=
  ∃ t : Tr Value, fr = ⟨24, t, 38, [], none⟩ ∧ Rd s0 s ∧ ((x = .exit 0 ∧ t.get 1 = some (.pointer (some ⟨n, 0, none⟩)) ∧ ∀ (j : Nat) (x : Int), (three d)[j]? = some x → wi x 0 65535 = true) ∨
    (x = .ret ∧ t.get 2 = some (.bool false) ∧ ∃ (j : Nat) (x : Int), (three d)[j]? = some x ∧ wi x 0 65535 = false))
theorem right_round (d : LeafD) (n : Nat) (s0 : S) (h3 : R3 s0 n d) (k : Nat) (fr : Fr) (s : S) (h : InvR d n s0 k fr s) : GoC E (sumsOf sigR) cdRl fr s (Again (InvR d n s0) k (PostR d n s0)) := by
  obtain ⟨i, t, hk, hi, rfl, hr, g1, g11, g12, g13, hall⟩ := h
  simp only [cdRl, cdR, Tryd.f24, bodyOf, sub]
  by_cases hlt : i < 3
  · obtain ⟨x, hx⟩ : ∃ x, (three d)[i]? = some x := ⟨_, List.getElem?_eq_getElem (by simpa [three] using hlt)⟩
    have hlt' : ltI (Int.ofNat i) (Int.ofNat 3) = true := by rw [ltI_eq]; simp; omega
    have hb : Nat.blt i 3 = true := blt_iff.2 hlt
    have hld := (h3.rd hr).get i x hx
    have hinc := b_incr (n := i) (by omega)
    repeat apply go_seq
    apply go_region
    case h => intro m; simp (maxSteps := 2000000) (disch := decide) only [opsLoop, evOper, wantedA, nth, aop, aPick, aBin, aIndexAddr, aFieldAddr, aLoad, aStore, aExtract, aConvert, aAlloc, aBox, aIndex, callA, builtinA, Fr.evs, opt, val, when, AM.run, outV, newA, ptr, force_eq, seen_heap, seen_next, seen_mark, seen_seen, agg_cells, int_cells, Fr.ev, Fr.put, onFr, gps, gpn, bltT, still, flat, List.append_nil, List.nil_append, List.cons_append, Nat.reduceEqDiff, ne_eq, not_false_eq_true, reduceCtorEq, Bool.and_true, Bool.true_and, Bool.and_false, Bool.false_and, Bool.not_true, Bool.not_false, Bool.and_self, g12, g13, b_lss, hlt']; rfl
    repeat apply go_seq
    apply go_cond
    case hc => simp (disch := decide) only [opsLoop, evOper, wantedA, nth, aop, aPick, aBin, aIndexAddr, aFieldAddr, aLoad, aStore, aExtract, aConvert, aAlloc, aBox, aIndex, callA, builtinA, Fr.evs, opt, val, when, AM.run, outV, newA, ptr, force_eq, seen_heap, seen_next, seen_mark, seen_seen, agg_cells, int_cells, Fr.ev, Fr.put, onFr, gps, gpn, bltT, still, flat, List.append_nil, List.nil_append, List.cons_append, Nat.reduceEqDiff, ne_eq, not_false_eq_true, reduceCtorEq, Bool.and_true, Bool.true_and, Bool.and_false, Bool.false_and, Bool.not_true, Bool.not_false, Bool.and_self]; rfl
    case h2 => intro h; cases h
    intro _
    apply go_skip
    apply go_seq
    apply go_block
    repeat apply go_seq
    apply go_region
    case h => intro m; simp (maxSteps := 2000000) (disch := decide) only [opsLoop, evOper, wantedA, nth, aop, aPick, aBin, aIndexAddr, aFieldAddr, aLoad, aStore, aExtract, aConvert, aAlloc, aBox, aIndex, callA, builtinA, Fr.evs, opt, val, when, AM.run, outV, newA, ptr, force_eq, seen_heap, seen_next, seen_mark, seen_seen, agg_cells, int_cells, Fr.ev, Fr.put, onFr, gps, gpn, bltT, still, flat, List.append_nil, List.nil_append, List.cons_append, Nat.reduceEqDiff, ne_eq, not_false_eq_true, reduceCtorEq, Bool.and_true, Bool.true_and, Bool.and_false, Bool.false_and, Bool.not_true, Bool.not_false, Bool.and_self, g11, g13, tyL, dsL, tyI, szI, hb, mul1, add0, hld]; rfl
    cases hw : wi x 0 65535
    · repeat apply go_seq
      apply go_region
      case h => intro m; simp (maxSteps := 2000000) (disch := decide) only [opsLoop, evOper, wantedA, nth, aop, aPick, aBin, aIndexAddr, aFieldAddr, aLoad, aStore, aExtract, aConvert, aAlloc, aBox, aIndex, callA, builtinA, Fr.evs, opt, val, when, AM.run, outV, newA, ptr, force_eq, seen_heap, seen_next, seen_mark, seen_seen, agg_cells, int_cells, Fr.ev, Fr.put, onFr, gps, gpn, bltT, still, flat, List.append_nil, List.nil_append, List.cons_append, Nat.reduceEqDiff, ne_eq, not_false_eq_true, reduceCtorEq, Bool.and_true, Bool.true_and, Bool.and_false, Bool.false_and, Bool.not_true, Bool.not_false, Bool.and_self, tgW, evT_told sgW, withinA_run, hw, u_not]; rfl
      repeat apply go_seq
      apply go_cond
      case hc => simp (disch := decide) only [opsLoop, evOper, wantedA, nth, aop, aPick, aBin, aIndexAddr, aFieldAddr, aLoad, aStore, aExtract, aConvert, aAlloc, aBox, aIndex, callA, builtinA, Fr.evs, opt, val, when, AM.run, outV, newA, ptr, force_eq, seen_heap, seen_next, seen_mark, seen_seen, agg_cells, int_cells, Fr.ev, Fr.put, onFr, gps, gpn, bltT, still, flat, List.append_nil, List.nil_append, List.cons_append, Nat.reduceEqDiff, ne_eq, not_false_eq_true, reduceCtorEq, Bool.and_true, Bool.true_and, Bool.and_false, Bool.false_and, Bool.not_true, Bool.not_false, Bool.and_self]; rfl
      case h2 => intro h; cases h
      intro _
      repeat apply go_seq
      apply go_region
      case h => intro m; simp (maxSteps := 2000000) (disch := decide) only [opsLoop, evOper, wantedA, nth, aop, aPick, aBin, aIndexAddr, aFieldAddr, aLoad, aStore, aExtract, aConvert, aAlloc, aBox, aIndex, callA, builtinA, Fr.evs, opt, val, when, AM.run, outV, newA, ptr, force_eq, seen_heap, seen_next, seen_mark, seen_seen, agg_cells, int_cells, Fr.ev, Fr.put, onFr, gps, gpn, bltT, still, flat, List.append_nil, List.nil_append, List.cons_append, Nat.reduceEqDiff, ne_eq, not_false_eq_true, reduceCtorEq, Bool.and_true, Bool.true_and, Bool.and_false, Bool.false_and, Bool.not_true, Bool.not_false, Bool.and_self]; rfl
      apply go_ret
      refine ⟨_, rfl, hr.trans (Rd.seen s (n + 1)), .inr ⟨rfl, ?_, i, x, hx, hw⟩⟩
      simp (disch := decide) only [gps, gpn]
    · repeat apply go_seq
      apply go_region
      case h => intro m; simp (maxSteps := 2000000) (disch := decide) only [opsLoop, evOper, wantedA, nth, aop, aPick, aBin, aIndexAddr, aFieldAddr, aLoad, aStore, aExtract, aConvert, aAlloc, aBox, aIndex, callA, builtinA, Fr.evs, opt, val, when, AM.run, outV, newA, ptr, force_eq, seen_heap, seen_next, seen_mark, seen_seen, agg_cells, int_cells, Fr.ev, Fr.put, onFr, gps, gpn, bltT, still, flat, List.append_nil, List.nil_append, List.cons_append, Nat.reduceEqDiff, ne_eq, not_false_eq_true, reduceCtorEq, Bool.and_true, Bool.true_and, Bool.and_false, Bool.false_and, Bool.not_true, Bool.not_false, Bool.and_self, tgW, evT_told sgW, withinA_run, hw, u_not]; rfl
      repeat apply go_seq
      apply go_cond
      case hc => simp (disch := decide) only [opsLoop, evOper, wantedA, nth, aop, aPick, aBin, aIndexAddr, aFieldAddr, aLoad, aStore, aExtract, aConvert, aAlloc, aBox, aIndex, callA, builtinA, Fr.evs, opt, val, when, AM.run, outV, newA, ptr, force_eq, seen_heap, seen_next, seen_mark, seen_seen, agg_cells, int_cells, Fr.ev, Fr.put, onFr, gps, gpn, bltT, still, flat, List.append_nil, List.nil_append, List.cons_append, Nat.reduceEqDiff, ne_eq, not_false_eq_true, reduceCtorEq, Bool.and_true, Bool.true_and, Bool.and_false, Bool.false_and, Bool.not_true, Bool.not_false, Bool.and_self]; rfl
      case h1 => intro h; cases h
      intro _
      apply go_skip
      repeat apply go_seq
      apply go_region
      case h => intro m; simp (maxSteps := 2000000) (disch := decide) only [opsLoop, evOper, wantedA, nth, aop, aPick, aBin, aIndexAddr, aFieldAddr, aLoad, aStore, aExtract, aConvert, aAlloc, aBox, aIndex, callA, builtinA, Fr.evs, opt, val, when, AM.run, outV, newA, ptr, force_eq, seen_heap, seen_next, seen_mark, seen_seen, agg_cells, int_cells, Fr.ev, Fr.put, onFr, gps, gpn, bltT, still, flat, List.append_nil, List.nil_append, List.cons_append, Nat.reduceEqDiff, ne_eq, not_false_eq_true, reduceCtorEq, Bool.and_true, Bool.true_and, Bool.and_false, Bool.false_and, Bool.not_true, Bool.not_false, Bool.and_self, g13, int1, hinc]; rfl
      refine ⟨3 - (i + 1), by omega, i + 1, _, rfl, by omega, rfl, hr.trans (Rd.seen s (n + 1)), ?_, ?_, ?_, ?_, ?_⟩
      · simp (disch := decide) only [gps, gpn, g1]
      · simp (disch := decide) only [gps, gpn, g11]
      · simp (disch := decide) only [gps, gpn, g12]
      · simp (disch := decide) only [gps, gpn, g13]
      · intro j y hj hy
        by_cases e : j = i
        · subst e; rw [hx] at hy; cases hy; exact hw
        · exact hall j y (by omega) hy
  · obtain rfl : i = 3 := by omega
    have hlt' : ltI (Int.ofNat 3) (Int.ofNat 3) = false := rfl
    repeat apply go_seq
    apply go_region
    case h => intro m; simp (maxSteps := 2000000) (disch := decide) only [opsLoop, evOper, wantedA, nth, aop, aPick, aBin, aIndexAddr, aFieldAddr, aLoad, aStore, aExtract, aConvert, aAlloc, aBox, aIndex, callA, builtinA, Fr.evs, opt, val, when, AM.run, outV, newA, ptr, force_eq, seen_heap, seen_next, seen_mark, seen_seen, agg_cells, int_cells, Fr.ev, Fr.put, onFr, gps, gpn, bltT, still, flat, List.append_nil, List.nil_append, List.cons_append, Nat.reduceEqDiff, ne_eq, not_false_eq_true, reduceCtorEq, Bool.and_true, Bool.true_and, Bool.and_false, Bool.false_and, Bool.not_true, Bool.not_false, Bool.and_self, g12, g13, b_lss, hlt']; rfl
    repeat apply go_seq
    apply go_cond
    case hc => simp (disch := decide) only [opsLoop, evOper, wantedA, nth, aop, aPick, aBin, aIndexAddr, aFieldAddr, aLoad, aStore, aExtract, aConvert, aAlloc, aBox, aIndex, callA, builtinA, Fr.evs, opt, val, when, AM.run, outV, newA, ptr, force_eq, seen_heap, seen_next, seen_mark, seen_seen, agg_cells, int_cells, Fr.ev, Fr.put, onFr, gps, gpn, bltT, still, flat, List.append_nil, List.nil_append, List.cons_append, Nat.reduceEqDiff, ne_eq, not_false_eq_true, reduceCtorEq, Bool.and_true, Bool.true_and, Bool.and_false, Bool.false_and, Bool.not_true, Bool.not_false, Bool.and_self]; rfl
    case h1 => intro h; cases h
    intro _
    apply go_exit
    refine ⟨_, rfl, hr, .inl ⟨rfl, ?_, fun j x hx => hall j x (by have := (List.getElem?_eq_some_iff.1 hx).1; simpa [three] using this) hx⟩⟩
    simp (disch := decide) only [gps, gpn, g1]

/-! names that are taken and let go -/
theorem bump_run {α : Type} : ∀ (n : Nat) (k : AM α) (s : S) (r : α × S), (bump n k).run s = some r → ∃ s1, k.run s1 = some r ∧ s1.next = s.next + n ∧ s1.mark = s.mark ∧ (∀ m, s1.heap.get m = if s.next ≤ m ∧ m < s.next + n then none else s.heap.get m) ∧ (∀ i, i < n → Nat.ble (s.next + i) lastName = true)
  | 0, k, s, r, h => ⟨s, h, rfl, rfl, fun m => by rw [if_neg (by omega)], fun i hi => by omega⟩
  | n + 1, k, s, r, h => by
    obtain ⟨h1, h2⟩ := run_new h
    have hb : Nat.ble s.next lastName = true := by
      simp only [bump, AM.run, force_eq] at h
      cases hh : Nat.ble s.next lastName with
      | true => rfl
      | false => rw [hh] at h; cases h
    obtain ⟨_, _, h3⟩ := run_del h2
    obtain ⟨s1, e1, e2, e3, e4, e5⟩ := bump_run n k _ r h3
    refine ⟨s1, e1, by rw [e2]; show s.next + 1 + n = _; omega, by rw [e3]; rfl, ?_, ?_⟩
    · intro m
      rw [e4 m]
      show (if s.next + 1 ≤ m ∧ m < s.next + 1 + n then none else ((s.heap.put s.next (some (.deferred none))).put s.next none).get m) = _
      rw [Tr.get_put _ _ _ _ h1, Tr.get_put _ _ _ _ h1]
      by_cases hm : m = s.next
      · rw [if_neg (by omega), if_pos hm, if_pos (by omega)]
      · rw [if_neg hm, if_neg hm]
        by_cases h5 : s.next + 1 ≤ m ∧ m < s.next + 1 + n
        · rw [if_pos h5, if_pos (by omega)]
        · rw [if_neg h5, if_neg (by omega)]
    · intro i hi
      cases i with
      | zero => exact hb
      | succ i =>
        have h6 := e5 i (by omega)
        have h7 : (S.turn (s.grow (.deferred none)) s.next none).next + i = s.next + (i + 1) := by show s.next + 1 + i = _; omega
        rw [h7] at h6
        exact h6
theorem hg_same {α : Type} {n : Nat} (h : Nat.ble n lastName = true) (t : Tr α) (x : Option α) : (t.put n x).get n = x := by
  have := ble_iff.1 h
  rw [Tr.get_put _ _ _ _ (by unfold lastName at this; unfold Tr.wide; omega), if_pos rfl]
theorem hg_far {α : Type} {n m : Nat} (h : Nat.ble n lastName = true) (hne : m ≠ n) (t : Tr α) (x : Option α) : (t.put n x).get m = t.get m := by
  have := ble_iff.1 h
  rw [Tr.get_put _ _ _ _ (by unfold lastName at this; unfold Tr.wide; omega), if_neg hne]

/-! all noughts, or not -/
theorem lead_all (l : List UInt8) : lead l = l.length ↔ ∀ (j : Nat) (x : UInt8), l[j]? = some x → x = 0 := by
  induction l with
  | nil => simp [lead]
  | cons y l ih =>
    unfold lead
    constructor
    · intro h
      by_cases hy : y = 0
      · rw [if_pos hy] at h
        have h2 := ih.1 (by simpa using h)
        intro j x hx
        cases j with
        | zero => simp at hx; subst hx; exact hy
        | succ j => exact h2 j x (by simpa using hx)
      · rw [if_neg hy] at h; simp at h
    · intro h
      have hy : y = 0 := h 0 y rfl
      rw [if_pos hy, ih.2 (fun j x hx => h (j + 1) x (by simpa using hx))]
      simp
theorem rl_pos (l : List UInt8) (h : rl l = 0) : ∀ (j : Nat) (x : UInt8), l[j]? = some x → x = 0 := by
  induction l with
  | nil => intro j x hx; simp at hx
  | cons y l ih =>
    unfold rl at h
    split at h
    · rename_i hc
      intro j x hx
      cases j with
      | zero => simp at hx; subst hx; exact hc.2
      | succ j => exact ih hc.1 j x (by simpa using hx)
    · omega
theorem rl_last : ∀ (l : List UInt8) (n : Nat), rl l = n + 1 → ∃ x, l[n]? = some x ∧ x ≠ 0
  | [], n, h => by simp [rl] at h
  | y :: l, n, h => by
    unfold rl at h
    split at h
    · omega
    · rename_i hc
      cases hr : rl l with
      | zero =>
        have : n = 0 := by omega
        subst this
        exact ⟨y, rfl, fun e => hc ⟨hr, e⟩⟩
      | succ k =>
        have : n = k + 1 := by omega
        subst this
        obtain ⟨x, h1, h2⟩ := rl_last l k hr
        exact ⟨x, by simpa using h1, h2⟩
theorem trim_len (ad : Addr) (cap : Nat) (l : List UInt8) : ∃ a n c, trimV ad cap l = .slice a n c ∧ eqI (Int.ofNat n) (Int.ofNat 0) = noughts l := by
  unfold trimV trimLV
  by_cases hn : lead l = l.length
  · have hz := (lead_all l).1 hn
    have h0 : rl l = 0 := rl_zero l hz
    rw [h0, List.take_zero]
    refine ⟨none, 0, 0, rfl, ?_⟩
    unfold noughts
    rw [beq_iff.2 hn]
    rfl
  · have hk : noughts l = false := by
      unfold noughts
      cases hb : Nat.beq (lead l) l.length with
      | false => rfl
      | true => exact absurd (beq_iff.1 hb) hn
    cases hr : rl l with
    | zero => exact absurd ((lead_all l).2 (rl_pos l hr)) hn
    | succ k =>
      obtain ⟨x, hx, hx0⟩ := rl_last l k hr
      have hne : lead (l.take (k + 1)) ≠ (l.take (k + 1)).length := by
        intro e
        refine hx0 ((lead_all _).1 e k x ?_)
        rw [List.getElem?_take, if_pos (by omega)]
        exact hx
      have hle := lead_le (l.take (k + 1))
      rw [if_neg hne]
      exact ⟨_, _, _, rfl, by rw [hk]; exact eqI_f (by omega)⟩

theorem rightL_three {d : LeafD} {j : Nat} {x : Int} (h : (three d)[j]? = some x) (hw : wi x 0 65535 = false) : rightL d = false := by
  have hlt : j < 3 := (List.getElem?_eq_some_iff.1 h).1
  unfold rightL
  match j, hlt with
  | 0, _ => simp [three] at h; subst h; rw [hw]; rfl
  | 1, _ => simp [three] at h; subst h; rw [hw]; simp
  | 2, _ => simp [three] at h; subst h; rw [hw]; simp
end Go.Proofs.YtgofanjbhbeniaaDoor.lf
end
end

section
/- Leaves: whether a leaf may be: told. -/
noncomputable section
namespace Go.Proofs.YtgofanjbhbeniaaDoor.lf
open AE
set_option linter.unusedSimpArgs false
set_option linter.unusedVariables false
set_option maxRecDepth 10000

theorem fill3 (x y z : Int) : fillA (placeA 1) [(0, Value.int .i64 x), (1, .int .i64 y), (2, .int .i64 z)] (repeatL [Value.int .i64 (Int.ofNat 0)] 3) = some [.int .i64 x, .int .i64 y, .int .i64 z] := rfl
theorem trim_call {s : S} {n : Nat} {d : LeafD} (h : LfAt s n d) (k : Nat) (hk : k ≤ 116) : ∃ a m c s', (trimA [.slice (some (addIf ⟨n, 5, none⟩ 116 k 1)) (Nat.sub 116 k) (Nat.sub 116 k), .string ⟨#[0]⟩]).run s = some (.slice a m c, s') ∧ Rd s s' ∧ eqI (Int.ofNat m) (Int.ofNat 0) = noughts (d.load.drop k) := by
  by_cases he : k = 116
  · subst he
    refine ⟨none, 0, 0, s, rfl, Rd.refl s, ?_⟩
    rw [List.drop_eq_nil_of_le (by rw [h.len]; omega)]
    rfl
  · obtain ⟨j, hj⟩ : ∃ j, Nat.sub 116 k = j + 1 := ⟨115 - k, by show 116 - k = _; omega⟩
    have hb := h.bs k hk
    have hlen : (d.load.drop k).length = j + 1 := by rw [List.length_drop, h.len]; exact hj
    have ha : addIf ⟨n, 5, none⟩ 116 k 1 = ⟨n, 5 + k, none⟩ := by
      unfold addIf
      have : Nat.beq 116 k = false := by
        cases hh : Nat.beq 116 k with
        | false => rfl
        | true => have := beq_iff.1 hh; omega
      rw [this, mul1]
      exact sum.addA_eq ⟨n, 5, none⟩ k rfl
    obtain ⟨a, m, c, e1, e2⟩ := trim_len ⟨n, 5 + k, none⟩ (j + 1) (d.load.drop k)
    refine ⟨a, m, c, s.seen n, ?_, Rd.seen s n, e2⟩
    rw [ha, hj, ← e1]
    show (when (Nat.beq (UInt8.toNat 0) 0) (when (Nat.ble (j + 1) (j + 1) && Nat.blt (j + 1) OPEN) (loadA ⟨n, 5 + k, none⟩ (j + 1) fun cs => opt (bytesV cs) fun l => .pure (trimV ⟨n, 5 + k, none⟩ (j + 1) l)))).run s = _
    have h116 : j + 1 ≤ 116 := by rw [← hj]; exact Nat.sub_le _ _
    have h2 : Nat.blt (j + 1) OPEN = true := blt_iff.2 (by unfold OPEN; omega)
    rw [← hlen]
    rw [← hlen] at h2
    simp only [when, show Nat.beq (UInt8.toNat 0) 0 = true from rfl, ble_iff.2 (Nat.le_refl _), h2, Bool.and_self, Bs.load hb, AM.run]

theorem less_new {s s1 s2 : S} {n : Nat} (h1 : s1.next ≤ s2.next) (h2 : s2.next = s.next + n) (hh : ∀ m, s2.heap.get m = if s.next ≤ m ∧ m < s.next + n then none else s.heap.get m) (hf : ∀ m, ¬ (s.next ≤ m ∧ m < s.next + n) → s1.heap.get m = s.heap.get m) : Less' s1 s2 := by
  refine ⟨h1, fun m o e => ?_⟩
  rw [hh] at e
  split at e
  · cases e
  · rename_i hm
    exact ⟨o, (hf m hm).trans e, .refl o⟩

set_option maxHeartbeats 400000 in
theorem told_right : AE.Told Tryd.prog 24 rightA := by
  refine told_go hE hmix tolds_R ?_
  intro args s v s' h hm
  unfold rightA at h
  split at h
  · rename_i cs
    obtain ⟨d, hd, h2⟩ := run_opt h
    obtain ⟨rfl, hlen⟩ := leafOf_inv hd
    obtain ⟨s9, h3, hn9, hm9, hh9, hbl⟩ := bump_run 2 _ _ _ h2
    cases h3
    clear h h2 hd
    have hN0 : Nat.ble s.next lastName = true := hbl 0 (by omega)
    have hN1 : Nat.ble (s.next + 1) lastName = true := hbl 1 (by omega)
    refine go_enter (fi := fiR) (c := cdR) (by kernel_rfl) (by kernel_rfl) 38 rfl rfl ?_
    have h0 : (Tr.ofList [Value.agg ⟨d.cells⟩]).get 0 = some (.agg ⟨d.cells⟩) := rfl
    generalize Tr.ofList [Value.agg ⟨d.cells⟩] = t at *
    have hcode : cdR = .seq (sub [0] cdR) (.seq (.seq (sub [1,0,0] cdR) (.block 0 (.loop cdRl))) (sub [1,1] cdR)) := rfl
    rw [hcode]
    have hcl : d.cells.length = 121 := d.len hlen
    have hcb : Nat.ble d.cells.length lastName = true := by rw [hcl]; rfl
    apply go_seq
    simp only [cdR, Tryd.f24, bodyOf, sub]
    repeat apply go_seq
    apply go_region
    case h => intro m; simp (maxSteps := 2000000) (disch := decide) only [opsLoop, evOper, wantedA, nth, aop, aPick, aBin, aIndexAddr, aFieldAddr, aLoad, aStore, aExtract, aConvert, aAlloc, aBox, aIndex, callA, builtinA, Fr.evs, opt, val, when, AM.run, outV, newA, ptr, force_eq, seen_heap, seen_next, seen_mark, seen_seen, agg_cells, int_cells, Fr.ev, Fr.put, onFr, gps, gpn, bltT, still, flat, List.append_nil, List.nil_append, List.cons_append, Nat.reduceEqDiff, ne_eq, not_false_eq_true, reduceCtorEq, Bool.and_true, Bool.true_and, Bool.and_false, Bool.false_and, Bool.not_true, Bool.not_false, Bool.and_self, h0, hcb, hN0]; rfl
    generalize hs1 : (S.mk (s.heap.put s.next (some (.cells (Tr.ofList d.cells) d.cells.length 30 .whole))) (Nat.succ s.next) s.mark s.rd s.wr) = s1
    have e1 : s1.next = s.next + 1 := by rw [← hs1]
    have e1h : s1.heap = s.heap.put s.next (some (.cells (Tr.ofList d.cells) d.cells.length 30 .whole)) := by rw [← hs1]
    have L1 : LfAt s1 s.next d := by
      refine ⟨by omega, ⟨_, _, _, by rw [e1h, hg_same hN0, hcl], row_ofList _ (by rw [hcl]; unfold Tr.wide; omega)⟩, hlen⟩
    clear hs1
    have l1 := L1.get 1 (.int .i64 d.file) rfl
    have l2 := (L1.rd (Rd.seen s1 s.next)).get 2 (.int .i64 d.place) rfl
    have l3 := (L1.rd (Rd.seen s1 s.next)).get 3 (.int .i64 d.next) rfl
    rw [seen_seen] at l2 l3
    have hN1' : Nat.ble s1.next lastName = true := by rw [e1]; exact hN1
    apply go_seq
    apply go_seq
    repeat apply go_seq
    apply go_region
    case h => intro m; simp (maxSteps := 2000000) (disch := decide) only [opsLoop, evOper, wantedA, nth, aop, aPick, aBin, aIndexAddr, aFieldAddr, aLoad, aStore, aExtract, aConvert, aAlloc, aBox, aIndex, callA, builtinA, Fr.evs, opt, val, when, AM.run, outV, newA, ptr, force_eq, seen_heap, seen_next, seen_mark, seen_seen, agg_cells, int_cells, Fr.ev, Fr.put, onFr, gps, gpn, bltT, still, flat, List.append_nil, List.nil_append, List.cons_append, Nat.reduceEqDiff, ne_eq, not_false_eq_true, reduceCtorEq, Bool.and_true, Bool.true_and, Bool.and_false, Bool.false_and, Bool.not_true, Bool.not_false, Bool.and_self, tyLf, dsLf, fl1, fl2, fl3, ft1, ft2, ft3, fo1, fo2, fo3, tyI, szI, zeI, dsL, tyL, ble11, ad1, ad2, ad3', l1, l2, l3, aBuildSlice, evParts, int0, fill3, hN1', show Nat.ble (Nat.mul 3 1) 1048576 = true from rfl, show Nat.beq ([Value.int .i64 (Int.ofNat 0)] : List Value).length 1 = true from rfl, show Nat.ble ([Value.int .i64 d.file, .int .i64 d.place, .int .i64 d.next] : List Value).length lastName = true from rfl]; rfl
    generalize hs2 : S.mk _ _ _ _ _ = s2
    have e2 : s2.next = s.next + 2 := by rw [← hs2]; show s1.next + 1 = _; omega
    have e2h : s2.heap = s1.heap.put s1.next (some (.cells (Tr.ofList [Value.int .i64 d.file, .int .i64 d.place, .int .i64 d.next]) (List.length [Value.int .i64 d.file, .int .i64 d.place, .int .i64 d.next]) 3 .whole)) := by rw [← hs2]
    have hl3 : List.length [Value.int .i64 d.file, .int .i64 d.place, .int .i64 d.next] = 3 := rfl
    rw [hl3] at e2h
    have h3w : ([Value.int .i64 d.file, .int .i64 d.place, .int .i64 d.next] : List Value).length ≤ Tr.wide := by show 3 ≤ Tr.wide; unfold Tr.wide; omega
    have c2 : s2.heap.get (s.next + 1) = some (.cells (Tr.ofList [.int .i64 d.file, .int .i64 d.place, .int .i64 d.next]) 3 3 .whole) := by rw [e2h, e1]; exact hg_same hN1 _ _
    have hlt2 : s.next < s2.next := by omega
    have hlt3 : s.next + 1 < s2.next := by omega
    have hrow := row_ofList [Value.int .i64 d.file, .int .i64 d.place, .int .i64 d.next] h3w
    have hc0 : ∃ c e rm, s2.heap.get s.next = some (.cells c 121 e rm) ∧ Row c 0 d.cells := by
      obtain ⟨c, e, rm, g1, g2⟩ := L1.cell
      exact ⟨c, e, rm, by rw [e2h, e1, hg_far hN1 (by omega)]; exact g1, g2⟩
    have R2 : R3 s2 s.next d := ⟨⟨hlt2, hc0, hlen⟩, hlt3, ⟨_, _, _, c2, hrow⟩⟩
    have hless : ∀ s5, Rd s2 s5 → Less' s5 s' := by
      intro s5 hr
      refine less_new (s := s) (n := 2) (by rw [hr.next, e2, hn9]; exact Nat.le_refl _) hn9 hh9 ?_
      intro m hmm
      rw [hr.heap, e2h, e1, hg_far hN1 (by omega), e1h, hg_far hN0 (by omega)]
    clear hs2
    apply go_block
    refine (go_loop_inv (InvR d s.next s2) (fun k fr s1 hI => right_round d s.next s2 R2 k fr s1 hI) (3 - 0) _ _ ⟨0, _, rfl, by omega, rfl, Rd.refl s2, ?_, ?_, ?_, ?_, fun j x hj => by omega⟩).mono ?_
    · simp (disch := decide) only [gps, gpn, h0]
    · rw [← e1]; simp (disch := decide) only [gps, gpn]
    · simp (disch := decide) only [gps, gpn]
    · simp (disch := decide) only [gps, gpn, int0]
    rintro x fr s3 ⟨t3, rfl, hr, ⟨rfl, g1, hall⟩ | ⟨rfl, g2, j, y, hy, hw⟩⟩
    · simp only [Out_, if_true]
      show GoC E _ _ _ _ _
      have w0 := hall 0 d.file rfl
      have w1 := hall 1 d.place rfl
      have w2 := hall 2 d.next rfl
      have L3 := R2.lf.rd hr
      have l0 := L3.get 0 (.int .i64 d.kind) rfl
      have l4 := (L3.rd (Rd.seen s3 s.next)).get 4 (.int .i64 d.size) rfl
      rw [seen_seen] at l4
      have hrs := hr.trans (Rd.seen s3 s.next)
      cases hk : wi d.kind 1 2
      · repeat apply go_seq
        apply go_region
        case h => intro m; simp (maxSteps := 2000000) (disch := decide) only [opsLoop, evOper, wantedA, nth, aop, aPick, aBin, aIndexAddr, aFieldAddr, aLoad, aStore, aExtract, aConvert, aAlloc, aBox, aIndex, callA, builtinA, Fr.evs, opt, val, when, AM.run, outV, newA, ptr, force_eq, seen_heap, seen_next, seen_mark, seen_seen, agg_cells, int_cells, Fr.ev, Fr.put, onFr, gps, gpn, bltT, still, flat, List.append_nil, List.nil_append, List.cons_append, Nat.reduceEqDiff, ne_eq, not_false_eq_true, reduceCtorEq, Bool.and_true, Bool.true_and, Bool.and_false, Bool.false_and, Bool.not_true, Bool.not_false, Bool.and_self, g1, tyLf, dsLf, fl0, fl4, ft0, ft4, fo0, fo4, tyI, szI, ble11, ad0, ad4, l0, l4, tgW, evT_told sgW, withinA_run, hk, u_not]; rfl
        repeat apply go_seq
        apply go_cond
        case hc => simp (disch := decide) only [opsLoop, evOper, wantedA, nth, aop, aPick, aBin, aIndexAddr, aFieldAddr, aLoad, aStore, aExtract, aConvert, aAlloc, aBox, aIndex, callA, builtinA, Fr.evs, opt, val, when, AM.run, outV, newA, ptr, force_eq, seen_heap, seen_next, seen_mark, seen_seen, agg_cells, int_cells, Fr.ev, Fr.put, onFr, gps, gpn, bltT, still, flat, List.append_nil, List.nil_append, List.cons_append, Nat.reduceEqDiff, ne_eq, not_false_eq_true, reduceCtorEq, Bool.and_true, Bool.true_and, Bool.and_false, Bool.false_and, Bool.not_true, Bool.not_false, Bool.and_self]; rfl
        case h2 => intro h; cases h
        intro _
        repeat apply go_seq
        apply go_region
        case h => intro m; simp (maxSteps := 2000000) (disch := decide) only [opsLoop, evOper, wantedA, nth, aop, aPick, aBin, aIndexAddr, aFieldAddr, aLoad, aStore, aExtract, aConvert, aAlloc, aBox, aIndex, callA, builtinA, Fr.evs, opt, val, when, AM.run, outV, newA, ptr, force_eq, seen_heap, seen_next, seen_mark, seen_seen, agg_cells, int_cells, Fr.ev, Fr.put, onFr, gps, gpn, bltT, still, flat, List.append_nil, List.nil_append, List.cons_append, Nat.reduceEqDiff, ne_eq, not_false_eq_true, reduceCtorEq, Bool.and_true, Bool.true_and, Bool.and_false, Bool.false_and, Bool.not_true, Bool.not_false, Bool.and_self]; rfl
        repeat apply go_seq
        apply go_ret
        apply ret_intro rfl rfl
        case run => simp (disch := decide) only [resultsM, resultsA, resR, opsLoop, evOper, wantedA, nth, aop, aPick, aBin, aIndexAddr, aFieldAddr, aLoad, aStore, aExtract, aConvert, aAlloc, aBox, aIndex, callA, builtinA, Fr.evs, opt, val, when, AM.run, outV, newA, ptr, force_eq, seen_heap, seen_next, seen_mark, seen_seen, agg_cells, int_cells, Fr.ev, Fr.put, onFr, gps, gpn, bltT, still, flat, List.append_nil, List.nil_append, List.cons_append, Nat.reduceEqDiff, ne_eq, not_false_eq_true, reduceCtorEq, Bool.and_true, Bool.true_and, Bool.and_false, Bool.false_and, Bool.not_true, Bool.not_false, Bool.and_self]; rfl
        exact ⟨by unfold rightL; rw [hk]; simp, hless _ hrs⟩
      · cases hz : wi d.size 0 116
        · repeat apply go_seq
          apply go_region
          case h => intro m; simp (maxSteps := 2000000) (disch := decide) only [opsLoop, evOper, wantedA, nth, aop, aPick, aBin, aIndexAddr, aFieldAddr, aLoad, aStore, aExtract, aConvert, aAlloc, aBox, aIndex, callA, builtinA, Fr.evs, opt, val, when, AM.run, outV, newA, ptr, force_eq, seen_heap, seen_next, seen_mark, seen_seen, agg_cells, int_cells, Fr.ev, Fr.put, onFr, gps, gpn, bltT, still, flat, List.append_nil, List.nil_append, List.cons_append, Nat.reduceEqDiff, ne_eq, not_false_eq_true, reduceCtorEq, Bool.and_true, Bool.true_and, Bool.and_false, Bool.false_and, Bool.not_true, Bool.not_false, Bool.and_self, g1, tyLf, dsLf, fl0, fl4, ft0, ft4, fo0, fo4, tyI, szI, ble11, ad0, ad4, l0, l4, tgW, evT_told sgW, withinA_run, hk, hz, u_not]; rfl
          repeat apply go_seq
          apply go_cond
          case hc => simp (disch := decide) only [opsLoop, evOper, wantedA, nth, aop, aPick, aBin, aIndexAddr, aFieldAddr, aLoad, aStore, aExtract, aConvert, aAlloc, aBox, aIndex, callA, builtinA, Fr.evs, opt, val, when, AM.run, outV, newA, ptr, force_eq, seen_heap, seen_next, seen_mark, seen_seen, agg_cells, int_cells, Fr.ev, Fr.put, onFr, gps, gpn, bltT, still, flat, List.append_nil, List.nil_append, List.cons_append, Nat.reduceEqDiff, ne_eq, not_false_eq_true, reduceCtorEq, Bool.and_true, Bool.true_and, Bool.and_false, Bool.false_and, Bool.not_true, Bool.not_false, Bool.and_self]; rfl
          case h2 => intro h; cases h
          intro _
          repeat apply go_seq
          apply go_region
          case h => intro m; simp (maxSteps := 2000000) (disch := decide) only [opsLoop, evOper, wantedA, nth, aop, aPick, aBin, aIndexAddr, aFieldAddr, aLoad, aStore, aExtract, aConvert, aAlloc, aBox, aIndex, callA, builtinA, Fr.evs, opt, val, when, AM.run, outV, newA, ptr, force_eq, seen_heap, seen_next, seen_mark, seen_seen, agg_cells, int_cells, Fr.ev, Fr.put, onFr, gps, gpn, bltT, still, flat, List.append_nil, List.nil_append, List.cons_append, Nat.reduceEqDiff, ne_eq, not_false_eq_true, reduceCtorEq, Bool.and_true, Bool.true_and, Bool.and_false, Bool.false_and, Bool.not_true, Bool.not_false, Bool.and_self]; rfl
          repeat apply go_seq
          apply go_ret
          apply ret_intro rfl rfl
          case run => simp (disch := decide) only [resultsM, resultsA, resR, opsLoop, evOper, wantedA, nth, aop, aPick, aBin, aIndexAddr, aFieldAddr, aLoad, aStore, aExtract, aConvert, aAlloc, aBox, aIndex, callA, builtinA, Fr.evs, opt, val, when, AM.run, outV, newA, ptr, force_eq, seen_heap, seen_next, seen_mark, seen_seen, agg_cells, int_cells, Fr.ev, Fr.put, onFr, gps, gpn, bltT, still, flat, List.append_nil, List.nil_append, List.cons_append, Nat.reduceEqDiff, ne_eq, not_false_eq_true, reduceCtorEq, Bool.and_true, Bool.true_and, Bool.and_false, Bool.false_and, Bool.not_true, Bool.not_false, Bool.and_self]; rfl
          exact ⟨by unfold rightL; rw [hz]; simp, hless _ hrs⟩
        · obtain ⟨z, hz2⟩ := Int.eq_ofNat_of_zero_le (wi_iff.1 hz).1
          have hz3 : z ≤ 116 := by have := (wi_iff.1 hz).2; omega
          have hz4 : d.size = Int.ofNat z := hz2
          obtain ⟨a, m, c, s4, q1, q2, q3⟩ := trim_call (L3.rd (Rd.seen s3 s.next)) z hz3
          rw [hz4] at l4
          have hsz : Nat.ble z 116 = true := ble_iff.2 hz3
          repeat apply go_seq
          apply go_region
          case h => intro m; simp (maxSteps := 2000000) (disch := decide) only [opsLoop, evOper, wantedA, nth, aop, aPick, aBin, aIndexAddr, aFieldAddr, aLoad, aStore, aExtract, aConvert, aAlloc, aBox, aIndex, callA, builtinA, Fr.evs, opt, val, when, AM.run, outV, newA, ptr, force_eq, seen_heap, seen_next, seen_mark, seen_seen, agg_cells, int_cells, Fr.ev, Fr.put, onFr, gps, gpn, bltT, still, flat, List.append_nil, List.nil_append, List.cons_append, Nat.reduceEqDiff, ne_eq, not_false_eq_true, reduceCtorEq, Bool.and_true, Bool.true_and, Bool.and_false, Bool.false_and, Bool.not_true, Bool.not_false, Bool.and_self, g1, tyLf, dsLf, fl0, fl4, ft0, ft4, fo0, fo4, tyI, szI, ble11, ad0, ad4, l0, l4, tgW, evT_told sgW, withinA_run, hk, hz4 ▸ hz, u_not]; rfl
          repeat apply go_seq
          apply go_cond
          case hc => simp (disch := decide) only [opsLoop, evOper, wantedA, nth, aop, aPick, aBin, aIndexAddr, aFieldAddr, aLoad, aStore, aExtract, aConvert, aAlloc, aBox, aIndex, callA, builtinA, Fr.evs, opt, val, when, AM.run, outV, newA, ptr, force_eq, seen_heap, seen_next, seen_mark, seen_seen, agg_cells, int_cells, Fr.ev, Fr.put, onFr, gps, gpn, bltT, still, flat, List.append_nil, List.nil_append, List.cons_append, Nat.reduceEqDiff, ne_eq, not_false_eq_true, reduceCtorEq, Bool.and_true, Bool.true_and, Bool.and_false, Bool.false_and, Bool.not_true, Bool.not_false, Bool.and_self]; rfl
          case h1 => intro h; cases h
          intro _
          apply go_skip
          have f5 : Nat.ble z 116 = true := ble_iff.2 hz3
          have f6 : Nat.ble 116 116 = true := rfl
          have f7 : Nat.blt 116 OPEN = true := rfl
          have hv : rightL d = noughts (d.load.drop z) := by
            unfold rightL
            rw [w0, w1, w2, hk, hz, hz4]
            simp
          repeat apply go_seq
          apply go_region
          case h => intro m; simp (maxSteps := 2000000) (disch := decide) only [opsLoop, evOper, wantedA, nth, aop, aPick, aBin, aIndexAddr, aFieldAddr, aLoad, aStore, aExtract, aConvert, aAlloc, aBox, aIndex, callA, builtinA, Fr.evs, opt, val, when, AM.run, outV, newA, ptr, force_eq, seen_heap, seen_next, seen_mark, seen_seen, agg_cells, int_cells, Fr.ev, Fr.put, onFr, gps, gpn, bltT, still, flat, List.append_nil, List.nil_append, List.cons_append, Nat.reduceEqDiff, ne_eq, not_false_eq_true, reduceCtorEq, Bool.and_true, Bool.true_and, Bool.and_false, Bool.false_and, Bool.not_true, Bool.not_false, Bool.and_self, g1, tyLf, dsLf, fl4, fl5, ft4, ft5, fo4, fo5, tyI, szI, tyA, dsA, szA, tyU8, szU8, tyB, dsB, ble11, ble1A, ad4, ad5, l4, aSlice, lowHigh, intOf?, sliceP, f5, f6, f7, tgT, evT_told sgT, q1, b_eql, int0, q3]; rfl
          repeat apply go_seq
          apply go_ret
          apply ret_intro rfl rfl
          case run => simp (disch := decide) only [resultsM, resultsA, resR, opsLoop, evOper, wantedA, nth, aop, aPick, aBin, aIndexAddr, aFieldAddr, aLoad, aStore, aExtract, aConvert, aAlloc, aBox, aIndex, callA, builtinA, Fr.evs, opt, val, when, AM.run, outV, newA, ptr, force_eq, seen_heap, seen_next, seen_mark, seen_seen, agg_cells, int_cells, Fr.ev, Fr.put, onFr, gps, gpn, bltT, still, flat, List.append_nil, List.nil_append, List.cons_append, Nat.reduceEqDiff, ne_eq, not_false_eq_true, reduceCtorEq, Bool.and_true, Bool.true_and, Bool.and_false, Bool.false_and, Bool.not_true, Bool.not_false, Bool.and_self]; rfl
          exact ⟨by rw [hv], hless _ (hrs.trans q2)⟩
    · simp only [Out_, Then]
      apply ret_intro rfl rfl
      case run => simp (disch := decide) only [resultsM, resultsA, resR, opsLoop, evOper, wantedA, nth, aop, aPick, aBin, aIndexAddr, aFieldAddr, aLoad, aStore, aExtract, aConvert, aAlloc, aBox, aIndex, callA, builtinA, Fr.evs, opt, val, when, AM.run, outV, newA, ptr, force_eq, seen_heap, seen_next, seen_mark, seen_seen, agg_cells, int_cells, Fr.ev, Fr.put, onFr, gps, gpn, bltT, still, flat, List.append_nil, List.nil_append, List.cons_append, Nat.reduceEqDiff, ne_eq, not_false_eq_true, reduceCtorEq, Bool.and_true, Bool.true_and, Bool.and_false, Bool.false_and, Bool.not_true, Bool.not_false, Bool.and_self, g2]; rfl
      exact ⟨by rw [rightL_three hy hw], hless _ hr⟩
  · cases h
end Go.Proofs.YtgofanjbhbeniaaDoor.lf
end
end

section
/- Leaves: rules for parts of a region; bytes that are put behind others; the sum of bytes as a list has it; bytes closed with their sum. -/
noncomputable section
namespace Go.Proofs.YtgofanjbhbeniaaDoor.lf
open AE
set_option linter.unusedSimpArgs false
set_option linter.unusedVariables false
set_option maxRecDepth 10000

/-! a region in parts -/
/-! bytes behind others -/
theorem bv_one (x : UInt8) : oneB (bv x) = true := rfl
theorem bvs_one : ∀ l : List UInt8, allOne (l.map bv) = true
  | [] => rfl
  | x :: l => by simp only [List.map_cons, allOne, bv_one, bvs_one l]
theorem storeA_run {β : Type} {s : S} {N o m : Nat} {vs : List Value} {c : Tr Value} {e : TypeId} {rm : Room} (k : AM β) (h1 : allOne vs = true) (hlt : N < s.next) (hN : Nat.ble N lastName = true) (hg : s.heap.get N = some (.cells c m e rm)) (ho : o + vs.length ≤ m) (hm : m ≤ 1000000000) :
    (storeA ⟨N, o, none⟩ vs k).run s = k.run ((s.seen N).turn N (some (.cells (wrCells c o vs) m e rm))) := by
  have h6 : Nat.ble m lastName = true := ble_iff.2 (by unfold lastName; omega)
  unfold storeA
  simp only [h1, when, AM.run, blt_iff.2 hlt, hg, show Nat.ble (Nat.add o vs.length) m = true from ble_iff.2 ho, h6, hN, Bool.and_self]
  rfl
/-! the sum, over lists -/
def crcR : List UInt8 → Nat → Nat
  | [], r => r
  | x :: l, r => crcR l (crcByte r x.toNat)
def crc32 (l : List UInt8) : Nat := Nat.xor 4294967295 (crcR l 4294967295)
end Go.Proofs.YtgofanjbhbeniaaDoor.lf
end
end

section
/- Leaves: bytes closed with their sum: told. -/
noncomputable section
namespace Go.Proofs.YtgofanjbhbeniaaDoor.lf
open AE
set_option linter.unusedSimpArgs false
set_option linter.unusedVariables false
set_option maxRecDepth 10000

theorem cv8 (c : Nat) : Value.int .u8 (wrapA .u8 (.ofNat c)) = bv (UInt8.ofNat c) := by
  unfold bv
  rw [UInt8.toNat_ofNat']
  rfl
theorem bv_cells (x : UInt8) : (bv x).cells.toList = [bv x] := rfl
def sum4 (c : Nat) : List UInt8 := [UInt8.ofNat c, UInt8.ofNat (c >>> 8), UInt8.ofNat (c >>> 16), UInt8.ofNat (c >>> 24)]
def closeL (l : List UInt8) : List UInt8 := l ++ sum4 (crc32 l)
theorem Bs.keep {s s1 : S} {ad : Addr} {l : List UInt8} (h : Bs s ad l) (hn : s.next ≤ s1.next) (hg : s1.heap.get ad.block = s.heap.get ad.block) : Bs s1 ad l :=
  ⟨h.spot, by have := h.lt; omega, by obtain ⟨c, m, h1, h2⟩ := h.cell; exact ⟨c, m, h1.of hg, h2⟩⟩
end Go.Proofs.YtgofanjbhbeniaaDoor.lf
end
end

section
/- Leaves: a leaf as a block's bytes: the parts of its walk. -/
noncomputable section
namespace Go.Proofs.YtgofanjbhbeniaaDoor.lf
open AE
set_option linter.unusedSimpArgs false
set_option linter.unusedVariables false
set_option maxRecDepth 10000

theorem bump_ok {α : Type} : ∀ (n : Nat) (k : AM α) (s : S), (∀ i, i < n → Nat.ble (s.next + i) lastName = true) → ∃ s1, (bump n k).run s = k.run s1 ∧ s1.next = s.next + n ∧ s1.mark = s.mark ∧ ∀ m, s1.heap.get m = if s.next ≤ m ∧ m < s.next + n then none else s.heap.get m
  | 0, k, s, h => ⟨s, rfl, rfl, rfl, fun m => by rw [if_neg (by omega)]⟩
  | n + 1, k, s, h => by
    have h0 : Nat.ble s.next lastName = true := h 0 (by omega)
    have h7 : ∀ i, (S.turn (s.grow (.deferred none)) s.next none).next + i = s.next + (i + 1) := fun i => by show s.next + 1 + i = _; omega
    obtain ⟨s1, e1, e2, e3, e4⟩ := bump_ok n k (S.turn (s.grow (.deferred none)) s.next none) (fun i hi => by rw [h7]; exact h (i + 1) (by omega))
    refine ⟨s1, ?_, by rw [e2]; show s.next + 1 + n = _; omega, by rw [e3]; rfl, ?_⟩
    · rw [← e1]
      have hb : Nat.blt s.next (Nat.succ s.next) = true := blt_iff.2 (Nat.lt_succ_self _)
      have hg := hg_same h0 s.heap (some (AObj.deferred none))
      simp only [bump, AM.run, force_eq, h0, hb, Bool.and_self, hg]
      rfl
    · intro m
      rw [e4 m]
      show (if s.next + 1 ≤ m ∧ m < s.next + 1 + n then none else ((s.heap.put s.next (some (.deferred none))).put s.next none).get m) = _
      by_cases hm : m = s.next
      · subst hm
        rw [if_neg (by omega), hg_same h0, if_pos (by omega)]
      · rw [hg_far h0 hm, hg_far h0 hm]
        by_cases h5 : s.next + 1 ≤ m ∧ m < s.next + 1 + n
        · rw [if_pos h5, if_pos (by omega)]
        · rw [if_neg h5, if_neg (by omega)]
theorem LfAt.load {s : S} {n : Nat} {d : LeafD} (h : LfAt s n d) : (loadT tiLf ⟨n, 0, none⟩ AE.val).run s = some (.value (.agg ⟨d.cells⟩), s.seen n) := by
  obtain ⟨c, e, rm, h1, h2⟩ := h.cell
  have h4 := rd_row h2
  rw [d.len h.len] at h4
  unfold loadT loadA
  rw [dsLf, szLf]
  simp only [isAggD, AM.run, blt_iff.2 h.lt, h1, when, show Nat.ble (Nat.add 0 121) 121 = true from rfl, opt, h4]
  rfl

def two (x : Int) : List UInt8 := [UInt8.ofNat x.toNat, UInt8.ofNat (x.toNat >>> 8)]
def pre (d : LeafD) : Nat → List UInt8
  | 0 => []
  | i + 1 => pre d i ++ two ((three d).getD i 0)
def putL (d : LeafD) : List UInt8 := closeL ((d.load ++ pre d 3) ++ [UInt8.ofNat d.size.toNat, UInt8.ofNat d.kind.toNat])
/-- the memory in the loop -/
structure PutAt (n : Nat) (d : LeafD) (s0 s : S) (i : Nat) : Prop where
  next : s.next = n + 5 + i
  lf : LfAt s n d
  ints : ∃ c e rm, s.heap.get (n + 4) = some (.cells c 3 e rm) ∧ Row c 0 [.int .i64 d.file, .int .i64 d.place, .int .i64 d.next]
  buf : ∃ c e rm, s.heap.get (n + 3) = some (.cells c 124 e rm) ∧ Row c 0 ((d.load ++ pre d i).map bv)
  old : ∀ m, (m < n ∨ n + 11 ≤ m) → s.heap.get m = s0.heap.get m
theorem PutAt.rd {n : Nat} {d : LeafD} {s0 s s' : S} {i : Nat} (h : PutAt n d s0 s i) (hr : Rd s s') : PutAt n d s0 s' i :=
  ⟨by rw [hr.next]; exact h.next, h.lf.rd hr, by rw [hr.heap]; exact h.ints, by rw [hr.heap]; exact h.buf, fun m hm => by rw [hr.heap]; exact h.old m hm⟩
theorem PutAt.get {n : Nat} {d : LeafD} {s0 s : S} {i : Nat} (h : PutAt n d s0 s i) (k : Nat) (x : Int) (hk : (three d)[k]? = some x) : (loadT tiI ⟨n + 4, k, none⟩ AE.val).run s = some (.value (.int .i64 x), s.seen (n + 4)) := by
  obtain ⟨c, e, rm, h1, h2⟩ := h.ints
  have hlt : k < 3 := (List.getElem?_eq_some_iff.1 hk).1
  refine cell_load tiI (by rw [dsI]; rfl) (by rw [h.next]; omega) h1 (by omega) ?_
  have h3 : [Value.int .i64 d.file, .int .i64 d.place, .int .i64 d.next][k]? = some (.int .i64 x) := by
    match k, hlt with
    | 0, _ => simpa [three] using hk
    | 1, _ => simpa [three] using hk
    | 2, _ => simpa [three] using hk
  have := h2 k _ h3
  rwa [Nat.zero_add] at this
end Go.Proofs.YtgofanjbhbeniaaDoor.lf
end
end

section
/- Leaves: a leaf as a block's bytes: told. -/
noncomputable section
namespace Go.Proofs.YtgofanjbhbeniaaDoor.lf
open AE
set_option linter.unusedSimpArgs false
set_option linter.unusedVariables false
set_option maxRecDepth 10000

end Go.Proofs.YtgofanjbhbeniaaDoor.lf
end
end

section
/- Leaves: a leaf as a block's bytes: told, whole. -/
noncomputable section
namespace Go.Proofs.YtgofanjbhbeniaaDoor.lf
open AE
set_option linter.unusedSimpArgs false
set_option linter.unusedVariables false
set_option maxRecDepth 10000

theorem rightL_inv {d : LeafD} (h : rightL d = true) : (∀ (j : Nat) (x : Int), (three d)[j]? = some x → 0 ≤ x ∧ x ≤ 65535) ∧ (1 ≤ d.kind ∧ d.kind ≤ 2) ∧ (0 ≤ d.size ∧ d.size ≤ 116) := by
  unfold rightL at h
  simp only [Bool.and_eq_true] at h
  obtain ⟨⟨⟨⟨⟨h1, h2⟩, h3⟩, h4⟩, h5⟩, _⟩ := h
  refine ⟨?_, wi_iff.1 h4, wi_iff.1 h5⟩
  intro j x hj
  have hlt : j < 3 := (List.getElem?_eq_some_iff.1 hj).1
  match j, hlt with
  | 0, _ => simp [three] at hj; subst hj; exact wi_iff.1 h1
  | 1, _ => simp [three] at hj; subst hj; exact wi_iff.1 h2
  | 2, _ => simp [three] at hj; subst hj; exact wi_iff.1 h3

end Go.Proofs.YtgofanjbhbeniaaDoor.lf
end
end

section
/- Leaves: bytes that are the same; a number of two bytes. -/
noncomputable section
namespace Go.Proofs.YtgofanjbhbeniaaDoor.lf
open AE
set_option linter.unusedSimpArgs false
set_option linter.unusedVariables false
set_option maxRecDepth 10000

theorem eqBytes_iff : ∀ a b : List UInt8, eqBytes a b = decide (a = b)
  | [], [] => by simp [eqBytes]
  | [], _ :: _ => by simp [eqBytes]
  | _ :: _, [] => by simp [eqBytes]
  | x :: a, y :: b => by
    simp only [eqBytes]
    cases h : Nat.beq x.toNat y.toNat with
    | true =>
      have : x = y := UInt8.toNat_inj.1 (beq_iff.1 h)
      subst this
      simp only [eqBytes_iff a b]
      simp
    | false =>
      have : x ≠ y := fun e => by subst e; rw [beq_iff.2 rfl] at h; cases h
      simp [this]

/-! a number of two bytes, in a slice that a variable holds -/
def num2 (x y : UInt8) : Int := wrapA .i64 (.ofNat (Nat.lor (x.toNat % 18446744073709551616) (y.toNat * 256 % 18446744073709551616)))
/-- the variable p holds the slice v -/
structure Holds (s : S) (p : Nat) (v : Value) : Prop where
  lt : p < s.next
  cell : ∃ c m, Has s p c m ∧ 1 ≤ m ∧ c.get 0 = some v
theorem Holds.load {s : S} {p : Nat} {v : Value} (h : Holds s p v) : (loadT tiB ⟨p, 0, none⟩ AE.val).run s = some (.value v, s.seen p) := by
  obtain ⟨c, m, h1, h2, h3⟩ := h.cell
  exact has_load tiB (by rw [dsB]; rfl) h.lt h1 h2 h3
theorem Holds.rd {s s' : S} {p : Nat} {v : Value} (h : Holds s p v) (hr : Rd s s') : Holds s' p v := ⟨by rw [hr.next]; exact h.lt, by obtain ⟨c, m, h1, h2⟩ := h.cell; exact ⟨c, m, h1.of (by rw [hr.heap]), h2⟩⟩
theorem Holds.keep {s s' : S} {p : Nat} {v : Value} (h : Holds s p v) (hn : s.next ≤ s'.next) (hg : s'.heap.get p = s.heap.get p) : Holds s' p v := ⟨by have := h.lt; omega, by obtain ⟨c, m, h1, h2⟩ := h.cell; exact ⟨c, m, h1.of hg, h2⟩⟩
def twoA : List Value → AM Value
  | [.int .i64 (.ofNat k), .pointer (some ⟨p, 0, none⟩)] => loadT tiB ⟨p, 0, none⟩ fun
    | .slice (some ad) n cap => when (Nat.ble (118 + k) n && Nat.ble k 1000 && Nat.blt n 1000000) (loadA ad n fun cs => opt (bytesV cs) fun l => opt l[116 + k]? fun x => opt l[117 + k]? fun y => .pure (.int .i64 (num2 x y)))
    | _ => .fail
  | _ => .fail
noncomputable def fi2 : FI := FI.of Tryd.f36
noncomputable def cd2 : Code := bodyOf Tryd.f36
theorem res2 : fi2.results = [.tmp 3] := rfl
theorem b_plus {a b : Nat} (h : a + b < 9223372036854775808) : ∀ E t, binA E .add t (.int .i64 (.ofNat a)) (.int .i64 (.ofNat b)) = some (.int .i64 (.ofNat (a + b))) := by
  intro E t
  show some (Value.int .i64 (wrapA .i64 (.ofNat (a + b)))) = _
  rw [wrap64 h]
theorem cv64 {x : Nat} (h : x < 9223372036854775808) : wrapA .i64 (.ofNat x) = .ofNat x := wrap64 h
set_option maxHeartbeats 2000000 in
theorem told_two : AE.Told Tryd.prog 36 twoA := by
  refine told_go hE hmix tolds_nil ?_
  intro args s v s' h hm
  unfold twoA at h
  split at h
  · rename_i k p
    -- the slice that the variable holds
    have key : ∃ ad n cap l x y, Holds s p (.slice (some ad) n cap) ∧ l.length = n ∧ Bs s ad l ∧ 118 + k ≤ n ∧ k ≤ 1000 ∧ n < 1000000 ∧ l[116 + k]? = some x ∧ l[117 + k]? = some y ∧ v = .int .i64 (num2 x y) ∧ s' = (s.seen p).seen ad.block := by
      unfold loadT at h
      rw [dsB] at h
      simp only [isAggD] at h
      obtain ⟨c, m, cs, _, hlt, ho, hm1, hcs, h4⟩ := load_inv h
      split at h4
      · rename_i u
        split at h4
        · rename_i ad n cap
          obtain ⟨hc, h5⟩ := run_when h4
          simp only [Bool.and_eq_true] at hc
          obtain ⟨l, hl, hb, h6⟩ := bs_of_load h5
          obtain ⟨x, hx, h7⟩ := run_opt h6
          obtain ⟨y, hy, h8⟩ := run_opt h7
          cases h8
          have hc0 := (rdCells_get hcs).2 0 _ rfl
          exact ⟨ad, n, cap, l, x, y, ⟨hlt, c, m, ho, by simpa using hm1, by simpa using hc0⟩, hl, hb.of rfl rfl, ble_iff.1 hc.1.1, ble_iff.1 hc.1.2, blt_iff.1 hc.2, hx, hy, rfl, rfl⟩
        · cases h4
      · cases h4
    obtain ⟨ad, n, cap, l, x, y, H, rfl, hb, h1, h2, h3, hx, hy, rfl, rfl⟩ := key
    clear h
    refine go_enter (fi := fi2) (c := cd2) (by kernel_rfl) (by kernel_rfl) 19 rfl rfl ?_
    have h0 : (Tr.ofList [Value.int .i64 (.ofNat k), .pointer (some ⟨p, 0, none⟩)]).get 0 = some (.int .i64 (.ofNat k)) := rfl
    have h1' : (Tr.ofList [Value.int .i64 (.ofNat k), .pointer (some ⟨p, 0, none⟩)]).get 1 = some (.pointer (some ⟨p, 0, none⟩)) := rfl
    generalize Tr.ofList [Value.int .i64 (.ofNat k), .pointer (some ⟨p, 0, none⟩)] = t at *
    simp only [cd2, Tryd.f36, bodyOf]
    have q0 := (H.rd (s' := ⟨s.heap, s.next, s.mark, s.rd, s.wr⟩) ⟨rfl, rfl, rfl⟩)
    have H0 : Holds ⟨s.heap, s.next, s.next, 0, 0⟩ p (.slice (some ad) l.length cap) := ⟨H.lt, H.cell⟩
    have B0 : Bs ⟨s.heap, s.next, s.next, 0, 0⟩ ad l := hb.of rfl rfl
    have l1 := H0.load
    have lx := sum.byte_load (Bs.at B0 hx) tiU8 dsU8
    have ly := sum.byte_load (Bs.at B0 hy) tiU8 dsU8
    simp only [S.seen] at l1 lx ly
    have p1 := b_plus (a := 116) (b := k) (by omega)
    have p2 := b_plus (a := 116 + k) (b := 1) (by omega)
    rw [show 116 + k + 1 = 117 + k by omega] at p2
    have n1 : Nat.blt (116 + k) l.length = true := blt_iff.2 (by omega)
    have n2 : Nat.blt (117 + k) l.length = true := blt_iff.2 (by omega)
    have i116 : (116 : Int) = Int.ofNat 116 := rfl
    have hx8 := x.toNat_lt
    have hy8 := y.toNat_lt
    have w1 : wrapA .i64 (Int.ofNat x.toNat) = Int.ofNat x.toNat := cv64 (by omega)
    have w2 : wrapA .i64 (Int.ofNat y.toNat) = Int.ofNat y.toNat := cv64 (by omega)
    have s1 : ∀ E t, binA E .shl t (.int .i64 (.ofNat y.toNat)) (.int .u64 8) = some (.int .i64 (.ofNat (y.toNat * 256))) := by
      intro E t
      show some (Value.int .i64 (wrapA .i64 (Int.ofNat (y.toNat * 256)))) = _
      rw [cv64 (by omega)]
    have o1 : ∀ E t, binA E .or t (.int .i64 (.ofNat x.toNat)) (.int .i64 (.ofNat (y.toNat * 256))) = some (.int .i64 (num2 x y)) := fun E t => rfl
    repeat apply go_seq
    apply go_region
    case h => intro m; simp (maxSteps := 2000000) (disch := decide) only [opsLoop, evOper, wantedA, nth, aop, aPick, aBin, aIndexAddr, aFieldAddr, aLoad, aStore, aExtract, aConvert, aAlloc, aBox, aIndex, callA, builtinA, Fr.evs, opt, val, when, AM.run, outV, newA, ptr, force_eq, seen_heap, seen_next, seen_mark, seen_seen, agg_cells, int_cells, Fr.ev, Fr.put, onFr, gps, gpn, bltT, still, flat, List.append_nil, List.nil_append, List.cons_append, Nat.reduceEqDiff, ne_eq, not_false_eq_true, reduceCtorEq, Bool.and_true, Bool.true_and, Bool.and_false, Bool.false_and, Bool.not_true, Bool.not_false, Bool.and_self]; rfl
    repeat apply go_seq
    apply go_drawn
    case hs => rfl
    case h => intro m; simp (maxSteps := 2000000) (disch := decide) only [opsLoop, evOper, wantedA, nth, aop, aPick, aBin, aIndexAddr, aFieldAddr, aLoad, aStore, aExtract, aConvert, aAlloc, aBox, aIndex, callA, builtinA, Fr.evs, opt, val, when, AM.run, outV, newA, ptr, force_eq, seen_heap, seen_next, seen_mark, seen_seen, agg_cells, int_cells, Fr.ev, Fr.put, onFr, gps, gpn, bltT, still, flat, List.append_nil, List.nil_append, List.cons_append, Nat.reduceEqDiff, ne_eq, not_false_eq_true, reduceCtorEq, Bool.and_true, Bool.true_and, Bool.and_false, Bool.false_and, Bool.not_true, Bool.not_false, Bool.and_self, drawnLoop, force_eq, S.seen, keep_none, clash_nil, clash_reads, created_self, lor_zero, lor_zero', h0, h1', tyB, dsB, tyU8, szU8, dsU8, tyI, dsI, l1, i116, int1, p1, p2, n1, n2, mul1, lx, ly, w1, w2, s1, o1]; rfl
    repeat apply go_seq
    apply go_ret
    apply ret_intro rfl rfl
    case run => simp (disch := decide) only [resultsM, resultsA, res2, opsLoop, evOper, wantedA, nth, aop, aPick, aBin, aIndexAddr, aFieldAddr, aLoad, aStore, aExtract, aConvert, aAlloc, aBox, aIndex, callA, builtinA, Fr.evs, opt, val, when, AM.run, outV, newA, ptr, force_eq, seen_heap, seen_next, seen_mark, seen_seen, agg_cells, int_cells, Fr.ev, Fr.put, onFr, gps, gpn, bltT, still, flat, List.append_nil, List.nil_append, List.cons_append, Nat.reduceEqDiff, ne_eq, not_false_eq_true, reduceCtorEq, Bool.and_true, Bool.true_and, Bool.and_false, Bool.false_and, Bool.not_true, Bool.not_false, Bool.and_self]; rfl
    exact ⟨rfl, Rd.less (s := s) ⟨rfl, rfl, rfl⟩ ⟨rfl, rfl, rfl⟩⟩
  · cases h
end Go.Proofs.YtgofanjbhbeniaaDoor.lf
end
end

section
/- Leaves: the leaf of a block: parts. -/
noncomputable section
namespace Go.Proofs.YtgofanjbhbeniaaDoor.lf
open AE
set_option linter.unusedSimpArgs false
set_option linter.unusedVariables false
set_option maxRecDepth 10000

theorem bit_own {mark n l : Nat} (h : mark ≤ n) : bit mark n l = l := by
  unfold bit
  rw [ble_iff.2 h]
theorem bump_ok' {α : Type} : ∀ (n : Nat) (k : AM α) (s : S), s.mark ≤ s.next → (∀ i, i < n → Nat.ble (s.next + i) lastName = true) → ∃ s1, (bump n k).run s = k.run s1 ∧ s1.next = s.next + n ∧ s1.mark = s.mark ∧ s1.rd = s.rd ∧ s1.wr = s.wr ∧ ∀ m, s1.heap.get m = if s.next ≤ m ∧ m < s.next + n then none else s.heap.get m
  | 0, k, s, hm, h => ⟨s, rfl, rfl, rfl, rfl, rfl, fun m => by rw [if_neg (by omega)]⟩
  | n + 1, k, s, hm, h => by
    have h0 : Nat.ble s.next lastName = true := h 0 (by omega)
    have h7 : ∀ i, (S.turn (s.grow (.deferred none)) s.next none).next + i = s.next + (i + 1) := fun i => by show s.next + 1 + i = _; omega
    obtain ⟨s1, e1, e2, e3, er, ew, e4⟩ := bump_ok' n k (S.turn (s.grow (.deferred none)) s.next none) (by show s.mark ≤ s.next + 1; omega) (fun i hi => by rw [h7]; exact h (i + 1) (by omega))
    refine ⟨s1, ?_, by rw [e2]; show s.next + 1 + n = _; omega, by rw [e3]; rfl, by rw [er]; rfl, by rw [ew]; exact bit_own hm, ?_⟩
    · rw [← e1]
      have hb : Nat.blt s.next (Nat.succ s.next) = true := blt_iff.2 (Nat.lt_succ_self _)
      have hg := hg_same h0 s.heap (some (AObj.deferred none))
      simp only [bump, AM.run, force_eq, h0, hb, Bool.and_self, hg]
      rfl
    · intro m
      rw [e4 m]
      show (if s.next + 1 ≤ m ∧ m < s.next + 1 + n then none else ((s.heap.put s.next (some (.deferred none))).put s.next none).get m) = _
      by_cases hm : m = s.next
      · subst hm
        rw [if_neg (by omega), hg_same h0, if_pos (by omega)]
      · rw [hg_far h0 hm, hg_far h0 hm]
        by_cases h5 : s.next + 1 ≤ m ∧ m < s.next + 1 + n
        · rw [if_pos h5, if_pos (by omega)]
        · rw [if_neg h5, if_neg (by omega)]

def zeroL : LeafD := ⟨0, 0, 0, 0, 0, List.replicate 116 0⟩
theorem zero_len : zeroL.load.length = 116 := by simp [zeroL]
theorem zeLf : tiLf.zero = some (.agg ⟨zeroL.cells⟩) := by kernel_rfl
/-- the leaf that a block's bytes say -/
def sayL (l : List UInt8) : LeafD := ⟨((l.getD 123 0).toNat : Int), num2 (l.getD 116 0) (l.getD 117 0), num2 (l.getD 118 0) (l.getD 119 0), num2 (l.getD 120 0) (l.getD 121 0), ((l.getD 122 0).toNat : Int), l.take 116⟩
def getOK (l : List UInt8) : Bool := rightL (sayL l) && eqBytes (putL (sayL l)) l
def getL (l : List UInt8) : LeafD := if getOK l = true then sayL l else zeroL
theorem LfAt.cells_one {d : LeafD} : allOne d.cells = true := by
  have := bvs_one d.load
  unfold LeafD.cells
  show allOne (Value.int .i64 d.kind :: Value.int .i64 d.file :: Value.int .i64 d.place :: Value.int .i64 d.next :: Value.int .i64 d.size :: d.load.map bv) = true
  simp only [allOne, oneB, this]
/-- a leaf is stored -/
theorem LfAt.store {s : S} {n : Nat} {d d' : LeafD} (h : LfAt s n d) (hN : Nat.ble n lastName = true) (hd : d'.load.length = 116) :
    ∃ c e rm, (storeA ⟨n, 0, none⟩ d'.cells (AM.pure (ANext.value undefV))).run s = some (.value undefV, (s.seen n).turn n (some (.cells c 121 e rm))) ∧ Row c 0 d'.cells := by
  obtain ⟨c, e, rm, h1, h2⟩ := h.cell
  refine ⟨wrCells c 0 d'.cells, e, rm, ?_, row_wr (by rw [d'.len hd]; unfold Tr.wide; omega)⟩
  rw [storeA_run _ LfAt.cells_one h.lt hN h1 (by rw [d'.len hd]; omega) (by omega)]
  rfl
end Go.Proofs.YtgofanjbhbeniaaDoor.lf
end
end

section
/- Leaves: the leaf of a block: told. -/
noncomputable section
namespace Go.Proofs.YtgofanjbhbeniaaDoor.lf
open AE
set_option linter.unusedSimpArgs false
set_option linter.unusedVariables false
set_option maxRecDepth 10000

theorem clash_bef (rd wr b i r w : Nat) (seen : List (Nat × Nat × Nat)) (h : Nat.testBit b i = true) : clash rd wr b (keepLog i r w seen) = clash rd wr b seen := by
  unfold keepLog
  split
  · rfl
  · show (match Nat.beq (Nat.lor (Nat.land w (Nat.lor rd wr)) (Nat.land r wr)) 0 with | true => clash rd wr b seen | false => match Nat.testBit b i with | true => clash rd wr b seen | false => true) = _
    rw [h]
    split <;> rfl
theorem places_eq : placesA E fsLf.toList = some [(0, 1), (1, 1), (2, 1), (3, 1), (4, 1), (5, 116)] := by kernel_rfl
theorem sl_cells (a : Option Addr) (n c : Nat) : (Value.slice a n c).cells.toList = [.slice a n c] := rfl
theorem LfAt.loadK {β : Type} {s : S} {n : Nat} {d : LeafD} (h : LfAt s n d) (k : Value → AM β) : (loadT tiLf ⟨n, 0, none⟩ k).run s = (k (.agg ⟨d.cells⟩)).run (s.seen n) := by
  obtain ⟨c, e, rm, h1, h2⟩ := h.cell
  have h4 := rd_row h2
  rw [d.len h.len] at h4
  unfold loadT loadA
  rw [dsLf, szLf]
  simp only [isAggD, AM.run, blt_iff.2 h.lt, h1, when, show Nat.ble (Nat.add 0 121) 121 = true from rfl, opt, h4]
  rfl
/-- the memory of Get -/
structure GetAt (K : Nat) (s0 s : S) (ad : Addr) (cap : Nat) (l : List UInt8) : Prop where
  var : Holds s s0.next (.slice (some ad) 128 cap)
  out : LfAt s (s0.next + 1) zeroL
  bs : Bs s ad l
  old : ∀ m, (m < s0.next ∨ s0.next + K ≤ m) → s.heap.get m = s0.heap.get m
theorem GetAt.of {K : Nat} {s0 s s1 : S} {ad : Addr} {cap : Nat} {l : List UInt8} (h : GetAt K s0 s ad cap l) (hn : s.next ≤ s1.next) (had : ad.block < s0.next) (hh : ∀ m, (m < s0.next + 2 ∨ s0.next + K ≤ m) → s1.heap.get m = s.heap.get m) : GetAt K s0 s1 ad cap l :=
  ⟨h.var.keep hn (hh _ (.inl (by omega))), ⟨by have := h.out.lt; omega, by rw [hh _ (.inl (by omega))]; exact h.out.cell, h.out.len⟩, h.bs.keep hn (hh _ (.inl (by omega))), fun m hm => (hh m (by omega)).trans (h.old m hm)⟩
end Go.Proofs.YtgofanjbhbeniaaDoor.lf
end
end

section
/- Leaves: a number brought within bounds; what is put into a block is had out of it; leaves that are the same. -/
noncomputable section
namespace Go.Proofs.YtgofanjbhbeniaaDoor.lf
open AE
set_option linter.unusedSimpArgs false
set_option linter.unusedVariables false
set_option maxRecDepth 10000

theorem wrap_small {x : Int} (h1 : -9223372036854775808 ≤ x) (h2 : x < 9223372036854775808) : wrapA .i64 x = x := by
  show wrapS 18446744073709551616 9223372036854775808 x = x
  rw [wrapS_eq _ _ (by decide) (by decide)]
  split <;> omega
def wn (n : Int) (hi : Nat) : Nat := (n % ((hi : Int) + 1)).toNat
theorem wn_le (n : Int) (hi : Nat) : wn n hi ≤ hi := by
  unfold wn
  have h1 := Int.emod_nonneg n (show (hi : Int) + 1 ≠ 0 by omega)
  have h2 := Int.emod_lt_of_pos n (show (0 : Int) < (hi : Int) + 1 by omega)
  omega
theorem tmod_wn (n : Int) (hi : Nat) : (Int.tmod n (Int.ofNat (hi + 1)) < 0 ∧ Int.tmod n (Int.ofNat (hi + 1)) + hi + 1 = wn n hi ∧ 1 ≤ wn n hi) ∨ (0 ≤ Int.tmod n (Int.ofNat (hi + 1)) ∧ Int.tmod n (Int.ofNat (hi + 1)) = wn n hi) := by
  have hpos : (0 : Int) < (hi : Int) + 1 := by omega
  have e : Int.ofNat (hi + 1) = (hi : Int) + 1 := by simp
  have h1 := Int.emod_nonneg n (show (hi : Int) + 1 ≠ 0 by omega)
  have h2 := Int.emod_lt_of_pos n hpos
  have hw : (wn n hi : Int) = n % ((hi : Int) + 1) := by unfold wn; omega
  rw [e, hw]
  have h3 := Int.tmod_eq_emod (a := n) (b := (hi : Int) + 1)
  rw [h3]
  split
  · right; constructor <;> omega
  · left
    rename_i hc
    have hne : n % ((hi : Int) + 1) ≠ 0 := fun h => hc (.inr (Int.dvd_of_emod_eq_zero h))
    omega
theorem tmod_bound (n : Int) (hi : Nat) : -(hi : Int) ≤ Int.tmod n (Int.ofNat (hi + 1)) ∧ Int.tmod n (Int.ofNat (hi + 1)) ≤ hi := by
  have := wn_le n hi
  rcases tmod_wn n hi with ⟨h1, h2, h3⟩ | ⟨h1, h2⟩ <;> omega
def withinBA : List Value → AM Value
  | [.int .i64 n, .int .i64 (.ofNat 0), .int .i64 (.ofNat hi)] => when (Nat.ble hi 1000000) (.pure (.int .i64 (.ofNat (wn n hi))))
  | _ => .fail
noncomputable def fiWB : FI := FI.of Tryd.f8
noncomputable def cdWB : Code := bodyOf Tryd.f8
theorem resWB : fiWB.results = [.tmp 6] := rfl
theorem told_withinB : AE.Told Tryd.prog 8 withinBA := by
  refine told_go hE hmix tolds_nil ?_
  intro args s v s' h hm
  unfold withinBA at h
  split at h
  · rename_i n hi
    obtain ⟨hb, h2⟩ := run_when h
    cases h2
    have hb := ble_iff.1 hb
    refine go_enter (fi := fiWB) (c := cdWB) (by kernel_rfl) (by kernel_rfl) 24 rfl rfl ?_
    have h0 : (Tr.ofList [Value.int .i64 n, .int .i64 (.ofNat 0), .int .i64 (.ofNat hi)]).get 0 = some (.int .i64 n) := rfl
    have h1 : (Tr.ofList [Value.int .i64 n, .int .i64 (.ofNat 0), .int .i64 (.ofNat hi)]).get 1 = some (.int .i64 (.ofNat 0)) := rfl
    have h2 : (Tr.ofList [Value.int .i64 n, .int .i64 (.ofNat 0), .int .i64 (.ofNat hi)]).get 2 = some (.int .i64 (.ofNat hi)) := rfl
    generalize Tr.ofList [Value.int .i64 n, .int .i64 (.ofNat 0), .int .i64 (.ofNat hi)] = t at *
    simp only [cdWB, Tryd.f8, bodyOf]
    have a1 : ∀ E t, binA E .sub t (.int .i64 (.ofNat hi)) (.int .i64 (.ofNat 0)) = some (.int .i64 (.ofNat hi)) := by
      intro E t
      show some (Value.int .i64 (wrapA .i64 ((hi : Int) - 0))) = _
      rw [wrap_small (by omega) (by omega), Int.sub_zero]; rfl
    have a2 := b_plus (a := hi) (b := 1) (by omega)
    have a3 : ∀ E t, binA E .rem t (.int .i64 n) (.int .i64 (.ofNat (hi + 1))) = some (.int .i64 (Int.tmod n (.ofNat (hi + 1)))) := fun E t => rfl
    have hbd := tmod_bound n hi
    have htm := tmod_wn n hi
    generalize Int.tmod n (Int.ofNat (hi + 1)) = m at *
    repeat apply go_seq
    apply go_region
    case h => intro m; simp (maxSteps := 2000000) (disch := decide) only [opsLoop, evOper, wantedA, nth, aop, aPick, aBin, aIndexAddr, aFieldAddr, aLoad, aStore, aExtract, aConvert, aAlloc, aBox, aIndex, callA, builtinA, Fr.evs, opt, val, when, AM.run, outV, newA, ptr, force_eq, seen_heap, seen_next, seen_mark, seen_seen, agg_cells, int_cells, Fr.ev, Fr.put, onFr, gps, gpn, bltT, still, flat, List.append_nil, List.nil_append, List.cons_append, Nat.reduceEqDiff, ne_eq, not_false_eq_true, reduceCtorEq, Bool.and_true, Bool.true_and, Bool.and_false, Bool.false_and, Bool.not_true, Bool.not_false, Bool.and_self]; rfl
    repeat apply go_seq
    apply go_region
    case h => intro m; simp (maxSteps := 2000000) (disch := decide) only [opsLoop, evOper, wantedA, nth, aop, aPick, aBin, aIndexAddr, aFieldAddr, aLoad, aStore, aExtract, aConvert, aAlloc, aBox, aIndex, callA, builtinA, Fr.evs, opt, val, when, AM.run, outV, newA, ptr, force_eq, seen_heap, seen_next, seen_mark, seen_seen, agg_cells, int_cells, Fr.ev, Fr.put, onFr, gps, gpn, bltT, still, flat, List.append_nil, List.nil_append, List.cons_append, Nat.reduceEqDiff, ne_eq, not_false_eq_true, reduceCtorEq, Bool.and_true, Bool.true_and, Bool.and_false, Bool.false_and, Bool.not_true, Bool.not_false, Bool.and_self, h0, h1, h2, a1, int1, a2, a3]; rfl
    rcases htm with ⟨q1, q2, _⟩ | ⟨q1, q2⟩
    · have hlt : ltI m (Int.ofNat 0) = true := by rw [ltI_eq]; simp; omega
      have a4 : ∀ E t, binA E .add t (.int .i64 m) (.int .i64 (.ofNat hi)) = some (.int .i64 (m + hi)) := by
        intro E t
        show some (Value.int .i64 (wrapA .i64 (m + hi))) = _
        rw [wrap_small (by omega) (by omega)]
      have a5 : ∀ E t, binA E .sub t (.int .i64 (m + hi)) (.int .i64 (.ofNat 0)) = some (.int .i64 (m + hi)) := by
        intro E t
        show some (Value.int .i64 (wrapA .i64 (m + hi - 0))) = _
        rw [wrap_small (by omega) (by omega), Int.sub_zero]
      have a6 : ∀ E t, binA E .add t (.int .i64 (m + hi)) (.int .i64 (.ofNat 1)) = some (.int .i64 (.ofNat (wn n hi))) := by
        intro E t
        show some (Value.int .i64 (wrapA .i64 (m + hi + 1))) = _
        rw [wrap_small (by omega) (by omega), q2]; rfl
      have hw := wn_le n hi
      have a7 := b_plus (a := 0) (b := wn n hi) (by omega)
      rw [Nat.zero_add] at a7
      repeat apply go_seq
      apply go_region
      case h => intro m; simp (maxSteps := 2000000) (disch := decide) only [opsLoop, evOper, wantedA, nth, aop, aPick, aBin, aIndexAddr, aFieldAddr, aLoad, aStore, aExtract, aConvert, aAlloc, aBox, aIndex, callA, builtinA, Fr.evs, opt, val, when, AM.run, outV, newA, ptr, force_eq, seen_heap, seen_next, seen_mark, seen_seen, agg_cells, int_cells, Fr.ev, Fr.put, onFr, gps, gpn, bltT, still, flat, List.append_nil, List.nil_append, List.cons_append, Nat.reduceEqDiff, ne_eq, not_false_eq_true, reduceCtorEq, Bool.and_true, Bool.true_and, Bool.and_false, Bool.false_and, Bool.not_true, Bool.not_false, Bool.and_self, b_lss, int0, hlt]; rfl
      repeat apply go_seq
      apply go_cond
      case hc => simp (disch := decide) only [opsLoop, evOper, wantedA, nth, aop, aPick, aBin, aIndexAddr, aFieldAddr, aLoad, aStore, aExtract, aConvert, aAlloc, aBox, aIndex, callA, builtinA, Fr.evs, opt, val, when, AM.run, outV, newA, ptr, force_eq, seen_heap, seen_next, seen_mark, seen_seen, agg_cells, int_cells, Fr.ev, Fr.put, onFr, gps, gpn, bltT, still, flat, List.append_nil, List.nil_append, List.cons_append, Nat.reduceEqDiff, ne_eq, not_false_eq_true, reduceCtorEq, Bool.and_true, Bool.true_and, Bool.and_false, Bool.false_and, Bool.not_true, Bool.not_false, Bool.and_self]; rfl
      case h2 => intro h; cases h
      intro _
      repeat apply go_seq
      apply go_region
      case h => intro m; simp (maxSteps := 2000000) (disch := decide) only [opsLoop, evOper, wantedA, nth, aop, aPick, aBin, aIndexAddr, aFieldAddr, aLoad, aStore, aExtract, aConvert, aAlloc, aBox, aIndex, callA, builtinA, Fr.evs, opt, val, when, AM.run, outV, newA, ptr, force_eq, seen_heap, seen_next, seen_mark, seen_seen, agg_cells, int_cells, Fr.ev, Fr.put, onFr, gps, gpn, bltT, still, flat, List.append_nil, List.nil_append, List.cons_append, Nat.reduceEqDiff, ne_eq, not_false_eq_true, reduceCtorEq, Bool.and_true, Bool.true_and, Bool.and_false, Bool.false_and, Bool.not_true, Bool.not_false, Bool.and_self, h1, h2, a4, a5, int1, a6]; rfl
      repeat apply go_seq
      apply go_region
      case h => intro m; simp (maxSteps := 2000000) (disch := decide) only [opsLoop, evOper, wantedA, nth, aop, aPick, aBin, aIndexAddr, aFieldAddr, aLoad, aStore, aExtract, aConvert, aAlloc, aBox, aIndex, callA, builtinA, Fr.evs, opt, val, when, AM.run, outV, newA, ptr, force_eq, seen_heap, seen_next, seen_mark, seen_seen, agg_cells, int_cells, Fr.ev, Fr.put, onFr, gps, gpn, bltT, still, flat, List.append_nil, List.nil_append, List.cons_append, Nat.reduceEqDiff, ne_eq, not_false_eq_true, reduceCtorEq, Bool.and_true, Bool.true_and, Bool.and_false, Bool.false_and, Bool.not_true, Bool.not_false, Bool.and_self, h1, a7]; rfl
      repeat apply go_seq
      apply go_ret
      apply ret_intro rfl rfl
      case run => simp (disch := decide) only [resultsM, resultsA, resWB, opsLoop, evOper, wantedA, nth, aop, aPick, aBin, aIndexAddr, aFieldAddr, aLoad, aStore, aExtract, aConvert, aAlloc, aBox, aIndex, callA, builtinA, Fr.evs, opt, val, when, AM.run, outV, newA, ptr, force_eq, seen_heap, seen_next, seen_mark, seen_seen, agg_cells, int_cells, Fr.ev, Fr.put, onFr, gps, gpn, bltT, still, flat, List.append_nil, List.nil_append, List.cons_append, Nat.reduceEqDiff, ne_eq, not_false_eq_true, reduceCtorEq, Bool.and_true, Bool.true_and, Bool.and_false, Bool.false_and, Bool.not_true, Bool.not_false, Bool.and_self]; rfl
      exact ⟨rfl, Less'.refl _⟩
    · have hlt : ltI m (Int.ofNat 0) = false := by rw [ltI_eq]; simp; omega
      have hw := wn_le n hi
      have a7 : ∀ E t, binA E .add t (.int .i64 (.ofNat 0)) (.int .i64 m) = some (.int .i64 (.ofNat (wn n hi))) := by
        intro E t
        show some (Value.int .i64 (wrapA .i64 (0 + m))) = _
        rw [wrap_small (by omega) (by omega), Int.zero_add, q2]; rfl
      repeat apply go_seq
      apply go_region
      case h => intro m; simp (maxSteps := 2000000) (disch := decide) only [opsLoop, evOper, wantedA, nth, aop, aPick, aBin, aIndexAddr, aFieldAddr, aLoad, aStore, aExtract, aConvert, aAlloc, aBox, aIndex, callA, builtinA, Fr.evs, opt, val, when, AM.run, outV, newA, ptr, force_eq, seen_heap, seen_next, seen_mark, seen_seen, agg_cells, int_cells, Fr.ev, Fr.put, onFr, gps, gpn, bltT, still, flat, List.append_nil, List.nil_append, List.cons_append, Nat.reduceEqDiff, ne_eq, not_false_eq_true, reduceCtorEq, Bool.and_true, Bool.true_and, Bool.and_false, Bool.false_and, Bool.not_true, Bool.not_false, Bool.and_self, b_lss, int0, hlt]; rfl
      repeat apply go_seq
      apply go_cond
      case hc => simp (disch := decide) only [opsLoop, evOper, wantedA, nth, aop, aPick, aBin, aIndexAddr, aFieldAddr, aLoad, aStore, aExtract, aConvert, aAlloc, aBox, aIndex, callA, builtinA, Fr.evs, opt, val, when, AM.run, outV, newA, ptr, force_eq, seen_heap, seen_next, seen_mark, seen_seen, agg_cells, int_cells, Fr.ev, Fr.put, onFr, gps, gpn, bltT, still, flat, List.append_nil, List.nil_append, List.cons_append, Nat.reduceEqDiff, ne_eq, not_false_eq_true, reduceCtorEq, Bool.and_true, Bool.true_and, Bool.and_false, Bool.false_and, Bool.not_true, Bool.not_false, Bool.and_self]; rfl
      case h1 => intro h; cases h
      intro _
      apply go_skip
      repeat apply go_seq
      apply go_region
      case h => intro m; simp (maxSteps := 2000000) (disch := decide) only [opsLoop, evOper, wantedA, nth, aop, aPick, aBin, aIndexAddr, aFieldAddr, aLoad, aStore, aExtract, aConvert, aAlloc, aBox, aIndex, callA, builtinA, Fr.evs, opt, val, when, AM.run, outV, newA, ptr, force_eq, seen_heap, seen_next, seen_mark, seen_seen, agg_cells, int_cells, Fr.ev, Fr.put, onFr, gps, gpn, bltT, still, flat, List.append_nil, List.nil_append, List.cons_append, Nat.reduceEqDiff, ne_eq, not_false_eq_true, reduceCtorEq, Bool.and_true, Bool.true_and, Bool.and_false, Bool.false_and, Bool.not_true, Bool.not_false, Bool.and_self, h1, a7]; rfl
      repeat apply go_seq
      apply go_ret
      apply ret_intro rfl rfl
      case run => simp (disch := decide) only [resultsM, resultsA, resWB, opsLoop, evOper, wantedA, nth, aop, aPick, aBin, aIndexAddr, aFieldAddr, aLoad, aStore, aExtract, aConvert, aAlloc, aBox, aIndex, callA, builtinA, Fr.evs, opt, val, when, AM.run, outV, newA, ptr, force_eq, seen_heap, seen_next, seen_mark, seen_seen, agg_cells, int_cells, Fr.ev, Fr.put, onFr, gps, gpn, bltT, still, flat, List.append_nil, List.nil_append, List.cons_append, Nat.reduceEqDiff, ne_eq, not_false_eq_true, reduceCtorEq, Bool.and_true, Bool.true_and, Bool.and_false, Bool.false_and, Bool.not_true, Bool.not_false, Bool.and_self]; rfl
      exact ⟨rfl, Less'.refl _⟩
  · cases h

/-! what is put is had -/
theorem num2_two (x : Int) (h0 : 0 ≤ x) (h1 : x ≤ 65535) : num2 (UInt8.ofNat x.toNat) (UInt8.ofNat (x.toNat >>> 8)) = x := by
  obtain ⟨n, rfl⟩ := Int.eq_ofNat_of_zero_le h0
  simp only [Int.toNat_natCast]
  have hn : n ≤ 65535 := by omega
  unfold num2
  rw [UInt8.toNat_ofNat', UInt8.toNat_ofNat', Nat.shiftRight_eq_div_pow]
  have e1 : n % 2 ^ 8 % 18446744073709551616 = n % 256 := by omega
  have e2 : n / 2 ^ 8 % 2 ^ 8 * 256 % 18446744073709551616 = 2 ^ 8 * (n / 256) := by omega
  rw [e1, e2]
  have e3 : Nat.lor (n % 256) (2 ^ 8 * (n / 256)) = n := by
    show (n % 256) ||| (2 ^ 8 * (n / 256)) = n
    rw [Nat.or_comm, ← Nat.two_pow_add_eq_or_of_lt (show n % 256 < 2 ^ 8 by omega)]
    omega
  rw [e3]
  exact wrap_small (by simp; try omega) (by simp; try omega)
theorem putL_eq (d : LeafD) : ∃ c, putL d = d.load ++ ([UInt8.ofNat d.file.toNat, UInt8.ofNat (d.file.toNat >>> 8), UInt8.ofNat d.place.toNat, UInt8.ofNat (d.place.toNat >>> 8), UInt8.ofNat d.next.toNat, UInt8.ofNat (d.next.toNat >>> 8), UInt8.ofNat d.size.toNat, UInt8.ofNat d.kind.toNat] ++ sum4 c) := by
  refine ⟨crc32 ((d.load ++ pre d 3) ++ [UInt8.ofNat d.size.toNat, UInt8.ofNat d.kind.toNat]), ?_⟩
  unfold putL closeL
  generalize crc32 ((d.load ++ pre d 3) ++ [UInt8.ofNat d.size.toNat, UInt8.ofNat d.kind.toNat]) = c
  simp only [pre, three, two, List.getD_cons_zero, List.getD_cons_succ, List.nil_append, List.append_assoc, List.cons_append]
theorem getD_app {a b : List UInt8} {n : Nat} (h : a.length = 116) (j : Nat) (hn : n = 116 + j) : (a ++ b).getD n 0 = b.getD j 0 := by
  subst hn
  rw [List.getD_eq_getElem?_getD, List.getElem?_append_right (by omega), h, show 116 + j - 116 = j by omega, List.getD_eq_getElem?_getD]
theorem say_put (d : LeafD) (hd : d.load.length = 116) (hR : rightL d = true) : sayL (putL d) = d := by
  obtain ⟨h3, hk, hs⟩ := rightL_inv hR
  have f := h3 0 d.file rfl
  have p := h3 1 d.place rfl
  have n := h3 2 d.next rfl
  obtain ⟨c, e⟩ := putL_eq d
  rw [e]
  unfold sayL
  rw [getD_app hd 0 rfl, getD_app hd 1 rfl, getD_app hd 2 rfl, getD_app hd 3 rfl, getD_app hd 4 rfl, getD_app hd 5 rfl, getD_app hd 6 rfl, getD_app hd 7 rfl]
  simp only [List.cons_append, List.nil_append, List.getD_cons_zero, List.getD_cons_succ]
  rw [num2_two _ f.1 f.2, num2_two _ p.1 p.2, num2_two _ n.1 n.2, List.take_left' hd]
  have e1 : ((UInt8.ofNat d.size.toNat).toNat : Int) = d.size := by rw [UInt8.toNat_ofNat']; omega
  have e2 : ((UInt8.ofNat d.kind.toNat).toNat : Int) = d.kind := by rw [UInt8.toNat_ofNat']; omega
  rw [e1, e2]
theorem get_put (d : LeafD) (hd : d.load.length = 116) (hR : rightL d = true) : getOK (putL d) = true ∧ getL (putL d) = d := by
  have h1 := say_put d hd hR
  have h2 : getOK (putL d) = true := by
    unfold getOK
    rw [h1, hR, eqBytes_iff]
    simp
  exact ⟨h2, by unfold getL; rw [if_pos h2, h1]⟩
end Go.Proofs.YtgofanjbhbeniaaDoor.lf
end
end

section
/- Leaves: leaves that are the same; the leaves of the law on edges. -/
noncomputable section
namespace Go.Proofs.YtgofanjbhbeniaaDoor.lf
open AE
set_option linter.unusedSimpArgs false
set_option linter.unusedVariables false
set_option maxRecDepth 10000

theorem gdLf : tiLf.guard = false := by kernel_rfl
theorem gdA : tiA.guard = false := by kernel_rfl
theorem fs_list : fsLf.toList = [fd 0, fd 1, fd 2, fd 3, fd 4, fd 5] := by kernel_rfl
theorem nm0 : (fd 0).name = "Kind" := by kernel_rfl
theorem nm1 : (fd 1).name = "File" := by kernel_rfl
theorem nm2 : (fd 2).name = "Place" := by kernel_rfl
theorem nm3 : (fd 3).name = "Next" := by kernel_rfl
theorem nm4 : (fd 4).name = "Size" := by kernel_rfl
theorem nm5 : (fd 5).name = "Load" := by kernel_rfl
theorem takeL_all : ∀ l : List Value, takeL l.length l = some l
  | [] => rfl
  | v :: l => by simp only [List.length_cons, takeL, takeL_all l]
/-! the law's leaves -/
end Go.Proofs.YtgofanjbhbeniaaDoor.lf
end
end

section
/- Leaves: rules for cells that are stored, for what Put and Get do in a walk, for numbers. -/
noncomputable section
namespace Go.Proofs.YtgofanjbhbeniaaDoor.lf
open AE
set_option linter.unusedSimpArgs false
set_option linter.unusedVariables false
set_option maxRecDepth 10000

theorem tgWB : ∀ a b, targetA E (.func 8) a b = .pure (.enter 8 (b ++ a)) := tgt (fi := fiWB) (c := cdWB) (by kernel_rfl) (by kernel_rfl)
theorem row_set {c : Tr Value} {L : List Value} {k : Nat} {v : Value} (h : Row c 0 L) (hk : k < 1000) : Row (wrCells c k [v]) 0 (L.set k v) := by
  intro j u hj
  rw [Nat.zero_add]
  rw [List.getElem?_set] at hj
  rw [get_wr [v] c k j (by simp; unfold Tr.wide; omega)]
  by_cases e : k = j
  · subst e
    rw [if_pos rfl] at hj
    split at hj
    · cases hj
      rw [if_pos (by simp), Nat.sub_self]
      rfl
    · cases hj
  · rw [if_neg e] at hj
    rw [if_neg (by simp; omega)]
    have := h j u hj
    rwa [Nat.zero_add] at this
theorem eqI_lit (a b : Nat) : eqI (Int.ofNat a) (Int.ofNat b) = decide (a = b) := beq_dec a b
end Go.Proofs.YtgofanjbhbeniaaDoor.lf
end
end

section
/- Leaves: two leaves compared, whatever they are; a burst of bits in a right leaf's block is found. -/
noncomputable section
namespace Go.Proofs.YtgofanjbhbeniaaDoor.lf
open AE
set_option linter.unusedSimpArgs false
set_option linter.unusedVariables false
set_option maxRecDepth 10000

theorem eq8_any (d : Nat) (x y : UInt8) : eqV E (d + 1) 5 (bv x) (bv y) = some (decide (x = y)) := by
  have h : eqI (Int.ofNat x.toNat) (Int.ofNat y.toNat) = decide (x = y) := by
    rw [eqI_lit]
    exact decide_eq_decide.2 ⟨fun e => UInt8.toNat_inj.1 e, fun e => by rw [e]⟩
  simp only [eqV, tyU8, dsU8, bv, h]
  rfl
theorem eqEs_any : ∀ (l m : List UInt8) (d : Nat), l.length = m.length → eqEs E (d + l.length + 2) 5 (l.map bv) (m.map bv) = some (decide (l = m))
  | [], [], d, _ => by simp [eqEs]
  | x :: l, y :: m, d, h => by
    simp only [List.map_cons, List.length_cons]
    show eqEs E ((d + l.length + 2) + 1) _ _ _ = _
    simp only [eqEs]
    rw [eq8_any]
    by_cases e : x = y
    · subst e
      rw [decide_eq_true rfl]
      show eqEs E (d + l.length + 2) _ _ _ = _
      rw [eqEs_any l m d (by simpa using h)]
      simp
    · rw [decide_eq_false e]
      show some false = _
      rw [decide_eq_false (by simp [e])]
  | [], _ :: _, d, h => by simp at h
  | _ :: _, [], d, h => by simp at h
theorem eqInt_any (d : Nat) (x y : Int) : eqV E (d + 1) 3 (.int .i64 x) (.int .i64 y) = some (decide (x = y)) := by
  have : eqI x y = decide (x = y) := by rw [eqI_eq]
  simp only [eqV, tyI, dsI, this]
  rfl
theorem eqArr_any (l m : List UInt8) (hl : l.length = 116) (hm : m.length = 116) : eqV E 993 28 (.agg ⟨l.map bv⟩) (.agg ⟨m.map bv⟩) = some (decide (l = m)) := by
  have h1 : arrB tiA tiU8 116 (l.map bv) (m.map bv) = true := by
    unfold arrB
    rw [gdA, dsU8, szU8, List.length_map, List.length_map, hl, hm]
    rfl
  have h2 := eqEs_any l m 874 (by rw [hl, hm])
  rw [hl] at h2
  show eqV E (992 + 1) _ _ _ = _
  simp only [eqV, tyA, dsA, tyU8, h1]
  exact h2
theorem part0 (d : LeafD) : partA tiI d.cells 0 = some (.int .i64 d.kind) := by unfold partA; rw [dsI]; rfl
theorem part1 (d : LeafD) : partA tiI d.cells 1 = some (.int .i64 d.file) := by unfold partA; rw [dsI]; rfl
theorem part2 (d : LeafD) : partA tiI d.cells 2 = some (.int .i64 d.place) := by unfold partA; rw [dsI]; rfl
theorem part3 (d : LeafD) : partA tiI d.cells 3 = some (.int .i64 d.next) := by unfold partA; rw [dsI]; rfl
theorem part4 (d : LeafD) : partA tiI d.cells 4 = some (.int .i64 d.size) := by unfold partA; rw [dsI]; rfl
theorem part5 (d : LeafD) (hd : d.load.length = 116) : partA tiA d.cells 5 = some (.agg ⟨d.load.map bv⟩) := by
  have hd5 : dropL 5 d.cells = some (d.load.map bv) := rfl
  have htk : takeL 116 (d.load.map bv) = some (d.load.map bv) := by
    have := takeL_all (d.load.map bv)
    rwa [List.length_map, hd] at this
  unfold partA
  rw [hd5, dsA, szA]
  simp only [isAggD, htk]
instance : DecidableEq LeafD := fun a b => if h : a.kind = b.kind ∧ a.file = b.file ∧ a.place = b.place ∧ a.next = b.next ∧ a.size = b.size ∧ a.load = b.load then isTrue (by cases a; cases b; simp_all) else isFalse (fun e => h (by subst e; exact ⟨rfl, rfl, rfl, rfl, rfl, rfl⟩))
theorem leaf_eq_iff (d e : LeafD) : (d = e) ↔ (d.kind = e.kind ∧ d.file = e.file ∧ d.place = e.place ∧ d.next = e.next ∧ d.size = e.size ∧ d.load = e.load) :=
  ⟨fun h => by subst h; exact ⟨rfl, rfl, rfl, rfl, rfl, rfl⟩, fun h => by cases d; cases e; simp_all⟩
theorem eqLeafV (d e : LeafD) (hd : d.load.length = 116) (he : e.load.length = 116) : eqV E 1000 30 (.agg ⟨d.cells⟩) (.agg ⟨e.cells⟩) = some (decide (d = e)) := by
  have hf : eqFs E 999 fsLf.toList d.cells e.cells = some (decide (d = e)) := by
    rw [fs_list]
    show eqFs E (998 + 1) _ _ _ = _
    simp only [eqFs, nm0, nm1, nm2, nm3, nm4, nm5, ft0, ft1, ft2, ft3, ft4, ft5, fo0, fo1, fo2, fo3, fo4, fo5, tyI, tyA, part0, part1, part2, part3, part4, part5 d hd, part5 e he, eqInt_any, eqArr_any d.load e.load hd he]
    by_cases h0 : d.kind = e.kind
    · by_cases h1 : d.file = e.file
      · by_cases h2 : d.place = e.place
        · by_cases h3 : d.next = e.next
          · by_cases h4 : d.size = e.size
            · by_cases h5 : d.load = e.load
              · have hx : d = e := (leaf_eq_iff d e).2 ⟨h0, h1, h2, h3, h4, h5⟩
                subst hx
                simp
              · have hx : ¬ d = e := fun hx => h5 ((leaf_eq_iff d e).1 hx).2.2.2.2.2
                simp [h0, h1, h2, h3, h4, h5, hx]
            · have hx : ¬ d = e := fun hx => h4 ((leaf_eq_iff d e).1 hx).2.2.2.2.1
              simp [h0, h1, h2, h3, h4, hx]
          · have hx : ¬ d = e := fun hx => h3 ((leaf_eq_iff d e).1 hx).2.2.2.1
            simp [h0, h1, h2, h3, hx]
        · have hx : ¬ d = e := fun hx => h2 ((leaf_eq_iff d e).1 hx).2.2.1
          simp [h0, h1, h2, hx]
      · have hx : ¬ d = e := fun hx => h1 ((leaf_eq_iff d e).1 hx).2.1
        simp [h0, h1, hx]
    · have hx : ¬ d = e := fun hx => h0 ((leaf_eq_iff d e).1 hx).1
      simp [h0, hx]
  show eqV E (999 + 1) _ _ _ = _
  simp only [eqV, tyLf, dsLf, gdLf]
  exact hf
theorem eqlLf (d e : LeafD) (hd : d.load.length = 116) (he : e.load.length = 116) : binA E .eql 30 (.agg ⟨d.cells⟩) (.agg ⟨e.cells⟩) = some (.bool (decide (d = e))) := by
  show someB (eqV E 1000 30 (.agg ⟨d.cells⟩) (.agg ⟨e.cells⟩)) true = _
  rw [eqLeafV d e hd he]
  rfl

/-! the sum of a block that is closed -/
end Go.Proofs.YtgofanjbhbeniaaDoor.lf
end
end
