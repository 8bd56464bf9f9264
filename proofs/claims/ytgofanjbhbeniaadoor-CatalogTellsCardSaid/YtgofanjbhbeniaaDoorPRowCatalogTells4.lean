/- Catalogs: the document's leaf of a catalog, told. -/
import Derived.Test.YtgofanjbhbeniaaDoorPRowCatalogTells3
import Derived.Test.YtgofanjbhbeniaaDoorAe35
import Derived.Test.YtgofanjbhbeniaaDoorAe37
import Derived.Test.YtgofanjbhbeniaaDoorAe38
import Derived.Test.YtgofanjbhbeniaaDoorAe41
section
/- Catalogs that may not be: catalog.Put makes the leaf of noughts. -/
noncomputable section
namespace Go.Proofs.YtgofanjbhbeniaaDoor.lf
open AE
set_option linter.unusedSimpArgs false
set_option linter.unusedVariables false
set_option maxRecDepth 10000

theorem rightCA_run {s : S} {a : Option Addr} {cap : Nat} (D : CatD) (hl : D.files.length ≤ 1000000) (hv : Vx s a (fcs D.files)) (hN : ∀ i, i < 2 + 2 * D.files.length → Nat.ble (s.next + i) lastName = true) :
    ∃ s1, (rightCA [.agg ⟨D.cells a cap⟩]).run s = some (.bool D.right, s1) ∧ s1.next = s.next + (2 + 2 * D.files.length) ∧ s1.mark = s.mark ∧ ∀ m, ¬ (s.next ≤ m ∧ m < s.next + (2 + 2 * D.files.length)) → s1.heap.get m = s.heap.get m := by
  obtain ⟨s1, e1, hr, _⟩ := rdV_run hv (fun cs => opt (filesOf cs) fun fs => bump (2 + 2 * D.files.length) (.pure (Value.bool (CatD.right ⟨D.gen, D.step, D.status, D.ended, D.from_, D.to_, D.budget, D.fan, fs⟩))))
  rw [fcs_len] at e1
  obtain ⟨s2, f1, f2, f3, f4⟩ := bump_ok (2 + 2 * D.files.length) (AM.pure (Value.bool D.right)) s1 (by rw [hr.next]; exact hN)
  refine ⟨s2, ?_, by rw [f2, hr.next], by rw [f3, hr.mark], fun m hm => by rw [f4, hr.next, if_neg hm, hr.heap]⟩
  show (when (Nat.ble D.files.length 1000000) (rdV a (4 * D.files.length) fun cs => opt (filesOf cs) fun fs => bump (2 + 2 * D.files.length) (.pure (Value.bool (CatD.right ⟨D.gen, D.step, D.status, D.ended, D.from_, D.to_, D.budget, D.fan, fs⟩))))).run s = _
  rw [show Nat.ble D.files.length 1000000 = true from ble_iff.2 hl]
  rw [show ∀ k : AM Value, when true k = k from fun _ => rfl, e1, filesOf_fcs]
  exact f1

/-- what catalog.Put does with a catalog that may not be -/
def putNA : List Value → AM Value
  | [.agg ⟨[.int .i64 g, .int .i64 st, .int .i64 su, .bool en, .int .i64 f, .int .i64 t, .int .i64 b, .int .i64 fa, .slice a n cap]⟩] =>
    when (Nat.ble n 1000000) (rdV a (4 * n) fun cs => opt (filesOf cs) fun fs => when (not (CatD.right ⟨g, st, su, en, f, t, b, fa, fs⟩)) (bump (4 + 2 * n) (.pure (.agg ⟨zeroL.cells⟩))))
  | _ => .fail
theorem putNA_run {s : S} {a : Option Addr} {cap : Nat} (D : CatD) (hD : D.right = false) (hl : D.files.length ≤ 1000000) (hv : Vx s a (fcs D.files)) (hN : ∀ i, i < 4 + 2 * D.files.length → Nat.ble (s.next + i) lastName = true) :
    ∃ s1, (putNA [.agg ⟨D.cells a cap⟩]).run s = some (.agg ⟨zeroL.cells⟩, s1) ∧ s1.next = s.next + (4 + 2 * D.files.length) ∧ s1.mark = s.mark ∧ ∀ m, ¬ (s.next ≤ m ∧ m < s.next + (4 + 2 * D.files.length)) → s1.heap.get m = s.heap.get m := by
  obtain ⟨s1, e1, hr, _⟩ := rdV_run hv (fun cs => opt (filesOf cs) fun fs => when (not (CatD.right ⟨D.gen, D.step, D.status, D.ended, D.from_, D.to_, D.budget, D.fan, fs⟩)) (bump (4 + 2 * D.files.length) (.pure (Value.agg ⟨zeroL.cells⟩))))
  rw [fcs_len] at e1
  obtain ⟨s2, f1, f2, f3, f4⟩ := bump_ok (4 + 2 * D.files.length) (AM.pure (Value.agg ⟨zeroL.cells⟩)) s1 (by rw [hr.next]; exact hN)
  refine ⟨s2, ?_, by rw [f2, hr.next], by rw [f3, hr.mark], fun m hm => by rw [f4, hr.next, if_neg hm, hr.heap]⟩
  show (when (Nat.ble D.files.length 1000000) (rdV a (4 * D.files.length) fun cs => opt (filesOf cs) fun fs => when (not (CatD.right ⟨D.gen, D.step, D.status, D.ended, D.from_, D.to_, D.budget, D.fan, fs⟩)) (bump (4 + 2 * D.files.length) (.pure (Value.agg ⟨zeroL.cells⟩))))).run s = _
  rw [show Nat.ble D.files.length 1000000 = true from ble_iff.2 hl]
  rw [show ∀ k : AM Value, when true k = k from fun _ => rfl, e1, filesOf_fcs]
  show (when (not D.right) _).run s1 = _
  rw [hD]
  exact f1

noncomputable def fiPN : FI := FI.of Tryd.f7
noncomputable def cdPN : Code := bodyOf Tryd.f7
theorem resPN : fiPN.results = [.cell 2 30] := rfl
abbrev sigPN : List (Nat × (List Value → AM Value)) := [(13, rightCA)]
theorem tolds_PN : Tolds Tryd.prog (sumsOf sigPN) := tolds_cons told_rightC tolds_nil
theorem spR : sumsOf sigPN 13 = some rightCA := rfl
theorem tgRC : ∀ a b, targetA E (.func 13) a b = .pure (.enter 13 (b ++ a)) := tgt (fi := fiCa) (c := cdCa) (by kernel_rfl) (by kernel_rfl)

set_option maxHeartbeats 2000000 in
theorem told_putN : AE.Told Tryd.prog 7 putNA := by
  refine told_go hE hmix tolds_PN ?_
  intro args s v s' h hm
  unfold putNA at h
  split at h
  · rename_i g st su en fo to bu fa a n cap
    obtain ⟨hc, h2⟩ := run_when h
    have hn := ble_iff.1 hc
    obtain ⟨L, s1, hL, hvx, hr1, h3⟩ := vx_of_rd h2
    obtain ⟨fs, hfs, h4⟩ := run_opt h3
    have hLf := filesOf_inv L fs hfs
    subst hLf
    rw [fcs_len] at hL
    obtain rfl : n = fs.length := by omega
    obtain ⟨hR, h5⟩ := run_when h4
    obtain ⟨s9, h6, hn9, hm9, hh9, hbl⟩ := bump_run _ _ _ _ h5
    cases h6
    clear h h2 h3 h4 h5 hL
    rw [hr1.next] at hn9 hh9 hbl
    simp only [hr1.heap] at hh9
    refine go_enter (fi := fiPN) (c := cdPN) (by kernel_rfl) (by kernel_rfl) 74 rfl rfl ?_
    simp only [cdPN, Tryd.f7, bodyOf]
    obtain ⟨D, hD⟩ : ∃ D : CatD, D = ⟨g, st, su, en, fo, to, bu, fa, fs⟩ := ⟨_, rfl⟩
    have hcells : D.cells a cap = [.int .i64 g, .int .i64 st, .int .i64 su, .bool en, .int .i64 fo, .int .i64 to, .int .i64 bu, .int .i64 fa, .slice a fs.length cap] := by subst hD; rfl
    have hfl : D.files = fs := by rw [hD]
    rw [← hD] at hR
    rw [← hcells]
    have hR' : D.right = false := by cases hh : D.right with | false => rfl | true => rw [hh] at hR; cases hR
    have hlen : (D.cells a cap).length = 9 := rfl
    have h0 : (Tr.ofList [Value.agg ⟨D.cells a cap⟩]).get 0 = some (.agg ⟨D.cells a cap⟩) := rfl
    generalize Tr.ofList [Value.agg ⟨D.cells a cap⟩] = t at *
    have hzb : Nat.ble zeroL.cells.length lastName = true := by rw [zeroL.len zero_len]; rfl
    have hzl : Nat.beq zeroL.cells.length 121 = true := by rw [zeroL.len zero_len]; rfl
    have hN0 : Nat.ble s.next lastName = true := hbl 0 (by omega)
    have hN1 : Nat.ble (s.next + 1) lastName = true := hbl 1 (by omega)
    have hN1' : Nat.ble (Nat.succ s.next) lastName = true := hN1
    repeat apply go_seq
    apply go_region
    case h => intro m; simp (maxSteps := 2000000) (disch := decide) only [opsLoop, evOper, wantedA, nth, aop, aPick, aBin, aIndexAddr, aFieldAddr, aLoad, aStore, aExtract, aConvert, aAlloc, aBox, aIndex, callA, builtinA, Fr.evs, opt, val, when, AM.run, outV, newA, ptr, force_eq, seen_heap, seen_next, seen_mark, seen_seen, agg_cells, int_cells, Fr.ev, Fr.put, onFr, gps, gpn, bltT, still, flat, List.append_nil, List.nil_append, List.cons_append, Nat.reduceEqDiff, ne_eq, not_false_eq_true, reduceCtorEq, Bool.and_true, Bool.true_and, Bool.and_false, Bool.false_and, Bool.not_true, Bool.not_false, Bool.and_self, h0, tyC, hN0, hN1', tyLf, zeLf, hzb, show Nat.ble (D.cells a cap).length lastName = true from rfl]; rfl
    generalize hs1 : S.mk _ _ _ _ _ = s2
    have e1 : s2.next = s.next + 2 := by rw [← hs1]
    have e1h : s2.heap = (s.heap.put s.next (some (.cells (Tr.ofList (D.cells a cap)) (D.cells a cap).length 27 .whole))).put (s.next + 1) (some (.cells (Tr.ofList zeroL.cells) zeroL.cells.length 30 .whole)) := by rw [← hs1]
    clear hs1
    rw [show Nat.succ s.next = s.next + 1 from rfl]
    have C1 : Cl s2 s.next 0 (D.cells a cap) := Cl.new (by omega) (by rw [e1h, hg_far hN1 (by omega)]; exact hg_same hN0 _ _) (by rw [hcells]; simp)
    have O1 : LfAt s2 (s.next + 1) zeroL := ⟨by omega, ⟨_, _, _, by rw [e1h, hg_same hN1, zeroL.len zero_len], row_ofList _ (by rw [zeroL.len zero_len]; unfold Tr.wide; omega)⟩, zero_len⟩
    have hlt : ∀ m, m ≠ s.next → m ≠ s.next + 1 → s2.heap.get m = s.heap.get m := fun m q1 q2 => by rw [e1h, hg_far hN1 (by omega), hg_far hN0 (by omega)]
    clear e1h
    have hv2 : Vx s2 a (fcs D.files) := by rw [hfl]; exact hvx.keep (by omega) (fun m hm => hlt m (by omega) (by omega))
    obtain ⟨H, N, mk, rd, wr⟩ := s2
    simp only at e1 hlt
    have l1 := C1.ldA (β := ANext) tiC (by rw [dsC]; rfl) (by rw [szC]; rfl)
    obtain ⟨s3, r3, n3, m3, g3⟩ := rightCA_run (s := (⟨H, N, mk, rd, wr⟩ : S).seen s.next) (a := a) (cap := cap) D (by rw [hfl]; exact hn) (hv2.keep (Nat.le_refl _) (fun _ _ => rfl)) (by
      rw [hfl]; intro i hi
      show Nat.ble (N + i) lastName = true
      rw [e1, Nat.add_assoc]; exact hbl _ (by omega))
    rw [hR'] at r3
    simp only [S.seen] at r3 n3 g3
    have n3 : s3.next = s.next + (4 + 2 * fs.length) := by rw [n3, hfl]; omega
    have O3 : LfAt s3 (s.next + 1) zeroL := ⟨by omega, by rw [g3 _ (by rw [hfl]; omega)]; exact O1.cell, zero_len⟩
    have hlt3 : ∀ m, ¬ (s.next ≤ m ∧ m < s.next + (4 + 2 * fs.length)) → s3.heap.get m = s.heap.get m := fun m hm => by rw [g3 m (by rw [hfl]; omega)]; exact hlt m (by omega) (by omega)
    obtain ⟨c, e, rm, sst, hrow⟩ := O3.store hN1 zero_len
    have O4 : LfAt ((s3.seen (s.next + 1)).turn (s.next + 1) (some (.cells c 121 e rm))) (s.next + 1) zeroL := ⟨by show s.next + 1 < s3.next; omega, ⟨c, e, rm, hg_same hN1 _ _, hrow⟩, zero_len⟩
    have lo := fun k : Value → AM Value => O4.loadK k
    repeat apply go_seq
    apply go_region
    case h => intro m; simp (maxSteps := 2000000) (disch := decide) only [opsLoop, evOper, wantedA, nth, aop, aPick, aBin, aIndexAddr, aFieldAddr, aLoad, aStore, aExtract, aConvert, aAlloc, aBox, aIndex, callA, builtinA, Fr.evs, opt, val, when, AM.run, outV, newA, ptr, force_eq, seen_heap, seen_next, seen_mark, seen_seen, agg_cells, int_cells, Fr.ev, Fr.put, onFr, gps, gpn, bltT, still, flat, List.append_nil, List.nil_append, List.cons_append, Nat.reduceEqDiff, ne_eq, not_false_eq_true, reduceCtorEq, Bool.and_true, Bool.true_and, Bool.and_false, Bool.false_and, Bool.not_true, Bool.not_false, Bool.and_self, tyC, l1, tgRC, evT_told spR, r3, u_not]; rfl
    repeat apply go_seq
    apply go_cond
    case hc => simp (disch := decide) only [opsLoop, evOper, wantedA, nth, aop, aPick, aBin, aIndexAddr, aFieldAddr, aLoad, aStore, aExtract, aConvert, aAlloc, aBox, aIndex, callA, builtinA, Fr.evs, opt, val, when, AM.run, outV, newA, ptr, force_eq, seen_heap, seen_next, seen_mark, seen_seen, agg_cells, int_cells, Fr.ev, Fr.put, onFr, gps, gpn, bltT, still, flat, List.append_nil, List.nil_append, List.cons_append, Nat.reduceEqDiff, ne_eq, not_false_eq_true, reduceCtorEq, Bool.and_true, Bool.true_and, Bool.and_false, Bool.false_and, Bool.not_true, Bool.not_false, Bool.and_self]; rfl
    case h2 => intro h; cases h
    intro _
    repeat apply go_seq
    apply go_region
    case h => intro m; simp (maxSteps := 2000000) (disch := decide) only [opsLoop, evOper, wantedA, nth, aop, aPick, aBin, aIndexAddr, aFieldAddr, aLoad, aStore, aExtract, aConvert, aAlloc, aBox, aIndex, callA, builtinA, Fr.evs, opt, val, when, AM.run, outV, newA, ptr, force_eq, seen_heap, seen_next, seen_mark, seen_seen, agg_cells, int_cells, Fr.ev, Fr.put, onFr, gps, gpn, bltT, still, flat, List.append_nil, List.nil_append, List.cons_append, Nat.reduceEqDiff, ne_eq, not_false_eq_true, reduceCtorEq, Bool.and_true, Bool.true_and, Bool.and_false, Bool.false_and, Bool.not_true, Bool.not_false, Bool.and_self, aBuild, evParts, tyLf, zeLf, dsLf, places_eq, fillA, szLf, hzl, sst]; rfl
    repeat apply go_seq
    apply go_ret
    apply ret_intro rfl rfl
    case run => simp (disch := decide) only [resultsM, resultsA, resPN, opsLoop, evOper, wantedA, nth, aop, aPick, aBin, aIndexAddr, aFieldAddr, aLoad, aStore, aExtract, aConvert, aAlloc, aBox, aIndex, callA, builtinA, Fr.evs, opt, val, when, AM.run, outV, newA, ptr, force_eq, seen_heap, seen_next, seen_mark, seen_seen, agg_cells, int_cells, Fr.ev, Fr.put, onFr, gps, gpn, bltT, still, flat, List.append_nil, List.nil_append, List.cons_append, Nat.reduceEqDiff, ne_eq, not_false_eq_true, reduceCtorEq, Bool.and_true, Bool.true_and, Bool.and_false, Bool.false_and, Bool.not_true, Bool.not_false, Bool.and_self, tyLf, lo]; rfl
    refine ⟨rfl, less_new (s := s) (n := 4 + 2 * fs.length) (by show s3.next ≤ _; omega) hn9 hh9 ?_⟩
    intro m hm2
    show (s3.heap.put (s.next + 1) _).get m = _
    rw [hg_far hN1 (by omega)]
    exact hlt3 m hm2
  · cases h
end Go.Proofs.YtgofanjbhbeniaaDoor.lf
end
end

section
/- Catalogs in leaves: what catalog.Put makes of one that may be, evaluated. -/
noncomputable section
namespace Go.Proofs.YtgofanjbhbeniaaDoor.lf
open AE
set_option linter.unusedSimpArgs false
set_option linter.unusedVariables false
set_option maxRecDepth 10000

theorem cells_of {s : S} {n m : Nat} {e : TypeId} {r : Room} {L : List Value} (hn : n < s.next) (h : cellsAt s n = some (m, e, r, some L)) : Cl s n 0 L := by
  unfold cellsAt at h
  split at h
  · rename_i c m' e' r' hg
    simp only [Option.some.injEq, Prod.mk.injEq] at h
    obtain ⟨rfl, rfl, rfl, h4⟩ := h
    obtain ⟨h5, h6⟩ := row_of_rd h4
    exact ⟨hn, c, m', .inl ⟨e', r', hg⟩, by omega, h6⟩
  · cases h

/-- pieces, evaluated plainly: numbers may be letters -/
def evPt (E : Env) (σ : Sums) (n : Nat) : List Code → Fr → S → Option (Fr × S)
  | [], fr, s => some (fr, s)
  | c :: l, fr, s => match evT E σ n (.code c fr) s with
    | some (.fr .normal fr, s) => evPt E σ n l fr s
    | _ => none
theorem evPt_eq (E : Env) (σ : Sums) (n : Nat) : ∀ (l : List Code) (fr : Fr) (s : S), evPs E σ n l fr s = evPt E σ n l fr s
  | [], fr, s => rfl
  | c :: l, fr, s => by
    simp only [evPs, evPt, evFT_eq]
    cases evT E σ n (.code c fr) s with
    | none => rfl
    | some p =>
      obtain ⟨o, s1⟩ := p
      cases o with
      | val v => rfl
      | fr x fr1 =>
        cases x with
        | normal => exact evPt_eq E σ n l fr1 s1
        | _ => rfl

def u8V (x : Int) : Value := .int .u8 (wrapA .u8 x)
def lowV (x : Int) : Nat → Value := fun i => u8V (Int.fdiv x (pow2 (8 * i)))
def low4 (x : Int) : List Value := [lowV x 0, lowV x 1, lowV x 2, lowV x 3]
def low2 (x : Int) : List Value := [lowV x 0, lowV x 1]
def fileV (f : FileD) : List Value := u8V f.name :: low2 f.file ++ low2 f.first ++ low2 f.blocks
def filesV : List FileD → List Value
  | [] => []
  | f :: l => fileV f ++ filesV l
def endV : Bool → Value
  | true => .int .u8 1
  | false => .int .u8 0
def encV (D : CatD) : List Value := low4 D.gen ++ [u8V D.step, u8V D.status, endV D.ended, u8V D.budget, u8V D.fan] ++ low4 D.from_ ++ low4 D.to_ ++ filesV D.files
def zerosV : Nat → List Value
  | 0 => []
  | n + 1 => .int .u8 0 :: zerosV n
def putV_ (D : CatD) : List Value := [.int .i64 2, .int .i64 0, .int .i64 0, .int .i64 0, .int .i64 (.ofNat (17 + 7 * D.files.length))] ++ (encV D ++ zerosV (99 - 7 * D.files.length))

noncomputable def psP : List Code := [sub [1,1,0] cdPN, sub [1,1,1,0] cdPN, sub [1,1,1,1,0] cdPN, sub [1,1,1,1,1,0] cdPN, sub [1,1,1,1,1,1,0] cdPN, sub [1,1,1,1,1,1,1,0] cdPN, sub [1,1,1,1,1,1,1,1,0] cdPN, sub [1,1,1,1,1,1,1,1,1,0] cdPN]
theorem chPN : sub [1,1] cdPN = chainC psP .ret := by kernel_rfl
def flOf (fl : Nat → FileD) (m : Nat) : List FileD := (List.range m).map fl
def catL (g st su fo to bu fa : Int) (en : Bool) (fl : Nat → FileD) (m : Nat) : CatD := ⟨g, st, su, en, fo, to, bu, fa, flOf fl m⟩
def frP : Fr := ⟨7, trOf [(1, .pointer (some ⟨1, 0, none⟩)), (2, .pointer (some ⟨2, 0, none⟩))], 74, [], none⟩
def rowP (D : CatD) (e : TypeId) : Option Addr → List (Nat × AObj)
  | none => []
  | some _ => [(0, .row (Tr.ofList (fcs D.files)) (fcs D.files).length e)]
def sP (D : CatD) (a : Option Addr) (cap : Nat) (e : TypeId) : S := ⟨trOf (rowP D e a ++ [(1, .cells (Tr.ofList (D.cells a cap)) 9 27 .whole), (2, .cells (Tr.ofList zeroL.cells) 121 30 .whole)]), 40, 0, 0, 0⟩
abbrev PP : Type := (FuncId × Nat × List Deferred × Option Nat) × Option Value × Bool × Option (Nat × TypeId × Room × Option (List Value))
def probP (r : Option (Fr × S)) (b : Nat) : Option PP := match r with
  | none => none
  | some (fr, s) => some ((fr.fn, fr.n, fr.defers, fr.round), fr.tmps.get 2, Nat.ble s.next 5000, cellsAt s b)
noncomputable def runP (D : CatD) (a : Option Addr) (cap : Nat) (e : TypeId) : Option (Fr × S) := evPt E (sumsOf []) 3000 psP frP (sP D a cap e)
def wantP (D : CatD) : Option PP := some ((7, 74, [], none), some (.pointer (some ⟨2, 0, none⟩)), true, some (121, 30, .whole, some (putV_ D)))
set_option maxRecDepth 100000 in
set_option maxHeartbeats 100000000 in
theorem put_run_false (g st su fo to bu fa : Int) (fl : Nat → FileD) (cap : Nat) (e : TypeId) : (List.range 15).map (fun m => probP (runP (catL g st su fo to bu fa false fl m) (some ⟨0, 0, none⟩) cap e) 2) = (List.range 15).map (fun m => wantP (catL g st su fo to bu fa false fl m)) := by kernel_rfl
set_option maxRecDepth 100000 in
set_option maxHeartbeats 100000000 in
theorem put_nil_false (g st su fo to bu fa : Int) (fl : Nat → FileD) (cap : Nat) (e : TypeId) : probP (runP (catL g st su fo to bu fa false fl 0) none cap e) 2 = wantP (catL g st su fo to bu fa false fl 0) := by kernel_rfl
set_option maxRecDepth 100000 in
set_option maxHeartbeats 100000000 in
theorem put_run_true (g st su fo to bu fa : Int) (fl : Nat → FileD) (cap : Nat) (e : TypeId) : (List.range 15).map (fun m => probP (runP (catL g st su fo to bu fa true fl m) (some ⟨0, 0, none⟩) cap e) 2) = (List.range 15).map (fun m => wantP (catL g st su fo to bu fa true fl m)) := by kernel_rfl
set_option maxRecDepth 100000 in
set_option maxHeartbeats 100000000 in
theorem put_nil_true (g st su fo to bu fa : Int) (fl : Nat → FileD) (cap : Nat) (e : TypeId) : probP (runP (catL g st su fo to bu fa true fl 0) none cap e) 2 = wantP (catL g st su fo to bu fa true fl 0) := by kernel_rfl
end Go.Proofs.YtgofanjbhbeniaaDoor.lf
end
end

section
/- Catalogs in leaves: what catalog.Put does, told. -/
noncomputable section
namespace Go.Proofs.YtgofanjbhbeniaaDoor.lf
open AE
set_option linter.unusedSimpArgs false
set_option linter.unusedVariables false
set_option maxRecDepth 10000

/-- whole numbers alone -/
def Ints (l : List Value) : Prop := ∀ v ∈ l, ∃ k n, v = .int k n
theorem Ints.nil : Ints [] := fun v h => by cases h
theorem Ints.cons {k : IntKind} {n : Int} {l : List Value} (h : Ints l) : Ints (.int k n :: l) := fun v hv => by
  rcases List.mem_cons.1 hv with rfl | hv
  · exact ⟨k, n, rfl⟩
  · exact h v hv
theorem Ints.app {a b : List Value} (h : Ints a) (h' : Ints b) : Ints (a ++ b) := fun v hv => (List.mem_append.1 hv).elim (h v) (h' v)
theorem Ints.plain {l : List Value} (h : Ints l) : ∀ v ∈ l, Plain v := fun v hv => by
  obtain ⟨k, n, rfl⟩ := h v hv
  exact plain_int k n
theorem ints_zeros : ∀ n, Ints (zerosV n)
  | 0 => .nil
  | n + 1 => .cons (ints_zeros n)
theorem ints_files : ∀ l, Ints (filesV l)
  | [] => .nil
  | f :: l => .app (.cons (.cons (.cons (.cons (.cons (.cons (.cons .nil))))))) (ints_files l)
theorem ints_fcs : ∀ l, Ints (fcs l)
  | [] => .nil
  | f :: l => .cons (.cons (.cons (.cons (ints_fcs l))))
theorem ints_put (D : CatD) : Ints (putV_ D) := by
  unfold putV_ encV
  have he : Ints [u8V D.step, u8V D.status, endV D.ended, u8V D.budget, u8V D.fan] := by
    cases D.ended <;> exact .cons (.cons (.cons (.cons (.cons .nil))))
  have h4 : ∀ x, Ints (low4 x) := fun x => .cons (.cons (.cons (.cons .nil)))
  exact .app (.cons (.cons (.cons (.cons (.cons .nil))))) (.app (.app (.app (.app (.app (h4 _) he) (h4 _)) (h4 _)) (ints_files _)) (ints_zeros _))

theorem filesV_len : ∀ l, (filesV l).length = 7 * l.length
  | [] => rfl
  | f :: l => by
    have : (fileV f).length = 7 := rfl
    simp only [filesV, List.length_append, this, filesV_len l, List.length_cons]; omega
theorem zerosV_len : ∀ n, (zerosV n).length = n
  | 0 => rfl
  | n + 1 => by simp only [zerosV, List.length_cons, zerosV_len n]
theorem putV_len (D : CatD) (h : D.files.length ≤ 14) : (putV_ D).length = 121 := by
  have h4 : ∀ x, (low4 x).length = 4 := fun x => rfl
  unfold putV_ encV
  simp only [List.length_append, h4, filesV_len, zerosV_len, List.length_cons, List.length_nil]
  omega

/-- what catalog.Put does with a catalog that may be -/
def putRA : List Value → AM Value
  | [.agg ⟨[.int .i64 g, .int .i64 st, .int .i64 su, .bool en, .int .i64 f, .int .i64 t, .int .i64 b, .int .i64 fa, .slice a n cap]⟩] =>
    when (Nat.ble n 1000000) (rdV a (4 * n) fun cs => opt (filesOf cs) fun fs => when (CatD.right ⟨g, st, su, en, f, t, b, fa, fs⟩) (.pure (.agg ⟨putV_ ⟨g, st, su, en, f, t, b, fa, fs⟩⟩)))
  | _ => .fail
theorem right_len {D : CatD} (h : D.right = true) : D.files.length ≤ 14 := by
  unfold CatD.right CatD.midOK at h
  simp only [Bool.and_eq_true] at h
  obtain ⟨_, ⟨_, _, h3⟩, _⟩ := h
  have h4 : ltI 14 (Int.ofNat D.files.length) = false := by simpa using h3
  rw [ltI_eq] at h4
  have := of_decide_eq_false h4
  have e : Int.ofNat D.files.length = (D.files.length : Int) := rfl
  omega
theorem fl_of (fs : List FileD) : flOf (fun i => fs.getD i ⟨0, 0, 0, 0⟩) fs.length = fs := by
  unfold flOf
  apply List.ext_getElem?
  intro i
  rw [List.getElem?_map]
  by_cases h : i < fs.length
  · rw [List.getElem?_range h, List.getElem?_eq_getElem h]
    simp [List.getD, List.getElem?_eq_getElem h]
  · rw [List.getElem?_eq_none (by simpa using h), List.getElem?_eq_none (by omega)]
    rfl
theorem put_some (D : CatD) (hD : D.files.length ≤ 14) (a : Option Addr) (ha : a = none ∧ D.files = [] ∨ a = some ⟨0, 0, none⟩) (cap : Nat) (e : TypeId) : probP (runP D a cap e) 2 = wantP D := by
  obtain ⟨g, st, su, en, fo, to, bu, fa, fs⟩ := D
  simp only at hD
  have hc : (⟨g, st, su, en, fo, to, bu, fa, fs⟩ : CatD) = catL g st su fo to bu fa en (fun i => fs.getD i ⟨0, 0, 0, 0⟩) fs.length := by
    unfold catL; rw [fl_of]
  rcases ha with ⟨rfl, h0⟩ | rfl
  · simp only at h0
    subst h0
    cases en with
    | true => exact put_nil_true g st su fo to bu fa (fun _ => ⟨0, 0, 0, 0⟩) cap e
    | false => exact put_nil_false g st su fo to bu fa (fun _ => ⟨0, 0, 0, 0⟩) cap e
  · rw [hc]
    cases en with
    | true => exact List.map_inj_left.1 (put_run_true g st su fo to bu fa _ cap e) fs.length (List.mem_range.2 (by omega))
    | false => exact List.map_inj_left.1 (put_run_false g st su fo to bu fa _ cap e) fs.length (List.mem_range.2 (by omega))

theorem chPN0 : cdPN = .seq (sub [0] cdPN) (.seq (sub [1,0] cdPN) (sub [1,1] cdPN)) := rfl
set_option maxHeartbeats 2000000 in
theorem putR_gow (q : Free) (hq : 6000 ≤ q.hi) (D : CatD) (hD : D.right = true) (a : Option Addr) (cap : Nat) (e : TypeId) (sI : S) (hn : sI.next ≤ 1) (ha : a = none ∧ D.files = [] ∨ a = some ⟨0, 0, none⟩ ∧ 0 < sI.next ∧ sI.heap.get 0 = some (.row (Tr.ofList (fcs D.files)) (fcs D.files).length e)) :
    GoW Tryd.prog q cdPN ⟨7, Tr.ofList [.agg ⟨D.cells a cap⟩], 74, [], none⟩ sI (Ret E 7 fiPN fun v _ => v = .agg ⟨putV_ D⟩) := by
  have hlen := right_len hD
  refine gow_less (fr2 := ⟨7, Tr.ofList [.agg ⟨D.cells a cap⟩], 74, [], none⟩) (s2 := ⟨sI.heap, 1, 0, 0, 0⟩) ?_ ⟨hn, fun m o ho => ⟨o, ho, .refl o⟩⟩ (Nat.zero_le _) ⟨rfl, rfl, rfl, rfl, fun _ _ h => h⟩
  have hV : Vx ⟨sI.heap, 1, 0, 0, 0⟩ a (fcs D.files) := by
    rcases ha with ⟨rfl, h0⟩ | ⟨rfl, h0, h1⟩
    · show fcs D.files = []; rw [h0]; rfl
    · refine ⟨rfl, ⟨Nat.zero_lt_one, _, _, .inr ⟨_, h1⟩, by rw [Nat.zero_add]; exact Nat.le_refl _, row_ofList _ (by rw [fcs_len]; unfold Tr.wide; omega)⟩⟩
  rw [chPN0]
  generalize hrest : sub [1,1] cdPN = rest
  simp only [cdPN, Tryd.f7, bodyOf, sub]
  have h0 : (Tr.ofList [Value.agg ⟨D.cells a cap⟩]).get 0 = some (.agg ⟨D.cells a cap⟩) := rfl
  generalize Tr.ofList [Value.agg ⟨D.cells a cap⟩] = t at *
  have hzb : Nat.ble zeroL.cells.length lastName = true := by rw [zeroL.len zero_len]; rfl
  generalize hHI : sI.heap = HI at *
  apply gow_seq
  apply gow_of hE hmix tolds_nil
  repeat apply go_seq
  apply go_region
  case h => intro m; simp (maxSteps := 2000000) (disch := decide) only [opsLoop, evOper, wantedA, nth, aop, aPick, aBin, aIndexAddr, aFieldAddr, aLoad, aStore, aExtract, aConvert, aAlloc, aBox, aIndex, callA, builtinA, Fr.evs, opt, val, when, AM.run, outV, newA, ptr, force_eq, seen_heap, seen_next, seen_mark, seen_seen, agg_cells, int_cells, Fr.ev, Fr.put, onFr, gps, gpn, bltT, still, flat, List.append_nil, List.nil_append, List.cons_append, Nat.reduceEqDiff, ne_eq, not_false_eq_true, reduceCtorEq, Bool.and_true, Bool.true_and, Bool.and_false, Bool.false_and, Bool.not_true, Bool.not_false, Bool.and_self, h0, tyC, show Nat.ble 1 lastName = true from rfl, show Nat.ble (Nat.succ 1) lastName = true from rfl, tyLf, zeLf, hzb, show Nat.ble (D.cells a cap).length lastName = true from rfl]; rfl
  refine ⟨by show 3 ≤ q.hi; omega, ?_⟩
  show GoW _ _ _ _ _ _
  generalize hs1 : S.mk _ _ _ _ _ = s2
  have e1 : s2.next = 3 := by rw [← hs1]
  have b1 : Nat.ble 1 lastName = true := rfl
  have b2 : Nat.ble 2 lastName = true := rfl
  have e1h : s2.heap = (HI.put 1 (some (.cells (Tr.ofList (D.cells a cap)) (D.cells a cap).length 27 .whole))).put 2 (some (.cells (Tr.ofList zeroL.cells) zeroL.cells.length 30 .whole)) := by rw [← hs1]
  clear hs1
  have o1 : s2.heap.get 1 = some (.cells (Tr.ofList (D.cells a cap)) 9 27 .whole) := by rw [e1h, hg_far b2 (by omega)]; exact hg_same b1 _ _
  have o2 : s2.heap.get 2 = some (.cells (Tr.ofList zeroL.cells) 121 30 .whole) := by rw [e1h, hg_same b2, zeroL.len zero_len]
  have o0 : s2.heap.get 0 = HI.get 0 := by rw [e1h, hg_far b2 (by omega), hg_far b1 (by omega)]
  clear e1h
  have C1 : Cl s2 1 0 (D.cells a cap) := ⟨by omega, _, _, .inl ⟨_, _, o1⟩, by show 0 + 9 ≤ 9; omega, row_ofList _ (by show 9 ≤ _; unfold Tr.wide; omega)⟩
  have hv2 : Vx s2 a (fcs D.files) := by
    rcases ha with ⟨rfl, h0⟩ | ⟨rfl, h0, h1⟩
    · exact hV
    · exact ⟨rfl, hV.2.keep (by show 1 ≤ _; omega) o0⟩
  obtain ⟨H, N, mk, rd, wr⟩ := s2
  simp only at e1 o1 o2 o0
  have l1 := C1.ldA (β := ANext) tiC (by rw [dsC]; rfl) (by rw [szC]; rfl)
  obtain ⟨s3, r3, n3, m3, g3⟩ := rightCA_run (s := (⟨H, N, mk, rd, wr⟩ : S).seen 1) (a := a) (cap := cap) D (by omega) (hv2.keep (Nat.le_refl _) (fun _ _ => rfl)) (by
    intro i hi
    show Nat.ble (N + i) lastName = true
    exact ble_iff.2 (by unfold lastName; omega))
  rw [hD] at r3
  simp only [S.seen] at r3 n3 g3 m3
  apply gow_seq
  apply gow_of hE hmix tolds_PN
  repeat apply go_seq
  apply go_region
  case h => intro m; simp (maxSteps := 2000000) (disch := decide) only [opsLoop, evOper, wantedA, nth, aop, aPick, aBin, aIndexAddr, aFieldAddr, aLoad, aStore, aExtract, aConvert, aAlloc, aBox, aIndex, callA, builtinA, Fr.evs, opt, val, when, AM.run, outV, newA, ptr, force_eq, seen_heap, seen_next, seen_mark, seen_seen, agg_cells, int_cells, Fr.ev, Fr.put, onFr, gps, gpn, bltT, still, flat, List.append_nil, List.nil_append, List.cons_append, Nat.reduceEqDiff, ne_eq, not_false_eq_true, reduceCtorEq, Bool.and_true, Bool.true_and, Bool.and_false, Bool.false_and, Bool.not_true, Bool.not_false, Bool.and_self, tyC, l1, tgRC, evT_told spR, r3, u_not]; rfl
  repeat apply go_seq
  apply go_cond
  case hc => simp (disch := decide) only [opsLoop, evOper, wantedA, nth, aop, aPick, aBin, aIndexAddr, aFieldAddr, aLoad, aStore, aExtract, aConvert, aAlloc, aBox, aIndex, callA, builtinA, Fr.evs, opt, val, when, AM.run, outV, newA, ptr, force_eq, seen_heap, seen_next, seen_mark, seen_seen, agg_cells, int_cells, Fr.ev, Fr.put, onFr, gps, gpn, bltT, still, flat, List.append_nil, List.nil_append, List.cons_append, Nat.reduceEqDiff, ne_eq, not_false_eq_true, reduceCtorEq, Bool.and_true, Bool.true_and, Bool.and_false, Bool.false_and, Bool.not_true, Bool.not_false, Bool.and_self]; rfl
  case h1 => intro h; cases h
  intro _
  apply go_skip
  refine ⟨by show s3.next ≤ q.hi; omega, ?_⟩
  show GoW _ _ _ _ _ _
  obtain ⟨t4, s4, hr4, h2, hn4, hc4⟩ : ∃ t s, runP D a cap e = some (⟨7, t, 74, [], none⟩, s) ∧ t.get 2 = some (.pointer (some ⟨2, 0, none⟩)) ∧ s.next ≤ 5000 ∧ cellsAt s 2 = some (121, 30, .whole, some (putV_ D)) := by
    have hp := put_some D hlen a (ha.imp id (fun h => h.1)) cap e
    unfold probP wantP at hp
    split at hp
    · cases hp
    · rename_i fr s h
      obtain ⟨f1, t, n1, d1, r1⟩ := fr
      simp only [Option.some.injEq, Prod.mk.injEq] at hp
      obtain ⟨⟨rfl, rfl, rfl, rfl⟩, h5, h6, h7⟩ := hp
      exact ⟨t, s, h, h5, ble_iff.1 h6, h7⟩
  have gg : ∀ m, m < 3 → s3.heap.get m = H.get m := fun m hm => g3 m (by omega)
  refine gow_less (fr2 := frP) (s2 := sP D a cap e) ?_ (s_keep _ _ _ (by omega) (by
    intro x hx
    rcases List.mem_append.1 hx with hx | hx
    · cases a with
      | none => cases hx
      | some _ => simp only [rowP, List.mem_singleton] at hx; subst hx; simp; unfold Tr.wide; omega
    · simp only [List.mem_cons, List.not_mem_nil, or_false] at hx
      rcases hx with rfl | rfl <;> (unfold Tr.wide; omega)) (by
    intro x hx
    rcases List.mem_append.1 hx with hx | hx
    · rcases ha with ⟨rfl, h0⟩ | ⟨rfl, h0, h1⟩
      · cases hx
      · simp only [rowP, List.mem_singleton] at hx
        subst hx
        exact ⟨_, by rw [gg 0 (by omega), o0]; exact h1, .refl _⟩
    · simp only [List.mem_cons, List.not_mem_nil, or_false] at hx
      rcases hx with rfl | rfl
      · exact ⟨_, by rw [gg 1 (by omega)]; exact o1, .refl _⟩
      · exact ⟨_, by rw [gg 2 (by omega)]; exact o2, .refl _⟩)) (Nat.zero_le _) (fr_keep _ (by
    intro y hy
    simp only [List.mem_cons, List.not_mem_nil, or_false] at hy
    rcases hy with rfl | rfl <;> (unfold Tr.wide; omega)) (by
    intro y hy
    simp only [List.mem_cons, List.not_mem_nil, or_false] at hy
    rcases hy with rfl | rfl
    · simp (disch := decide) only [gps, gpn]
    · simp (disch := decide) only [gps, gpn]))
  rw [← hrest, chPN]
  refine gow_pieces hE hmix tolds_nil 3000 psP _ _ _ _ (by rw [evPt_eq]; exact hr4) (by omega) (Nat.zero_le _) ?_
  have C4 := cells_of (n := 2) (s := s4) (by
    unfold cellsAt at hc4
    rcases Nat.lt_or_ge 2 s4.next with hh | hh
    · exact hh
    · have := evPs_next E (sumsOf []) 3000 psP frP (sP D a cap e) _ _ (by rw [evPt_eq]; exact hr4) (Nat.zero_le _)
      have h40 : (40 : Nat) ≤ s4.next := this.1
      omega) hc4
  obtain ⟨H4, N4, mk4, rd4, wr4⟩ := s4
  have lo := fun k : Value → AM Value => C4.ldA tiLf (by rw [dsLf]; rfl) (by rw [szLf]; exact (putV_len D hlen).symm) k
  apply gow_of hE hmix tolds_nil
  apply go_ret
  refine ⟨by omega, ?_⟩
  apply ret_intro rfl rfl
  case run => simp (disch := decide) only [resultsM, resultsA, resPN, opsLoop, evOper, wantedA, nth, aop, aPick, aBin, aIndexAddr, aFieldAddr, aLoad, aStore, aExtract, aConvert, aAlloc, aBox, aIndex, callA, builtinA, Fr.evs, opt, val, when, AM.run, outV, newA, ptr, force_eq, seen_heap, seen_next, seen_mark, seen_seen, agg_cells, int_cells, Fr.ev, Fr.put, onFr, gps, gpn, bltT, still, flat, List.append_nil, List.nil_append, List.cons_append, Nat.reduceEqDiff, ne_eq, not_false_eq_true, reduceCtorEq, Bool.and_true, Bool.true_and, Bool.and_false, Bool.false_and, Bool.not_true, Bool.not_false, Bool.and_self, h2, tyLf, lo]; rfl
  rfl
end Go.Proofs.YtgofanjbhbeniaaDoor.lf
end
end

section
/- Catalogs in leaves: catalog.Put, told for all catalogs. -/
noncomputable section
namespace Go.Proofs.YtgofanjbhbeniaaDoor.lf
open AE
set_option linter.unusedSimpArgs false
set_option linter.unusedVariables false
set_option maxRecDepth 10000

theorem rd_less {s s1 : S} (h : Rd s s1) : Less' s s1 := ⟨by rw [h.next]; exact Nat.le_refl _, fun m o ho => ⟨o, by rw [← h.heap]; exact ho, .refl o⟩⟩
theorem cat_inv {ρ : Ren} {g st su fo to bu fa : Int} {en : Bool} {sv : Value} {l' : List Value} (h : LR ρ [.int .i64 g, .int .i64 st, .int .i64 su, .bool en, .int .i64 fo, .int .i64 to, .int .i64 bu, .int .i64 fa, sv] l') :
    ∃ sv', l' = [.int .i64 g, .int .i64 st, .int .i64 su, .bool en, .int .i64 fo, .int .i64 to, .int .i64 bu, .int .i64 fa, sv'] ∧ VR ρ sv sv' := by
  cases h with
  | cons a0 h => cases h with
    | cons a1 h => cases h with
      | cons a2 h => cases h with
        | cons a3 h => cases h with
          | cons a4 h => cases h with
            | cons a5 h => cases h with
              | cons a6 h => cases h with
                | cons a7 h => cases h with
                  | cons a8 h => cases h with
                    | nil => exact ⟨_, by rw [a0.int_inv, a1.int_inv, a2.int_inv, a3.bool_inv, a4.int_inv, a5.int_inv, a6.int_inv, a7.int_inv], a8⟩
theorem cat_mk {ρ : Ren} {g st su fo to bu fa : Int} {en : Bool} {sv sv' : Value} (h : VR ρ sv sv') : VR ρ (.agg ⟨[.int .i64 g, .int .i64 st, .int .i64 su, .bool en, .int .i64 fo, .int .i64 to, .int .i64 bu, .int .i64 fa, sv]⟩)
    (.agg ⟨[.int .i64 g, .int .i64 st, .int .i64 su, .bool en, .int .i64 fo, .int .i64 to, .int .i64 bu, .int .i64 fa, sv']⟩) :=
  .agg (.cons (.flat rfl) (.cons (.flat rfl) (.cons (.flat rfl) (.cons (.flat rfl) (.cons (.flat rfl) (.cons (.flat rfl) (.cons (.flat rfl) (.cons (.flat rfl) (.cons h .nil)))))))))
/-- a catalog that is handed in, named anew -/
theorem cat_anew {q : Free} {ρ : Ren} {s : S} {w : World} (hR : Rep Tryd.prog q ρ s w) {g st su fo to bu fa : Int} {en : Bool} {a : Option Addr} {n cap : Nat} {fs : List FileD} {v' : Value} (hn : n = fs.length) (hlen : fs.length ≤ 10000) (hv : Vx s a (fcs fs))
    (h : VR ρ (.agg ⟨[.int .i64 g, .int .i64 st, .int .i64 su, .bool en, .int .i64 fo, .int .i64 to, .int .i64 bu, .int .i64 fa, .slice a n cap]⟩) v') :
    (a = none ∧ fs = [] ∧ ∀ ρ2 : Ren, VR ρ2 (.agg ⟨[.int .i64 g, .int .i64 st, .int .i64 su, .bool en, .int .i64 fo, .int .i64 to, .int .i64 bu, .int .i64 fa, .slice none n cap]⟩) v') ∨
    (∃ x : InRow, x.L = fcs fs ∧ x.In w ∧ ∀ (l : List InRow) (k : Nat), l[k]? = some x → VR (renOf l) (.agg ⟨[.int .i64 g, .int .i64 st, .int .i64 su, .bool en, .int .i64 fo, .int .i64 to, .int .i64 bu, .int .i64 fa, .slice (some ⟨k, 0, none⟩) n cap]⟩) v') := by
  obtain ⟨l', rfl, hl⟩ := h.agg_inv
  obtain ⟨sv', rfl, hsv⟩ := cat_inv hl
  cases a with
  | none =>
    obtain ⟨rfl, rfl, rfl⟩ := hsv.sliceN_inv
    refine .inl ⟨rfl, List.eq_nil_of_length_eq_zero hn.symm, fun ρ2 => cat_mk (.flat rfl)⟩
  | some ad =>
    obtain ⟨hsp, hcl⟩ := hv
    obtain ⟨b, base, ex, hρ, hmk⟩ := slice_anew hsv hsp
    obtain ⟨e, hin⟩ := inrow_of hR hcl hρ (ints_fcs fs).plain (by rw [fcs_len]; unfold Tr.wide; omega)
    exact .inr ⟨⟨b, base + ad.off, ex, fcs fs, e⟩, rfl, hin, fun l k hk => cat_mk (hmk l k _ _ hk)⟩

theorem told_putR : AE.Told Tryd.prog 7 putRA := by
  refine told_own hE (fi := fiPN) (c := cdPN) (by kernel_rfl) (by kernel_rfl) ?_
  intro args s v s' h hm
  unfold putRA at h
  split at h
  · rename_i g st su en fo to bu fa a n cap
    obtain ⟨hc, h2⟩ := run_when h
    obtain ⟨L, s1, hL, hvx, hr1, h3⟩ := vx_of_rd h2
    obtain ⟨fs, hfs, h4⟩ := run_opt h3
    have hLf := filesOf_inv L fs hfs
    subst hLf
    rw [fcs_len] at hL
    obtain rfl : n = fs.length := by omega
    obtain ⟨hR, h5⟩ := run_when h4
    cases h5
    have hlen : fs.length ≤ 14 := right_len hR
    refine ⟨plain_agg (ints_put _).plain, rd_less hr1, ?_⟩
    intro q ρ w args' hRep hargs
    cases hargs with
    | cons hv hl =>
    cases hl with
    | nil =>
    rcases cat_anew hRep rfl (by omega) hvx hv with ⟨rfl, h0, hmk⟩ | ⟨x, hx, hin, hmk⟩
    · refine ⟨_, inS [], renOf [], 6000, 74, rfl, rfl, inputs_of [] (Nat.zero_le _) (fun x hx => by cases hx), .cons (hmk _) .nil, Nat.zero_le _, ?_⟩
      exact putR_gow _ (by show 6000 ≤ 6000; omega) ⟨g, st, su, en, fo, to, bu, fa, fs⟩ hR none cap 0 _ (Nat.zero_le _) (.inl ⟨rfl, h0⟩)
    · refine ⟨_, inS [x], renOf [x], 6000, 74, rfl, rfl, inputs_of [x] (by simp) (fun y hy => by simp only [List.mem_singleton] at hy; subst hy; exact hin), .cons (hmk [x] 0 rfl) .nil, Nat.zero_le _, ?_⟩
      refine putR_gow _ (by show 6000 ≤ 6000; omega) ⟨g, st, su, en, fo, to, bu, fa, fs⟩ hR (some ⟨0, 0, none⟩) cap x.e _ (by show 1 ≤ 1; omega) (.inr ⟨rfl, by show 0 < 1; omega, ?_⟩)
      show (trOf [(0, AObj.row (Tr.ofList x.L) x.L.length x.e)]).get 0 = _
      rw [hx]
      show ((Tr.nil).put 0 _).get 0 = _
      exact hg_same rfl _ _
  · cases h

/-- what catalog.Put does -/
def putD (D : CatD) : List Value := match D.right with
  | true => putV_ D
  | false => zeroL.cells
def putCA : List Value → AM Value
  | [.agg ⟨[.int .i64 g, .int .i64 st, .int .i64 su, .bool en, .int .i64 f, .int .i64 t, .int .i64 b, .int .i64 fa, .slice a n cap]⟩] =>
    when (Nat.ble n 1000000) (rdV a (4 * n) fun cs => opt (filesOf cs) fun fs => bump (4 + 2 * n) (.pure (.agg ⟨putD ⟨g, st, su, en, f, t, b, fa, fs⟩⟩)))
  | _ => .fail
theorem told_putC : AE.Told Tryd.prog 7 putCA := by
  refine AE.told_two told_putR told_putN ?_
  intro args s v s' h
  unfold putCA at h
  split at h
  · rename_i g st su en fo to bu fa a n cap
    obtain ⟨hc, h2⟩ := run_when h
    obtain ⟨L, s1, hL, hvx, hr1, h3⟩ := vx_of_rd h2
    obtain ⟨fs, hfs, h4⟩ := run_opt h3
    have hLf := filesOf_inv L fs hfs
    subst hLf
    rw [fcs_len] at hL
    obtain rfl : n = fs.length := by omega
    obtain ⟨s9, h6, hn9, hm9, hh9, hbl⟩ := bump_run _ _ _ _ h4
    cases h6
    rw [hr1.next] at hn9 hh9 hbl
    simp only [hr1.heap] at hh9
    obtain ⟨D, hD⟩ : ∃ D : CatD, D = ⟨g, st, su, en, fo, to, bu, fa, fs⟩ := ⟨_, rfl⟩
    have hfl : D.files = fs := by rw [hD]
    cases hR : D.right with
    | true =>
      left
      obtain ⟨s2, e1, hr2, _⟩ := rdV_run hvx (fun cs => opt (filesOf cs) fun fs => when (CatD.right ⟨g, st, su, en, fo, to, bu, fa, fs⟩) (.pure (Value.agg ⟨putV_ ⟨g, st, su, en, fo, to, bu, fa, fs⟩⟩)))
      rw [fcs_len, filesOf_fcs] at e1
      refine ⟨s2, ?_, ?_⟩
      · show (when (Nat.ble fs.length 1000000) _).run s = _
        rw [hc, show ∀ k : AM Value, when true k = k from fun _ => rfl, e1]
        show (when (CatD.right ⟨g, st, su, en, fo, to, bu, fa, fs⟩) (.pure (Value.agg ⟨putV_ ⟨g, st, su, en, fo, to, bu, fa, fs⟩⟩))).run s2 = _
        rw [← hD, hR]
        show some (Value.agg ⟨putV_ D⟩, s2) = some (Value.agg ⟨putD D⟩, s2)
        unfold putD; rw [hR]
      · refine ⟨by rw [hr2.next, hn9]; omega, fun m o ho => ?_⟩
        rw [hh9] at ho
        split at ho
        · cases ho
        · exact ⟨o, by rw [hr2.heap]; exact ho, .refl o⟩
    | false =>
      right
      obtain ⟨s2, e1, n2, _, g2⟩ := putNA_run (s := s) (a := a) (cap := cap) D hR (by rw [hfl]; exact ble_iff.1 hc) (by rw [hfl]; exact hvx) (by rw [hfl]; exact hbl)
      refine ⟨s2, ?_, ?_⟩
      · have hcells : D.cells a cap = [.int .i64 g, .int .i64 st, .int .i64 su, .bool en, .int .i64 fo, .int .i64 to, .int .i64 bu, .int .i64 fa, .slice a fs.length cap] := by subst hD; rfl
        rw [← hcells, e1, ← hD]
        unfold putD; rw [hR]
      · rw [hfl] at n2 g2
        refine less_new (s := s) (n := 4 + 2 * fs.length) (by omega) hn9 hh9 g2
  · cases h
end Go.Proofs.YtgofanjbhbeniaaDoor.lf
end
end

section
/- Catalogs: pieces with told answers; the document's card: told. -/
noncomputable section
namespace Go.Proofs.YtgofanjbhbeniaaDoor.lf
open AE
set_option linter.unusedSimpArgs false
set_option linter.unusedVariables false
set_option maxRecDepth 10000

theorem qnil : ∀ p ∈ ([] : List (Bool × Bool)), p.1 = p.2 := fun p hp => by cases hp
theorem qcons {a b : Bool} {l : List (Bool × Bool)} (h : a = b) (hl : ∀ p ∈ l, p.1 = p.2) : ∀ p ∈ (a, b) :: l, p.1 = p.2 := fun p hp => by
  rcases List.mem_cons.1 hp with rfl | hp
  · exact h
  · exact hl p hp

/-! the document's card -/
end Go.Proofs.YtgofanjbhbeniaaDoor.lf
end
end

section
/- Catalogs: gates: what is told of the calls that read a catalog, or a leaf. -/
noncomputable section
namespace Go.Proofs.YtgofanjbhbeniaaDoor.lf
open AE
set_option linter.unusedSimpArgs false
set_option linter.unusedVariables false
set_option maxRecDepth 10000

/-- whether a catalog may be; no names are taken -/
def rightXN : List Value → AM Value
  | [.agg ⟨[.int .i64 g, .int .i64 st, .int .i64 su, .bool en, .int .i64 f, .int .i64 t, .int .i64 b, .int .i64 fa, .slice a n cap]⟩] =>
    when (Nat.ble n 100) (rdV a (4 * n) fun cs => opt (filesOf cs) fun fs => .pure (.bool (CatD.right ⟨g, st, su, en, f, t, b, fa, fs⟩)))
  | _ => .fail
theorem rdV_same {a : Option Addr} {n : Nat} {k1 : List Value → AM Value} {s : S} {r : Value × S} (h : (rdV a n k1).run s = some r) : ∃ L s1, L.length = n ∧ Vx s a L ∧ Rd s s1 ∧ (k1 L).run s1 = some r ∧ ∀ k2, (rdV a n k2).run s = (k2 L).run s1 := by
  cases a with
  | none =>
    cases n with
    | zero => exact ⟨[], s, rfl, rfl, Rd.refl s, h, fun _ => rfl⟩
    | succ n => cases h
  | some ad =>
    obtain ⟨L, hl, hs, hb, h2⟩ := cl_of_load h
    obtain ⟨b, o, sp⟩ := ad
    simp only at hs
    subst hs
    refine ⟨L, _, hl, ⟨rfl, hb⟩, Rd.seen s _, h2, fun k2 => ?_⟩
    subst hl
    exact cl_load hb k2
def rightCs (g st su : Int) (en : Bool) (f t b fa : Int) (cs : List Value) : Bool := match filesOf cs with
  | some fs => CatD.right ⟨g, st, su, en, f, t, b, fa, fs⟩
  | none => false
def rightXPre : List Value → AM Value
  | [.agg ⟨[.int .i64 g, .int .i64 st, .int .i64 su, .bool en, .int .i64 f, .int .i64 t, .int .i64 b, .int .i64 fa, .slice a n cap]⟩] =>
    rdV a (4 * n) fun cs => .pure (.tuple ⟨[.bool ((filesOf cs).isSome && Nat.ble n 100), .bool (rightCs g st su en f t b fa cs)]⟩)
  | _ => .fail
theorem pre_inv {B : Bool} {V v : Value} {s1 s' : S} (h : (AM.pure (Value.tuple ⟨[.bool B, V]⟩)).run s1 = some (.tuple ⟨[.bool true, v]⟩, s')) : B = true ∧ V = v ∧ s1 = s' := by
  have hv : (Value.tuple ⟨[.bool B, V]⟩, s1) = (Value.tuple ⟨[.bool true, v]⟩, s') := Option.some.inj h
  exact ⟨congrArg (fun p : Value × S => match p.1 with | .tuple ⟨[.bool b, _]⟩ => b | _ => false) hv, congrArg (fun p : Value × S => match p.1 with | .tuple ⟨[_, v]⟩ => v | _ => undefV) hv, congrArg Prod.snd hv⟩
theorem rightX_ok (args : List Value) (s : S) (v : Value) (s' : S) (h : (rightXPre args).run s = some (.tuple ⟨[.bool true, v]⟩, s')) : (rightXN args).run s = some (v, s') := by
  unfold rightXPre at h
  split at h
  · rename_i g st su en fo to bu fa a n cap
    obtain ⟨L, s1, hL, _, _, h3, hk⟩ := rdV_same h
    obtain ⟨hB, rfl, rfl⟩ := pre_inv h3
    rw [Bool.and_eq_true] at hB
    show (when (Nat.ble n 100) (rdV a (4 * n) fun cs => opt (filesOf cs) fun fs => .pure (.bool (CatD.right ⟨g, st, su, en, fo, to, bu, fa, fs⟩)))).run s = _
    rw [hB.2]
    rw [show ∀ k : AM Value, when true k = k from fun _ => rfl]
    rw [hk]
    unfold rightCs
    cases hf : filesOf L with
    | none => rw [hf] at hB; cases hB.1
    | some fs => rfl
  · cases h
def rightXG : Gate := ⟨rightXPre, rightXN, rightX_ok⟩

/-- the leaf of a catalog; no names are taken -/
def putXA : List Value → AM Value
  | [.agg ⟨[.int .i64 g, .int .i64 st, .int .i64 su, .bool en, .int .i64 f, .int .i64 t, .int .i64 b, .int .i64 fa, .slice a n cap]⟩] =>
    when (Nat.ble n 16) (rdV a (4 * n) fun cs => opt (filesOf cs) fun fs => .pure (.agg ⟨putD ⟨g, st, su, en, f, t, b, fa, fs⟩⟩))
  | _ => .fail
def putCs (g st su : Int) (en : Bool) (f t b fa : Int) (cs : List Value) : List Value := match filesOf cs with
  | some fs => putD ⟨g, st, su, en, f, t, b, fa, fs⟩
  | none => []
def putXPre : List Value → AM Value
  | [.agg ⟨[.int .i64 g, .int .i64 st, .int .i64 su, .bool en, .int .i64 f, .int .i64 t, .int .i64 b, .int .i64 fa, .slice a n cap]⟩] =>
    rdV a (4 * n) fun cs => .pure (.tuple ⟨[.bool ((filesOf cs).isSome && Nat.ble n 16), .agg ⟨putCs g st su en f t b fa cs⟩]⟩)
  | _ => .fail
theorem putX_ok (args : List Value) (s : S) (v : Value) (s' : S) (h : (putXPre args).run s = some (.tuple ⟨[.bool true, v]⟩, s')) : (putXA args).run s = some (v, s') := by
  unfold putXPre at h
  split at h
  · rename_i g st su en fo to bu fa a n cap
    obtain ⟨L, s1, hL, _, _, h3, hk⟩ := rdV_same h
    obtain ⟨hB, rfl, rfl⟩ := pre_inv h3
    rw [Bool.and_eq_true] at hB
    show (when (Nat.ble n 16) (rdV a (4 * n) fun cs => opt (filesOf cs) fun fs => .pure (.agg ⟨putD ⟨g, st, su, en, fo, to, bu, fa, fs⟩⟩))).run s = _
    rw [hB.2]
    rw [show ∀ k : AM Value, when true k = k from fun _ => rfl]
    rw [hk]
    unfold putCs
    cases hf : filesOf L with
    | none => rw [hf] at hB; cases hB.1
    | some fs => rfl
  · cases h
def putXG : Gate := ⟨putXPre, putXA, putX_ok⟩
/-- may it be? of cells -/
def rightC (cs : List Value) : Bool := match leafOf cs with | some d => rightL d | none => false
def rightG : List Value → Option (Bool × Value)
  | [.agg ⟨cs⟩] => some ((leafOf cs).isSome, .bool (rightC cs))
  | _ => none
/-- a leaf's cells, with letters -/
def bytesN (b : Nat → Nat) : Nat → Nat → List Value
  | 0, _ => []
  | n + 1, k => .int .u8 (.ofNat (b k)) :: bytesN b n (k + 1)
def leafN (k f p n z : Int) (b : Nat → Nat) : List Value := [.int .i64 k, .int .i64 f, .int .i64 p, .int .i64 n, .int .i64 z] ++ bytesN b 116 0
def rightQ (D : CatD) : Bool := rightCs D.gen D.step D.status D.ended D.from_ D.to_ D.budget D.fan (fcs D.files)
theorem rightQ_eq (D : CatD) : rightQ D = D.right := by unfold rightQ rightCs; rw [filesOf_fcs]
end Go.Proofs.YtgofanjbhbeniaaDoor.lf
end
end

section
/- Catalogs: the document's leaf of a catalog, told. -/
noncomputable section
namespace Go.Proofs.YtgofanjbhbeniaaDoor.lf
open AE
set_option linter.unusedSimpArgs false
set_option linter.unusedVariables false
set_option maxRecDepth 10000

noncomputable def fiPC : FI := FI.of Tryd.f15
noncomputable def cdPC : Code := bodyOf Tryd.f15
def gatesPC : Gates := gatesM [(14, rightXG)]
def sRow (L : List Value) (e : TypeId) : S := ⟨trOf [(0, .row (Tr.ofList L) L.length e)], 1, 0, 0, 0⟩
noncomputable def runPC (D : CatD) (a : Option Addr) (cap : Nat) (s : S) (told : List (Nat × Option Bool)) : Option (Value × S × List (Bool × Bool)) :=
  ownR E fiPC 9000 15 (evO E gatesPC (sumsOf []) 3000 (.code cdPC ⟨15, Tr.ofList [.agg ⟨D.cells a cap⟩], 77, [], none⟩) s ⟨told, []⟩)
def probPC (r : Option (Value × S × List (Bool × Bool))) : Option (Value × List (Bool × Bool)) := match r with
  | some (v, _, qs) => some (v, qs)
  | none => none
theorem probPC_inv {r : Option (Value × S × List (Bool × Bool))} {v : Value} {qs : List (Bool × Bool)} (h : probPC r = some (v, qs)) : ∃ s, r = some (v, s, qs) := by
  unfold probPC at h
  split at h
  · cases h; exact ⟨_, rfl⟩
  · cases h
set_option maxRecDepth 100000 in
set_option maxHeartbeats 100000000 in
theorem pc_no (g st su fo to bu fa : Int) (en : Bool) (fl : Nat → FileD) (cap : Nat) (e : TypeId) : (List.range 17).map (fun m => probPC (runPC (catL g st su fo to bu fa en fl m) (some ⟨0, 0, none⟩) cap (sRow (fcs (flOf fl m)) e) [(1, some true)])) = (List.range 17).map (fun m => some (.agg ⟨zeroL.cells⟩, [(!rightQ (catL g st su fo to bu fa en fl m), true)])) := by kernel_rfl
set_option maxRecDepth 100000 in
set_option maxHeartbeats 100000000 in
theorem pc_noN (g st su fo to bu fa : Int) (en : Bool) (fl : Nat → FileD) (cap : Nat) : probPC (runPC (catL g st su fo to bu fa en fl 0) none cap (inS []) [(1, some true)]) = some (.agg ⟨zeroL.cells⟩, [(!rightQ (catL g st su fo to bu fa en fl 0), true)]) := by kernel_rfl
set_option maxRecDepth 100000 in
set_option maxHeartbeats 100000000 in
theorem pc_yesT (g st su fo to bu fa : Int) (fl : Nat → FileD) (cap : Nat) (e : TypeId) : (List.range 15).map (fun m => probPC (runPC (catL g st su fo to bu fa true fl m) (some ⟨0, 0, none⟩) cap (sRow (fcs (flOf fl m)) e) [(1, some false)])) = (List.range 15).map (fun m => some (.agg ⟨putV_ (catL g st su fo to bu fa true fl m)⟩, [(!rightQ (catL g st su fo to bu fa true fl m), false)])) := by kernel_rfl
set_option maxRecDepth 100000 in
set_option maxHeartbeats 100000000 in
theorem pc_yesF (g st su fo to bu fa : Int) (fl : Nat → FileD) (cap : Nat) (e : TypeId) : (List.range 15).map (fun m => probPC (runPC (catL g st su fo to bu fa false fl m) (some ⟨0, 0, none⟩) cap (sRow (fcs (flOf fl m)) e) [(1, some false)])) = (List.range 15).map (fun m => some (.agg ⟨putV_ (catL g st su fo to bu fa false fl m)⟩, [(!rightQ (catL g st su fo to bu fa false fl m), false)])) := by kernel_rfl
set_option maxRecDepth 100000 in
set_option maxHeartbeats 100000000 in
theorem pc_yesTN (g st su fo to bu fa : Int) (fl : Nat → FileD) (cap : Nat) : probPC (runPC (catL g st su fo to bu fa true fl 0) none cap (inS []) [(1, some false)]) = some (.agg ⟨putV_ (catL g st su fo to bu fa true fl 0)⟩, [(!rightQ (catL g st su fo to bu fa true fl 0), false)]) := by kernel_rfl
set_option maxRecDepth 100000 in
set_option maxHeartbeats 100000000 in
theorem pc_yesFN (g st su fo to bu fa : Int) (fl : Nat → FileD) (cap : Nat) : probPC (runPC (catL g st su fo to bu fa false fl 0) none cap (inS []) [(1, some false)]) = some (.agg ⟨putV_ (catL g st su fo to bu fa false fl 0)⟩, [(!rightQ (catL g st su fo to bu fa false fl 0), false)]) := by kernel_rfl
end Go.Proofs.YtgofanjbhbeniaaDoor.lf
end
end
