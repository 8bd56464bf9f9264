/- Catalogs in leaves: what catalog.Put does, told. -/
import Derived.Test.YtgofanjbhbeniaaDoorPRowCatalogWith0
import Derived.Test.YtgofanjbhbeniaaDoorAe35
import Derived.Test.YtgofanjbhbeniaaDoorAe37
import Derived.Test.YtgofanjbhbeniaaDoorAe38
section
/- Catalogs: which may be: what catalog.Right does, told shortly. -/
noncomputable section
namespace Go.Proofs.YtgofanjbhbeniaaDoor.lf
open AE
set_option linter.unusedSimpArgs false
set_option linter.unusedVariables false
set_option maxRecDepth 10000

structure FileD where
  name : Int
  file : Int
  first : Int
  blocks : Int
def FileD.cells (f : FileD) : List Value := [.int .i64 f.name, .int .i64 f.file, .int .i64 f.first, .int .i64 f.blocks]
def FileD.right (f : FileD) : Bool := rightF f.name f.file f.first f.blocks
def fcs : List FileD → List Value
  | [] => []
  | f :: l => .int .i64 f.name :: .int .i64 f.file :: .int .i64 f.first :: .int .i64 f.blocks :: fcs l
def filesOf : List Value → Option (List FileD)
  | [] => some []
  | .int .i64 a :: .int .i64 b :: .int .i64 c :: .int .i64 d :: l => match filesOf l with
    | some r => some (⟨a, b, c, d⟩ :: r)
    | none => none
  | _ => none
theorem filesOf_inv : ∀ (l : List Value) (fs : List FileD), filesOf l = some fs → l = fcs fs
  | [], fs, h => by cases h; rfl
  | .int .i64 a :: .int .i64 b :: .int .i64 c :: .int .i64 d :: l, fs, h => by
    simp only [filesOf] at h
    split at h
    · rename_i r hr
      cases h
      rw [filesOf_inv l r hr]; rfl
    · cases h
theorem filesOf_fcs : ∀ fs : List FileD, filesOf (fcs fs) = some fs
  | [] => rfl
  | f :: l => by simp only [fcs, filesOf, filesOf_fcs l]
theorem fcs_len : ∀ fs : List FileD, (fcs fs).length = 4 * fs.length
  | [] => rfl
  | f :: l => by simp only [fcs, List.length_cons, fcs_len l]; omega
theorem fcs_at : ∀ (fs : List FileD) (i : Nat) (f : FileD), fs[i]? = some f → ((fcs fs).drop (i * 4)).take 4 = f.cells
  | [], i, f, h => by simp at h
  | g :: l, 0, f, h => by simp at h; subst h; rfl
  | g :: l, i + 1, f, h => by
    have e : (i + 1) * 4 = (i * 4) + 4 := by omega
    rw [e]
    show ((fcs l).drop (i * 4)).take 4 = _
    exact fcs_at l i f (by simpa using h)
theorem fcs_one : ∀ fs : List FileD, allOne (fcs fs) = true
  | [] => rfl
  | f :: l => by simp only [fcs, allOne, oneB, fcs_one l]
/-- files rise, and each may be -/
def filesOK : Int → List FileD → Bool
  | _, [] => true
  | last, f :: l => f.right && (ltI last f.name && filesOK f.name l)
structure CatD where
  gen : Int
  step : Int
  status : Int
  ended : Bool
  from_ : Int
  to_ : Int
  budget : Int
  fan : Int
  files : List FileD
def zeroK (a b c d : Int) : Bool := decide (a = 0 ∧ b = 0 ∧ c = 0 ∧ d = 0)
def CatD.headOK (d : CatD) : Bool := wi d.gen 0 1000 && (wi d.step 0 20 && wi d.status 0 7)
def CatD.midOK (d : CatD) : Bool := (d.ended || eqI d.status 0) && ((zeroK d.from_ d.to_ d.budget d.fan || rightK d.from_ d.to_ d.budget d.fan) && not (ltI 14 (.ofNat d.files.length)))
def CatD.right (d : CatD) : Bool := d.headOK && (d.midOK && filesOK 0 d.files)
def CatD.cells (d : CatD) (a : Option Addr) (cap : Nat) : List Value := [.int .i64 d.gen, .int .i64 d.step, .int .i64 d.status, .bool d.ended, .int .i64 d.from_, .int .i64 d.to_, .int .i64 d.budget, .int .i64 d.fan, .slice a d.files.length cap]

/-- a slice's cells -/
def rdV (a : Option Addr) (n : Nat) (k : List Value → AM Value) : AM Value := match a with
  | none => match n with
    | 0 => k []
    | _ + 1 => .fail
  | some ad => loadA ad n k
def Vx (s : S) (a : Option Addr) (L : List Value) : Prop := match a with
  | none => L = []
  | some ad => ad.spot = none ∧ Cl s ad.block ad.off L
theorem Vx.keep {s s1 : S} {a : Option Addr} {L : List Value} (h : Vx s a L) (hn : s.next ≤ s1.next) (hg : ∀ m, m < s.next → s1.heap.get m = s.heap.get m) : Vx s1 a L := by
  cases a with
  | none => exact h
  | some ad => exact ⟨h.1, h.2.keep hn (hg _ h.2.lt)⟩
theorem vx_of_rd {a : Option Addr} {n : Nat} {k : List Value → AM Value} {s : S} {r : Value × S} (h : (rdV a n k).run s = some r) : ∃ L s1, L.length = n ∧ Vx s a L ∧ Rd s s1 ∧ (k L).run s1 = some r := by
  cases a with
  | none =>
    cases n with
    | zero => exact ⟨[], s, rfl, rfl, Rd.refl s, h⟩
    | succ n => cases h
  | some ad =>
    obtain ⟨L, hl, hs, hb, h2⟩ := cl_of_load h
    exact ⟨L, _, hl, ⟨hs, hb⟩, Rd.seen s _, h2⟩
theorem rdV_run {s : S} {a : Option Addr} {L : List Value} (h : Vx s a L) (k : List Value → AM Value) : ∃ s1, (rdV a L.length k).run s = (k L).run s1 ∧ Rd s s1 ∧ s1.wr = s.wr := by
  cases a with
  | none => obtain rfl : L = [] := h; exact ⟨s, rfl, Rd.refl s, rfl⟩
  | some ad =>
    obtain ⟨b, o, sp⟩ := ad
    obtain ⟨h1, h2⟩ := h
    simp only at h1
    subst h1
    exact ⟨s.seen b, cl_load h2 k, Rd.seen s b, rfl⟩
def rightCA : List Value → AM Value
  | [.agg ⟨[.int .i64 g, .int .i64 st, .int .i64 su, .bool en, .int .i64 f, .int .i64 t, .int .i64 b, .int .i64 fa, .slice a n cap]⟩] =>
    when (Nat.ble n 1000000) (rdV a (4 * n) fun cs => opt (filesOf cs) fun fs => bump (2 + 2 * n) (.pure (.bool (CatD.right ⟨g, st, su, en, f, t, b, fa, fs⟩))))
  | _ => .fail

/-! cards compared -/
theorem partK (a b c d : Int) (k : Nat) (v : Value) (hk : ([Value.int .i64 a, .int .i64 b, .int .i64 c, .int .i64 d] : List Value)[k]? = some v) : partA tiI [.int .i64 a, .int .i64 b, .int .i64 c, .int .i64 d] k = some v := by
  unfold partA
  rw [dsI]
  match k, hk with
  | 0, hk => cases hk; rfl
  | 1, hk => cases hk; rfl
  | 2, hk => cases hk; rfl
  | 3, hk => cases hk; rfl
  | k + 4, hk => simp at hk
theorem eqK (a b c d a' b' c' d' : Int) : eqV E 1000 24 (.agg ⟨[.int .i64 a, .int .i64 b, .int .i64 c, .int .i64 d]⟩) (.agg ⟨[.int .i64 a', .int .i64 b', .int .i64 c', .int .i64 d']⟩) = some (decide (a = a' ∧ b = b' ∧ c = c' ∧ d = d')) := by
  have hf : eqFs E 999 fsK.toList [.int .i64 a, .int .i64 b, .int .i64 c, .int .i64 d] [.int .i64 a', .int .i64 b', .int .i64 c', .int .i64 d'] = some (decide (a = a' ∧ b = b' ∧ c = c' ∧ d = d')) := by
    rw [lsK]
    show eqFs E (998 + 1) _ _ _ = _
    simp only [eqFs, nmK0, nmK1, nmK2, nmK3, ftK0, ftK1, ftK2, ftK3, foK0, foK1, foK2, foK3, tyI, partK _ _ _ _ 0 _ rfl, partK _ _ _ _ 1 _ rfl, partK _ _ _ _ 2 _ rfl, partK _ _ _ _ 3 _ rfl, eqInt_any]
    by_cases h0 : a = a'
    · by_cases h1 : b = b'
      · by_cases h2 : c = c'
        · by_cases h3 : d = d'
          · simp [h0, h1, h2, h3]
          · simp [h0, h1, h2, h3]
        · simp [h0, h1, h2]
      · simp [h0, h1]
    · simp [h0]
  show eqV E (999 + 1) _ _ _ = _
  simp only [eqV, tyK, dsK, gdK]
  exact hf
theorem neqK (a b c d : Int) : binA E .neq 24 (.agg ⟨[.int .i64 a, .int .i64 b, .int .i64 c, .int .i64 d]⟩) (.agg ⟨[.int .i64 0, .int .i64 0, .int .i64 0, .int .i64 0]⟩) = some (.bool (!zeroK a b c d)) := by
  show someB (eqV E 1000 24 (.agg ⟨[.int .i64 a, .int .i64 b, .int .i64 c, .int .i64 d]⟩) (.agg ⟨[.int .i64 0, .int .i64 0, .int .i64 0, .int .i64 0]⟩)) false = _
  rw [eqK]
  rfl
theorem places_K : placesA E fsK.toList = some [(0, 1), (1, 1), (2, 1), (3, 1)] := by kernel_rfl
theorem rightKA_at (a b c d : Int) (H : Tr AObj) (N mk : Nat) (hN : Nat.ble N lastName = true) : ∀ rd wr, (rightKA [.agg ⟨[.int .i64 a, .int .i64 b, .int .i64 c, .int .i64 d]⟩]).run ⟨H, N, mk, rd, wr⟩ =
    some (.bool (rightK a b c d), ⟨(H.put N (some (.deferred none))).put N none, Nat.succ N, mk, rd, bit mk N wr⟩) := by
  intro rd wr
  show (bump 1 (AM.pure (Value.bool (rightK a b c d)))).run ⟨H, N, mk, rd, wr⟩ = _
  simp only [bump, AM.run, force_eq, hN, hg_same hN, show Nat.blt N (Nat.succ N) = true from blt_iff.2 (Nat.lt_succ_self N), Bool.and_self]
theorem rightFA_run {s : S} (f : FileD) (hN : Nat.ble s.next lastName = true) : ∃ s1, (rightFA [.agg ⟨f.cells⟩]).run s = some (.bool f.right, s1) ∧ s1.next = s.next + 1 ∧ ∀ m, m ≠ s.next → s1.heap.get m = s.heap.get m := by
  obtain ⟨s1, e1, e2, e3, e4⟩ := bump_ok 1 (AM.pure (Value.bool f.right)) s (fun i hi => by cases i with
    | zero => exact hN
    | succ i => omega)
  exact ⟨s1, e1, e2, fun m hm => by rw [e4, if_neg (by omega)]⟩
/-- a new variable -/
theorem newCell (H : Tr AObj) (N mk : Nat) (hN : Nat.ble N lastName = true) (Z L : List Value) (e : TypeId) (hZ : Z.length = L.length) (hL : L.length ≤ 1000) (h1 : allOne L = true) : ∀ rd wr,
    (storeA ⟨N, 0, none⟩ L (AM.pure (ANext.value undefV))).run ⟨H.put N (some (.cells (Tr.ofList Z) Z.length e .whole)), Nat.succ N, mk, rd, wr⟩ =
      some (.value undefV, ⟨(H.put N (some (.cells (Tr.ofList Z) Z.length e .whole))).put N (some (.cells (wrCells (Tr.ofList Z) 0 L) Z.length e .whole)), Nat.succ N, mk, bit mk N rd, bit mk N wr⟩) := by
  intro rd wr
  rw [storeA_run (s := ⟨H.put N (some (.cells (Tr.ofList Z) Z.length e .whole)), Nat.succ N, mk, rd, wr⟩) _ h1 (Nat.lt_succ_self _) hN (hg_same hN _ _) (by omega) (by omega)]
  rfl
theorem newCell_cl {s : S} {n : Nat} {Z L : List Value} {e : TypeId} {rm : Room} (hlt : n < s.next) (hg : s.heap.get n = some (.cells (wrCells (Tr.ofList Z) 0 L) Z.length e rm)) (hZ : Z.length = L.length) (hL : L.length ≤ 1000) : Cl s n 0 L :=
  ⟨hlt, _, _, .inl ⟨_, _, hg⟩, by omega, row_wr (by unfold Tr.wide; omega)⟩

theorem undef_eq : undefV = Value.tuple ⟨[]⟩ := rfl
noncomputable def fiCa : FI := FI.of Tryd.f13
noncomputable def cdCa : Code := bodyOf Tryd.f13
noncomputable def cdCa5 : Code := sub [1,1,1] cdCa
noncomputable def cdCal : Code := sub [1,1,1,1,0,1,0,0] cdCa
theorem resCa : fiCa.results = [.tmp 2] := rfl
abbrev sigCa : List (Nat × (List Value → AM Value)) := [(28, withinA), (11, rightKA), (29, rightFA)]
theorem tolds_Ca : Tolds Tryd.prog (sumsOf sigCa) := tolds_cons told_cwithin (tolds_cons told_rightK (tolds_cons told_rightF tolds_nil))
theorem scW : sumsOf sigCa 28 = some withinA := rfl
theorem scK : sumsOf sigCa 11 = some rightKA := rfl
theorem scF : sumsOf sigCa 29 = some rightFA := rfl
theorem tgK : ∀ a b, targetA E (.func 11) a b = .pure (.enter 11 (b ++ a)) := tgt (fi := fiK) (c := cdK) (by kernel_rfl) (by kernel_rfl)
theorem tgF : ∀ a b, targetA E (.func 29) a b = .pure (.enter 29 (b ++ a)) := tgt (fi := fiF) (c := cdF) (by kernel_rfl) (by kernel_rfl)

/-- the loop over the files -/
def InvC (s0 : S) (n cap c : Nat) (a : Option Addr) (fs : List FileD) (k : Nat) (fr : Fr) (s : S) : Prop :=
  ∃ (i : Nat) (last : Int) (t : Tr Value), k = fs.length - i ∧ i ≤ fs.length ∧ fr = ⟨13, t, 67, [], none⟩ ∧ s.next = s0.next + c + 2 * i ∧ (∀ m, ¬ (s0.next ≤ m ∧ m < s0.next + (2 + 2 * fs.length)) → s.heap.get m = s0.heap.get m) ∧
    t.get 49 = some (.slice a fs.length cap) ∧ t.get 50 = some (.int .i64 (.ofNat fs.length)) ∧ t.get 51 = some (.int .i64 (.ofNat i)) ∧ t.get 3 = some (.int .i64 last) ∧ filesOK 0 fs = filesOK last (fs.drop i)
def PostC (s0 : S) (fs : List FileD) (ex : Ex) (fr : Fr) (s : S) : Prop :=
  ∃ t : Tr Value, fr = ⟨13, t, 67, [], none⟩ ∧ s.next ≤ s0.next + (2 + 2 * fs.length) ∧ (∀ m, ¬ (s0.next ≤ m ∧ m < s0.next + (2 + 2 * fs.length)) → s.heap.get m = s0.heap.get m) ∧
    ((ex = .exit 0 ∧ filesOK 0 fs = true) ∨ (ex = .ret ∧ filesOK 0 fs = false ∧ t.get 2 = some (.bool false)))
set_option maxHeartbeats 1000000 in
theorem cat_round (s0 : S) (cap c : Nat) (a : Option Addr) (fs : List FileD) (hc : c ≤ 2) (hl : fs.length ≤ 1000000) (hv : Vx s0 a (fcs fs)) (hN : ∀ i, i < 2 + 2 * fs.length → Nat.ble (s0.next + i) lastName = true) (k : Nat) (fr : Fr) (s : S) (h : InvC s0 0 cap c a fs k fr s) :
    GoC E (sumsOf sigCa) cdCal fr s (Again (InvC s0 0 cap c a fs) k (PostC s0 fs)) := by
  obtain ⟨i, last, t, rfl, hi, rfl, hn, hg, h49, h50, h51, h3, hok⟩ := h
  simp only [cdCal, cdCa, Tryd.f13, bodyOf, sub]
  by_cases hlt : i < fs.length
  · obtain ⟨f, hf⟩ : ∃ f, fs[i]? = some f := ⟨_, List.getElem?_eq_getElem hlt⟩
    cases a with
    | none =>
      have h0 : fcs fs = [] := hv
      have := fcs_len fs
      rw [h0] at this
      have h4 : (0 : Nat) = 4 * fs.length := this
      omega
    | some ad =>
      obtain ⟨ab, ao, asp⟩ := ad
      obtain ⟨hsp, hcl⟩ := hv
      simp only at hsp hcl
      subst hsp
      have hlt' : ltI (Int.ofNat i) (Int.ofNat fs.length) = true := by rw [ltI_eq]; simp; omega
      have hbl : Nat.blt i fs.length = true := blt_iff.2 hlt
      have hinc := b_incr (n := i) (by omega)
      have hdrop : fs.drop i = f :: fs.drop (i + 1) := by
        rw [List.drop_eq_getElem_cons hlt]
        congr 1
        have := List.getElem?_eq_getElem hlt
        rw [this] at hf
        exact Option.some.inj hf
      rw [hdrop] at hok
      have hcs : Cl s ab ao (fcs fs) := hcl.keep (by omega) (hg _ (by have := hcl.lt; omega))
      have hsub := hcs.sub (i * 4) 4 (by rw [fcs_len]; omega)
      rw [fcs_at fs i f hf] at hsub
      have hN1 : Nat.ble s.next lastName = true := by
        rw [hn, Nat.add_assoc]; exact hN _ (by omega)
      have hN1' : Nat.ble (Nat.succ s.next) lastName = true := by
        show Nat.ble (s.next + 1) lastName = true
        rw [hn, Nat.add_assoc, Nat.add_assoc]; exact hN _ (by omega)
      obtain ⟨H, N, mk, rd, wr⟩ := s
      simp only at hn hg hN1 hN1'
      have st := newCell H N mk hN1 [.int .i64 0, .int .i64 0, .int .i64 0, .int .i64 0] f.cells 41 rfl (by simp [FileD.cells]) rfl
      have lf := hsub.ldA (β := ANext) tiF (by rw [dsF]; rfl) (by rw [szF]; rfl)
      have aa : addA ⟨ab, ao, none⟩ (Nat.mul i 4) = ⟨ab, ao + i * 4, none⟩ := addAn ab ao _
      repeat apply go_seq
      apply go_region
      case h => intro m; simp (maxSteps := 2000000) (disch := decide) only [opsLoop, evOper, wantedA, nth, aop, aPick, aBin, aIndexAddr, aFieldAddr, aLoad, aStore, aExtract, aConvert, aAlloc, aBox, aIndex, callA, builtinA, Fr.evs, opt, val, when, AM.run, outV, newA, ptr, force_eq, seen_heap, seen_next, seen_mark, seen_seen, agg_cells, int_cells, Fr.ev, Fr.put, onFr, gps, gpn, bltT, still, flat, List.append_nil, List.nil_append, List.cons_append, Nat.reduceEqDiff, ne_eq, not_false_eq_true, reduceCtorEq, Bool.and_true, Bool.true_and, Bool.and_false, Bool.false_and, Bool.not_true, Bool.not_false, Bool.and_self, h50, h51, b_lss, hlt']; rfl
      repeat apply go_seq
      apply go_cond
      case hc => simp (disch := decide) only [opsLoop, evOper, wantedA, nth, aop, aPick, aBin, aIndexAddr, aFieldAddr, aLoad, aStore, aExtract, aConvert, aAlloc, aBox, aIndex, callA, builtinA, Fr.evs, opt, val, when, AM.run, outV, newA, ptr, force_eq, seen_heap, seen_next, seen_mark, seen_seen, agg_cells, int_cells, Fr.ev, Fr.put, onFr, gps, gpn, bltT, still, flat, List.append_nil, List.nil_append, List.cons_append, Nat.reduceEqDiff, ne_eq, not_false_eq_true, reduceCtorEq, Bool.and_true, Bool.true_and, Bool.and_false, Bool.false_and, Bool.not_true, Bool.not_false, Bool.and_self]; rfl
      case h2 => intro h; cases h
      intro _
      apply go_skip
      apply go_seq
      apply go_block
      repeat apply go_seq
      apply go_region
      case h => intro m; simp (maxSteps := 2000000) (disch := decide) only [opsLoop, evOper, wantedA, nth, aop, aPick, aBin, aIndexAddr, aFieldAddr, aLoad, aStore, aExtract, aConvert, aAlloc, aBox, aIndex, callA, builtinA, Fr.evs, opt, val, when, AM.run, outV, newA, ptr, force_eq, seen_heap, seen_next, seen_mark, seen_seen, agg_cells, int_cells, Fr.ev, Fr.put, onFr, gps, gpn, bltT, still, flat, List.append_nil, List.nil_append, List.cons_append, Nat.reduceEqDiff, ne_eq, not_false_eq_true, reduceCtorEq, Bool.and_true, Bool.true_and, Bool.and_false, Bool.false_and, Bool.not_true, Bool.not_false, Bool.and_self, h49, h51, tyFs, dsFs, hbl, tyF, szF, dsF, aa, lf, zeF, hN1, len4, show Nat.beq f.cells.length 4 = true from rfl, st]; rfl
      generalize hs1 : S.mk _ _ _ _ _ = s1
      have e1 : s1.next = N + 1 := by rw [← hs1]
      have e1h : s1.heap = (H.put N (some (.cells (Tr.ofList [.int .i64 0, .int .i64 0, .int .i64 0, .int .i64 0]) (List.length [Value.int .i64 0, .int .i64 0, .int .i64 0, .int .i64 0]) 41 .whole))).put N (some (.cells (wrCells (Tr.ofList [.int .i64 0, .int .i64 0, .int .i64 0, .int .i64 0]) 0 f.cells) (List.length [Value.int .i64 0, .int .i64 0, .int .i64 0, .int .i64 0]) 41 .whole)) := by rw [← hs1]
      clear hs1
      have F1 : Cl s1 N 0 f.cells := newCell_cl (by omega) (by rw [e1h]; exact hg_same hN1 _ _) rfl (by simp [FileD.cells])
      have g1 : ∀ m, m ≠ N → s1.heap.get m = H.get m := fun m hm => by rw [e1h, hg_far hN1 hm, hg_far hN1 hm]
      clear e1h
      obtain ⟨H1, N1, mk1, rd1, wr1⟩ := s1
      simp only at e1 g1
      have l1 := F1.ldA (β := ANext) tiF (by rw [dsF]; rfl) (by rw [szF]; rfl)
      obtain ⟨s2, r2, n2, g2⟩ := rightFA_run (s := (⟨H1, N1, mk1, rd1, wr1⟩ : S).seen N) f (by show Nat.ble N1 lastName = true; rw [e1]; exact hN1')
      have n2 : s2.next = N + 2 := by rw [n2]; show N1 + 1 = _; omega
      have g2 : ∀ m, m ≠ N + 1 → s2.heap.get m = H1.get m := fun m hm => g2 m (by show m ≠ N1; omega)
      have F2 : Cl s2 N 0 f.cells := F1.keep (by show N1 ≤ _; omega) (g2 _ (by omega))
      simp only [S.seen] at r2
      obtain ⟨H2, N2, mk2, rd2, wr2⟩ := s2
      simp only at n2 g2
      have l2 := F2.ld (k := 0) tiI (by rw [dsI]; rfl) rfl
      simp only [Nat.zero_add] at l2
      have hg2 : ∀ m, ¬ (s0.next ≤ m ∧ m < s0.next + (2 + 2 * fs.length)) → H2.get m = s0.heap.get m := fun m hm => by
        rw [g2 m (by omega), g1 m (by omega)]; exact hg m hm
      cases hr : f.right with
      | false =>
        rw [hr] at r2
        have hfin : filesOK 0 fs = false := by rw [hok]; simp [filesOK, hr]
        repeat apply go_seq
        apply go_region
        case h => intro m; simp (maxSteps := 2000000) (disch := decide) only [opsLoop, evOper, wantedA, nth, aop, aPick, aBin, aIndexAddr, aFieldAddr, aLoad, aStore, aExtract, aConvert, aAlloc, aBox, aIndex, callA, builtinA, Fr.evs, opt, val, when, AM.run, outV, newA, ptr, force_eq, seen_heap, seen_next, seen_mark, seen_seen, agg_cells, int_cells, Fr.ev, Fr.put, onFr, gps, gpn, bltT, still, flat, List.append_nil, List.nil_append, List.cons_append, Nat.reduceEqDiff, ne_eq, not_false_eq_true, reduceCtorEq, Bool.and_true, Bool.true_and, Bool.and_false, Bool.false_and, Bool.not_true, Bool.not_false, Bool.and_self, tyF, l1, tgF, evT_told scF, r2, u_not]; rfl
        repeat apply go_seq
        apply go_cond
        case hc => simp (disch := decide) only [opsLoop, evOper, wantedA, nth, aop, aPick, aBin, aIndexAddr, aFieldAddr, aLoad, aStore, aExtract, aConvert, aAlloc, aBox, aIndex, callA, builtinA, Fr.evs, opt, val, when, AM.run, outV, newA, ptr, force_eq, seen_heap, seen_next, seen_mark, seen_seen, agg_cells, int_cells, Fr.ev, Fr.put, onFr, gps, gpn, bltT, still, flat, List.append_nil, List.nil_append, List.cons_append, Nat.reduceEqDiff, ne_eq, not_false_eq_true, reduceCtorEq, Bool.and_true, Bool.true_and, Bool.and_false, Bool.false_and, Bool.not_true, Bool.not_false, Bool.and_self]; rfl
        case h2 => intro h; cases h
        intro _
        repeat apply go_seq
        apply go_region
        case h => intro m; simp (maxSteps := 2000000) (disch := decide) only [opsLoop, evOper, wantedA, nth, aop, aPick, aBin, aIndexAddr, aFieldAddr, aLoad, aStore, aExtract, aConvert, aAlloc, aBox, aIndex, callA, builtinA, Fr.evs, opt, val, when, AM.run, outV, newA, ptr, force_eq, seen_heap, seen_next, seen_mark, seen_seen, agg_cells, int_cells, Fr.ev, Fr.put, onFr, gps, gpn, bltT, still, flat, List.append_nil, List.nil_append, List.cons_append, Nat.reduceEqDiff, ne_eq, not_false_eq_true, reduceCtorEq, Bool.and_true, Bool.true_and, Bool.and_false, Bool.false_and, Bool.not_true, Bool.not_false, Bool.and_self]; rfl
        apply go_ret
        refine ⟨_, rfl, by show N2 ≤ _; omega, hg2, .inr ⟨rfl, hfin, ?_⟩⟩
        simp (disch := decide) only [gps, gpn]
      | true =>
        rw [hr] at r2
        cases hn2 : ltI last f.name with
        | false =>
          have hfin : filesOK 0 fs = false := by rw [hok]; simp [filesOK, hn2]
          repeat apply go_seq
          apply go_region
          case h => intro m; simp (maxSteps := 2000000) (disch := decide) only [opsLoop, evOper, wantedA, nth, aop, aPick, aBin, aIndexAddr, aFieldAddr, aLoad, aStore, aExtract, aConvert, aAlloc, aBox, aIndex, callA, builtinA, Fr.evs, opt, val, when, AM.run, outV, newA, ptr, force_eq, seen_heap, seen_next, seen_mark, seen_seen, agg_cells, int_cells, Fr.ev, Fr.put, onFr, gps, gpn, bltT, still, flat, List.append_nil, List.nil_append, List.cons_append, Nat.reduceEqDiff, ne_eq, not_false_eq_true, reduceCtorEq, Bool.and_true, Bool.true_and, Bool.and_false, Bool.false_and, Bool.not_true, Bool.not_false, Bool.and_self, h3, tyF, dsF, flF0, ftF0, foF0, tyI, szI, ble11, ad0, l1, l2, tgF, evT_told scF, r2, u_not, b_leq, hn2]; rfl
          repeat apply go_seq
          apply go_cond
          case hc => simp (disch := decide) only [opsLoop, evOper, wantedA, nth, aop, aPick, aBin, aIndexAddr, aFieldAddr, aLoad, aStore, aExtract, aConvert, aAlloc, aBox, aIndex, callA, builtinA, Fr.evs, opt, val, when, AM.run, outV, newA, ptr, force_eq, seen_heap, seen_next, seen_mark, seen_seen, agg_cells, int_cells, Fr.ev, Fr.put, onFr, gps, gpn, bltT, still, flat, List.append_nil, List.nil_append, List.cons_append, Nat.reduceEqDiff, ne_eq, not_false_eq_true, reduceCtorEq, Bool.and_true, Bool.true_and, Bool.and_false, Bool.false_and, Bool.not_true, Bool.not_false, Bool.and_self]; rfl
          case h2 => intro h; cases h
          intro _
          repeat apply go_seq
          apply go_region
          case h => intro m; simp (maxSteps := 2000000) (disch := decide) only [opsLoop, evOper, wantedA, nth, aop, aPick, aBin, aIndexAddr, aFieldAddr, aLoad, aStore, aExtract, aConvert, aAlloc, aBox, aIndex, callA, builtinA, Fr.evs, opt, val, when, AM.run, outV, newA, ptr, force_eq, seen_heap, seen_next, seen_mark, seen_seen, agg_cells, int_cells, Fr.ev, Fr.put, onFr, gps, gpn, bltT, still, flat, List.append_nil, List.nil_append, List.cons_append, Nat.reduceEqDiff, ne_eq, not_false_eq_true, reduceCtorEq, Bool.and_true, Bool.true_and, Bool.and_false, Bool.false_and, Bool.not_true, Bool.not_false, Bool.and_self]; rfl
          apply go_ret
          refine ⟨_, rfl, by show N2 ≤ _; omega, hg2, .inr ⟨rfl, hfin, ?_⟩⟩
          simp (disch := decide) only [gps, gpn]
        | true =>
          have hfin : filesOK 0 fs = filesOK f.name (fs.drop (i + 1)) := by rw [hok]; simp [filesOK, hr, hn2]
          repeat apply go_seq
          apply go_region
          case h => intro m; simp (maxSteps := 2000000) (disch := decide) only [opsLoop, evOper, wantedA, nth, aop, aPick, aBin, aIndexAddr, aFieldAddr, aLoad, aStore, aExtract, aConvert, aAlloc, aBox, aIndex, callA, builtinA, Fr.evs, opt, val, when, AM.run, outV, newA, ptr, force_eq, seen_heap, seen_next, seen_mark, seen_seen, agg_cells, int_cells, Fr.ev, Fr.put, onFr, gps, gpn, bltT, still, flat, List.append_nil, List.nil_append, List.cons_append, Nat.reduceEqDiff, ne_eq, not_false_eq_true, reduceCtorEq, Bool.and_true, Bool.true_and, Bool.and_false, Bool.false_and, Bool.not_true, Bool.not_false, Bool.and_self, h3, tyF, dsF, flF0, ftF0, foF0, tyI, szI, ble11, ad0, l1, l2, tgF, evT_told scF, r2, u_not, b_leq, hn2]; rfl
          repeat apply go_seq
          apply go_cond
          case hc => simp (disch := decide) only [opsLoop, evOper, wantedA, nth, aop, aPick, aBin, aIndexAddr, aFieldAddr, aLoad, aStore, aExtract, aConvert, aAlloc, aBox, aIndex, callA, builtinA, Fr.evs, opt, val, when, AM.run, outV, newA, ptr, force_eq, seen_heap, seen_next, seen_mark, seen_seen, agg_cells, int_cells, Fr.ev, Fr.put, onFr, gps, gpn, bltT, still, flat, List.append_nil, List.nil_append, List.cons_append, Nat.reduceEqDiff, ne_eq, not_false_eq_true, reduceCtorEq, Bool.and_true, Bool.true_and, Bool.and_false, Bool.false_and, Bool.not_true, Bool.not_false, Bool.and_self]; rfl
          case h1 => intro h; cases h
          intro _
          apply go_skip
          repeat apply go_seq
          apply go_region
          case h => intro m; simp (maxSteps := 2000000) (disch := decide) only [opsLoop, evOper, wantedA, nth, aop, aPick, aBin, aIndexAddr, aFieldAddr, aLoad, aStore, aExtract, aConvert, aAlloc, aBox, aIndex, callA, builtinA, Fr.evs, opt, val, when, AM.run, outV, newA, ptr, force_eq, seen_heap, seen_next, seen_mark, seen_seen, agg_cells, int_cells, Fr.ev, Fr.put, onFr, gps, gpn, bltT, still, flat, List.append_nil, List.nil_append, List.cons_append, Nat.reduceEqDiff, ne_eq, not_false_eq_true, reduceCtorEq, Bool.and_true, Bool.true_and, Bool.and_false, Bool.false_and, Bool.not_true, Bool.not_false, Bool.and_self, tyF, dsF, flF0, ftF0, foF0, tyI, szI, ble11, ad0, l2]; rfl
          repeat apply go_seq
          apply go_region
          case h => intro m; simp (maxSteps := 2000000) (disch := decide) only [opsLoop, evOper, wantedA, nth, aop, aPick, aBin, aIndexAddr, aFieldAddr, aLoad, aStore, aExtract, aConvert, aAlloc, aBox, aIndex, callA, builtinA, Fr.evs, opt, val, when, AM.run, outV, newA, ptr, force_eq, seen_heap, seen_next, seen_mark, seen_seen, agg_cells, int_cells, Fr.ev, Fr.put, onFr, gps, gpn, bltT, still, flat, List.append_nil, List.nil_append, List.cons_append, Nat.reduceEqDiff, ne_eq, not_false_eq_true, reduceCtorEq, Bool.and_true, Bool.true_and, Bool.and_false, Bool.false_and, Bool.not_true, Bool.not_false, Bool.and_self, h51, int1, hinc]; rfl
          refine ⟨fs.length - (i + 1), by omega, i + 1, f.name, _, rfl, by omega, rfl, by show N2 = _; omega, hg2, ?_, ?_, ?_, ?_, hfin⟩
          · simp (disch := decide) only [gps, gpn, h49]
          · simp (disch := decide) only [gps, gpn, h50]
          · simp (disch := decide) only [gps, gpn]
          · simp (disch := decide) only [gps, gpn]
  · obtain rfl : i = fs.length := by omega
    have hlt' : ltI (Int.ofNat fs.length) (Int.ofNat fs.length) = false := by rw [ltI_eq]; simp
    rw [List.drop_length] at hok
    repeat apply go_seq
    apply go_region
    case h => intro m; simp (maxSteps := 2000000) (disch := decide) only [opsLoop, evOper, wantedA, nth, aop, aPick, aBin, aIndexAddr, aFieldAddr, aLoad, aStore, aExtract, aConvert, aAlloc, aBox, aIndex, callA, builtinA, Fr.evs, opt, val, when, AM.run, outV, newA, ptr, force_eq, seen_heap, seen_next, seen_mark, seen_seen, agg_cells, int_cells, Fr.ev, Fr.put, onFr, gps, gpn, bltT, still, flat, List.append_nil, List.nil_append, List.cons_append, Nat.reduceEqDiff, ne_eq, not_false_eq_true, reduceCtorEq, Bool.and_true, Bool.true_and, Bool.and_false, Bool.false_and, Bool.not_true, Bool.not_false, Bool.and_self, h50, h51, b_lss, hlt']; rfl
    repeat apply go_seq
    apply go_cond
    case hc => simp (disch := decide) only [opsLoop, evOper, wantedA, nth, aop, aPick, aBin, aIndexAddr, aFieldAddr, aLoad, aStore, aExtract, aConvert, aAlloc, aBox, aIndex, callA, builtinA, Fr.evs, opt, val, when, AM.run, outV, newA, ptr, force_eq, seen_heap, seen_next, seen_mark, seen_seen, agg_cells, int_cells, Fr.ev, Fr.put, onFr, gps, gpn, bltT, still, flat, List.append_nil, List.nil_append, List.cons_append, Nat.reduceEqDiff, ne_eq, not_false_eq_true, reduceCtorEq, Bool.and_true, Bool.true_and, Bool.and_false, Bool.false_and, Bool.not_true, Bool.not_false, Bool.and_self]; rfl
    case h1 => intro h; cases h
    intro _
    apply go_exit
    exact ⟨_, rfl, by omega, hg, .inl ⟨rfl, hok⟩⟩

/-- from the loop on -/
theorem cat_tail (s0 : S) (cap c : Nat) (a : Option Addr) (d : CatD) (hc : c ≤ 2) (hl : d.files.length ≤ 1000000) (hv : Vx s0 a (fcs d.files)) (hN : ∀ i, i < 2 + 2 * d.files.length → Nat.ble (s0.next + i) lastName = true) (s s' : S) (t : Tr Value)
    (hn : s.next = s0.next + c) (hg : ∀ m, ¬ (s0.next ≤ m ∧ m < s0.next + (2 + 2 * d.files.length)) → s.heap.get m = s0.heap.get m) (C : Cl s s0.next 0 (d.cells a cap)) (h1 : t.get 1 = some (.pointer (some ⟨s0.next, 0, none⟩)))
    (hn9 : s'.next = s0.next + (2 + 2 * d.files.length)) (hh9 : ∀ m, s'.heap.get m = if s0.next ≤ m ∧ m < s0.next + (2 + 2 * d.files.length) then none else s0.heap.get m) (v : Value) (hv9 : v = .bool (filesOK 0 d.files)) :
    GoC E (sumsOf sigCa) cdCa5 ⟨13, t, 67, [], none⟩ s (Ret E 13 fiCa fun v1 s1 => v1 = v ∧ Less' s1 s') := by
  have hcode : cdCa5 = .seq (sub [1,1,1,0] cdCa) (.seq (.seq (sub [1,1,1,1,0,0] cdCa) (.block 0 (.loop cdCal))) (sub [1,1,1,1,1] cdCa)) := rfl
  rw [hcode]
  simp only [cdCa, Tryd.f13, bodyOf, sub]
  obtain ⟨H, N, mk, rd, wr⟩ := s
  simp only at hn hg
  have l8 := C.ld (k := 8) tiFs (by rw [dsFs]; rfl) rfl
  simp only [Nat.zero_add] at l8
  have ad8 : addA ⟨s0.next, 0, none⟩ 8 = ⟨s0.next, 8, none⟩ := rfl
  repeat apply go_seq
  apply go_region
  case h => intro m; simp (maxSteps := 2000000) (disch := decide) only [opsLoop, evOper, wantedA, nth, aop, aPick, aBin, aIndexAddr, aFieldAddr, aLoad, aStore, aExtract, aConvert, aAlloc, aBox, aIndex, callA, builtinA, Fr.evs, opt, val, when, AM.run, outV, newA, ptr, force_eq, seen_heap, seen_next, seen_mark, seen_seen, agg_cells, int_cells, Fr.ev, Fr.put, onFr, gps, gpn, bltT, still, flat, List.append_nil, List.nil_append, List.cons_append, Nat.reduceEqDiff, ne_eq, not_false_eq_true, reduceCtorEq, Bool.and_true, Bool.true_and, Bool.and_false, Bool.false_and, Bool.not_true, Bool.not_false, Bool.and_self]; rfl
  repeat apply go_seq
  apply go_region
  case h => intro m; simp (maxSteps := 2000000) (disch := decide) only [opsLoop, evOper, wantedA, nth, aop, aPick, aBin, aIndexAddr, aFieldAddr, aLoad, aStore, aExtract, aConvert, aAlloc, aBox, aIndex, callA, builtinA, Fr.evs, opt, val, when, AM.run, outV, newA, ptr, force_eq, seen_heap, seen_next, seen_mark, seen_seen, agg_cells, int_cells, Fr.ev, Fr.put, onFr, gps, gpn, bltT, still, flat, List.append_nil, List.nil_append, List.cons_append, Nat.reduceEqDiff, ne_eq, not_false_eq_true, reduceCtorEq, Bool.and_true, Bool.true_and, Bool.and_false, Bool.false_and, Bool.not_true, Bool.not_false, Bool.and_self, h1, tyC, dsC, flC5, ftC5, foC5, tyFs, dsFs, szFs, ble11, ad8, l8]; rfl
  apply go_block
  refine (go_loop_inv (body := cdCal) (InvC s0 0 cap c a d.files) (fun k fr s1 hI => cat_round s0 cap c a d.files hc hl hv hN k fr s1 hI) (d.files.length - 0) _ _ ⟨0, 0, _, rfl, by omega, rfl, hn, hg, ?_, ?_, ?_, ?_, rfl⟩).mono ?_
  · simp (disch := decide) only [gps, gpn]
  · simp (disch := decide) only [gps, gpn]
  · simp (disch := decide) only [gps, gpn, int0]
  · simp (disch := decide) only [gps, gpn]
  rintro ex fr s3 ⟨t3, rfl, hn3, hg3, hx⟩
  have hless : Less' s3 s' := less_new (s := s0) (n := 2 + 2 * d.files.length) (by omega) hn9 hh9 hg3
  rcases hx with ⟨rfl, hok⟩ | ⟨rfl, hok, k2⟩
  · simp only [Out_, if_true]
    show GoC E _ _ _ _ _
    repeat apply go_seq
    apply go_region
    case h => intro m; simp (maxSteps := 2000000) (disch := decide) only [opsLoop, evOper, wantedA, nth, aop, aPick, aBin, aIndexAddr, aFieldAddr, aLoad, aStore, aExtract, aConvert, aAlloc, aBox, aIndex, callA, builtinA, Fr.evs, opt, val, when, AM.run, outV, newA, ptr, force_eq, seen_heap, seen_next, seen_mark, seen_seen, agg_cells, int_cells, Fr.ev, Fr.put, onFr, gps, gpn, bltT, still, flat, List.append_nil, List.nil_append, List.cons_append, Nat.reduceEqDiff, ne_eq, not_false_eq_true, reduceCtorEq, Bool.and_true, Bool.true_and, Bool.and_false, Bool.false_and, Bool.not_true, Bool.not_false, Bool.and_self]; rfl
    repeat apply go_seq
    apply go_ret
    apply ret_intro rfl rfl
    case run => simp (disch := decide) only [resultsM, resultsA, resCa, opsLoop, evOper, wantedA, nth, aop, aPick, aBin, aIndexAddr, aFieldAddr, aLoad, aStore, aExtract, aConvert, aAlloc, aBox, aIndex, callA, builtinA, Fr.evs, opt, val, when, AM.run, outV, newA, ptr, force_eq, seen_heap, seen_next, seen_mark, seen_seen, agg_cells, int_cells, Fr.ev, Fr.put, onFr, gps, gpn, bltT, still, flat, List.append_nil, List.nil_append, List.cons_append, Nat.reduceEqDiff, ne_eq, not_false_eq_true, reduceCtorEq, Bool.and_true, Bool.true_and, Bool.and_false, Bool.false_and, Bool.not_true, Bool.not_false, Bool.and_self]; rfl
    exact ⟨by rw [hv9, hok], hless⟩
  · simp only [Out_]
    apply ret_intro rfl rfl
    case run => simp (disch := decide) only [resultsM, resultsA, resCa, opsLoop, evOper, wantedA, nth, aop, aPick, aBin, aIndexAddr, aFieldAddr, aLoad, aStore, aExtract, aConvert, aAlloc, aBox, aIndex, callA, builtinA, Fr.evs, opt, val, when, AM.run, outV, newA, ptr, force_eq, seen_heap, seen_next, seen_mark, seen_seen, agg_cells, int_cells, Fr.ev, Fr.put, onFr, gps, gpn, bltT, still, flat, List.append_nil, List.nil_append, List.cons_append, Nat.reduceEqDiff, ne_eq, not_false_eq_true, reduceCtorEq, Bool.and_true, Bool.true_and, Bool.and_false, Bool.false_and, Bool.not_true, Bool.not_false, Bool.and_self, k2]; rfl
    exact ⟨by rw [hv9, hok], hless⟩

set_option maxHeartbeats 8000000 in
theorem told_rightC : AE.Told Tryd.prog 13 rightCA := by
  refine told_go hE hmix tolds_Ca ?_
  intro args s v s' h hm
  unfold rightCA at h
  split at h
  · rename_i g st su en fo to bu fa a n cap
    obtain ⟨hc, h2⟩ := run_when h
    have hn := ble_iff.1 hc
    obtain ⟨L, s1, hL, hvx, hr1, h3⟩ := vx_of_rd h2
    obtain ⟨fs, hfs, h4⟩ := run_opt h3
    have hLf := filesOf_inv L fs hfs
    subst hLf
    rw [fcs_len] at hL
    obtain rfl : n = fs.length := by omega
    obtain ⟨s9, h5, hn9, hm9, hh9, hbl⟩ := bump_run _ _ _ _ h4
    cases h5
    clear h h2 h3 h4 hL
    rw [hr1.next] at hn9 hh9 hbl
    simp only [hr1.heap] at hh9
    refine go_enter (fi := fiCa) (c := cdCa) (by kernel_rfl) (by kernel_rfl) 67 rfl rfl ?_
    have hcode : cdCa = .seq (sub [0] cdCa) (.seq (sub [1,0] cdCa) (.seq (sub [1,1,0] cdCa) cdCa5)) := rfl
    rw [hcode]
    generalize hrest : cdCa5 = rest
    simp only [cdCa, Tryd.f13, bodyOf, sub]
    obtain ⟨D, hD⟩ : ∃ D : CatD, D = ⟨g, st, su, en, fo, to, bu, fa, fs⟩ := ⟨_, rfl⟩
    have hcells : D.cells a cap = [.int .i64 g, .int .i64 st, .int .i64 su, .bool en, .int .i64 fo, .int .i64 to, .int .i64 bu, .int .i64 fa, .slice a fs.length cap] := by subst hD; rfl
    rw [← hD]
    rw [← hcells]
    have h0 : (Tr.ofList [Value.agg ⟨D.cells a cap⟩]).get 0 = some (.agg ⟨D.cells a cap⟩) := rfl
    generalize Tr.ofList [Value.agg ⟨D.cells a cap⟩] = t at *
    have hN0 : Nat.ble s.next lastName = true := hbl 0 (by omega)
    have hN1 : Nat.ble (s.next + 1) lastName = true := hbl 1 (by omega)
    repeat apply go_seq
    apply go_region
    case h => intro m; simp (maxSteps := 2000000) (disch := decide) only [opsLoop, evOper, wantedA, nth, aop, aPick, aBin, aIndexAddr, aFieldAddr, aLoad, aStore, aExtract, aConvert, aAlloc, aBox, aIndex, callA, builtinA, Fr.evs, opt, val, when, AM.run, outV, newA, ptr, force_eq, seen_heap, seen_next, seen_mark, seen_seen, agg_cells, int_cells, Fr.ev, Fr.put, onFr, gps, gpn, bltT, still, flat, List.append_nil, List.nil_append, List.cons_append, Nat.reduceEqDiff, ne_eq, not_false_eq_true, reduceCtorEq, Bool.and_true, Bool.true_and, Bool.and_false, Bool.false_and, Bool.not_true, Bool.not_false, Bool.and_self, h0, tyC, hN0, show Nat.ble (D.cells a cap).length lastName = true from rfl]; rfl
    generalize hs1 : S.mk _ _ _ _ _ = s2
    have e1 : s2.next = s.next + 1 := by rw [← hs1]
    have e1h : s2.heap = s.heap.put s.next (some (.cells (Tr.ofList (D.cells a cap)) (D.cells a cap).length 27 .whole)) := by rw [← hs1]
    clear hs1
    have C1 : Cl s2 s.next 0 (D.cells a cap) := Cl.new (by omega) (by rw [e1h]; exact hg_same hN0 _ _) (by rw [hcells]; simp)
    have g1 : ∀ m, m ≠ s.next → s2.heap.get m = s.heap.get m := fun m hm => by rw [e1h, hg_far hN0 hm]
    clear e1h
    have hless : ∀ s3 : S, s3.next ≤ s.next + 2 → (∀ m, m ≠ s.next → m ≠ s.next + 1 → s3.heap.get m = s.heap.get m) → Less' s3 s' := fun s3 q1 q2 => less_new (s := s) (n := 2 + 2 * fs.length) (by omega) hn9 hh9 (fun m hm => q2 m (by omega) (by omega))
    have hfl : D.files = fs := by rw [hD]
    have tail : ∀ (s3 : S) (t : Tr Value) (c : Nat), c ≤ 2 → s3.next = s.next + c → (∀ m, m ≠ s.next → m ≠ s.next + 1 → s3.heap.get m = s.heap.get m) → Cl s3 s.next 0 (D.cells a cap) → t.get 1 = some (.pointer (some ⟨s.next, 0, none⟩)) → ∀ v, v = Value.bool (filesOK 0 D.files) →
        GoC E (sumsOf sigCa) rest ⟨13, t, 67, [], none⟩ s3 (Ret E 13 fiCa fun v1 s1 => v1 = v ∧ Less' s1 s') := by
      intro s3 t c hc2 q1 q2 q3 q4 v q5
      rw [← hrest]
      exact cat_tail s cap c a D hc2 (by rw [hfl]; exact hn) (by rw [hfl]; exact hvx) (by rw [hfl]; exact hbl) s3 s' t q1 (by rw [hfl]; intro m hm; exact q2 m (by omega) (by omega)) q3 q4 (by rw [hfl]; exact hn9) (by rw [hfl]; exact hh9) v q5
    have kw1 := within_run D.gen 0 1000
    have kw2 := within_run D.step 0 20
    have kw3 := within_run D.status 0 7
    have hK : (Nat.ble s2.next lastName) = true := by rw [e1]; exact hN1
    obtain ⟨H, N, mk, rd, wr⟩ := s2
    simp only at e1 g1 hK
    have kk := rightKA_at D.from_ D.to_ D.budget D.fan H N mk hK
    have g2 : ∀ m, m ≠ s.next → m ≠ s.next + 1 → ((H.put N (some (.deferred none))).put N none).get m = s.heap.get m := fun m q1 q2 => by
      rw [hg_far hK (by omega), hg_far hK (by omega)]; exact g1 m q1
    have C2 : Cl ⟨(H.put N (some (.deferred none))).put N none, Nat.succ N, mk, rd, wr⟩ s.next 0 (D.cells a cap) := C1.keep (Nat.le_succ _) (by show ((H.put N _).put N none).get _ = H.get _; rw [hg_far hK (by omega), hg_far hK (by omega)])
    have l8' := C2.ld (k := 8) tiFs (by rw [dsFs]; rfl) rfl
    have l0 := C1.ld (k := 0) tiI (by rw [dsI]; rfl) rfl
    have l1 := C1.ld (k := 1) tiI (by rw [dsI]; rfl) rfl
    have l2 := C1.ld (k := 2) tiSt8 (by rw [dsSt8]; rfl) rfl
    have l3 := C1.ld (k := 3) tiBo (by rw [dsBo]; rfl) rfl
    have l8 := C1.ld (k := 8) tiFs (by rw [dsFs]; rfl) rfl
    have l4 := (C1.sub 4 4 (by rw [hcells]; simp)).ldA (β := ANext) tiK (by rw [dsK]; rfl) (by rw [szK]; rfl)
    simp only [Nat.zero_add] at l0 l1 l2 l3 l4 l8 l8'
    have hsubK : ((D.cells a cap).drop 4).take 4 = [.int .i64 D.from_, .int .i64 D.to_, .int .i64 D.budget, .int .i64 D.fan] := rfl
    rw [hsubK] at l4
    have a4 : addA ⟨s.next, 0, none⟩ 4 = ⟨s.next, 4, none⟩ := rfl
    have a8 : addA ⟨s.next, 0, none⟩ 8 = ⟨s.next, 8, none⟩ := rfl
    have nk := neqK D.from_ D.to_ D.budget D.fan
    have hlen : (D.cells a cap).length = 9 := rfl
    generalize hLL : D.cells a cap = LL at *
    have hfn : D.files.length = fs.length := by rw [hfl]
    have hright : D.right = (D.headOK && (D.midOK && filesOK 0 D.files)) := rfl
    cases w1 : wi D.gen 0 1000
    · rw [w1] at kw1
      have hv : D.right = false := by rw [hright]; unfold CatD.headOK; simp [w1]
      rw [hv]
      repeat apply go_seq
      apply go_region
      case h => intro m; simp (maxSteps := 2000000) (disch := decide) only [opsLoop, evOper, wantedA, nth, aop, aPick, aBin, aIndexAddr, aFieldAddr, aLoad, aStore, aExtract, aConvert, aAlloc, aBox, aIndex, callA, builtinA, Fr.evs, opt, val, when, AM.run, outV, newA, ptr, force_eq, seen_heap, seen_next, seen_mark, seen_seen, agg_cells, int_cells, Fr.ev, Fr.put, onFr, gps, gpn, bltT, still, flat, List.append_nil, List.nil_append, List.cons_append, Nat.reduceEqDiff, ne_eq, not_false_eq_true, reduceCtorEq, Bool.and_true, Bool.true_and, Bool.and_false, Bool.false_and, Bool.not_true, Bool.not_false, Bool.and_self, tyC, dsC, flC0, flC1, flC2, flC3, flC4, flC5, ftC0, ftC1, ftC2, ftC3, ftC4, ftC5, foC0, foC1, foC2, foC3, foC4, foC5, tyI, szI, tySt8, szSt8, tyBo, szBo, tyK, szK, tyFs, szFs, ble11, ad0, ad1, ad2, ad3', a4, a8, l0, l1, l2, l3, l4, l8, show Nat.ble 1 4 = true from rfl, tgCw, evT_told scW, kw1, u_not]; rfl
      repeat apply go_seq
      apply go_cond
      case hc => simp (disch := decide) only [opsLoop, evOper, wantedA, nth, aop, aPick, aBin, aIndexAddr, aFieldAddr, aLoad, aStore, aExtract, aConvert, aAlloc, aBox, aIndex, callA, builtinA, Fr.evs, opt, val, when, AM.run, outV, newA, ptr, force_eq, seen_heap, seen_next, seen_mark, seen_seen, agg_cells, int_cells, Fr.ev, Fr.put, onFr, gps, gpn, bltT, still, flat, List.append_nil, List.nil_append, List.cons_append, Nat.reduceEqDiff, ne_eq, not_false_eq_true, reduceCtorEq, Bool.and_true, Bool.true_and, Bool.and_false, Bool.false_and, Bool.not_true, Bool.not_false, Bool.and_self]; rfl
      case h2 => intro h; cases h
      intro _
      repeat apply go_seq
      apply go_region
      case h => intro m; simp (maxSteps := 2000000) (disch := decide) only [opsLoop, evOper, wantedA, nth, aop, aPick, aBin, aIndexAddr, aFieldAddr, aLoad, aStore, aExtract, aConvert, aAlloc, aBox, aIndex, callA, builtinA, Fr.evs, opt, val, when, AM.run, outV, newA, ptr, force_eq, seen_heap, seen_next, seen_mark, seen_seen, agg_cells, int_cells, Fr.ev, Fr.put, onFr, gps, gpn, bltT, still, flat, List.append_nil, List.nil_append, List.cons_append, Nat.reduceEqDiff, ne_eq, not_false_eq_true, reduceCtorEq, Bool.and_true, Bool.true_and, Bool.and_false, Bool.false_and, Bool.not_true, Bool.not_false, Bool.and_self]; rfl
      repeat apply go_seq
      apply go_ret
      apply ret_intro rfl rfl
      case run => simp (disch := decide) only [resultsM, resultsA, resCa, opsLoop, evOper, wantedA, nth, aop, aPick, aBin, aIndexAddr, aFieldAddr, aLoad, aStore, aExtract, aConvert, aAlloc, aBox, aIndex, callA, builtinA, Fr.evs, opt, val, when, AM.run, outV, newA, ptr, force_eq, seen_heap, seen_next, seen_mark, seen_seen, agg_cells, int_cells, Fr.ev, Fr.put, onFr, gps, gpn, bltT, still, flat, List.append_nil, List.nil_append, List.cons_append, Nat.reduceEqDiff, ne_eq, not_false_eq_true, reduceCtorEq, Bool.and_true, Bool.true_and, Bool.and_false, Bool.false_and, Bool.not_true, Bool.not_false, Bool.and_self]; rfl
      exact ⟨rfl, hless _ (by show N ≤ _; omega) (fun m q1 q2 => g1 m q1)⟩
    cases w2 : wi D.step 0 20
    · rw [w1] at kw1
      rw [w2] at kw2
      have hv : D.right = false := by rw [hright]; unfold CatD.headOK; simp [w2]
      rw [hv]
      repeat apply go_seq
      apply go_region
      case h => intro m; simp (maxSteps := 2000000) (disch := decide) only [opsLoop, evOper, wantedA, nth, aop, aPick, aBin, aIndexAddr, aFieldAddr, aLoad, aStore, aExtract, aConvert, aAlloc, aBox, aIndex, callA, builtinA, Fr.evs, opt, val, when, AM.run, outV, newA, ptr, force_eq, seen_heap, seen_next, seen_mark, seen_seen, agg_cells, int_cells, Fr.ev, Fr.put, onFr, gps, gpn, bltT, still, flat, List.append_nil, List.nil_append, List.cons_append, Nat.reduceEqDiff, ne_eq, not_false_eq_true, reduceCtorEq, Bool.and_true, Bool.true_and, Bool.and_false, Bool.false_and, Bool.not_true, Bool.not_false, Bool.and_self, tyC, dsC, flC0, flC1, flC2, flC3, flC4, flC5, ftC0, ftC1, ftC2, ftC3, ftC4, ftC5, foC0, foC1, foC2, foC3, foC4, foC5, tyI, szI, tySt8, szSt8, tyBo, szBo, tyK, szK, tyFs, szFs, ble11, ad0, ad1, ad2, ad3', a4, a8, l0, l1, l2, l3, l4, l8, show Nat.ble 1 4 = true from rfl, tgCw, evT_told scW, kw1, kw2, u_not]; rfl
      repeat apply go_seq
      apply go_cond
      case hc => simp (disch := decide) only [opsLoop, evOper, wantedA, nth, aop, aPick, aBin, aIndexAddr, aFieldAddr, aLoad, aStore, aExtract, aConvert, aAlloc, aBox, aIndex, callA, builtinA, Fr.evs, opt, val, when, AM.run, outV, newA, ptr, force_eq, seen_heap, seen_next, seen_mark, seen_seen, agg_cells, int_cells, Fr.ev, Fr.put, onFr, gps, gpn, bltT, still, flat, List.append_nil, List.nil_append, List.cons_append, Nat.reduceEqDiff, ne_eq, not_false_eq_true, reduceCtorEq, Bool.and_true, Bool.true_and, Bool.and_false, Bool.false_and, Bool.not_true, Bool.not_false, Bool.and_self]; rfl
      case h2 => intro h; cases h
      intro _
      repeat apply go_seq
      apply go_region
      case h => intro m; simp (maxSteps := 2000000) (disch := decide) only [opsLoop, evOper, wantedA, nth, aop, aPick, aBin, aIndexAddr, aFieldAddr, aLoad, aStore, aExtract, aConvert, aAlloc, aBox, aIndex, callA, builtinA, Fr.evs, opt, val, when, AM.run, outV, newA, ptr, force_eq, seen_heap, seen_next, seen_mark, seen_seen, agg_cells, int_cells, Fr.ev, Fr.put, onFr, gps, gpn, bltT, still, flat, List.append_nil, List.nil_append, List.cons_append, Nat.reduceEqDiff, ne_eq, not_false_eq_true, reduceCtorEq, Bool.and_true, Bool.true_and, Bool.and_false, Bool.false_and, Bool.not_true, Bool.not_false, Bool.and_self]; rfl
      repeat apply go_seq
      apply go_ret
      apply ret_intro rfl rfl
      case run => simp (disch := decide) only [resultsM, resultsA, resCa, opsLoop, evOper, wantedA, nth, aop, aPick, aBin, aIndexAddr, aFieldAddr, aLoad, aStore, aExtract, aConvert, aAlloc, aBox, aIndex, callA, builtinA, Fr.evs, opt, val, when, AM.run, outV, newA, ptr, force_eq, seen_heap, seen_next, seen_mark, seen_seen, agg_cells, int_cells, Fr.ev, Fr.put, onFr, gps, gpn, bltT, still, flat, List.append_nil, List.nil_append, List.cons_append, Nat.reduceEqDiff, ne_eq, not_false_eq_true, reduceCtorEq, Bool.and_true, Bool.true_and, Bool.and_false, Bool.false_and, Bool.not_true, Bool.not_false, Bool.and_self]; rfl
      exact ⟨rfl, hless _ (by show N ≤ _; omega) (fun m q1 q2 => g1 m q1)⟩
    cases w3 : wi D.status 0 7
    · rw [w1] at kw1
      rw [w2] at kw2
      rw [w3] at kw3
      have hv : D.right = false := by rw [hright]; unfold CatD.headOK; simp [w3]
      rw [hv]
      repeat apply go_seq
      apply go_region
      case h => intro m; simp (maxSteps := 2000000) (disch := decide) only [opsLoop, evOper, wantedA, nth, aop, aPick, aBin, aIndexAddr, aFieldAddr, aLoad, aStore, aExtract, aConvert, aAlloc, aBox, aIndex, callA, builtinA, Fr.evs, opt, val, when, AM.run, outV, newA, ptr, force_eq, seen_heap, seen_next, seen_mark, seen_seen, agg_cells, int_cells, Fr.ev, Fr.put, onFr, gps, gpn, bltT, still, flat, List.append_nil, List.nil_append, List.cons_append, Nat.reduceEqDiff, ne_eq, not_false_eq_true, reduceCtorEq, Bool.and_true, Bool.true_and, Bool.and_false, Bool.false_and, Bool.not_true, Bool.not_false, Bool.and_self, tyC, dsC, flC0, flC1, flC2, flC3, flC4, flC5, ftC0, ftC1, ftC2, ftC3, ftC4, ftC5, foC0, foC1, foC2, foC3, foC4, foC5, tyI, szI, tySt8, szSt8, tyBo, szBo, tyK, szK, tyFs, szFs, ble11, ad0, ad1, ad2, ad3', a4, a8, l0, l1, l2, l3, l4, l8, show Nat.ble 1 4 = true from rfl, tgCw, evT_told scW, kw1, kw2, kw3, u_not]; rfl
      repeat apply go_seq
      apply go_cond
      case hc => simp (disch := decide) only [opsLoop, evOper, wantedA, nth, aop, aPick, aBin, aIndexAddr, aFieldAddr, aLoad, aStore, aExtract, aConvert, aAlloc, aBox, aIndex, callA, builtinA, Fr.evs, opt, val, when, AM.run, outV, newA, ptr, force_eq, seen_heap, seen_next, seen_mark, seen_seen, agg_cells, int_cells, Fr.ev, Fr.put, onFr, gps, gpn, bltT, still, flat, List.append_nil, List.nil_append, List.cons_append, Nat.reduceEqDiff, ne_eq, not_false_eq_true, reduceCtorEq, Bool.and_true, Bool.true_and, Bool.and_false, Bool.false_and, Bool.not_true, Bool.not_false, Bool.and_self]; rfl
      case h2 => intro h; cases h
      intro _
      repeat apply go_seq
      apply go_region
      case h => intro m; simp (maxSteps := 2000000) (disch := decide) only [opsLoop, evOper, wantedA, nth, aop, aPick, aBin, aIndexAddr, aFieldAddr, aLoad, aStore, aExtract, aConvert, aAlloc, aBox, aIndex, callA, builtinA, Fr.evs, opt, val, when, AM.run, outV, newA, ptr, force_eq, seen_heap, seen_next, seen_mark, seen_seen, agg_cells, int_cells, Fr.ev, Fr.put, onFr, gps, gpn, bltT, still, flat, List.append_nil, List.nil_append, List.cons_append, Nat.reduceEqDiff, ne_eq, not_false_eq_true, reduceCtorEq, Bool.and_true, Bool.true_and, Bool.and_false, Bool.false_and, Bool.not_true, Bool.not_false, Bool.and_self]; rfl
      repeat apply go_seq
      apply go_ret
      apply ret_intro rfl rfl
      case run => simp (disch := decide) only [resultsM, resultsA, resCa, opsLoop, evOper, wantedA, nth, aop, aPick, aBin, aIndexAddr, aFieldAddr, aLoad, aStore, aExtract, aConvert, aAlloc, aBox, aIndex, callA, builtinA, Fr.evs, opt, val, when, AM.run, outV, newA, ptr, force_eq, seen_heap, seen_next, seen_mark, seen_seen, agg_cells, int_cells, Fr.ev, Fr.put, onFr, gps, gpn, bltT, still, flat, List.append_nil, List.nil_append, List.cons_append, Nat.reduceEqDiff, ne_eq, not_false_eq_true, reduceCtorEq, Bool.and_true, Bool.true_and, Bool.and_false, Bool.false_and, Bool.not_true, Bool.not_false, Bool.and_self]; rfl
      exact ⟨rfl, hless _ (by show N ≤ _; omega) (fun m q1 q2 => g1 m q1)⟩
    rw [w1] at kw1
    rw [w2] at kw2
    rw [w3] at kw3
    have hhead : D.headOK = true := by unfold CatD.headOK; rw [w1, w2, w3]; rfl
    have hright : D.right = (D.midOK && filesOK 0 D.files) := by rw [hright, hhead]; rfl
    repeat apply go_seq
    apply go_region
    case h => intro m; simp (maxSteps := 2000000) (disch := decide) only [opsLoop, evOper, wantedA, nth, aop, aPick, aBin, aIndexAddr, aFieldAddr, aLoad, aStore, aExtract, aConvert, aAlloc, aBox, aIndex, callA, builtinA, Fr.evs, opt, val, when, AM.run, outV, newA, ptr, force_eq, seen_heap, seen_next, seen_mark, seen_seen, agg_cells, int_cells, Fr.ev, Fr.put, onFr, gps, gpn, bltT, still, flat, List.append_nil, List.nil_append, List.cons_append, Nat.reduceEqDiff, ne_eq, not_false_eq_true, reduceCtorEq, Bool.and_true, Bool.true_and, Bool.and_false, Bool.false_and, Bool.not_true, Bool.not_false, Bool.and_self, tyC, dsC, flC0, flC1, flC2, flC3, flC4, flC5, ftC0, ftC1, ftC2, ftC3, ftC4, ftC5, foC0, foC1, foC2, foC3, foC4, foC5, tyI, szI, tySt8, szSt8, tyBo, szBo, tyK, szK, tyFs, szFs, ble11, ad0, ad1, ad2, ad3', a4, a8, l0, l1, l2, l3, l4, l8, show Nat.ble 1 4 = true from rfl, tgCw, evT_told scW, kw1, kw2, kw3, u_not]; rfl
    repeat apply go_seq
    apply go_cond
    case hc => simp (disch := decide) only [opsLoop, evOper, wantedA, nth, aop, aPick, aBin, aIndexAddr, aFieldAddr, aLoad, aStore, aExtract, aConvert, aAlloc, aBox, aIndex, callA, builtinA, Fr.evs, opt, val, when, AM.run, outV, newA, ptr, force_eq, seen_heap, seen_next, seen_mark, seen_seen, agg_cells, int_cells, Fr.ev, Fr.put, onFr, gps, gpn, bltT, still, flat, List.append_nil, List.nil_append, List.cons_append, Nat.reduceEqDiff, ne_eq, not_false_eq_true, reduceCtorEq, Bool.and_true, Bool.true_and, Bool.and_false, Bool.false_and, Bool.not_true, Bool.not_false, Bool.and_self]; rfl
    case h1 => intro h; cases h
    intro _
    apply go_skip
    have b_neqi : ∀ E t (x y : Int), binA E .neq t (.int .i64 x) (.int .i64 y) = some (.bool (not (eqI x y))) := fun _ _ _ _ => rfl
    cases he : D.ended
    · rw [he] at l3
      cases h0 : eqI D.status 0
      · have h0' := h0
        repeat apply go_seq
        apply go_region
        case h => intro m; simp (maxSteps := 2000000) (disch := decide) only [opsLoop, evOper, wantedA, nth, aop, aPick, aBin, aIndexAddr, aFieldAddr, aLoad, aStore, aExtract, aConvert, aAlloc, aBox, aIndex, callA, builtinA, Fr.evs, opt, val, when, AM.run, outV, newA, ptr, force_eq, seen_heap, seen_next, seen_mark, seen_seen, agg_cells, int_cells, Fr.ev, Fr.put, onFr, gps, gpn, bltT, still, flat, List.append_nil, List.nil_append, List.cons_append, Nat.reduceEqDiff, ne_eq, not_false_eq_true, reduceCtorEq, Bool.and_true, Bool.true_and, Bool.and_false, Bool.false_and, Bool.not_true, Bool.not_false, Bool.and_self, tyC, dsC, flC0, flC1, flC2, flC3, flC4, flC5, ftC0, ftC1, ftC2, ftC3, ftC4, ftC5, foC0, foC1, foC2, foC3, foC4, foC5, tyI, szI, tySt8, szSt8, tyBo, szBo, tyK, szK, tyFs, szFs, ble11, ad0, ad1, ad2, ad3', a4, a8, l0, l1, l2, l3, l4, l8, show Nat.ble 1 4 = true from rfl, dsFs, undef_eq, l8', tgK, evT_told scK, kk, u_not, b_neqi, aBuild, evParts, zeK, dsK, places_K, fillA, nk, b_gtr, show Nat.beq ([Value.int .i64 0, .int .i64 0, .int .i64 0, .int .i64 0] : List Value).length 4 = true from rfl, h0]; rfl
        repeat apply go_seq
        apply go_cond
        case hc => simp (disch := decide) only [opsLoop, evOper, wantedA, nth, aop, aPick, aBin, aIndexAddr, aFieldAddr, aLoad, aStore, aExtract, aConvert, aAlloc, aBox, aIndex, callA, builtinA, Fr.evs, opt, val, when, AM.run, outV, newA, ptr, force_eq, seen_heap, seen_next, seen_mark, seen_seen, agg_cells, int_cells, Fr.ev, Fr.put, onFr, gps, gpn, bltT, still, flat, List.append_nil, List.nil_append, List.cons_append, Nat.reduceEqDiff, ne_eq, not_false_eq_true, reduceCtorEq, Bool.and_true, Bool.true_and, Bool.and_false, Bool.false_and, Bool.not_true, Bool.not_false, Bool.and_self]; rfl
        case h2 => intro h; cases h
        intro _
        repeat apply go_seq
        apply go_region
        case h => intro m; simp (maxSteps := 2000000) (disch := decide) only [opsLoop, evOper, wantedA, nth, aop, aPick, aBin, aIndexAddr, aFieldAddr, aLoad, aStore, aExtract, aConvert, aAlloc, aBox, aIndex, callA, builtinA, Fr.evs, opt, val, when, AM.run, outV, newA, ptr, force_eq, seen_heap, seen_next, seen_mark, seen_seen, agg_cells, int_cells, Fr.ev, Fr.put, onFr, gps, gpn, bltT, still, flat, List.append_nil, List.nil_append, List.cons_append, Nat.reduceEqDiff, ne_eq, not_false_eq_true, reduceCtorEq, Bool.and_true, Bool.true_and, Bool.and_false, Bool.false_and, Bool.not_true, Bool.not_false, Bool.and_self]; rfl
        repeat apply go_seq
        apply go_ret
        apply ret_intro rfl rfl
        case run => simp (disch := decide) only [resultsM, resultsA, resCa, opsLoop, evOper, wantedA, nth, aop, aPick, aBin, aIndexAddr, aFieldAddr, aLoad, aStore, aExtract, aConvert, aAlloc, aBox, aIndex, callA, builtinA, Fr.evs, opt, val, when, AM.run, outV, newA, ptr, force_eq, seen_heap, seen_next, seen_mark, seen_seen, agg_cells, int_cells, Fr.ev, Fr.put, onFr, gps, gpn, bltT, still, flat, List.append_nil, List.nil_append, List.cons_append, Nat.reduceEqDiff, ne_eq, not_false_eq_true, reduceCtorEq, Bool.and_true, Bool.true_and, Bool.and_false, Bool.false_and, Bool.not_true, Bool.not_false, Bool.and_self]; rfl
        exact ⟨by rw [hright]; unfold CatD.midOK; simp only [he, h0] <;> simp, hless _ (by show N ≤ _; omega) (fun m q1 q2 => g1 m q1)⟩
      · have h0' := h0
        cases hz : zeroK D.from_ D.to_ D.budget D.fan
        · rw [hz] at nk
          cases hk : rightK D.from_ D.to_ D.budget D.fan
          · rw [hk] at kk
            repeat apply go_seq
            apply go_region
            case h => intro m; simp (maxSteps := 2000000) (disch := decide) only [opsLoop, evOper, wantedA, nth, aop, aPick, aBin, aIndexAddr, aFieldAddr, aLoad, aStore, aExtract, aConvert, aAlloc, aBox, aIndex, callA, builtinA, Fr.evs, opt, val, when, AM.run, outV, newA, ptr, force_eq, seen_heap, seen_next, seen_mark, seen_seen, agg_cells, int_cells, Fr.ev, Fr.put, onFr, gps, gpn, bltT, still, flat, List.append_nil, List.nil_append, List.cons_append, Nat.reduceEqDiff, ne_eq, not_false_eq_true, reduceCtorEq, Bool.and_true, Bool.true_and, Bool.and_false, Bool.false_and, Bool.not_true, Bool.not_false, Bool.and_self, tyC, dsC, flC0, flC1, flC2, flC3, flC4, flC5, ftC0, ftC1, ftC2, ftC3, ftC4, ftC5, foC0, foC1, foC2, foC3, foC4, foC5, tyI, szI, tySt8, szSt8, tyBo, szBo, tyK, szK, tyFs, szFs, ble11, ad0, ad1, ad2, ad3', a4, a8, l0, l1, l2, l3, l4, l8, show Nat.ble 1 4 = true from rfl, dsFs, undef_eq, l8', tgK, evT_told scK, kk, u_not, b_neqi, aBuild, evParts, zeK, dsK, places_K, fillA, nk, b_gtr, show Nat.beq ([Value.int .i64 0, .int .i64 0, .int .i64 0, .int .i64 0] : List Value).length 4 = true from rfl, h0, hk]; rfl
            repeat apply go_seq
            apply go_cond
            case hc => simp (disch := decide) only [opsLoop, evOper, wantedA, nth, aop, aPick, aBin, aIndexAddr, aFieldAddr, aLoad, aStore, aExtract, aConvert, aAlloc, aBox, aIndex, callA, builtinA, Fr.evs, opt, val, when, AM.run, outV, newA, ptr, force_eq, seen_heap, seen_next, seen_mark, seen_seen, agg_cells, int_cells, Fr.ev, Fr.put, onFr, gps, gpn, bltT, still, flat, List.append_nil, List.nil_append, List.cons_append, Nat.reduceEqDiff, ne_eq, not_false_eq_true, reduceCtorEq, Bool.and_true, Bool.true_and, Bool.and_false, Bool.false_and, Bool.not_true, Bool.not_false, Bool.and_self]; rfl
            case h2 => intro h; cases h
            intro _
            repeat apply go_seq
            apply go_region
            case h => intro m; simp (maxSteps := 2000000) (disch := decide) only [opsLoop, evOper, wantedA, nth, aop, aPick, aBin, aIndexAddr, aFieldAddr, aLoad, aStore, aExtract, aConvert, aAlloc, aBox, aIndex, callA, builtinA, Fr.evs, opt, val, when, AM.run, outV, newA, ptr, force_eq, seen_heap, seen_next, seen_mark, seen_seen, agg_cells, int_cells, Fr.ev, Fr.put, onFr, gps, gpn, bltT, still, flat, List.append_nil, List.nil_append, List.cons_append, Nat.reduceEqDiff, ne_eq, not_false_eq_true, reduceCtorEq, Bool.and_true, Bool.true_and, Bool.and_false, Bool.false_and, Bool.not_true, Bool.not_false, Bool.and_self]; rfl
            repeat apply go_seq
            apply go_ret
            apply ret_intro rfl rfl
            case run => simp (disch := decide) only [resultsM, resultsA, resCa, opsLoop, evOper, wantedA, nth, aop, aPick, aBin, aIndexAddr, aFieldAddr, aLoad, aStore, aExtract, aConvert, aAlloc, aBox, aIndex, callA, builtinA, Fr.evs, opt, val, when, AM.run, outV, newA, ptr, force_eq, seen_heap, seen_next, seen_mark, seen_seen, agg_cells, int_cells, Fr.ev, Fr.put, onFr, gps, gpn, bltT, still, flat, List.append_nil, List.nil_append, List.cons_append, Nat.reduceEqDiff, ne_eq, not_false_eq_true, reduceCtorEq, Bool.and_true, Bool.true_and, Bool.and_false, Bool.false_and, Bool.not_true, Bool.not_false, Bool.and_self]; rfl
            exact ⟨by rw [hright]; unfold CatD.midOK; simp only [he, h0, hz, hk] <;> simp, hless _ (by show Nat.succ N ≤ _; omega) g2⟩
          · rw [hk] at kk
            cases hb : ltI 14 (Int.ofNat D.files.length)
            · have hb' := hb
              repeat apply go_seq
              apply go_region
              case h => intro m; simp (maxSteps := 2000000) (disch := decide) only [opsLoop, evOper, wantedA, nth, aop, aPick, aBin, aIndexAddr, aFieldAddr, aLoad, aStore, aExtract, aConvert, aAlloc, aBox, aIndex, callA, builtinA, Fr.evs, opt, val, when, AM.run, outV, newA, ptr, force_eq, seen_heap, seen_next, seen_mark, seen_seen, agg_cells, int_cells, Fr.ev, Fr.put, onFr, gps, gpn, bltT, still, flat, List.append_nil, List.nil_append, List.cons_append, Nat.reduceEqDiff, ne_eq, not_false_eq_true, reduceCtorEq, Bool.and_true, Bool.true_and, Bool.and_false, Bool.false_and, Bool.not_true, Bool.not_false, Bool.and_self, tyC, dsC, flC0, flC1, flC2, flC3, flC4, flC5, ftC0, ftC1, ftC2, ftC3, ftC4, ftC5, foC0, foC1, foC2, foC3, foC4, foC5, tyI, szI, tySt8, szSt8, tyBo, szBo, tyK, szK, tyFs, szFs, ble11, ad0, ad1, ad2, ad3', a4, a8, l0, l1, l2, l3, l4, l8, show Nat.ble 1 4 = true from rfl, dsFs, undef_eq, l8', tgK, evT_told scK, kk, u_not, b_neqi, aBuild, evParts, zeK, dsK, places_K, fillA, nk, b_gtr, show Nat.beq ([Value.int .i64 0, .int .i64 0, .int .i64 0, .int .i64 0] : List Value).length 4 = true from rfl, h0, hb]; rfl
              repeat apply go_seq
              apply go_cond
              case hc => simp (disch := decide) only [opsLoop, evOper, wantedA, nth, aop, aPick, aBin, aIndexAddr, aFieldAddr, aLoad, aStore, aExtract, aConvert, aAlloc, aBox, aIndex, callA, builtinA, Fr.evs, opt, val, when, AM.run, outV, newA, ptr, force_eq, seen_heap, seen_next, seen_mark, seen_seen, agg_cells, int_cells, Fr.ev, Fr.put, onFr, gps, gpn, bltT, still, flat, List.append_nil, List.nil_append, List.cons_append, Nat.reduceEqDiff, ne_eq, not_false_eq_true, reduceCtorEq, Bool.and_true, Bool.true_and, Bool.and_false, Bool.false_and, Bool.not_true, Bool.not_false, Bool.and_self]; rfl
              case h1 => intro h; cases h
              intro _
              apply go_skip
              refine tail _ _ 2 (by omega) (by show Nat.succ N = _; omega) g2 (C2.of (by rfl) (by rfl)) ?_ _ ?_
              · simp (disch := decide) only [gps, gpn]
              · rw [hright]; unfold CatD.midOK; simp only [he, h0, hz, hk, hb] <;> simp
            · have hb' := hb
              repeat apply go_seq
              apply go_region
              case h => intro m; simp (maxSteps := 2000000) (disch := decide) only [opsLoop, evOper, wantedA, nth, aop, aPick, aBin, aIndexAddr, aFieldAddr, aLoad, aStore, aExtract, aConvert, aAlloc, aBox, aIndex, callA, builtinA, Fr.evs, opt, val, when, AM.run, outV, newA, ptr, force_eq, seen_heap, seen_next, seen_mark, seen_seen, agg_cells, int_cells, Fr.ev, Fr.put, onFr, gps, gpn, bltT, still, flat, List.append_nil, List.nil_append, List.cons_append, Nat.reduceEqDiff, ne_eq, not_false_eq_true, reduceCtorEq, Bool.and_true, Bool.true_and, Bool.and_false, Bool.false_and, Bool.not_true, Bool.not_false, Bool.and_self, tyC, dsC, flC0, flC1, flC2, flC3, flC4, flC5, ftC0, ftC1, ftC2, ftC3, ftC4, ftC5, foC0, foC1, foC2, foC3, foC4, foC5, tyI, szI, tySt8, szSt8, tyBo, szBo, tyK, szK, tyFs, szFs, ble11, ad0, ad1, ad2, ad3', a4, a8, l0, l1, l2, l3, l4, l8, show Nat.ble 1 4 = true from rfl, dsFs, undef_eq, l8', tgK, evT_told scK, kk, u_not, b_neqi, aBuild, evParts, zeK, dsK, places_K, fillA, nk, b_gtr, show Nat.beq ([Value.int .i64 0, .int .i64 0, .int .i64 0, .int .i64 0] : List Value).length 4 = true from rfl, h0, hb]; rfl
              repeat apply go_seq
              apply go_cond
              case hc => simp (disch := decide) only [opsLoop, evOper, wantedA, nth, aop, aPick, aBin, aIndexAddr, aFieldAddr, aLoad, aStore, aExtract, aConvert, aAlloc, aBox, aIndex, callA, builtinA, Fr.evs, opt, val, when, AM.run, outV, newA, ptr, force_eq, seen_heap, seen_next, seen_mark, seen_seen, agg_cells, int_cells, Fr.ev, Fr.put, onFr, gps, gpn, bltT, still, flat, List.append_nil, List.nil_append, List.cons_append, Nat.reduceEqDiff, ne_eq, not_false_eq_true, reduceCtorEq, Bool.and_true, Bool.true_and, Bool.and_false, Bool.false_and, Bool.not_true, Bool.not_false, Bool.and_self]; rfl
              case h2 => intro h; cases h
              intro _
              repeat apply go_seq
              apply go_region
              case h => intro m; simp (maxSteps := 2000000) (disch := decide) only [opsLoop, evOper, wantedA, nth, aop, aPick, aBin, aIndexAddr, aFieldAddr, aLoad, aStore, aExtract, aConvert, aAlloc, aBox, aIndex, callA, builtinA, Fr.evs, opt, val, when, AM.run, outV, newA, ptr, force_eq, seen_heap, seen_next, seen_mark, seen_seen, agg_cells, int_cells, Fr.ev, Fr.put, onFr, gps, gpn, bltT, still, flat, List.append_nil, List.nil_append, List.cons_append, Nat.reduceEqDiff, ne_eq, not_false_eq_true, reduceCtorEq, Bool.and_true, Bool.true_and, Bool.and_false, Bool.false_and, Bool.not_true, Bool.not_false, Bool.and_self]; rfl
              repeat apply go_seq
              apply go_ret
              apply ret_intro rfl rfl
              case run => simp (disch := decide) only [resultsM, resultsA, resCa, opsLoop, evOper, wantedA, nth, aop, aPick, aBin, aIndexAddr, aFieldAddr, aLoad, aStore, aExtract, aConvert, aAlloc, aBox, aIndex, callA, builtinA, Fr.evs, opt, val, when, AM.run, outV, newA, ptr, force_eq, seen_heap, seen_next, seen_mark, seen_seen, agg_cells, int_cells, Fr.ev, Fr.put, onFr, gps, gpn, bltT, still, flat, List.append_nil, List.nil_append, List.cons_append, Nat.reduceEqDiff, ne_eq, not_false_eq_true, reduceCtorEq, Bool.and_true, Bool.true_and, Bool.and_false, Bool.false_and, Bool.not_true, Bool.not_false, Bool.and_self]; rfl
              exact ⟨by rw [hright]; unfold CatD.midOK; simp only [he, h0, hz, hk, hb] <;> simp, hless _ (by show Nat.succ N ≤ _; omega) g2⟩
        · rw [hz] at nk
          cases hb : ltI 14 (Int.ofNat D.files.length)
          · have hb' := hb
            repeat apply go_seq
            apply go_region
            case h => intro m; simp (maxSteps := 2000000) (disch := decide) only [opsLoop, evOper, wantedA, nth, aop, aPick, aBin, aIndexAddr, aFieldAddr, aLoad, aStore, aExtract, aConvert, aAlloc, aBox, aIndex, callA, builtinA, Fr.evs, opt, val, when, AM.run, outV, newA, ptr, force_eq, seen_heap, seen_next, seen_mark, seen_seen, agg_cells, int_cells, Fr.ev, Fr.put, onFr, gps, gpn, bltT, still, flat, List.append_nil, List.nil_append, List.cons_append, Nat.reduceEqDiff, ne_eq, not_false_eq_true, reduceCtorEq, Bool.and_true, Bool.true_and, Bool.and_false, Bool.false_and, Bool.not_true, Bool.not_false, Bool.and_self, tyC, dsC, flC0, flC1, flC2, flC3, flC4, flC5, ftC0, ftC1, ftC2, ftC3, ftC4, ftC5, foC0, foC1, foC2, foC3, foC4, foC5, tyI, szI, tySt8, szSt8, tyBo, szBo, tyK, szK, tyFs, szFs, ble11, ad0, ad1, ad2, ad3', a4, a8, l0, l1, l2, l3, l4, l8, show Nat.ble 1 4 = true from rfl, dsFs, undef_eq, l8', tgK, evT_told scK, kk, u_not, b_neqi, aBuild, evParts, zeK, dsK, places_K, fillA, nk, b_gtr, show Nat.beq ([Value.int .i64 0, .int .i64 0, .int .i64 0, .int .i64 0] : List Value).length 4 = true from rfl, h0, hb]; rfl
            repeat apply go_seq
            apply go_cond
            case hc => simp (disch := decide) only [opsLoop, evOper, wantedA, nth, aop, aPick, aBin, aIndexAddr, aFieldAddr, aLoad, aStore, aExtract, aConvert, aAlloc, aBox, aIndex, callA, builtinA, Fr.evs, opt, val, when, AM.run, outV, newA, ptr, force_eq, seen_heap, seen_next, seen_mark, seen_seen, agg_cells, int_cells, Fr.ev, Fr.put, onFr, gps, gpn, bltT, still, flat, List.append_nil, List.nil_append, List.cons_append, Nat.reduceEqDiff, ne_eq, not_false_eq_true, reduceCtorEq, Bool.and_true, Bool.true_and, Bool.and_false, Bool.false_and, Bool.not_true, Bool.not_false, Bool.and_self]; rfl
            case h1 => intro h; cases h
            intro _
            apply go_skip
            refine tail _ _ 1 (by omega) e1 (fun m q1 q2 => g1 m q1) (C1.of (by rfl) (by rfl)) ?_ _ ?_
            · simp (disch := decide) only [gps, gpn]
            · rw [hright]; unfold CatD.midOK; simp only [he, h0, hz, hb] <;> simp
          · have hb' := hb
            repeat apply go_seq
            apply go_region
            case h => intro m; simp (maxSteps := 2000000) (disch := decide) only [opsLoop, evOper, wantedA, nth, aop, aPick, aBin, aIndexAddr, aFieldAddr, aLoad, aStore, aExtract, aConvert, aAlloc, aBox, aIndex, callA, builtinA, Fr.evs, opt, val, when, AM.run, outV, newA, ptr, force_eq, seen_heap, seen_next, seen_mark, seen_seen, agg_cells, int_cells, Fr.ev, Fr.put, onFr, gps, gpn, bltT, still, flat, List.append_nil, List.nil_append, List.cons_append, Nat.reduceEqDiff, ne_eq, not_false_eq_true, reduceCtorEq, Bool.and_true, Bool.true_and, Bool.and_false, Bool.false_and, Bool.not_true, Bool.not_false, Bool.and_self, tyC, dsC, flC0, flC1, flC2, flC3, flC4, flC5, ftC0, ftC1, ftC2, ftC3, ftC4, ftC5, foC0, foC1, foC2, foC3, foC4, foC5, tyI, szI, tySt8, szSt8, tyBo, szBo, tyK, szK, tyFs, szFs, ble11, ad0, ad1, ad2, ad3', a4, a8, l0, l1, l2, l3, l4, l8, show Nat.ble 1 4 = true from rfl, dsFs, undef_eq, l8', tgK, evT_told scK, kk, u_not, b_neqi, aBuild, evParts, zeK, dsK, places_K, fillA, nk, b_gtr, show Nat.beq ([Value.int .i64 0, .int .i64 0, .int .i64 0, .int .i64 0] : List Value).length 4 = true from rfl, h0, hb]; rfl
            repeat apply go_seq
            apply go_cond
            case hc => simp (disch := decide) only [opsLoop, evOper, wantedA, nth, aop, aPick, aBin, aIndexAddr, aFieldAddr, aLoad, aStore, aExtract, aConvert, aAlloc, aBox, aIndex, callA, builtinA, Fr.evs, opt, val, when, AM.run, outV, newA, ptr, force_eq, seen_heap, seen_next, seen_mark, seen_seen, agg_cells, int_cells, Fr.ev, Fr.put, onFr, gps, gpn, bltT, still, flat, List.append_nil, List.nil_append, List.cons_append, Nat.reduceEqDiff, ne_eq, not_false_eq_true, reduceCtorEq, Bool.and_true, Bool.true_and, Bool.and_false, Bool.false_and, Bool.not_true, Bool.not_false, Bool.and_self]; rfl
            case h2 => intro h; cases h
            intro _
            repeat apply go_seq
            apply go_region
            case h => intro m; simp (maxSteps := 2000000) (disch := decide) only [opsLoop, evOper, wantedA, nth, aop, aPick, aBin, aIndexAddr, aFieldAddr, aLoad, aStore, aExtract, aConvert, aAlloc, aBox, aIndex, callA, builtinA, Fr.evs, opt, val, when, AM.run, outV, newA, ptr, force_eq, seen_heap, seen_next, seen_mark, seen_seen, agg_cells, int_cells, Fr.ev, Fr.put, onFr, gps, gpn, bltT, still, flat, List.append_nil, List.nil_append, List.cons_append, Nat.reduceEqDiff, ne_eq, not_false_eq_true, reduceCtorEq, Bool.and_true, Bool.true_and, Bool.and_false, Bool.false_and, Bool.not_true, Bool.not_false, Bool.and_self]; rfl
            repeat apply go_seq
            apply go_ret
            apply ret_intro rfl rfl
            case run => simp (disch := decide) only [resultsM, resultsA, resCa, opsLoop, evOper, wantedA, nth, aop, aPick, aBin, aIndexAddr, aFieldAddr, aLoad, aStore, aExtract, aConvert, aAlloc, aBox, aIndex, callA, builtinA, Fr.evs, opt, val, when, AM.run, outV, newA, ptr, force_eq, seen_heap, seen_next, seen_mark, seen_seen, agg_cells, int_cells, Fr.ev, Fr.put, onFr, gps, gpn, bltT, still, flat, List.append_nil, List.nil_append, List.cons_append, Nat.reduceEqDiff, ne_eq, not_false_eq_true, reduceCtorEq, Bool.and_true, Bool.true_and, Bool.and_false, Bool.false_and, Bool.not_true, Bool.not_false, Bool.and_self]; rfl
            exact ⟨by rw [hright]; unfold CatD.midOK; simp only [he, h0, hz, hb] <;> simp, hless _ (by show N ≤ _; omega) (fun m q1 q2 => g1 m q1)⟩
    · rw [he] at l3
      cases hz : zeroK D.from_ D.to_ D.budget D.fan
      · rw [hz] at nk
        cases hk : rightK D.from_ D.to_ D.budget D.fan
        · rw [hk] at kk
          repeat apply go_seq
          apply go_region
          case h => intro m; simp (maxSteps := 2000000) (disch := decide) only [opsLoop, evOper, wantedA, nth, aop, aPick, aBin, aIndexAddr, aFieldAddr, aLoad, aStore, aExtract, aConvert, aAlloc, aBox, aIndex, callA, builtinA, Fr.evs, opt, val, when, AM.run, outV, newA, ptr, force_eq, seen_heap, seen_next, seen_mark, seen_seen, agg_cells, int_cells, Fr.ev, Fr.put, onFr, gps, gpn, bltT, still, flat, List.append_nil, List.nil_append, List.cons_append, Nat.reduceEqDiff, ne_eq, not_false_eq_true, reduceCtorEq, Bool.and_true, Bool.true_and, Bool.and_false, Bool.false_and, Bool.not_true, Bool.not_false, Bool.and_self, tyC, dsC, flC0, flC1, flC2, flC3, flC4, flC5, ftC0, ftC1, ftC2, ftC3, ftC4, ftC5, foC0, foC1, foC2, foC3, foC4, foC5, tyI, szI, tySt8, szSt8, tyBo, szBo, tyK, szK, tyFs, szFs, ble11, ad0, ad1, ad2, ad3', a4, a8, l0, l1, l2, l3, l4, l8, show Nat.ble 1 4 = true from rfl, dsFs, undef_eq, l8', tgK, evT_told scK, kk, u_not, b_neqi, aBuild, evParts, zeK, dsK, places_K, fillA, nk, b_gtr, show Nat.beq ([Value.int .i64 0, .int .i64 0, .int .i64 0, .int .i64 0] : List Value).length 4 = true from rfl, hk]; rfl
          repeat apply go_seq
          apply go_cond
          case hc => simp (disch := decide) only [opsLoop, evOper, wantedA, nth, aop, aPick, aBin, aIndexAddr, aFieldAddr, aLoad, aStore, aExtract, aConvert, aAlloc, aBox, aIndex, callA, builtinA, Fr.evs, opt, val, when, AM.run, outV, newA, ptr, force_eq, seen_heap, seen_next, seen_mark, seen_seen, agg_cells, int_cells, Fr.ev, Fr.put, onFr, gps, gpn, bltT, still, flat, List.append_nil, List.nil_append, List.cons_append, Nat.reduceEqDiff, ne_eq, not_false_eq_true, reduceCtorEq, Bool.and_true, Bool.true_and, Bool.and_false, Bool.false_and, Bool.not_true, Bool.not_false, Bool.and_self]; rfl
          case h2 => intro h; cases h
          intro _
          repeat apply go_seq
          apply go_region
          case h => intro m; simp (maxSteps := 2000000) (disch := decide) only [opsLoop, evOper, wantedA, nth, aop, aPick, aBin, aIndexAddr, aFieldAddr, aLoad, aStore, aExtract, aConvert, aAlloc, aBox, aIndex, callA, builtinA, Fr.evs, opt, val, when, AM.run, outV, newA, ptr, force_eq, seen_heap, seen_next, seen_mark, seen_seen, agg_cells, int_cells, Fr.ev, Fr.put, onFr, gps, gpn, bltT, still, flat, List.append_nil, List.nil_append, List.cons_append, Nat.reduceEqDiff, ne_eq, not_false_eq_true, reduceCtorEq, Bool.and_true, Bool.true_and, Bool.and_false, Bool.false_and, Bool.not_true, Bool.not_false, Bool.and_self]; rfl
          repeat apply go_seq
          apply go_ret
          apply ret_intro rfl rfl
          case run => simp (disch := decide) only [resultsM, resultsA, resCa, opsLoop, evOper, wantedA, nth, aop, aPick, aBin, aIndexAddr, aFieldAddr, aLoad, aStore, aExtract, aConvert, aAlloc, aBox, aIndex, callA, builtinA, Fr.evs, opt, val, when, AM.run, outV, newA, ptr, force_eq, seen_heap, seen_next, seen_mark, seen_seen, agg_cells, int_cells, Fr.ev, Fr.put, onFr, gps, gpn, bltT, still, flat, List.append_nil, List.nil_append, List.cons_append, Nat.reduceEqDiff, ne_eq, not_false_eq_true, reduceCtorEq, Bool.and_true, Bool.true_and, Bool.and_false, Bool.false_and, Bool.not_true, Bool.not_false, Bool.and_self]; rfl
          exact ⟨by rw [hright]; unfold CatD.midOK; simp only [he, hz, hk] <;> simp, hless _ (by show Nat.succ N ≤ _; omega) g2⟩
        · rw [hk] at kk
          cases hb : ltI 14 (Int.ofNat D.files.length)
          · have hb' := hb
            repeat apply go_seq
            apply go_region
            case h => intro m; simp (maxSteps := 2000000) (disch := decide) only [opsLoop, evOper, wantedA, nth, aop, aPick, aBin, aIndexAddr, aFieldAddr, aLoad, aStore, aExtract, aConvert, aAlloc, aBox, aIndex, callA, builtinA, Fr.evs, opt, val, when, AM.run, outV, newA, ptr, force_eq, seen_heap, seen_next, seen_mark, seen_seen, agg_cells, int_cells, Fr.ev, Fr.put, onFr, gps, gpn, bltT, still, flat, List.append_nil, List.nil_append, List.cons_append, Nat.reduceEqDiff, ne_eq, not_false_eq_true, reduceCtorEq, Bool.and_true, Bool.true_and, Bool.and_false, Bool.false_and, Bool.not_true, Bool.not_false, Bool.and_self, tyC, dsC, flC0, flC1, flC2, flC3, flC4, flC5, ftC0, ftC1, ftC2, ftC3, ftC4, ftC5, foC0, foC1, foC2, foC3, foC4, foC5, tyI, szI, tySt8, szSt8, tyBo, szBo, tyK, szK, tyFs, szFs, ble11, ad0, ad1, ad2, ad3', a4, a8, l0, l1, l2, l3, l4, l8, show Nat.ble 1 4 = true from rfl, dsFs, undef_eq, l8', tgK, evT_told scK, kk, u_not, b_neqi, aBuild, evParts, zeK, dsK, places_K, fillA, nk, b_gtr, show Nat.beq ([Value.int .i64 0, .int .i64 0, .int .i64 0, .int .i64 0] : List Value).length 4 = true from rfl, hb]; rfl
            repeat apply go_seq
            apply go_cond
            case hc => simp (disch := decide) only [opsLoop, evOper, wantedA, nth, aop, aPick, aBin, aIndexAddr, aFieldAddr, aLoad, aStore, aExtract, aConvert, aAlloc, aBox, aIndex, callA, builtinA, Fr.evs, opt, val, when, AM.run, outV, newA, ptr, force_eq, seen_heap, seen_next, seen_mark, seen_seen, agg_cells, int_cells, Fr.ev, Fr.put, onFr, gps, gpn, bltT, still, flat, List.append_nil, List.nil_append, List.cons_append, Nat.reduceEqDiff, ne_eq, not_false_eq_true, reduceCtorEq, Bool.and_true, Bool.true_and, Bool.and_false, Bool.false_and, Bool.not_true, Bool.not_false, Bool.and_self]; rfl
            case h1 => intro h; cases h
            intro _
            apply go_skip
            refine tail _ _ 2 (by omega) (by show Nat.succ N = _; omega) g2 (C2.of (by rfl) (by rfl)) ?_ _ ?_
            · simp (disch := decide) only [gps, gpn]
            · rw [hright]; unfold CatD.midOK; simp only [he, hz, hk, hb] <;> simp
          · have hb' := hb
            repeat apply go_seq
            apply go_region
            case h => intro m; simp (maxSteps := 2000000) (disch := decide) only [opsLoop, evOper, wantedA, nth, aop, aPick, aBin, aIndexAddr, aFieldAddr, aLoad, aStore, aExtract, aConvert, aAlloc, aBox, aIndex, callA, builtinA, Fr.evs, opt, val, when, AM.run, outV, newA, ptr, force_eq, seen_heap, seen_next, seen_mark, seen_seen, agg_cells, int_cells, Fr.ev, Fr.put, onFr, gps, gpn, bltT, still, flat, List.append_nil, List.nil_append, List.cons_append, Nat.reduceEqDiff, ne_eq, not_false_eq_true, reduceCtorEq, Bool.and_true, Bool.true_and, Bool.and_false, Bool.false_and, Bool.not_true, Bool.not_false, Bool.and_self, tyC, dsC, flC0, flC1, flC2, flC3, flC4, flC5, ftC0, ftC1, ftC2, ftC3, ftC4, ftC5, foC0, foC1, foC2, foC3, foC4, foC5, tyI, szI, tySt8, szSt8, tyBo, szBo, tyK, szK, tyFs, szFs, ble11, ad0, ad1, ad2, ad3', a4, a8, l0, l1, l2, l3, l4, l8, show Nat.ble 1 4 = true from rfl, dsFs, undef_eq, l8', tgK, evT_told scK, kk, u_not, b_neqi, aBuild, evParts, zeK, dsK, places_K, fillA, nk, b_gtr, show Nat.beq ([Value.int .i64 0, .int .i64 0, .int .i64 0, .int .i64 0] : List Value).length 4 = true from rfl, hb]; rfl
            repeat apply go_seq
            apply go_cond
            case hc => simp (disch := decide) only [opsLoop, evOper, wantedA, nth, aop, aPick, aBin, aIndexAddr, aFieldAddr, aLoad, aStore, aExtract, aConvert, aAlloc, aBox, aIndex, callA, builtinA, Fr.evs, opt, val, when, AM.run, outV, newA, ptr, force_eq, seen_heap, seen_next, seen_mark, seen_seen, agg_cells, int_cells, Fr.ev, Fr.put, onFr, gps, gpn, bltT, still, flat, List.append_nil, List.nil_append, List.cons_append, Nat.reduceEqDiff, ne_eq, not_false_eq_true, reduceCtorEq, Bool.and_true, Bool.true_and, Bool.and_false, Bool.false_and, Bool.not_true, Bool.not_false, Bool.and_self]; rfl
            case h2 => intro h; cases h
            intro _
            repeat apply go_seq
            apply go_region
            case h => intro m; simp (maxSteps := 2000000) (disch := decide) only [opsLoop, evOper, wantedA, nth, aop, aPick, aBin, aIndexAddr, aFieldAddr, aLoad, aStore, aExtract, aConvert, aAlloc, aBox, aIndex, callA, builtinA, Fr.evs, opt, val, when, AM.run, outV, newA, ptr, force_eq, seen_heap, seen_next, seen_mark, seen_seen, agg_cells, int_cells, Fr.ev, Fr.put, onFr, gps, gpn, bltT, still, flat, List.append_nil, List.nil_append, List.cons_append, Nat.reduceEqDiff, ne_eq, not_false_eq_true, reduceCtorEq, Bool.and_true, Bool.true_and, Bool.and_false, Bool.false_and, Bool.not_true, Bool.not_false, Bool.and_self]; rfl
            repeat apply go_seq
            apply go_ret
            apply ret_intro rfl rfl
            case run => simp (disch := decide) only [resultsM, resultsA, resCa, opsLoop, evOper, wantedA, nth, aop, aPick, aBin, aIndexAddr, aFieldAddr, aLoad, aStore, aExtract, aConvert, aAlloc, aBox, aIndex, callA, builtinA, Fr.evs, opt, val, when, AM.run, outV, newA, ptr, force_eq, seen_heap, seen_next, seen_mark, seen_seen, agg_cells, int_cells, Fr.ev, Fr.put, onFr, gps, gpn, bltT, still, flat, List.append_nil, List.nil_append, List.cons_append, Nat.reduceEqDiff, ne_eq, not_false_eq_true, reduceCtorEq, Bool.and_true, Bool.true_and, Bool.and_false, Bool.false_and, Bool.not_true, Bool.not_false, Bool.and_self]; rfl
            exact ⟨by rw [hright]; unfold CatD.midOK; simp only [he, hz, hk, hb] <;> simp, hless _ (by show Nat.succ N ≤ _; omega) g2⟩
      · rw [hz] at nk
        cases hb : ltI 14 (Int.ofNat D.files.length)
        · have hb' := hb
          repeat apply go_seq
          apply go_region
          case h => intro m; simp (maxSteps := 2000000) (disch := decide) only [opsLoop, evOper, wantedA, nth, aop, aPick, aBin, aIndexAddr, aFieldAddr, aLoad, aStore, aExtract, aConvert, aAlloc, aBox, aIndex, callA, builtinA, Fr.evs, opt, val, when, AM.run, outV, newA, ptr, force_eq, seen_heap, seen_next, seen_mark, seen_seen, agg_cells, int_cells, Fr.ev, Fr.put, onFr, gps, gpn, bltT, still, flat, List.append_nil, List.nil_append, List.cons_append, Nat.reduceEqDiff, ne_eq, not_false_eq_true, reduceCtorEq, Bool.and_true, Bool.true_and, Bool.and_false, Bool.false_and, Bool.not_true, Bool.not_false, Bool.and_self, tyC, dsC, flC0, flC1, flC2, flC3, flC4, flC5, ftC0, ftC1, ftC2, ftC3, ftC4, ftC5, foC0, foC1, foC2, foC3, foC4, foC5, tyI, szI, tySt8, szSt8, tyBo, szBo, tyK, szK, tyFs, szFs, ble11, ad0, ad1, ad2, ad3', a4, a8, l0, l1, l2, l3, l4, l8, show Nat.ble 1 4 = true from rfl, dsFs, undef_eq, l8', tgK, evT_told scK, kk, u_not, b_neqi, aBuild, evParts, zeK, dsK, places_K, fillA, nk, b_gtr, show Nat.beq ([Value.int .i64 0, .int .i64 0, .int .i64 0, .int .i64 0] : List Value).length 4 = true from rfl, hb]; rfl
          repeat apply go_seq
          apply go_cond
          case hc => simp (disch := decide) only [opsLoop, evOper, wantedA, nth, aop, aPick, aBin, aIndexAddr, aFieldAddr, aLoad, aStore, aExtract, aConvert, aAlloc, aBox, aIndex, callA, builtinA, Fr.evs, opt, val, when, AM.run, outV, newA, ptr, force_eq, seen_heap, seen_next, seen_mark, seen_seen, agg_cells, int_cells, Fr.ev, Fr.put, onFr, gps, gpn, bltT, still, flat, List.append_nil, List.nil_append, List.cons_append, Nat.reduceEqDiff, ne_eq, not_false_eq_true, reduceCtorEq, Bool.and_true, Bool.true_and, Bool.and_false, Bool.false_and, Bool.not_true, Bool.not_false, Bool.and_self]; rfl
          case h1 => intro h; cases h
          intro _
          apply go_skip
          refine tail _ _ 1 (by omega) e1 (fun m q1 q2 => g1 m q1) (C1.of (by rfl) (by rfl)) ?_ _ ?_
          · simp (disch := decide) only [gps, gpn]
          · rw [hright]; unfold CatD.midOK; simp only [he, hz, hb] <;> simp
        · have hb' := hb
          repeat apply go_seq
          apply go_region
          case h => intro m; simp (maxSteps := 2000000) (disch := decide) only [opsLoop, evOper, wantedA, nth, aop, aPick, aBin, aIndexAddr, aFieldAddr, aLoad, aStore, aExtract, aConvert, aAlloc, aBox, aIndex, callA, builtinA, Fr.evs, opt, val, when, AM.run, outV, newA, ptr, force_eq, seen_heap, seen_next, seen_mark, seen_seen, agg_cells, int_cells, Fr.ev, Fr.put, onFr, gps, gpn, bltT, still, flat, List.append_nil, List.nil_append, List.cons_append, Nat.reduceEqDiff, ne_eq, not_false_eq_true, reduceCtorEq, Bool.and_true, Bool.true_and, Bool.and_false, Bool.false_and, Bool.not_true, Bool.not_false, Bool.and_self, tyC, dsC, flC0, flC1, flC2, flC3, flC4, flC5, ftC0, ftC1, ftC2, ftC3, ftC4, ftC5, foC0, foC1, foC2, foC3, foC4, foC5, tyI, szI, tySt8, szSt8, tyBo, szBo, tyK, szK, tyFs, szFs, ble11, ad0, ad1, ad2, ad3', a4, a8, l0, l1, l2, l3, l4, l8, show Nat.ble 1 4 = true from rfl, dsFs, undef_eq, l8', tgK, evT_told scK, kk, u_not, b_neqi, aBuild, evParts, zeK, dsK, places_K, fillA, nk, b_gtr, show Nat.beq ([Value.int .i64 0, .int .i64 0, .int .i64 0, .int .i64 0] : List Value).length 4 = true from rfl, hb]; rfl
          repeat apply go_seq
          apply go_cond
          case hc => simp (disch := decide) only [opsLoop, evOper, wantedA, nth, aop, aPick, aBin, aIndexAddr, aFieldAddr, aLoad, aStore, aExtract, aConvert, aAlloc, aBox, aIndex, callA, builtinA, Fr.evs, opt, val, when, AM.run, outV, newA, ptr, force_eq, seen_heap, seen_next, seen_mark, seen_seen, agg_cells, int_cells, Fr.ev, Fr.put, onFr, gps, gpn, bltT, still, flat, List.append_nil, List.nil_append, List.cons_append, Nat.reduceEqDiff, ne_eq, not_false_eq_true, reduceCtorEq, Bool.and_true, Bool.true_and, Bool.and_false, Bool.false_and, Bool.not_true, Bool.not_false, Bool.and_self]; rfl
          case h2 => intro h; cases h
          intro _
          repeat apply go_seq
          apply go_region
          case h => intro m; simp (maxSteps := 2000000) (disch := decide) only [opsLoop, evOper, wantedA, nth, aop, aPick, aBin, aIndexAddr, aFieldAddr, aLoad, aStore, aExtract, aConvert, aAlloc, aBox, aIndex, callA, builtinA, Fr.evs, opt, val, when, AM.run, outV, newA, ptr, force_eq, seen_heap, seen_next, seen_mark, seen_seen, agg_cells, int_cells, Fr.ev, Fr.put, onFr, gps, gpn, bltT, still, flat, List.append_nil, List.nil_append, List.cons_append, Nat.reduceEqDiff, ne_eq, not_false_eq_true, reduceCtorEq, Bool.and_true, Bool.true_and, Bool.and_false, Bool.false_and, Bool.not_true, Bool.not_false, Bool.and_self]; rfl
          repeat apply go_seq
          apply go_ret
          apply ret_intro rfl rfl
          case run => simp (disch := decide) only [resultsM, resultsA, resCa, opsLoop, evOper, wantedA, nth, aop, aPick, aBin, aIndexAddr, aFieldAddr, aLoad, aStore, aExtract, aConvert, aAlloc, aBox, aIndex, callA, builtinA, Fr.evs, opt, val, when, AM.run, outV, newA, ptr, force_eq, seen_heap, seen_next, seen_mark, seen_seen, agg_cells, int_cells, Fr.ev, Fr.put, onFr, gps, gpn, bltT, still, flat, List.append_nil, List.nil_append, List.cons_append, Nat.reduceEqDiff, ne_eq, not_false_eq_true, reduceCtorEq, Bool.and_true, Bool.true_and, Bool.and_false, Bool.false_and, Bool.not_true, Bool.not_false, Bool.and_self]; rfl
          exact ⟨by rw [hright]; unfold CatD.midOK; simp only [he, hz, hb] <;> simp, hless _ (by show N ≤ _; omega) (fun m q1 q2 => g1 m q1)⟩
  · cases h
end Go.Proofs.YtgofanjbhbeniaaDoor.lf
end
end

section
/- Catalogs that may not be: catalog.Put makes the leaf of noughts. -/
noncomputable section
namespace Go.Proofs.YtgofanjbhbeniaaDoor.lf
open AE
set_option linter.unusedSimpArgs false
set_option linter.unusedVariables false
set_option maxRecDepth 10000

theorem rightCA_run {s : S} {a : Option Addr} {cap : Nat} (D : CatD) (hl : D.files.length ≤ 1000000) (hv : Vx s a (fcs D.files)) (hN : ∀ i, i < 2 + 2 * D.files.length → Nat.ble (s.next + i) lastName = true) :
    ∃ s1, (rightCA [.agg ⟨D.cells a cap⟩]).run s = some (.bool D.right, s1) ∧ s1.next = s.next + (2 + 2 * D.files.length) ∧ s1.mark = s.mark ∧ ∀ m, ¬ (s.next ≤ m ∧ m < s.next + (2 + 2 * D.files.length)) → s1.heap.get m = s.heap.get m := by
  obtain ⟨s1, e1, hr, _⟩ := rdV_run hv (fun cs => opt (filesOf cs) fun fs => bump (2 + 2 * D.files.length) (.pure (Value.bool (CatD.right ⟨D.gen, D.step, D.status, D.ended, D.from_, D.to_, D.budget, D.fan, fs⟩))))
  rw [fcs_len] at e1
  obtain ⟨s2, f1, f2, f3, f4⟩ := bump_ok (2 + 2 * D.files.length) (AM.pure (Value.bool D.right)) s1 (by rw [hr.next]; exact hN)
  refine ⟨s2, ?_, by rw [f2, hr.next], by rw [f3, hr.mark], fun m hm => by rw [f4, hr.next, if_neg hm, hr.heap]⟩
  show (when (Nat.ble D.files.length 1000000) (rdV a (4 * D.files.length) fun cs => opt (filesOf cs) fun fs => bump (2 + 2 * D.files.length) (.pure (Value.bool (CatD.right ⟨D.gen, D.step, D.status, D.ended, D.from_, D.to_, D.budget, D.fan, fs⟩))))).run s = _
  rw [show Nat.ble D.files.length 1000000 = true from ble_iff.2 hl]
  rw [show ∀ k : AM Value, when true k = k from fun _ => rfl, e1, filesOf_fcs]
  exact f1

end Go.Proofs.YtgofanjbhbeniaaDoor.lf
end
end

section
/- Catalogs in leaves: what catalog.Put makes of one that may be, evaluated. -/
noncomputable section
namespace Go.Proofs.YtgofanjbhbeniaaDoor.lf
open AE
set_option linter.unusedSimpArgs false
set_option linter.unusedVariables false
set_option maxRecDepth 10000

def u8V (x : Int) : Value := .int .u8 (wrapA .u8 x)
def lowV (x : Int) : Nat → Value := fun i => u8V (Int.fdiv x (pow2 (8 * i)))
def low4 (x : Int) : List Value := [lowV x 0, lowV x 1, lowV x 2, lowV x 3]
def low2 (x : Int) : List Value := [lowV x 0, lowV x 1]
def fileV (f : FileD) : List Value := u8V f.name :: low2 f.file ++ low2 f.first ++ low2 f.blocks
def filesV : List FileD → List Value
  | [] => []
  | f :: l => fileV f ++ filesV l
def endV : Bool → Value
  | true => .int .u8 1
  | false => .int .u8 0
def encV (D : CatD) : List Value := low4 D.gen ++ [u8V D.step, u8V D.status, endV D.ended, u8V D.budget, u8V D.fan] ++ low4 D.from_ ++ low4 D.to_ ++ filesV D.files
def zerosV : Nat → List Value
  | 0 => []
  | n + 1 => .int .u8 0 :: zerosV n
def putV_ (D : CatD) : List Value := [.int .i64 2, .int .i64 0, .int .i64 0, .int .i64 0, .int .i64 (.ofNat (17 + 7 * D.files.length))] ++ (encV D ++ zerosV (99 - 7 * D.files.length))

end Go.Proofs.YtgofanjbhbeniaaDoor.lf
end
end

section
/- Catalogs in leaves: what catalog.Put does, told. -/
noncomputable section
namespace Go.Proofs.YtgofanjbhbeniaaDoor.lf
open AE
set_option linter.unusedSimpArgs false
set_option linter.unusedVariables false
set_option maxRecDepth 10000

/-- whole numbers alone -/
def Ints (l : List Value) : Prop := ∀ v ∈ l, ∃ k n, v = .int k n
theorem Ints.nil : Ints [] := fun v h => by cases h
theorem Ints.cons {k : IntKind} {n : Int} {l : List Value} (h : Ints l) : Ints (.int k n :: l) := fun v hv => by
  rcases List.mem_cons.1 hv with rfl | hv
  · exact ⟨k, n, rfl⟩
  · exact h v hv
theorem Ints.app {a b : List Value} (h : Ints a) (h' : Ints b) : Ints (a ++ b) := fun v hv => (List.mem_append.1 hv).elim (h v) (h' v)
theorem Ints.plain {l : List Value} (h : Ints l) : ∀ v ∈ l, Plain v := fun v hv => by
  obtain ⟨k, n, rfl⟩ := h v hv
  exact plain_int k n
theorem ints_fcs : ∀ l, Ints (fcs l)
  | [] => .nil
  | f :: l => .cons (.cons (.cons (.cons (ints_fcs l))))
end Go.Proofs.YtgofanjbhbeniaaDoor.lf
end
end
