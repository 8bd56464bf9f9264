/- Chapter 6's runs, evaluated over the named memory. -/
import Derived.Test.YtgofanjbhbeniaaDoorPRowCatalogWith2
import Derived.Test.YtgofanjbhbeniaaDoorAe39
import Derived.Test.YtgofanjbhbeniaaDoorRows
import Derived.Test.YtgofanjbhbeniaaDoorAe24
section
/- Catalogs made anew: what catalog.With does with its map: files are put, names are gone. -/
noncomputable section
namespace Go.Proofs.YtgofanjbhbeniaaDoor.lf
open AE
set_option linter.unusedSimpArgs false
set_option linter.unusedVariables false
set_option maxRecDepth 10000

noncomputable def fiCW : FI := FI.of Tryd.f18
noncomputable def cdCW : Code := bodyOf Tryd.f18
noncomputable def tiM : TI := TI.of Tryd.prog 60
theorem tyM : E.ty.get 60 = some tiM := by kernel_rfl
theorem dsM : tiM.desc = .map 3 41 := by kernel_rfl
noncomputable def tiIs : TI := TI.of Tryd.prog 43
theorem tyIs : E.ty.get 43 = some tiIs := by kernel_rfl
theorem dsIs : tiIs.desc = .slice 3 := by kernel_rfl
theorem isIntI : isIntD tiI.desc = true := by kernel_rfl
theorem update_run {H : Tr AObj} {N mk M : Nat} {es : List MapEntry} {l : List FileD} {clock : Nat} (hM : Nat.blt M N = true) (hMn : Nat.ble M lastName = true) (hg : H.get M = some (.map es clock)) (he : Ents es l) (hb : Born es clock) (f : FileD) :
    ∃ es' clock', Ents es' (putM l f) ∧ Born es' clock' ∧ ∀ rd wr, (updateA E 60 (.map (some M)) (.int .i64 f.name) (.agg ⟨f.cells⟩)).run ⟨H, N, mk, rd, wr⟩ = some (.value undefV, ⟨H.put M (some (.map es' clock')), N, mk, bit mk M rd, bit mk M wr⟩) := by
  rcases find_put f 0 he with ⟨j, v, h1, h2, h3⟩ | ⟨h1, h2⟩
  · refine ⟨_, clock, h2, hb.same h3, fun rd wr => ?_⟩
    rw [Nat.zero_add] at h1
    simp only [updateA, tyM, opt, dsM, tyI, when, isIntI, AM.run, hM, hg, h1, hMn, Bool.and_self, val]
  · refine ⟨_, Nat.succ clock, by rw [h2]; exact he.app (.cons f clock .nil), hb.new _ _, fun rd wr => ?_⟩
    simp only [updateA, tyM, opt, dsM, tyI, when, isIntI, AM.run, hM, hg, h1, hMn, Bool.and_self, val]
theorem delete_run {H : Tr AObj} {N mk M : Nat} {es : List MapEntry} {l : List FileD} {clock : Nat} (hM : Nat.blt M N = true) (hMn : Nat.ble M lastName = true) (hg : H.get M = some (.map es clock)) (he : Ents es l) (hb : Born es clock) (k : Int) :
    ∃ es', Ents es' (delM l k) ∧ Born es' clock ∧ ∀ rd wr, (builtinA E .delete #[60, 3] [.map (some M), .int .i64 k]).run ⟨H, N, mk, rd, wr⟩ = some (.value undefV, ⟨H.put M (some (.map es' clock)), N, mk, bit mk M rd, bit mk M wr⟩) := by
  rcases find_del k 0 he with ⟨j, v, h1, h2, h3⟩ | ⟨h1, h2⟩
  · refine ⟨_, h2, hb.sub h3, fun rd wr => ?_⟩
    rw [Nat.zero_add] at h1
    simp only [builtinA, tyM, opt, dsM, tyI, when, isIntI, AM.run, hM, hg, h1, hMn, Bool.and_self, val]
  · refine ⟨es, by rw [h2]; exact he, hb, fun rd wr => ?_⟩
    simp only [builtinA, tyM, opt, dsM, tyI, when, isIntI, AM.run, hM, hg, h1, hMn, Bool.and_self, val]

/-- what is kept in the frame -/
structure KW (t : Tr Value) (B : Nat) (v1 v2 : Value) : Prop where
  a1 : t.get 1 = some v1
  a2 : t.get 2 = some v2
  a3 : t.get 3 = some (.pointer (some ⟨B, 0, none⟩))
  a6 : t.get 6 = some (.pointer (some ⟨B + 1, 0, none⟩))
  a7 : t.get 7 = some (.map (some (B + 2)))
/-- .. and in memory -/
structure MW (s0 s : S) (B : Nat) (l : List FileD) : Prop where
  map_ : ∃ es clock, MapAt s (B + 2) l es clock
  far : ∀ j, j < B + 2 → s.heap.get j = s0.heap.get j

noncomputable def cdW1 : Code := sub [1,1,0,1,0,0] cdCW
def InvW1 (s0 : S) (B X : Nat) (v1 v2 : Value) (l0 : List FileD) (a : Option Addr) (cap : Nat) (fs : List FileD) (k : Nat) (fr : Fr) (s : S) : Prop :=
  ∃ (i : Nat) (t : Tr Value), k = fs.length - i ∧ i ≤ fs.length ∧ fr = ⟨18, t, 66, [], none⟩ ∧ KW t B v1 v2 ∧ t.get 18 = some (.slice a fs.length cap) ∧ t.get 19 = some (.int .i64 (.ofNat fs.length)) ∧ t.get 20 = some (.int .i64 (.ofNat i)) ∧
    s.next = X + i ∧ MW s0 s B ((fs.take i).foldl putM l0)
def PostW1 (s0 : S) (B X : Nat) (v1 v2 : Value) (l0 : List FileD) (fs : List FileD) (x : Ex) (fr : Fr) (s : S) : Prop :=
  x = .exit 0 ∧ ∃ t : Tr Value, fr = ⟨18, t, 66, [], none⟩ ∧ KW t B v1 v2 ∧ s.next = X + fs.length ∧ MW s0 s B (fs.foldl putM l0)
set_option maxHeartbeats 1000000 in
theorem with_round1 {σ : Sums} (s0 : S) (B X : Nat) (v1 v2 : Value) (l0 : List FileD) (a : Option Addr) (cap : Nat) (fs : List FileD) (hl : fs.length ≤ 1000000) (hX : X ≤ 10000000) (hBX : B + 2 < X) (hX0 : s0.next ≤ X) (hv : Vx s0 a (fcs fs)) (ha : ∀ ad, a = some ad → ad.block < B + 2) (k : Nat) (fr : Fr) (s : S) (h : InvW1 s0 B X v1 v2 l0 a cap fs k fr s) :
    GoC E σ cdW1 fr s (Again (InvW1 s0 B X v1 v2 l0 a cap fs) k (PostW1 s0 B X v1 v2 l0 fs)) := by
  obtain ⟨i, t, rfl, hi, rfl, ⟨k1, k2, k3, k6, k7⟩, hr, hn0, hix, hn, ⟨es, clock, hmap⟩, hfar⟩ := h
  simp only [cdW1, cdCW, Tryd.f18, bodyOf, sub]
  by_cases hlt : i < fs.length
  · obtain ⟨f, hf⟩ : ∃ f, fs[i]? = some f := ⟨_, List.getElem?_eq_getElem hlt⟩
    cases a with
    | none =>
      have h0 : fcs fs = [] := hv
      have := fcs_len fs
      rw [h0] at this
      have h4 : (0 : Nat) = 4 * fs.length := this
      omega
    | some ad =>
      obtain ⟨ab, ao, asp⟩ := ad
      obtain ⟨hsp, hcl⟩ := hv
      simp only at hsp hcl
      subst hsp
      have hab : ab < B + 2 := ha _ rfl
      have hlt' : ltI (Int.ofNat i) (Int.ofNat fs.length) = true := by rw [ltI_eq]; simp; omega
      have hbl : Nat.blt i fs.length = true := blt_iff.2 hlt
      have hinc := b_incr (n := i) (by omega)
      have htake : fs.take (i + 1) = fs.take i ++ [f] := by rw [List.take_add_one, hf]; rfl
      have hcs : Cl s ab ao (fcs fs) := hcl.keep (by omega) (hfar _ hab)
      have hsub := hcs.sub (i * 4) 4 (by rw [fcs_len]; omega)
      rw [fcs_at fs i f hf] at hsub
      have hN1 : Nat.ble s.next lastName = true := ble_iff.2 (by unfold lastName; omega)
      have hM1 : Nat.ble (B + 2) lastName = true := ble_iff.2 (by unfold lastName; omega)
      have hmg := hmap.at_
      have hme := hmap.ents
      have hmb := hmap.born
      obtain ⟨H, N, mk, rd, wr⟩ := s
      simp only at hn hfar hN1 hmg
      have st := newCell H N mk hN1 [.int .i64 0, .int .i64 0, .int .i64 0, .int .i64 0] f.cells 41 rfl (by simp [FileD.cells]) rfl
      have lf := hsub.ldA (β := ANext) tiF (by rw [dsF]; rfl) (by rw [szF]; rfl)
      have aa : addA ⟨ab, ao, none⟩ (Nat.mul i 4) = ⟨ab, ao + i * 4, none⟩ := addAn ab ao _
      repeat apply go_seq
      apply go_region
      case h => intro m; simp (maxSteps := 2000000) (disch := decide) only [opsLoop, evOper, wantedA, nth, aop, aPick, aBin, aIndexAddr, aFieldAddr, aLoad, aStore, aExtract, aConvert, aAlloc, aBox, aIndex, callA, builtinA, Fr.evs, opt, val, when, AM.run, outV, newA, ptr, force_eq, seen_heap, seen_next, seen_mark, seen_seen, agg_cells, int_cells, Fr.ev, Fr.put, onFr, gps, gpn, bltT, still, flat, List.append_nil, List.nil_append, List.cons_append, Nat.reduceEqDiff, ne_eq, not_false_eq_true, reduceCtorEq, Bool.and_true, Bool.true_and, Bool.and_false, Bool.false_and, Bool.not_true, Bool.not_false, Bool.and_self, hn0, hix, b_lss, hlt']; rfl
      repeat apply go_seq
      apply go_cond
      case hc => simp (disch := decide) only [opsLoop, evOper, wantedA, nth, aop, aPick, aBin, aIndexAddr, aFieldAddr, aLoad, aStore, aExtract, aConvert, aAlloc, aBox, aIndex, callA, builtinA, Fr.evs, opt, val, when, AM.run, outV, newA, ptr, force_eq, seen_heap, seen_next, seen_mark, seen_seen, agg_cells, int_cells, Fr.ev, Fr.put, onFr, gps, gpn, bltT, still, flat, List.append_nil, List.nil_append, List.cons_append, Nat.reduceEqDiff, ne_eq, not_false_eq_true, reduceCtorEq, Bool.and_true, Bool.true_and, Bool.and_false, Bool.false_and, Bool.not_true, Bool.not_false, Bool.and_self]; rfl
      case h2 => intro h; cases h
      intro _
      apply go_skip
      apply go_seq
      apply go_block
      repeat apply go_seq
      apply go_region
      case h => intro m; simp (maxSteps := 2000000) (disch := decide) only [opsLoop, evOper, wantedA, nth, aop, aPick, aBin, aIndexAddr, aFieldAddr, aLoad, aStore, aExtract, aConvert, aAlloc, aBox, aIndex, callA, builtinA, Fr.evs, opt, val, when, AM.run, outV, newA, ptr, force_eq, seen_heap, seen_next, seen_mark, seen_seen, agg_cells, int_cells, Fr.ev, Fr.put, onFr, gps, gpn, bltT, still, flat, List.append_nil, List.nil_append, List.cons_append, Nat.reduceEqDiff, ne_eq, not_false_eq_true, reduceCtorEq, Bool.and_true, Bool.true_and, Bool.and_false, Bool.false_and, Bool.not_true, Bool.not_false, Bool.and_self, hr, hix, tyFs, dsFs, hbl, tyF, szF, dsF, aa, lf, zeF, hN1, len4, show Nat.beq f.cells.length 4 = true from rfl, st]; rfl
      generalize hs1 : S.mk _ _ _ _ _ = s1
      have e1 : s1.next = N + 1 := by rw [← hs1]
      have e1h : s1.heap = (H.put N (some (.cells (Tr.ofList [.int .i64 0, .int .i64 0, .int .i64 0, .int .i64 0]) (List.length [Value.int .i64 0, .int .i64 0, .int .i64 0, .int .i64 0]) 41 .whole))).put N (some (.cells (wrCells (Tr.ofList [.int .i64 0, .int .i64 0, .int .i64 0, .int .i64 0]) 0 f.cells) (List.length [Value.int .i64 0, .int .i64 0, .int .i64 0, .int .i64 0]) 41 .whole)) := by rw [← hs1]
      clear hs1
      have F1 : Cl s1 N 0 f.cells := newCell_cl (by omega) (by rw [e1h]; exact hg_same hN1 _ _) rfl (by simp [FileD.cells])
      have g1 : ∀ m, m ≠ N → s1.heap.get m = H.get m := fun m hm => by rw [e1h, hg_far hN1 hm, hg_far hN1 hm]
      clear e1h
      obtain ⟨H1, N1, mk1, rd1, wr1⟩ := s1
      simp only at e1 g1
      have l1 := F1.ldA (β := ANext) tiF (by rw [dsF]; rfl) (by rw [szF]; rfl)
      have l2 := F1.ld (k := 0) tiI (by rw [dsI]; rfl) rfl
      simp only [Nat.zero_add] at l2
      obtain ⟨es', clock', ge, gb, up⟩ := update_run (H := H1) (N := N1) (mk := mk1) (blt_iff.2 (by omega)) hM1 (by rw [g1 _ (by omega)]; exact hmg) hme hmb f
      repeat apply go_seq
      apply go_region
      case h => intro m; simp (maxSteps := 2000000) (disch := decide) only [opsLoop, evOper, wantedA, nth, aop, aPick, aBin, aIndexAddr, aFieldAddr, aLoad, aStore, aExtract, aConvert, aAlloc, aBox, aIndex, callA, builtinA, Fr.evs, opt, val, when, AM.run, outV, newA, ptr, force_eq, seen_heap, seen_next, seen_mark, seen_seen, agg_cells, int_cells, Fr.ev, Fr.put, onFr, gps, gpn, bltT, still, flat, List.append_nil, List.nil_append, List.cons_append, Nat.reduceEqDiff, ne_eq, not_false_eq_true, reduceCtorEq, Bool.and_true, Bool.true_and, Bool.and_false, Bool.false_and, Bool.not_true, Bool.not_false, Bool.and_self, k7, tyF, dsF, flF0, ftF0, foF0, tyI, szI, ble11, ad0, l2, l1, aUpdate, up, undef_eq]; rfl
      repeat apply go_seq
      apply go_region
      case h => intro m; simp (maxSteps := 2000000) (disch := decide) only [opsLoop, evOper, wantedA, nth, aop, aPick, aBin, aIndexAddr, aFieldAddr, aLoad, aStore, aExtract, aConvert, aAlloc, aBox, aIndex, callA, builtinA, Fr.evs, opt, val, when, AM.run, outV, newA, ptr, force_eq, seen_heap, seen_next, seen_mark, seen_seen, agg_cells, int_cells, Fr.ev, Fr.put, onFr, gps, gpn, bltT, still, flat, List.append_nil, List.nil_append, List.cons_append, Nat.reduceEqDiff, ne_eq, not_false_eq_true, reduceCtorEq, Bool.and_true, Bool.true_and, Bool.and_false, Bool.false_and, Bool.not_true, Bool.not_false, Bool.and_self, hix, int1, hinc]; rfl
      refine ⟨fs.length - (i + 1), by omega, i + 1, _, rfl, by omega, rfl, ⟨?_, ?_, ?_, ?_, ?_⟩, ?_, ?_, ?_, by show N1 = _; omega, ⟨es', clock', ?_, ?_, gb⟩, ?_⟩
      · simp (disch := decide) only [gps, gpn, k1]
      · simp (disch := decide) only [gps, gpn, k2]
      · simp (disch := decide) only [gps, gpn, k3]
      · simp (disch := decide) only [gps, gpn, k6]
      · simp (disch := decide) only [gps, gpn, k7]
      · simp (disch := decide) only [gps, gpn, hr]
      · simp (disch := decide) only [gps, gpn, hn0]
      · simp (disch := decide) only [gps, gpn]
      · exact hg_same hM1 _ _
      · rw [htake, List.foldl_append]; exact ge
      · intro j hj
        show (H1.put (B + 2) _).get j = _
        rw [hg_far hM1 (by omega), g1 j (by omega)]
        exact hfar j hj
  · obtain rfl : i = fs.length := by omega
    have hlt' : ltI (Int.ofNat fs.length) (Int.ofNat fs.length) = false := by rw [ltI_eq]; simp
    rw [List.take_length] at hmap
    repeat apply go_seq
    apply go_region
    case h => intro m; simp (maxSteps := 2000000) (disch := decide) only [opsLoop, evOper, wantedA, nth, aop, aPick, aBin, aIndexAddr, aFieldAddr, aLoad, aStore, aExtract, aConvert, aAlloc, aBox, aIndex, callA, builtinA, Fr.evs, opt, val, when, AM.run, outV, newA, ptr, force_eq, seen_heap, seen_next, seen_mark, seen_seen, agg_cells, int_cells, Fr.ev, Fr.put, onFr, gps, gpn, bltT, still, flat, List.append_nil, List.nil_append, List.cons_append, Nat.reduceEqDiff, ne_eq, not_false_eq_true, reduceCtorEq, Bool.and_true, Bool.true_and, Bool.and_false, Bool.false_and, Bool.not_true, Bool.not_false, Bool.and_self, hn0, hix, b_lss, hlt']; rfl
    repeat apply go_seq
    apply go_cond
    case hc => simp (disch := decide) only [opsLoop, evOper, wantedA, nth, aop, aPick, aBin, aIndexAddr, aFieldAddr, aLoad, aStore, aExtract, aConvert, aAlloc, aBox, aIndex, callA, builtinA, Fr.evs, opt, val, when, AM.run, outV, newA, ptr, force_eq, seen_heap, seen_next, seen_mark, seen_seen, agg_cells, int_cells, Fr.ev, Fr.put, onFr, gps, gpn, bltT, still, flat, List.append_nil, List.nil_append, List.cons_append, Nat.reduceEqDiff, ne_eq, not_false_eq_true, reduceCtorEq, Bool.and_true, Bool.true_and, Bool.and_false, Bool.false_and, Bool.not_true, Bool.not_false, Bool.and_self]; rfl
    case h1 => intro h; cases h
    intro _
    apply go_exit
    exact ⟨rfl, _, rfl, ⟨by simp (disch := decide) only [gps, gpn, k1], by simp (disch := decide) only [gps, gpn, k2], by simp (disch := decide) only [gps, gpn, k3], by simp (disch := decide) only [gps, gpn, k6], by simp (disch := decide) only [gps, gpn, k7]⟩, hn, ⟨es, clock, hmap⟩, hfar⟩

def icsL (l : List Int) : List Value := l.map fun n => .int .i64 n
noncomputable def cdW2 : Code := sub [1,1,1,0,1,0,0] cdCW
def InvW2 (s0 : S) (B X : Nat) (v1 v2 : Value) (l0 : List FileD) (a : Option Addr) (cap : Nat) (ns : List Int) (k : Nat) (fr : Fr) (s : S) : Prop :=
  ∃ (i : Nat) (t : Tr Value), k = ns.length - i ∧ i ≤ ns.length ∧ fr = ⟨18, t, 66, [], none⟩ ∧ KW t B v1 v2 ∧ t.get 29 = some (.slice a ns.length cap) ∧ t.get 30 = some (.int .i64 (.ofNat ns.length)) ∧ t.get 31 = some (.int .i64 (.ofNat i)) ∧
    s.next = X ∧ MW s0 s B ((ns.take i).foldl delM l0)
def PostW2 (s0 : S) (B X : Nat) (v1 v2 : Value) (l0 : List FileD) (ns : List Int) (x : Ex) (fr : Fr) (s : S) : Prop :=
  x = .exit 2 ∧ ∃ t : Tr Value, fr = ⟨18, t, 66, [], none⟩ ∧ KW t B v1 v2 ∧ s.next = X ∧ MW s0 s B (ns.foldl delM l0)
set_option maxHeartbeats 1000000 in
theorem with_round2 {σ : Sums} (s0 : S) (B X : Nat) (v1 v2 : Value) (l0 : List FileD) (a : Option Addr) (cap : Nat) (ns : List Int) (hl : ns.length ≤ 1000000) (hX : X ≤ 10000000) (hBX : B + 2 < X) (hX0 : s0.next ≤ X) (hv : Vx s0 a (icsL ns)) (ha : ∀ ad, a = some ad → ad.block < B + 2) (k : Nat) (fr : Fr) (s : S) (h : InvW2 s0 B X v1 v2 l0 a cap ns k fr s) :
    GoC E σ cdW2 fr s (Again (InvW2 s0 B X v1 v2 l0 a cap ns) k (PostW2 s0 B X v1 v2 l0 ns)) := by
  obtain ⟨i, t, rfl, hi, rfl, ⟨k1, k2, k3, k6, k7⟩, hr, hn0, hix, hn, ⟨es, clock, hmap⟩, hfar⟩ := h
  simp only [cdW2, cdCW, Tryd.f18, bodyOf, sub]
  by_cases hlt : i < ns.length
  · obtain ⟨f, hf⟩ : ∃ f, ns[i]? = some f := ⟨_, List.getElem?_eq_getElem hlt⟩
    cases a with
    | none =>
      have h0 : icsL ns = [] := hv
      have : (icsL ns).length = ns.length := List.length_map ..
      rw [h0] at this
      have h4 : (0 : Nat) = ns.length := this
      omega
    | some ad =>
      obtain ⟨ab, ao, asp⟩ := ad
      obtain ⟨hsp, hcl⟩ := hv
      simp only at hsp hcl
      subst hsp
      have hab : ab < B + 2 := ha _ rfl
      have hlt' : ltI (Int.ofNat i) (Int.ofNat ns.length) = true := by rw [ltI_eq]; simp; omega
      have hbl : Nat.blt i ns.length = true := blt_iff.2 hlt
      have hinc := b_incr (n := i) (by omega)
      have htake : ns.take (i + 1) = ns.take i ++ [f] := by rw [List.take_add_one, hf]; rfl
      have hcs : Cl s ab ao (icsL ns) := hcl.keep (by omega) (hfar _ hab)
      have hM1 : Nat.ble (B + 2) lastName = true := ble_iff.2 (by unfold lastName; omega)
      have hmg := hmap.at_
      have hme := hmap.ents
      have hmb := hmap.born
      obtain ⟨H, N, mk, rd, wr⟩ := s
      simp only at hn hfar hmg
      have l2 := hcs.ld (k := i) (v := .int .i64 f) tiI (by rw [dsI]; rfl) (by unfold icsL; rw [List.getElem?_map, hf]; rfl)
      have aa : addA ⟨ab, ao, none⟩ (Nat.mul i 1) = ⟨ab, ao + i, none⟩ := by rw [show Nat.mul i 1 = i from Nat.mul_one i]; exact addAn ab ao _
      obtain ⟨es', ge, gb, up⟩ := delete_run (H := H) (N := N) (mk := mk) (blt_iff.2 (by omega)) hM1 hmg hme hmb f
      repeat apply go_seq
      apply go_region
      case h => intro m; simp (maxSteps := 2000000) (disch := decide) only [opsLoop, evOper, wantedA, nth, aop, aPick, aBin, aIndexAddr, aFieldAddr, aLoad, aStore, aExtract, aConvert, aAlloc, aBox, aIndex, callA, builtinA, Fr.evs, opt, val, when, AM.run, outV, newA, ptr, force_eq, seen_heap, seen_next, seen_mark, seen_seen, agg_cells, int_cells, Fr.ev, Fr.put, onFr, gps, gpn, bltT, still, flat, List.append_nil, List.nil_append, List.cons_append, Nat.reduceEqDiff, ne_eq, not_false_eq_true, reduceCtorEq, Bool.and_true, Bool.true_and, Bool.and_false, Bool.false_and, Bool.not_true, Bool.not_false, Bool.and_self, hn0, hix, b_lss, hlt']; rfl
      repeat apply go_seq
      apply go_cond
      case hc => simp (disch := decide) only [opsLoop, evOper, wantedA, nth, aop, aPick, aBin, aIndexAddr, aFieldAddr, aLoad, aStore, aExtract, aConvert, aAlloc, aBox, aIndex, callA, builtinA, Fr.evs, opt, val, when, AM.run, outV, newA, ptr, force_eq, seen_heap, seen_next, seen_mark, seen_seen, agg_cells, int_cells, Fr.ev, Fr.put, onFr, gps, gpn, bltT, still, flat, List.append_nil, List.nil_append, List.cons_append, Nat.reduceEqDiff, ne_eq, not_false_eq_true, reduceCtorEq, Bool.and_true, Bool.true_and, Bool.and_false, Bool.false_and, Bool.not_true, Bool.not_false, Bool.and_self]; rfl
      case h2 => intro h; cases h
      intro _
      apply go_skip
      apply go_seq
      apply go_block
      repeat apply go_seq
      apply go_region
      case h => intro m; simp (maxSteps := 2000000) (disch := decide) only [opsLoop, evOper, wantedA, nth, aop, aPick, aBin, aIndexAddr, aFieldAddr, aLoad, aStore, aExtract, aConvert, aAlloc, aBox, aIndex, callA, builtinA, Fr.evs, opt, val, when, AM.run, outV, newA, ptr, force_eq, seen_heap, seen_next, seen_mark, seen_seen, agg_cells, int_cells, Fr.ev, Fr.put, onFr, gps, gpn, bltT, still, flat, List.append_nil, List.nil_append, List.cons_append, Nat.reduceEqDiff, ne_eq, not_false_eq_true, reduceCtorEq, Bool.and_true, Bool.true_and, Bool.and_false, Bool.false_and, Bool.not_true, Bool.not_false, Bool.and_self, hr, hix, tyIs, dsIs, hbl, tyI, szI, dsI, aa, l2]; rfl
      repeat apply go_seq
      apply go_region
      case h => intro m; simp (disch := decide) only [opsLoop, evOper, wantedA, nth, aop, aPick, aBin, aIndexAddr, aFieldAddr, aLoad, aStore, aExtract, aConvert, aAlloc, aBox, aIndex, callA, Fr.evs, opt, val, when, AM.run, outV, newA, ptr, force_eq, seen_heap, seen_next, seen_mark, seen_seen, agg_cells, int_cells, Fr.ev, Fr.put, onFr, gps, gpn, bltT, still, flat, List.append_nil, List.nil_append, List.cons_append, Nat.reduceEqDiff, ne_eq, not_false_eq_true, reduceCtorEq, Bool.and_true, Bool.true_and, Bool.and_false, Bool.false_and, Bool.not_true, Bool.not_false, Bool.and_self, k7, up, undef_eq]; rfl
      repeat apply go_seq
      apply go_region
      case h => intro m; simp (maxSteps := 2000000) (disch := decide) only [opsLoop, evOper, wantedA, nth, aop, aPick, aBin, aIndexAddr, aFieldAddr, aLoad, aStore, aExtract, aConvert, aAlloc, aBox, aIndex, callA, builtinA, Fr.evs, opt, val, when, AM.run, outV, newA, ptr, force_eq, seen_heap, seen_next, seen_mark, seen_seen, agg_cells, int_cells, Fr.ev, Fr.put, onFr, gps, gpn, bltT, still, flat, List.append_nil, List.nil_append, List.cons_append, Nat.reduceEqDiff, ne_eq, not_false_eq_true, reduceCtorEq, Bool.and_true, Bool.true_and, Bool.and_false, Bool.false_and, Bool.not_true, Bool.not_false, Bool.and_self, hix, int1, hinc]; rfl
      refine ⟨ns.length - (i + 1), by omega, i + 1, _, rfl, by omega, rfl, ⟨?_, ?_, ?_, ?_, ?_⟩, ?_, ?_, ?_, by show N = _; omega, ⟨es', clock, ?_, ?_, gb⟩, ?_⟩
      · simp (disch := decide) only [gps, gpn, k1]
      · simp (disch := decide) only [gps, gpn, k2]
      · simp (disch := decide) only [gps, gpn, k3]
      · simp (disch := decide) only [gps, gpn, k6]
      · simp (disch := decide) only [gps, gpn, k7]
      · simp (disch := decide) only [gps, gpn, hr]
      · simp (disch := decide) only [gps, gpn, hn0]
      · simp (disch := decide) only [gps, gpn]
      · exact hg_same hM1 _ _
      · rw [htake, List.foldl_append]; exact ge
      · intro j hj
        show (H.put (B + 2) _).get j = _
        rw [hg_far hM1 (by omega)]
        exact hfar j hj
  · obtain rfl : i = ns.length := by omega
    have hlt' : ltI (Int.ofNat ns.length) (Int.ofNat ns.length) = false := by rw [ltI_eq]; simp
    rw [List.take_length] at hmap
    repeat apply go_seq
    apply go_region
    case h => intro m; simp (maxSteps := 2000000) (disch := decide) only [opsLoop, evOper, wantedA, nth, aop, aPick, aBin, aIndexAddr, aFieldAddr, aLoad, aStore, aExtract, aConvert, aAlloc, aBox, aIndex, callA, builtinA, Fr.evs, opt, val, when, AM.run, outV, newA, ptr, force_eq, seen_heap, seen_next, seen_mark, seen_seen, agg_cells, int_cells, Fr.ev, Fr.put, onFr, gps, gpn, bltT, still, flat, List.append_nil, List.nil_append, List.cons_append, Nat.reduceEqDiff, ne_eq, not_false_eq_true, reduceCtorEq, Bool.and_true, Bool.true_and, Bool.and_false, Bool.false_and, Bool.not_true, Bool.not_false, Bool.and_self, hn0, hix, b_lss, hlt']; rfl
    repeat apply go_seq
    apply go_cond
    case hc => simp (disch := decide) only [opsLoop, evOper, wantedA, nth, aop, aPick, aBin, aIndexAddr, aFieldAddr, aLoad, aStore, aExtract, aConvert, aAlloc, aBox, aIndex, callA, builtinA, Fr.evs, opt, val, when, AM.run, outV, newA, ptr, force_eq, seen_heap, seen_next, seen_mark, seen_seen, agg_cells, int_cells, Fr.ev, Fr.put, onFr, gps, gpn, bltT, still, flat, List.append_nil, List.nil_append, List.cons_append, Nat.reduceEqDiff, ne_eq, not_false_eq_true, reduceCtorEq, Bool.and_true, Bool.true_and, Bool.and_false, Bool.false_and, Bool.not_true, Bool.not_false, Bool.and_self]; rfl
    case h1 => intro h; cases h
    intro _
    apply go_exit
    exact ⟨rfl, _, rfl, ⟨by simp (disch := decide) only [gps, gpn, k1], by simp (disch := decide) only [gps, gpn, k2], by simp (disch := decide) only [gps, gpn, k3], by simp (disch := decide) only [gps, gpn, k6], by simp (disch := decide) only [gps, gpn, k7]⟩, hn, ⟨es, clock, hmap⟩, hfar⟩

noncomputable def cdW3 : Code := sub [1,1,1,1,0,1,0,0] cdCW
def InvW3 (s0 : S) (B X : Nat) (v1 v2 : Value) (l0 : List FileD) (a : Option Addr) (cap : Nat) (fs : List FileD) (k : Nat) (fr : Fr) (s : S) : Prop :=
  ∃ (i : Nat) (t : Tr Value), k = fs.length - i ∧ i ≤ fs.length ∧ fr = ⟨18, t, 66, [], none⟩ ∧ KW t B v1 v2 ∧ t.get 38 = some (.slice a fs.length cap) ∧ t.get 39 = some (.int .i64 (.ofNat fs.length)) ∧ t.get 40 = some (.int .i64 (.ofNat i)) ∧
    s.next = X + i ∧ MW s0 s B ((fs.take i).foldl putM l0)
def PostW3 (s0 : S) (B X : Nat) (v1 v2 : Value) (l0 : List FileD) (fs : List FileD) (x : Ex) (fr : Fr) (s : S) : Prop :=
  x = .exit 4 ∧ ∃ t : Tr Value, fr = ⟨18, t, 66, [], none⟩ ∧ KW t B v1 v2 ∧ s.next = X + fs.length ∧ MW s0 s B (fs.foldl putM l0)
set_option maxHeartbeats 1000000 in
theorem with_round3 {σ : Sums} (s0 : S) (B X : Nat) (v1 v2 : Value) (l0 : List FileD) (a : Option Addr) (cap : Nat) (fs : List FileD) (hl : fs.length ≤ 1000000) (hX : X ≤ 10000000) (hBX : B + 2 < X) (hX0 : s0.next ≤ X) (hv : Vx s0 a (fcs fs)) (ha : ∀ ad, a = some ad → ad.block < B + 2) (k : Nat) (fr : Fr) (s : S) (h : InvW3 s0 B X v1 v2 l0 a cap fs k fr s) :
    GoC E σ cdW3 fr s (Again (InvW3 s0 B X v1 v2 l0 a cap fs) k (PostW3 s0 B X v1 v2 l0 fs)) := by
  obtain ⟨i, t, rfl, hi, rfl, ⟨k1, k2, k3, k6, k7⟩, hr, hn0, hix, hn, ⟨es, clock, hmap⟩, hfar⟩ := h
  simp only [cdW3, cdCW, Tryd.f18, bodyOf, sub]
  by_cases hlt : i < fs.length
  · obtain ⟨f, hf⟩ : ∃ f, fs[i]? = some f := ⟨_, List.getElem?_eq_getElem hlt⟩
    cases a with
    | none =>
      have h0 : fcs fs = [] := hv
      have := fcs_len fs
      rw [h0] at this
      have h4 : (0 : Nat) = 4 * fs.length := this
      omega
    | some ad =>
      obtain ⟨ab, ao, asp⟩ := ad
      obtain ⟨hsp, hcl⟩ := hv
      simp only at hsp hcl
      subst hsp
      have hab : ab < B + 2 := ha _ rfl
      have hlt' : ltI (Int.ofNat i) (Int.ofNat fs.length) = true := by rw [ltI_eq]; simp; omega
      have hbl : Nat.blt i fs.length = true := blt_iff.2 hlt
      have hinc := b_incr (n := i) (by omega)
      have htake : fs.take (i + 1) = fs.take i ++ [f] := by rw [List.take_add_one, hf]; rfl
      have hcs : Cl s ab ao (fcs fs) := hcl.keep (by omega) (hfar _ hab)
      have hsub := hcs.sub (i * 4) 4 (by rw [fcs_len]; omega)
      rw [fcs_at fs i f hf] at hsub
      have hN1 : Nat.ble s.next lastName = true := ble_iff.2 (by unfold lastName; omega)
      have hM1 : Nat.ble (B + 2) lastName = true := ble_iff.2 (by unfold lastName; omega)
      have hmg := hmap.at_
      have hme := hmap.ents
      have hmb := hmap.born
      obtain ⟨H, N, mk, rd, wr⟩ := s
      simp only at hn hfar hN1 hmg
      have st := newCell H N mk hN1 [.int .i64 0, .int .i64 0, .int .i64 0, .int .i64 0] f.cells 41 rfl (by simp [FileD.cells]) rfl
      have lf := hsub.ldA (β := ANext) tiF (by rw [dsF]; rfl) (by rw [szF]; rfl)
      have aa : addA ⟨ab, ao, none⟩ (Nat.mul i 4) = ⟨ab, ao + i * 4, none⟩ := addAn ab ao _
      repeat apply go_seq
      apply go_region
      case h => intro m; simp (maxSteps := 2000000) (disch := decide) only [opsLoop, evOper, wantedA, nth, aop, aPick, aBin, aIndexAddr, aFieldAddr, aLoad, aStore, aExtract, aConvert, aAlloc, aBox, aIndex, callA, builtinA, Fr.evs, opt, val, when, AM.run, outV, newA, ptr, force_eq, seen_heap, seen_next, seen_mark, seen_seen, agg_cells, int_cells, Fr.ev, Fr.put, onFr, gps, gpn, bltT, still, flat, List.append_nil, List.nil_append, List.cons_append, Nat.reduceEqDiff, ne_eq, not_false_eq_true, reduceCtorEq, Bool.and_true, Bool.true_and, Bool.and_false, Bool.false_and, Bool.not_true, Bool.not_false, Bool.and_self, hn0, hix, b_lss, hlt']; rfl
      repeat apply go_seq
      apply go_cond
      case hc => simp (disch := decide) only [opsLoop, evOper, wantedA, nth, aop, aPick, aBin, aIndexAddr, aFieldAddr, aLoad, aStore, aExtract, aConvert, aAlloc, aBox, aIndex, callA, builtinA, Fr.evs, opt, val, when, AM.run, outV, newA, ptr, force_eq, seen_heap, seen_next, seen_mark, seen_seen, agg_cells, int_cells, Fr.ev, Fr.put, onFr, gps, gpn, bltT, still, flat, List.append_nil, List.nil_append, List.cons_append, Nat.reduceEqDiff, ne_eq, not_false_eq_true, reduceCtorEq, Bool.and_true, Bool.true_and, Bool.and_false, Bool.false_and, Bool.not_true, Bool.not_false, Bool.and_self]; rfl
      case h2 => intro h; cases h
      intro _
      apply go_skip
      apply go_seq
      apply go_block
      repeat apply go_seq
      apply go_region
      case h => intro m; simp (maxSteps := 2000000) (disch := decide) only [opsLoop, evOper, wantedA, nth, aop, aPick, aBin, aIndexAddr, aFieldAddr, aLoad, aStore, aExtract, aConvert, aAlloc, aBox, aIndex, callA, builtinA, Fr.evs, opt, val, when, AM.run, outV, newA, ptr, force_eq, seen_heap, seen_next, seen_mark, seen_seen, agg_cells, int_cells, Fr.ev, Fr.put, onFr, gps, gpn, bltT, still, flat, List.append_nil, List.nil_append, List.cons_append, Nat.reduceEqDiff, ne_eq, not_false_eq_true, reduceCtorEq, Bool.and_true, Bool.true_and, Bool.and_false, Bool.false_and, Bool.not_true, Bool.not_false, Bool.and_self, hr, hix, tyFs, dsFs, hbl, tyF, szF, dsF, aa, lf, zeF, hN1, len4, show Nat.beq f.cells.length 4 = true from rfl, st]; rfl
      generalize hs1 : S.mk _ _ _ _ _ = s1
      have e1 : s1.next = N + 1 := by rw [← hs1]
      have e1h : s1.heap = (H.put N (some (.cells (Tr.ofList [.int .i64 0, .int .i64 0, .int .i64 0, .int .i64 0]) (List.length [Value.int .i64 0, .int .i64 0, .int .i64 0, .int .i64 0]) 41 .whole))).put N (some (.cells (wrCells (Tr.ofList [.int .i64 0, .int .i64 0, .int .i64 0, .int .i64 0]) 0 f.cells) (List.length [Value.int .i64 0, .int .i64 0, .int .i64 0, .int .i64 0]) 41 .whole)) := by rw [← hs1]
      clear hs1
      have F1 : Cl s1 N 0 f.cells := newCell_cl (by omega) (by rw [e1h]; exact hg_same hN1 _ _) rfl (by simp [FileD.cells])
      have g1 : ∀ m, m ≠ N → s1.heap.get m = H.get m := fun m hm => by rw [e1h, hg_far hN1 hm, hg_far hN1 hm]
      clear e1h
      obtain ⟨H1, N1, mk1, rd1, wr1⟩ := s1
      simp only at e1 g1
      have l1 := F1.ldA (β := ANext) tiF (by rw [dsF]; rfl) (by rw [szF]; rfl)
      have l2 := F1.ld (k := 0) tiI (by rw [dsI]; rfl) rfl
      simp only [Nat.zero_add] at l2
      obtain ⟨es', clock', ge, gb, up⟩ := update_run (H := H1) (N := N1) (mk := mk1) (blt_iff.2 (by omega)) hM1 (by rw [g1 _ (by omega)]; exact hmg) hme hmb f
      repeat apply go_seq
      apply go_region
      case h => intro m; simp (maxSteps := 2000000) (disch := decide) only [opsLoop, evOper, wantedA, nth, aop, aPick, aBin, aIndexAddr, aFieldAddr, aLoad, aStore, aExtract, aConvert, aAlloc, aBox, aIndex, callA, builtinA, Fr.evs, opt, val, when, AM.run, outV, newA, ptr, force_eq, seen_heap, seen_next, seen_mark, seen_seen, agg_cells, int_cells, Fr.ev, Fr.put, onFr, gps, gpn, bltT, still, flat, List.append_nil, List.nil_append, List.cons_append, Nat.reduceEqDiff, ne_eq, not_false_eq_true, reduceCtorEq, Bool.and_true, Bool.true_and, Bool.and_false, Bool.false_and, Bool.not_true, Bool.not_false, Bool.and_self, k7, tyF, dsF, flF0, ftF0, foF0, tyI, szI, ble11, ad0, l2, l1, aUpdate, up, undef_eq]; rfl
      repeat apply go_seq
      apply go_region
      case h => intro m; simp (maxSteps := 2000000) (disch := decide) only [opsLoop, evOper, wantedA, nth, aop, aPick, aBin, aIndexAddr, aFieldAddr, aLoad, aStore, aExtract, aConvert, aAlloc, aBox, aIndex, callA, builtinA, Fr.evs, opt, val, when, AM.run, outV, newA, ptr, force_eq, seen_heap, seen_next, seen_mark, seen_seen, agg_cells, int_cells, Fr.ev, Fr.put, onFr, gps, gpn, bltT, still, flat, List.append_nil, List.nil_append, List.cons_append, Nat.reduceEqDiff, ne_eq, not_false_eq_true, reduceCtorEq, Bool.and_true, Bool.true_and, Bool.and_false, Bool.false_and, Bool.not_true, Bool.not_false, Bool.and_self, hix, int1, hinc]; rfl
      refine ⟨fs.length - (i + 1), by omega, i + 1, _, rfl, by omega, rfl, ⟨?_, ?_, ?_, ?_, ?_⟩, ?_, ?_, ?_, by show N1 = _; omega, ⟨es', clock', ?_, ?_, gb⟩, ?_⟩
      · simp (disch := decide) only [gps, gpn, k1]
      · simp (disch := decide) only [gps, gpn, k2]
      · simp (disch := decide) only [gps, gpn, k3]
      · simp (disch := decide) only [gps, gpn, k6]
      · simp (disch := decide) only [gps, gpn, k7]
      · simp (disch := decide) only [gps, gpn, hr]
      · simp (disch := decide) only [gps, gpn, hn0]
      · simp (disch := decide) only [gps, gpn]
      · exact hg_same hM1 _ _
      · rw [htake, List.foldl_append]; exact ge
      · intro j hj
        show (H1.put (B + 2) _).get j = _
        rw [hg_far hM1 (by omega), g1 j (by omega)]
        exact hfar j hj
  · obtain rfl : i = fs.length := by omega
    have hlt' : ltI (Int.ofNat fs.length) (Int.ofNat fs.length) = false := by rw [ltI_eq]; simp
    rw [List.take_length] at hmap
    repeat apply go_seq
    apply go_region
    case h => intro m; simp (maxSteps := 2000000) (disch := decide) only [opsLoop, evOper, wantedA, nth, aop, aPick, aBin, aIndexAddr, aFieldAddr, aLoad, aStore, aExtract, aConvert, aAlloc, aBox, aIndex, callA, builtinA, Fr.evs, opt, val, when, AM.run, outV, newA, ptr, force_eq, seen_heap, seen_next, seen_mark, seen_seen, agg_cells, int_cells, Fr.ev, Fr.put, onFr, gps, gpn, bltT, still, flat, List.append_nil, List.nil_append, List.cons_append, Nat.reduceEqDiff, ne_eq, not_false_eq_true, reduceCtorEq, Bool.and_true, Bool.true_and, Bool.and_false, Bool.false_and, Bool.not_true, Bool.not_false, Bool.and_self, hn0, hix, b_lss, hlt']; rfl
    repeat apply go_seq
    apply go_cond
    case hc => simp (disch := decide) only [opsLoop, evOper, wantedA, nth, aop, aPick, aBin, aIndexAddr, aFieldAddr, aLoad, aStore, aExtract, aConvert, aAlloc, aBox, aIndex, callA, builtinA, Fr.evs, opt, val, when, AM.run, outV, newA, ptr, force_eq, seen_heap, seen_next, seen_mark, seen_seen, agg_cells, int_cells, Fr.ev, Fr.put, onFr, gps, gpn, bltT, still, flat, List.append_nil, List.nil_append, List.cons_append, Nat.reduceEqDiff, ne_eq, not_false_eq_true, reduceCtorEq, Bool.and_true, Bool.true_and, Bool.and_false, Bool.false_and, Bool.not_true, Bool.not_false, Bool.and_self]; rfl
    case h1 => intro h; cases h
    intro _
    apply go_exit
    exact ⟨rfl, _, rfl, ⟨by simp (disch := decide) only [gps, gpn, k1], by simp (disch := decide) only [gps, gpn, k2], by simp (disch := decide) only [gps, gpn, k3], by simp (disch := decide) only [gps, gpn, k6], by simp (disch := decide) only [gps, gpn, k7]⟩, hn, ⟨es, clock, hmap⟩, hfar⟩
end Go.Proofs.YtgofanjbhbeniaaDoor.lf
end
end

section
/- Catalogs made anew: the map ranged over, in whatever order; files put one behind the other. -/
noncomputable section
namespace Go.Proofs.YtgofanjbhbeniaaDoor.lf
open AE
set_option linter.unusedSimpArgs false
set_option linter.unusedVariables false
set_option maxRecDepth 10000

theorem fcs_app : ∀ (a b : List FileD), fcs (a ++ b) = fcs a ++ fcs b
  | [], b => rfl
  | f :: a, b => by simp only [List.cons_append, fcs, fcs_app a b]
theorem newA_runW {β : Type} {s : S} {vs : List Value} {e : TypeId} {rm : Room} {k : Nat → AM β} (hl : vs.length ≤ 1000000) (hN : Nat.ble s.next lastName = true) : (newA e vs rm k).run s = (k s.next).run (s.grow (.cells (Tr.ofList vs) vs.length e rm)) := by
  unfold newA
  rw [show Nat.ble vs.length lastName = true from ble_iff.2 (by unfold lastName; omega)]
  simp only [when, AM.run, force_eq, hN]
  rfl
theorem sub_openW (O n : Nat) : Nat.sub (Nat.add O n) O = n := Nat.add_sub_cancel_left ..
theorem ble_openW (O n : Nat) : Nat.ble O (Nat.add O n) = true := ble_iff.2 (Nat.le_add_right ..)
/-- files that were put one behind the other -/
def AccAt (s : S) (lo : Nat) (sv : Value) (acc : List FileD) : Prop :=
  (acc = [] ∧ sv = .slice none 0 0) ∨ ∃ r c, lo ≤ r ∧ r < s.next ∧ acc ≠ [] ∧ sv = .slice (some ⟨r, 0, none⟩) acc.length c ∧ c = Nat.add OPEN acc.length ∧ s.heap.get r = some (.cells (Tr.ofList (fcs acc)) (4 * acc.length) 41 .loose)
theorem AccAt.keep {s s1 : S} {lo : Nat} {sv : Value} {acc : List FileD} (h : AccAt s lo sv acc) (hn : s.next ≤ s1.next) (hg : ∀ m, m < s.next → lo ≤ m → s1.heap.get m = s.heap.get m) : AccAt s1 lo sv acc := by
  rcases h with h | ⟨r, c, h1, h2, h3, h4, h5, h6⟩
  · exact .inl h
  · exact .inr ⟨r, c, h1, by omega, h3, h4, h5, by rw [hg r h2 h1]; exact h6⟩
theorem app_eqF (a b : Option Addr) (n c n2 c2 : Nat) : builtinA E .append #[25, 25] [.slice a n c, .slice b n2 c2] = appendA 4 4 32 41 a n c n2 (.slice b n2 c2) := by
  simp only [builtinA, tyFs, dsFs, opt, tyF, zeF, szF, byF, lenA, agg_cells]
  rfl
theorem first_F {s : S} {e : Nat} {f : FileD} (hf : Cl s e 0 f.cells) (k : List Value → AM ANext) : (firstA 4 1 (.slice (some ⟨e, 0, none⟩) 1 1) k).run s = (k f.cells).run (s.seen e) := by
  show (loadA ⟨e, 0, none⟩ (Nat.mul 1 4) k).run s = _
  exact cl_load hf k
theorem appendF {s : S} {lo e : Nat} {sv : Value} {acc : List FileD} {f : FileD} (hA : AccAt s lo sv acc) (hf : Cl s e 0 f.cells) (hlo : lo ≤ s.next) (hmax : acc.length ≤ 100000) (hnext : s.next ≤ 100000000) :
    ∃ s1 sv1, (builtinA E .append #[25, 25] [sv, .slice (some ⟨e, 0, none⟩) 1 1]).run s = some (.value sv1, s1) ∧ s1.next = s.next + 1 ∧ s1.mark = s.mark ∧ AccAt s1 lo sv1 (acc ++ [f]) ∧ oneB sv1 = true ∧ ∀ m, m < lo → s1.heap.get m = s.heap.get m := by
  have hN : Nat.ble s.next lastName = true := ble_iff.2 (by unfold lastName; omega)
  have h1 : allOne f.cells = true := rfl
  rcases hA with ⟨rfl, rfl⟩ | ⟨r, c, hr1, hr2, hr3, rfl, hc, hg⟩
  · rw [app_eqF]
    unfold appendA
    have h3 : Nat.ble (Nat.add 0 1) maxNeed = true := rfl
    simp only [h3, when, show Nat.ble 1 4 = true from rfl, show Nat.ble 32 1024 = true from rfl, Bool.and_self]
    rw [first_F hf]
    try dsimp only
    unfold growA
    simp only [when, show Nat.beq 4 4 = true from rfl]
    rw [newA_runW (s := s.seen e) (by simp [FileD.cells]) hN]
    refine ⟨_, _, rfl, rfl, rfl, .inr ⟨s.next, _, hlo, Nat.lt_succ_self _, by simp, rfl, rfl, ?_⟩, rfl, fun m hm => ?_⟩
    · exact hg_same hN _ _
    · exact hg_far hN (by omega) _ _
  · have h6 : Nat.ble OPEN c = true := by rw [hc]; exact ble_openW _ _
    have h4 : Nat.sub c OPEN = acc.length := by rw [hc]; exact sub_openW _ _
    have hlen : (fcs acc).length = 4 * acc.length := fcs_len acc
    rw [app_eqF]
    unfold appendA
    have h3 : Nat.ble (Nat.add acc.length 1) maxNeed = true := ble_iff.2 (by show acc.length + 1 ≤ maxNeed; unfold maxNeed; omega)
    have h5 : Nat.ble (Nat.add acc.length 1) acc.length = false := ble_f (by show acc.length < acc.length + 1; omega)
    simp only [h3, when, show Nat.ble 1 4 = true from rfl, show Nat.ble 32 1024 = true from rfl, Bool.and_self]
    rw [first_F hf]
    rw [h6, h4, h5]
    dsimp only
    unfold appendL
    have h7 : rdCells (Tr.ofList (fcs acc)) 0 (Nat.mul acc.length 4) [] = some (fcs acc) := by
      have := rd_row (row_ofList (fcs acc) (by rw [hlen]; unfold Tr.wide; omega))
      rw [hlen] at this
      rw [show Nat.mul acc.length 4 = 4 * acc.length from Nat.mul_comm _ _]; exact this
    have h8 : Nat.beq (Nat.add 0 (Nat.mul acc.length 4)) (4 * acc.length) = true := beq_iff.2 (by show 0 + acc.length * 4 = _; omega)
    have hN0 : Nat.ble r lastName = true := ble_iff.2 (by unfold lastName; omega)
    simp only [AM.run, seen_next, seen_heap, blt_iff.2 hr2, hg, when, h8, h1, show Nat.ble acc.length acc.length = true from ble_iff.2 (Nat.le_refl _), show Nat.beq 41 41 = true from rfl, Bool.and_self, opt, h7]
    simp only [hN0]
    unfold growA
    simp only [when, show Nat.beq 4 4 = true from rfl]
    simp only [Bool.and_self]
    rw [newA_runW (s := ⟨s.heap.put r none, s.next, (s.seen e).mark, bit (s.seen e).mark r (s.seen e).rd, bit (s.seen e).mark r (s.seen e).wr⟩) (by rw [List.length_append, hlen]; simp [FileD.cells]; omega) hN]
    refine ⟨_, _, rfl, rfl, rfl, .inr ⟨s.next, _, hlo, Nat.lt_succ_self _, by simp, by rw [List.length_append]; rfl, by rw [List.length_append]; rfl, ?_⟩, rfl, fun m hm => ?_⟩
    · have e1 : fcs acc ++ f.cells = fcs (acc ++ [f]) := by rw [fcs_app]; rfl
      have e2 : (fcs (acc ++ [f])).length = 4 * (acc ++ [f]).length := fcs_len _
      rw [← e2, ← e1]
      exact hg_same hN _ _
    · show ((s.heap.put r none).put s.next _).get m = _
      rw [hg_far hN (by omega), hg_far hN0 (by omega)]
/-- a catalog with any files -/
def catV (D : CatD) (sv : Value) : List Value := [.int .i64 D.gen, .int .i64 D.step, .int .i64 D.status, .bool D.ended, .int .i64 D.from_, .int .i64 D.to_, .int .i64 D.budget, .int .i64 D.fan, sv]
def CatAt (s : S) (B : Nat) (D : CatD) (sv : Value) : Prop := ∃ c, s.heap.get B = some (.cells c 9 27 .whole) ∧ Row c 0 (catV D sv)
theorem CatAt.cl {s : S} {B : Nat} {D : CatD} {sv : Value} (h : CatAt s B D sv) (hB : B < s.next) : Cl s B 0 (catV D sv) := by
  obtain ⟨c, h1, h2⟩ := h
  exact ⟨hB, c, 9, .inl ⟨_, _, h1⟩, by simp [catV], h2⟩
theorem CatAt.keep {s s1 : S} {B : Nat} {D : CatD} {sv : Value} (h : CatAt s B D sv) (hg : s1.heap.get B = s.heap.get B) : CatAt s1 B D sv := by
  obtain ⟨c, h1, h2⟩ := h
  exact ⟨c, by rw [hg]; exact h1, h2⟩
theorem row_cat {c : Tr Value} {D : CatD} {sv sv1 : Value} (h : Row c 0 (catV D sv)) : Row (wrCells c 8 [sv1]) 0 (catV D sv1) := by
  have e : catV D sv1 = (catV D sv).take 8 ++ [sv1] := rfl
  rw [e]
  refine row_app ?_ ?_
  · refine row_wr_far (by unfold Tr.wide; simp) ?_ (.inl (by simp [catV]))
    intro k v hk
    rw [List.getElem?_take] at hk
    split at hk
    · exact h k v hk
    · cases hk
  · exact row_wr (by unfold Tr.wide; simp)
/-- its files are set -/
theorem cat_store {H : Tr AObj} {N mk B : Nat} {D : CatD} {sv sv1 : Value} {r0 w0 : Nat} (h : CatAt ⟨H, N, mk, r0, w0⟩ B D sv) (hB : B < N) (hN : N ≤ 100000000) (h1 : oneB sv1 = true) :
    ∃ c, (∀ rd wr, (storeA ⟨B, 8, none⟩ [sv1] (AM.pure (ANext.value undefV))).run ⟨H, N, mk, rd, wr⟩ = some (.value undefV, ⟨H.put B (some (.cells c 9 27 .whole)), N, mk, bit mk B rd, bit mk B wr⟩)) ∧ Row c 0 (catV D sv1) := by
  obtain ⟨c, g1, g2⟩ := h
  have hBn : Nat.ble B lastName = true := ble_iff.2 (by unfold lastName; omega)
  refine ⟨wrCells c 8 [sv1], fun rd wr => ?_, row_cat g2⟩
  rw [storeA_run (s := ⟨H, N, mk, rd, wr⟩) _ (by simp only [allOne, h1]) hB hBn g1 (by simp) (by omega)]
  rfl

/-! the range -/
noncomputable def cdW4 : Code := sub [1,1,1,1,1,1,0,1,0,0] cdCW
def InvWr (s0 : S) (B it X : Nat) (D : CatD) (l : List FileD) (es : List MapEntry) (clock : Nat) (k : Nat) (fr : Fr) (s : S) : Prop :=
  ∃ (t : Tr Value) (seen : List Nat) (acc lu : List FileD) (sv : Value), fr = ⟨18, t, 66, [], none⟩ ∧ t.get 3 = some (.pointer (some ⟨B, 0, none⟩)) ∧ t.get 6 = some (.pointer (some ⟨B + 1, 0, none⟩)) ∧ t.get 51 = some (.pointer (some ⟨it, 0, none⟩)) ∧
    s.next = X + 3 * acc.length ∧ s.heap.get (B + 2) = some (.map es clock) ∧ s.heap.get it = some (.mapIter (some (B + 2)) clock seen clock) ∧ CatAt s B D sv ∧ AccAt s X sv acc ∧ (oneB sv = true) ∧ (∀ j, j < B + 2 → j ≠ B → s.heap.get j = s0.heap.get j) ∧
    k = (unseen seen es).length ∧ Ents (unseen seen es) lu ∧ (acc ++ lu).Perm l
def PostRg (s0 : S) (B X : Nat) (D : CatD) (l : List FileD) (x : Ex) (fr : Fr) (s : S) : Prop :=
  x = .exit 6 ∧ ∃ (t : Tr Value) (acc : List FileD) (sv : Value), fr = ⟨18, t, 66, [], none⟩ ∧ t.get 3 = some (.pointer (some ⟨B, 0, none⟩)) ∧ t.get 6 = some (.pointer (some ⟨B + 1, 0, none⟩)) ∧
    s.next = X + 3 * acc.length ∧ CatAt s B D sv ∧ AccAt s X sv acc ∧ (oneB sv = true) ∧ (∀ j, j < B + 2 → j ≠ B → s.heap.get j = s0.heap.get j) ∧ acc.Perm l
theorem fillF (f : FileD) : fillA (placeA 4) [(0, .agg ⟨f.cells⟩)] (repeatL [.int .i64 0, .int .i64 0, .int .i64 0, .int .i64 0] 1) = some f.cells := rfl
set_option maxHeartbeats 2000000 in
theorem range_round (q : Free) (s0 : S) (B it X : Nat) (D : CatD) (l : List FileD) (es : List MapEntry) (clock : Nat) (hl : l.length ≤ 100000) (hX : X ≤ 10000000) (hB : B + 2 < it) (hit : it < X) (hb : Born es clock) (hq : X + 3 * l.length ≤ q.hi) (k : Nat) (fr : Fr) (s : S) (h : InvWr s0 B it X D l es clock k fr s) :
    GoW Tryd.prog q cdW4 fr s (Again (InvWr s0 B it X D l es clock) k (PostRg s0 B X D l)) := by
  obtain ⟨t, seen, acc, lu, sv, rfl, h3, h6, h51, hn, hm, hI, hcat, hacc, hone, hfar, rfl, hents, hperm⟩ := h
  have hN : Nat.ble it lastName = true := ble_iff.2 (by unfold lastName; omega)
  have hold := hb.allOld
  have hnd := hb.nd
  have hbb : Nat.ble clock clock = true := ble_iff.2 (Nat.le_refl _)
  have hbq : Nat.beq clock clock = true := beq_iff.2 rfl
  have hlen := hperm.length_eq
  rw [List.length_append] at hlen
  simp only [cdW4, cdCW, Tryd.f18, bodyOf, sub]
  cases hu : unseen seen es with
  | nil =>
    rw [hu] at hents
    cases hents
    obtain ⟨H, N, mk, rd, wr⟩ := s
    simp only at hn hm hI
    have hb1 : Nat.blt it N = true := blt_iff.2 (by omega)
    have hb0 : Nat.blt (B + 2) N = true := blt_iff.2 (by omega)
    apply gow_of hE hmix tolds_nil
    repeat apply go_seq
    apply go_region
    case h => intro m; simp (maxSteps := 2000000) (disch := decide) only [opsLoop, evOper, wantedA, nth, aop, aPick, aBin, aIndexAddr, aFieldAddr, aLoad, aStore, aExtract, aConvert, aAlloc, aBox, aIndex, callA, builtinA, Fr.evs, opt, val, when, AM.run, outV, newA, ptr, force_eq, seen_heap, seen_next, seen_mark, seen_seen, agg_cells, int_cells, Fr.ev, Fr.put, onFr, gps, gpn, bltT, still, flat, List.append_nil, List.nil_append, List.cons_append, Nat.reduceEqDiff, ne_eq, not_false_eq_true, reduceCtorEq, Bool.and_true, Bool.true_and, Bool.and_false, Bool.false_and, Bool.not_true, Bool.not_false, Bool.and_self, h51, aNext, hb1, hI, hb0, hm, hold, hbb, hu, aExtract, dropL]; rfl
    repeat apply go_seq
    apply go_cond
    case hc => simp (disch := decide) only [opsLoop, evOper, wantedA, nth, aop, aPick, aBin, aIndexAddr, aFieldAddr, aLoad, aStore, aExtract, aConvert, aAlloc, aBox, aIndex, callA, builtinA, Fr.evs, opt, val, when, AM.run, outV, newA, ptr, force_eq, seen_heap, seen_next, seen_mark, seen_seen, agg_cells, int_cells, Fr.ev, Fr.put, onFr, gps, gpn, bltT, still, flat, List.append_nil, List.nil_append, List.cons_append, Nat.reduceEqDiff, ne_eq, not_false_eq_true, reduceCtorEq, Bool.and_true, Bool.true_and, Bool.and_false, Bool.false_and, Bool.not_true, Bool.not_false, Bool.and_self]; rfl
    case h1 => intro h; cases h
    intro _
    apply go_exit
    refine ⟨by show N ≤ _; omega, rfl, _, acc, sv, rfl, ?_, ?_, hn, hcat.keep rfl, hacc.keep (Nat.le_refl _) (fun _ _ _ => rfl), hone, hfar, ?_⟩
    · simp (disch := decide) only [gps, gpn, h3]
    · simp (disch := decide) only [gps, gpn, h6]
    · rw [List.append_nil] at hperm; exact hperm
  | cons e0 l0 =>
    apply gow_seq
    refine gow_next hE hmix (σ := sumsOf []) tolds_nil (o := _) (rest := _) rfl rfl rfl (fr := ⟨18, t, 66, [], none⟩) (it := .tmp 51) h51 hI hm (by omega) hN hold (Nat.le_refl _) (by rw [hu]; simp) ?_
    intro e he
    obtain ⟨a, b, hu1, hu2⟩ := unseen_step hnd he
    obtain ⟨hmem, _⟩ := unseen_mem he
    rw [hu1] at hents
    obtain ⟨la, f, lb, hlu, he1, hv, he2⟩ := Ents.split a hents
    have hbo := bornAt_mem es e hmem hnd
    have hla := lastN_app seen e.born
    have hu3 : (e0 :: l0).length = a.length + (b.length + 1) := by rw [← hu, hu1, List.length_append, List.length_cons]
    have hl1 := he1.len
    have hl2 := he2.len
    have hlu2 : lu.length = la.length + (lb.length + 1) := by rw [hlu, List.length_append, List.length_cons]
    refine ⟨⟨18, t.put 52 (some (.tuple ⟨[.bool true, e.key, e.val]⟩)), 66, [], none⟩, ⟨18, (t.put 52 (some (.tuple ⟨[.bool true, e.key, e.val]⟩))).put 53 (some (.bool true)), 66, [], none⟩, s.turn it (some (.mapIter (some (B + 2)) clock (seen ++ [e.born]) clock)), ?_, ⟨1, ?_⟩, by show s.next ≤ _; omega, ?_⟩
    · simp (disch := decide) only [Fr.put, bltT]
    · simp (disch := decide) only [opsLoop, evOper, wantedA, nth, aop, aPick, aBin, aIndexAddr, aFieldAddr, aLoad, aStore, aExtract, aConvert, aAlloc, aBox, aIndex, callA, builtinA, Fr.evs, opt, val, when, AM.run, outV, newA, ptr, force_eq, seen_heap, seen_next, seen_mark, seen_seen, agg_cells, int_cells, Fr.ev, Fr.put, onFr, gps, gpn, bltT, still, flat, List.append_nil, List.nil_append, List.cons_append, Nat.reduceEqDiff, ne_eq, not_false_eq_true, reduceCtorEq, Bool.and_true, Bool.true_and, Bool.and_false, Bool.false_and, Bool.not_true, Bool.not_false, Bool.and_self, aExtract, dropL]
    show GoW _ _ _ _ _ _
    have g0 : (s.turn it (some (.mapIter (some (B + 2)) clock (seen ++ [e.born]) clock))).heap.get (B + 2) = some (.map es clock) := by
      show (s.heap.put it _).get (B + 2) = _
      rw [hg_far hN (by omega)]; exact hm
    have gI : (s.turn it (some (.mapIter (some (B + 2)) clock (seen ++ [e.born]) clock))).heap.get it = some (.mapIter (some (B + 2)) clock (seen ++ [e.born]) clock) := hg_same hN _ _
    have gn : (s.turn it (some (.mapIter (some (B + 2)) clock (seen ++ [e.born]) clock))).next = X + 3 * acc.length := hn
    have gfar : ∀ m, m ≠ it → (s.turn it (some (.mapIter (some (B + 2)) clock (seen ++ [e.born]) clock))).heap.get m = s.heap.get m := fun m hm => hg_far hN hm _ _
    have gcat := hcat.keep (s1 := s.turn it (some (.mapIter (some (B + 2)) clock (seen ++ [e.born]) clock))) (gfar _ (by omega))
    have gacc := hacc.keep (s1 := s.turn it (some (.mapIter (some (B + 2)) clock (seen ++ [e.born]) clock))) (Nat.le_refl _) (fun m _ hm => gfar m (by omega))
    generalize s.turn it (some (.mapIter (some (B + 2)) clock (seen ++ [e.born]) clock)) = s1 at *
    have hfar1 : ∀ j, j < B + 2 → j ≠ B → s1.heap.get j = s0.heap.get j := fun j hj hjB => by rw [gfar j (by omega)]; exact hfar j hj hjB
    clear hcat hacc hfar gfar hI hm hn
    obtain ⟨H, N, mk, rd, wr⟩ := s1
    simp only at gn g0 gI hfar1
    have hb1 : Nat.blt it N = true := blt_iff.2 (by omega)
    have hb0 : Nat.blt (B + 2) N = true := blt_iff.2 (by omega)
    have hN1 : Nat.ble N lastName = true := ble_iff.2 (by unfold lastName; omega)
    have st := newCell H N mk hN1 [.int .i64 0, .int .i64 0, .int .i64 0, .int .i64 0] f.cells 41 rfl (by simp [FileD.cells]) rfl
    apply gow_of hE hmix tolds_nil
    repeat apply go_seq
    apply go_cond
    case hc => simp (disch := decide) only [opsLoop, evOper, wantedA, nth, aop, aPick, aBin, aIndexAddr, aFieldAddr, aLoad, aStore, aExtract, aConvert, aAlloc, aBox, aIndex, callA, builtinA, Fr.evs, opt, val, when, AM.run, outV, newA, ptr, force_eq, seen_heap, seen_next, seen_mark, seen_seen, agg_cells, int_cells, Fr.ev, Fr.put, onFr, gps, gpn, bltT, still, flat, List.append_nil, List.nil_append, List.cons_append, Nat.reduceEqDiff, ne_eq, not_false_eq_true, reduceCtorEq, Bool.and_true, Bool.true_and, Bool.and_false, Bool.false_and, Bool.not_true, Bool.not_false, Bool.and_self]; rfl
    case h2 => intro h; cases h
    intro _
    apply go_skip
    apply go_block
    repeat apply go_seq
    apply go_region
    case h => intro m; simp (maxSteps := 2000000) (disch := decide) only [opsLoop, evOper, wantedA, nth, aop, aPick, aBin, aIndexAddr, aFieldAddr, aLoad, aStore, aExtract, aConvert, aAlloc, aBox, aIndex, callA, builtinA, Fr.evs, opt, val, when, AM.run, outV, newA, ptr, force_eq, seen_heap, seen_next, seen_mark, seen_seen, agg_cells, int_cells, Fr.ev, Fr.put, onFr, gps, gpn, bltT, still, flat, List.append_nil, List.nil_append, List.cons_append, Nat.reduceEqDiff, ne_eq, not_false_eq_true, reduceCtorEq, Bool.and_true, Bool.true_and, Bool.and_false, Bool.false_and, Bool.not_true, Bool.not_false, Bool.and_self, h51, aEntry, hb1, gI, hla, hb0, g0, hbq, hbo, hv, aExtract, dropL, tyF, szF, zeF, hN1, len4, show Nat.beq f.cells.length 4 = true from rfl, st]; rfl
    generalize hs2 : S.mk _ _ _ _ _ = s2
    have e1 : s2.next = N + 1 := by rw [← hs2]
    have e1h : s2.heap = (H.put N (some (.cells (Tr.ofList [.int .i64 0, .int .i64 0, .int .i64 0, .int .i64 0]) (List.length [Value.int .i64 0, .int .i64 0, .int .i64 0, .int .i64 0]) 41 .whole))).put N (some (.cells (wrCells (Tr.ofList [.int .i64 0, .int .i64 0, .int .i64 0, .int .i64 0]) 0 f.cells) (List.length [Value.int .i64 0, .int .i64 0, .int .i64 0, .int .i64 0]) 41 .whole)) := by rw [← hs2]
    clear hs2 st
    have F1 : Cl s2 N 0 f.cells := newCell_cl (by omega) (by rw [e1h]; exact hg_same hN1 _ _) rfl (by simp [FileD.cells])
    have g2 : ∀ m, m ≠ N → s2.heap.get m = H.get m := fun m hm => by rw [e1h, hg_far hN1 hm, hg_far hN1 hm]
    clear e1h
    have C2 : CatAt s2 B D sv := gcat.keep (g2 _ (by omega))
    have A2 : AccAt s2 X sv acc := gacc.keep (by show N ≤ _; omega) (fun m hm _ => g2 m (by show m ≠ N; have : m < N := hm; omega))
    have G2 : s2.heap.get (B + 2) = some (.map es clock) := by rw [g2 _ (by omega)]; exact g0
    have I2 : s2.heap.get it = some (.mapIter (some (B + 2)) clock (seen ++ [e.born]) clock) := by rw [g2 _ (by omega)]; exact gI
    have R2 : ∀ j, j < B + 2 → j ≠ B → s2.heap.get j = s0.heap.get j := fun j hj hjB => by rw [g2 j (by omega)]; exact hfar1 j hj hjB
    clear g2 g0 gI hfar1 gcat gacc
    obtain ⟨H2, N2, mk2, rd2, wr2⟩ := s2
    simp only at e1 G2 I2 R2
    have l1 := F1.ldA (β := ANext) tiF (by rw [dsF]; rfl) (by rw [szF]; rfl)
    have l8 := (C2.cl (by show B < N2; omega)).ld (k := 8) (v := sv) tiFs (by rw [dsFs]; rfl) rfl
    simp only [Nat.zero_add] at l8
    have ad8 : addA ⟨B, 0, none⟩ 8 = ⟨B, 8, none⟩ := rfl
    have hN2 : Nat.ble N2 lastName = true := ble_iff.2 (by unfold lastName; omega)
    repeat apply go_seq
    apply go_ops
    apply go_take 4
    case h => intro m; simp (disch := decide) only [List.take, opsLoop, evOper, wantedA, nth, aop, aPick, aBin, aIndexAddr, aFieldAddr, aLoad, aStore, aExtract, aConvert, aAlloc, aBox, aIndex, callA, Fr.evs, opt, val, when, AM.run, outV, newA, ptr, force_eq, seen_heap, seen_next, seen_mark, seen_seen, agg_cells, int_cells, Fr.ev, Fr.put, onFr, gps, gpn, bltT, still, flat, List.append_nil, List.nil_append, List.cons_append, Nat.reduceEqDiff, ne_eq, not_false_eq_true, reduceCtorEq, Bool.and_true, Bool.true_and, Bool.and_false, Bool.false_and, Bool.not_true, Bool.not_false, Bool.and_self, h3, tyC, dsC, flC5, ftC5, foC5, tyFs, dsFs, szFs, ble11, ad8, l8, tyF, l1, aBuildSlice, evParts, szF, dsF, zeF, fillF, hN2, show Nat.ble (Nat.mul 1 4) 1048576 = true from rfl, show Nat.beq ([Value.int .i64 0, .int .i64 0, .int .i64 0, .int .i64 0] : List Value).length 4 = true from rfl, show Nat.ble 1 4 = true from rfl, show Nat.ble f.cells.length lastName = true from rfl]; rfl
    simp only [List.drop]
    generalize hs3 : S.mk _ _ _ _ _ = s3
    have e3 : s3.next = N2 + 1 := by rw [← hs3]
    have e3h : s3.heap = H2.put N2 (some (.cells (Tr.ofList f.cells) f.cells.length 41 .whole)) := by rw [← hs3]
    clear hs3
    have g3 : ∀ m, m ≠ N2 → s3.heap.get m = H2.get m := fun m hm => by rw [e3h, hg_far hN2 hm]
    have F3 : Cl s3 N2 0 f.cells := Cl.new (by omega) (by rw [e3h]; exact hg_same hN2 _ _) (by simp [FileD.cells])
    clear e3h
    have C3 : CatAt s3 B D sv := C2.keep (g3 _ (by omega))
    have A3 : AccAt s3 X sv acc := A2.keep (by show N2 ≤ _; omega) (fun m hm _ => g3 m (by show m ≠ N2; have : m < N2 := hm; omega))
    have G3 : s3.heap.get (B + 2) = some (.map es clock) := by rw [g3 _ (by omega)]; exact G2
    have I3 : s3.heap.get it = some (.mapIter (some (B + 2)) clock (seen ++ [e.born]) clock) := by rw [g3 _ (by omega)]; exact I2
    have R3 : ∀ j, j < B + 2 → j ≠ B → s3.heap.get j = s0.heap.get j := fun j hj hjB => by rw [g3 j (by omega)]; exact R2 j hj hjB
    clear g3 C2 A2 G2 I2 R2 F1 l1 l8
    obtain ⟨s4, sv4, r4, n4, m4, A4, o4, f4⟩ := appendF A3 F3 (by omega) (by omega) (by omega)
    have C4 : CatAt s4 B D sv := C3.keep (f4 _ (by omega))
    have G4 : s4.heap.get (B + 2) = some (.map es clock) := by rw [f4 _ (by omega)]; exact G3
    have I4 : s4.heap.get it = some (.mapIter (some (B + 2)) clock (seen ++ [e.born]) clock) := by rw [f4 _ (by omega)]; exact I3
    have R4 : ∀ j, j < B + 2 → j ≠ B → s4.heap.get j = s0.heap.get j := fun j hj hjB => by rw [f4 j (by omega)]; exact R3 j hj hjB
    apply go_take 1
    case h => intro m; simp (disch := decide) only [List.take, opsLoop, evOper, wantedA, nth, aop, aPick, aBin, aIndexAddr, aFieldAddr, aLoad, aStore, aExtract, aConvert, aAlloc, aBox, aIndex, callA, Fr.evs, opt, val, when, AM.run, outV, newA, ptr, force_eq, seen_heap, seen_next, seen_mark, seen_seen, agg_cells, int_cells, Fr.ev, Fr.put, onFr, gps, gpn, bltT, still, flat, List.append_nil, List.nil_append, List.cons_append, Nat.reduceEqDiff, ne_eq, not_false_eq_true, reduceCtorEq, Bool.and_true, Bool.true_and, Bool.and_false, Bool.false_and, Bool.not_true, Bool.not_false, Bool.and_self, r4]; rfl
    simp only [List.drop]
    clear r4 f4 C3 A3 G3 I3 R3 F3
    obtain ⟨H4, N4, mk4, rd4, wr4⟩ := s4
    simp only at n4 G4 I4 R4
    obtain ⟨c5, st5, row5⟩ := cat_store C4 (by omega) (by omega) o4
    have hB1 : Nat.ble B lastName = true := ble_iff.2 (by unfold lastName; omega)
    have hc4 : sv4.cells.toList = [sv4] := by
      cases sv4 <;> first | rfl | (simp [oneB] at o4)
    apply go_take 2
    case h => intro m; simp (disch := decide) only [List.take, opsLoop, evOper, wantedA, nth, aop, aPick, aBin, aIndexAddr, aFieldAddr, aLoad, aStore, aExtract, aConvert, aAlloc, aBox, aIndex, callA, Fr.evs, opt, val, when, AM.run, outV, newA, ptr, force_eq, seen_heap, seen_next, seen_mark, seen_seen, agg_cells, int_cells, Fr.ev, Fr.put, onFr, gps, gpn, bltT, still, flat, List.append_nil, List.nil_append, List.cons_append, Nat.reduceEqDiff, ne_eq, not_false_eq_true, reduceCtorEq, Bool.and_true, Bool.true_and, Bool.and_false, Bool.false_and, Bool.not_true, Bool.not_false, Bool.and_self, h3, tyC, dsC, flC5, ftC5, foC5, tyFs, dsFs, szFs, ble11, ad8, hc4, show Nat.beq ([sv4] : List Value).length 1 = true from rfl, st5]; rfl
    simp only [List.drop]
    apply go_done
    generalize hs6 : S.mk _ _ _ _ _ = s6
    have e6 : s6.next = N4 := by rw [← hs6]
    have e6h : s6.heap = H4.put B (some (.cells c5 9 27 .whole)) := by rw [← hs6]
    clear hs6
    have g6 : ∀ m, m ≠ B → s6.heap.get m = H4.get m := fun m hm => by rw [e6h, hg_far hB1 hm]
    refine ⟨by omega, (unseen (seen ++ [e.born]) es).length, by rw [hu2, hu3, List.length_append]; omega, _, seen ++ [e.born], acc ++ [f], la ++ lb, sv4, rfl, ?_, ?_, ?_, by rw [List.length_append]; simp; omega, by rw [g6 _ (by omega)]; exact G4, by rw [g6 _ (by omega)]; exact I4, ⟨c5, by rw [e6h]; exact hg_same hB1 _ _, row5⟩, A4.keep (by show N4 ≤ _; omega) (fun m _ hm => g6 m (by omega)), o4, fun j hj hjB => by rw [g6 j hjB]; exact R4 j hj hjB, rfl, by rw [hu2]; exact he1.app he2, ?_⟩
    · simp (disch := decide) only [gps, gpn, h3]
    · simp (disch := decide) only [gps, gpn, h6]
    · simp (disch := decide) only [gps, gpn, h51]
    · refine List.Perm.trans ?_ hperm
      rw [hlu, List.append_assoc]
      refine List.Perm.append_left acc ?_
      show ([f] ++ (la ++ lb)).Perm (la ++ ([f] ++ lb))
      rw [← List.append_assoc, ← List.append_assoc]
      exact List.Perm.append_right lb List.perm_append_comm
end Go.Proofs.YtgofanjbhbeniaaDoor.lf
end
end

section
/- Catalogs made anew: catalog.With from its first step to its last. -/
noncomputable section
namespace Go.Proofs.YtgofanjbhbeniaaDoor.lf
open AE
set_option linter.unusedSimpArgs false
set_option linter.unusedVariables false
set_option maxRecDepth 10000

/-- nothing to sort -/
def sort0A (g : FuncId) : List Value → AM Value
  | [.slice none 0 0, .func (.func f) ⟨[]⟩ ⟨[]⟩] => when (Nat.beq f g) (.pure (.tuple ⟨[]⟩))
  | _ => .fail
set_option maxHeartbeats 100000000 in
theorem sort0_ev : evV E (sumsOf []) 400 31 [.slice none 0 0, .func (.func 32) ⟨[]⟩ ⟨[]⟩] = some (.tuple ⟨[]⟩) := by kernel_rfl
theorem plain_nilS : Plain (.slice none 0 0) := ⟨fun ρ => .flat rfl, fun ρ v' h => h.sliceN_inv.1⟩
theorem plain_fun (f : FuncId) : Plain (.func (.func f) ⟨[]⟩ ⟨[]⟩) := ⟨fun ρ => .flat rfl, fun ρ v' h => by
  cases h with
  | flat _ => rfl
  | func x y => cases x; cases y; rfl⟩
theorem told_sort0 : AE.Told Tryd.prog 31 (sort0A 32) := by
  refine told_pure hE hmix tolds_nil ?_
  intro args s v s' h
  unfold sort0A at h
  split at h
  · rename_i f
    obtain ⟨hf, h2⟩ := run_when h
    have hf2 := beq_iff.1 hf
    subst hf2
    cases h2
    refine ⟨plain_tuple (fun v hv => by cases hv), Less'.refl _, fun a ha => ?_, 400, sort0_ev⟩
    simp only [List.mem_cons, List.not_mem_nil, or_false] at ha
    rcases ha with rfl | rfl
    · exact plain_nilS
    · exact plain_fun _
  · cases h
def sortXA (g : FuncId) (args : List Value) : AM Value := match args with
  | .slice none _ _ :: _ => sort0A g args
  | _ => sortA g args
theorem told_sortX : AE.Told Tryd.prog 31 (sortXA 32) := by
  refine AE.told_two told_sort0 told_sortF ?_
  intro args s v s' h
  unfold sortXA at h
  split at h
  · exact .inl ⟨s', h, Less'.refl _⟩
  · exact .inr ⟨s', h, Less'.refl _⟩

def newM (fs ps : List FileD) (gs : List Int) : List FileD := ps.foldl putM (gs.foldl delM (fs.foldl putM []))
def withD (D : CatD) (ps : List FileD) (gs : List Int) : CatD := { D with files := sortN (newM D.files ps gs) }
theorem fold_put : ∀ (ps l : List FileD), ND l → ND (ps.foldl putM l) ∧ (ps.foldl putM l).length ≤ l.length + ps.length
  | [], l, h => ⟨h, Nat.le_refl _⟩
  | f :: ps, l, h => by
    obtain ⟨h1, h2⟩ := fold_put ps (putM l f) (putM_nd l f h)
    have := putM_len l f
    exact ⟨h1, by simp only [List.foldl_cons, List.length_cons]; omega⟩
theorem fold_del : ∀ (gs : List Int) (l : List FileD), ND l → ND (gs.foldl delM l) ∧ (gs.foldl delM l).length ≤ l.length
  | [], l, h => ⟨h, Nat.le_refl _⟩
  | f :: gs, l, h => by
    obtain ⟨h1, h2⟩ := fold_del gs (delM l f) (delM_nd l f h)
    have := delM_len l f
    exact ⟨h1, by simp only [List.foldl_cons]; omega⟩
theorem newM_nd (fs ps : List FileD) (gs : List Int) : ND (newM fs ps gs) ∧ (newM fs ps gs).length ≤ fs.length + ps.length := by
  obtain ⟨a1, a2⟩ := fold_put fs [] List.nodup_nil
  obtain ⟨b1, b2⟩ := fold_del gs _ a1
  obtain ⟨c1, c2⟩ := fold_put ps _ b1
  simp only [List.length_nil] at a2
  exact ⟨c1, by unfold newM; omega⟩

/-- a slice of files, be there any or none -/
def FilesAt (s : S) (sv : Value) (l : List FileD) : Prop :=
  (l = [] ∧ sv = .slice none 0 0) ∨ ∃ r c, r < s.next ∧ l ≠ [] ∧ sv = .slice (some ⟨r, 0, none⟩) l.length (Nat.add OPEN l.length) ∧ s.heap.get r = some (.cells c (4 * l.length) 41 .loose) ∧ Row c 0 (fcs l)
def PostWith (D : CatD) (v : Value) (s : S) : Prop := ∃ sv, v = .agg ⟨catV D sv⟩ ∧ FilesAt s sv D.files
theorem resCW : fiCW.results = [.cell 6 27] := rfl
abbrev sigCW : List (Nat × (List Value → AM Value)) := [(31, sortXA 32)]
theorem tolds_CW : Tolds Tryd.prog (sumsOf sigCW) := tolds_cons told_sortX tolds_nil
theorem scSort : sumsOf sigCW 31 = some (sortXA 32) := rfl
theorem tgSort : ∀ a b, targetA E (.func 31) a b = .pure (.enter 31 (b ++ a)) := tgt (fi := FI.of Tryd.f31) (c := bodyOf Tryd.f31) (by kernel_rfl) (by kernel_rfl)
/-- what was put one behind the other is sorted -/
theorem sortX_run {s : S} {lo : Nat} {sv : Value} {acc l : List FileD} (hA : AccAt s lo sv acc) (hn : ND l) (hp : acc.Perm l) (hmax : acc.length ≤ 100000) (hnext : s.next ≤ 100000000) :
    ∃ s1, (sortXA 32 [sv, .func (.func 32) ⟨[]⟩ ⟨[]⟩]).run s = some (.tuple ⟨[]⟩, s1) ∧ s1.next = s.next ∧ s1.mark = s.mark ∧ FilesAt s1 sv (sortN l) ∧ ∀ m, m < lo → s1.heap.get m = s.heap.get m := by
  have hsame := sortN_same hn hp
  rcases hA with ⟨rfl, rfl⟩ | ⟨r, c, h1, h2, h3, rfl, rfl, hg⟩
  · refine ⟨s, rfl, rfl, rfl, .inl ⟨?_, rfl⟩, fun _ _ => rfl⟩
    rw [← hsame]
    have := sortN_len []
    exact List.eq_nil_of_length_eq_zero this
  · have hr : Nat.ble r lastName = true := ble_iff.2 (by unfold lastName; omega)
    have hnd := ndB_iff.2 (nd_perm hp.symm hn)
    have hcl : Cl s r 0 (fcs acc) := ⟨h2, _, _, .inl ⟨_, _, hg⟩, by rw [fcs_len]; omega, row_ofList _ (by rw [fcs_len]; unfold Tr.wide; omega)⟩
    have hl := sortN_len acc
    have e : (sortXA 32 [.slice (some ⟨r, 0, none⟩) acc.length (Nat.add OPEN acc.length), .func (.func 32) ⟨[]⟩ ⟨[]⟩]).run s = some (.tuple ⟨[]⟩, ((s.seen r).seen r).turn r (some (.cells (wrCells (Tr.ofList (fcs acc)) 0 (fcs (sortN acc))) (4 * acc.length) 41 .loose))) := by
      show (when (Nat.beq 32 32) (loadA ⟨r, 0, none⟩ (4 * acc.length) fun l => opt (filesOf l) fun fs => when (ndB fs) (storeA ⟨r, 0, none⟩ (fcs (sortN fs)) (.pure (Value.tuple ⟨[]⟩))))).run s = _
      rw [show Nat.beq 32 32 = true from rfl]
      simp only [when]
      have e1 := cl_load hcl (fun l => opt (filesOf l) fun fs => when (ndB fs) (storeA ⟨r, 0, none⟩ (fcs (sortN fs)) (.pure (Value.tuple ⟨[]⟩))))
      rw [fcs_len] at e1
      simp only [when] at e1
      rw [e1, filesOf_fcs]
      simp only [opt, hnd]
      rw [storeA_run (s := s.seen r) _ (fcs_one _) h2 hr hg (by rw [fcs_len, hl]; omega) (by omega)]
      rfl
    refine ⟨_, e, rfl, rfl, .inr ⟨r, wrCells (Tr.ofList (fcs acc)) 0 (fcs (sortN acc)), h2, ?_, ?_, ?_, ?_⟩, fun m hm => hg_far hr (by omega) _ _⟩
    · rw [← hsame]
      intro h0
      have : (sortN acc).length = 0 := by rw [h0]; rfl
      exact h3 (List.eq_nil_of_length_eq_zero (by omega))
    · rw [← hsame, hl]
    · rw [← hsame, hl]; exact hg_same hr _ _
    · rw [← hsame]
      exact row_wr (by rw [fcs_len, hl]; unfold Tr.wide; omega)
end Go.Proofs.YtgofanjbhbeniaaDoor.lf
end
end

section
/- Catalogs made anew: catalog.With walked. -/
noncomputable section
namespace Go.Proofs.YtgofanjbhbeniaaDoor.lf
open AE
set_option linter.unusedSimpArgs false
set_option linter.unusedVariables false
set_option maxRecDepth 10000

theorem unseen_none : ∀ es : List MapEntry, unseen [] es = es
  | [] => rfl
  | x :: l => by simp only [unseen, memN, unseen_none l]
theorem vx_lt {s : S} {a : Option Addr} {L : List Value} (h : Vx s a L) : ∀ ad, a = some ad → ad.block < s.next := by
  rintro ad rfl
  exact h.2.lt
theorem vx_keep {s s1 : S} {a : Option Addr} {L : List Value} (h : Vx s a L) (hn : s.next ≤ s1.next) (hg : ∀ m, m < s.next → s1.heap.get m = s.heap.get m) : Vx s1 a L := by
  cases a with
  | none => exact h
  | some ad => exact ⟨h.1, h.2.keep hn (hg _ h.2.lt)⟩
set_option maxHeartbeats 4000000 in
theorem with_gow (q : Free) (hq : 1000000 ≤ q.hi) (D : CatD) (a a2 a3 : Option Addr) (cap c2 c3 : Nat) (ps : List FileD) (gs : List Int) (sI : S) (hn : sI.next ≤ 3) (h1 : D.files.length ≤ 1000) (h2 : ps.length ≤ 1000) (h3 : gs.length ≤ 1000)
    (V1 : Vx sI a (fcs D.files)) (V2 : Vx sI a2 (fcs ps)) (V3 : Vx sI a3 (icsL gs)) (t0 : Tr Value) (o0 : t0.get 0 = some (.agg ⟨catV D (.slice a D.files.length cap)⟩)) (o1 : t0.get 1 = some (.slice a2 ps.length c2)) (o2 : t0.get 2 = some (.slice a3 gs.length c3)) :
    GoW Tryd.prog q cdCW ⟨18, t0, 66, [], none⟩ sI (Ret E 18 fiCW (PostWith (withD D ps gs))) := by
  obtain ⟨H, B, mk, rd, wr⟩ := sI
  simp only at hn
  have hlen9 : ∀ sv, Nat.ble (catV D sv).length lastName = true := fun sv => rfl
  have hB0 : Nat.ble B lastName = true := ble_iff.2 (by unfold lastName; omega)
  have hB1 : Nat.ble (Nat.succ B) lastName = true := ble_iff.2 (by unfold lastName; omega)
  have hB2 : Nat.ble (Nat.succ (Nat.succ B)) lastName = true := ble_iff.2 (by unfold lastName; omega)
  have W1 := vx_lt V1
  have W2 := vx_lt V2
  have W3 := vx_lt V3
  simp only [cdCW, Tryd.f18, bodyOf]
  apply gow_seq
  apply gow_of hE hmix tolds_nil
  repeat apply go_seq
  apply go_region
  case h => intro m; simp (maxSteps := 2000000) (disch := decide) only [opsLoop, evOper, wantedA, nth, aop, aPick, aBin, aIndexAddr, aFieldAddr, aLoad, aStore, aExtract, aConvert, aAlloc, aBox, aIndex, callA, builtinA, Fr.evs, opt, val, when, AM.run, outV, newA, ptr, force_eq, seen_heap, seen_next, seen_mark, seen_seen, agg_cells, int_cells, Fr.ev, Fr.put, onFr, gps, gpn, bltT, still, flat, List.append_nil, List.nil_append, List.cons_append, Nat.reduceEqDiff, ne_eq, not_false_eq_true, reduceCtorEq, Bool.and_true, Bool.true_and, Bool.and_false, Bool.false_and, Bool.not_true, Bool.not_false, Bool.and_self, o0, hlen9, hB0, hB1, tyC, zeC, show Nat.ble ([Value.int .i64 0, .int .i64 0, .int .i64 0, .bool false, .int .i64 0, .int .i64 0, .int .i64 0, .int .i64 0, .slice none 0 0] : List Value).length lastName = true from rfl]; rfl
  refine ⟨by show B + 2 ≤ _; omega, ?_⟩
  show GoW _ _ _ _ _ _
  apply gow_seq
  apply gow_of hE hmix tolds_nil
  repeat apply go_seq
  apply go_region
  case h => intro m; simp (maxSteps := 2000000) (disch := decide) only [opsLoop, evOper, wantedA, nth, aop, aPick, aBin, aIndexAddr, aFieldAddr, aLoad, aStore, aExtract, aConvert, aAlloc, aBox, aIndex, callA, builtinA, Fr.evs, opt, val, when, AM.run, outV, newA, ptr, force_eq, seen_heap, seen_next, seen_mark, seen_seen, agg_cells, int_cells, Fr.ev, Fr.put, onFr, gps, gpn, bltT, still, flat, List.append_nil, List.nil_append, List.cons_append, Nat.reduceEqDiff, ne_eq, not_false_eq_true, reduceCtorEq, Bool.and_true, Bool.true_and, Bool.and_false, Bool.false_and, Bool.not_true, Bool.not_false, Bool.and_self, aMakeMap, hB2]; rfl
  generalize hs3 : S.mk _ _ _ _ _ = s3
  have e3 : s3.next = B + 3 := by rw [← hs3]
  have e3h : s3.heap = ((H.put B (some (.cells (Tr.ofList (catV D (.slice a D.files.length cap))) (catV D (.slice a D.files.length cap)).length 27 .whole))).put (Nat.succ B) (some (.cells (Tr.ofList [Value.int .i64 0, .int .i64 0, .int .i64 0, .bool false, .int .i64 0, .int .i64 0, .int .i64 0, .int .i64 0, .slice none 0 0]) (List.length [Value.int .i64 0, .int .i64 0, .int .i64 0, .bool false, .int .i64 0, .int .i64 0, .int .i64 0, .int .i64 0, .slice none 0 0]) 27 .whole))).put (Nat.succ (Nat.succ B)) (some (.map [] 0)) := by rw [← hs3]
  clear hs3
  have K0 : ∀ m, m < B → s3.heap.get m = H.get m := fun m hm => by rw [e3h, hg_far hB2 (by omega), hg_far hB1 (by omega), hg_far hB0 (by omega)]
  have C3 : CatAt s3 B D (.slice a D.files.length cap) := ⟨Tr.ofList (catV D (.slice a D.files.length cap)), by rw [e3h, hg_far hB2 (by omega), hg_far hB1 (by omega)]; exact hg_same hB0 _ _, row_ofList _ (by unfold Tr.wide; simp [catV])⟩
  have R3 : s3.heap.get (B + 1) = some (.cells (Tr.ofList [Value.int .i64 0, .int .i64 0, .int .i64 0, .bool false, .int .i64 0, .int .i64 0, .int .i64 0, .int .i64 0, .slice none 0 0]) 9 27 .whole) := by
    rw [e3h, hg_far hB2 (by omega)]; exact hg_same hB1 _ _
  have M3 : MW s3 s3 B [] := ⟨⟨[], 0, by rw [e3h]; exact hg_same hB2 _ _, .nil, ⟨List.nodup_nil, fun e he => by cases he⟩⟩, fun _ _ => rfl⟩
  clear e3h
  have V1' : Vx s3 a (fcs D.files) := vx_keep V1 (by show B ≤ _; omega) K0
  have V2' : Vx s3 a2 (fcs ps) := vx_keep V2 (by show B ≤ _; omega) K0
  have V3' : Vx s3 a3 (icsL gs) := vx_keep V3 (by show B ≤ _; omega) K0
  refine ⟨by omega, ?_⟩
  show GoW _ _ _ _ _ _
  -- the files that were
  apply gow_seq
  apply gow_of hE hmix tolds_nil
  have C3c := C3.cl (by omega)
  have hs3e : s3 = ⟨s3.heap, s3.next, s3.mark, s3.rd, s3.wr⟩ := rfl
  have l8 := Cl.ld (H := s3.heap) (N := s3.next) (mk := s3.mark) (r0 := s3.rd) (w0 := s3.wr) (k := 8) (v := .slice a D.files.length cap) tiFs (by rw [dsFs]; rfl) C3c rfl
  simp only [Nat.zero_add] at l8
  have ad8 : addA ⟨B, 0, none⟩ 8 = ⟨B, 8, none⟩ := rfl
  rw [hs3e]
  repeat apply go_seq
  apply go_region
  case h => intro m; simp (maxSteps := 2000000) (disch := decide) only [opsLoop, evOper, wantedA, nth, aop, aPick, aBin, aIndexAddr, aFieldAddr, aLoad, aStore, aExtract, aConvert, aAlloc, aBox, aIndex, callA, builtinA, Fr.evs, opt, val, when, AM.run, outV, newA, ptr, force_eq, seen_heap, seen_next, seen_mark, seen_seen, agg_cells, int_cells, Fr.ev, Fr.put, onFr, gps, gpn, bltT, still, flat, List.append_nil, List.nil_append, List.cons_append, Nat.reduceEqDiff, ne_eq, not_false_eq_true, reduceCtorEq, Bool.and_true, Bool.true_and, Bool.and_false, Bool.false_and, Bool.not_true, Bool.not_false, Bool.and_self, tyC, dsC, flC5, ftC5, foC5, tyFs, dsFs, szFs, ble11, ad8, l8]; rfl
  generalize hs4 : S.mk _ _ _ _ _ = s4
  have e4 : s4.heap = s3.heap ∧ s4.next = s3.next := by rw [← hs4]; exact ⟨rfl, rfl⟩
  clear hs4 l8 hs3e
  have M4 : MW s3 s4 B [] := by
    obtain ⟨⟨es, cl, m1, m2, m3⟩, m4⟩ := M3
    exact ⟨⟨es, cl, by rw [e4.1]; exact m1, m2, m3⟩, fun j hj => by rw [e4.1]⟩
  apply go_block
  refine (go_loop_inv (body := cdW1) (InvW1 s3 B (B + 3) (.slice a2 ps.length c2) (.slice a3 gs.length c3) [] a cap D.files) (fun k fr s hI => with_round1 s3 B (B + 3) _ _ [] a cap D.files (by omega) (by omega) (by omega) (by omega) V1' (fun ad e => by have := W1 ad e; show _ < B + 2; have h : ad.block < B := this; omega) k fr s hI) (D.files.length - 0) _ _ ⟨0, _, rfl, by omega, rfl, ⟨?_, ?_, ?_, ?_, ?_⟩, ?_, ?_, ?_, by omega, M4⟩).mono ?_
  · simp (disch := decide) only [gps, gpn, o1]
  · simp (disch := decide) only [gps, gpn, o2]
  · simp (disch := decide) only [gps, gpn]
  · simp (disch := decide) only [gps, gpn]
  · simp (disch := decide) only [gps, gpn]
  · simp (disch := decide) only [gps, gpn]
  · simp (disch := decide) only [gps, gpn]
  · simp (disch := decide) only [gps, gpn, int0]
  rintro x fr s5 ⟨rfl, t5, rfl, K5, n5, M5⟩
  simp only [Out_, if_true]
  refine ⟨by omega, ?_⟩
  show GoW _ _ _ _ _ _
  -- those that are gone
  apply gow_seq
  apply gow_of hE hmix tolds_nil
  obtain ⟨k51, k52, k53, k56, k57⟩ := K5
  repeat apply go_seq
  apply go_region
  case h => intro m; simp (maxSteps := 2000000) (disch := decide) only [opsLoop, evOper, wantedA, nth, aop, aPick, aBin, aIndexAddr, aFieldAddr, aLoad, aStore, aExtract, aConvert, aAlloc, aBox, aIndex, callA, builtinA, Fr.evs, opt, val, when, AM.run, outV, newA, ptr, force_eq, seen_heap, seen_next, seen_mark, seen_seen, agg_cells, int_cells, Fr.ev, Fr.put, onFr, gps, gpn, bltT, still, flat, List.append_nil, List.nil_append, List.cons_append, Nat.reduceEqDiff, ne_eq, not_false_eq_true, reduceCtorEq, Bool.and_true, Bool.true_and, Bool.and_false, Bool.false_and, Bool.not_true, Bool.not_false, Bool.and_self, k52, tyIs, dsIs]; rfl
  apply go_block
  refine (go_loop_inv (body := cdW2) (InvW2 s3 B (B + 3 + D.files.length) (.slice a2 ps.length c2) (.slice a3 gs.length c3) (D.files.foldl putM []) a3 c3 gs) (fun k fr s hI => with_round2 s3 B _ _ _ _ a3 c3 gs (by omega) (by omega) (by omega) (by omega) V3' (fun ad e => by have h : ad.block < B := W3 ad e; omega) k fr s hI) (gs.length - 0) _ _ ⟨0, _, rfl, by omega, rfl, ⟨?_, ?_, ?_, ?_, ?_⟩, ?_, ?_, ?_, n5, M5⟩).mono ?_
  · simp (disch := decide) only [gps, gpn, k51]
  · simp (disch := decide) only [gps, gpn, k52]
  · simp (disch := decide) only [gps, gpn, k53]
  · simp (disch := decide) only [gps, gpn, k56]
  · simp (disch := decide) only [gps, gpn, k57]
  · simp (disch := decide) only [gps, gpn]
  · simp (disch := decide) only [gps, gpn]
  · simp (disch := decide) only [gps, gpn, int0]
  rintro x fr s6 ⟨rfl, t6, rfl, K6, n6, M6⟩
  simp only [Out_, if_true]
  refine ⟨by omega, ?_⟩
  show GoW _ _ _ _ _ _
  -- those that are put
  apply gow_seq
  apply gow_of hE hmix tolds_nil
  obtain ⟨k61, k62, k63, k66, k67⟩ := K6
  repeat apply go_seq
  apply go_region
  case h => intro m; simp (maxSteps := 2000000) (disch := decide) only [opsLoop, evOper, wantedA, nth, aop, aPick, aBin, aIndexAddr, aFieldAddr, aLoad, aStore, aExtract, aConvert, aAlloc, aBox, aIndex, callA, builtinA, Fr.evs, opt, val, when, AM.run, outV, newA, ptr, force_eq, seen_heap, seen_next, seen_mark, seen_seen, agg_cells, int_cells, Fr.ev, Fr.put, onFr, gps, gpn, bltT, still, flat, List.append_nil, List.nil_append, List.cons_append, Nat.reduceEqDiff, ne_eq, not_false_eq_true, reduceCtorEq, Bool.and_true, Bool.true_and, Bool.and_false, Bool.false_and, Bool.not_true, Bool.not_false, Bool.and_self, k61, tyFs, dsFs]; rfl
  apply go_block
  refine (go_loop_inv (body := cdW3) (InvW3 s3 B (B + 3 + D.files.length) (.slice a2 ps.length c2) (.slice a3 gs.length c3) (gs.foldl delM (D.files.foldl putM [])) a2 c2 ps) (fun k fr s hI => with_round3 s3 B _ _ _ _ a2 c2 ps (by omega) (by omega) (by omega) (by omega) V2' (fun ad e => by have h : ad.block < B := W2 ad e; omega) k fr s hI) (ps.length - 0) _ _ ⟨0, _, rfl, by omega, rfl, ⟨?_, ?_, ?_, ?_, ?_⟩, ?_, ?_, ?_, n6, M6⟩).mono ?_
  · simp (disch := decide) only [gps, gpn, k61]
  · simp (disch := decide) only [gps, gpn, k62]
  · simp (disch := decide) only [gps, gpn, k63]
  · simp (disch := decide) only [gps, gpn, k66]
  · simp (disch := decide) only [gps, gpn, k67]
  · simp (disch := decide) only [gps, gpn]
  · simp (disch := decide) only [gps, gpn]
  · simp (disch := decide) only [gps, gpn, int0]
  rintro x fr s7 ⟨rfl, t7, rfl, K7, n7, M7⟩
  simp only [Out_, if_true]
  refine ⟨by omega, ?_⟩
  show GoW _ _ _ _ _ _
  obtain ⟨k71, k72, k73, k76, k77⟩ := K7
  obtain ⟨⟨es, clock, m71, m72, m73⟩, m74⟩ := M7
  have hnew : ps.foldl putM (gs.foldl delM (D.files.foldl putM [])) = newM D.files ps gs := rfl
  rw [hnew] at m72
  obtain ⟨hnd, hnl⟩ := newM_nd D.files ps gs
  generalize newM D.files ps gs = l at *
  have C7 : CatAt s7 B D (.slice a D.files.length cap) := C3.keep (m74 _ (by omega))
  have R7 : s7.heap.get (B + 1) = s3.heap.get (B + 1) := m74 _ (by omega)
  rw [R3] at R7
  clear M3 M4 M5 M6 C3 R3 C3c V1' V2' V3' m74 K0 e4
  -- no files yet
  apply gow_seq
  apply gow_of hE hmix tolds_nil
  obtain ⟨H7, N7, mk7, rd7, wr7⟩ := s7
  simp only at n7 m71 R7
  obtain ⟨c8, st8, row8⟩ := cat_store (sv1 := .slice none 0 0) C7 (by omega) (by omega) rfl
  repeat apply go_seq
  apply go_region
  case h => intro m; simp (maxSteps := 2000000) (disch := decide) only [opsLoop, evOper, wantedA, nth, aop, aPick, aBin, aIndexAddr, aFieldAddr, aLoad, aStore, aExtract, aConvert, aAlloc, aBox, aIndex, callA, builtinA, Fr.evs, opt, val, when, AM.run, outV, newA, ptr, force_eq, seen_heap, seen_next, seen_mark, seen_seen, agg_cells, int_cells, Fr.ev, Fr.put, onFr, gps, gpn, bltT, still, flat, List.append_nil, List.nil_append, List.cons_append, Nat.reduceEqDiff, ne_eq, not_false_eq_true, reduceCtorEq, Bool.and_true, Bool.true_and, Bool.and_false, Bool.false_and, Bool.not_true, Bool.not_false, Bool.and_self, k73, tyC, dsC, flC5, ftC5, foC5, tyFs, dsFs, szFs, ble11, ad8, show (Value.slice none 0 0).cells.toList = [Value.slice none 0 0] from rfl, show Nat.beq ([Value.slice none 0 0] : List Value).length 1 = true from rfl, st8]; rfl
  generalize hs8 : S.mk _ _ _ _ _ = s8
  have e8 : s8.next = N7 := by rw [← hs8]
  have e8h : s8.heap = H7.put B (some (.cells c8 9 27 .whole)) := by rw [← hs8]
  clear hs8 st8
  have C8 : CatAt s8 B D (.slice none 0 0) := ⟨c8, by rw [e8h]; exact hg_same hB0 _ _, row8⟩
  have R8 : s8.heap.get (B + 1) = some (.cells (Tr.ofList [Value.int .i64 0, .int .i64 0, .int .i64 0, .bool false, .int .i64 0, .int .i64 0, .int .i64 0, .int .i64 0, .slice none 0 0]) 9 27 .whole) := by rw [e8h, hg_far hB0 (by omega)]; exact R7
  have m81 : s8.heap.get (B + 2) = some (.map es clock) := by rw [e8h, hg_far hB0 (by omega)]; exact m71
  clear e8h C7 R7 m71 row8
  refine ⟨by omega, ?_⟩
  show GoW _ _ _ _ _ _
  -- along the map
  apply gow_seq
  apply gow_seq
  apply gow_of hE hmix tolds_nil
  obtain ⟨H8, N8, mk8, rd8, wr8⟩ := s8
  simp only at e8 m81 R8
  have hN8 : Nat.ble N8 lastName = true := ble_iff.2 (by unfold lastName; omega)
  have hM8 : Nat.blt (B + 2) N8 = true := blt_iff.2 (by omega)
  repeat apply go_seq
  apply go_region
  case h => intro m; simp (maxSteps := 2000000) (disch := decide) only [opsLoop, evOper, wantedA, nth, aop, aPick, aBin, aIndexAddr, aFieldAddr, aLoad, aStore, aExtract, aConvert, aAlloc, aBox, aIndex, callA, builtinA, Fr.evs, opt, val, when, AM.run, outV, newA, ptr, force_eq, seen_heap, seen_next, seen_mark, seen_seen, agg_cells, int_cells, Fr.ev, Fr.put, onFr, gps, gpn, bltT, still, flat, List.append_nil, List.nil_append, List.cons_append, Nat.reduceEqDiff, ne_eq, not_false_eq_true, reduceCtorEq, Bool.and_true, Bool.true_and, Bool.and_false, Bool.false_and, Bool.not_true, Bool.not_false, Bool.and_self, k77, aRange, tyM, dsM, hM8, m81, hN8]; rfl
  generalize hs9 : S.mk _ _ _ _ _ = s9
  have e9 : s9.next = N8 + 1 := by rw [← hs9]
  have e9h : s9.heap = H8.put N8 (some (.mapIter (some (B + 2)) clock [] clock)) := by rw [← hs9]
  clear hs9
  have C9 : CatAt s9 B D (.slice none 0 0) := C8.keep (by rw [e9h]; exact hg_far hN8 (by omega) _ _)
  have R9 : s9.heap.get (B + 1) = some (.cells (Tr.ofList [Value.int .i64 0, .int .i64 0, .int .i64 0, .bool false, .int .i64 0, .int .i64 0, .int .i64 0, .int .i64 0, .slice none 0 0]) 9 27 .whole) := by rw [e9h, hg_far hN8 (by omega)]; exact R8
  have m91 : s9.heap.get (B + 2) = some (.map es clock) := by rw [e9h, hg_far hN8 (by omega)]; exact m81
  have i9 : s9.heap.get N8 = some (.mapIter (some (B + 2)) clock [] clock) := by rw [e9h]; exact hg_same hN8 _ _
  clear e9h C8 R8 m81
  refine ⟨by omega, ?_⟩
  show GoW _ _ _ _ _ _
  apply gow_block
  refine (gow_loop_inv (body := cdW4) (InvWr s9 B N8 (N8 + 1) D l es clock) (fun k fr s hI => range_round q s9 B N8 (N8 + 1) D l es clock (by omega) (by omega) (by omega) (by omega) m73 (by omega) k fr s hI) (unseen [] es).length _ _ ⟨_, [], [], l, .slice none 0 0, rfl, ?_, ?_, ?_, by simp; omega, m91, i9, C9, .inl ⟨rfl, rfl⟩, rfl, fun _ _ _ => rfl, rfl, by rw [unseen_none]; exact m72, List.Perm.refl _⟩).mono ?_
  · simp (disch := decide) only [gps, gpn, k73]
  · simp (disch := decide) only [gps, gpn, k76]
  · simp (disch := decide) only [gps, gpn]
  rintro x fr s10 ⟨rfl, t10, acc, sv, rfl, p3, p6, n10, C10, A10, o10, f10, hperm⟩
  simp only [Out_, if_true]
  show GoW _ _ _ _ _ _
  have R10 : s10.heap.get (B + 1) = some (.cells (Tr.ofList [Value.int .i64 0, .int .i64 0, .int .i64 0, .bool false, .int .i64 0, .int .i64 0, .int .i64 0, .int .i64 0, .slice none 0 0]) 9 27 .whole) := by rw [f10 _ (by omega) (by omega)]; exact R9
  have hal := hperm.length_eq
  -- sorted
  obtain ⟨s11, r11, n11, mk11, F11, f11⟩ := sortX_run (s := s10.seen B) (A10.keep (s1 := s10.seen B) (Nat.le_refl _) (fun _ _ _ => rfl)) hnd hperm (by omega) (by show s10.next ≤ _; omega)
  have n11' : s11.next = s10.next := n11
  have C11 : CatAt s11 B D sv := C10.keep (f11 _ (by omega))
  have R11 : s11.heap.get (B + 1) = s10.heap.get (B + 1) := f11 _ (by omega)
  rw [R10] at R11
  apply gow_of hE hmix tolds_CW
  have l10 := cl_one (β := ANext) (k := 8) (v := sv) tiFs (by rw [dsFs]; rfl) (C10.cl (s := s10) (by omega)) rfl val
  simp only [Nat.zero_add] at l10
  repeat apply go_seq
  apply go_region
  case h => intro m; simp (maxSteps := 2000000) (disch := decide) only [opsLoop, evOper, wantedA, nth, aop, aPick, aBin, aIndexAddr, aFieldAddr, aLoad, aStore, aExtract, aConvert, aAlloc, aBox, aIndex, callA, builtinA, Fr.evs, opt, val, when, AM.run, outV, newA, ptr, force_eq, seen_heap, seen_next, seen_mark, seen_seen, agg_cells, int_cells, Fr.ev, Fr.put, onFr, gps, gpn, bltT, still, flat, List.append_nil, List.nil_append, List.cons_append, Nat.reduceEqDiff, ne_eq, not_false_eq_true, reduceCtorEq, Bool.and_true, Bool.true_and, Bool.and_false, Bool.false_and, Bool.not_true, Bool.not_false, Bool.and_self, p3, tyC, dsC, flC5, ftC5, foC5, tyFs, dsFs, szFs, ble11, ad8, l10, tgSort, evT_told scSort, r11]; rfl
  clear r11 l10 C10 R10 f10 f11 A10
  obtain ⟨H11, N11, mk11', rd11, wr11⟩ := s11
  simp only at n11' R11
  have l11 := (C11.cl (by show B < N11; omega)).ldA (β := ANext) tiC (by rw [dsC]; rfl) (by rw [szC]; rfl)
  have st12 : ∀ rd wr, (storeA ⟨B + 1, 0, none⟩ (catV D sv) (AM.pure (ANext.value undefV))).run ⟨H11, N11, mk11', rd, wr⟩ = some (.value undefV, ⟨H11.put (B + 1) (some (.cells (wrCells (Tr.ofList [Value.int .i64 0, .int .i64 0, .int .i64 0, .bool false, .int .i64 0, .int .i64 0, .int .i64 0, .int .i64 0, .slice none 0 0]) 0 (catV D sv)) 9 27 .whole)), N11, mk11', bit mk11' (B + 1) rd, bit mk11' (B + 1) wr⟩) := by
    intro rd wr
    have ho : allOne (catV D sv) = true := by
      show (match oneB sv with | true => true | false => false) = true
      rw [o10]
    rw [storeA_run (s := ⟨H11, N11, mk11', rd, wr⟩) _ ho (by show B + 1 < N11; omega) hB1 R11 (by simp [catV]) (by omega)]
    rfl
  repeat apply go_seq
  apply go_region
  case h => intro m; simp (maxSteps := 2000000) (disch := decide) only [opsLoop, evOper, wantedA, nth, aop, aPick, aBin, aIndexAddr, aFieldAddr, aLoad, aStore, aExtract, aConvert, aAlloc, aBox, aIndex, callA, builtinA, Fr.evs, opt, val, when, AM.run, outV, newA, ptr, force_eq, seen_heap, seen_next, seen_mark, seen_seen, agg_cells, int_cells, Fr.ev, Fr.put, onFr, gps, gpn, bltT, still, flat, List.append_nil, List.nil_append, List.cons_append, Nat.reduceEqDiff, ne_eq, not_false_eq_true, reduceCtorEq, Bool.and_true, Bool.true_and, Bool.and_false, Bool.false_and, Bool.not_true, Bool.not_false, Bool.and_self, p3, p6, tyC, szC, dsC, l11, show Nat.beq (catV D sv).length 9 = true from rfl, st12]; rfl
  generalize hs13 : S.mk _ _ _ _ _ = s13
  have e13 : s13.next = N11 := by rw [← hs13]
  have e13h : s13.heap = H11.put (B + 1) (some (.cells (wrCells (Tr.ofList [Value.int .i64 0, .int .i64 0, .int .i64 0, .bool false, .int .i64 0, .int .i64 0, .int .i64 0, .int .i64 0, .slice none 0 0]) 0 (catV D sv)) 9 27 .whole)) := by rw [← hs13]
  clear hs13 st12 l11
  have F13 : FilesAt s13 sv (sortN l) := by
    rcases F11 with h | ⟨r, c, g1, g2, g3, g4, g5⟩
    · exact .inl h
    · refine .inr ⟨r, c, by have g1' : r < N11 := g1; omega, g2, g3, ?_, g5⟩
      rw [e13h, hg_far hB1 (fun h => ?_)]
      · exact g4
      · have g4' : H11.get r = some (.cells c (4 * (sortN l).length) 41 .loose) := g4
        rw [h, R11] at g4'
        simp at g4'
  have L13 : Cl s13 (B + 1) 0 (catV D sv) := ⟨by omega, _, 9, .inl ⟨_, _, by rw [e13h]; exact hg_same hB1 _ _⟩, by simp [catV], row_wr (by unfold Tr.wide; simp [catV])⟩
  have l13 := cl_agg (β := Value) tiC (by rw [dsC]; rfl) (by rw [szC]; rfl) L13 (fun v => .pure v)
  repeat apply go_seq
  apply go_ret
  refine ⟨by omega, ?_⟩
  apply ret_intro rfl rfl
  case run => simp (disch := decide) only [resultsM, resultsA, resCW, opsLoop, evOper, wantedA, nth, aop, aPick, aBin, aIndexAddr, aFieldAddr, aLoad, aStore, aExtract, aConvert, aAlloc, aBox, aIndex, callA, builtinA, Fr.evs, opt, val, when, AM.run, outV, newA, ptr, force_eq, seen_heap, seen_next, seen_mark, seen_seen, agg_cells, int_cells, Fr.ev, Fr.put, onFr, gps, gpn, bltT, still, flat, List.append_nil, List.nil_append, List.cons_append, Nat.reduceEqDiff, ne_eq, not_false_eq_true, reduceCtorEq, Bool.and_true, Bool.true_and, Bool.and_false, Bool.false_and, Bool.not_true, Bool.not_false, Bool.and_self, p6, tyC, l13]; rfl
  refine ⟨sv, rfl, ?_⟩
  have hfiles : (withD D ps gs).files = sortN l := congrArg sortN hnew
  rw [hfiles]
  rcases F13 with h | ⟨r, c, g1, g2, g3, g4, g5⟩
  · exact .inl h
  · exact .inr ⟨r, c, g1, g2, g3, g4, g5⟩
end Go.Proofs.YtgofanjbhbeniaaDoor.lf
end
end

section
/- Chapter 6's runs, evaluated over the named memory. -/
namespace Go.Proofs.YtgofanjbhbeniaaDoor

theorem catalogRuns_lawful : AE.lawful Tryd.prog = true := by kernel_rfl
set_option maxRecDepth 100000 in
set_option maxHeartbeats 100000000 in
theorem catalogRuns_run : AE.isTrue (AE.ev (AE.Env.of Tryd.prog) 100000 (.next (.enter 17 [])) AE.s0) = true := by kernel_rfl
theorem catalogRuns_any (w0 : World) : Calls Tryd.prog 17 #[] w0 fun e w' => e = .returned (.bool true) ∧ Go.RowKit.Below w0.heap.size w0 w' :=
  AE.calls_true catalogRuns_lawful (Checked.mixed Tryd.checked) catalogRuns_run w0
end Go.Proofs.YtgofanjbhbeniaaDoor
end
