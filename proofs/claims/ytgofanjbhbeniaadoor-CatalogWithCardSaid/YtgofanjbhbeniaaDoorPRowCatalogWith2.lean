/- slices.SortFunc and cmp.Compare as the kit's tool lay-plain.mjs has laid them at this program. -/
import Derived.Test.YtgofanjbhbeniaaDoorPRowCatalogWith1
import Derived.Shelf.SlSortCmp.WholeK
import Derived.Shelf.SlicesG.Cmp
section
/- Catalogs in leaves: catalog.Put, told for all catalogs. -/
noncomputable section
namespace Go.Proofs.YtgofanjbhbeniaaDoor.lf
open AE
set_option linter.unusedSimpArgs false
set_option linter.unusedVariables false
set_option maxRecDepth 10000

theorem rd_less {s s1 : S} (h : Rd s s1) : Less' s s1 := ⟨by rw [h.next]; exact Nat.le_refl _, fun m o ho => ⟨o, by rw [← h.heap]; exact ho, .refl o⟩⟩
theorem cat_inv {ρ : Ren} {g st su fo to bu fa : Int} {en : Bool} {sv : Value} {l' : List Value} (h : LR ρ [.int .i64 g, .int .i64 st, .int .i64 su, .bool en, .int .i64 fo, .int .i64 to, .int .i64 bu, .int .i64 fa, sv] l') :
    ∃ sv', l' = [.int .i64 g, .int .i64 st, .int .i64 su, .bool en, .int .i64 fo, .int .i64 to, .int .i64 bu, .int .i64 fa, sv'] ∧ VR ρ sv sv' := by
  cases h with
  | cons a0 h => cases h with
    | cons a1 h => cases h with
      | cons a2 h => cases h with
        | cons a3 h => cases h with
          | cons a4 h => cases h with
            | cons a5 h => cases h with
              | cons a6 h => cases h with
                | cons a7 h => cases h with
                  | cons a8 h => cases h with
                    | nil => exact ⟨_, by rw [a0.int_inv, a1.int_inv, a2.int_inv, a3.bool_inv, a4.int_inv, a5.int_inv, a6.int_inv, a7.int_inv], a8⟩
theorem cat_mk {ρ : Ren} {g st su fo to bu fa : Int} {en : Bool} {sv sv' : Value} (h : VR ρ sv sv') : VR ρ (.agg ⟨[.int .i64 g, .int .i64 st, .int .i64 su, .bool en, .int .i64 fo, .int .i64 to, .int .i64 bu, .int .i64 fa, sv]⟩)
    (.agg ⟨[.int .i64 g, .int .i64 st, .int .i64 su, .bool en, .int .i64 fo, .int .i64 to, .int .i64 bu, .int .i64 fa, sv']⟩) :=
  .agg (.cons (.flat rfl) (.cons (.flat rfl) (.cons (.flat rfl) (.cons (.flat rfl) (.cons (.flat rfl) (.cons (.flat rfl) (.cons (.flat rfl) (.cons (.flat rfl) (.cons h .nil)))))))))
/-- a catalog that is handed in, named anew -/
theorem cat_anew {q : Free} {ρ : Ren} {s : S} {w : World} (hR : Rep Tryd.prog q ρ s w) {g st su fo to bu fa : Int} {en : Bool} {a : Option Addr} {n cap : Nat} {fs : List FileD} {v' : Value} (hn : n = fs.length) (hlen : fs.length ≤ 10000) (hv : Vx s a (fcs fs))
    (h : VR ρ (.agg ⟨[.int .i64 g, .int .i64 st, .int .i64 su, .bool en, .int .i64 fo, .int .i64 to, .int .i64 bu, .int .i64 fa, .slice a n cap]⟩) v') :
    (a = none ∧ fs = [] ∧ ∀ ρ2 : Ren, VR ρ2 (.agg ⟨[.int .i64 g, .int .i64 st, .int .i64 su, .bool en, .int .i64 fo, .int .i64 to, .int .i64 bu, .int .i64 fa, .slice none n cap]⟩) v') ∨
    (∃ x : InRow, x.L = fcs fs ∧ x.In w ∧ ∀ (l : List InRow) (k : Nat), l[k]? = some x → VR (renOf l) (.agg ⟨[.int .i64 g, .int .i64 st, .int .i64 su, .bool en, .int .i64 fo, .int .i64 to, .int .i64 bu, .int .i64 fa, .slice (some ⟨k, 0, none⟩) n cap]⟩) v') := by
  obtain ⟨l', rfl, hl⟩ := h.agg_inv
  obtain ⟨sv', rfl, hsv⟩ := cat_inv hl
  cases a with
  | none =>
    obtain ⟨rfl, rfl, rfl⟩ := hsv.sliceN_inv
    refine .inl ⟨rfl, List.eq_nil_of_length_eq_zero hn.symm, fun ρ2 => cat_mk (.flat rfl)⟩
  | some ad =>
    obtain ⟨hsp, hcl⟩ := hv
    obtain ⟨b, base, ex, hρ, hmk⟩ := slice_anew hsv hsp
    obtain ⟨e, hin⟩ := inrow_of hR hcl hρ (ints_fcs fs).plain (by rw [fcs_len]; unfold Tr.wide; omega)
    exact .inr ⟨⟨b, base + ad.off, ex, fcs fs, e⟩, rfl, hin, fun l k hk => cat_mk (hmk l k _ _ hk)⟩

/-- what catalog.Put does -/
def putD (D : CatD) : List Value := match D.right with
  | true => putV_ D
  | false => zeroL.cells
end Go.Proofs.YtgofanjbhbeniaaDoor.lf
end
end

section
/- Catalogs in leaves: what catalog.Get reads out of a leaf, evaluated. -/
noncomputable section
namespace Go.Proofs.YtgofanjbhbeniaaDoor.lf
open AE
set_option linter.unusedSimpArgs false
set_option linter.unusedVariables false
set_option maxRecDepth 10000

def i64 (x : Int) : Int := wrapA .i64 x
end Go.Proofs.YtgofanjbhbeniaaDoor.lf
end
end

section
/- Catalogs in leaves: what is put in is read out. -/
noncomputable section
namespace Go.Proofs.YtgofanjbhbeniaaDoor.lf
open AE
set_option linter.unusedSimpArgs false
set_option linter.unusedVariables false
set_option maxRecDepth 10000

def U8 (l : List Value) : Prop := ∀ v ∈ l, ∃ n, v = .int .u8 n
theorem U8.app {a b : List Value} (h : U8 a) (h' : U8 b) : U8 (a ++ b) := fun v hv => (List.mem_append.1 hv).elim (h v) (h' v)
theorem U8.nil : U8 [] := fun v h => by cases h
theorem U8.cons {n : Int} {l : List Value} (h : U8 l) : U8 (.int .u8 n :: l) := fun v hv => by
  rcases List.mem_cons.1 hv with rfl | hv
  · exact ⟨n, rfl⟩
  · exact h v hv
end Go.Proofs.YtgofanjbhbeniaaDoor.lf
end
end

section
/- Catalogs in leaves: the leaf of a catalog that may be, as a leaf; catalog.Get of it, walked. -/
noncomputable section
namespace Go.Proofs.YtgofanjbhbeniaaDoor.lf
open AE
set_option linter.unusedSimpArgs false
set_option linter.unusedVariables false
set_option maxRecDepth 10000

/-- bytes as values -/
def UB (l : List Value) : Prop := ∀ v ∈ l, ∃ k : Nat, k < 256 ∧ v = .int .u8 (.ofNat k)
theorem UB.app {a b : List Value} (h : UB a) (h' : UB b) : UB (a ++ b) := fun v hv => (List.mem_append.1 hv).elim (h v) (h' v)
theorem UB.nil : UB [] := fun v h => by cases h
theorem UB.cons {v : Value} {l : List Value} (hv : ∃ k : Nat, k < 256 ∧ v = .int .u8 (.ofNat k)) (h : UB l) : UB (v :: l) := fun u hu => by
  rcases List.mem_cons.1 hu with rfl | hu
  · exact hv
  · exact h u hu
end Go.Proofs.YtgofanjbhbeniaaDoor.lf
end
end

section
/- Catalogs in leaves: catalog.Get of the leaf of a catalog that may be, walked. -/
noncomputable section
namespace Go.Proofs.YtgofanjbhbeniaaDoor.lf
open AE
set_option linter.unusedSimpArgs false
set_option linter.unusedVariables false
set_option maxRecDepth 10000

theorem bl9 {n : Nat} (h : n ≤ 100000) : Nat.ble n lastName = true := ble_iff.2 (by unfold lastName; omega)
end Go.Proofs.YtgofanjbhbeniaaDoor.lf
end
end

section
/- Catalogs in leaves: catalog.Get, told for the leaf of a catalog that may be. -/
noncomputable section
namespace Go.Proofs.YtgofanjbhbeniaaDoor.lf
open AE
set_option linter.unusedSimpArgs false
set_option linter.unusedVariables false
set_option maxRecDepth 10000

theorem slice_move {ρa ρb : Ren} {a b n c : Nat} {v' : Value} (he : ρa a = ρb b) (h : VR ρa (.slice (some ⟨a, 0, none⟩) n (OPEN + c)) v') : VR ρb (.slice (some ⟨b, 0, none⟩) n (OPEN + c)) v' := by
  generalize hcap : OPEN + c = cap at h
  cases h with
  | flat h => cases h
  | sliceW ha hc => omega
  | sliceL hr =>
    rename_i bb base ex c'
    obtain rfl : c = c' := by omega
    exact .sliceL (n := b) (off := 0) (by rw [← he]; exact hr)
end Go.Proofs.YtgofanjbhbeniaaDoor.lf
end
end

section
/- Catalogs: lists of files compared by the laws' own loop. -/
noncomputable section
namespace Go.Proofs.YtgofanjbhbeniaaDoor.lf
open AE
set_option linter.unusedSimpArgs false
set_option linter.unusedVariables false
set_option maxRecDepth 10000

instance : DecidableEq FileD := fun a b => if h : a.name = b.name ∧ a.file = b.file ∧ a.first = b.first ∧ a.blocks = b.blocks then isTrue (by cases a; cases b; simp_all) else isFalse (fun e => h (by subst e; exact ⟨rfl, rfl, rfl, rfl⟩))
theorem eqF (f g : FileD) : eqV E 1000 41 (.agg ⟨f.cells⟩) (.agg ⟨g.cells⟩) = some (decide (f = g)) := by
  obtain ⟨a, b, c, d⟩ := f
  obtain ⟨a', b', c', d'⟩ := g
  have hf : eqFs E 999 fsF.toList [.int .i64 a, .int .i64 b, .int .i64 c, .int .i64 d] [.int .i64 a', .int .i64 b', .int .i64 c', .int .i64 d'] = some (decide ((⟨a, b, c, d⟩ : FileD) = ⟨a', b', c', d'⟩)) := by
    rw [lsF]
    show eqFs E (998 + 1) _ _ _ = _
    simp only [eqFs, nmF0, nmF1, nmF2, nmF3, ftF0, ftF1, ftF2, ftF3, foF0, foF1, foF2, foF3, tyI, partK _ _ _ _ 0 _ rfl, partK _ _ _ _ 1 _ rfl, partK _ _ _ _ 2 _ rfl, partK _ _ _ _ 3 _ rfl, eqInt_any]
    by_cases h0 : a = a'
    · by_cases h1 : b = b'
      · by_cases h2 : c = c'
        · by_cases h3 : d = d'
          · simp [h0, h1, h2, h3]
          · simp [h0, h1, h2, h3]
        · simp [h0, h1, h2]
      · simp [h0, h1]
    · simp [h0]
  show eqV E (999 + 1) _ _ _ = _
  simp only [eqV, tyF, dsF, gdF]
  exact hf
theorem neqF (f g : FileD) : binA E .neq 41 (.agg ⟨f.cells⟩) (.agg ⟨g.cells⟩) = some (.bool (!decide (f = g))) := by
  show someB (eqV E 1000 41 (.agg ⟨f.cells⟩) (.agg ⟨g.cells⟩)) false = _
  rw [eqF]
  rfl
theorem Vx.rd {s s' : S} {a : Option Addr} {L : List Value} (h : Vx s a L) (hr : Rd s s') : Vx s' a L := h.keep (by rw [hr.next]; exact Nat.le_refl _) (fun m _ => by rw [hr.heap])
def sameFA : List Value → AM Value
  | [.slice a n c, .slice a2 n2 c2] => when (Nat.ble n 1000000) (match Nat.beq n n2 with
    | false => .pure (.bool false)
    | true => rdV a (4 * n) fun cs => rdV a2 (4 * n) fun cs2 => opt (filesOf cs) fun l => opt (filesOf cs2) fun l2 => .pure (.bool (decide (l = l2))))
  | _ => .fail
noncomputable def fiSF : FI := FI.of Tryd.f19
noncomputable def cdSF : Code := bodyOf Tryd.f19
noncomputable def cdSFl : Code := sub [1,1,0,1,0,0] cdSF
theorem resSF : fiSF.results = [.tmp 4] := rfl
theorem b_neqI {E t} (x y : Int) : binA E .neq t (.int .i64 x) (.int .i64 y) = some (.bool (not (eqI x y))) := rfl

def InvSF (a a2 : Option Addr) (c c2 : Nat) (l l2 : List FileD) (s0 : S) (k : Nat) (fr : Fr) (s : S) : Prop :=
  ∃ (i : Nat) (t : Tr Value), k = l.length - i ∧ i ≤ l.length ∧ fr = ⟨19, t, 26, [], none⟩ ∧ Rd s0 s ∧ t.get 0 = some (.slice a l.length c) ∧ t.get 1 = some (.slice a2 l.length c2) ∧ t.get 5 = some (.int .i64 (.ofNat i)) ∧
    (∀ j, j < i → l[j]? = l2[j]?)
def PostSF (l l2 : List FileD) (s0 : S) (x : Ex) (fr : Fr) (s : S) : Prop :=
  ∃ t : Tr Value, fr = ⟨19, t, 26, [], none⟩ ∧ Rd s0 s ∧ ((x = .exit 0 ∧ l = l2) ∨ (x = .ret ∧ l ≠ l2 ∧ t.get 4 = some (.bool false)))
theorem sameF_round (a a2 : Option Addr) (c c2 : Nat) (l l2 : List FileD) (s0 : S) (hl : l.length ≤ 1000000) (hl2 : l2.length = l.length) (hb : Vx s0 a (fcs l)) (hb2 : Vx s0 a2 (fcs l2)) (k : Nat) (fr : Fr) (s : S) (h : InvSF a a2 c c2 l l2 s0 k fr s) :
    GoC E (sumsOf []) cdSFl fr s (Again (InvSF a a2 c c2 l l2 s0) k (PostSF l l2 s0)) := by
  obtain ⟨i, t, rfl, hi, rfl, hr, h0, h1, h5, hz⟩ := h
  simp only [cdSFl, cdSF, Tryd.f19, bodyOf, sub]
  by_cases hlt : i < l.length
  · obtain ⟨x, hx⟩ : ∃ x, l[i]? = some x := ⟨_, List.getElem?_eq_getElem hlt⟩
    obtain ⟨y, hy⟩ : ∃ y, l2[i]? = some y := ⟨_, List.getElem?_eq_getElem (by omega)⟩
    cases a with
    | none =>
      have h9 : fcs l = [] := hb
      have := fcs_len l
      rw [h9] at this
      have h4 : (0 : Nat) = 4 * l.length := this
      omega
    | some ad =>
      cases a2 with
      | none =>
        have h9 : fcs l2 = [] := hb2
        have := fcs_len l2
        rw [h9] at this
        have h4 : (0 : Nat) = 4 * l2.length := this
        omega
      | some ad2 =>
        have hlt' : ltI (Int.ofNat i) (Int.ofNat l.length) = true := by rw [ltI_eq]; simp; omega
        have hbl : Nat.blt i l.length = true := blt_iff.2 hlt
        obtain ⟨ab, ao, asp⟩ := ad
        obtain ⟨ab2, ao2, asp2⟩ := ad2
        obtain ⟨hsp, hcl⟩ := hb
        obtain ⟨hsp2, hcl2⟩ := hb2
        simp only at hsp hcl hsp2 hcl2
        subst hsp
        subst hsp2
        obtain ⟨H, N, mk, rd, wr⟩ := s
        have B1 := (hcl.rd hr).sub (i * 4) 4 (by rw [fcs_len]; omega)
        have B2 := (hcl2.rd hr).sub (i * 4) 4 (by rw [fcs_len]; omega)
        rw [fcs_at l i x hx] at B1
        rw [fcs_at l2 i y hy] at B2
        have lx := (B1.of (s1 := ⟨H, N, N, 0, 0⟩) rfl rfl).ldA (β := ANext) tiF (by rw [dsF]; rfl) (by rw [szF]; rfl)
        have ly := (B2.of (s1 := ⟨H, N, N, 0, 0⟩) rfl rfl).ldA (β := ANext) tiF (by rw [dsF]; rfl) (by rw [szF]; rfl)
        have aa : addA ⟨ab, ao, none⟩ (Nat.mul i 4) = ⟨ab, ao + i * 4, none⟩ := addAn ab ao _
        have aa2 : addA ⟨ab2, ao2, none⟩ (Nat.mul i 4) = ⟨ab2, ao2 + i * 4, none⟩ := addAn ab2 ao2 _
        have nq := neqF x y
        have hinc := b_incr (n := i) (by omega)
        repeat apply go_seq
        apply go_region
        case h => intro m; simp (maxSteps := 2000000) (disch := decide) only [opsLoop, evOper, wantedA, nth, aop, aPick, aBin, aIndexAddr, aFieldAddr, aLoad, aStore, aExtract, aConvert, aAlloc, aBox, aIndex, callA, builtinA, Fr.evs, opt, val, when, AM.run, outV, newA, ptr, force_eq, seen_heap, seen_next, seen_mark, seen_seen, agg_cells, int_cells, Fr.ev, Fr.put, onFr, gps, gpn, bltT, still, flat, List.append_nil, List.nil_append, List.cons_append, Nat.reduceEqDiff, ne_eq, not_false_eq_true, reduceCtorEq, Bool.and_true, Bool.true_and, Bool.and_false, Bool.false_and, Bool.not_true, Bool.not_false, Bool.and_self, h0, h5, tyFs, dsFs, b_lss, hlt']; rfl
        repeat apply go_seq
        apply go_cond
        case hc => simp (disch := decide) only [opsLoop, evOper, wantedA, nth, aop, aPick, aBin, aIndexAddr, aFieldAddr, aLoad, aStore, aExtract, aConvert, aAlloc, aBox, aIndex, callA, builtinA, Fr.evs, opt, val, when, AM.run, outV, newA, ptr, force_eq, seen_heap, seen_next, seen_mark, seen_seen, agg_cells, int_cells, Fr.ev, Fr.put, onFr, gps, gpn, bltT, still, flat, List.append_nil, List.nil_append, List.cons_append, Nat.reduceEqDiff, ne_eq, not_false_eq_true, reduceCtorEq, Bool.and_true, Bool.true_and, Bool.and_false, Bool.false_and, Bool.not_true, Bool.not_false, Bool.and_self]; rfl
        case h2 => intro h; cases h
        intro _
        apply go_skip
        apply go_seq
        apply go_block
        by_cases e : x = y
        · rw [decide_eq_true e, Bool.not_true] at nq
          repeat apply go_seq
          apply go_drawn
          case hs => rfl
          case h => intro m; simp (maxSteps := 2000000) (disch := decide) only [opsLoop, evOper, wantedA, nth, aop, aPick, aBin, aIndexAddr, aFieldAddr, aLoad, aStore, aExtract, aConvert, aAlloc, aBox, aIndex, callA, Fr.evs, opt, val, when, AM.run, outV, newA, ptr, force_eq, seen_heap, seen_next, seen_mark, seen_seen, agg_cells, int_cells, Fr.ev, Fr.put, onFr, gps, gpn, bltT, still, flat, List.append_nil, List.nil_append, List.cons_append, Nat.reduceEqDiff, ne_eq, not_false_eq_true, reduceCtorEq, Bool.and_true, Bool.true_and, Bool.and_false, Bool.false_and, Bool.not_true, Bool.not_false, Bool.and_self, drawnLoop, keep_none, clash_nil, clash_reads, created_self, lor_zero, lor_zero', h0, h1, h5, tyFs, dsFs, tyF, dsF, szF, hbl, aa, aa2, lx, ly, nq, clash_bef]; rfl
          repeat apply go_seq
          apply go_cond
          case hc => simp (disch := decide) only [opsLoop, evOper, wantedA, nth, aop, aPick, aBin, aIndexAddr, aFieldAddr, aLoad, aStore, aExtract, aConvert, aAlloc, aBox, aIndex, callA, builtinA, Fr.evs, opt, val, when, AM.run, outV, newA, ptr, force_eq, seen_heap, seen_next, seen_mark, seen_seen, agg_cells, int_cells, Fr.ev, Fr.put, onFr, gps, gpn, bltT, still, flat, List.append_nil, List.nil_append, List.cons_append, Nat.reduceEqDiff, ne_eq, not_false_eq_true, reduceCtorEq, Bool.and_true, Bool.true_and, Bool.and_false, Bool.false_and, Bool.not_true, Bool.not_false, Bool.and_self]; rfl
          case h1 => intro h; cases h
          intro _
          apply go_skip
          repeat apply go_seq
          apply go_region
          case h => intro m; simp (maxSteps := 2000000) (disch := decide) only [opsLoop, evOper, wantedA, nth, aop, aPick, aBin, aIndexAddr, aFieldAddr, aLoad, aStore, aExtract, aConvert, aAlloc, aBox, aIndex, callA, builtinA, Fr.evs, opt, val, when, AM.run, outV, newA, ptr, force_eq, seen_heap, seen_next, seen_mark, seen_seen, agg_cells, int_cells, Fr.ev, Fr.put, onFr, gps, gpn, bltT, still, flat, List.append_nil, List.nil_append, List.cons_append, Nat.reduceEqDiff, ne_eq, not_false_eq_true, reduceCtorEq, Bool.and_true, Bool.true_and, Bool.and_false, Bool.false_and, Bool.not_true, Bool.not_false, Bool.and_self, h5, int1, hinc]; rfl
          refine ⟨l.length - (i + 1), by omega, i + 1, _, rfl, by omega, rfl, ⟨hr.heap, hr.next, hr.mark⟩, ?_, ?_, ?_, ?_⟩
          · simp (disch := decide) only [gps, gpn, h0]
          · simp (disch := decide) only [gps, gpn, h1]
          · simp (disch := decide) only [gps, gpn]
          · intro j hj
            by_cases e2 : j = i
            · subst e2; rw [hx, hy, e]
            · exact hz j (by omega)
        · rw [decide_eq_false e, Bool.not_false] at nq
          repeat apply go_seq
          apply go_drawn
          case hs => rfl
          case h => intro m; simp (maxSteps := 2000000) (disch := decide) only [opsLoop, evOper, wantedA, nth, aop, aPick, aBin, aIndexAddr, aFieldAddr, aLoad, aStore, aExtract, aConvert, aAlloc, aBox, aIndex, callA, Fr.evs, opt, val, when, AM.run, outV, newA, ptr, force_eq, seen_heap, seen_next, seen_mark, seen_seen, agg_cells, int_cells, Fr.ev, Fr.put, onFr, gps, gpn, bltT, still, flat, List.append_nil, List.nil_append, List.cons_append, Nat.reduceEqDiff, ne_eq, not_false_eq_true, reduceCtorEq, Bool.and_true, Bool.true_and, Bool.and_false, Bool.false_and, Bool.not_true, Bool.not_false, Bool.and_self, drawnLoop, keep_none, clash_nil, clash_reads, created_self, lor_zero, lor_zero', h0, h1, h5, tyFs, dsFs, tyF, dsF, szF, hbl, aa, aa2, lx, ly, nq, clash_bef]; rfl
          repeat apply go_seq
          apply go_cond
          case hc => simp (disch := decide) only [opsLoop, evOper, wantedA, nth, aop, aPick, aBin, aIndexAddr, aFieldAddr, aLoad, aStore, aExtract, aConvert, aAlloc, aBox, aIndex, callA, builtinA, Fr.evs, opt, val, when, AM.run, outV, newA, ptr, force_eq, seen_heap, seen_next, seen_mark, seen_seen, agg_cells, int_cells, Fr.ev, Fr.put, onFr, gps, gpn, bltT, still, flat, List.append_nil, List.nil_append, List.cons_append, Nat.reduceEqDiff, ne_eq, not_false_eq_true, reduceCtorEq, Bool.and_true, Bool.true_and, Bool.and_false, Bool.false_and, Bool.not_true, Bool.not_false, Bool.and_self]; rfl
          case h2 => intro h; cases h
          intro _
          repeat apply go_seq
          apply go_region
          case h => intro m; simp (maxSteps := 2000000) (disch := decide) only [opsLoop, evOper, wantedA, nth, aop, aPick, aBin, aIndexAddr, aFieldAddr, aLoad, aStore, aExtract, aConvert, aAlloc, aBox, aIndex, callA, builtinA, Fr.evs, opt, val, when, AM.run, outV, newA, ptr, force_eq, seen_heap, seen_next, seen_mark, seen_seen, agg_cells, int_cells, Fr.ev, Fr.put, onFr, gps, gpn, bltT, still, flat, List.append_nil, List.nil_append, List.cons_append, Nat.reduceEqDiff, ne_eq, not_false_eq_true, reduceCtorEq, Bool.and_true, Bool.true_and, Bool.and_false, Bool.false_and, Bool.not_true, Bool.not_false, Bool.and_self]; rfl
          apply go_ret
          refine ⟨_, rfl, ⟨hr.heap, hr.next, hr.mark⟩, .inr ⟨rfl, fun e2 => ?_, ?_⟩⟩
          · subst e2; rw [hx] at hy; exact e (Option.some.inj hy)
          · simp (disch := decide) only [gps, gpn]
  · obtain rfl : i = l.length := by omega
    have hlt' : ltI (Int.ofNat l.length) (Int.ofNat l.length) = false := by rw [ltI_eq]; simp
    repeat apply go_seq
    apply go_region
    case h => intro m; simp (maxSteps := 2000000) (disch := decide) only [opsLoop, evOper, wantedA, nth, aop, aPick, aBin, aIndexAddr, aFieldAddr, aLoad, aStore, aExtract, aConvert, aAlloc, aBox, aIndex, callA, builtinA, Fr.evs, opt, val, when, AM.run, outV, newA, ptr, force_eq, seen_heap, seen_next, seen_mark, seen_seen, agg_cells, int_cells, Fr.ev, Fr.put, onFr, gps, gpn, bltT, still, flat, List.append_nil, List.nil_append, List.cons_append, Nat.reduceEqDiff, ne_eq, not_false_eq_true, reduceCtorEq, Bool.and_true, Bool.true_and, Bool.and_false, Bool.false_and, Bool.not_true, Bool.not_false, Bool.and_self, h0, h5, tyFs, dsFs, b_lss, hlt']; rfl
    repeat apply go_seq
    apply go_cond
    case hc => simp (disch := decide) only [opsLoop, evOper, wantedA, nth, aop, aPick, aBin, aIndexAddr, aFieldAddr, aLoad, aStore, aExtract, aConvert, aAlloc, aBox, aIndex, callA, builtinA, Fr.evs, opt, val, when, AM.run, outV, newA, ptr, force_eq, seen_heap, seen_next, seen_mark, seen_seen, agg_cells, int_cells, Fr.ev, Fr.put, onFr, gps, gpn, bltT, still, flat, List.append_nil, List.nil_append, List.cons_append, Nat.reduceEqDiff, ne_eq, not_false_eq_true, reduceCtorEq, Bool.and_true, Bool.true_and, Bool.and_false, Bool.false_and, Bool.not_true, Bool.not_false, Bool.and_self]; rfl
    case h1 => intro h; cases h
    intro _
    apply go_exit
    refine ⟨_, rfl, hr, .inl ⟨rfl, List.ext_getElem? fun j => ?_⟩⟩
    by_cases hj : j < l.length
    · exact hz j hj
    · rw [List.getElem?_eq_none (by omega), List.getElem?_eq_none (by omega)]

theorem told_sameF : AE.Told Tryd.prog 19 sameFA := by
  refine told_go hE hmix tolds_nil ?_
  intro args s v s' h hm
  unfold sameFA at h
  split at h
  · rename_i a n c a2 n2 c2
    obtain ⟨hc, h2⟩ := run_when h
    have hn := ble_iff.1 hc
    refine go_enter (fi := fiSF) (c := cdSF) (by kernel_rfl) (by kernel_rfl) 26 rfl rfl ?_
    have hcode : cdSF = .seq (sub [0] cdSF) (.seq (sub [1,0] cdSF) (.seq (.seq (sub [1,1,0,0] cdSF) (.block 0 (.loop cdSFl))) (sub [1,1,1] cdSF))) := rfl
    rw [hcode]
    have h0 : (Tr.ofList [Value.slice a n c, .slice a2 n2 c2]).get 0 = some (.slice a n c) := rfl
    have h1 : (Tr.ofList [Value.slice a n c, .slice a2 n2 c2]).get 1 = some (.slice a2 n2 c2) := rfl
    generalize Tr.ofList [Value.slice a n c, .slice a2 n2 c2] = t at *
    simp only [cdSF, Tryd.f19, bodyOf, sub]
    cases hbq : Nat.beq n n2 with
    | false =>
      rw [hbq] at h2
      cases h2
      have hne : eqI (Int.ofNat n) (Int.ofNat n2) = false := eqI_f (fun e => by subst e; rw [beq_iff.2 rfl] at hbq; cases hbq)
      repeat apply go_seq
      apply go_region
      case h => intro m; simp (maxSteps := 2000000) (disch := decide) only [opsLoop, evOper, wantedA, nth, aop, aPick, aBin, aIndexAddr, aFieldAddr, aLoad, aStore, aExtract, aConvert, aAlloc, aBox, aIndex, callA, builtinA, Fr.evs, opt, val, when, AM.run, outV, newA, ptr, force_eq, seen_heap, seen_next, seen_mark, seen_seen, agg_cells, int_cells, Fr.ev, Fr.put, onFr, gps, gpn, bltT, still, flat, List.append_nil, List.nil_append, List.cons_append, Nat.reduceEqDiff, ne_eq, not_false_eq_true, reduceCtorEq, Bool.and_true, Bool.true_and, Bool.and_false, Bool.false_and, Bool.not_true, Bool.not_false, Bool.and_self]; rfl
      repeat apply go_seq
      apply go_region
      case h => intro m; simp (maxSteps := 2000000) (disch := decide) only [opsLoop, evOper, wantedA, nth, aop, aPick, aBin, aIndexAddr, aFieldAddr, aLoad, aStore, aExtract, aConvert, aAlloc, aBox, aIndex, callA, builtinA, Fr.evs, opt, val, when, AM.run, outV, newA, ptr, force_eq, seen_heap, seen_next, seen_mark, seen_seen, agg_cells, int_cells, Fr.ev, Fr.put, onFr, gps, gpn, bltT, still, flat, List.append_nil, List.nil_append, List.cons_append, Nat.reduceEqDiff, ne_eq, not_false_eq_true, reduceCtorEq, Bool.and_true, Bool.true_and, Bool.and_false, Bool.false_and, Bool.not_true, Bool.not_false, Bool.and_self, h0, h1, tyFs, dsFs, b_neqI, hne]; rfl
      repeat apply go_seq
      apply go_cond
      case hc => simp (disch := decide) only [opsLoop, evOper, wantedA, nth, aop, aPick, aBin, aIndexAddr, aFieldAddr, aLoad, aStore, aExtract, aConvert, aAlloc, aBox, aIndex, callA, builtinA, Fr.evs, opt, val, when, AM.run, outV, newA, ptr, force_eq, seen_heap, seen_next, seen_mark, seen_seen, agg_cells, int_cells, Fr.ev, Fr.put, onFr, gps, gpn, bltT, still, flat, List.append_nil, List.nil_append, List.cons_append, Nat.reduceEqDiff, ne_eq, not_false_eq_true, reduceCtorEq, Bool.and_true, Bool.true_and, Bool.and_false, Bool.false_and, Bool.not_true, Bool.not_false, Bool.and_self]; rfl
      case h2 => intro h; cases h
      intro _
      repeat apply go_seq
      apply go_region
      case h => intro m; simp (maxSteps := 2000000) (disch := decide) only [opsLoop, evOper, wantedA, nth, aop, aPick, aBin, aIndexAddr, aFieldAddr, aLoad, aStore, aExtract, aConvert, aAlloc, aBox, aIndex, callA, builtinA, Fr.evs, opt, val, when, AM.run, outV, newA, ptr, force_eq, seen_heap, seen_next, seen_mark, seen_seen, agg_cells, int_cells, Fr.ev, Fr.put, onFr, gps, gpn, bltT, still, flat, List.append_nil, List.nil_append, List.cons_append, Nat.reduceEqDiff, ne_eq, not_false_eq_true, reduceCtorEq, Bool.and_true, Bool.true_and, Bool.and_false, Bool.false_and, Bool.not_true, Bool.not_false, Bool.and_self]; rfl
      repeat apply go_seq
      apply go_ret
      apply ret_intro rfl rfl
      case run => simp (disch := decide) only [resultsM, resultsA, resSF, opsLoop, evOper, wantedA, nth, aop, aPick, aBin, aIndexAddr, aFieldAddr, aLoad, aStore, aExtract, aConvert, aAlloc, aBox, aIndex, callA, builtinA, Fr.evs, opt, val, when, AM.run, outV, newA, ptr, force_eq, seen_heap, seen_next, seen_mark, seen_seen, agg_cells, int_cells, Fr.ev, Fr.put, onFr, gps, gpn, bltT, still, flat, List.append_nil, List.nil_append, List.cons_append, Nat.reduceEqDiff, ne_eq, not_false_eq_true, reduceCtorEq, Bool.and_true, Bool.true_and, Bool.and_false, Bool.false_and, Bool.not_true, Bool.not_false, Bool.and_self]; rfl
      exact ⟨rfl, Less'.refl _⟩
    | true =>
      rw [hbq] at h2
      obtain rfl := beq_iff.1 hbq
      obtain ⟨L, s1, hL, hb, hr1, h3⟩ := vx_of_rd h2
      obtain ⟨L2, s2, hL2, hb2, hr2, h4⟩ := vx_of_rd h3
      obtain ⟨l, hfs, h5⟩ := run_opt h4
      obtain ⟨l2, hfs2, h6⟩ := run_opt h5
      cases h6
      obtain rfl := filesOf_inv L l hfs
      obtain rfl := filesOf_inv L2 l2 hfs2
      rw [fcs_len] at hL hL2
      have hl : l.length = n := by omega
      have hl2 : l2.length = n := by omega
      clear h4 h5 hfs hfs2
      have heq : eqI (Int.ofNat n) (Int.ofNat n) = true := eqI_t n
      repeat apply go_seq
      apply go_region
      case h => intro m; simp (maxSteps := 2000000) (disch := decide) only [opsLoop, evOper, wantedA, nth, aop, aPick, aBin, aIndexAddr, aFieldAddr, aLoad, aStore, aExtract, aConvert, aAlloc, aBox, aIndex, callA, builtinA, Fr.evs, opt, val, when, AM.run, outV, newA, ptr, force_eq, seen_heap, seen_next, seen_mark, seen_seen, agg_cells, int_cells, Fr.ev, Fr.put, onFr, gps, gpn, bltT, still, flat, List.append_nil, List.nil_append, List.cons_append, Nat.reduceEqDiff, ne_eq, not_false_eq_true, reduceCtorEq, Bool.and_true, Bool.true_and, Bool.and_false, Bool.false_and, Bool.not_true, Bool.not_false, Bool.and_self]; rfl
      repeat apply go_seq
      apply go_region
      case h => intro m; simp (maxSteps := 2000000) (disch := decide) only [opsLoop, evOper, wantedA, nth, aop, aPick, aBin, aIndexAddr, aFieldAddr, aLoad, aStore, aExtract, aConvert, aAlloc, aBox, aIndex, callA, builtinA, Fr.evs, opt, val, when, AM.run, outV, newA, ptr, force_eq, seen_heap, seen_next, seen_mark, seen_seen, agg_cells, int_cells, Fr.ev, Fr.put, onFr, gps, gpn, bltT, still, flat, List.append_nil, List.nil_append, List.cons_append, Nat.reduceEqDiff, ne_eq, not_false_eq_true, reduceCtorEq, Bool.and_true, Bool.true_and, Bool.and_false, Bool.false_and, Bool.not_true, Bool.not_false, Bool.and_self, h0, h1, tyFs, dsFs, b_neqI, heq]; rfl
      repeat apply go_seq
      apply go_cond
      case hc => simp (disch := decide) only [opsLoop, evOper, wantedA, nth, aop, aPick, aBin, aIndexAddr, aFieldAddr, aLoad, aStore, aExtract, aConvert, aAlloc, aBox, aIndex, callA, builtinA, Fr.evs, opt, val, when, AM.run, outV, newA, ptr, force_eq, seen_heap, seen_next, seen_mark, seen_seen, agg_cells, int_cells, Fr.ev, Fr.put, onFr, gps, gpn, bltT, still, flat, List.append_nil, List.nil_append, List.cons_append, Nat.reduceEqDiff, ne_eq, not_false_eq_true, reduceCtorEq, Bool.and_true, Bool.true_and, Bool.and_false, Bool.false_and, Bool.not_true, Bool.not_false, Bool.and_self]; rfl
      case h1 => intro h; cases h
      intro _
      apply go_skip
      repeat apply go_seq
      apply go_region
      case h => intro m; simp (maxSteps := 2000000) (disch := decide) only [opsLoop, evOper, wantedA, nth, aop, aPick, aBin, aIndexAddr, aFieldAddr, aLoad, aStore, aExtract, aConvert, aAlloc, aBox, aIndex, callA, builtinA, Fr.evs, opt, val, when, AM.run, outV, newA, ptr, force_eq, seen_heap, seen_next, seen_mark, seen_seen, agg_cells, int_cells, Fr.ev, Fr.put, onFr, gps, gpn, bltT, still, flat, List.append_nil, List.nil_append, List.cons_append, Nat.reduceEqDiff, ne_eq, not_false_eq_true, reduceCtorEq, Bool.and_true, Bool.true_and, Bool.and_false, Bool.false_and, Bool.not_true, Bool.not_false, Bool.and_self]; rfl
      apply go_block
      subst hl
      refine (go_loop_inv (InvSF a a2 c c2 l l2 s) (fun k fr s1 hI => sameF_round a a2 c c2 l l2 s hn hl2 hb (hb2.rd ⟨hr1.heap.symm, hr1.next.symm, hr1.mark.symm⟩) k fr s1 hI) (l.length - 0) _ _ ⟨0, _, rfl, by omega, rfl, Rd.refl s, ?_, ?_, ?_, fun j hj => by omega⟩).mono ?_
      · simp (disch := decide) only [gps, gpn, h0]
      · simp (disch := decide) only [gps, gpn, h1]
      · simp (disch := decide) only [gps, gpn, int0]
      rintro x fr s3 ⟨t1, rfl, hr3, hx⟩
      have hless : Less' s3 s' := hr3.less (hr1.trans hr2)
      rcases hx with ⟨rfl, rfl⟩ | ⟨rfl, hne, g4⟩
      · simp only [Out_, if_true]
        show GoC E _ _ _ _ _
        repeat apply go_seq
        apply go_region
        case h => intro m; simp (maxSteps := 2000000) (disch := decide) only [opsLoop, evOper, wantedA, nth, aop, aPick, aBin, aIndexAddr, aFieldAddr, aLoad, aStore, aExtract, aConvert, aAlloc, aBox, aIndex, callA, builtinA, Fr.evs, opt, val, when, AM.run, outV, newA, ptr, force_eq, seen_heap, seen_next, seen_mark, seen_seen, agg_cells, int_cells, Fr.ev, Fr.put, onFr, gps, gpn, bltT, still, flat, List.append_nil, List.nil_append, List.cons_append, Nat.reduceEqDiff, ne_eq, not_false_eq_true, reduceCtorEq, Bool.and_true, Bool.true_and, Bool.and_false, Bool.false_and, Bool.not_true, Bool.not_false, Bool.and_self]; rfl
        repeat apply go_seq
        apply go_ret
        apply ret_intro rfl rfl
        case run => simp (disch := decide) only [resultsM, resultsA, resSF, opsLoop, evOper, wantedA, nth, aop, aPick, aBin, aIndexAddr, aFieldAddr, aLoad, aStore, aExtract, aConvert, aAlloc, aBox, aIndex, callA, builtinA, Fr.evs, opt, val, when, AM.run, outV, newA, ptr, force_eq, seen_heap, seen_next, seen_mark, seen_seen, agg_cells, int_cells, Fr.ev, Fr.put, onFr, gps, gpn, bltT, still, flat, List.append_nil, List.nil_append, List.cons_append, Nat.reduceEqDiff, ne_eq, not_false_eq_true, reduceCtorEq, Bool.and_true, Bool.true_and, Bool.and_false, Bool.false_and, Bool.not_true, Bool.not_false, Bool.and_self]; rfl
        exact ⟨by simp, hless⟩
      · simp only [Out_]
        apply ret_intro rfl rfl
        case run => simp (disch := decide) only [resultsM, resultsA, resSF, opsLoop, evOper, wantedA, nth, aop, aPick, aBin, aIndexAddr, aFieldAddr, aLoad, aStore, aExtract, aConvert, aAlloc, aBox, aIndex, callA, builtinA, Fr.evs, opt, val, when, AM.run, outV, newA, ptr, force_eq, seen_heap, seen_next, seen_mark, seen_seen, agg_cells, int_cells, Fr.ev, Fr.put, onFr, gps, gpn, bltT, still, flat, List.append_nil, List.nil_append, List.cons_append, Nat.reduceEqDiff, ne_eq, not_false_eq_true, reduceCtorEq, Bool.and_true, Bool.true_and, Bool.and_false, Bool.false_and, Bool.not_true, Bool.not_false, Bool.and_self, g4]; rfl
        exact ⟨by simp [hne], hless⟩
  · cases h
end Go.Proofs.YtgofanjbhbeniaaDoor.lf
end
end

section
/- Catalogs compared: what sheafkeep.Catalogs does, told. -/
noncomputable section
namespace Go.Proofs.YtgofanjbhbeniaaDoor.lf
open AE
set_option linter.unusedSimpArgs false
set_option linter.unusedVariables false
set_option maxRecDepth 10000

instance : DecidableEq CatD := fun a b => if h : a.gen = b.gen ∧ a.step = b.step ∧ a.status = b.status ∧ a.ended = b.ended ∧ a.from_ = b.from_ ∧ a.to_ = b.to_ ∧ a.budget = b.budget ∧ a.fan = b.fan ∧ a.files = b.files then isTrue (by cases a; cases b; simp_all) else isFalse (fun e => h (by subst e; exact ⟨rfl, rfl, rfl, rfl, rfl, rfl, rfl, rfl, rfl⟩))
theorem sameFA_run {s : S} {a a2 : Option Addr} {c c2 : Nat} {l l2 : List FileD} (h : l.length ≤ 1000000) (hv : Vx s a (fcs l)) (hv2 : Vx s a2 (fcs l2)) : ∃ s1, (sameFA [.slice a l.length c, .slice a2 l2.length c2]).run s = some (.bool (decide (l = l2)), s1) ∧ Rd s s1 := by
  show ∃ s1, (when (Nat.ble l.length 1000000) (match Nat.beq l.length l2.length with
    | false => AM.pure (Value.bool false)
    | true => rdV a (4 * l.length) fun cs => rdV a2 (4 * l.length) fun cs2 => opt (filesOf cs) fun l => opt (filesOf cs2) fun l2 => .pure (Value.bool (decide (l = l2))))).run s = _ ∧ _
  rw [ble_iff.2 h, show ∀ k : AM Value, when true k = k from fun _ => rfl]
  cases hb : Nat.beq l.length l2.length with
  | false =>
    refine ⟨s, ?_, Rd.refl s⟩
    have : decide (l = l2) = false := decide_eq_false (fun e => by subst e; rw [beq_iff.2 rfl] at hb; cases hb)
    rw [this]
    rfl
  | true =>
    have hl := beq_iff.1 hb
    obtain ⟨s1, e1, r1, _⟩ := rdV_run hv (fun cs => rdV a2 (4 * l.length) fun cs2 => opt (filesOf cs) fun l => opt (filesOf cs2) fun l2 => .pure (Value.bool (decide (l = l2))))
    rw [fcs_len] at e1
    obtain ⟨s2, e2, r2, _⟩ := rdV_run (hv2.rd r1) (fun cs2 => opt (filesOf (fcs l)) fun l => opt (filesOf cs2) fun l2 => .pure (Value.bool (decide (l = l2))))
    rw [fcs_len, ← hl, filesOf_fcs, filesOf_fcs] at e2
    refine ⟨s2, ?_, r1.trans r2⟩
    show (rdV a (4 * l.length) _).run s = _
    rw [e1, filesOf_fcs]
    exact e2

end Go.Proofs.YtgofanjbhbeniaaDoor.lf
end
end

section
/- Catalogs: catalog.Put and catalog.Right, told without the names that they take. -/
noncomputable section
namespace Go.Proofs.YtgofanjbhbeniaaDoor.lf
open AE
set_option linter.unusedSimpArgs false
set_option linter.unusedVariables false
set_option maxRecDepth 10000

/-- a call that looks at one catalog and tells a value -/
def lookA (F : CatD → Value) : List Value → AM Value
  | [.agg ⟨[.int .i64 g, .int .i64 st, .int .i64 su, .bool en, .int .i64 f, .int .i64 t, .int .i64 b, .int .i64 fa, .slice a n cap]⟩] =>
    when (Nat.ble n 10000) (rdV a (4 * n) fun cs => opt (filesOf cs) fun fs => .pure (F ⟨g, st, su, en, f, t, b, fa, fs⟩))
  | _ => .fail
theorem lookA_run {s : S} {a : Option Addr} {cap : Nat} (F : CatD → Value) (D : CatD) (hl : D.files.length ≤ 10000) (hv : Vx s a (fcs D.files)) : ∃ s1, (lookA F [.agg ⟨D.cells a cap⟩]).run s = some (F D, s1) ∧ Rd s s1 ∧ s1.wr = s.wr := by
  obtain ⟨s1, e1, hr, hw⟩ := rdV_run hv (fun cs => opt (filesOf cs) fun fs => .pure (F ⟨D.gen, D.step, D.status, D.ended, D.from_, D.to_, D.budget, D.fan, fs⟩))
  rw [fcs_len] at e1
  refine ⟨s1, ?_, hr, hw⟩
  show (when (Nat.ble D.files.length 10000) (rdV a (4 * D.files.length) fun cs => opt (filesOf cs) fun fs => .pure (F ⟨D.gen, D.step, D.status, D.ended, D.from_, D.to_, D.budget, D.fan, fs⟩))).run s = _
  rw [show Nat.ble D.files.length 10000 = true from ble_iff.2 hl, show ∀ k : AM Value, when true k = k from fun _ => rfl, e1, filesOf_fcs]
  rfl
theorem told_look {f : FuncId} {am : List Value → AM Value} (F : CatD → Value) (hF : ∀ D, Plain (F D)) (ht : AE.Told Tryd.prog f am)
    (hrun : ∀ (s : S) (D : CatD) (a : Option Addr) (cap : Nat), s.next ≤ 10 → D.files.length ≤ 10000 → Vx s a (fcs D.files) → ∃ s1, (am [.agg ⟨D.cells a cap⟩]).run s = some (F D, s1)) : AE.Told Tryd.prog f (lookA F) := by
  refine AE.told_nobump ht ?_
  intro args s v s' h
  unfold lookA at h
  split at h
  · rename_i g st su en fo to bu fa a n cap
    obtain ⟨hc, h2⟩ := run_when h
    obtain ⟨L, s1, hL, hvx, hr1, h3⟩ := vx_of_rd h2
    obtain ⟨fs, hfs, h4⟩ := run_opt h3
    obtain rfl := filesOf_inv L fs hfs
    rw [fcs_len] at hL
    obtain rfl : n = fs.length := by omega
    cases h4
    have hlen := ble_iff.1 hc
    refine ⟨hF _, rd_less hr1, ?_⟩
    intro q ρ w args' hRep hargs
    cases hargs with
    | cons hv hl =>
    cases hl with
    | nil =>
    rcases cat_anew hRep rfl hlen hvx hv with ⟨rfl, h0, hmk⟩ | ⟨x, hx, hin, hmk⟩
    · obtain ⟨sE, hE2⟩ := hrun (inS []) ⟨g, st, su, en, fo, to, bu, fa, fs⟩ none cap (Nat.zero_le _) hlen (by show fcs fs = []; rw [h0]; rfl)
      exact ⟨_, inS [], sE, renOf [], inputs_of [] (Nat.zero_le _) (fun x hx => by cases hx), .cons (hmk _) .nil, hE2, Nat.zero_le _⟩
    · have hV : Vx (inS [x]) (some ⟨0, 0, none⟩) (fcs fs) := by
        refine ⟨rfl, ⟨Nat.zero_lt_one, Tr.ofList (fcs fs), (fcs fs).length, .inr ⟨x.e, ?_⟩, by rw [Nat.zero_add]; exact Nat.le_refl _, row_ofList _ (by rw [fcs_len]; unfold Tr.wide; omega)⟩⟩
        show (trOf [(0, AObj.row (Tr.ofList x.L) x.L.length x.e)]).get 0 = _
        rw [hx]
        show ((Tr.nil).put 0 _).get 0 = _
        exact hg_same rfl _ _
      obtain ⟨sE, hE2⟩ := hrun (inS [x]) ⟨g, st, su, en, fo, to, bu, fa, fs⟩ (some ⟨0, 0, none⟩) cap (by show 1 ≤ 10; omega) hlen hV
      exact ⟨_, inS [x], sE, renOf [x], inputs_of [x] (by simp) (fun y hy => by simp only [List.mem_singleton] at hy; subst hy; exact hin), .cons (hmk [x] 0 rfl) .nil, hE2, Nat.zero_le _⟩
  · cases h
def rightF_ (D : CatD) : Value := .bool D.right
theorem told_rightE : AE.Told Tryd.prog 13 (lookA rightF_) :=
  told_look rightF_ (fun D => plain_bool _) told_rightC fun s D a cap hn hl hv => by
    obtain ⟨s1, e, _⟩ := rightCA_run (s := s) (a := a) (cap := cap) D (by omega) hv (fun i hi => bl9 (by omega))
    exact ⟨s1, e⟩
end Go.Proofs.YtgofanjbhbeniaaDoor.lf
end
end

section
/- Catalogs made anew: a map from names to files: what is put, what is gone; files by their names. -/
noncomputable section
namespace Go.Proofs.YtgofanjbhbeniaaDoor.lf
open AE
set_option linter.unusedSimpArgs false
set_option linter.unusedVariables false
set_option maxRecDepth 10000

/-- a map's entries: one a file, by its name -/
inductive Ents : List MapEntry → List FileD → Prop
  | nil : Ents [] []
  | cons {es : List MapEntry} {l : List FileD} (f : FileD) (b : Nat) : Ents es l → Ents (⟨.int .i64 f.name, .agg ⟨f.cells⟩, b⟩ :: es) (f :: l)
/-- no two entries were born at once, and all were born by now -/
structure Born (es : List MapEntry) (clock : Nat) : Prop where
  nd : (es.map (·.born)).Nodup
  old : ∀ e ∈ es, e.born < clock
def putM : List FileD → FileD → List FileD
  | [], f => [f]
  | g :: l, f => match eqI f.name g.name with | true => f :: l | false => g :: putM l f
def delM : List FileD → Int → List FileD
  | [], k => []
  | g :: l, k => match eqI k g.name with | true => l | false => g :: delM l k
theorem eqI_iff' {a b : Int} : (eqI a b = true) ↔ a = b := by
  rw [eqI_eq]; simp
theorem putM_len (l : List FileD) (f : FileD) : (putM l f).length ≤ l.length + 1 := by
  induction l with
  | nil => simp [putM]
  | cons g l ih => simp only [putM]; split <;> simp <;> omega
theorem delM_len (l : List FileD) (k : Int) : (delM l k).length ≤ l.length := by
  induction l with
  | nil => simp [delM]
  | cons g l ih => simp only [delM]; split <;> simp <;> omega
theorem putM_mem (l : List FileD) (f g : FileD) : g ∈ putM l f → g = f ∨ g ∈ l := by
  induction l with
  | nil => simp [putM]
  | cons x l ih =>
    simp only [putM]
    split
    · intro h; rcases List.mem_cons.1 h with h | h
      · exact .inl h
      · exact .inr (List.mem_cons_of_mem _ h)
    · intro h; rcases List.mem_cons.1 h with h | h
      · exact .inr (by rw [h]; exact List.mem_cons_self)
      · rcases ih h with h | h
        · exact .inl h
        · exact .inr (List.mem_cons_of_mem _ h)
theorem delM_mem (l : List FileD) (k : Int) (g : FileD) : g ∈ delM l k → g ∈ l := by
  induction l with
  | nil => simp [delM]
  | cons x l ih =>
    simp only [delM]
    split
    · exact fun h => List.mem_cons_of_mem _ h
    · intro h; rcases List.mem_cons.1 h with h | h
      · rw [h]; exact List.mem_cons_self
      · exact List.mem_cons_of_mem _ (ih h)
def ND (l : List FileD) : Prop := (l.map (·.name)).Nodup
theorem putM_nd (l : List FileD) (f : FileD) (h : ND l) : ND (putM l f) := by
  induction l with
  | nil => simp [putM, ND]
  | cons g l ih =>
    simp only [ND, List.map_cons, List.nodup_cons] at h ⊢
    simp only [putM]
    split
    · rename_i he
      simp only [List.map_cons, List.nodup_cons]
      rw [eqI_iff'.1 he]; exact h
    · rename_i he
      simp only [List.map_cons, List.nodup_cons]
      refine ⟨fun hm => ?_, ih h.2⟩
      obtain ⟨x, hx, hn⟩ := List.mem_map.1 hm
      rcases putM_mem l f x hx with rfl | hx
      · rw [eqI_iff'.2 hn] at he; cases he
      · exact h.1 (List.mem_map.2 ⟨x, hx, hn⟩)
theorem delM_nd (l : List FileD) (k : Int) (h : ND l) : ND (delM l k) := by
  induction l with
  | nil => simp [delM, ND]
  | cons g l ih =>
    simp only [ND, List.map_cons, List.nodup_cons] at h ⊢
    simp only [delM]
    split
    · exact h.2
    · simp only [List.map_cons, List.nodup_cons]
      refine ⟨fun hm => ?_, ih h.2⟩
      obtain ⟨x, hx, hn⟩ := List.mem_map.1 hm
      exact h.1 (List.mem_map.2 ⟨x, delM_mem l k x hx, hn⟩)

/-! the first file of a name -/
def lookM : List FileD → Int → Option FileD
  | [], k => none
  | g :: l, k => match eqI g.name k with | true => some g | false => lookM l k
theorem eqI_self (a : Int) : eqI a a = true := eqI_iff'.2 rfl
theorem look_put (l : List FileD) (f : FileD) (k : Int) : lookM (putM l f) k = match eqI f.name k with | true => some f | false => lookM l k := by
  induction l with
  | nil => simp only [putM, lookM]
  | cons g l ih =>
    simp only [putM]
    cases h : eqI f.name g.name with
    | true =>
      simp only [lookM]
      cases hk : eqI f.name k with
      | true => rfl
      | false =>
        have := eqI_iff'.1 h
        rw [← this, hk]
    | false =>
      simp only [lookM, ih]
      cases hg : eqI g.name k with
      | false => rfl
      | true =>
        have := eqI_iff'.1 hg
        rw [← this, h]
theorem look_none (l : List FileD) (k : Int) (h : k ∉ l.map (·.name)) : lookM l k = none := by
  induction l with
  | nil => rfl
  | cons g l ih =>
    simp only [List.map_cons, List.mem_cons, not_or] at h
    simp only [lookM]
    cases hg : eqI g.name k with
    | true => exact absurd (eqI_iff'.1 hg).symm h.1
    | false => exact ih h.2
theorem look_del (l : List FileD) (g k : Int) (h : ND l) : lookM (delM l g) k = match eqI g k with | true => none | false => lookM l k := by
  induction l with
  | nil => simp only [delM, lookM]; cases eqI g k <;> rfl
  | cons x l ih =>
    simp only [ND, List.map_cons, List.nodup_cons] at h
    simp only [delM]
    cases hx : eqI g x.name with
    | true =>
      have e := eqI_iff'.1 hx
      cases hk : eqI g k with
      | true =>
        have e2 := eqI_iff'.1 hk
        exact look_none l k (by rw [← e2, e]; exact h.1)
      | false =>
        simp only [lookM]
        rw [← e, hk]
    | false =>
      simp only [lookM, ih h.2]
      cases hxk : eqI x.name k with
      | false => rfl
      | true =>
        have e2 := eqI_iff'.1 hxk
        rw [← e2, hx]
theorem look_perm {l l' : List FileD} (h : l.Perm l') (hn : ND l) (k : Int) : lookM l k = lookM l' k := by
  induction h with
  | nil => rfl
  | cons x _ ih =>
    simp only [ND, List.map_cons, List.nodup_cons] at hn
    simp only [lookM, ih hn.2]
  | swap x y l =>
    simp only [ND, List.map_cons, List.nodup_cons, List.mem_cons, not_or] at hn
    simp only [lookM]
    cases hx : eqI x.name k <;> cases hy : eqI y.name k <;> simp only []
    exact absurd ((eqI_iff'.1 hy).trans (eqI_iff'.1 hx).symm) hn.1.1
  | trans h1 h2 ih1 ih2 =>
    rw [ih1 hn]
    exact ih2 ((List.Perm.nodup_iff (List.Perm.map (fun x : FileD => x.name) h1)).1 hn)

/-! the entries -/
theorem Ents.len : ∀ {es : List MapEntry} {l : List FileD}, Ents es l → es.length = l.length
  | _, _, .nil => rfl
  | _, _, .cons f b h => by simp only [List.length_cons, h.len]
theorem Ents.app {es es' : List MapEntry} {l l' : List FileD} (h : Ents es l) (h' : Ents es' l') : Ents (es ++ es') (l ++ l') := by
  induction h with
  | nil => exact h'
  | cons f b _ ih => exact .cons f b ih
theorem Ents.split : ∀ (a : List MapEntry) {e : MapEntry} {b : List MapEntry} {l : List FileD}, Ents (a ++ e :: b) l → ∃ (la : List FileD) (f : FileD) (lb : List FileD), l = la ++ f :: lb ∧ Ents a la ∧ e.val = .agg ⟨f.cells⟩ ∧ Ents b lb
  | [], e, b, l, h => by
    cases h with
    | cons f bo h => exact ⟨[], f, _, rfl, .nil, rfl, h⟩
  | x :: a, e, b, l, h => by
    cases h with
    | cons f bo h =>
      obtain ⟨la, g, lb, rfl, h1, h2, h3⟩ := Ents.split a h
      exact ⟨f :: la, g, lb, rfl, .cons f bo h1, h2, h3⟩
/-- where a file of that name is, and what becomes of the entries -/
theorem find_put : ∀ {es : List MapEntry} {l : List FileD} (f : FileD) (i : Nat), Ents es l →
    (∃ j v, findI f.name es i = some (some (i + j, v)) ∧ Ents (updI es j (.int .i64 f.name) (.agg ⟨f.cells⟩)) (putM l f) ∧ (updI es j (.int .i64 f.name) (.agg ⟨f.cells⟩)).map (·.born) = es.map (·.born)) ∨
    (findI f.name es i = some none ∧ putM l f = l ++ [f])
  | _, _, f, i, .nil => .inr ⟨rfl, rfl⟩
  | _, _, f, i, .cons (es := es) (l := l) g b h => by
    simp only [findI, putM]
    cases he : eqI f.name g.name with
    | true => exact .inl ⟨0, _, rfl, .cons f b h, rfl⟩
    | false =>
      rcases find_put f (Nat.succ i) h with ⟨j, v, h1, h2, h3⟩ | ⟨h1, h2⟩
      · refine .inl ⟨j + 1, v, ?_, .cons g b h2, ?_⟩
        · rw [show i + (j + 1) = Nat.succ i + j by omega]; exact h1
        · simp only [updI, List.map_cons, h3]
      · exact .inr ⟨h1, by simp only [h2, List.cons_append]⟩
theorem find_del : ∀ {es : List MapEntry} {l : List FileD} (k : Int) (i : Nat), Ents es l →
    (∃ j v, findI k es i = some (some (i + j, v)) ∧ Ents (dropI es j) (delM l k) ∧ ((dropI es j).map (·.born)).Sublist (es.map (·.born))) ∨
    (findI k es i = some none ∧ delM l k = l)
  | _, _, k, i, .nil => .inr ⟨rfl, rfl⟩
  | _, _, k, i, .cons (es := es) (l := l) g b h => by
    simp only [findI, delM]
    cases he : eqI k g.name with
    | true => exact .inl ⟨0, _, rfl, h, List.sublist_cons_self _ _⟩
    | false =>
      rcases find_del k (Nat.succ i) h with ⟨j, v, h1, h2, h3⟩ | ⟨h1, h2⟩
      · refine .inl ⟨j + 1, v, ?_, .cons g b h2, ?_⟩
        · rw [show i + (j + 1) = Nat.succ i + j by omega]; exact h1
        · simp only [dropI, List.map_cons]; exact List.Sublist.cons_cons _ h3
      · exact .inr ⟨h1, by simp only [h2]⟩
theorem Born.same {es es' : List MapEntry} {clock : Nat} (h : Born es clock) (e : es'.map (·.born) = es.map (·.born)) : Born es' clock := by
  refine ⟨by rw [e]; exact h.nd, fun x hx => ?_⟩
  have : x.born ∈ es.map (·.born) := by rw [← e]; exact List.mem_map.2 ⟨x, hx, rfl⟩
  obtain ⟨y, h1, h2⟩ := List.mem_map.1 this
  rw [← h2]; exact h.old y h1
theorem Born.sub {es es' : List MapEntry} {clock : Nat} (h : Born es clock) (e : (es'.map (·.born)).Sublist (es.map (·.born))) : Born es' clock := by
  refine ⟨h.nd.sublist e, fun x hx => ?_⟩
  have : x.born ∈ es.map (·.born) := e.subset (List.mem_map.2 ⟨x, hx, rfl⟩)
  obtain ⟨y, h1, h2⟩ := List.mem_map.1 this
  rw [← h2]; exact h.old y h1
theorem Born.new {es : List MapEntry} {clock : Nat} (h : Born es clock) (k v : Value) : Born (es ++ [⟨k, v, clock⟩]) (Nat.succ clock) := by
  refine ⟨?_, fun x hx => ?_⟩
  · rw [List.map_append, List.nodup_append]
    refine ⟨h.nd, by simp, fun a ha b hb => ?_⟩
    obtain ⟨y, h1, h2⟩ := List.mem_map.1 ha
    simp only [List.map_cons, List.map_nil, List.mem_singleton] at hb
    have := h.old y h1
    omega
  · rcases List.mem_append.1 hx with hx | hx
    · exact Nat.lt_succ_of_lt (h.old x hx)
    · simp only [List.mem_singleton] at hx
      subst hx
      exact Nat.lt_succ_self _
theorem Born.allOld : ∀ {es : List MapEntry} {clock : Nat}, Born es clock → AE.allOld clock es = true
  | [], clock, h => rfl
  | e :: es, clock, h => by
    have h1 := h.old e List.mem_cons_self
    simp only [AE.allOld, blt_iff.2 h1]
    refine Born.allOld ⟨?_, fun x hx => h.old x (List.mem_cons_of_mem _ hx)⟩
    have := h.nd
    simp only [List.map_cons, List.nodup_cons] at this
    exact this.2
/-- a map in memory -/
structure MapAt (s : S) (m : Nat) (l : List FileD) (es : List MapEntry) (clock : Nat) : Prop where
  at_ : s.heap.get m = some (.map es clock)
  ents : Ents es l
  born : Born es clock
end Go.Proofs.YtgofanjbhbeniaaDoor.lf
end
end

section
/- Files sorted by their names: which order that is; the machine's row turned so. -/
noncomputable section
namespace Go.Proofs.YtgofanjbhbeniaaDoor.lf
open AE
set_option linter.unusedSimpArgs false
set_option linter.unusedVariables false
set_option maxRecDepth 10000

instance : Inhabited FileD := ⟨⟨0, 0, 0, 0⟩⟩
def leN (a b : FileD) : Bool := decide (a.name ≤ b.name)
/-- files by their names -/
def sortN (l : List FileD) : List FileD := l.mergeSort leN
theorem sortN_perm (l : List FileD) : (sortN l).Perm l := List.mergeSort_perm l leN
theorem sortN_len (l : List FileD) : (sortN l).length = l.length := (sortN_perm l).length_eq
theorem sortN_sorted (l : List FileD) : (sortN l).Pairwise fun a b => leN a b = true :=
  List.pairwise_mergeSort (fun a b c h1 h2 => by simp only [leN, decide_eq_true_eq] at *; omega) (fun a b => by simp only [leN, Bool.or_eq_true, decide_eq_true_eq]; omega) l
theorem nd_inj : ∀ {l : List FileD} {a b : FileD}, ND l → a ∈ l → b ∈ l → a.name = b.name → a = b
  | x :: l, a, b, h, ha, hb, e => by
    simp only [ND, List.map_cons, List.nodup_cons] at h
    rcases List.mem_cons.1 ha with h1 | h1 <;> rcases List.mem_cons.1 hb with h2 | h2
    · rw [h1, h2]
    · exact absurd (List.mem_map.2 ⟨b, h2, by rw [← e, h1]⟩) h.1
    · exact absurd (List.mem_map.2 ⟨a, h1, by rw [e, h2]⟩) h.1
    · exact nd_inj h.2 h1 h2 e
theorem nd_perm {l l' : List FileD} (h : l.Perm l') (hn : ND l) : ND l' := (List.Perm.nodup_iff (List.Perm.map (fun x : FileD => x.name) h)).1 hn
theorem sorted_one {l l' : List FileD} (hn : ND l) (hp : l'.Perm l) (hs : l'.Pairwise fun a b => leN a b = true) : l' = sortN l := by
  refine List.Perm.eq_of_pairwise (le := fun a b => leN a b = true) (fun a b ha hb h1 h2 => ?_) hs (sortN_sorted l) (hp.trans (sortN_perm l).symm)
  simp only [leN, decide_eq_true_eq] at h1 h2
  exact nd_inj hn (hp.mem_iff.1 ha) ((sortN_perm l).mem_iff.1 hb) (by omega)
theorem sortN_same {l l' : List FileD} (hn : ND l) (hp : l'.Perm l) : sortN l' = sortN l :=
  sorted_one hn ((sortN_perm l').trans hp) (sortN_sorted l')

/-! the kit's words for such a row -/
open Go.Sort in
theorem flat_fcs (d : Array FileD) : (flatK FileD.cells 4 d).toList = fcs d.toList := by
  apply List.ext_getElem?
  intro t
  by_cases ht : t < d.size * 4
  · have hq : t / 4 < d.size := by omega
    have h1 := fcs_at d.toList (t / 4) d[t / 4] (by simp [hq])
    have h2 : (fcs d.toList)[t]? = (FileD.cells d[t / 4])[t % 4]? := by
      rw [← h1, List.getElem?_take, if_pos (by omega), List.getElem?_drop]
      congr 1; omega
    rw [h2]
    have h3 := get_flatK FileD.cells 4 d t ht
    have h4 : t < (flatK FileD.cells 4 d).size := by rw [size_flatK]; exact ht
    rw [getElem!_pos (flatK FileD.cells 4 d) t h4] at h3
    rw [getElem!_pos d (t / 4) hq] at h3
    have h5 : t % 4 < (FileD.cells d[t / 4]).length := by simp [FileD.cells]; omega
    rw [getElem!_pos (FileD.cells d[t / 4]) (t % 4) h5] at h3
    rw [Array.getElem?_toList, Array.getElem?_eq_getElem h4, h3, List.getElem?_eq_getElem h5]
  · rw [List.getElem?_eq_none (by rw [Array.length_toList, size_flatK]; omega), List.getElem?_eq_none (by rw [fcs_len, Array.length_toList]; omega)]
open Go.Sort in
theorem setMany_all (F : Array Value) (vs : List Value) (h : vs.length = F.size) : setMany F 0 vs = vs.toArray := by
  refine ext_get! (by rw [size_setMany]; simp [h]) fun t ht => ?_
  rw [size_setMany] at ht
  rw [get_setMany vs 0 F t ht, if_pos (by omega), Nat.sub_zero]
  have h1 : t < vs.length := by omega
  rw [getElem!_pos vs t h1, getElem!_pos vs.toArray t (by simpa using h1)]
  simp
theorem cellsOne (x : FileD) : ∀ v ∈ x.cells, v.oneCell' = true := by
  intro v hv
  simp only [FileD.cells, List.mem_cons, List.not_mem_nil, or_false] at hv
  rcases hv with rfl | rfl | rfl | rfl <;> rfl
def ndB (l : List FileD) : Bool := decide (l.map (·.name)).Nodup
theorem ndB_iff {l : List FileD} : ndB l = true ↔ ND l := decide_eq_true_iff
/-- a row of files is sorted where it is -/
def sortA (g : FuncId) : List Value → AM Value
  | [.slice (some a) len cap, .func (.func f) ⟨[]⟩ ⟨[]⟩] => when (Nat.beq f g) (loadA a (4 * len) fun l => opt (filesOf l) fun fs => when (ndB fs) (storeA a (fcs (sortN fs)) (.pure (.tuple ⟨[]⟩))))
  | _ => .fail
open Go.Sort in
theorem compare_lt (x y : FileD) : ltOf (fun x y : FileD => Lib.compareInt x.name y.name) x y = decide (x.name < y.name) := by
  unfold ltOf Lib.compareInt
  by_cases h1 : x.name < y.name
  · simp [h1]
  · by_cases h2 : y.name < x.name <;> simp [h1, h2]
open Go.Sort in
theorem compare_swo : SWO (ltOf fun x y : FileD => Lib.compareInt x.name y.name) where
  irrefl x := by rw [compare_lt]; simp
  trans x y z h1 h2 := by rw [compare_lt] at *; simp at *; omega
  ntrans x y z h1 h2 := by rw [compare_lt] at *; simp at *; omega
/-- what the machine does at such a call -/
def Sorts (P : Program) (f g : FuncId) : Prop :=
  ∀ (blk off cap : Nat) (d : Array FileD) (w : World), Go.Sort.HoldsK FileD.cells 4 w blk off d → blk < w.heap.size → d.size < 4611686018427387904 →
    Calls P f #[.slice (some ⟨blk, off, none⟩) d.size cap, .func (.func g) #[] #[]] w fun e w' => e = .returned (.tuple #[]) ∧ ∃ d' n os, Go.Sort.PermIn 0 d.size d d' ∧ Go.Sort.SortedIn (ltOf fun x y : FileD => Lib.compareInt x.name y.name) 0 d.size d' ∧ w' = sortWorldK FileD.cells 4 w blk off n d' os
open Go.Sort in
theorem sorted_is {d d' : Array FileD} (hn : ND d.toList) (hp : PermIn 0 d.size d d') (hs : SortedIn (ltOf fun x y : FileD => Lib.compareInt x.name y.name) 0 d.size d') : d' = (sortN d.toList).toArray := by
  obtain ⟨h1, _, h2⟩ := hp
  have e1 : d'.extract 0 d.size = d' := by rw [← h1]; simp
  have e2 : d.extract 0 d.size = d := by simp
  rw [e1, e2] at h2
  have h3 : d'.toList = sortN d.toList := by
    refine sorted_one hn h2 ?_
    rw [List.pairwise_iff_getElem]
    intro i j hi hj hij
    have hj' : j < d.size := by rw [← h1]; simpa using hj
    have := hs i j (Nat.zero_le _) hij hj'
    rw [compare_lt, decide_eq_false_iff_not] at this
    rw [getElem!_pos d' i (by omega), getElem!_pos d' j (by omega)] at this
    simp only [leN, Array.getElem_toList, decide_eq_true_eq]
    omega
  rw [← h3]
/-- **a row of files sorted, told** -/
theorem told_sort {P : Program} {f g : FuncId} (h : Sorts P f g) : AE.Told P f (sortA g) := by
  intro q ρ args args' s v s' w hrun hm hl hR ha c cs0
  unfold sortA at hrun
  split at hrun
  · rename_i a len cap f'
    obtain ⟨hg, hrun2⟩ := run_when hrun
    have hg2 := beq_iff.1 hg
    subst hg2
    obtain ⟨cc, m, cells, hspot, hlt, hhas, hle, hrd, hk0⟩ := load_inv hrun2
    obtain ⟨fs, hfs, hk1⟩ := run_opt hk0
    obtain ⟨hnd1, hk⟩ := run_when hk1
    have hnd := ndB_iff.1 hnd1
    clear hk1 hk0 hrun2 hrun
    have hcells := filesOf_inv _ _ hfs
    subst hcells
    obtain ⟨hlen0, hrow⟩ := row_of_rd hrd
    obtain rfl : len = fs.length := by rw [fcs_len] at hlen0; omega
    obtain ⟨n, off, sp⟩ := a
    simp only at hspot hlt hhas hle hrow
    subst hspot
    -- the slice, as the machine has it
    obtain ⟨sv, rest, rfl, hsv, hrest⟩ : ∃ sv rest, args' = sv :: rest ∧ VR ρ (.slice (some ⟨n, off, none⟩) fs.length cap) sv ∧ LR ρ [.func (.func f') ⟨[]⟩ ⟨[]⟩] rest := by
      cases ha with | cons x y => exact ⟨_, _, rfl, x, y⟩
    obtain rfl : rest = [.func (.func f') ⟨[]⟩ ⟨[]⟩] := by
      cases hrest with
      | cons x y =>
        cases y
        cases x with
        | flat _ => rfl
        | func x y => cases x; cases y; rfl
    obtain ⟨b, base, ex, cap', hρ, rfl⟩ : ∃ b base ex cap', ρ n = some (b, base, ex) ∧ sv = .slice (some ⟨b, base + off, none⟩) fs.length cap' := by
      cases hsv with
      | flat h => cases h
      | sliceW x y =>
        obtain ⟨nm, of, b, base, ex, h1, h2, h3⟩ := x
        cases h2
        subst h3
        exact ⟨b, base, ex, _, h1, rfl⟩
      | sliceL x => exact ⟨_, _, _, _, x, rfl⟩
    have haddr : AddrR ρ ⟨n, off, none⟩ ⟨b, base + off, none⟩ := ⟨n, off, b, base, ex, hρ, rfl, rfl⟩
    have hR1 := hR.seen n
    have hone := fcs_one (sortN fs)
    have hLR : LR ρ (fcs (sortN fs)) (fcs (sortN fs)) := (plain_list (ints_fcs _).plain).1 ρ
    obtain ⟨s1, w1, hk9, hR2, hE2, hst⟩ := store_sim hR1 haddr hLR hk
    cases hk9
    -- the row, as the machine has it
    obtain ⟨cs, e, hb, hcs⟩ : ∃ cs e, w.heap[b]? = some (.cells cs e (0, 0)) ∧ ∀ j v, (fcs fs)[j]? = some v → cs[base + off + j]? = some v := by
      have key : ∀ (o : AObj), s.heap.get n = some o → ((∃ e rm, o = .cells cc m e rm) ∨ ∃ e, o = .row cc m e) → ∃ cs e z, w.heap[b]? = some (.cells cs e z) ∧ (∀ i v, cc.get i = some v → i < m → ∃ v', cs[base + i]? = some v' ∧ VR ρ v v') ∧ ((∃ e rm, o = .cells cc m e rm) → z = (0, 0)) := by
        intro o ho hx
        obtain ⟨b1, base1, ex1, obj, e1, e2, e3⟩ := hR.live n o ho
        rw [hρ] at e1; cases e1
        rcases hx with ⟨e, rm, rfl⟩ | ⟨e, rfl⟩
        · cases e3 with
          | cells x y z => exact ⟨_, _, _, e2, z, fun _ => rfl⟩
        · cases e3 with
          | row x z => exact ⟨_, _, _, e2, z, fun h => by obtain ⟨_, _, h⟩ := h; cases h⟩
      have hcell : ∃ e rm, s.heap.get n = some (.cells cc m e rm) := by
        rcases hhas with h | ⟨e, h⟩
        · exact h
        · simp only [storeA] at hk
          obtain ⟨_, hk⟩ := run_when hk
          obtain ⟨o, ho, hk⟩ := run_get hk
          have : (s.seen n).heap.get n = s.heap.get n := rfl
          rw [this, h] at ho
          cases ho
          cases hk
      obtain ⟨e, rm, hce⟩ := hcell
      obtain ⟨cs, e2, z, k1, k2, k3⟩ := key _ hce (.inl ⟨_, _, rfl⟩)
      rw [k3 ⟨_, _, rfl⟩] at k1
      refine ⟨cs, e2, k1, fun j v hj => ?_⟩
      have hj1 := (List.getElem?_eq_some_iff.1 hj).1
      obtain ⟨v', g1, g2⟩ := k2 (off + j) v (hrow j v hj) (by omega)
      have := ((ints_fcs fs).plain v (List.mem_of_getElem? hj)).2 _ _ g2
      subst this
      rw [Nat.add_assoc]; exact g1
    have hholds : Go.Sort.HoldsK FileD.cells 4 w b (base + off) fs.toArray := by
      intro j hj
      have e0 : (Go.Sort.flatK FileD.cells 4 fs.toArray)[j]? = (fcs fs)[j]? := by
        rw [← Array.getElem?_toList, flat_fcs]
      have h1 := Array.getElem?_eq_getElem hj
      rw [e0] at h1
      have h2 := hcs j _ h1
      rw [getElem!_pos (Go.Sort.flatK FileD.cells 4 fs.toArray) j hj]
      refine ⟨?_, ?_⟩
      · simp only [World.cell?, hb, id]
        exact h2
      · simp only [World.frozen?, hb]
        simp
    have hblk : b < w.heap.size := hR.blk n b base ex hρ
    have hsz : fs.toArray.size < 4611686018427387904 := by
      have h1 : 4 * fs.length ≤ m := by omega
      have h2 : m ≤ lastName := by
        simp only [storeA] at hk
        obtain ⟨_, hk⟩ := run_when hk
        obtain ⟨o, ho, hk⟩ := run_get hk
        split at hk
        · rename_i c2 m2 e2 r2
          obtain ⟨_, hk⟩ := run_when hk
          obtain ⟨h3, hk⟩ := run_when hk
          have h3 := ble_iff.1 h3
          have ho' : s.heap.get n = some (.cells c2 m2 e2 r2) := ho
          rcases hhas with ⟨e, rm, h⟩ | ⟨e, h⟩
          · rw [h] at ho'; cases ho'; exact h3
          · rw [h] at ho'; cases ho'
        · cases hk
      show fs.length < _
      unfold lastName at h2
      omega
    obtain ⟨e1, w', fr, ⟨rfl, d', nn, os, hp, hs, rfl⟩, hc, h5, hleave⟩ := h b (base + off) cap' fs.toArray w hholds hblk hsz (c :: cs0)
    have hd' : d' = (sortN fs).toArray := sorted_is (by simpa using hnd) hp hs
    -- the two worlds are one but for what was drawn and what is new
    have hst2 := stores_of_holds P hholds 0 (fcs (sortN fs)) (by rw [Go.Sort.size_flatK, fcs_len, sortN_len]; simp; omega) (fun v hv => by obtain ⟨k, n, rfl⟩ := ints_fcs _ v hv; rfl)
    rw [Nat.add_zero] at hst2
    rw [hst2] at hst
    injection hst with _ hw1
    have hself := Go.Sort.putRow_self id w b (base + off) _ hholds
    have hset : w.setCells b (base + off) (fcs (sortN fs)) = Go.Sort.putRowK FileD.cells 4 w b (base + off) d' := by
      have h1 := Go.Sort.setCells_putRow w b (base + off) (fcs (sortN fs)) 0 (Go.Sort.flatK FileD.cells 4 fs.toArray) (by rw [Go.Sort.size_flatK, fcs_len, sortN_len]; simp; omega)
      rw [Nat.add_zero, hself] at h1
      rw [h1, setMany_all _ _ (by rw [Go.Sort.size_flatK, fcs_len, sortN_len]; simp; omega)]
      unfold Go.Sort.putRowK
      congr 1
      rw [hd', ← flat_fcs]
    rw [hset] at hw1
    have hR3 : Rep P q ρ s' (Go.Sort.putRowK FileD.cells 4 (Go.Sort.ahead w nn) b (base + off) d') := by
      have := hR2.drew (w.drawn + nn)
      rw [← hw1] at this
      exact this
    have hE3 : Evo ρ w ρ (Go.Sort.putRowK FileD.cells 4 (Go.Sort.ahead w nn) b (base + off) d') := by
      rw [← hw1] at hE2
      exact ⟨hE2.sub, hE2.frame, hE2.size, hE2.new, hE2.rest⟩
    have hbel : Go.RowKit.Below (Go.Sort.putRowK FileD.cells 4 (Go.Sort.ahead w nn) b (base + off) d').heap.size (Go.Sort.putRowK FileD.cells 4 (Go.Sort.ahead w nn) b (base + off) d') (sortWorldK FileD.cells 4 w b (base + off) nn d' os) := by
      unfold sortWorldK Go.Sort.grow
      refine ⟨rfl, rfl, rfl, by simp, fun k hk => ?_⟩
      simp only [Array.getElem?_append_left hk]
    obtain ⟨hR4, hE4⟩ := hR3.below hbel
    exact ⟨ρ, .tuple #[], _, hR4, hE3.trans hE4, .tuple .nil, Steps.trans hc (.one (step_leave_returned hleave))⟩
  · cases hrun
end Go.Proofs.YtgofanjbhbeniaaDoor.lf
end
end

section
/- slices.SortFunc and cmp.Compare as the kit's tool lay-plain.mjs has laid them at this program. -/
noncomputable section
namespace Go.Proofs.YtgofanjbhbeniaaDoor.lf
open Go.Shelf
set_option maxRecDepth 10000
def sortF_ren : Go.Shelf.Ren := ⟨fun | 6 => 31 | 15 => 42 | 14 => 41 | 28 => 60 | 29 => 61 | 20 => 52 | 21 => 53 | 22 => 54 | 23 => 55 | 24 => 56 | 25 => 57 | 26 => 58 | 27 => 59 | 46 => 66 | 47 => 67 | 48 => 68 | 49 => 69 | 50 => 70 | 57 => 73 | n => n, fun | 22 => 25 | 24 => 41 | 25 => 63 | 3 => 3 | 39 => 65 | 0 => 0 | 53 => 73 | 55 => 92 | 4 => 4 | 46 => 84 | 45 => 83 | 50 => 88 | 5 => 5 | 9 => 9 | 66 => 97 | 70 => 101 | 76 => 103 | 77 => 104 | n => n, fun | n => n⟩
theorem sortF : Go.Proofs.SlLaysF0.n6 Tryd.prog sortF_ren := {
  mixed := by kernel_rfl
  f6 := ⟨Tryd.f31.name, by decide, Tryd.func31.trans (congrArg some (by kernel_rfl))⟩
  f14 := ⟨Tryd.f41.name, by decide, Tryd.func41.trans (congrArg some (by kernel_rfl))⟩
  f15 := Tryd.func42.trans (congrArg some (by kernel_rfl))
  f20 := ⟨Tryd.f52.name, by decide, Tryd.func52.trans (congrArg some (by kernel_rfl))⟩
  f21 := ⟨Tryd.f53.name, by decide, Tryd.func53.trans (congrArg some (by kernel_rfl))⟩
  f22 := ⟨Tryd.f54.name, by decide, Tryd.func54.trans (congrArg some (by kernel_rfl))⟩
  f23 := ⟨Tryd.f55.name, by decide, Tryd.func55.trans (congrArg some (by kernel_rfl))⟩
  f24 := ⟨Tryd.f56.name, by decide, Tryd.func56.trans (congrArg some (by kernel_rfl))⟩
  f25 := ⟨Tryd.f57.name, by decide, Tryd.func57.trans (congrArg some (by kernel_rfl))⟩
  f26 := ⟨Tryd.f58.name, by decide, Tryd.func58.trans (congrArg some (by kernel_rfl))⟩
  f27 := ⟨Tryd.f59.name, by decide, Tryd.func59.trans (congrArg some (by kernel_rfl))⟩
  f28 := Tryd.func60.trans (congrArg some (by kernel_rfl))
  f29 := Tryd.func61.trans (congrArg some (by kernel_rfl))
  f46 := ⟨Tryd.f66.name, by decide, Tryd.func66.trans (congrArg some (by kernel_rfl))⟩
  f47 := Tryd.func67.trans (congrArg some (by kernel_rfl))
  f48 := Tryd.func68.trans (congrArg some (by kernel_rfl))
  f49 := ⟨Tryd.f69.name, by decide, Tryd.func69.trans (congrArg some (by kernel_rfl))⟩
  f50 := ⟨Tryd.f70.name, by decide, Tryd.func70.trans (congrArg some (by kernel_rfl))⟩
  f57 := ⟨Tryd.f73.name, by decide, Tryd.func73.trans (congrArg some (by kernel_rfl))⟩
  t0 := Tryd.underlying0
  a0 := Tryd.isAgg0
  z0 := Tryd.sizeOf0
  v0 := Tryd.zeroValue0
  t3 := Tryd.underlying3
  a3 := Tryd.isAgg3
  z3 := Tryd.sizeOf3
  v3 := Tryd.zeroValue3
  t4 := Tryd.underlying4
  a4 := Tryd.isAgg4
  z4 := Tryd.sizeOf4
  v4 := Tryd.zeroValue4
  t5 := Tryd.underlying5
  a5 := Tryd.isAgg5
  z5 := Tryd.sizeOf5
  v5 := Tryd.zeroValue5
  t9 := Tryd.underlying9
  a9 := Tryd.isAgg9
  z9 := Tryd.sizeOf9
  v9 := Tryd.zeroValue9
  t22 := Tryd.underlying25
  a22 := Tryd.isAgg25
  z22 := Tryd.sizeOf25
  v22 := Tryd.zeroValue25
  t25 := Tryd.underlying63
  a25 := Tryd.isAgg63
  z25 := Tryd.sizeOf63
  v25 := Tryd.zeroValue63
  t39 := Tryd.underlying65
  a39 := Tryd.isAgg65
  z39 := Tryd.sizeOf65
  v39 := Tryd.zeroValue65
  t45 := Tryd.underlying83
  a45 := Tryd.isAgg83
  z45 := Tryd.sizeOf83
  v45 := Tryd.zeroValue83
  t46 := Tryd.underlying84
  a46 := Tryd.isAgg84
  z46 := Tryd.sizeOf84
  v46 := Tryd.zeroValue84
  t50 := Tryd.underlying88
  a50 := Tryd.isAgg88
  z50 := Tryd.sizeOf88
  v50 := Tryd.zeroValue88
  t53 := Tryd.underlying73
  a53 := Tryd.isAgg73
  z53 := Tryd.sizeOf73
  v53 := Tryd.zeroValue73
  t55 := Tryd.underlying92
  a55 := Tryd.isAgg92
  z55 := Tryd.sizeOf92
  v55 := Tryd.zeroValue92
  t66 := Tryd.underlying97
  a66 := Tryd.isAgg97
  z66 := Tryd.sizeOf97
  v66 := Tryd.zeroValue97
  t70 := Tryd.underlying101
  a70 := Tryd.isAgg101
  z70 := Tryd.sizeOf101
  v70 := Tryd.zeroValue101
  t76 := Tryd.underlying103
  a76 := Tryd.isAgg103
  z76 := Tryd.sizeOf103
  v76 := Tryd.zeroValue103
  t77 := Tryd.underlying104
  a77 := Tryd.isAgg104
  z77 := Tryd.sizeOf104
  v77 := Tryd.zeroValue104 }
def cmpInt_ren : Go.Shelf.Ren := ⟨fun | 5 => 33 | 7 => 43 | n => n, fun | 22 => 3 | 3 => 3 | 4 => 4 | n => n, fun | n => n⟩
theorem cmpInt : Go.Proofs.SlLaysC2.n5 Tryd.prog cmpInt_ren := {
  mixed := by kernel_rfl
  f5 := ⟨Tryd.f33.name, by decide, Tryd.func33.trans (congrArg some (by kernel_rfl))⟩
  f7 := ⟨Tryd.f43.name, by decide, Tryd.func43.trans (congrArg some (by kernel_rfl))⟩
  t3 := Tryd.underlying3
  a3 := Tryd.isAgg3
  z3 := Tryd.sizeOf3
  v3 := Tryd.zeroValue3
  t4 := Tryd.underlying4
  a4 := Tryd.isAgg4
  z4 := Tryd.sizeOf4
  v4 := Tryd.zeroValue4
  t22 := Tryd.underlying3
  a22 := Tryd.isAgg3
  z22 := Tryd.sizeOf3
  v22 := Tryd.zeroValue3 }

open AE Go.Shelf Go.RowKit Go.Lib Go.Sort
/-- how files are compared: two blocks are laid -/
theorem cmp_files (x y : FileD) (W : World) : Calls Tryd.prog 32 #[.agg #[.int .i64 x.name, .int .i64 x.file, .int .i64 x.first, .int .i64 x.blocks], .agg #[.int .i64 y.name, .int .i64 y.file, .int .i64 y.first, .int .i64 y.blocks]] W fun e w' => e = .returned (.int .i64 (Lib.compareInt x.name y.name)) ∧ ∃ q os', w' = grow (W.drewN q) os' := by
  have hcon := fun W' => AnyG.cmp_Compare_int cmpInt x.name y.name W'
  change ∀ W', Calls Tryd.prog 33 _ _ _ at hcon
  generalize Lib.compareInt x.name y.name = r at hcon ⊢
  go_enter Tryd.func32, Tryd.ntmps32
  go_wp2_with (go_at_call 33; refine (hcon _).mono ?_; rintro e w' ⟨rfl, rfl⟩)
  go_ret
  exact ⟨rfl, 0, _, by rw [alloc_eq_grow, alloc_eq_grow, grow_grow]; rfl⟩
theorem sorts_files : Sorts Tryd.prog 31 32 := by
  intro blk off cap d w hH hblk hsz
  have eg : ∀ args w, (callFunc 32 args).run Tryd.prog w = .ok (.enter 32 args) w := enters_of Tryd.func32 (by kernel_rfl) rfl
  have hcon := AnyQ.slices_SortFunc sortF 4 Tryd.isAgg41 Tryd.sizeOf41 FileD.cells (fun _ => rfl) cellsOne (fun x y => Lib.compareInt x.name y.name) compare_swo 32 #[] blk off cap d w eg (fun _ _ _ _ x y => cmp_files x y _) hH hblk hsz
  change Calls Tryd.prog 31 _ _ _ at hcon
  exact hcon
theorem told_sortF : AE.Told Tryd.prog 31 (sortA 32) := told_sort sorts_files
end Go.Proofs.YtgofanjbhbeniaaDoor.lf
end
end
