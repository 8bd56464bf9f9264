/- What is put is found, what is gone isn't, all else stays; names rise; what it was made of stays: at all catalogs, files and names. -/
import Derived.Test.YtgofanjbhbeniaaDoorPRowCatalogWith6
import Derived.ChangeArms
import Derived.ChangeReads
import Derived.ChangeShapes
import Derived.RowKit
import Derived.Deep.Slices
import Derived.Deep.Fields
import Derived.ChangeSame
import Derived.OpenShut
import Derived.ProofKit
import Derived.Test.YtgofanjbhbeniaaDoorRows
import Derived.Test.YtgofanjbhbeniaaDoorCards
import Derived.Test.YtgofanjbhbeniaaDoorTie
import Derived.WalkKit
import Derived.ShutString
import Derived.ChangeOld
import Derived.Below
import Derived.LaidMore
import Derived.Lay
import Derived.SevenTiedAt
import Derived.Stop.Joined
section
/- Catalogs made anew: the statement walked to its end. -/
noncomputable section
namespace Go.Proofs.YtgofanjbhbeniaaDoor.lf
open AE
set_option linter.unusedSimpArgs false
set_option linter.unusedVariables false
set_option maxRecDepth 10000

theorem r14_any (D D2 : CatD) (ps : List FileD) (gs : List Int) (name : Int) (a1 a2 a3 b : Option Addr) (c1 c2 c3 cb w cw T : Nat) (t : Tr Value) (H : Tr AObj) (mk rd wr : Nat) (l1 : D.files.length ≤ 14) (l2 : ps.length ≤ 6) (l3 : D2.files.length ≤ 20)
    (k1 : t.get 1 = some (.slice a2 ps.length c2)) (k9 : t.get 9 = some (.slice (some ⟨w, 0, none⟩) D.files.length cw)) (k10 : t.get 10 = some (.pointer (some ⟨T, 0, none⟩)))
    (C2 : Cl ⟨H, 11, 0, 0, 0⟩ T 0 (D2.cells b cb)) (VW : Vx ⟨H, 11, 0, 0, 0⟩ (some ⟨w, 0, none⟩) (fcs D.files)) (V2 : Vx ⟨H, 11, 0, 0, 0⟩ a2 (fcs ps)) (VB : Vx ⟨H, 11, 0, 0, 0⟩ b (fcs D2.files)) (wlt : w = 4 ∨ w = 5) (lo2 : ∀ ad, a2 = some ad → ad.block < 3)
    (made : (D2.files = [] ∧ b = none ∧ cb = 0 ∧ T = 6) ∨ (D2.files ≠ [] ∧ b = some ⟨6, 0, none⟩ ∧ cb = Nat.add OPEN D2.files.length ∧ T = 7)) :
    GoC E (sumsOf sigWl) cd14 ⟨5, t, 174, [], none⟩ ⟨H, 11, mk, rd, wr⟩ (Post14 t H mk (D.files ++ ps ++ D2.files)) := by
  have nilA : ∀ ps : List FileD, ps ≠ [] → ∀ a2, Vx ⟨H, 11, 0, 0, 0⟩ a2 (fcs ps) → ∃ k o, a2 = some ⟨k, o, none⟩ ∧ Cl ⟨H, 11, 0, 0, 0⟩ k o (fcs ps) := by
    intro ps hne a2 hv
    cases a2 with
    | none =>
      have h0 : fcs ps = [] := hv
      have := fcs_len ps
      rw [h0] at this
      have h4 : (0 : Nat) = 4 * ps.length := this
      exact absurd (List.eq_nil_of_length_eq_zero (by omega)) hne
    | some ad =>
      obtain ⟨k, o, sp⟩ := ad
      obtain ⟨h1, h2⟩ := hv
      simp only at h1 h2
      subst h1
      exact ⟨k, o, rfl, h2⟩
  by_cases h1 : D.files = []
  · rw [h1] at k9
    by_cases h2 : ps = []
    · subst h2
      rcases made with ⟨h3, rfl, rfl, rfl⟩ | ⟨h3, rfl, rfl, rfl⟩
      · rw [h1, h3]
        exact r14_eee a2 w cw c2 0 wlt D2 h3 H mk rd wr t k1 k9 k10 C2
      · have := r14_een D2.files h3 l3 a2 w cw c2 _ wlt D2 rfl H mk rd wr t k1 k9 k10 C2 VB.2
        rw [h1]; exact this
    · obtain ⟨k2, o2, rfl, C⟩ := nilA ps h2 a2 V2
      have hk2 : k2 < 3 := lo2 _ rfl
      rcases made with ⟨h3, rfl, rfl, rfl⟩ | ⟨h3, rfl, rfl, rfl⟩
      · have := r14_ene ps h2 l2 k2 o2 w cw c2 0 wlt hk2 D2 h3 H mk rd wr t k1 k9 k10 C2 C
        rw [h1, h3, List.append_nil]; exact this
      · have := r14_enn ps h2 l2 D2.files h3 l3 k2 o2 w cw c2 _ wlt hk2 D2 rfl H mk rd wr t k1 k9 k10 C2 C VB.2
        rw [h1]; exact this
  · by_cases h2 : ps = []
    · subst h2
      rcases made with ⟨h3, rfl, rfl, rfl⟩ | ⟨h3, rfl, rfl, rfl⟩
      · have := r14_nee D.files h1 l1 a2 w cw c2 0 wlt D2 h3 H mk rd wr t k1 k9 k10 C2 VW.2
        rw [h3, List.append_nil, List.append_nil]; exact this
      · have := r14_nen D.files h1 l1 D2.files h3 l3 a2 w cw c2 _ wlt D2 rfl H mk rd wr t k1 k9 k10 C2 VW.2 VB.2
        rw [List.append_nil]; exact this
    · obtain ⟨k2, o2, rfl, C⟩ := nilA ps h2 a2 V2
      have hk2 : k2 < 3 := lo2 _ rfl
      rcases made with ⟨h3, rfl, rfl, rfl⟩ | ⟨h3, rfl, rfl, rfl⟩
      · have := r14_nne D.files h1 l1 ps h2 l2 k2 o2 w cw c2 0 wlt hk2 D2 h3 H mk rd wr t k1 k9 k10 C2 VW.2 C
        rw [h3, List.append_nil]; exact this
      · exact r14_nnn D.files h1 l1 ps h2 l2 D2.files h3 l3 k2 o2 w cw c2 _ wlt hk2 D2 rfl H mk rd wr t k1 k9 k10 C2 VW.2 C VB.2
theorem chW2 : sub [1,1,1,1,1,1] cdWl = .seq (.seq (sub [1,1,1,1,1,1,0,0] cdWl) (.block 0 (.loop cdU))) (.seq (sub [1,1,1,1,1,1,1,0] cdWl) (.seq (.seq cd14 (.block 2 (.loop cdN))) (.seq (.seq (sub [1,1,1,1,1,1,1,1,1,0,0] cdWl) (.block 4 (.loop cdQ))) (sub [1,1,1,1,1,1,1,1,1,1] cdWl)))) := rfl
set_option maxHeartbeats 8000000 in
theorem with_end (q : Free) (hq : 100000 ≤ q.hi) (D : CatD) (ps : List FileD) (gs : List Int) (name : Int) (a1 a2 a3 b : Option Addr) (c1 c2 c3 cb w cw T : Nat) (t : Tr Value) (s : S) (hX : XAt D (withD D ps gs) ps gs name a1 a2 a3 b c1 c2 c3 cb w cw T t s) (hD : ND D.files) (l1 : D.files.length ≤ 14) (l2 : ps.length ≤ 6) (l3 : gs.length ≤ 6) :
    GoW Tryd.prog q (sub [1,1,1,1,1,1] cdWl) ⟨5, t, 174, [], none⟩ s (Ret E 5 fiWl fun v _ => v = .bool true) := by
  obtain ⟨t1, t2, t3, t4, t9, t10, hn, hm, C, C2, V1, V2, V3, VW, VB, wlt, lo1, lo2, lo3, made⟩ := hX
  have hnl := newM_nd D.files ps gs
  have hsl : (withD D ps gs).files.length = (newM D.files ps gs).length := sortN_len _
  have hl20 : (withD D ps gs).files.length ≤ 20 := by omega
  rw [chW2]
  generalize h14 : cd14 = x14
  simp only [cdWl, Tryd.f5, bodyOf, sub]
  -- names rise
  apply gow_seq
  apply gow_of hE hmix tolds_Wl
  repeat apply go_seq
  apply go_region
  case h => intro m; simp (maxSteps := 2000000) (disch := decide) only [opsLoop, evOper, wantedA, nth, aop, aPick, aBin, aIndexAddr, aFieldAddr, aLoad, aStore, aExtract, aConvert, aAlloc, aBox, aIndex, callA, builtinA, Fr.evs, opt, val, when, AM.run, outV, newA, ptr, force_eq, seen_heap, seen_next, seen_mark, seen_seen, agg_cells, int_cells, Fr.ev, Fr.put, onFr, gps, gpn, bltT, still, flat, List.append_nil, List.nil_append, List.cons_append, Nat.reduceEqDiff, ne_eq, not_false_eq_true, reduceCtorEq, Bool.and_true, Bool.true_and, Bool.and_false, Bool.false_and, Bool.not_true, Bool.not_false, Bool.and_self]; rfl
  apply go_block
  refine (go_loop_inv (body := cdU) (InvU s ps gs name a2 a3 c2 c3 w D.files.length cw T (withD D ps gs).files.length) (fun k fr s1 hI => rise_round s hn (withD D ps gs) (newM D.files ps gs) rfl hnl.1 (by omega) b cb ps gs name a2 a3 c2 c3 w D.files.length cw T C2 VB (by
    rcases made with h | h
    · exact .inl h.2.1
    · exact .inr ⟨_, h.2.1⟩) k fr s1 hI) ((withD D ps gs).files.length - 1) _ _ ⟨1, _, rfl, Nat.le_refl _, rfl, ⟨?_, ?_, ?_, ?_, ?_, ?_⟩, ?_, ⟨rfl, hn, rfl⟩⟩).mono ?_
  · simp (disch := decide) only [gps, gpn, t1]
  · simp (disch := decide) only [gps, gpn, t2]
  · simp (disch := decide) only [gps, gpn, t3]
  · simp (disch := decide) only [gps, gpn, t4]
  · simp (disch := decide) only [gps, gpn, t9]
  · simp (disch := decide) only [gps, gpn, t10]
  · simp (disch := decide) only [gps, gpn, int1]
  rintro x fr s1 ⟨rfl, t5, rfl, ⟨k1, k2, k3, k4, k9, k10⟩, hh1, hn1, hm1⟩
  simp only [Out_, if_true]
  refine ⟨by omega, ?_⟩
  show GoW _ _ _ _ _ _
  -- the first name
  have b10 : Nat.ble 10 lastName = true := rfl
  have old : ∀ {a : Option Addr} {L : List Value}, Vx s a L → ∀ s2 : S, 10 ≤ s2.next → (∀ m, m < 10 → s2.heap.get m = s.heap.get m) → Vx s2 a L := fun hv s2 h1 h2 => vx_keep hv (by omega) (fun m hm => h2 m (by omega))
  have oldC : ∀ {m0 : Nat} {L : List Value}, Cl s m0 0 L → ∀ s2 : S, 10 ≤ s2.next → (∀ m, m < 10 → s2.heap.get m = s.heap.get m) → Cl s2 m0 0 L := fun hv s2 h1 h2 => hv.keep (by omega) (h2 _ (by have := hv.lt; omega))
  obtain ⟨H, N, mk, rd, wr⟩ := s1
  simp only at hh1 hn1 hm1
  subst hn1
  apply gow_seq
  apply gow_of hE hmix tolds_Wl
  repeat apply go_seq
  apply go_region
  case h => intro m; simp (maxSteps := 2000000) (disch := decide) only [opsLoop, evOper, wantedA, nth, aop, aPick, aBin, aIndexAddr, aFieldAddr, aLoad, aStore, aExtract, aConvert, aAlloc, aBox, aIndex, callA, builtinA, Fr.evs, opt, val, when, AM.run, outV, newA, ptr, force_eq, seen_heap, seen_next, seen_mark, seen_seen, agg_cells, int_cells, Fr.ev, Fr.put, onFr, gps, gpn, bltT, still, flat, List.append_nil, List.nil_append, List.cons_append, Nat.reduceEqDiff, ne_eq, not_false_eq_true, reduceCtorEq, Bool.and_true, Bool.true_and, Bool.and_false, Bool.false_and, Bool.not_true, Bool.not_false, Bool.and_self, k3, aBuildSlice, evParts, tyIs, dsIs, tyI, szI, dsI, zeI, fillI, b10, int_cells, int0, show Nat.ble (Nat.mul 1 1) 1048576 = true from rfl, show Nat.beq ([Value.int .i64 (Int.ofNat 0)] : List Value).length 1 = true from rfl, show Nat.ble 1 1 = true from rfl, show Nat.ble ([Value.int .i64 name] : List Value).length lastName = true from rfl]; rfl
  refine ⟨by show 11 ≤ q.hi; omega, ?_⟩
  show GoW _ _ _ _ _ _
  generalize hs2 : S.mk _ _ _ _ _ = s2
  have e2 : s2.next = 11 := by rw [← hs2]
  have e2m : s2.mark = mk := by rw [← hs2]
  have e2h : s2.heap = H.put 10 (some (.cells (Tr.ofList [Value.int .i64 name]) ([Value.int .i64 name] : List Value).length 3 .whole)) := by rw [← hs2]
  clear hs2
  have g2 : ∀ m, m < 10 → s2.heap.get m = s.heap.get m := fun m hm => by rw [e2h, hg_far b10 (by omega), hh1]
  have I2 : s2.heap.get 10 = some (.cells (Tr.ofList [Value.int .i64 name]) ([Value.int .i64 name] : List Value).length 3 .whole) := by rw [e2h]; exact hg_same b10 _ _
  clear e2h
  generalize ht6 : Tr.put _ _ _ = t6
  have u1 : t6.get 1 = some (.slice a2 ps.length c2) := by rw [← ht6]; simp (disch := decide) only [gps, gpn, k1]
  have u2 : t6.get 2 = some (.slice a3 gs.length c3) := by rw [← ht6]; simp (disch := decide) only [gps, gpn, k2]
  have u3 : t6.get 3 = some (.int .i64 name) := by rw [← ht6]; simp (disch := decide) only [gps, gpn, k3]
  have u4 : t6.get 4 = some (.pointer (some ⟨3, 0, none⟩)) := by rw [← ht6]; simp (disch := decide) only [gps, gpn, k4]
  have u9 : t6.get 9 = some (.slice (some ⟨w, 0, none⟩) D.files.length cw) := by rw [← ht6]; simp (disch := decide) only [gps, gpn, k9]
  have u10 : t6.get 10 = some (.pointer (some ⟨T, 0, none⟩)) := by rw [← ht6]; simp (disch := decide) only [gps, gpn, k10]
  have u12 : t6.get 12 = some (.slice (some ⟨10, 0, none⟩) 1 1) := by rw [← ht6]; simp (disch := decide) only [gps, gpn]
  clear ht6 k1 k2 k3 k4 k9 k10
  -- all files in one list
  obtain ⟨H2, N2, mk2, rd2, wr2⟩ := s2
  simp only at e2 e2m g2 I2
  subst e2
  have c14 := r14_any D (withD D ps gs) ps gs name a1 a2 a3 b c1 c2 c3 cb w cw T t6 H2 mk2 rd2 wr2 l1 l2 hl20 u1 u9 u10 (oldC C2 _ (by show 10 ≤ 11; omega) g2) (old VW _ (by show 10 ≤ 11; omega) g2) (old V2 _ (by show 10 ≤ 11; omega) g2) (old VB _ (by show 10 ≤ 11; omega) g2) wlt lo2 made
  rw [h14] at c14
  apply gow_seq
  apply gow_seq
  refine gow_of hE hmix tolds_Wl (c14.mono ?_)
  rintro x fr s3 ⟨rfl, n3, m3, t7, rfl, K7, ⟨⟨R, cM, v111, VM⟩, v112, v113, o3⟩⟩
  refine ⟨by omega, ?_⟩
  show GoW _ _ _ _ _ _
  rw [← K7 1 (by omega)] at u1
  rw [← K7 2 (by omega)] at u2
  rw [← K7 3 (by omega)] at u3
  rw [← K7 4 (by omega)] at u4
  rw [← K7 9 (by omega)] at u9
  rw [← K7 10 (by omega)] at u10
  rw [← K7 12 (by omega)] at u12
  clear K7 c14
  have hMl : (D.files ++ ps ++ (withD D ps gs).files).length ≤ 40 := by simp only [List.length_append]; omega
  generalize D.files ++ ps ++ (withD D ps gs).files = M at *
  have g3 : ∀ m, m < 10 → s3.heap.get m = s.heap.get m := fun m hm => by rw [o3 m (by omega)]; exact g2 m hm
  have I3 : s3.heap.get 10 = some (.cells (Tr.ofList [Value.int .i64 name]) ([Value.int .i64 name] : List Value).length 3 .whole) := by rw [o3 10 (by omega)]; exact I2
  refine gow_less (fr2 := ⟨5, t7, 174, [], none⟩) (s2 := ⟨s3.heap, 16, s3.mark, 0, 0⟩) ?_ ⟨n3, fun m o ho => ⟨o, ho, .refl o⟩⟩ (by show s3.mark ≤ 16; omega) ⟨rfl, rfl, rfl, rfl, fun _ _ h => h⟩
  have VM : Vx ⟨s3.heap, 16, s3.mark, 0, 0⟩ (some ⟨R, 0, none⟩) (fcs M) := vx_keep VM n3 (fun _ _ => rfl)
  have hI : Cl ⟨s3.heap, 16, s3.mark, 0, 0⟩ 10 0 (icsL [name]) := Cl.new (by show 10 < 16; omega) I3 (by rw [ics_len]; show 1 ≤ 1000000; omega)
  generalize hs4 : S.mk s3.heap 16 s3.mark 0 0 = s4 at *
  have e4 : s4.next = 16 := by rw [← hs4]
  have e4h : s4.heap = s3.heap := by rw [← hs4]
  clear hs4
  have g4 : ∀ m, m < 10 → s4.heap.get m = s.heap.get m := fun m hm => by rw [e4h]; exact g3 m hm
  -- their names
  apply gow_of hE hmix tolds_Wl
  apply go_block
  refine (go_loop_inv (body := cdN) (InvN s4 16 ps gs name a2 a3 c2 c3 w D.files.length cw T R cM M) (fun k fr s1 hI => name_round s4 16 (by omega) ps gs name a2 a3 c2 c3 w D.files.length cw T R cM M (by omega) VM (by omega) k fr s1 hI) (M.length - 0) _ _ ⟨0, t7, .slice (some ⟨10, 0, none⟩) 1 1, rfl, by omega, rfl, ⟨u1, u2, u3, u4, u9, u10⟩, v111, v112, v113, u12, by omega, .inl ⟨10, by omega, rfl, hI⟩, fun _ _ => rfl⟩).mono ?_
  rintro x fr s5 ⟨rfl, t8, sv, rfl, ⟨k1, k2, k3, k4, k9, k10⟩, k12, n5, A5, f5⟩
  simp only [Out_, if_true]
  refine ⟨by omega, ?_⟩
  show GoW _ _ _ _ _ _
  have hnl2 : (namesOf name M).length ≤ 41 := by rw [namesOf_len]; omega
  obtain ⟨Rn, cn, rfl, VN⟩ := A5.vx (by omega)
  have g5 : ∀ m, m < 10 → s5.heap.get m = s.heap.get m := fun m hm => by rw [f5 m (by omega)]; exact g4 m hm
  generalize namesOf name M = ns at *
  -- each is looked up
  apply gow_seq
  apply gow_of hE hmix tolds_Wl
  repeat apply go_seq
  apply go_region
  case h => intro m; simp (maxSteps := 2000000) (disch := decide) only [opsLoop, evOper, wantedA, nth, aop, aPick, aBin, aIndexAddr, aFieldAddr, aLoad, aStore, aExtract, aConvert, aAlloc, aBox, aIndex, callA, builtinA, Fr.evs, opt, val, when, AM.run, outV, newA, ptr, force_eq, seen_heap, seen_next, seen_mark, seen_seen, agg_cells, int_cells, Fr.ev, Fr.put, onFr, gps, gpn, bltT, still, flat, List.append_nil, List.nil_append, List.cons_append, Nat.reduceEqDiff, ne_eq, not_false_eq_true, reduceCtorEq, Bool.and_true, Bool.true_and, Bool.and_false, Bool.false_and, Bool.not_true, Bool.not_false, Bool.and_self, k12, tyIs, dsIs]; rfl
  apply go_block
  have hMQ : MemQ s5 D (withD D ps gs) ps gs ns a1 a2 a3 b c1 cb T Rn := ⟨oldC C s5 (by omega) g5, oldC C2 s5 (by omega) g5, old V1 s5 (by omega) g5, old V2 s5 (by omega) g5, old V3 s5 (by omega) g5, old VB s5 (by omega) g5, VN⟩
  refine (go_loop_inv (body := cdQ) (InvQ s5 s5.next ps gs ns name a2 a3 c2 c3 w D.files.length cw T Rn cn) (fun k fr s1 hI => find_round s5 s5.next (by omega) D ps gs ns name a1 a2 a3 b c1 c2 c3 cb w D.files.length cw T Rn cn hD (by omega) (by omega) l2 l3 (by omega) (Nat.le_refl _) hMQ k fr s1 hI) (ns.length - 0) _ _ ⟨0, _, rfl, by omega, rfl, ⟨?_, ?_, ?_, ?_, ?_, ?_⟩, ?_, ?_, ?_, Nat.le_refl _, Nat.le_refl _, fun _ _ => rfl⟩).mono ?_
  · simp (disch := decide) only [gps, gpn, k1]
  · simp (disch := decide) only [gps, gpn, k2]
  · simp (disch := decide) only [gps, gpn, k3]
  · simp (disch := decide) only [gps, gpn, k4]
  · simp (disch := decide) only [gps, gpn, k9]
  · simp (disch := decide) only [gps, gpn, k10]
  · simp (disch := decide) only [gps, gpn]
  · simp (disch := decide) only [gps, gpn]
  · simp (disch := decide) only [gps, gpn, int0]
  rintro x fr s6 ⟨rfl, n6, t9, rfl⟩
  simp only [Out_, if_true]
  refine ⟨by omega, ?_⟩
  show GoW _ _ _ _ _ _
  -- and chapter 6's runs
  apply gow_of hE hmix tolds_Wl
  obtain ⟨H6, N6, mk6, rd6, wr6⟩ := s6
  simp only at n6
  repeat apply go_seq
  apply go_region
  case h => intro m; simp (maxSteps := 2000000) (disch := decide) only [opsLoop, evOper, wantedA, nth, aop, aPick, aBin, aIndexAddr, aFieldAddr, aLoad, aStore, aExtract, aConvert, aAlloc, aBox, aIndex, callA, builtinA, Fr.evs, opt, val, when, AM.run, outV, newA, ptr, force_eq, seen_heap, seen_next, seen_mark, seen_seen, agg_cells, int_cells, Fr.ev, Fr.put, onFr, gps, gpn, bltT, still, flat, List.append_nil, List.nil_append, List.cons_append, Nat.reduceEqDiff, ne_eq, not_false_eq_true, reduceCtorEq, Bool.and_true, Bool.true_and, Bool.and_false, Bool.false_and, Bool.not_true, Bool.not_false, Bool.and_self, tgCX, evT_told wlX, cxRun]; rfl
  repeat apply go_seq
  apply go_ret
  refine ⟨by show N6 ≤ _; omega, ?_⟩
  apply ret_intro rfl rfl
  case run => simp (disch := decide) only [resultsM, resultsA, resWl, opsLoop, evOper, wantedA, nth, aop, aPick, aBin, aIndexAddr, aFieldAddr, aLoad, aStore, aExtract, aConvert, aAlloc, aBox, aIndex, callA, builtinA, Fr.evs, opt, val, when, AM.run, outV, newA, ptr, force_eq, seen_heap, seen_next, seen_mark, seen_seen, agg_cells, int_cells, Fr.ev, Fr.put, onFr, gps, gpn, bltT, still, flat, List.append_nil, List.nil_append, List.cons_append, Nat.reduceEqDiff, ne_eq, not_false_eq_true, reduceCtorEq, Bool.and_true, Bool.true_and, Bool.and_false, Bool.false_and, Bool.not_true, Bool.not_false, Bool.and_self]; rfl
  rfl
end Go.Proofs.YtgofanjbhbeniaaDoor.lf
end
end

section
/- A catalog that is handed in, opened: its numbers and its files. -/
noncomputable section
namespace Go.Proofs.YtgofanjbhbeniaaDoor.lf
open AE
open Go.RowKit Go.ChangeShapes Go.WideShapes Go.Deep
set_option linter.unusedSimpArgs false
set_option linter.unusedVariables false
set_option maxRecDepth 10000

section
variable {H : Type} {enc : TypeId × Value → H} {P : Program} {w : World} {base : Nat} {spare : Nat → Bool} {held : Bool}
theorem open_slice_fields {t e : TypeId} {fs : Array Field} {fuel : Nat} {cs : List Value} {x : DataW H × List MemPlace} (ht : P.underlying t = some (.slice e)) (he : P.underlying e = some (.struct fs))
    (hone : oneCellFields P fs = true) (hC : P.cellsOf e = fs.size) (h : DataW.trod enc P w base spare held fuel t cs = some x) :
    (cs = [.slice none 0 0] ∧ x = (.nil, [])) ∨
    ∃ (a : Addr) (len cap : Nat), cs = [.slice (some a) len cap] ∧ base ≤ a.block ∧ len ≤ cap ∧ cap ≤ maxLen ∧
      ∀ i, i < len → ∃ (ys : List (DataW H × List MemPlace)) (n : Nat), ys.length = fs.size ∧
        ∀ (j : Nat) (f : Field), fs[j]? = some f → ∃ (v : Value) (y : DataW H × List MemPlace), w.cell? (a.add (i * fs.size + j)) = some v ∧ ys[j]? = some y ∧ DataW.trod enc P w base spare held n f.type [v] = some y := by
  rcases open_slice ht h with h0 | ⟨a, len, cap, m, n, D, Pl, hcs, hb, hl, hm, hmm, hx, hi⟩
  · exact .inl h0
  · have hlm : len ≤ m := by rw [hmm]; split <;> omega
    refine .inr ⟨a, len, cap, hcs, hb, hl, hm, fun i hil => ?_⟩
    obtain ⟨cs', hc, ht'⟩ := hi i (by omega)
    rw [hC] at hc
    obtain ⟨ys, n', hn', hy, hlen, hyl, hf⟩ := DataW.trod_struct he ht'
    obtain ⟨_, hcl, hat⟩ := World.cells?_some hc
    refine ⟨ys, n', hyl, fun j f hj => ?_⟩
    obtain ⟨ho, hk⟩ := hone_of hone j f hj
    have hjl : j < fs.size := (Array.getElem?_eq_some_iff.1 hj).1
    have hcell := hat j hjl
    have hv : cs'[j]? = some (cs'[j]'(by omega)) := List.getElem?_eq_getElem (by omega)
    have h1 := hf j f hj
    rw [ho, hk] at h1
    have hone' : (cs'.drop j).take 1 = [cs'[j]'(by omega)] := by
      rw [List.drop_eq_getElem_cons (by omega)]
      rfl
    rw [hone'] at h1
    have hys : ys[j]? = some (ys[j]'(by omega)) := List.getElem?_eq_getElem (by omega)
    refine ⟨_, _, ?_, hys, h1.trans hys⟩
    rw [← Go.Deep.add_add, hcell, hv]
theorem rowAt_off (fits : TypeId → Bool) : ∀ (d : Nat) (e : TypeId) (cells off n : Nat), rowAt P fits d e (cells / P.cellsOf e) off n = true → off ≤ cells
  | 0, e, cells, off, n, h => by simp [rowAt] at h
  | d + 1, e, cells, off, n, h => by
    simp only [rowAt] at h
    split at h
    · cases h
    · rename_i hs
      have hpos : 0 < P.cellsOf e := Nat.pos_of_ne_zero hs
      have hdm := Nat.div_add_mod off (P.cellsOf e)
      have hcm := Nat.div_mul_le_self cells (P.cellsOf e)
      simp only [Bool.or_eq_true, Bool.and_eq_true, beq_iff_eq, decide_eq_true_eq] at h
      rcases h with ⟨⟨h1, h2⟩, _⟩ | ⟨h1, _⟩
      · have : P.cellsOf e * (off / P.cellsOf e) ≤ cells := by
          have := Nat.mul_le_mul_right (P.cellsOf e) (show off / P.cellsOf e ≤ cells / P.cellsOf e by omega)
          rw [Nat.mul_comm] at this
          omega
        omega
      · have hlt := Nat.mod_lt off hpos
        have h3 : (off / P.cellsOf e + 1) * P.cellsOf e ≤ cells / P.cellsOf e * P.cellsOf e := Nat.mul_le_mul_right _ h1
        rw [Nat.add_mul, Nat.one_mul, Nat.mul_comm (off / P.cellsOf e)] at h3
        omega
theorem liesAt_off : ∀ (d : Nat) (e : TypeId) (cells off : Nat) (u : TypeId) (n : Nat), liesAt P d e (cells / P.cellsOf e) off u n = true → off ≤ cells
  | 0, e, cells, off, u, n, h => by simp [liesAt] at h
  | d + 1, e, cells, off, u, n, h => by
    simp only [liesAt, Bool.or_eq_true] at h
    rcases h with h | h
    · exact rowAt_off _ _ _ _ _ _ h
    · split at h
      · exact liesAt_off d e cells off _ _ h
      · cases h
theorem has_block {r : Reach} {b0 : Nat} {a : Addr} {e : TypeId} {n : Nat} (h : w.has P r b0 a e n) : a.spot = none ∧ ∃ cs el z, w.heap[a.block]? = some (.cells cs el z) ∧ a.off ≤ cs.size := by
  obtain ⟨_, h1, row, cells, h2, h3⟩ := h
  refine ⟨h1, ?_⟩
  unfold World.shape? at h2
  split at h2
  · rename_i c el z hb
    simp only [Option.some.injEq, Prod.mk.injEq] at h2
    obtain ⟨rfl, rfl⟩ := h2
    exact ⟨c, el, z, hb, liesAt_off _ _ _ _ _ _ h3⟩
  · cases h2
end
theorem undC : Tryd.prog.underlying 27 = some (.struct fsC) := by kernel_rfl
theorem undFs : Tryd.prog.underlying 25 = some (.slice 41) := by kernel_rfl
theorem undF : Tryd.prog.underlying 41 = some (.struct fsF) := by kernel_rfl
theorem undSt : Tryd.prog.underlying 22 = some (.int .i64) := by kernel_rfl
theorem undBo : Tryd.prog.underlying 4 = some .bool := by kernel_rfl
theorem undI' : Tryd.prog.underlying 3 = some (.int .i64) := by kernel_rfl
theorem celC : Tryd.prog.cellsOf 27 = 9 := by kernel_rfl
theorem ctC : Tryd.prog.cellTypes Tryd.prog.depth 27 = some [3, 3, 22, 4, 3, 3, 3, 3, 25] := by kernel_rfl
theorem oneF : oneCellFields Tryd.prog fsF = true := by kernel_rfl
theorem celF : Tryd.prog.cellsOf 41 = fsF.size := by kernel_rfl
theorem fszF : fsF.size = 4 := by kernel_rfl
theorem ftyF : ∀ j, j < 4 → (fsF[j]?).map (·.type) = some 3
  | 0, _ => by kernel_rfl
  | 1, _ => by kernel_rfl
  | 2, _ => by kernel_rfl
  | 3, _ => by kernel_rfl
  | j + 4, h => by omega
theorem fC5 : ∃ f, fsC.toList[5]? = some f ∧ f.type = 25 ∧ f.offset = 8 := ⟨fdC 5, by kernel_rfl, by kernel_rfl, by kernel_rfl⟩
theorem celFs : Tryd.prog.cellsOf 25 = 1 := by kernel_rfl
theorem mapM_at {α β : Type} {f : α → Option β} : ∀ (l : List α) (xs : List β), l.mapM f = some xs → ∀ a ∈ l, ∃ y, f a = some y
  | [], xs, _, a, ha => by simp at ha
  | b :: l, xs, h, a, ha => by
    rw [List.mapM_cons] at h
    simp only [bind, Option.bind_eq_some_iff, pure, Option.some.injEq] at h
    obtain ⟨y, hy, ys, hys, _⟩ := h
    rcases List.mem_cons.1 ha with rfl | ha
    · exact ⟨y, hy⟩
    · exact mapM_at l ys hys a ha
section
variable {H : Type} {enc : TypeId × Value → H} {w : World} {base : Nat} {sp : Nat → Bool} {held : Bool}
theorem cell_int {r : Reach} {b0 : Nat} {t : TypeId} {v : Value} (ht : Tryd.prog.underlying t = some (.int .i64)) (h : Cell.okWide Tryd.prog w r b0 t v) : ∃ n, v = .int .i64 n := by
  simp only [Cell.okWide, ht] at h
  cases v <;> simp_all [Cell.ok]
theorem cell_bool {r : Reach} {b0 : Nat} {v : Value} (h : Cell.okWide Tryd.prog w r b0 4 v) : ∃ b, v = .bool b := by
  simp only [Cell.okWide, undBo] at h
  cases v <;> simp_all [Cell.ok]
theorem cell_slice {r : Reach} {b0 : Nat} {v : Value} (h : Cell.okWide Tryd.prog w r b0 25 v) : v = .slice none 0 0 ∨ ∃ a n cap, v = .slice (some a) n cap ∧ n ≤ cap ∧ w.has Tryd.prog r b0 a 41 cap := by
  simp only [Cell.okWide, undFs] at h
  cases v with
  | slice a n cap =>
    cases a with
    | none =>
      left
      simp only [Cell.ok, undFs] at h
      split at h <;> simp_all
    | some a =>
      right
      simp only [Cell.ok, undFs] at h
      exact ⟨a, n, cap, rfl, h.1, h.2.2⟩
  | _ => simp_all [Cell.ok]
/-- the number in a cell -/
def intAt (w : World) (a : Addr) (k : Nat) : Int := match w.cell? (a.add k) with
  | some (.int _ n) => n
  | _ => 0
def fileIn (w : World) (a : Addr) (i : Nat) : FileD := ⟨intAt w a (4 * i), intAt w a (4 * i + 1), intAt w a (4 * i + 2), intAt w a (4 * i + 3)⟩
theorem fcs_range (w : World) (a : Addr) : ∀ n, fcs ((List.range n).map (fileIn w a)) = (List.range (4 * n)).map fun k => Value.int .i64 (intAt w a k)
  | 0 => rfl
  | n + 1 => by
    have happ : ∀ (l l' : List FileD), fcs (l ++ l') = fcs l ++ fcs l' := by
      intro l l'
      induction l with
      | nil => rfl
      | cons f l ih => simp only [List.cons_append, fcs, ih]
    rw [List.range_succ, List.map_append, happ, fcs_range w a n, show 4 * (n + 1) = 4 * n + 1 + 1 + 1 + 1 by omega]
    simp only [List.range_succ, List.map_append, List.map_cons, List.map_nil, List.append_assoc]
    rfl
theorem open_cat {r : Reach} {b0 : Nat} {v : Value} {d : DataW H} {ps : List MemPlace} (hval : Value.okWide Tryd.prog w r b0 27 v) (hd : DataW.Trod enc Tryd.prog w base sp held 27 v d ps) : ∃ D, CatIn w D v := by
  simp only [Value.okWide, undC] at hval
  obtain ⟨⟨cs⟩, rfl, hsz, ts, hts, _, hcell⟩ := hval
  rw [ctC] at hts
  cases hts
  rw [celC] at hsz
  have hlen : cs.length = 9 := by simpa using hsz
  obtain ⟨c0, c1, c2, c3, c4, c5, c6, c7, c8, rfl⟩ : ∃ c0 c1 c2 c3 c4 c5 c6 c7 c8, cs = [c0, c1, c2, c3, c4, c5, c6, c7, c8] := by
    match cs, hlen with
    | [c0, c1, c2, c3, c4, c5, c6, c7, c8], _ => exact ⟨_, _, _, _, _, _, _, _, _, rfl⟩
  obtain ⟨u0, e0, k0⟩ := hcell 0 c0 (by simp)
  obtain ⟨u1, e1, k1⟩ := hcell 1 c1 (by simp)
  obtain ⟨u2, e2, k2⟩ := hcell 2 c2 (by simp)
  obtain ⟨u3, e3, k3⟩ := hcell 3 c3 (by simp)
  obtain ⟨u4, e4, k4⟩ := hcell 4 c4 (by simp)
  obtain ⟨u5, e5, k5⟩ := hcell 5 c5 (by simp)
  obtain ⟨u6, e6, k6⟩ := hcell 6 c6 (by simp)
  obtain ⟨u7, e7, k7⟩ := hcell 7 c7 (by simp)
  obtain ⟨u8, e8, k8⟩ := hcell 8 c8 (by simp)
  obtain rfl := Option.some.inj (show some 3 = some u0 from e0)
  obtain rfl := Option.some.inj (show some 3 = some u1 from e1)
  obtain rfl := Option.some.inj (show some 22 = some u2 from e2)
  obtain rfl := Option.some.inj (show some 4 = some u3 from e3)
  obtain rfl := Option.some.inj (show some 3 = some u4 from e4)
  obtain rfl := Option.some.inj (show some 3 = some u5 from e5)
  obtain rfl := Option.some.inj (show some 3 = some u6 from e6)
  obtain rfl := Option.some.inj (show some 3 = some u7 from e7)
  obtain rfl := Option.some.inj (show some 25 = some u8 from e8)
  obtain ⟨n0, rfl⟩ := cell_int undI' k0
  obtain ⟨n1, rfl⟩ := cell_int undI' k1
  obtain ⟨n2, rfl⟩ := cell_int undSt k2
  obtain ⟨b3, rfl⟩ := cell_bool k3
  obtain ⟨n4, rfl⟩ := cell_int undI' k4
  obtain ⟨n5, rfl⟩ := cell_int undI' k5
  obtain ⟨n6, rfl⟩ := cell_int undI' k6
  obtain ⟨n7, rfl⟩ := cell_int undI' k7
  rcases cell_slice k8 with rfl | ⟨a, n, cap, rfl, hcap, hhas⟩
  · exact ⟨⟨n0, n1, n2, b3, n4, n5, n6, n7, []⟩, .inl ⟨rfl, rfl⟩⟩
  · obtain ⟨hsp, bs, el, z, hb, hoff⟩ := has_block hhas
    obtain ⟨ab, ao, asp⟩ := a
    simp only at hsp hb hoff
    subst hsp
    obtain ⟨fuel, hf⟩ := hd
    have htr : ∃ m y, DataW.trod enc Tryd.prog w base sp held m 25 [.slice (some ⟨ab, ao, none⟩) n cap] = some y := by
      cases fuel with
      | zero => simp [DataW.trod] at hf
      | succ m =>
        rw [DataW.trod_step] at hf
        unfold DataW.trodStep at hf
        simp only [undC, Value.cells, celC] at hf
        have hf2 := hf
        simp only [List.length_cons, List.length_nil, Nat.zero_add, Nat.reduceAdd, if_true, Option.map_eq_some_iff] at hf2
        obtain ⟨xs, hx, _⟩ := hf2
        obtain ⟨f, g1, g2, g3⟩ := fC5
        obtain ⟨y, hy⟩ := mapM_at _ _ hx f (List.mem_of_getElem? g1)
        rw [g2, g3, celFs] at hy
        exact ⟨m, y, hy⟩
    obtain ⟨m, y, htr⟩ := htr
    have hfl : ((List.range n).map (fileIn w ⟨ab, ao, none⟩)).length = n := by simp
    have key : ∀ k, k < 4 * n → ∃ x, w.cell? ((⟨ab, ao, none⟩ : Addr).add k) = some (.int .i64 x) := by
      rcases open_slice_fields undFs undF oneF celF htr with ⟨h1, _⟩ | ⟨a', n', cap', h1, _, _, _, hi⟩
      · simp at h1
      · simp only [List.cons.injEq, Value.slice.injEq, Option.some.injEq, and_true] at h1
        obtain ⟨rfl, rfl, rfl⟩ := h1
        intro k hk
        obtain ⟨ys, m', _, hj⟩ := hi (k / 4) (by omega)
        have ht := ftyF (k % 4) (Nat.mod_lt _ (by omega))
        cases hfj : fsF[k % 4]? with
        | none => rw [hfj] at ht; cases ht
        | some f =>
          rw [hfj] at ht
          obtain ⟨v, y', q1, _, q3⟩ := hj (k % 4) f hfj
          have ht2 : f.type = 3 := Option.some.inj ht
          rw [ht2] at q3
          obtain ⟨x, q4, _, _⟩ := DataW.trod_int undI' q3
          rw [fszF, show k / 4 * 4 + k % 4 = k by omega] at q1
          refine ⟨x, ?_⟩
          rw [q1]
          injection q4 with q4
          rw [q4]
    refine ⟨⟨n0, n1, n2, b3, n4, n5, n6, n7, (List.range n).map (fileIn w ⟨ab, ao, none⟩)⟩, .inr ⟨ab, ao, cap, bs, el, z, ?_, by rw [hfl]; exact hcap, hb, hoff, ?_⟩⟩
    · show _ = Value.agg ⟨[_, _, _, _, _, _, _, _, Value.slice _ ((List.range n).map (fileIn w ⟨ab, ao, none⟩)).length cap]⟩
      rw [hfl]
    · intro i u hu
      have hu : (fcs ((List.range n).map (fileIn w ⟨ab, ao, none⟩)))[i]? = some u := hu
      rw [fcs_range, List.getElem?_map] at hu
      have hi : i < 4 * n := by
        rcases Nat.lt_or_ge i (4 * n) with h | h
        · exact h
        · rw [List.getElem?_eq_none (by simpa using h)] at hu
          cases hu
      rw [List.getElem?_range hi] at hu
      obtain ⟨x, hx⟩ := key i hi
      have hint : intAt w ⟨ab, ao, none⟩ i = x := by unfold intAt; rw [hx]
      simp only [Option.map_some, Option.some.injEq] at hu
      rw [← hu, hint]
      rw [addr_add] at hx
      unfold World.cell? at hx
      simp only [hb] at hx
      exact hx
end
end Go.Proofs.YtgofanjbhbeniaaDoor.lf
end
end

section
/- Catalogs made anew: at all catalogs, files and names; what is handed in, opened. -/
noncomputable section
namespace Go.Proofs.YtgofanjbhbeniaaDoor.lf
open AE
open Go.RowKit Go.ChangeShapes Go.WideShapes Go.Deep
set_option linter.unusedSimpArgs false
set_option linter.unusedVariables false
set_option maxRecDepth 10000

/-- a slice of the world: n elements, these cells -/
def SlcIn (w : World) (n : Nat) (L : List Value) (v : Value) : Prop :=
  (n = 0 ∧ L = [] ∧ v = .slice none 0 0) ∨
  ∃ b off cap cs e z, v = .slice (some ⟨b, off, none⟩) n cap ∧ n ≤ cap ∧ w.heap[b]? = some (.cells cs e z) ∧ off ≤ cs.size ∧ ∀ i u, L[i]? = some u → cs[off + i]? = some u
theorem slc_in {w : World} {n : Nat} {L : List Value} {v : Value} (cut : Nat) (hc : cut ≤ 1000) (hi : Ints L) (h : SlcIn w n L v) :
    ∃ xs : List InRow, xs.length ≤ 1 ∧ (∀ x ∈ xs, x.In w) ∧ ∀ (l : List InRow) (k : Nat), l.length ≤ 1000 → (∀ (i : Nat) x, xs[i]? = some x → l[k + i]? = some x) → ∃ a' c', VR (renOf l) (.slice a' n c') v ∧ Vx (inS l) a' (L.take cut) ∧ CutOK a' n c' := by
  rcases h with ⟨rfl, rfl, rfl⟩ | ⟨b, off, cap, cs, e, z, rfl, hcap, hb, hoff, hcell⟩
  · exact ⟨[], Nat.zero_le _, fun x hx => (by cases hx), fun l k _ _ => ⟨none, 0, .flat rfl, (by show ([] : List Value).take cut = []; simp), .inl ⟨rfl, rfl, rfl⟩⟩⟩
  · have hget : ∀ (i : Nat) (u : Value), (L.take cut)[i]? = some u → L[i]? = some u := by
      intro i u hu
      rw [List.getElem?_take] at hu
      split at hu
      · exact hu
      · cases hu
    have hsz : (L.take cut).length ≤ 1000 := by rw [List.length_take]; omega
    have hend : off + (L.take cut).length ≤ cs.size := by
      rcases Nat.eq_zero_or_pos (L.take cut).length with h0 | h0
      · omega
      · obtain ⟨u, hu⟩ : ∃ u, (L.take cut)[(L.take cut).length - 1]? = some u := ⟨_, List.getElem?_eq_getElem (by omega)⟩
        have := (Array.getElem?_eq_some_iff.1 (hcell _ u (hget _ u hu))).1
        omega
    have hint : Ints (L.take cut) := fun u hu => hi u (List.mem_of_mem_take hu)
    have hin : InRow.In ⟨b, off, 0, L.take cut, e⟩ w := ⟨⟨cs, z, hb, hend, fun i u hu => hcell i u (hget i u hu)⟩, hint.plain, by show (L.take cut).length ≤ _; unfold Tr.wide; omega⟩
    refine ⟨[⟨b, off, 0, L.take cut, e⟩], Nat.le_refl _, fun x hx => by simp only [List.mem_singleton] at hx; subst hx; exact hin, fun l k hl hx => ?_⟩
    have hk := hx 0 _ rfl
    rw [Nat.add_zero] at hk
    have hV : Vx (inS l) (some ⟨k, 0, none⟩) (L.take cut) := row_any hk hl rfl (by show (L.take cut).length ≤ _; unfold Tr.wide; omega)
    by_cases hO : cap < OPEN
    · refine ⟨some ⟨k, 0, none⟩, cap, .sliceW ⟨k, 0, b, off, 0, by unfold renOf; rw [hk]; rfl, rfl, rfl⟩ hO, hV, .inr ⟨k, rfl, .inl ⟨?_, hcap⟩⟩⟩
      cases hh : Nat.ble OPEN cap with
      | false => rfl
      | true => have := ble_iff.1 hh; omega
    · obtain ⟨f1, f2, f3⟩ := open_facts OPEN cap
      refine ⟨some ⟨k, 0, none⟩, OPEN + cap, ?_, hV, .inr ⟨k, rfl, .inr ⟨cap, f1, f2, f3, ?_, hcap⟩⟩⟩
      · have := VR.sliceL (ρ := renOf l) (n := k) (off := 0) (b := b) (base := off) (ex := 0) (len := n) (c := cap) (by unfold renOf; rw [hk]; rfl)
        exact this
      · have : 0 < OPEN := by unfold OPEN; omega
        omega
theorem catin_slc {w : World} {D : CatD} {v : Value} (h : CatIn w D v) : ∃ sv, v = .agg ⟨catV D sv⟩ ∧ SlcIn w D.files.length (fcs D.files) sv := by
  rcases h with ⟨h0, rfl⟩ | ⟨b, off, cap, cs, e, z, rfl, hcap, hb, hoff, hcell⟩
  · refine ⟨.slice none 0 0, ?_, .inl ⟨by rw [h0]; rfl, by rw [h0]; rfl, rfl⟩⟩
    unfold CatD.cells; rw [h0]; rfl
  · exact ⟨_, rfl, .inr ⟨b, off, cap, cs, e, z, rfl, hcap, hb, hoff, hcell⟩⟩
theorem ics_take (gs : List Int) (k : Nat) : icsL (gs.take k) = (icsL gs).take k := by
  unfold icsL; rw [List.map_take]
theorem catalogWith_any (D : CatD) (ps : List FileD) (gs : List Int) (name : Int) (v1 v2 v3 : Value) (w : World) (h1 : CatIn w D v1) (h2 : SlcIn w ps.length (fcs ps) v2) (h3 : SlcIn w gs.length (icsL gs) v3) :
    Calls Tryd.prog 5 #[v1, v2, v3, .int .i64 name] w fun e w' => e = .returned (.bool true) ∧ Go.RowKit.Below w.heap.size w w' := by
  obtain ⟨sv, rfl, hs⟩ := catin_slc h1
  obtain ⟨xs1, b1, i1, m1⟩ := slc_in (4 * 14) (by omega) (ints_fcs _) hs
  obtain ⟨xs2, b2, i2, m2⟩ := slc_in (4 * 6) (by omega) (ints_fcs _) h2
  obtain ⟨xs3, b3, i3, m3⟩ := slc_in 6 (by omega) (ints_ics _) h3
  have hL : (xs1 ++ (xs2 ++ xs3)).length ≤ 3 := by simp only [List.length_append]; omega
  obtain ⟨a1, c1, r1, w1, k1⟩ := m1 (xs1 ++ (xs2 ++ xs3)) 0 (by omega) (fun i x hx => by
    rw [Nat.zero_add, List.getElem?_append_left (List.getElem?_eq_some_iff.1 hx).1]; exact hx)
  obtain ⟨a2, c2, r2, w2, k2⟩ := m2 (xs1 ++ (xs2 ++ xs3)) xs1.length (by omega) (fun i x hx => by
    rw [List.getElem?_append_right (Nat.le_add_right _ _), Nat.add_sub_cancel_left, List.getElem?_append_left (List.getElem?_eq_some_iff.1 hx).1]; exact hx)
  obtain ⟨a3, c3, r3, w3, k3⟩ := m3 (xs1 ++ (xs2 ++ xs3)) (xs1.length + xs2.length) (by omega) (fun i x hx => by
    rw [List.getElem?_append_right (by omega), List.getElem?_append_right (by omega)]
    rw [show xs1.length + xs2.length + i - xs1.length - xs2.length = i by omega]; exact hx)
  rw [← fcs_take] at w1 w2
  rw [← ics_take] at w3
  have hin : ∀ x ∈ xs1 ++ (xs2 ++ xs3), x.In w := fun x hx => by
    rcases List.mem_append.1 hx with hx | hx
    · exact i1 x hx
    · rcases List.mem_append.1 hx with hx | hx
      · exact i2 x hx
      · exact i3 x hx
  have hlow : ∀ {a : Option Addr} {L : List Value}, Vx (inS (xs1 ++ (xs2 ++ xs3))) a L → ∀ ad, a = some ad → ad.block < 3 := fun hv ad e => by
    have h := vx_lt hv ad e
    have h2 : ad.block < (xs1 ++ (xs2 ++ xs3)).length := h
    omega
  generalize hl : xs1 ++ (xs2 ++ xs3) = l at *
  have hw : ([Value.agg ⟨D.cells a1 c1⟩, .slice a2 ps.length c2, .slice a3 gs.length c3, .int .i64 name] : List Value).length ≤ Tr.wide := by simp [Tr.wide]
  refine calls_own (fi := fiWl) (c := cdWl) (by kernel_rfl) (by kernel_rfl) (args := [Value.agg ⟨D.cells a1 c1⟩, .slice a2 ps.length c2, .slice a3 gs.length c3, .int .i64 name]) 100000 174 rfl rfl (inputs_of l (by omega) hin) (.cons (cat_mk r1) (.cons r2 (.cons r3 (.cons (.flat rfl) .nil)))) (Nat.zero_le _) ?_
  refine with_start _ (Nat.le_refl _) D ps gs name a1 a2 a3 c1 c2 c3 (inS l) hL w1 w2 w3 k1 k2 k3 _ (by rw [get_ofList _ _ hw]; rfl) (by rw [get_ofList _ _ hw]; rfl) (by rw [get_ofList _ _ hw]; rfl) (by rw [get_ofList _ _ hw]; rfl) _ ?_
  intro b1' d1 t s hX
  obtain ⟨hnd, h14⟩ := theD_nd D
  have hp6 : (ps.take 6).length ≤ 6 := by rw [List.length_take]; omega
  have hg6 : (gs.take 6).length ≤ 6 := by rw [List.length_take]; omega
  refine with_mid _ (Nat.le_refl _) (theD D) (ps.take 6) (gs.take 6) name b1' a2 a3 d1 c2 c3 t s hX h14 hp6 hg6 _ ?_
  intro b cb w0 cw T t2 s2 hX2
  exact with_end _ (Nat.le_refl _) (theD D) (ps.take 6) (gs.take 6) name b1' a2 a3 b d1 c2 c3 cb w0 cw T t2 s2 hX2 hnd h14 hp6 hg6

/-! what is handed in -/
theorem undIs : Tryd.prog.underlying 43 = some (.slice 3) := by kernel_rfl
theorem open_isl {H : Type} {enc : TypeId × Value → H} {w : World} {base : Nat} {sp : Nat → Bool} {held : Bool} {r : Reach} {b0 : Nat} {v : Value} {d : DataW H} {ps : List MemPlace} (hval : Value.okWide Tryd.prog w r b0 43 v) (hd : DataW.Trod enc Tryd.prog w base sp held 43 v d ps) : ∃ gs : List Int, SlcIn w gs.length (icsL gs) v := by
  obtain ⟨a, n, c, rfl⟩ := okWide_slice undIs hval
  obtain ⟨fuel, hf⟩ := hd
  rcases open_ints undIs undI' (by kernel_rfl) hf with ⟨h1, _⟩ | ⟨a1, len, cap, zs, h1, hb, hl, hm, hz, _, hcell, hwf⟩
  · injection h1 with h1
    exact ⟨[], .inl ⟨rfl, rfl, h1⟩⟩
  · injection h1 with h1
    injection h1 with h1 h2 h3
    subst h1 h2 h3
    simp only [Value.okWide, undIs, Cell.okWide, Cell.ok] at hval
    have hhas := hval.2.2
    obtain ⟨hsp, bs, el, z, hbk, hoff⟩ := has_block hhas
    obtain ⟨ab, ao, asp⟩ := a1
    simp only at hsp hbk hoff
    subst hsp
    have hnz : n ≤ zs.length := by rw [hz]; split <;> omega
    have hll : ((List.range n).map fun i => zs.getD i 0).length = n := by simp
    refine ⟨(List.range n).map fun i => zs.getD i 0, .inr ⟨ab, ao, c, bs, el, z, by rw [hll], by rw [hll]; exact hl, hbk, hoff, ?_⟩⟩
    intro i u hu
    unfold icsL at hu
    rw [List.map_map, List.getElem?_map] at hu
    have hi : i < n := by
      rcases Nat.lt_or_ge i n with h | h
      · exact h
      · rw [List.getElem?_eq_none (by simpa using h)] at hu
        cases hu
    rw [List.getElem?_range hi] at hu
    have hc := hcell i (by omega)
    rw [addr_add] at hc
    unfold World.cell? at hc
    simp only [hbk] at hc
    simp only [Option.map_some, Option.some.injEq, Function.comp] at hu
    rw [← hu]
    exact hc
theorem open_fsl {H : Type} {enc : TypeId × Value → H} {w : World} {base : Nat} {sp : Nat → Bool} {held : Bool} {r : Reach} {b0 : Nat} {v : Value} {d : DataW H} {ps : List MemPlace} (hval : Value.okWide Tryd.prog w r b0 25 v) (hd : DataW.Trod enc Tryd.prog w base sp held 25 v d ps) : ∃ fs : List FileD, SlcIn w fs.length (fcs fs) v := by
  obtain ⟨a, n, c, rfl⟩ := okWide_slice undFs hval
  obtain ⟨fuel, hf⟩ := hd
  rcases open_slice_fields undFs undF oneF celF hf with ⟨h1, _⟩ | ⟨a1, n', cap', h1, _, hle, _, hi⟩
  · injection h1 with h1
    exact ⟨[], .inl ⟨rfl, rfl, h1⟩⟩
  · injection h1 with h1
    injection h1 with h1 h2 h3
    subst h1 h2 h3
    simp only [Value.okWide, undFs, Cell.okWide, Cell.ok] at hval
    have hhas := hval.2.2
    obtain ⟨hsp, bs, el, z, hbk, hoff⟩ := has_block hhas
    obtain ⟨ab, ao, asp⟩ := a1
    simp only at hsp hbk hoff
    subst hsp
    have hfl : ((List.range n).map (fileIn w ⟨ab, ao, none⟩)).length = n := by simp
    have key : ∀ k, k < 4 * n → ∃ x, w.cell? ((⟨ab, ao, none⟩ : Addr).add k) = some (.int .i64 x) := by
      intro k hk
      obtain ⟨ys, m', _, hj⟩ := hi (k / 4) (by omega)
      have ht := ftyF (k % 4) (Nat.mod_lt _ (by omega))
      cases hfj : fsF[k % 4]? with
      | none => rw [hfj] at ht; cases ht
      | some f =>
        rw [hfj] at ht
        obtain ⟨v, y', q1, _, q3⟩ := hj (k % 4) f hfj
        have ht2 : f.type = 3 := Option.some.inj ht
        rw [ht2] at q3
        obtain ⟨x, q4, _, _⟩ := DataW.trod_int undI' q3
        rw [fszF, show k / 4 * 4 + k % 4 = k by omega] at q1
        refine ⟨x, ?_⟩
        rw [q1]
        injection q4 with q4
        rw [q4]
    refine ⟨(List.range n).map (fileIn w ⟨ab, ao, none⟩), .inr ⟨ab, ao, c, bs, el, z, by rw [hfl], by rw [hfl]; exact hle, hbk, hoff, ?_⟩⟩
    intro i u hu
    rw [fcs_range, List.getElem?_map] at hu
    have hi4 : i < 4 * n := by
      rcases Nat.lt_or_ge i (4 * n) with h | h
      · exact h
      · rw [List.getElem?_eq_none (by simpa using h)] at hu
        cases hu
    rw [List.getElem?_range hi4] at hu
    obtain ⟨x, hx⟩ := key i hi4
    have hint : intAt w ⟨ab, ao, none⟩ i = x := by unfold intAt; rw [hx]
    simp only [Option.map_some, Option.some.injEq] at hu
    rw [← hu, hint]
    rw [addr_add] at hx
    unfold World.cell? at hx
    simp only [hbk] at hx
    exact hx
end Go.Proofs.YtgofanjbhbeniaaDoor.lf
end
end

section
/- What is put is found, what is gone isn't, all else stays; names rise; what it was made of stays: at all catalogs, files and names. -/
namespace Go.Proofs.YtgofanjbhbeniaaDoor.catalogWith
open Go.ChangeShapes Go.WideShapes Go.ChangeAt Go.RowKit
set_option linter.unusedVariables false

theorem own : ownKnob Tryd.prog.godebug = none := by kernel_rfl
theorem laidOut : laidOutB Tryd.prog = true := by kernel_rfl

set_option maxRecDepth 100000 in
set_option maxHeartbeats 1600000 in
theorem lifted (os : Os) (started : os.Started) (H : Type) (enc : TypeId × Value → H) :
    ReturnsInHanded {} Tryd.checked os 5 .any (fun w args => (Rows.catalogWithSpec.pre enc Tryd.prog Tryd.f5 Rows.catalogWithRow.domain false w args ∧ laidMetH Tryd.prog Rows.catalogWithRow.laid w) ∧ sizedMet enc Tryd.prog Tryd.f5 (OpenSpec.ofChange Rows.catalogWithSpec) false w args)
      (Rows.catalogWithSpec.post enc Tryd.prog Tryd.f5 false true false false) := by
  refine returnsInHanded_of_change_and (C := Tryd.checked) (X := fun w _ => laidMetH Tryd.prog Rows.catalogWithRow.laid w) (fun _ _ _ hh h => h.of_heap hh) own started (by kernel_rfl) Tryd.func5
    (ChangeSpec.witness_shaped (enc := enc) (C := Tryd.checked) (os := os) (X := fun w _ => laidMetH Tryd.prog Rows.catalogWithRow.laid w) false (World.laidAll Tryd.prog os Rows.catalogWithRow.laid) #[.agg #[.int .i64 0, .int .i64 0, .int .i64 0, .bool false, .int .i64 0, .int .i64 0, .int .i64 0, .int .i64 0, .slice none 0 0], .slice none 0 0, .slice none 0 0, .int .i64 0] 8 (World.laidAll_os _ _ _)
      (World.shaped_of_ZipB (by kernel_rfl) (by kernel_rfl)) (by kernel_rfl) (by kernel_rfl) (by kernel_rfl)
      (by rw [MakeChecks.laidMetH_plain _ _ _ (by kernel_rfl)]; exact laidMet_laidAll _ (by kernel_rfl) (by kernel_rfl))) ?_
  intro W base args ds gs before hval0 hW hc _ hL _
  have hval : ∀ (j : Nat) t v, Tryd.f5.params[j]? = some t → args[j]? = some v → Value.okWide Tryd.prog W .any base t v := hval0
  have hW' := hW
  obtain ⟨p, q, hA0, hV, rfl, hfz, hnd⟩ := hW
  have hA : DataW.TrodAll enc Tryd.prog W 0 (fun _ => true) true Tryd.f5.params.toList args.toList ds p := hA0
  rw [Tryd.params5] at hA hval
  obtain ⟨v0, vs0, d0, ds0, p0, q0, hargs, rfl, rfl, h0, r0⟩ := trodAll_cons hA
  obtain ⟨v1, vs1, d1, ds1, p1, q1, rfl, rfl, rfl, h1, r1⟩ := trodAll_cons r0
  obtain ⟨v2, vs2, d2, ds2, p2, q2, rfl, rfl, rfl, h2, r2⟩ := trodAll_cons r1
  obtain ⟨v3, vs3, d3, ds3, p3, q3, rfl, rfl, rfl, h3, r3⟩ := trodAll_cons r2
  obtain ⟨rfl, rfl, rfl⟩ := trodAll_nil r3
  obtain rfl : args = #[v0, v1, v2, v3] := by cases args; simp_all
  obtain ⟨rfl, rfl⟩ := trodVars_none hV
  have k0 := h0
  have lt0 : ∀ x ∈ p0, x.block < W.heap.size := by obtain ⟨m, hm⟩ := k0; exact DataW.trod_lt m _ _ _ hm
  have k1 := h1
  have lt1 : ∀ x ∈ p1, x.block < W.heap.size := by obtain ⟨m, hm⟩ := k1; exact DataW.trod_lt m _ _ _ hm
  have k2 := h2
  have lt2 : ∀ x ∈ p2, x.block < W.heap.size := by obtain ⟨m, hm⟩ := k2; exact DataW.trod_lt m _ _ _ hm
  have k3 := h3
  have lt3 : ∀ x ∈ p3, x.block < W.heap.size := by obtain ⟨m, hm⟩ := k3; exact DataW.trod_lt m _ _ _ hm
  obtain ⟨D0, hc0⟩ := lf.open_cat (hval 0 27 v0 rfl rfl) h0
  obtain ⟨F1, hF1⟩ := lf.open_fsl (hval 1 25 v1 rfl rfl) h1
  obtain ⟨G2, hG2⟩ := lf.open_isl (hval 2 43 v2 rfl rfl) h2
  obtain ⟨a3, rfl, rfl, rfl, w3⟩ := open_int Tryd.underlying3 (hval 3 3 v3 rfl rfl) h3
  clear hA0 hval0
  refine (lf.catalogWith_any D0 F1 G2 a3 v0 v1 v2 W hc0 hF1 hG2).mono fun e W' ⟨he, bel⟩ => ?_
  subst he
  exact ⟨_, rfl, _, _, _, [], _, [], hW', trodAll_mk1 (shut_bool Tryd.underlying4 _), (trodAll_cons_mk (Below.trod laidOut (by kernel_rfl) (of_decide_eq_true (by kernel_rfl)) k0 bel lt0) (trodAll_cons_mk (Below.trod laidOut (by kernel_rfl) (of_decide_eq_true (by kernel_rfl)) k1 bel lt1) (trodAll_cons_mk (Below.trod laidOut (by kernel_rfl) (of_decide_eq_true (by kernel_rfl)) k2 bel lt2) (trodAll_cons_mk (Below.trod laidOut (by kernel_rfl) (of_decide_eq_true (by kernel_rfl)) k3 bel lt3) trodAll_mk0)))), rfl, bel.frame _, fun h => by cases h⟩

theorem over : Rows.catalogWithRow.holds Tryd.pinned (OpenSpec.ofChange Rows.catalogWithSpec) :=
  OpenClaim.holds_of_wide 5 Tryd.f5 rfl rfl rfl rfl rfl rfl rfl ⟨rfl, rfl, rfl, rfl, rfl⟩ rfl rfl rfl rfl rfl (by kernel_rfl) Tryd.func5 (by kernel_rfl)
    (of_decide_eq_true (by kernel_rfl)) (by unfold Func.isWrapper; first | (rw [if_pos (by decide +kernel)]; kernel_rfl) | (rw [if_neg (by decide +kernel)]; exact ⟨rfl, rfl⟩))
    (fun os started H enc _ => lifted os started H enc)

theorem wants0 : Tryd.pinned.checked.prog.wantsStandIn 27 = false := by kernel_rfl
theorem wants1 : Tryd.pinned.checked.prog.wantsStandIn 25 = false := by kernel_rfl
theorem wants2 : Tryd.pinned.checked.prog.wantsStandIn 43 = false := by kernel_rfl
theorem wants3 : Tryd.pinned.checked.prog.wantsStandIn 3 = false := by kernel_rfl
/-- the statement -/
theorem proved : Rows.CatalogWithCardSaid :=
  Claim7.holds_tied_plain_at .later [] [.data, .pinned] true (true, "334530d2b209fd268b8213391b41bfb2cf022d5de982bb0eea3455add9bf5210") false over (fun _ h => by cases h) (by kernel_rfl) (fun _ h => by cases h) catalogWith_row_tie rfl ⟨rfl, rfl⟩ (by kernel_rfl) rfl
    (fun f fn hf hfn => by
      obtain rfl : f = 5 := Option.some.inj ((show Tryd.prog.funcNamed "sheaf/sheaflaw6.CatalogWith" = some 5 by kernel_rfl).symm.trans hf) |>.symm
      obtain rfl : fn = Tryd.f5 := (Option.some.inj (Tryd.func5.symm.trans hfn)).symm
      exact ⟨by kernel_rfl, fun j t ht => by
        rw [Tryd.params5] at ht
        match j, ht with
        | 0, ht => have e : (27 : Nat) = t := Option.some.inj ht; subst e; exact wants0
        | 1, ht => have e : (25 : Nat) = t := Option.some.inj ht; subst e; exact wants1
        | 2, ht => have e : (43 : Nat) = t := Option.some.inj ht; subst e; exact wants2
        | 3, ht => have e : (3 : Nat) = t := Option.some.inj ht; subst e; exact wants3
        | j + 4, ht => simp at ht⟩)
    (by kernel_rfl)
#print axioms proved
end Go.Proofs.YtgofanjbhbeniaaDoor.catalogWith
end
