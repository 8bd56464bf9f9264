/- Catalogs made anew: the files that are looked at, one list behind the other. -/
import Derived.Test.YtgofanjbhbeniaaDoorPRowCatalogWith4
section
/- Catalogs made anew: the files are copied; the new catalog is made, and looked at. -/
noncomputable section
namespace Go.Proofs.YtgofanjbhbeniaaDoor.lf
open AE
set_option linter.unusedSimpArgs false
set_option linter.unusedVariables false
set_option maxRecDepth 10000

/-- what catalog.With makes -/
structure Made (s : S) (K : Nat) (D : CatD) (a : Option Addr) (cap : Nat) (nx : Nat) : Prop where
  vx : Vx s a (fcs D.files)
  is : (D.files = [] ∧ a = none ∧ cap = 0 ∧ nx = K) ∨ (D.files ≠ [] ∧ a = some ⟨K, 0, none⟩ ∧ cap = Nat.add OPEN D.files.length ∧ nx = K + 1)
theorem withA_run {s : S} {D : CatD} {a a2 a3 : Option Addr} {cap c2 c3 : Nat} {ps : List FileD} {gs : List Int} (b1 : D.files.length ≤ 1000) (b2 : ps.length ≤ 1000) (b3 : gs.length ≤ 1000) (V1 : Vx s a (fcs D.files)) (V2 : Vx s a2 (fcs ps)) (V3 : Vx s a3 (icsL gs)) (hN : Nat.ble s.next lastName = true) :
    ∃ s1 a' cap', (withA [.agg ⟨D.cells a cap⟩, .slice a2 ps.length c2, .slice a3 gs.length c3]).run s = some (.agg ⟨(withD D ps gs).cells a' cap'⟩, s1) ∧ s1.mark = s.mark ∧ (∀ m, m < s.next → s1.heap.get m = s.heap.get m) ∧ Made s1 s.next (withD D ps gs) a' cap' s1.next := by
  have hnl := (newM_nd D.files ps gs).2
  have hsl : (withD D ps gs).files.length = (newM D.files ps gs).length := sortN_len _
  obtain ⟨x1, f1, r1, _⟩ := rdV_run V1 (fun cs => opt (filesOf cs) fun fs => rdV a2 (4 * ps.length) fun cs2 => opt (filesOf cs2) fun ps => rdV a3 gs.length fun cs3 => opt (intsOf cs3) fun gs => outA (withD ⟨D.gen, D.step, D.status, D.ended, D.from_, D.to_, D.budget, D.fan, fs⟩ ps gs))
  rw [fcs_len, filesOf_fcs] at f1
  obtain ⟨x2, f2, r2, _⟩ := rdV_run (s := x1) (vx_keep V2 (by rw [r1.next]; exact Nat.le_refl _) (fun m _ => by rw [r1.heap])) (fun cs2 => opt (filesOf cs2) fun ps => rdV a3 gs.length fun cs3 => opt (intsOf cs3) fun gs => outA (withD ⟨D.gen, D.step, D.status, D.ended, D.from_, D.to_, D.budget, D.fan, D.files⟩ ps gs))
  rw [fcs_len, filesOf_fcs] at f2
  have r12 := r1.trans r2
  obtain ⟨x3, f3, r3, _⟩ := rdV_run (s := x2) (vx_keep V3 (by rw [r12.next]; exact Nat.le_refl _) (fun m _ => by rw [r12.heap])) (fun cs3 => opt (intsOf cs3) fun gs => outA (withD ⟨D.gen, D.step, D.status, D.ended, D.from_, D.to_, D.budget, D.fan, D.files⟩ ps gs))
  rw [ics_len, intsOf_ics] at f3
  have r13 := r12.trans r3
  have key : ∀ v s1, (outA (withD D ps gs)).run x3 = some (v, s1) → (withA [.agg ⟨D.cells a cap⟩, .slice a2 ps.length c2, .slice a3 gs.length c3]).run s = some (v, s1) := by
    intro v s1 hv
    show (when (Nat.ble D.files.length 1000 && (Nat.ble ps.length 1000 && Nat.ble gs.length 1000)) (rdV a (4 * D.files.length) fun cs => opt (filesOf cs) fun fs => rdV a2 (4 * ps.length) fun cs2 => opt (filesOf cs2) fun ps => rdV a3 gs.length fun cs3 => opt (intsOf cs3) fun gs => outA (withD ⟨D.gen, D.step, D.status, D.ended, D.from_, D.to_, D.budget, D.fan, fs⟩ ps gs))).run s = _
    rw [show (Nat.ble D.files.length 1000 && (Nat.ble ps.length 1000 && Nat.ble gs.length 1000)) = true by rw [ble_iff.2 b1, ble_iff.2 b2, ble_iff.2 b3]; rfl, show ∀ k : AM Value, when true k = k from fun _ => rfl, f1]
    simp only [opt] at f2 f3 ⊢
    rw [f2, f3]
    exact hv
  have hnx := r13.next
  have hhx := r13.heap
  have hmx := r13.mark
  cases hm0 : (withD D ps gs).files.length with
  | zero =>
    have hnil : (withD D ps gs).files = [] := List.eq_nil_of_length_eq_zero hm0
    refine ⟨x3, none, 0, key _ _ ?_, hmx, fun m _ => by rw [hhx], ⟨?_, .inl ⟨hnil, rfl, rfl, hnx⟩⟩⟩
    · unfold outA; rw [hm0]; rfl
    · show fcs (withD D ps gs).files = []
      rw [hnil]; rfl
  | succ m =>
    have hne : (withD D ps gs).files ≠ [] := fun h => by rw [h] at hm0; cases hm0
    have hN3 : Nat.ble x3.next lastName = true := by rw [hnx]; exact hN
    refine ⟨⟨x3.heap.put x3.next (some (.cells (Tr.ofList (fcs (withD D ps gs).files)) (4 * (m + 1)) 41 .loose)), Nat.succ x3.next, x3.mark, x3.rd, x3.wr⟩, some ⟨s.next, 0, none⟩, Nat.add OPEN (withD D ps gs).files.length, key _ _ ?_, hmx, fun k hk => ?_, ⟨?_, .inr ⟨hne, rfl, rfl, ?_⟩⟩⟩
    · unfold outA; rw [hm0]
      simp only [AM.run, force_eq, hN3]
      rw [hnx]; rfl
    · show (x3.heap.put x3.next _).get k = _
      rw [hg_far hN3 (by omega), hhx]
    · have e4 : (fcs (withD D ps gs).files).length = 4 * (m + 1) := by rw [fcs_len, hm0]
      refine ⟨rfl, Cl.new (e := 41) (rm := .loose) (by show s.next < Nat.succ x3.next; omega) ?_ (by omega)⟩
      rw [e4, ← hnx]
      exact hg_same hN3 _ _
    · show Nat.succ x3.next = _; omega
/-- a list put behind an empty one -/
theorem app0_run {H : Tr AObj} {N mk e : Nat} {b : Option Addr} {cb : Nat} {L : List FileD} (hE0 : Cl ⟨H, N, mk, 0, 0⟩ e 0 []) (hV : Vx ⟨H, N, mk, 0, 0⟩ b (fcs L)) (hl : L.length ≤ 1000) (hN : Nat.ble N lastName = true) :
    ∃ rdf : Nat → Nat, ∃ w cw nx H', (∀ rd wr, (builtinA E .append #[25, 25] [.slice (some ⟨e, 0, none⟩) 0 0, .slice b L.length cb]).run ⟨H, N, mk, rd, wr⟩ = some (.value (.slice (some ⟨w, 0, none⟩) L.length cw), ⟨H', nx, mk, rdf rd, wr⟩)) ∧
      ((L = [] ∧ w = e ∧ cw = 0 ∧ nx = N ∧ H' = H) ∨ (L ≠ [] ∧ w = N ∧ cw = Nat.add OPEN L.length ∧ nx = Nat.succ N ∧ H' = H.put N (some (.cells (Tr.ofList (fcs L)) (fcs L).length 41 .loose)))) := by
  cases hL : L with
  | nil =>
    refine ⟨id, e, 0, N, H, fun rd wr => ?_, .inl ⟨rfl, rfl, rfl, rfl, rfl⟩⟩
    rw [app_eqF]
    cases b <;> rfl
  | cons f l =>
    rw [← hL]
    have h0 : 0 < L.length := by rw [hL]; simp
    cases b with
    | none =>
      have h1 : fcs L = [] := hV
      have := fcs_len L
      rw [h1] at this
      have h4 : (0 : Nat) = 4 * L.length := this
      omega
    | some ad =>
      obtain ⟨ab, ao, asp⟩ := ad
      obtain ⟨hsp, hcl⟩ := hV
      simp only at hsp hcl
      subst hsp
      refine ⟨fun rd => bit mk e (bit mk ab rd), N, Nat.add OPEN L.length, Nat.succ N, _, fun rd wr => ?_, .inr ⟨by rw [hL]; simp, rfl, rfl, rfl, rfl⟩⟩
      rw [app_eqF]
      unfold appendA
      have h3 : Nat.ble (Nat.add 0 L.length) maxNeed = true := ble_iff.2 (by show 0 + _ ≤ maxNeed; unfold maxNeed; omega)
      have h4 : Nat.ble (Nat.add 0 L.length) 0 = false := ble_f (by show 0 < 0 + L.length; omega)
      simp only [h3, when, show Nat.ble 1 4 = true from rfl, show Nat.ble 32 1024 = true from rfl, Bool.and_self]
      have e0 : ∀ k : List Value → AM ANext, (firstA 4 L.length (.slice (some ⟨ab, ao, none⟩) L.length cb) k).run ⟨H, N, mk, rd, wr⟩ = (k (fcs L)).run ⟨H, N, mk, bit mk ab rd, wr⟩ := fun k => by
        obtain ⟨m, hm⟩ : ∃ m, L.length = m + 1 := ⟨L.length - 1, by omega⟩
        have : firstA 4 L.length (.slice (some ⟨ab, ao, none⟩) L.length cb) k = loadA ⟨ab, ao, none⟩ (Nat.mul L.length 4) k := by rw [hm]; rfl
        rw [this, show Nat.mul L.length 4 = (fcs L).length by rw [fcs_len]; exact Nat.mul_comm _ _]
        exact cl_load (s := ⟨H, N, mk, rd, wr⟩) (hcl.of rfl rfl) k
      rw [e0]
      simp only [show Nat.ble OPEN 0 = false from rfl, h4]
      have e1 : ∀ k : List Value → AM ANext, (loadA ⟨e, 0, none⟩ (Nat.mul 0 4) k).run ⟨H, N, mk, bit mk ab rd, wr⟩ = (k []).run ⟨H, N, mk, bit mk e (bit mk ab rd), wr⟩ := fun k => cl_load (s := ⟨H, N, mk, bit mk ab rd, wr⟩) (hE0.of rfl rfl) k
      rw [e1]
      unfold growA
      simp only [when, show Nat.beq 4 4 = true from rfl, List.nil_append]
      rw [newA_runW (s := ⟨H, N, mk, bit mk e (bit mk ab rd), wr⟩) (by rw [fcs_len]; omega) hN]
      rw [show Nat.add 0 L.length = L.length from Nat.zero_add _]
      rfl
theorem neqK_same (a b c d : Int) : binA E .neq 24 (.agg ⟨[.int .i64 a, .int .i64 b, .int .i64 c, .int .i64 d]⟩) (.agg ⟨[.int .i64 a, .int .i64 b, .int .i64 c, .int .i64 d]⟩) = some (.bool false) := by
  show someB (eqV E 1000 24 (.agg ⟨[.int .i64 a, .int .i64 b, .int .i64 c, .int .i64 d]⟩) (.agg ⟨[.int .i64 a, .int .i64 b, .int .i64 c, .int .i64 d]⟩)) false = _
  rw [eqK]
  simp [someB]
/-- ahead of the loop over the new files -/
structure XAt (D D2 : CatD) (ps : List FileD) (gs : List Int) (name : Int) (a1 a2 a3 b : Option Addr) (c1 c2 c3 cb w cw T : Nat) (t : Tr Value) (s : S) : Prop where
  t1 : t.get 1 = some (.slice a2 ps.length c2)
  t2 : t.get 2 = some (.slice a3 gs.length c3)
  t3 : t.get 3 = some (.int .i64 name)
  t4 : t.get 4 = some (.pointer (some ⟨3, 0, none⟩))
  t9 : t.get 9 = some (.slice (some ⟨w, 0, none⟩) D.files.length cw)
  t10 : t.get 10 = some (.pointer (some ⟨T, 0, none⟩))
  next : s.next = 10
  mark : s.mark ≤ 10
  C : Cl s 3 0 (D.cells a1 c1)
  C2 : Cl s T 0 (D2.cells b cb)
  V1 : Vx s a1 (fcs D.files)
  V2 : Vx s a2 (fcs ps)
  V3 : Vx s a3 (icsL gs)
  VW : Vx s (some ⟨w, 0, none⟩) (fcs D.files)
  VB : Vx s b (fcs D2.files)
  wlt : w = 4 ∨ w = 5
  lo1 : ∀ ad, a1 = some ad → ad.block < 3
  lo2 : ∀ ad, a2 = some ad → ad.block < 3
  lo3 : ∀ ad, a3 = some ad → ad.block < 3
  made : (D2.files = [] ∧ b = none ∧ cb = 0 ∧ T = 6) ∨ (D2.files ≠ [] ∧ b = some ⟨6, 0, none⟩ ∧ cb = Nat.add OPEN D2.files.length ∧ T = 7)

theorem sameFA_yes {s : S} {a a2 : Option Addr} {c c2 : Nat} {l : List FileD} (h : l.length ≤ 1000000) (hv : Vx s a (fcs l)) (hv2 : Vx s a2 (fcs l)) : ∃ s1, (sameFA [.slice a l.length c, .slice a2 l.length c2]).run s = some (.bool true, s1) ∧ Rd s s1 := by
  obtain ⟨s1, e, hr⟩ := sameFA_run (c := c) (c2 := c2) h hv hv2
  rw [decide_eq_true rfl] at e
  exact ⟨s1, e, hr⟩
theorem chWm : sub [1,1,1] cdWl = .seq (sub [1,1,1,0] cdWl) (.seq (sub [1,1,1,1,0] cdWl) (.seq (sub [1,1,1,1,1,0] cdWl) (sub [1,1,1,1,1,1] cdWl))) := rfl
set_option maxHeartbeats 4000000 in
theorem with_mid (q : Free) (hq : 100000 ≤ q.hi) (D : CatD) (ps : List FileD) (gs : List Int) (name : Int) (a1 a2 a3 : Option Addr) (c1 c2 c3 : Nat) (t : Tr Value) (s : S) (hX : WAt D ps gs name a1 a2 a3 c1 c2 c3 t s) (l1 : D.files.length ≤ 14) (l2 : ps.length ≤ 6) (l3 : gs.length ≤ 6)
    (Q : Ex → Fr → S → Prop) (hrest : ∀ b cb w cw T t s, XAt D (withD D ps gs) ps gs name a1 a2 a3 b c1 c2 c3 cb w cw T t s → GoW Tryd.prog q (sub [1,1,1,1,1,1] cdWl) ⟨5, t, 174, [], none⟩ s Q) :
    GoW Tryd.prog q (sub [1,1,1] cdWl) ⟨5, t, 174, [], none⟩ s Q := by
  obtain ⟨t1, t2, t3, t4, hn, hm, C, V1, V2, V3, lo1, lo2, lo3⟩ := hX
  rw [chWm]
  generalize hre : sub [1,1,1,1,1,1] cdWl = re at *
  simp only [cdWl, Tryd.f5, bodyOf, sub]
  -- a copy
  obtain ⟨H, N, mk, rd, wr⟩ := s
  simp only at hn hm
  subst hn
  have b4 : Nat.ble 4 lastName = true := rfl
  have l8 := C.ld (k := 8) (v := .slice a1 D.files.length c1) tiFs (by rw [dsFs]; rfl) rfl
  simp only [Nat.zero_add] at l8
  have hb3 : ∀ m, m ≠ 4 → (H.put 4 (some (.cells (Tr.ofList ([] : List Value)) ([] : List Value).length 41 .whole))).get m = H.get m := fun m hm => hg_far b4 hm _ _
  have C4 : Cl ⟨H.put 4 (some (.cells (Tr.ofList ([] : List Value)) ([] : List Value).length 41 .whole)), Nat.succ 4, mk, 0, 0⟩ 3 0 (D.cells a1 c1) := C.keep (by show 4 ≤ 5; omega) (hb3 3 (by omega))
  have l8' := C4.ld (k := 8) (v := .slice a1 D.files.length c1) tiFs (by rw [dsFs]; rfl) rfl
  simp only [Nat.zero_add] at l8'
  have E4 : Cl ⟨H.put 4 (some (.cells (Tr.ofList ([] : List Value)) ([] : List Value).length 41 .whole)), Nat.succ 4, mk, 0, 0⟩ 4 0 [] := ⟨by show 4 < 5; omega, _, 0, .inl ⟨_, _, hg_same b4 _ _⟩, Nat.le_refl _, fun k v hk => by simp at hk⟩
  have VV : ∀ {a : Option Addr} {L : List Value}, Vx ⟨H, 4, mk, rd, wr⟩ a L → (∀ ad, a = some ad → ad.block < 3) → ∀ s1 : S, 4 ≤ s1.next → (∀ m, m < 3 → s1.heap.get m = H.get m) → Vx s1 a L := by
    intro a L hv hlo s1 hn hg
    cases a with
    | none => exact hv
    | some ad => exact ⟨hv.1, hv.2.keep (by show 4 ≤ _; exact hn) (hg _ (hlo ad rfl))⟩
  obtain ⟨rdf, w, cw, nx, H', hrun, hcase⟩ := app0_run (cb := c1) E4 (VV V1 lo1 ⟨_, Nat.succ 4, mk, 0, 0⟩ (by show 4 ≤ 5; omega) (fun m hm => hb3 m (by omega))) (by omega) (show Nat.ble (Nat.succ 4) lastName = true from rfl)
  have ad8 : addA ⟨3, 0, none⟩ 8 = ⟨3, 8, none⟩ := rfl
  apply gow_seq
  apply gow_of hE hmix tolds_Wl
  repeat apply go_seq
  apply go_region
  case h => intro m; simp (disch := decide) only [opsLoop, evOper, wantedA, nth, aop, aPick, aBin, aIndexAddr, aFieldAddr, aLoad, aStore, aExtract, aConvert, aAlloc, aBox, aIndex, callA, Fr.evs, opt, val, when, AM.run, outV, newA, ptr, force_eq, seen_heap, seen_next, seen_mark, seen_seen, agg_cells, int_cells, Fr.ev, Fr.put, onFr, gps, gpn, bltT, still, flat, List.append_nil, List.nil_append, List.cons_append, Nat.reduceEqDiff, ne_eq, not_false_eq_true, reduceCtorEq, Bool.and_true, Bool.true_and, Bool.and_false, Bool.false_and, Bool.not_true, Bool.not_false, Bool.and_self, aBuildSlice, evParts, tyFs, dsFs, tyF, dsF, zeF, szF, fillA, repeatL, b4, show Nat.ble (Nat.mul 0 4) 1048576 = true from rfl, show Nat.beq ([Value.int .i64 0, .int .i64 0, .int .i64 0, .int .i64 0] : List Value).length 4 = true from rfl, show Nat.ble 1 4 = true from rfl, show Nat.ble ([] : List Value).length lastName = true from rfl, t4, tyC, dsC, flC5, ftC5, foC5, szFs, ble11, ad8, l8', hrun]; rfl
  have nx6 : nx = 5 ∨ nx = 6 := by rcases hcase with h | h <;> omega
  refine ⟨by show nx ≤ _; omega, ?_⟩
  show GoW _ _ _ _ _ _
  -- the copy, and all that was, at names below 6
  have hH' : ∀ m, m < 4 → H'.get m = H.get m := by
    intro m hm
    rcases hcase with ⟨_, _, _, _, rfl⟩ | ⟨_, _, _, _, rfl⟩
    · exact hb3 m (by omega)
    · rw [hg_far (show Nat.ble (Nat.succ 4) lastName = true from rfl) (by omega)]; exact hb3 m (by omega)
  have VW : Vx ⟨H', nx, mk, rdf (bit mk 3 rd), wr⟩ (some ⟨w, 0, none⟩) (fcs D.files) := by
    rcases hcase with ⟨h1, rfl, rfl, rfl, rfl⟩ | ⟨h1, rfl, rfl, rfl, rfl⟩
    · rw [h1]
      exact ⟨rfl, E4.of rfl rfl⟩
    · exact ⟨rfl, Cl.new (e := 41) (rm := .loose) (by show Nat.succ 4 < Nat.succ (Nat.succ 4); omega) (hg_same (show Nat.ble (Nat.succ 4) lastName = true from rfl) _ _) (by rw [fcs_len]; omega)⟩
  have wlt : w = 4 ∨ w = 5 := by rcases hcase with h | h <;> omega
  generalize hs5 : S.mk H' nx mk (rdf (bit mk 3 rd)) wr = s5 at *
  have e5 : s5.heap = H' ∧ s5.next = nx ∧ s5.mark = mk := by rw [← hs5]; exact ⟨rfl, rfl, rfl⟩
  generalize ht5 : Tr.put _ _ _ = t5
  have u1 : t5.get 1 = some (.slice a2 ps.length c2) := by rw [← ht5]; simp (disch := decide) only [gps, gpn, t1]
  have u2 : t5.get 2 = some (.slice a3 gs.length c3) := by rw [← ht5]; simp (disch := decide) only [gps, gpn, t2]
  have u3 : t5.get 3 = some (.int .i64 name) := by rw [← ht5]; simp (disch := decide) only [gps, gpn, t3]
  have u4 : t5.get 4 = some (.pointer (some ⟨3, 0, none⟩)) := by rw [← ht5]; simp (disch := decide) only [gps, gpn, t4]
  have u9 : t5.get 9 = some (.slice (some ⟨w, 0, none⟩) D.files.length cw) := by rw [← ht5]; simp (disch := decide) only [gps, gpn]
  clear ht5 hs5
  have C5 : Cl s5 3 0 (D.cells a1 c1) := C.keep (by show 4 ≤ _; omega) (by show s5.heap.get 3 = H.get 3; rw [e5.1]; exact hH' 3 (by omega))
  have W1 : Vx s5 a1 (fcs D.files) := VV V1 lo1 s5 (by omega) (fun m hm => by rw [e5.1]; exact hH' m (by omega))
  have W2 : Vx s5 a2 (fcs ps) := VV V2 lo2 s5 (by omega) (fun m hm => by rw [e5.1]; exact hH' m (by omega))
  have W3 : Vx s5 a3 (icsL gs) := VV V3 lo3 s5 (by omega) (fun m hm => by rw [e5.1]; exact hH' m (by omega))
  have n5 : s5.next ≤ 6 := by omega
  have m5 : s5.mark ≤ 4 := by omega
  clear hcase hrun VV E4 C4 C V1 V2 V3 l8 l8' hb3 hH' e5 nx6 t1 t2 t3 t4
  refine gow_less (fr2 := ⟨5, t5, 174, [], none⟩) (s2 := ⟨s5.heap, 6, s5.mark, 0, 0⟩) ?_ ⟨n5, fun m o ho => ⟨o, ho, .refl o⟩⟩ (by show s5.mark ≤ 6; omega) ⟨rfl, rfl, rfl, rfl, fun _ _ h => h⟩
  have C6 : Cl ⟨s5.heap, 6, s5.mark, 0, 0⟩ 3 0 (D.cells a1 c1) := C5.keep n5 rfl
  have W1 : Vx ⟨s5.heap, 6, s5.mark, 0, 0⟩ a1 (fcs D.files) := vx_keep W1 n5 (fun _ _ => rfl)
  have W2 : Vx ⟨s5.heap, 6, s5.mark, 0, 0⟩ a2 (fcs ps) := vx_keep W2 n5 (fun _ _ => rfl)
  have W3 : Vx ⟨s5.heap, 6, s5.mark, 0, 0⟩ a3 (icsL gs) := vx_keep W3 n5 (fun _ _ => rfl)
  have WW : Vx ⟨s5.heap, 6, s5.mark, 0, 0⟩ (some ⟨w, 0, none⟩) (fcs D.files) := vx_keep VW n5 (fun _ _ => rfl)
  clear C5 VW
  -- With
  have l9 := C6.ldA (β := ANext) tiC (by rw [dsC]; rfl) (by rw [szC]; rfl)
  obtain ⟨s7, b, cb, r7, m7, f7, made⟩ := withA_run (s := (⟨s5.heap, 6, s5.mark, bit s5.mark 3 0, 0⟩ : S)) (cap := c1) (c2 := c2) (c3 := c3) (show D.files.length ≤ 1000 by omega) (show ps.length ≤ 1000 by omega) (show gs.length ≤ 1000 by omega) (vx_keep W1 (Nat.le_refl _) (fun _ _ => rfl)) (vx_keep W2 (Nat.le_refl _) (fun _ _ => rfl)) (vx_keep W3 (Nat.le_refl _) (fun _ _ => rfl)) (show Nat.ble 6 lastName = true from rfl)
  obtain ⟨hvx, hmade⟩ := made
  change (_ ∧ _ ∧ _ ∧ s7.next = 6) ∨ (_ ∧ b = some ⟨6, 0, none⟩ ∧ _ ∧ s7.next = 6 + 1) at hmade
  have K7 : ∀ m, m < 6 → s7.heap.get m = s5.heap.get m := fun m hm => f7 m hm
  have n7 : 6 ≤ s7.next ∧ s7.next ≤ 7 := by rcases hmade with h | h <;> exact ⟨by have := h.2.2.2; omega, by have := h.2.2.2; omega⟩
  have keep7 : ∀ {a : Option Addr} {L : List Value}, Vx ⟨s5.heap, 6, s5.mark, 0, 0⟩ a L → Vx s7 a L := fun hv => vx_keep hv n7.1 K7
  have D1 := keep7 W1
  have D2 := keep7 W2
  have D3 := keep7 W3
  have DW := keep7 WW
  have DC : Cl s7 3 0 (D.cells a1 c1) := C6.keep n7.1 (K7 3 (by omega))
  clear keep7 K7 f7 C6 W1 W2 W3 WW
  have m7' : s7.mark ≤ 4 := by rw [m7]; exact m5
  clear m7
  obtain ⟨H7, T, mk7, rd7, wr7⟩ := s7
  simp only at n7 m7'
  have hT : Nat.ble T lastName = true := ble_iff.2 (by unfold lastName; omega)
  have hcb : ∀ b cb, allOne ((withD D ps gs).cells b cb) = true := fun _ _ => rfl
  have st := newCell H7 T mk7 hT (zeroD.cells none 0) ((withD D ps gs).cells b cb) 27 rfl (by simp [CatD.cells]) (hcb _ _)
  have hz9 : (zeroD.cells none 0) = [.int .i64 0, .int .i64 0, .int .i64 0, .bool false, .int .i64 0, .int .i64 0, .int .i64 0, .int .i64 0, .slice none 0 0] := rfl
  rw [hz9] at st
  apply gow_seq
  apply gow_of hE hmix tolds_Wl
  repeat apply go_seq
  apply go_region
  case h => intro m; simp (maxSteps := 2000000) (disch := decide) only [opsLoop, evOper, wantedA, nth, aop, aPick, aBin, aIndexAddr, aFieldAddr, aLoad, aStore, aExtract, aConvert, aAlloc, aBox, aIndex, callA, builtinA, Fr.evs, opt, val, when, AM.run, outV, newA, ptr, force_eq, seen_heap, seen_next, seen_mark, seen_seen, agg_cells, int_cells, Fr.ev, Fr.put, onFr, gps, gpn, bltT, still, flat, List.append_nil, List.nil_append, List.cons_append, Nat.reduceEqDiff, ne_eq, not_false_eq_true, reduceCtorEq, Bool.and_true, Bool.true_and, Bool.and_false, Bool.false_and, Bool.not_true, Bool.not_false, Bool.and_self, u1, u2, u4, tyC, dsC, szC, l9, tgWW, evT_told wlW, r7, zeC, hT, show Nat.ble ([Value.int .i64 0, .int .i64 0, .int .i64 0, .bool false, .int .i64 0, .int .i64 0, .int .i64 0, .int .i64 0, .slice none 0 0] : List Value).length lastName = true from rfl, show ∀ b cb, Nat.beq ((withD D ps gs).cells b cb).length 9 = true from fun _ _ => rfl, st]; rfl
  generalize hs8 : S.mk _ _ _ _ _ = s8
  have e8 : s8.next = T + 1 := by rw [← hs8]
  have e8m : s8.mark = mk7 := by rw [← hs8]
  have e8h : s8.heap = (H7.put T (some (.cells (Tr.ofList [.int .i64 0, .int .i64 0, .int .i64 0, .bool false, .int .i64 0, .int .i64 0, .int .i64 0, .int .i64 0, .slice none 0 0]) (List.length [Value.int .i64 0, .int .i64 0, .int .i64 0, .bool false, .int .i64 0, .int .i64 0, .int .i64 0, .int .i64 0, .slice none 0 0]) 27 .whole))).put T (some (.cells (wrCells (Tr.ofList [.int .i64 0, .int .i64 0, .int .i64 0, .bool false, .int .i64 0, .int .i64 0, .int .i64 0, .int .i64 0, .slice none 0 0]) 0 ((withD D ps gs).cells b cb)) (List.length [Value.int .i64 0, .int .i64 0, .int .i64 0, .bool false, .int .i64 0, .int .i64 0, .int .i64 0, .int .i64 0, .slice none 0 0]) 27 .whole)) := by rw [← hs8]
  clear hs8 st r7
  have F8 : Cl s8 T 0 ((withD D ps gs).cells b cb) := newCell_cl (by omega) (by rw [e8h]; exact hg_same hT _ _) rfl (by simp [CatD.cells])
  have K8 : ∀ m, m < T → s8.heap.get m = H7.get m := fun m hm => by rw [e8h, hg_far hT (by omega), hg_far hT (by omega)]
  clear e8h
  have keep8 : ∀ {a : Option Addr} {L : List Value}, Vx ⟨H7, T, mk7, rd7, wr7⟩ a L → Vx s8 a L := fun hv => vx_keep hv (by show T ≤ _; omega) K8
  have E1 := keep8 D1
  have E2 := keep8 D2
  have E3 := keep8 D3
  have EW := keep8 DW
  have EB := keep8 hvx
  have EC : Cl s8 3 0 (D.cells a1 c1) := DC.keep (by show T ≤ _; omega) (K8 3 (by omega))
  clear keep8 K8 D1 D2 D3 DW DC hvx
  refine ⟨by omega, ?_⟩
  show GoW _ _ _ _ _ _
  refine gow_less (fr2 := ⟨5, _, 174, [], none⟩) (s2 := ⟨s8.heap, 10, s8.mark, 0, 0⟩) ?_ ⟨by show s8.next ≤ 10; omega, fun m o ho => ⟨o, ho, .refl o⟩⟩ (by show s8.mark ≤ 10; omega) ⟨rfl, rfl, rfl, rfl, fun _ _ h => h⟩
  have G1 : Vx ⟨s8.heap, 10, s8.mark, 0, 0⟩ a1 (fcs D.files) := vx_keep E1 (by show s8.next ≤ 10; omega) (fun _ _ => rfl)
  have G2 : Vx ⟨s8.heap, 10, s8.mark, 0, 0⟩ a2 (fcs ps) := vx_keep E2 (by show s8.next ≤ 10; omega) (fun _ _ => rfl)
  have G3 : Vx ⟨s8.heap, 10, s8.mark, 0, 0⟩ a3 (icsL gs) := vx_keep E3 (by show s8.next ≤ 10; omega) (fun _ _ => rfl)
  have GW : Vx ⟨s8.heap, 10, s8.mark, 0, 0⟩ (some ⟨w, 0, none⟩) (fcs D.files) := vx_keep EW (by show s8.next ≤ 10; omega) (fun _ _ => rfl)
  have GB : Vx ⟨s8.heap, 10, s8.mark, 0, 0⟩ b (fcs (withD D ps gs).files) := vx_keep EB (by show s8.next ≤ 10; omega) (fun _ _ => rfl)
  have GC : Cl ⟨s8.heap, 10, s8.mark, 0, 0⟩ 3 0 (D.cells a1 c1) := EC.keep (by show s8.next ≤ 10; omega) rfl
  have GT : Cl ⟨s8.heap, 10, s8.mark, 0, 0⟩ T 0 ((withD D ps gs).cells b cb) := F8.keep (by show s8.next ≤ 10; omega) rfl
  clear E1 E2 E3 EW EB EC F8
  -- what it was made of stays
  have lA := GC.ld (k := 8) (v := .slice a1 D.files.length c1) tiFs (by rw [dsFs]; rfl) rfl
  simp only [Nat.zero_add] at lA
  have wlen : D.files.length ≤ 1000000 := by omega
  obtain ⟨s9, r9, hr9⟩ := sameFA_yes (c := c1) (c2 := cw) wlen (s := ⟨s8.heap, 10, s8.mark, bit s8.mark 3 0, 0⟩) (vx_keep G1 (Nat.le_refl _) (fun _ _ => rfl)) (vx_keep GW (Nat.le_refl _) (fun _ _ => rfl))
  have h9 : s9.heap = s8.heap := hr9.heap
  have n9 : s9.next = 10 := hr9.next
  have m9 : s9.mark = s8.mark := hr9.mark
  clear hr9
  obtain ⟨H9, N9, mk9, rd9, wr9⟩ := s9
  simp only at h9 n9 m9
  subst h9; subst n9; subst m9
  have x0 := GT.ld (k := 0) tiI (by rw [dsI]; rfl) rfl
  have x1 := GT.ld (k := 1) tiI (by rw [dsI]; rfl) rfl
  have y0 := GC.ld (k := 0) tiI (by rw [dsI]; rfl) rfl
  have y1 := GC.ld (k := 1) tiI (by rw [dsI]; rfl) rfl
  have x4 := (GT.sub 4 4 (by simp [CatD.cells])).ldA (β := ANext) tiK (by rw [dsK]; rfl) (by rw [szK]; rfl)
  have y4 := (GC.sub 4 4 (by simp [CatD.cells])).ldA (β := ANext) tiK (by rw [dsK]; rfl) (by rw [szK]; rfl)
  have ex4 : (((withD D ps gs).cells b cb).drop 4).take 4 = [.int .i64 D.from_, .int .i64 D.to_, .int .i64 D.budget, .int .i64 D.fan] := rfl
  have ey4 : ((D.cells a1 c1).drop 4).take 4 = [.int .i64 D.from_, .int .i64 D.to_, .int .i64 D.budget, .int .i64 D.fan] := rfl
  rw [ex4] at x4
  rw [ey4] at y4
  simp only [Nat.zero_add] at x0 x1 y0 y1 x4 y4
  have hgen : (withD D ps gs).gen = D.gen := rfl
  have hstep : (withD D ps gs).step = D.step := rfl
  rw [hgen] at x0
  rw [hstep] at x1
  have aT0 : ∀ n, addA ⟨n, 0, none⟩ 0 = ⟨n, 0, none⟩ := fun _ => rfl
  have aT1 : ∀ n, addA ⟨n, 0, none⟩ 1 = ⟨n, 1, none⟩ := fun _ => rfl
  have aT4 : ∀ n, addA ⟨n, 0, none⟩ 4 = ⟨n, 4, none⟩ := fun _ => rfl
  apply gow_seq
  apply gow_seq
  apply gow_of hE hmix tolds_Wl
  repeat apply go_seq
  apply go_region
  case h => intro m; simp (maxSteps := 2000000) (disch := decide) only [opsLoop, evOper, wantedA, nth, aop, aPick, aBin, aIndexAddr, aFieldAddr, aLoad, aStore, aExtract, aConvert, aAlloc, aBox, aIndex, callA, builtinA, Fr.evs, opt, val, when, AM.run, outV, newA, ptr, force_eq, seen_heap, seen_next, seen_mark, seen_seen, agg_cells, int_cells, Fr.ev, Fr.put, onFr, gps, gpn, bltT, still, flat, List.append_nil, List.nil_append, List.cons_append, Nat.reduceEqDiff, ne_eq, not_false_eq_true, reduceCtorEq, Bool.and_true, Bool.true_and, Bool.and_false, Bool.false_and, Bool.not_true, Bool.not_false, Bool.and_self, u4, u9, tyC, dsC, flC0, flC1, flC4, flC5, ftC0, ftC1, ftC4, ftC5, foC0, foC1, foC4, foC5, tyFs, dsFs, szFs, tyI, szI, tyK, szK, ble11, ad8, aT0, aT1, aT4, lA, tgWS, evT_told wlS, r9, u_not, x0, x1, y0, y1, x4, y4, b_neqI, eqI_self, neqK_same, show Nat.ble 1 4 = true from rfl]; rfl
  refine ⟨by show 10 ≤ q.hi; omega, ?_⟩
  show GoW _ _ _ _ _ _
  apply gow_of hE hmix tolds_Wl
  repeat apply go_seq
  apply go_cond
  case hc => simp (disch := decide) only [opsLoop, evOper, wantedA, nth, aop, aPick, aBin, aIndexAddr, aFieldAddr, aLoad, aStore, aExtract, aConvert, aAlloc, aBox, aIndex, callA, builtinA, Fr.evs, opt, val, when, AM.run, outV, newA, ptr, force_eq, seen_heap, seen_next, seen_mark, seen_seen, agg_cells, int_cells, Fr.ev, Fr.put, onFr, gps, gpn, bltT, still, flat, List.append_nil, List.nil_append, List.cons_append, Nat.reduceEqDiff, ne_eq, not_false_eq_true, reduceCtorEq, Bool.and_true, Bool.true_and, Bool.and_false, Bool.false_and, Bool.not_true, Bool.not_false, Bool.and_self]; rfl
  case h1 => intro h; cases h
  intro _
  apply go_skip
  refine ⟨by show 10 ≤ q.hi; omega, ?_⟩
  show GoW _ _ _ _ _ _
  refine hrest b cb w cw T _ _ ⟨?_, ?_, ?_, ?_, ?_, ?_, rfl, by show s8.mark ≤ 10; omega, GC.of rfl rfl, GT.of rfl rfl, vx_keep G1 (Nat.le_refl _) (fun _ _ => rfl), vx_keep G2 (Nat.le_refl _) (fun _ _ => rfl), vx_keep G3 (Nat.le_refl _) (fun _ _ => rfl), vx_keep GW (Nat.le_refl _) (fun _ _ => rfl), vx_keep GB (Nat.le_refl _) (fun _ _ => rfl), wlt, lo1, lo2, lo3, ?_⟩
  · simp (disch := decide) only [gps, gpn, u1]
  · simp (disch := decide) only [gps, gpn, u2]
  · simp (disch := decide) only [gps, gpn, u3]
  · simp (disch := decide) only [gps, gpn, u4]
  · simp (disch := decide) only [gps, gpn, u9]
  · simp (disch := decide) only [gps, gpn]
  · exact hmade
end Go.Proofs.YtgofanjbhbeniaaDoor.lf
end
end

section
/- Catalogs made anew: names rise. -/
noncomputable section
namespace Go.Proofs.YtgofanjbhbeniaaDoor.lf
open AE
set_option linter.unusedSimpArgs false
set_option linter.unusedVariables false
set_option maxRecDepth 10000

theorem fcs_nameW (fs : List FileD) (i : Nat) (f : FileD) (h : fs[i]? = some f) : (fcs fs)[i * 4]? = some (.int .i64 f.name) := by
  have := fcs_at fs i f h
  have h2 : (((fcs fs).drop (i * 4)).take 4)[0]? = (FileD.cells f)[0]? := by rw [this]
  rw [List.getElem?_take, if_pos (by omega), List.getElem?_drop, Nat.add_zero] at h2
  exact h2
/-- names rise -/
theorem rises {l : List FileD} (hn : ND l) {i : Nat} {f g : FileD} (h1 : (sortN l)[i]? = some f) (h2 : (sortN l)[i + 1]? = some g) : ltI f.name g.name = true := by
  have hs := sortN_sorted l
  rw [List.pairwise_iff_getElem] at hs
  obtain ⟨k1, e1⟩ := List.getElem?_eq_some_iff.1 h1
  obtain ⟨k2, e2⟩ := List.getElem?_eq_some_iff.1 h2
  have h3 := hs i (i + 1) k1 k2 (Nat.lt_succ_self i)
  rw [e1, e2] at h3
  simp only [leN, decide_eq_true_eq] at h3
  have hnd := nd_perm (sortN_perm l).symm hn
  have hne : f.name ≠ g.name := by
    intro he
    have hp : ((sortN l).map (·.name)).Pairwise (· ≠ ·) := hnd
    rw [List.pairwise_iff_getElem] at hp
    have := hp i (i + 1) (by rw [List.length_map]; exact k1) (by rw [List.length_map]; exact k2) (Nat.lt_succ_self i)
    rw [List.getElem_map, List.getElem_map, e1, e2] at this
    exact this he
  rw [ltI_eq, decide_eq_true_eq]
  omega
noncomputable def cdU : Code := sub [1,1,1,1,1,1,0,1,0,0] cdWl
structure KX (t : Tr Value) (ps : List FileD) (gs : List Int) (name : Int) (a2 a3 : Option Addr) (c2 c3 w n1 cw T : Nat) : Prop where
  t1 : t.get 1 = some (.slice a2 ps.length c2)
  t2 : t.get 2 = some (.slice a3 gs.length c3)
  t3 : t.get 3 = some (.int .i64 name)
  t4 : t.get 4 = some (.pointer (some ⟨3, 0, none⟩))
  t9 : t.get 9 = some (.slice (some ⟨w, 0, none⟩) n1 cw)
  t10 : t.get 10 = some (.pointer (some ⟨T, 0, none⟩))
/-- memory is as it was -/
structure Same2 (s0 s : S) : Prop where
  heap : s.heap = s0.heap
  next : s.next = 10
  mark : s.mark = s0.mark
def InvU (s0 : S) (ps : List FileD) (gs : List Int) (name : Int) (a2 a3 : Option Addr) (c2 c3 w n1 cw T n2 : Nat) (k : Nat) (fr : Fr) (s : S) : Prop :=
  ∃ (i : Nat) (t : Tr Value), k = n2 - i ∧ 1 ≤ i ∧ fr = ⟨5, t, 174, [], none⟩ ∧ KX t ps gs name a2 a3 c2 c3 w n1 cw T ∧ t.get 11 = some (.int .i64 (.ofNat i)) ∧ Same2 s0 s
def PostU (s0 : S) (ps : List FileD) (gs : List Int) (name : Int) (a2 a3 : Option Addr) (c2 c3 w n1 cw T : Nat) (x : Ex) (fr : Fr) (s : S) : Prop :=
  x = .exit 0 ∧ ∃ t : Tr Value, fr = ⟨5, t, 174, [], none⟩ ∧ KX t ps gs name a2 a3 c2 c3 w n1 cw T ∧ Same2 s0 s
set_option maxHeartbeats 4000000 in
theorem rise_round (s0 : S) (hs0 : s0.next = 10) (D2 : CatD) (l : List FileD) (hD2 : D2.files = sortN l) (hnd : ND l) (hl : l.length ≤ 100) (b : Option Addr) (cb : Nat) (ps : List FileD) (gs : List Int) (name : Int) (a2 a3 : Option Addr) (c2 c3 w n1 cw T : Nat) (C2 : Cl s0 T 0 (D2.cells b cb)) (VB : Vx s0 b (fcs D2.files)) (hb : b = none ∨ ∃ k, b = some ⟨k, 0, none⟩) (k : Nat) (fr : Fr) (s : S) (h : InvU s0 ps gs name a2 a3 c2 c3 w n1 cw T D2.files.length k fr s) :
    GoC E (sumsOf sigWl) cdU fr s (Again (InvU s0 ps gs name a2 a3 c2 c3 w n1 cw T D2.files.length) k (PostU s0 ps gs name a2 a3 c2 c3 w n1 cw T)) := by
  obtain ⟨i, t, rfl, hi1, rfl, ⟨k1, k2, k3, k4, k9, k10⟩, k11, ⟨hH, hN, hM⟩⟩ := h
  have hlen : D2.files.length = l.length := by rw [hD2]; exact sortN_len l
  simp only [cdU, cdWl, Tryd.f5, bodyOf, sub]
  obtain ⟨H, N, mk, rd, wr⟩ := s
  simp only at hH hN hM
  subst hN
  subst hH
  have C3 : Cl ⟨s0.heap, 10, 10, 0, 0⟩ T 0 (D2.cells b cb) := C2.keep (by show s0.next ≤ 10; omega) rfl
  have l8 := C3.ld (k := 8) (v := .slice b D2.files.length cb) tiFs (by rw [dsFs]; rfl) rfl
  have l8' := (C2.of (s1 := ⟨s0.heap, 10, mk, 0, 0⟩) rfl hs0.symm).ld (k := 8) (v := .slice b D2.files.length cb) tiFs (by rw [dsFs]; rfl) rfl
  simp only [Nat.zero_add] at l8 l8'
  have adT : addA ⟨T, 0, none⟩ 8 = ⟨T, 8, none⟩ := rfl
  by_cases hlt : i < D2.files.length
  · obtain ⟨j, rfl⟩ : ∃ j, i = j + 1 := ⟨i - 1, by omega⟩
    obtain ⟨f, hf⟩ : ∃ f, D2.files[j]? = some f := ⟨_, List.getElem?_eq_getElem (by omega)⟩
    obtain ⟨g, hg⟩ : ∃ g, D2.files[j + 1]? = some g := ⟨_, List.getElem?_eq_getElem hlt⟩
    have hr : ltI f.name g.name = true := rises hnd (by rw [← hD2]; exact hf) (by rw [← hD2]; exact hg)
    rcases hb with rfl | ⟨kb, rfl⟩
    · have h0 : fcs D2.files = [] := VB
      have := fcs_len D2.files
      rw [h0] at this
      have h4 : (0 : Nat) = 4 * D2.files.length := this
      omega
    · obtain ⟨_, hcl⟩ := VB
      have R : Cl ⟨s0.heap, 10, 10, 0, 0⟩ kb 0 (fcs D2.files) := hcl.keep (by show s0.next ≤ 10; omega) rfl
      have n1' := R.ld (k := j * 4) (v := .int .i64 f.name) tiI (by rw [dsI]; rfl) (fcs_nameW _ _ _ hf)
      have n2' := R.ld (k := (j + 1) * 4) (v := .int .i64 g.name) tiI (by rw [dsI]; rfl) (fcs_nameW _ _ _ hg)
      simp only [Nat.zero_add] at n1' n2'
      have hlt' : ltI (Int.ofNat (j + 1)) (Int.ofNat D2.files.length) = true := by rw [ltI_eq]; simp; omega
      have hb1 : Nat.blt j D2.files.length = true := blt_iff.2 (by omega)
      have hb2 : Nat.blt (j + 1) D2.files.length = true := blt_iff.2 hlt
      have hsub : ∀ E t, binA E .sub t (.int .i64 (.ofNat (j + 1))) (.int .i64 (.ofNat 1)) = some (.int .i64 (.ofNat j)) := by
        intro E t
        rw [b_sub]
        have e : Int.sub (.ofNat (j + 1)) (.ofNat 1) = .ofNat j := by show ((j + 1 : Nat) : Int) - ((1 : Nat) : Int) = (j : Int); omega
        rw [e]
        have h1 : -9223372036854775808 ≤ (Int.ofNat j) := by have : (0 : Int) ≤ Int.ofNat j := Int.natCast_nonneg j; omega
        have h2 : (Int.ofNat j) < 9223372036854775808 := by show (j : Int) < _; omega
        rw [wrap_small h1 h2]
      have hinc := b_incr (n := j + 1) (by omega)
      have aj : addA ⟨kb, 0, none⟩ (Nat.mul j 4) = ⟨kb, j * 4, none⟩ := by rw [addAn]; rw [Nat.zero_add]; rfl
      have aj1 : addA ⟨kb, 0, none⟩ (Nat.mul (j + 1) 4) = ⟨kb, (j + 1) * 4, none⟩ := by rw [addAn]; rw [Nat.zero_add]; rfl
      have aT0 : ∀ n o, addA ⟨n, o, none⟩ 0 = ⟨n, o, none⟩ := fun _ _ => rfl
      repeat apply go_seq
      apply go_region
      case h => intro m; simp (maxSteps := 2000000) (disch := decide) only [opsLoop, evOper, wantedA, nth, aop, aPick, aBin, aIndexAddr, aFieldAddr, aLoad, aStore, aExtract, aConvert, aAlloc, aBox, aIndex, callA, builtinA, Fr.evs, opt, val, when, AM.run, outV, newA, ptr, force_eq, seen_heap, seen_next, seen_mark, seen_seen, agg_cells, int_cells, Fr.ev, Fr.put, onFr, gps, gpn, bltT, still, flat, List.append_nil, List.nil_append, List.cons_append, Nat.reduceEqDiff, ne_eq, not_false_eq_true, reduceCtorEq, Bool.and_true, Bool.true_and, Bool.and_false, Bool.false_and, Bool.not_true, Bool.not_false, Bool.and_self, k11, k10, tyC, dsC, flC5, ftC5, foC5, tyFs, dsFs, szFs, ble11, adT, l8', b_lss, hlt']; rfl
      repeat apply go_seq
      apply go_cond
      case hc => simp (disch := decide) only [opsLoop, evOper, wantedA, nth, aop, aPick, aBin, aIndexAddr, aFieldAddr, aLoad, aStore, aExtract, aConvert, aAlloc, aBox, aIndex, callA, builtinA, Fr.evs, opt, val, when, AM.run, outV, newA, ptr, force_eq, seen_heap, seen_next, seen_mark, seen_seen, agg_cells, int_cells, Fr.ev, Fr.put, onFr, gps, gpn, bltT, still, flat, List.append_nil, List.nil_append, List.cons_append, Nat.reduceEqDiff, ne_eq, not_false_eq_true, reduceCtorEq, Bool.and_true, Bool.true_and, Bool.and_false, Bool.false_and, Bool.not_true, Bool.not_false, Bool.and_self]; rfl
      case h2 => intro h; cases h
      intro _
      apply go_skip
      apply go_seq
      apply go_block
      repeat apply go_seq
      apply go_drawn
      case hs => rfl
      case h => intro m; simp (maxSteps := 2000000) (disch := decide) only [opsLoop, evOper, wantedA, nth, aop, aPick, aBin, aIndexAddr, aFieldAddr, aLoad, aStore, aExtract, aConvert, aAlloc, aBox, aIndex, callA, builtinA, Fr.evs, opt, val, when, AM.run, outV, newA, ptr, force_eq, seen_heap, seen_next, seen_mark, seen_seen, agg_cells, int_cells, Fr.ev, Fr.put, onFr, gps, gpn, bltT, still, flat, List.append_nil, List.nil_append, List.cons_append, Nat.reduceEqDiff, ne_eq, not_false_eq_true, reduceCtorEq, Bool.and_true, Bool.true_and, Bool.and_false, Bool.false_and, Bool.not_true, Bool.not_false, Bool.and_self, drawnLoop, force_eq, S.seen, keep_none, clash_nil, clash_reads, created_self, lor_zero, lor_zero', k11, k10, tyC, dsC, flC5, ftC5, foC5, tyFs, dsFs, szFs, ble11, adT, l8, int1, hsub, hb1, hb2, tyF, szF, dsF, flF0, ftF0, foF0, aj, aj1, aT0, tyI, szI, n1', n2', b_geq, hr]; rfl
      repeat apply go_seq
      apply go_cond
      case hc => simp (disch := decide) only [opsLoop, evOper, wantedA, nth, aop, aPick, aBin, aIndexAddr, aFieldAddr, aLoad, aStore, aExtract, aConvert, aAlloc, aBox, aIndex, callA, builtinA, Fr.evs, opt, val, when, AM.run, outV, newA, ptr, force_eq, seen_heap, seen_next, seen_mark, seen_seen, agg_cells, int_cells, Fr.ev, Fr.put, onFr, gps, gpn, bltT, still, flat, List.append_nil, List.nil_append, List.cons_append, Nat.reduceEqDiff, ne_eq, not_false_eq_true, reduceCtorEq, Bool.and_true, Bool.true_and, Bool.and_false, Bool.false_and, Bool.not_true, Bool.not_false, Bool.and_self]; rfl
      case h1 => intro h; cases h
      intro _
      apply go_skip
      repeat apply go_seq
      apply go_region
      case h => intro m; simp (maxSteps := 2000000) (disch := decide) only [opsLoop, evOper, wantedA, nth, aop, aPick, aBin, aIndexAddr, aFieldAddr, aLoad, aStore, aExtract, aConvert, aAlloc, aBox, aIndex, callA, builtinA, Fr.evs, opt, val, when, AM.run, outV, newA, ptr, force_eq, seen_heap, seen_next, seen_mark, seen_seen, agg_cells, int_cells, Fr.ev, Fr.put, onFr, gps, gpn, bltT, still, flat, List.append_nil, List.nil_append, List.cons_append, Nat.reduceEqDiff, ne_eq, not_false_eq_true, reduceCtorEq, Bool.and_true, Bool.true_and, Bool.and_false, Bool.false_and, Bool.not_true, Bool.not_false, Bool.and_self, k11, int1, hinc]; rfl
      refine ⟨D2.files.length - (j + 1 + 1), by omega, j + 1 + 1, _, rfl, by omega, rfl, ⟨?_, ?_, ?_, ?_, ?_, ?_⟩, ?_, ⟨rfl, rfl, hM⟩⟩
      · simp (disch := decide) only [gps, gpn, k1]
      · simp (disch := decide) only [gps, gpn, k2]
      · simp (disch := decide) only [gps, gpn, k3]
      · simp (disch := decide) only [gps, gpn, k4]
      · simp (disch := decide) only [gps, gpn, k9]
      · simp (disch := decide) only [gps, gpn, k10]
      · simp (disch := decide) only [gps, gpn]
  · have hlt' : ltI (Int.ofNat i) (Int.ofNat D2.files.length) = false := by rw [ltI_eq]; simp; omega
    repeat apply go_seq
    apply go_region
    case h => intro m; simp (maxSteps := 2000000) (disch := decide) only [opsLoop, evOper, wantedA, nth, aop, aPick, aBin, aIndexAddr, aFieldAddr, aLoad, aStore, aExtract, aConvert, aAlloc, aBox, aIndex, callA, builtinA, Fr.evs, opt, val, when, AM.run, outV, newA, ptr, force_eq, seen_heap, seen_next, seen_mark, seen_seen, agg_cells, int_cells, Fr.ev, Fr.put, onFr, gps, gpn, bltT, still, flat, List.append_nil, List.nil_append, List.cons_append, Nat.reduceEqDiff, ne_eq, not_false_eq_true, reduceCtorEq, Bool.and_true, Bool.true_and, Bool.and_false, Bool.false_and, Bool.not_true, Bool.not_false, Bool.and_self, k11, k10, tyC, dsC, flC5, ftC5, foC5, tyFs, dsFs, szFs, ble11, adT, l8', b_lss, hlt']; rfl
    repeat apply go_seq
    apply go_cond
    case hc => simp (disch := decide) only [opsLoop, evOper, wantedA, nth, aop, aPick, aBin, aIndexAddr, aFieldAddr, aLoad, aStore, aExtract, aConvert, aAlloc, aBox, aIndex, callA, builtinA, Fr.evs, opt, val, when, AM.run, outV, newA, ptr, force_eq, seen_heap, seen_next, seen_mark, seen_seen, agg_cells, int_cells, Fr.ev, Fr.put, onFr, gps, gpn, bltT, still, flat, List.append_nil, List.nil_append, List.cons_append, Nat.reduceEqDiff, ne_eq, not_false_eq_true, reduceCtorEq, Bool.and_true, Bool.true_and, Bool.and_false, Bool.false_and, Bool.not_true, Bool.not_false, Bool.and_self]; rfl
    case h1 => intro h; cases h
    intro _
    apply go_exit
    refine ⟨rfl, _, rfl, ⟨?_, ?_, ?_, ?_, ?_, ?_⟩, ⟨rfl, rfl, hM⟩⟩
    · simp (disch := decide) only [gps, gpn, k1]
    · simp (disch := decide) only [gps, gpn, k2]
    · simp (disch := decide) only [gps, gpn, k3]
    · simp (disch := decide) only [gps, gpn, k4]
    · simp (disch := decide) only [gps, gpn, k9]
    · simp (disch := decide) only [gps, gpn, k10]
end Go.Proofs.YtgofanjbhbeniaaDoor.lf
end
end

section
/- Catalogs made anew: the files that are looked at, one list behind the other. -/
noncomputable section
namespace Go.Proofs.YtgofanjbhbeniaaDoor.lf
open AE
set_option linter.unusedSimpArgs false
set_option linter.unusedVariables false
set_option maxRecDepth 10000

abbrev cellsF (L : List FileD) : AObj := .cells (Tr.ofList (fcs L)) (fcs L).length 41 .loose
theorem apE_nil {H : Tr AObj} {N mk e : Nat} {b : Option Addr} {cb : Nat} : ∀ rd wr, (builtinA E .append #[25, 25] [.slice (some ⟨e, 0, none⟩) 0 0, .slice b ([] : List FileD).length cb]).run ⟨H, N, mk, rd, wr⟩ = some (.value (.slice (some ⟨e, 0, none⟩) 0 0), ⟨H, N, mk, rd, wr⟩) := by
  intro rd wr
  rw [app_eqF]
  cases b <;> rfl
theorem firstF_run {H : Tr AObj} {N mk ab ao cb : Nat} {L : List FileD} (h0 : L ≠ []) (hx : Cl ⟨H, N, mk, 0, 0⟩ ab ao (fcs L)) (rd wr : Nat) (k : List Value → AM ANext) : (firstA 4 L.length (.slice (some ⟨ab, ao, none⟩) L.length cb) k).run ⟨H, N, mk, rd, wr⟩ = (k (fcs L)).run ⟨H, N, mk, bit mk ab rd, wr⟩ := by
  obtain ⟨m, hm⟩ : ∃ m, L.length = m + 1 := ⟨L.length - 1, by
    have : L.length ≠ 0 := fun h => h0 (List.eq_nil_of_length_eq_zero h)
    omega⟩
  have : firstA 4 L.length (.slice (some ⟨ab, ao, none⟩) L.length cb) k = loadA ⟨ab, ao, none⟩ (Nat.mul L.length 4) k := by rw [hm]; rfl
  rw [this, show Nat.mul L.length 4 = (fcs L).length by rw [fcs_len]; exact Nat.mul_comm _ _]
  exact cl_load (s := ⟨H, N, mk, rd, wr⟩) (hx.of rfl rfl) k
theorem apE_cons {H : Tr AObj} {N mk e ab ao cb : Nat} {L : List FileD} (h0 : L ≠ []) (hE0 : Cl ⟨H, N, mk, 0, 0⟩ e 0 []) (hx : Cl ⟨H, N, mk, 0, 0⟩ ab ao (fcs L)) (hl : L.length ≤ 1000) (hN : Nat.ble N lastName = true) :
    ∀ rd wr, (builtinA E .append #[25, 25] [.slice (some ⟨e, 0, none⟩) 0 0, .slice (some ⟨ab, ao, none⟩) L.length cb]).run ⟨H, N, mk, rd, wr⟩ = some (.value (.slice (some ⟨N, 0, none⟩) L.length (Nat.add OPEN L.length)), ⟨H.put N (some (cellsF L)), Nat.succ N, mk, bit mk e (bit mk ab rd), wr⟩) := by
  intro rd wr
  have hpos : 0 < L.length := by
    have : L.length ≠ 0 := fun h => h0 (List.eq_nil_of_length_eq_zero h)
    omega
  rw [app_eqF]
  unfold appendA
  have h3 : Nat.ble (Nat.add 0 L.length) maxNeed = true := ble_iff.2 (by show 0 + _ ≤ maxNeed; unfold maxNeed; omega)
  have h4 : Nat.ble (Nat.add 0 L.length) 0 = false := ble_f (by show 0 < 0 + L.length; omega)
  simp only [h3, when, show Nat.ble 1 4 = true from rfl, show Nat.ble 32 1024 = true from rfl, Bool.and_self]
  rw [firstF_run h0 hx]
  simp only [show Nat.ble OPEN 0 = false from rfl, h4]
  have e1 : ∀ k : List Value → AM ANext, (loadA ⟨e, 0, none⟩ (Nat.mul 0 4) k).run ⟨H, N, mk, bit mk ab rd, wr⟩ = (k []).run ⟨H, N, mk, bit mk e (bit mk ab rd), wr⟩ := fun k => cl_load (s := ⟨H, N, mk, bit mk ab rd, wr⟩) (hE0.of rfl rfl) k
  rw [e1]
  unfold growA
  simp only [when, show Nat.beq 4 4 = true from rfl, List.nil_append]
  rw [newA_runW (s := ⟨H, N, mk, bit mk e (bit mk ab rd), wr⟩) (by rw [fcs_len]; omega) hN]
  rw [show Nat.add 0 L.length = L.length from Nat.zero_add _]
  rfl
theorem apR_nil {H : Tr AObj} {N mk r n c : Nat} {b : Option Addr} {cb : Nat} (hc : Nat.ble OPEN c = true) (hs : Nat.sub c OPEN = n) (hn : n ≤ 1000) : ∀ rd wr, (builtinA E .append #[25, 25] [.slice (some ⟨r, 0, none⟩) n c, .slice b ([] : List FileD).length cb]).run ⟨H, N, mk, rd, wr⟩ = some (.value (.slice (some ⟨r, 0, none⟩) n c), ⟨H, N, mk, rd, wr⟩) := by
  intro rd wr
  rw [app_eqF]
  unfold appendA
  have h3 : Nat.ble (Nat.add n ([] : List FileD).length) maxNeed = true := ble_iff.2 (by show n + 0 ≤ maxNeed; unfold maxNeed; omega)
  have h5 : Nat.ble (Nat.add n ([] : List FileD).length) n = true := ble_iff.2 (Nat.le_refl _)
  have e0 : ∀ k : List Value → AM ANext, firstA 4 ([] : List FileD).length (.slice b ([] : List FileD).length cb) k = k [] := fun k => by cases b <;> rfl
  simp only [h3, when, show Nat.ble 1 4 = true from rfl, show Nat.ble 32 1024 = true from rfl, Bool.and_self, e0, hc, hs, h5, inPlace]
  try rfl
theorem apR_cons {H : Tr AObj} {N mk r c ab ao cb : Nat} {M L : List FileD} (h0 : L ≠ []) (hc : Nat.ble OPEN c = true) (hs : Nat.sub c OPEN = M.length) (hr : r < N) (hg : H.get r = some (cellsF M)) (hx : Cl ⟨H, N, mk, 0, 0⟩ ab ao (fcs L)) (hl : M.length + L.length ≤ 1000) (hN : Nat.ble N lastName = true) :
    ∀ rd wr, (builtinA E .append #[25, 25] [.slice (some ⟨r, 0, none⟩) M.length c, .slice (some ⟨ab, ao, none⟩) L.length cb]).run ⟨H, N, mk, rd, wr⟩ = some (.value (.slice (some ⟨N, 0, none⟩) (M ++ L).length (Nat.add OPEN (M ++ L).length)), ⟨(H.put r none).put N (some (cellsF (M ++ L))), Nat.succ N, mk, bit mk r (bit mk ab rd), bit mk r wr⟩) := by
  intro rd wr
  have hpos : 0 < L.length := by
    have : L.length ≠ 0 := fun h => h0 (List.eq_nil_of_length_eq_zero h)
    omega
  have hlen : (fcs M).length = 4 * M.length := fcs_len M
  rw [app_eqF]
  unfold appendA
  have h3 : Nat.ble (Nat.add M.length L.length) maxNeed = true := ble_iff.2 (by show M.length + L.length ≤ maxNeed; unfold maxNeed; omega)
  have h5 : Nat.ble (Nat.add M.length L.length) M.length = false := ble_f (by show M.length < M.length + L.length; omega)
  simp only [h3, when, show Nat.ble 1 4 = true from rfl, show Nat.ble 32 1024 = true from rfl, Bool.and_self]
  rw [firstF_run h0 hx]
  rw [hc, hs, h5]
  dsimp only
  unfold appendL
  have h7 : rdCells (Tr.ofList (fcs M)) 0 (Nat.mul M.length 4) [] = some (fcs M) := by
    have := rd_row (row_ofList (fcs M) (by rw [hlen]; unfold Tr.wide; omega))
    rw [hlen] at this
    rw [show Nat.mul M.length 4 = 4 * M.length from Nat.mul_comm _ _]; exact this
  have h8 : Nat.beq (Nat.add 0 (Nat.mul M.length 4)) (fcs M).length = true := beq_iff.2 (by rw [hlen]; show 0 + M.length * 4 = _; omega)
  have hN0 : Nat.ble r lastName = true := ble_iff.2 (by have := ble_iff.1 hN; omega)
  simp only [AM.run, blt_iff.2 hr, hg, when, h8, fcs_one, show Nat.ble M.length M.length = true from ble_iff.2 (Nat.le_refl _), show Nat.beq 41 41 = true from rfl, Bool.and_self, opt, h7]
  simp only [hN0]
  unfold growA
  simp only [when, show Nat.beq 4 4 = true from rfl]
  simp only [Bool.and_self]
  rw [newA_runW (s := ⟨H.put r none, N, mk, bit mk r (bit mk ab rd), bit mk r wr⟩) (by rw [List.length_append, hlen, fcs_len]; omega) hN]
  have e1 : fcs M ++ fcs L = fcs (M ++ L) := (fcs_app M L).symm
  have e2 : Nat.add M.length L.length = (M ++ L).length := (List.length_append ..).symm
  rw [e1, e2]
  rfl
theorem clash_rdk (rd b i r w : Nat) (seen : List (Nat × Nat × Nat)) (h : Nat.land w rd = 0) : clash rd 0 b (keepLog i r w seen) = clash rd 0 b seen := by
  unfold keepLog
  split
  · rfl
  · show (match Nat.beq (Nat.lor (Nat.land w (Nat.lor rd 0)) (Nat.land r 0)) 0 with | true => clash rd 0 b seen | false => match Nat.testBit b i with | true => clash rd 0 b seen | false => true) = _
    have h1 : Nat.lor rd 0 = rd := Nat.or_zero rd
    have h2 : Nat.land r 0 = 0 := Nat.and_zero r
    rw [h1, h2, h]
noncomputable def cd14 : Code := sub [1,1,1,1,1,1,1,1,0,0] cdWl
/-- all files that are looked at, in one list -/
structure Listed (t : Tr Value) (s : S) (H : Tr AObj) (M : List FileD) : Prop where
  t111 : ∃ R c, t.get 111 = some (.slice (some ⟨R, 0, none⟩) M.length c) ∧ Vx s (some ⟨R, 0, none⟩) (fcs M)
  t112 : t.get 112 = some (.int .i64 (.ofNat M.length))
  t113 : t.get 113 = some (.int .i64 (.ofNat 0))
  old : ∀ m, m < 11 → s.heap.get m = H.get m
def Post14 (t : Tr Value) (H : Tr AObj) (mk : Nat) (M : List FileD) (x : Ex) (fr : Fr) (s : S) : Prop :=
  x = .normal ∧ s.next ≤ 16 ∧ s.mark = mk ∧ ∃ t1 : Tr Value, fr = ⟨5, t1, 174, [], none⟩ ∧ (∀ k, k < 100 → t1.get k = t.get k) ∧ Listed t1 s H M
theorem get_far {α : Type} {t : Tr α} {k j : Nat} {x : Option α} (h : k < 100) (hj : 100 ≤ j) (hj2 : j < Tr.wide) : (t.put j x).get k = t.get k := by
  rw [Tr.get_put _ _ _ _ hj2, if_neg (by omega)]
set_option maxHeartbeats 4000000 in
theorem r14_eee (a2 : Option Addr) (w cw c2 cb : Nat) (hw : w = 4 ∨ w = 5) (D2 : CatD) (hD2 : D2.files = ([] : List FileD)) (H : Tr AObj) (mk rd wr : Nat) (t : Tr Value) (k1 : t.get 1 = some (.slice a2 ([] : List FileD).length c2)) (k9 : t.get 9 = some (.slice (some ⟨w, 0, none⟩) ([] : List FileD).length cw)) (k10 : t.get 10 = some (.pointer (some ⟨6, 0, none⟩))) (C2 : Cl ⟨H, 11, 0, 0, 0⟩ 6 0 (D2.cells none cb)) :
    GoC E (sumsOf sigWl) cd14 ⟨5, t, 174, [], none⟩ ⟨H, 11, mk, rd, wr⟩ (Post14 t H mk (([] : List FileD))) := by
  simp only [cd14, cdWl, Tryd.f5, bodyOf, sub]
  have b11 : Nat.ble 11 lastName = true := rfl
  have s12 : Nat.succ 11 = 12 := rfl
  have s13 : Nat.succ 12 = 13 := rfl
  have s14 : Nat.succ 13 = 14 := rfl
  have s15 : Nat.succ 14 = 15 := rfl
  generalize hH1 : H.put 11 (some (.cells (Tr.ofList ([] : List Value)) ([] : List Value).length 41 .whole)) = H1
  have g1 : ∀ m, m < 11 → H1.get m = H.get m := fun m hm => by rw [← hH1, hg_far b11 (by omega)]
  have E1 : Cl ⟨H1, 12, 12, 0, 0⟩ 11 0 [] := ⟨by show 11 < 12; omega, _, 0, .inl ⟨_, _, by show H1.get 11 = _; rw [← hH1]; exact hg_same b11 _ _⟩, Nat.le_refl _, fun k v hk => by simp at hk⟩
  have f1 := @apE_nil H1 12 12 11 (some ⟨w, 0, none⟩) cw
  have f2 := @apE_nil H1 12 12 11 a2 c2
  have C3 : Cl ⟨H1, 12, 12, 0, 0⟩ 6 0 (D2.cells none cb) := C2.keep (by show 11 ≤ 12; omega) (g1 _ (by omega))
  have l8 := C3.ld (k := 8) (v := .slice none ([] : List FileD).length cb) tiFs (by rw [dsFs]; rfl) (by show some (Value.slice _ D2.files.length cb) = _; rw [hD2])
  simp only [Nat.zero_add] at l8
  have f3 := @apE_nil H1 12 12 11 none cb
  have adT : addA ⟨6, 0, none⟩ 8 = ⟨6, 8, none⟩ := rfl
  have flen : ∀ a n c, builtinA E .len #[25] [.slice a n c] = val (.int .i64 (.ofNat n)) := fun a n c => by
    simp only [builtinA, tyFs, dsFs, opt]
  repeat apply go_seq
  apply go_drawn
  case hs => rfl
  case h => intro m; simp (maxSteps := 2000000) (disch := decide) only [opsLoop, evOper, wantedA, nth, aop, aPick, aBin, aIndexAddr, aFieldAddr, aLoad, aStore, aExtract, aConvert, aAlloc, aBox, aIndex, callA, Fr.evs, opt, val, when, AM.run, outV, newA, ptr, force_eq, seen_heap, seen_next, seen_mark, seen_seen, agg_cells, int_cells, Fr.ev, Fr.put, onFr, gps, gpn, bltT, still, flat, List.append_nil, List.nil_append, List.cons_append, Nat.reduceEqDiff, ne_eq, not_false_eq_true, reduceCtorEq, Bool.and_true, Bool.true_and, Bool.and_false, Bool.false_and, Bool.not_true, Bool.not_false, Bool.and_self, drawnLoop, keep_none, clash_nil, clash_reads, created_self, lor_zero, lor_zero', aBuildSlice, evParts, tyFs, dsFs, tyF, dsF, zeF, szF, fillA, repeatL, b11, show Nat.ble (Nat.mul 0 4) 1048576 = true from rfl, show Nat.beq ([Value.int .i64 0, .int .i64 0, .int .i64 0, .int .i64 0] : List Value).length 4 = true from rfl, show Nat.ble 1 4 = true from rfl, show Nat.ble ([] : List Value).length lastName = true from rfl, hH1, s12, s13, s14, s15, k1, k9, k10, f1, f2, f3, tyC, dsC, flC5, ftC5, foC5, szFs, ble11, adT, l8, flen, clash_bef, clash_rdk, clash_zero]; rfl
  refine ⟨rfl, by show 12 ≤ 16; omega, rfl, _, rfl, fun k hk => ?_, ⟨⟨11, 0, ?_, rfl, ?_⟩, ?_, ?_, fun m hm => g1 m hm⟩⟩
  · have hw100 : ∀ j, j < 200 → j < Tr.wide := fun j hj => by unfold Tr.wide; omega
    repeat rw [get_far hk (by omega) (hw100 _ (by omega))]
  · simp (disch := decide) only [gps, gpn]; rfl
  · exact E1.keep (by show 12 ≤ 12; omega) rfl
  · simp (disch := decide) only [gps, gpn]; rfl
  · simp (disch := decide) only [gps, gpn, int0]
set_option maxHeartbeats 4000000 in
theorem r14_een (L3 : List FileD) (h3 : L3 ≠ []) (l3 : L3.length ≤ 20) (a2 : Option Addr) (w cw c2 cb : Nat) (hw : w = 4 ∨ w = 5) (D2 : CatD) (hD2 : D2.files = L3) (H : Tr AObj) (mk rd wr : Nat) (t : Tr Value) (k1 : t.get 1 = some (.slice a2 ([] : List FileD).length c2)) (k9 : t.get 9 = some (.slice (some ⟨w, 0, none⟩) ([] : List FileD).length cw)) (k10 : t.get 10 = some (.pointer (some ⟨7, 0, none⟩))) (C2 : Cl ⟨H, 11, 0, 0, 0⟩ 7 0 (D2.cells (some ⟨6, 0, none⟩) cb)) (V3 : Cl ⟨H, 11, 0, 0, 0⟩ 6 0 (fcs L3)) :
    GoC E (sumsOf sigWl) cd14 ⟨5, t, 174, [], none⟩ ⟨H, 11, mk, rd, wr⟩ (Post14 t H mk (L3)) := by
  simp only [cd14, cdWl, Tryd.f5, bodyOf, sub]
  have b11 : Nat.ble 11 lastName = true := rfl
  have s12 : Nat.succ 11 = 12 := rfl
  have s13 : Nat.succ 12 = 13 := rfl
  have s14 : Nat.succ 13 = 14 := rfl
  have s15 : Nat.succ 14 = 15 := rfl
  generalize hH1 : H.put 11 (some (.cells (Tr.ofList ([] : List Value)) ([] : List Value).length 41 .whole)) = H1
  have g1 : ∀ m, m < 11 → H1.get m = H.get m := fun m hm => by rw [← hH1, hg_far b11 (by omega)]
  have E1 : Cl ⟨H1, 12, 12, 0, 0⟩ 11 0 [] := ⟨by show 11 < 12; omega, _, 0, .inl ⟨_, _, by show H1.get 11 = _; rw [← hH1]; exact hg_same b11 _ _⟩, Nat.le_refl _, fun k v hk => by simp at hk⟩
  have f1 := @apE_nil H1 12 12 11 (some ⟨w, 0, none⟩) cw
  have f2 := @apE_nil H1 12 12 11 a2 c2
  have C3 : Cl ⟨H1, 12, 12, 0, 0⟩ 7 0 (D2.cells (some ⟨6, 0, none⟩) cb) := C2.keep (by show 11 ≤ 12; omega) (g1 _ (by omega))
  have l8 := C3.ld (k := 8) (v := .slice (some ⟨6, 0, none⟩) L3.length cb) tiFs (by rw [dsFs]; rfl) (by show some (Value.slice _ D2.files.length cb) = _; rw [hD2])
  simp only [Nat.zero_add] at l8
  have f3 := apE_cons (cb := cb) h3 (E1.keep (s1 := ⟨H1, 12, 12, 0, 0⟩) (by show 12 ≤ 12; omega) (by rfl)) (V3.keep (s1 := ⟨H1, 12, 12, 0, 0⟩) (by show 11 ≤ 12; omega) (g1 _ (by omega))) (by omega) (show Nat.ble 12 lastName = true from rfl)
  generalize hH2 : H1.put 12 (some (cellsF (L3))) = H2 at f3
  have R2 : H2.get 12 = some (cellsF (L3)) := by rw [← hH2]; exact hg_same (show Nat.ble 12 lastName = true from rfl) _ _
  have g2 : ∀ m, m < 11 → H2.get m = H.get m := fun m hm => by rw [← hH2, hg_far (show Nat.ble 12 lastName = true from rfl) (by omega)]; exact g1 m hm
  have adT : addA ⟨7, 0, none⟩ 8 = ⟨7, 8, none⟩ := rfl
  have flen : ∀ a n c, builtinA E .len #[25] [.slice a n c] = val (.int .i64 (.ofNat n)) := fun a n c => by
    simp only [builtinA, tyFs, dsFs, opt]
  repeat apply go_seq
  apply go_drawn
  case hs => rfl
  case h => intro m; simp (maxSteps := 2000000) (disch := decide) only [opsLoop, evOper, wantedA, nth, aop, aPick, aBin, aIndexAddr, aFieldAddr, aLoad, aStore, aExtract, aConvert, aAlloc, aBox, aIndex, callA, Fr.evs, opt, val, when, AM.run, outV, newA, ptr, force_eq, seen_heap, seen_next, seen_mark, seen_seen, agg_cells, int_cells, Fr.ev, Fr.put, onFr, gps, gpn, bltT, still, flat, List.append_nil, List.nil_append, List.cons_append, Nat.reduceEqDiff, ne_eq, not_false_eq_true, reduceCtorEq, Bool.and_true, Bool.true_and, Bool.and_false, Bool.false_and, Bool.not_true, Bool.not_false, Bool.and_self, drawnLoop, keep_none, clash_nil, clash_reads, created_self, lor_zero, lor_zero', aBuildSlice, evParts, tyFs, dsFs, tyF, dsF, zeF, szF, fillA, repeatL, b11, show Nat.ble (Nat.mul 0 4) 1048576 = true from rfl, show Nat.beq ([Value.int .i64 0, .int .i64 0, .int .i64 0, .int .i64 0] : List Value).length 4 = true from rfl, show Nat.ble 1 4 = true from rfl, show Nat.ble ([] : List Value).length lastName = true from rfl, hH1, s12, s13, s14, s15, k1, k9, k10, f1, f2, f3, tyC, dsC, flC5, ftC5, foC5, szFs, ble11, adT, l8, flen, clash_bef, clash_rdk, clash_zero]; rfl
  refine ⟨rfl, by show 13 ≤ 16; omega, rfl, _, rfl, fun k hk => ?_, ⟨⟨12, Nat.add OPEN (L3).length, ?_, rfl, ?_⟩, ?_, ?_, fun m hm => g2 m hm⟩⟩
  · have hw100 : ∀ j, j < 200 → j < Tr.wide := fun j hj => by unfold Tr.wide; omega
    repeat rw [get_far hk (by omega) (hw100 _ (by omega))]
  · simp (disch := decide) only [gps, gpn]
  · exact ⟨by show 12 < 13; omega, _, _, .inl ⟨_, _, R2⟩, by rw [Nat.zero_add]; exact Nat.le_refl _, row_ofList _ (by rw [fcs_len]; unfold Tr.wide; first | omega | (simp only [List.length_append]; omega))⟩
  · simp (disch := decide) only [gps, gpn]
  · simp (disch := decide) only [gps, gpn, int0]
set_option maxHeartbeats 4000000 in
theorem r14_ene (L2 : List FileD) (h2 : L2 ≠ []) (l2 : L2.length ≤ 6) (k2 o2 : Nat) (w cw c2 cb : Nat) (hw : w = 4 ∨ w = 5) (hk2 : k2 < 3) (D2 : CatD) (hD2 : D2.files = ([] : List FileD)) (H : Tr AObj) (mk rd wr : Nat) (t : Tr Value) (k1 : t.get 1 = some (.slice (some ⟨k2, o2, none⟩) L2.length c2)) (k9 : t.get 9 = some (.slice (some ⟨w, 0, none⟩) ([] : List FileD).length cw)) (k10 : t.get 10 = some (.pointer (some ⟨6, 0, none⟩))) (C2 : Cl ⟨H, 11, 0, 0, 0⟩ 6 0 (D2.cells none cb)) (V2 : Cl ⟨H, 11, 0, 0, 0⟩ k2 o2 (fcs L2)) :
    GoC E (sumsOf sigWl) cd14 ⟨5, t, 174, [], none⟩ ⟨H, 11, mk, rd, wr⟩ (Post14 t H mk (L2)) := by
  simp only [cd14, cdWl, Tryd.f5, bodyOf, sub]
  have b11 : Nat.ble 11 lastName = true := rfl
  have s12 : Nat.succ 11 = 12 := rfl
  have s13 : Nat.succ 12 = 13 := rfl
  have s14 : Nat.succ 13 = 14 := rfl
  have s15 : Nat.succ 14 = 15 := rfl
  generalize hH1 : H.put 11 (some (.cells (Tr.ofList ([] : List Value)) ([] : List Value).length 41 .whole)) = H1
  have g1 : ∀ m, m < 11 → H1.get m = H.get m := fun m hm => by rw [← hH1, hg_far b11 (by omega)]
  have E1 : Cl ⟨H1, 12, 12, 0, 0⟩ 11 0 [] := ⟨by show 11 < 12; omega, _, 0, .inl ⟨_, _, by show H1.get 11 = _; rw [← hH1]; exact hg_same b11 _ _⟩, Nat.le_refl _, fun k v hk => by simp at hk⟩
  have f1 := @apE_nil H1 12 12 11 (some ⟨w, 0, none⟩) cw
  have f2 := apE_cons (cb := c2) h2 (E1.keep (s1 := ⟨H1, 12, 12, 0, 0⟩) (by show 12 ≤ 12; omega) (by rfl)) (V2.keep (s1 := ⟨H1, 12, 12, 0, 0⟩) (by show 11 ≤ 12; omega) (g1 _ (by omega))) (by omega) (show Nat.ble 12 lastName = true from rfl)
  generalize hH2 : H1.put 12 (some (cellsF (L2))) = H2 at f2
  have R2 : H2.get 12 = some (cellsF (L2)) := by rw [← hH2]; exact hg_same (show Nat.ble 12 lastName = true from rfl) _ _
  have g2 : ∀ m, m < 11 → H2.get m = H.get m := fun m hm => by rw [← hH2, hg_far (show Nat.ble 12 lastName = true from rfl) (by omega)]; exact g1 m hm
  have C3 : Cl ⟨H2, 13, 13, 0, 0⟩ 6 0 (D2.cells none cb) := C2.keep (by show 11 ≤ 13; omega) (g2 _ (by omega))
  have l8 := C3.ld (k := 8) (v := .slice none ([] : List FileD).length cb) tiFs (by rw [dsFs]; rfl) (by show some (Value.slice _ D2.files.length cb) = _; rw [hD2])
  simp only [Nat.zero_add] at l8
  have f3 := @apR_nil H2 13 13 12 (L2).length (Nat.add OPEN (L2).length) none cb (ble_openW _ _) (sub_openW _ _) (by first | omega | (simp only [List.length_append]; omega))
  have adT : addA ⟨6, 0, none⟩ 8 = ⟨6, 8, none⟩ := rfl
  have flen : ∀ a n c, builtinA E .len #[25] [.slice a n c] = val (.int .i64 (.ofNat n)) := fun a n c => by
    simp only [builtinA, tyFs, dsFs, opt]
  repeat apply go_seq
  apply go_drawn
  case hs => rfl
  case h => intro m; simp (maxSteps := 2000000) (disch := decide) only [opsLoop, evOper, wantedA, nth, aop, aPick, aBin, aIndexAddr, aFieldAddr, aLoad, aStore, aExtract, aConvert, aAlloc, aBox, aIndex, callA, Fr.evs, opt, val, when, AM.run, outV, newA, ptr, force_eq, seen_heap, seen_next, seen_mark, seen_seen, agg_cells, int_cells, Fr.ev, Fr.put, onFr, gps, gpn, bltT, still, flat, List.append_nil, List.nil_append, List.cons_append, Nat.reduceEqDiff, ne_eq, not_false_eq_true, reduceCtorEq, Bool.and_true, Bool.true_and, Bool.and_false, Bool.false_and, Bool.not_true, Bool.not_false, Bool.and_self, drawnLoop, keep_none, clash_nil, clash_reads, created_self, lor_zero, lor_zero', aBuildSlice, evParts, tyFs, dsFs, tyF, dsF, zeF, szF, fillA, repeatL, b11, show Nat.ble (Nat.mul 0 4) 1048576 = true from rfl, show Nat.beq ([Value.int .i64 0, .int .i64 0, .int .i64 0, .int .i64 0] : List Value).length 4 = true from rfl, show Nat.ble 1 4 = true from rfl, show Nat.ble ([] : List Value).length lastName = true from rfl, hH1, s12, s13, s14, s15, k1, k9, k10, f1, f2, f3, tyC, dsC, flC5, ftC5, foC5, szFs, ble11, adT, l8, flen, clash_bef, clash_rdk, clash_zero]; rfl
  refine ⟨rfl, by show 13 ≤ 16; omega, rfl, _, rfl, fun k hk => ?_, ⟨⟨12, Nat.add OPEN (L2).length, ?_, rfl, ?_⟩, ?_, ?_, fun m hm => g2 m hm⟩⟩
  · have hw100 : ∀ j, j < 200 → j < Tr.wide := fun j hj => by unfold Tr.wide; omega
    repeat rw [get_far hk (by omega) (hw100 _ (by omega))]
  · simp (disch := decide) only [gps, gpn]
  · exact ⟨by show 12 < 13; omega, _, _, .inl ⟨_, _, R2⟩, by rw [Nat.zero_add]; exact Nat.le_refl _, row_ofList _ (by rw [fcs_len]; unfold Tr.wide; first | omega | (simp only [List.length_append]; omega))⟩
  · simp (disch := decide) only [gps, gpn]
  · simp (disch := decide) only [gps, gpn, int0]
set_option maxHeartbeats 4000000 in
theorem r14_enn (L2 : List FileD) (h2 : L2 ≠ []) (l2 : L2.length ≤ 6) (L3 : List FileD) (h3 : L3 ≠ []) (l3 : L3.length ≤ 20) (k2 o2 : Nat) (w cw c2 cb : Nat) (hw : w = 4 ∨ w = 5) (hk2 : k2 < 3) (D2 : CatD) (hD2 : D2.files = L3) (H : Tr AObj) (mk rd wr : Nat) (t : Tr Value) (k1 : t.get 1 = some (.slice (some ⟨k2, o2, none⟩) L2.length c2)) (k9 : t.get 9 = some (.slice (some ⟨w, 0, none⟩) ([] : List FileD).length cw)) (k10 : t.get 10 = some (.pointer (some ⟨7, 0, none⟩))) (C2 : Cl ⟨H, 11, 0, 0, 0⟩ 7 0 (D2.cells (some ⟨6, 0, none⟩) cb)) (V2 : Cl ⟨H, 11, 0, 0, 0⟩ k2 o2 (fcs L2)) (V3 : Cl ⟨H, 11, 0, 0, 0⟩ 6 0 (fcs L3)) :
    GoC E (sumsOf sigWl) cd14 ⟨5, t, 174, [], none⟩ ⟨H, 11, mk, rd, wr⟩ (Post14 t H mk (L2 ++ L3)) := by
  simp only [cd14, cdWl, Tryd.f5, bodyOf, sub]
  have b11 : Nat.ble 11 lastName = true := rfl
  have s12 : Nat.succ 11 = 12 := rfl
  have s13 : Nat.succ 12 = 13 := rfl
  have s14 : Nat.succ 13 = 14 := rfl
  have s15 : Nat.succ 14 = 15 := rfl
  generalize hH1 : H.put 11 (some (.cells (Tr.ofList ([] : List Value)) ([] : List Value).length 41 .whole)) = H1
  have g1 : ∀ m, m < 11 → H1.get m = H.get m := fun m hm => by rw [← hH1, hg_far b11 (by omega)]
  have E1 : Cl ⟨H1, 12, 12, 0, 0⟩ 11 0 [] := ⟨by show 11 < 12; omega, _, 0, .inl ⟨_, _, by show H1.get 11 = _; rw [← hH1]; exact hg_same b11 _ _⟩, Nat.le_refl _, fun k v hk => by simp at hk⟩
  have f1 := @apE_nil H1 12 12 11 (some ⟨w, 0, none⟩) cw
  have f2 := apE_cons (cb := c2) h2 (E1.keep (s1 := ⟨H1, 12, 12, 0, 0⟩) (by show 12 ≤ 12; omega) (by rfl)) (V2.keep (s1 := ⟨H1, 12, 12, 0, 0⟩) (by show 11 ≤ 12; omega) (g1 _ (by omega))) (by omega) (show Nat.ble 12 lastName = true from rfl)
  generalize hH2 : H1.put 12 (some (cellsF (L2))) = H2 at f2
  have R2 : H2.get 12 = some (cellsF (L2)) := by rw [← hH2]; exact hg_same (show Nat.ble 12 lastName = true from rfl) _ _
  have g2 : ∀ m, m < 11 → H2.get m = H.get m := fun m hm => by rw [← hH2, hg_far (show Nat.ble 12 lastName = true from rfl) (by omega)]; exact g1 m hm
  have C3 : Cl ⟨H2, 13, 13, 0, 0⟩ 7 0 (D2.cells (some ⟨6, 0, none⟩) cb) := C2.keep (by show 11 ≤ 13; omega) (g2 _ (by omega))
  have l8 := C3.ld (k := 8) (v := .slice (some ⟨6, 0, none⟩) L3.length cb) tiFs (by rw [dsFs]; rfl) (by show some (Value.slice _ D2.files.length cb) = _; rw [hD2])
  simp only [Nat.zero_add] at l8
  have f3 := apR_cons (M := L2) (c := Nat.add OPEN (L2).length) (cb := cb) h3 (ble_openW _ _) (sub_openW _ _) (show 12 < 13 by omega) R2 (V3.keep (s1 := ⟨H2, 13, 13, 0, 0⟩) (by show 11 ≤ 13; omega) (g2 _ (by omega))) (by first | omega | (simp only [List.length_append]; omega)) (show Nat.ble 13 lastName = true from rfl)
  generalize hH3 : (H2.put 12 none).put 13 (some (cellsF (L2 ++ L3))) = H3 at f3
  have R3 : H3.get 13 = some (cellsF (L2 ++ L3)) := by rw [← hH3]; exact hg_same (show Nat.ble 13 lastName = true from rfl) _ _
  have g3 : ∀ m, m < 11 → H3.get m = H.get m := fun m hm => by rw [← hH3, hg_far (show Nat.ble 13 lastName = true from rfl) (by omega), hg_far (show Nat.ble 12 lastName = true from rfl) (by omega)]; exact g2 m hm
  have adT : addA ⟨7, 0, none⟩ 8 = ⟨7, 8, none⟩ := rfl
  have flen : ∀ a n c, builtinA E .len #[25] [.slice a n c] = val (.int .i64 (.ofNat n)) := fun a n c => by
    simp only [builtinA, tyFs, dsFs, opt]
  repeat apply go_seq
  apply go_drawn
  case hs => rfl
  case h => intro m; simp (maxSteps := 2000000) (disch := decide) only [opsLoop, evOper, wantedA, nth, aop, aPick, aBin, aIndexAddr, aFieldAddr, aLoad, aStore, aExtract, aConvert, aAlloc, aBox, aIndex, callA, Fr.evs, opt, val, when, AM.run, outV, newA, ptr, force_eq, seen_heap, seen_next, seen_mark, seen_seen, agg_cells, int_cells, Fr.ev, Fr.put, onFr, gps, gpn, bltT, still, flat, List.append_nil, List.nil_append, List.cons_append, Nat.reduceEqDiff, ne_eq, not_false_eq_true, reduceCtorEq, Bool.and_true, Bool.true_and, Bool.and_false, Bool.false_and, Bool.not_true, Bool.not_false, Bool.and_self, drawnLoop, keep_none, clash_nil, clash_reads, created_self, lor_zero, lor_zero', aBuildSlice, evParts, tyFs, dsFs, tyF, dsF, zeF, szF, fillA, repeatL, b11, show Nat.ble (Nat.mul 0 4) 1048576 = true from rfl, show Nat.beq ([Value.int .i64 0, .int .i64 0, .int .i64 0, .int .i64 0] : List Value).length 4 = true from rfl, show Nat.ble 1 4 = true from rfl, show Nat.ble ([] : List Value).length lastName = true from rfl, hH1, s12, s13, s14, s15, k1, k9, k10, f1, f2, f3, tyC, dsC, flC5, ftC5, foC5, szFs, ble11, adT, l8, flen, clash_bef, clash_rdk, clash_zero]; rfl
  refine ⟨rfl, by show 14 ≤ 16; omega, rfl, _, rfl, fun k hk => ?_, ⟨⟨13, Nat.add OPEN (L2 ++ L3).length, ?_, rfl, ?_⟩, ?_, ?_, fun m hm => g3 m hm⟩⟩
  · have hw100 : ∀ j, j < 200 → j < Tr.wide := fun j hj => by unfold Tr.wide; omega
    repeat rw [get_far hk (by omega) (hw100 _ (by omega))]
  · simp (disch := decide) only [gps, gpn]
  · exact ⟨by show 13 < 14; omega, _, _, .inl ⟨_, _, R3⟩, by rw [Nat.zero_add]; exact Nat.le_refl _, row_ofList _ (by rw [fcs_len]; unfold Tr.wide; first | omega | (simp only [List.length_append]; omega))⟩
  · simp (disch := decide) only [gps, gpn]
  · simp (disch := decide) only [gps, gpn, int0]
set_option maxHeartbeats 4000000 in
theorem r14_nee (L1 : List FileD) (h1 : L1 ≠ []) (l1 : L1.length ≤ 14) (a2 : Option Addr) (w cw c2 cb : Nat) (hw : w = 4 ∨ w = 5) (D2 : CatD) (hD2 : D2.files = ([] : List FileD)) (H : Tr AObj) (mk rd wr : Nat) (t : Tr Value) (k1 : t.get 1 = some (.slice a2 ([] : List FileD).length c2)) (k9 : t.get 9 = some (.slice (some ⟨w, 0, none⟩) L1.length cw)) (k10 : t.get 10 = some (.pointer (some ⟨6, 0, none⟩))) (C2 : Cl ⟨H, 11, 0, 0, 0⟩ 6 0 (D2.cells none cb)) (V1 : Cl ⟨H, 11, 0, 0, 0⟩ w 0 (fcs L1)) :
    GoC E (sumsOf sigWl) cd14 ⟨5, t, 174, [], none⟩ ⟨H, 11, mk, rd, wr⟩ (Post14 t H mk (L1)) := by
  simp only [cd14, cdWl, Tryd.f5, bodyOf, sub]
  have b11 : Nat.ble 11 lastName = true := rfl
  have s12 : Nat.succ 11 = 12 := rfl
  have s13 : Nat.succ 12 = 13 := rfl
  have s14 : Nat.succ 13 = 14 := rfl
  have s15 : Nat.succ 14 = 15 := rfl
  generalize hH1 : H.put 11 (some (.cells (Tr.ofList ([] : List Value)) ([] : List Value).length 41 .whole)) = H1
  have g1 : ∀ m, m < 11 → H1.get m = H.get m := fun m hm => by rw [← hH1, hg_far b11 (by omega)]
  have E1 : Cl ⟨H1, 12, 12, 0, 0⟩ 11 0 [] := ⟨by show 11 < 12; omega, _, 0, .inl ⟨_, _, by show H1.get 11 = _; rw [← hH1]; exact hg_same b11 _ _⟩, Nat.le_refl _, fun k v hk => by simp at hk⟩
  have f1 := apE_cons (cb := cw) h1 (E1.keep (s1 := ⟨H1, 12, 12, 0, 0⟩) (by show 12 ≤ 12; omega) (by rfl)) (V1.keep (s1 := ⟨H1, 12, 12, 0, 0⟩) (by show 11 ≤ 12; omega) (g1 _ (by omega))) (by omega) (show Nat.ble 12 lastName = true from rfl)
  generalize hH2 : H1.put 12 (some (cellsF (L1))) = H2 at f1
  have R2 : H2.get 12 = some (cellsF (L1)) := by rw [← hH2]; exact hg_same (show Nat.ble 12 lastName = true from rfl) _ _
  have g2 : ∀ m, m < 11 → H2.get m = H.get m := fun m hm => by rw [← hH2, hg_far (show Nat.ble 12 lastName = true from rfl) (by omega)]; exact g1 m hm
  have f2 := @apR_nil H2 13 13 12 (L1).length (Nat.add OPEN (L1).length) a2 c2 (ble_openW _ _) (sub_openW _ _) (by first | omega | (simp only [List.length_append]; omega))
  have C3 : Cl ⟨H2, 13, 13, 0, 0⟩ 6 0 (D2.cells none cb) := C2.keep (by show 11 ≤ 13; omega) (g2 _ (by omega))
  have l8 := C3.ld (k := 8) (v := .slice none ([] : List FileD).length cb) tiFs (by rw [dsFs]; rfl) (by show some (Value.slice _ D2.files.length cb) = _; rw [hD2])
  simp only [Nat.zero_add] at l8
  have f3 := @apR_nil H2 13 13 12 (L1).length (Nat.add OPEN (L1).length) none cb (ble_openW _ _) (sub_openW _ _) (by first | omega | (simp only [List.length_append]; omega))
  have adT : addA ⟨6, 0, none⟩ 8 = ⟨6, 8, none⟩ := rfl
  have flen : ∀ a n c, builtinA E .len #[25] [.slice a n c] = val (.int .i64 (.ofNat n)) := fun a n c => by
    simp only [builtinA, tyFs, dsFs, opt]
  repeat apply go_seq
  apply go_drawn
  case hs => rfl
  case h => intro m; simp (maxSteps := 2000000) (disch := decide) only [opsLoop, evOper, wantedA, nth, aop, aPick, aBin, aIndexAddr, aFieldAddr, aLoad, aStore, aExtract, aConvert, aAlloc, aBox, aIndex, callA, Fr.evs, opt, val, when, AM.run, outV, newA, ptr, force_eq, seen_heap, seen_next, seen_mark, seen_seen, agg_cells, int_cells, Fr.ev, Fr.put, onFr, gps, gpn, bltT, still, flat, List.append_nil, List.nil_append, List.cons_append, Nat.reduceEqDiff, ne_eq, not_false_eq_true, reduceCtorEq, Bool.and_true, Bool.true_and, Bool.and_false, Bool.false_and, Bool.not_true, Bool.not_false, Bool.and_self, drawnLoop, keep_none, clash_nil, clash_reads, created_self, lor_zero, lor_zero', aBuildSlice, evParts, tyFs, dsFs, tyF, dsF, zeF, szF, fillA, repeatL, b11, show Nat.ble (Nat.mul 0 4) 1048576 = true from rfl, show Nat.beq ([Value.int .i64 0, .int .i64 0, .int .i64 0, .int .i64 0] : List Value).length 4 = true from rfl, show Nat.ble 1 4 = true from rfl, show Nat.ble ([] : List Value).length lastName = true from rfl, hH1, s12, s13, s14, s15, k1, k9, k10, f1, f2, f3, tyC, dsC, flC5, ftC5, foC5, szFs, ble11, adT, l8, flen, clash_bef, clash_rdk, clash_zero]; rfl
  refine ⟨rfl, by show 13 ≤ 16; omega, rfl, _, rfl, fun k hk => ?_, ⟨⟨12, Nat.add OPEN (L1).length, ?_, rfl, ?_⟩, ?_, ?_, fun m hm => g2 m hm⟩⟩
  · have hw100 : ∀ j, j < 200 → j < Tr.wide := fun j hj => by unfold Tr.wide; omega
    repeat rw [get_far hk (by omega) (hw100 _ (by omega))]
  · simp (disch := decide) only [gps, gpn]
  · exact ⟨by show 12 < 13; omega, _, _, .inl ⟨_, _, R2⟩, by rw [Nat.zero_add]; exact Nat.le_refl _, row_ofList _ (by rw [fcs_len]; unfold Tr.wide; first | omega | (simp only [List.length_append]; omega))⟩
  · simp (disch := decide) only [gps, gpn]
  · simp (disch := decide) only [gps, gpn, int0]
set_option maxHeartbeats 4000000 in
theorem r14_nen (L1 : List FileD) (h1 : L1 ≠ []) (l1 : L1.length ≤ 14) (L3 : List FileD) (h3 : L3 ≠ []) (l3 : L3.length ≤ 20) (a2 : Option Addr) (w cw c2 cb : Nat) (hw : w = 4 ∨ w = 5) (D2 : CatD) (hD2 : D2.files = L3) (H : Tr AObj) (mk rd wr : Nat) (t : Tr Value) (k1 : t.get 1 = some (.slice a2 ([] : List FileD).length c2)) (k9 : t.get 9 = some (.slice (some ⟨w, 0, none⟩) L1.length cw)) (k10 : t.get 10 = some (.pointer (some ⟨7, 0, none⟩))) (C2 : Cl ⟨H, 11, 0, 0, 0⟩ 7 0 (D2.cells (some ⟨6, 0, none⟩) cb)) (V1 : Cl ⟨H, 11, 0, 0, 0⟩ w 0 (fcs L1)) (V3 : Cl ⟨H, 11, 0, 0, 0⟩ 6 0 (fcs L3)) :
    GoC E (sumsOf sigWl) cd14 ⟨5, t, 174, [], none⟩ ⟨H, 11, mk, rd, wr⟩ (Post14 t H mk (L1 ++ L3)) := by
  simp only [cd14, cdWl, Tryd.f5, bodyOf, sub]
  have b11 : Nat.ble 11 lastName = true := rfl
  have s12 : Nat.succ 11 = 12 := rfl
  have s13 : Nat.succ 12 = 13 := rfl
  have s14 : Nat.succ 13 = 14 := rfl
  have s15 : Nat.succ 14 = 15 := rfl
  generalize hH1 : H.put 11 (some (.cells (Tr.ofList ([] : List Value)) ([] : List Value).length 41 .whole)) = H1
  have g1 : ∀ m, m < 11 → H1.get m = H.get m := fun m hm => by rw [← hH1, hg_far b11 (by omega)]
  have E1 : Cl ⟨H1, 12, 12, 0, 0⟩ 11 0 [] := ⟨by show 11 < 12; omega, _, 0, .inl ⟨_, _, by show H1.get 11 = _; rw [← hH1]; exact hg_same b11 _ _⟩, Nat.le_refl _, fun k v hk => by simp at hk⟩
  have f1 := apE_cons (cb := cw) h1 (E1.keep (s1 := ⟨H1, 12, 12, 0, 0⟩) (by show 12 ≤ 12; omega) (by rfl)) (V1.keep (s1 := ⟨H1, 12, 12, 0, 0⟩) (by show 11 ≤ 12; omega) (g1 _ (by omega))) (by omega) (show Nat.ble 12 lastName = true from rfl)
  generalize hH2 : H1.put 12 (some (cellsF (L1))) = H2 at f1
  have R2 : H2.get 12 = some (cellsF (L1)) := by rw [← hH2]; exact hg_same (show Nat.ble 12 lastName = true from rfl) _ _
  have g2 : ∀ m, m < 11 → H2.get m = H.get m := fun m hm => by rw [← hH2, hg_far (show Nat.ble 12 lastName = true from rfl) (by omega)]; exact g1 m hm
  have f2 := @apR_nil H2 13 13 12 (L1).length (Nat.add OPEN (L1).length) a2 c2 (ble_openW _ _) (sub_openW _ _) (by first | omega | (simp only [List.length_append]; omega))
  have C3 : Cl ⟨H2, 13, 13, 0, 0⟩ 7 0 (D2.cells (some ⟨6, 0, none⟩) cb) := C2.keep (by show 11 ≤ 13; omega) (g2 _ (by omega))
  have l8 := C3.ld (k := 8) (v := .slice (some ⟨6, 0, none⟩) L3.length cb) tiFs (by rw [dsFs]; rfl) (by show some (Value.slice _ D2.files.length cb) = _; rw [hD2])
  simp only [Nat.zero_add] at l8
  have f3 := apR_cons (M := L1) (c := Nat.add OPEN (L1).length) (cb := cb) h3 (ble_openW _ _) (sub_openW _ _) (show 12 < 13 by omega) R2 (V3.keep (s1 := ⟨H2, 13, 13, 0, 0⟩) (by show 11 ≤ 13; omega) (g2 _ (by omega))) (by first | omega | (simp only [List.length_append]; omega)) (show Nat.ble 13 lastName = true from rfl)
  generalize hH3 : (H2.put 12 none).put 13 (some (cellsF (L1 ++ L3))) = H3 at f3
  have R3 : H3.get 13 = some (cellsF (L1 ++ L3)) := by rw [← hH3]; exact hg_same (show Nat.ble 13 lastName = true from rfl) _ _
  have g3 : ∀ m, m < 11 → H3.get m = H.get m := fun m hm => by rw [← hH3, hg_far (show Nat.ble 13 lastName = true from rfl) (by omega), hg_far (show Nat.ble 12 lastName = true from rfl) (by omega)]; exact g2 m hm
  have adT : addA ⟨7, 0, none⟩ 8 = ⟨7, 8, none⟩ := rfl
  have flen : ∀ a n c, builtinA E .len #[25] [.slice a n c] = val (.int .i64 (.ofNat n)) := fun a n c => by
    simp only [builtinA, tyFs, dsFs, opt]
  repeat apply go_seq
  apply go_drawn
  case hs => rfl
  case h => intro m; simp (maxSteps := 2000000) (disch := decide) only [opsLoop, evOper, wantedA, nth, aop, aPick, aBin, aIndexAddr, aFieldAddr, aLoad, aStore, aExtract, aConvert, aAlloc, aBox, aIndex, callA, Fr.evs, opt, val, when, AM.run, outV, newA, ptr, force_eq, seen_heap, seen_next, seen_mark, seen_seen, agg_cells, int_cells, Fr.ev, Fr.put, onFr, gps, gpn, bltT, still, flat, List.append_nil, List.nil_append, List.cons_append, Nat.reduceEqDiff, ne_eq, not_false_eq_true, reduceCtorEq, Bool.and_true, Bool.true_and, Bool.and_false, Bool.false_and, Bool.not_true, Bool.not_false, Bool.and_self, drawnLoop, keep_none, clash_nil, clash_reads, created_self, lor_zero, lor_zero', aBuildSlice, evParts, tyFs, dsFs, tyF, dsF, zeF, szF, fillA, repeatL, b11, show Nat.ble (Nat.mul 0 4) 1048576 = true from rfl, show Nat.beq ([Value.int .i64 0, .int .i64 0, .int .i64 0, .int .i64 0] : List Value).length 4 = true from rfl, show Nat.ble 1 4 = true from rfl, show Nat.ble ([] : List Value).length lastName = true from rfl, hH1, s12, s13, s14, s15, k1, k9, k10, f1, f2, f3, tyC, dsC, flC5, ftC5, foC5, szFs, ble11, adT, l8, flen, clash_bef, clash_rdk, clash_zero]; rfl
  refine ⟨rfl, by show 14 ≤ 16; omega, rfl, _, rfl, fun k hk => ?_, ⟨⟨13, Nat.add OPEN (L1 ++ L3).length, ?_, rfl, ?_⟩, ?_, ?_, fun m hm => g3 m hm⟩⟩
  · have hw100 : ∀ j, j < 200 → j < Tr.wide := fun j hj => by unfold Tr.wide; omega
    repeat rw [get_far hk (by omega) (hw100 _ (by omega))]
  · simp (disch := decide) only [gps, gpn]
  · exact ⟨by show 13 < 14; omega, _, _, .inl ⟨_, _, R3⟩, by rw [Nat.zero_add]; exact Nat.le_refl _, row_ofList _ (by rw [fcs_len]; unfold Tr.wide; first | omega | (simp only [List.length_append]; omega))⟩
  · simp (disch := decide) only [gps, gpn]
  · simp (disch := decide) only [gps, gpn, int0]
set_option maxHeartbeats 4000000 in
theorem r14_nne (L1 : List FileD) (h1 : L1 ≠ []) (l1 : L1.length ≤ 14) (L2 : List FileD) (h2 : L2 ≠ []) (l2 : L2.length ≤ 6) (k2 o2 : Nat) (w cw c2 cb : Nat) (hw : w = 4 ∨ w = 5) (hk2 : k2 < 3) (D2 : CatD) (hD2 : D2.files = ([] : List FileD)) (H : Tr AObj) (mk rd wr : Nat) (t : Tr Value) (k1 : t.get 1 = some (.slice (some ⟨k2, o2, none⟩) L2.length c2)) (k9 : t.get 9 = some (.slice (some ⟨w, 0, none⟩) L1.length cw)) (k10 : t.get 10 = some (.pointer (some ⟨6, 0, none⟩))) (C2 : Cl ⟨H, 11, 0, 0, 0⟩ 6 0 (D2.cells none cb)) (V1 : Cl ⟨H, 11, 0, 0, 0⟩ w 0 (fcs L1)) (V2 : Cl ⟨H, 11, 0, 0, 0⟩ k2 o2 (fcs L2)) :
    GoC E (sumsOf sigWl) cd14 ⟨5, t, 174, [], none⟩ ⟨H, 11, mk, rd, wr⟩ (Post14 t H mk (L1 ++ L2)) := by
  simp only [cd14, cdWl, Tryd.f5, bodyOf, sub]
  have b11 : Nat.ble 11 lastName = true := rfl
  have s12 : Nat.succ 11 = 12 := rfl
  have s13 : Nat.succ 12 = 13 := rfl
  have s14 : Nat.succ 13 = 14 := rfl
  have s15 : Nat.succ 14 = 15 := rfl
  generalize hH1 : H.put 11 (some (.cells (Tr.ofList ([] : List Value)) ([] : List Value).length 41 .whole)) = H1
  have g1 : ∀ m, m < 11 → H1.get m = H.get m := fun m hm => by rw [← hH1, hg_far b11 (by omega)]
  have E1 : Cl ⟨H1, 12, 12, 0, 0⟩ 11 0 [] := ⟨by show 11 < 12; omega, _, 0, .inl ⟨_, _, by show H1.get 11 = _; rw [← hH1]; exact hg_same b11 _ _⟩, Nat.le_refl _, fun k v hk => by simp at hk⟩
  have f1 := apE_cons (cb := cw) h1 (E1.keep (s1 := ⟨H1, 12, 12, 0, 0⟩) (by show 12 ≤ 12; omega) (by rfl)) (V1.keep (s1 := ⟨H1, 12, 12, 0, 0⟩) (by show 11 ≤ 12; omega) (g1 _ (by omega))) (by omega) (show Nat.ble 12 lastName = true from rfl)
  generalize hH2 : H1.put 12 (some (cellsF (L1))) = H2 at f1
  have R2 : H2.get 12 = some (cellsF (L1)) := by rw [← hH2]; exact hg_same (show Nat.ble 12 lastName = true from rfl) _ _
  have g2 : ∀ m, m < 11 → H2.get m = H.get m := fun m hm => by rw [← hH2, hg_far (show Nat.ble 12 lastName = true from rfl) (by omega)]; exact g1 m hm
  have f2 := apR_cons (M := L1) (c := Nat.add OPEN (L1).length) (cb := c2) h2 (ble_openW _ _) (sub_openW _ _) (show 12 < 13 by omega) R2 (V2.keep (s1 := ⟨H2, 13, 13, 0, 0⟩) (by show 11 ≤ 13; omega) (g2 _ (by omega))) (by first | omega | (simp only [List.length_append]; omega)) (show Nat.ble 13 lastName = true from rfl)
  generalize hH3 : (H2.put 12 none).put 13 (some (cellsF (L1 ++ L2))) = H3 at f2
  have R3 : H3.get 13 = some (cellsF (L1 ++ L2)) := by rw [← hH3]; exact hg_same (show Nat.ble 13 lastName = true from rfl) _ _
  have g3 : ∀ m, m < 11 → H3.get m = H.get m := fun m hm => by rw [← hH3, hg_far (show Nat.ble 13 lastName = true from rfl) (by omega), hg_far (show Nat.ble 12 lastName = true from rfl) (by omega)]; exact g2 m hm
  have C3 : Cl ⟨H3, 14, 14, 0, 0⟩ 6 0 (D2.cells none cb) := C2.keep (by show 11 ≤ 14; omega) (g3 _ (by omega))
  have l8 := C3.ld (k := 8) (v := .slice none ([] : List FileD).length cb) tiFs (by rw [dsFs]; rfl) (by show some (Value.slice _ D2.files.length cb) = _; rw [hD2])
  simp only [Nat.zero_add] at l8
  have f3 := @apR_nil H3 14 14 13 (L1 ++ L2).length (Nat.add OPEN (L1 ++ L2).length) none cb (ble_openW _ _) (sub_openW _ _) (by first | omega | (simp only [List.length_append]; omega))
  have adT : addA ⟨6, 0, none⟩ 8 = ⟨6, 8, none⟩ := rfl
  have flen : ∀ a n c, builtinA E .len #[25] [.slice a n c] = val (.int .i64 (.ofNat n)) := fun a n c => by
    simp only [builtinA, tyFs, dsFs, opt]
  repeat apply go_seq
  apply go_drawn
  case hs => rfl
  case h => intro m; simp (maxSteps := 2000000) (disch := decide) only [opsLoop, evOper, wantedA, nth, aop, aPick, aBin, aIndexAddr, aFieldAddr, aLoad, aStore, aExtract, aConvert, aAlloc, aBox, aIndex, callA, Fr.evs, opt, val, when, AM.run, outV, newA, ptr, force_eq, seen_heap, seen_next, seen_mark, seen_seen, agg_cells, int_cells, Fr.ev, Fr.put, onFr, gps, gpn, bltT, still, flat, List.append_nil, List.nil_append, List.cons_append, Nat.reduceEqDiff, ne_eq, not_false_eq_true, reduceCtorEq, Bool.and_true, Bool.true_and, Bool.and_false, Bool.false_and, Bool.not_true, Bool.not_false, Bool.and_self, drawnLoop, keep_none, clash_nil, clash_reads, created_self, lor_zero, lor_zero', aBuildSlice, evParts, tyFs, dsFs, tyF, dsF, zeF, szF, fillA, repeatL, b11, show Nat.ble (Nat.mul 0 4) 1048576 = true from rfl, show Nat.beq ([Value.int .i64 0, .int .i64 0, .int .i64 0, .int .i64 0] : List Value).length 4 = true from rfl, show Nat.ble 1 4 = true from rfl, show Nat.ble ([] : List Value).length lastName = true from rfl, hH1, s12, s13, s14, s15, k1, k9, k10, f1, f2, f3, tyC, dsC, flC5, ftC5, foC5, szFs, ble11, adT, l8, flen, clash_bef, clash_rdk, clash_zero]; rfl
  refine ⟨rfl, by show 14 ≤ 16; omega, rfl, _, rfl, fun k hk => ?_, ⟨⟨13, Nat.add OPEN (L1 ++ L2).length, ?_, rfl, ?_⟩, ?_, ?_, fun m hm => g3 m hm⟩⟩
  · have hw100 : ∀ j, j < 200 → j < Tr.wide := fun j hj => by unfold Tr.wide; omega
    repeat rw [get_far hk (by omega) (hw100 _ (by omega))]
  · simp (disch := decide) only [gps, gpn]
  · exact ⟨by show 13 < 14; omega, _, _, .inl ⟨_, _, R3⟩, by rw [Nat.zero_add]; exact Nat.le_refl _, row_ofList _ (by rw [fcs_len]; unfold Tr.wide; first | omega | (simp only [List.length_append]; omega))⟩
  · simp (disch := decide) only [gps, gpn]
  · simp (disch := decide) only [gps, gpn, int0]
set_option maxHeartbeats 4000000 in
theorem r14_nnn (L1 : List FileD) (h1 : L1 ≠ []) (l1 : L1.length ≤ 14) (L2 : List FileD) (h2 : L2 ≠ []) (l2 : L2.length ≤ 6) (L3 : List FileD) (h3 : L3 ≠ []) (l3 : L3.length ≤ 20) (k2 o2 : Nat) (w cw c2 cb : Nat) (hw : w = 4 ∨ w = 5) (hk2 : k2 < 3) (D2 : CatD) (hD2 : D2.files = L3) (H : Tr AObj) (mk rd wr : Nat) (t : Tr Value) (k1 : t.get 1 = some (.slice (some ⟨k2, o2, none⟩) L2.length c2)) (k9 : t.get 9 = some (.slice (some ⟨w, 0, none⟩) L1.length cw)) (k10 : t.get 10 = some (.pointer (some ⟨7, 0, none⟩))) (C2 : Cl ⟨H, 11, 0, 0, 0⟩ 7 0 (D2.cells (some ⟨6, 0, none⟩) cb)) (V1 : Cl ⟨H, 11, 0, 0, 0⟩ w 0 (fcs L1)) (V2 : Cl ⟨H, 11, 0, 0, 0⟩ k2 o2 (fcs L2)) (V3 : Cl ⟨H, 11, 0, 0, 0⟩ 6 0 (fcs L3)) :
    GoC E (sumsOf sigWl) cd14 ⟨5, t, 174, [], none⟩ ⟨H, 11, mk, rd, wr⟩ (Post14 t H mk (L1 ++ L2 ++ L3)) := by
  simp only [cd14, cdWl, Tryd.f5, bodyOf, sub]
  have b11 : Nat.ble 11 lastName = true := rfl
  have s12 : Nat.succ 11 = 12 := rfl
  have s13 : Nat.succ 12 = 13 := rfl
  have s14 : Nat.succ 13 = 14 := rfl
  have s15 : Nat.succ 14 = 15 := rfl
  generalize hH1 : H.put 11 (some (.cells (Tr.ofList ([] : List Value)) ([] : List Value).length 41 .whole)) = H1
  have g1 : ∀ m, m < 11 → H1.get m = H.get m := fun m hm => by rw [← hH1, hg_far b11 (by omega)]
  have E1 : Cl ⟨H1, 12, 12, 0, 0⟩ 11 0 [] := ⟨by show 11 < 12; omega, _, 0, .inl ⟨_, _, by show H1.get 11 = _; rw [← hH1]; exact hg_same b11 _ _⟩, Nat.le_refl _, fun k v hk => by simp at hk⟩
  have f1 := apE_cons (cb := cw) h1 (E1.keep (s1 := ⟨H1, 12, 12, 0, 0⟩) (by show 12 ≤ 12; omega) (by rfl)) (V1.keep (s1 := ⟨H1, 12, 12, 0, 0⟩) (by show 11 ≤ 12; omega) (g1 _ (by omega))) (by omega) (show Nat.ble 12 lastName = true from rfl)
  generalize hH2 : H1.put 12 (some (cellsF (L1))) = H2 at f1
  have R2 : H2.get 12 = some (cellsF (L1)) := by rw [← hH2]; exact hg_same (show Nat.ble 12 lastName = true from rfl) _ _
  have g2 : ∀ m, m < 11 → H2.get m = H.get m := fun m hm => by rw [← hH2, hg_far (show Nat.ble 12 lastName = true from rfl) (by omega)]; exact g1 m hm
  have f2 := apR_cons (M := L1) (c := Nat.add OPEN (L1).length) (cb := c2) h2 (ble_openW _ _) (sub_openW _ _) (show 12 < 13 by omega) R2 (V2.keep (s1 := ⟨H2, 13, 13, 0, 0⟩) (by show 11 ≤ 13; omega) (g2 _ (by omega))) (by first | omega | (simp only [List.length_append]; omega)) (show Nat.ble 13 lastName = true from rfl)
  generalize hH3 : (H2.put 12 none).put 13 (some (cellsF (L1 ++ L2))) = H3 at f2
  have R3 : H3.get 13 = some (cellsF (L1 ++ L2)) := by rw [← hH3]; exact hg_same (show Nat.ble 13 lastName = true from rfl) _ _
  have g3 : ∀ m, m < 11 → H3.get m = H.get m := fun m hm => by rw [← hH3, hg_far (show Nat.ble 13 lastName = true from rfl) (by omega), hg_far (show Nat.ble 12 lastName = true from rfl) (by omega)]; exact g2 m hm
  have C3 : Cl ⟨H3, 14, 14, 0, 0⟩ 7 0 (D2.cells (some ⟨6, 0, none⟩) cb) := C2.keep (by show 11 ≤ 14; omega) (g3 _ (by omega))
  have l8 := C3.ld (k := 8) (v := .slice (some ⟨6, 0, none⟩) L3.length cb) tiFs (by rw [dsFs]; rfl) (by show some (Value.slice _ D2.files.length cb) = _; rw [hD2])
  simp only [Nat.zero_add] at l8
  have f3 := apR_cons (M := L1 ++ L2) (c := Nat.add OPEN (L1 ++ L2).length) (cb := cb) h3 (ble_openW _ _) (sub_openW _ _) (show 13 < 14 by omega) R3 (V3.keep (s1 := ⟨H3, 14, 14, 0, 0⟩) (by show 11 ≤ 14; omega) (g3 _ (by omega))) (by first | omega | (simp only [List.length_append]; omega)) (show Nat.ble 14 lastName = true from rfl)
  generalize hH4 : (H3.put 13 none).put 14 (some (cellsF (L1 ++ L2 ++ L3))) = H4 at f3
  have R4 : H4.get 14 = some (cellsF (L1 ++ L2 ++ L3)) := by rw [← hH4]; exact hg_same (show Nat.ble 14 lastName = true from rfl) _ _
  have g4 : ∀ m, m < 11 → H4.get m = H.get m := fun m hm => by rw [← hH4, hg_far (show Nat.ble 14 lastName = true from rfl) (by omega), hg_far (show Nat.ble 13 lastName = true from rfl) (by omega)]; exact g3 m hm
  have adT : addA ⟨7, 0, none⟩ 8 = ⟨7, 8, none⟩ := rfl
  have flen : ∀ a n c, builtinA E .len #[25] [.slice a n c] = val (.int .i64 (.ofNat n)) := fun a n c => by
    simp only [builtinA, tyFs, dsFs, opt]
  repeat apply go_seq
  apply go_drawn
  case hs => rfl
  case h => intro m; simp (maxSteps := 2000000) (disch := decide) only [opsLoop, evOper, wantedA, nth, aop, aPick, aBin, aIndexAddr, aFieldAddr, aLoad, aStore, aExtract, aConvert, aAlloc, aBox, aIndex, callA, Fr.evs, opt, val, when, AM.run, outV, newA, ptr, force_eq, seen_heap, seen_next, seen_mark, seen_seen, agg_cells, int_cells, Fr.ev, Fr.put, onFr, gps, gpn, bltT, still, flat, List.append_nil, List.nil_append, List.cons_append, Nat.reduceEqDiff, ne_eq, not_false_eq_true, reduceCtorEq, Bool.and_true, Bool.true_and, Bool.and_false, Bool.false_and, Bool.not_true, Bool.not_false, Bool.and_self, drawnLoop, keep_none, clash_nil, clash_reads, created_self, lor_zero, lor_zero', aBuildSlice, evParts, tyFs, dsFs, tyF, dsF, zeF, szF, fillA, repeatL, b11, show Nat.ble (Nat.mul 0 4) 1048576 = true from rfl, show Nat.beq ([Value.int .i64 0, .int .i64 0, .int .i64 0, .int .i64 0] : List Value).length 4 = true from rfl, show Nat.ble 1 4 = true from rfl, show Nat.ble ([] : List Value).length lastName = true from rfl, hH1, s12, s13, s14, s15, k1, k9, k10, f1, f2, f3, tyC, dsC, flC5, ftC5, foC5, szFs, ble11, adT, l8, flen, clash_bef, clash_rdk, clash_zero]; rfl
  refine ⟨rfl, by show 15 ≤ 16; omega, rfl, _, rfl, fun k hk => ?_, ⟨⟨14, Nat.add OPEN (L1 ++ L2 ++ L3).length, ?_, rfl, ?_⟩, ?_, ?_, fun m hm => g4 m hm⟩⟩
  · have hw100 : ∀ j, j < 200 → j < Tr.wide := fun j hj => by unfold Tr.wide; omega
    repeat rw [get_far hk (by omega) (hw100 _ (by omega))]
  · simp (disch := decide) only [gps, gpn]
  · exact ⟨by show 14 < 15; omega, _, _, .inl ⟨_, _, R4⟩, by rw [Nat.zero_add]; exact Nat.le_refl _, row_ofList _ (by rw [fcs_len]; unfold Tr.wide; first | omega | (simp only [List.length_append]; omega))⟩
  · simp (disch := decide) only [gps, gpn]
  · simp (disch := decide) only [gps, gpn, int0]
end Go.Proofs.YtgofanjbhbeniaaDoor.lf
end
end
