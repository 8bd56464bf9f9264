/- The steps of a job: any way through them, walked; of no step there is nothing. -/
import Derived.Test.YteaoeloobbmdaaaSs2
import Derived.Test.YteaoeloobbmdaaaEvStepsRuns
noncomputable section
namespace Go.Proofs.Yteaoeloobbmdaaa.lf
open AE
set_option linter.unusedSimpArgs false
set_option linter.unusedVariables false
set_option maxRecDepth 10000

theorem evPs_app {E : Env} {σ : Sums} {n : Nat} : ∀ (l1 l2 : List Code) (fr : Fr) (s : S) (r : Fr × S), evPs E σ n (l1 ++ l2) fr s = some r → ∃ fr1 s1, evPs E σ n l1 fr s = some (fr1, s1) ∧ evPs E σ n l2 fr1 s1 = some r
  | [], l2, fr, s, r, h => ⟨fr, s, rfl, h⟩
  | c :: l1, l2, fr, s, r, h => by
    simp only [List.cons_append, evPs] at h ⊢
    split at h
    · rename_i fr1 s1 h1
      obtain ⟨fr2, s2, h2, h3⟩ := evPs_app l1 l2 fr1 s1 r h
      exact ⟨fr2, s2, h2, h3⟩
    · cases h
theorem evPs_cons {E : Env} {σ : Sums} {n : Nat} {c : Code} {l : List Code} {fr : Fr} {s : S} {r : Fr × S} (h : evPs E σ n (c :: l) fr s = some r) : ∃ fr1 s1, evT E σ n (.code c fr) s = some (.fr .normal fr1, s1) ∧ evPs E σ n l fr1 s1 = some r := by
  simp only [evPs, evFT_eq] at h
  split at h
  · rename_i fr1 s1 h1
    exact ⟨fr1, s1, h1, h⟩
  · cases h
theorem evPs_nil {E : Env} {σ : Sums} {n : Nat} {fr : Fr} {s : S} {r : Fr × S} (h : evPs E σ n [] fr s = some r) : r = (fr, s) := by
  simp only [evPs, Option.some.injEq] at h
  exact h.symm
theorem prob_some {r : Option (Fr × S)} {ts : List Nat} {it fn n nx mk : Nat} {vs : List (Option Value)} {m : Option (List MapEntry × Nat)} {i : Option (Option Nat × Nat × List Nat × Nat)} (h : prob r ts it = some ((fn, n, [], none), vs, (nx, mk), m, i)) :
    ∃ t s, r = some (⟨fn, t, n, [], none⟩, s) ∧ ts.map t.get = vs ∧ s.next = nx ∧ s.mark = mk ∧ mapAt s 0 = m ∧ iterAt s it = i := by
  unfold prob at h
  split at h
  · cases h
  · rename_i fr s
    obtain ⟨f1, t, n1, d1, r1⟩ := fr
    simp only [Option.some.injEq, Prod.mk.injEq] at h
    obtain ⟨⟨rfl, rfl, rfl, rfl⟩, h5, ⟨h6, h7⟩, h8, h9⟩ := h
    exact ⟨t, s, rfl, h5, h6, h7, h8, h9⟩

abbrev qS : Free := ⟨fun _ => True, 0, 100000, fun _ => none⟩
/-- at the head of a round -/
def InvS (a1 : Int) (n i : Nat) (fr : Fr) (s : S) : Prop := ∃ t : Tr Value, fr = ⟨3, t, 169, [], none⟩ ∧ Kept (.int .i64 a1) (.int .i64 (.ofNat n)) (.int .i64 (.ofNat i)) t ∧ s.next ≤ 1000 * i ∧ s.heap.get 0 = some (.map (entsFrom (bsT (i - 1)) 0) (bsT (i - 1)).length)
def PostS (a1 : Int) (n : Nat) (x : Ex) (fr : Fr) (s : S) : Prop := x = .exit 0 ∧ ∃ t : Tr Value, fr = ⟨3, t, 169, [], none⟩ ∧ Kept (.int .i64 a1) (.int .i64 (.ofNat n)) (.int .i64 (.ofNat (n + 1))) t ∧ s.next ≤ 1000 * (n + 1) ∧ s.heap.get 0 = some (.map (entsFrom (bsT n) 0) (bsT n).length)
theorem bs_len : ∀ n, n ≤ 12 → (bsT n).length ≤ 13
  | 0, _ | 1, _ | 2, _ | 3, _ | 4, _ | 5, _ | 6, _ | 7, _ | 8, _ | 9, _ | 10, _ | 11, _ | 12, _ => by decide
  | n + 13, h => by omega
theorem it_lt : ∀ n, n ≤ 12 → itT n + 1 ≤ 1000 * n + 900 ∧ itT n ≠ 0
  | 0, _ | 1, _ | 2, _ | 3, _ | 4, _ | 5, _ | 6, _ | 7, _ | 8, _ | 9, _ | 10, _ | 11, _ | 12, _ => by decide
  | n + 13, h => by omega

set_option maxHeartbeats 1000000 in
theorem step_round (a1 : Int) (n : Nat) (hn : n ≤ 12) (k : Nat) (fr : Fr) (s : S) (h : ∃ i, k = n + 1 - i ∧ 1 ≤ i ∧ i ≤ n + 1 ∧ InvS a1 n i fr s) :
    GoW Try.prog qS cdX fr s (Again (fun k fr s => ∃ i, k = n + 1 - i ∧ 1 ≤ i ∧ i ≤ n + 1 ∧ InvS a1 n i fr s) k (PostS a1 n)) := by
  obtain ⟨i, rfl, hi1, hi2, t, rfl, ⟨h1, h5, h6, h7⟩, hnx, h0⟩ := h
  rw [chX]
  apply gow_seq
  generalize hR : Code.seq (.block 1 cdY) cdR5 = R
  have hr4 : cdR4 = sub [0] (sub [1,1,1,0,1,0,0] cdSS) := rfl
  rw [hr4]
  simp only [cdSS, Try.f3, bodyOf, sub]
  by_cases hlt : i ≤ n
  · have hl : ltI (Int.ofNat n) (Int.ofNat i) = false := by rw [ltI_eq]; simp; omega
    apply gow_of hE hmix tolds_nil
    repeat apply go_seq
    apply go_region
    case h => intro m; simp (maxSteps := 2000000) (disch := decide) only [opsLoop, evOper, wantedA, nth, aop, aPick, aBin, aIndexAddr, aFieldAddr, aLoad, aStore, aExtract, aConvert, aAlloc, aBox, aIndex, callA, builtinA, Fr.evs, opt, val, when, AM.run, outV, newA, ptr, force_eq, seen_heap, seen_next, seen_mark, seen_seen, agg_cells, int_cells, Fr.ev, Fr.put, onFr, gps, gpn, bltT, still, flat, List.append_nil, List.nil_append, List.cons_append, Nat.reduceEqDiff, ne_eq, not_false_eq_true, reduceCtorEq, Bool.and_true, Bool.true_and, Bool.and_false, Bool.false_and, Bool.not_true, Bool.not_false, Bool.and_self, h7, h6, b_leq, hl]; rfl
    repeat apply go_seq
    apply go_cond
    case hc => simp (disch := decide) only [opsLoop, evOper, wantedA, nth, aop, aPick, aBin, aIndexAddr, aFieldAddr, aLoad, aStore, aExtract, aConvert, aAlloc, aBox, aIndex, callA, builtinA, Fr.evs, opt, val, when, AM.run, outV, newA, ptr, force_eq, seen_heap, seen_next, seen_mark, seen_seen, agg_cells, int_cells, Fr.ev, Fr.put, onFr, gps, gpn, bltT, still, flat, List.append_nil, List.nil_append, List.cons_append, Nat.reduceEqDiff, ne_eq, not_false_eq_true, reduceCtorEq, Bool.and_true, Bool.true_and, Bool.and_false, Bool.false_and, Bool.not_true, Bool.not_false, Bool.and_self]; rfl
    case h2 => intro h; cases h
    intro _
    apply go_skip
    refine ⟨by show s.next ≤ 100000; omega, ?_⟩
    show GoW _ _ _ _ _ _
    rw [← hR]
    -- the files of the step
    obtain ⟨t2, s2, hrun, hvs, hnx2, hmk2, hmap2, hit2⟩ := prob_some (stepA a1 n i hi1 (by omega))
    obtain ⟨hi900, hi0⟩ := it_lt i (by omega)
    refine gow_less (fr2 := frA a1 n i) (s2 := sA i) ?_ (s_keep [(0, .map (entsFrom (bsT (i - 1)) 0) (bsT (i - 1)).length)] _ _ hnx (by simp; unfold Tr.wide; omega) (by
      intro x hx
      simp only [List.mem_singleton] at hx
      subst hx
      exact ⟨_, h0, .refl _⟩)) (Nat.zero_le _) (fr_keep _ (by
      intro x hx
      simp only [List.mem_cons, List.not_mem_nil, or_false] at hx
      rcases hx with rfl | rfl | rfl | rfl <;> (unfold Tr.wide; omega)) (by
      intro x hx
      simp only [List.mem_cons, List.not_mem_nil, or_false] at hx
      rcases hx with rfl | rfl | rfl | rfl
      · simp (disch := decide) only [gps, gpn, h1]
      · simp (disch := decide) only [gps, gpn, h5]
      · simp (disch := decide) only [gps, gpn, h6]
      · simp (disch := decide) only [gps, gpn, h7]))
    apply gow_seq
    apply gow_block
    rw [chY]
    obtain ⟨fr1, s1, hA1, hA2⟩ := evPs_app psA [cdR27] _ _ _ hrun
    obtain ⟨fr27, s27, hB1, hB2⟩ := evPs_cons hA2
    have hB2 := evPs_nil hB2
    simp only [Prod.mk.injEq] at hB2
    obtain ⟨hf27, hs27⟩ := hB2
    subst hf27
    subst hs27
    have hmono := evPs_next E (sumsOf []) 100000 psA _ _ _ _ hA1 (Nat.zero_le _)
    have hm1 : s1.mark ≤ s1.next := by rw [hmono.2]; exact Nat.zero_le _
    have hn1 := (loc_evT E (sumsOf []) 100000 _ _ _ _ hB1 hm1).next
    refine gow_pieces hE hmix tolds_nil 100000 psA _ _ _ _ hA1 (by show s1.next ≤ 100000; omega) (Nat.zero_le _) ?_
    apply gow_seq
    apply gow_seq
    refine gow_piece hE hmix tolds_nil hB1 (by show s2.next ≤ 100000; omega) ?_
    show GoW _ _ _ _ _ _
    rw [chB8]
    simp only [List.map_cons, List.map_nil, List.cons.injEq, and_true] at hvs
    obtain ⟨k1, k5, k6, k7, k14, k70⟩ := hvs
    have htr : trues (entsFrom (bsT i) 0) = trues (entsFrom (bsT i) 0) := rfl
    apply gow_block
    refine (gow_loop_inv (body := cdL8) (InvR (bsT i) (itT i) (itT i + 1) _ _ _) (fun k fr s hI => count_round qS (bsT i) (by have := bs_len i (by omega); omega) (itT i) (itT i + 1) (.int .i64 a1) (.int .i64 (.ofNat n)) (.int .i64 (.ofNat i)) (by omega) hi0 (by omega) (by show itT i + 1 ≤ 100000; omega) k fr s hI) _ _ _ ⟨t2, [], 0, rfl, ⟨k1, k5, k6, k7⟩, k70, k14, hnx2, mapAt_eq hmap2, iterAt_eq hit2, rfl, ?_⟩).mono ?_
    · have : ∀ es : List MapEntry, unseen [] es = es := by
        intro es
        induction es with
        | nil => rfl
        | cons x l ih => simp only [unseen, memN, ih]
      rw [this]; omega
    rintro x fr3 s3 ⟨rfl, t3, rfl, ⟨m1, m5, m6, m7⟩, m14, hn3, g0⟩
    simp only [Out_, if_true]
    show GoW _ _ _ _ _ _
    -- all is there
    obtain ⟨t4, s4, hrun4, hvs4, hnx4, hmk4, hmap4, _⟩ := prob_some (stepE a1 n i hi1 (by omega))
    refine gow_less (fr2 := frE a1 n i) (s2 := sE i) ?_ (s_keep [(0, .map (entsFrom (bsT i) 0) (bsT i).length)] _ _ (by omega) (by simp; unfold Tr.wide; omega) (by
      intro x hx
      simp only [List.mem_singleton] at hx
      subst hx
      exact ⟨_, g0, .refl _⟩)) (Nat.zero_le _) (fr_keep _ (by
      intro x hx
      simp only [List.mem_cons, List.not_mem_nil, or_false] at hx
      rcases hx with rfl | rfl | rfl | rfl | rfl <;> (unfold Tr.wide; omega)) (by
      intro x hx
      simp only [List.mem_cons, List.not_mem_nil, or_false] at hx
      rcases hx with rfl | rfl | rfl | rfl | rfl
      · exact m1
      · exact m5
      · exact m6
      · exact m7
      · exact m14))
    obtain ⟨fr5, s5, hC1, hC2⟩ := evPs_cons hrun4
    obtain ⟨fr6, s6, hD1, hD2⟩ := evPs_cons hC2
    have hD2 := evPs_nil hD2
    simp only [Prod.mk.injEq] at hD2
    obtain ⟨hf6, hs6⟩ := hD2
    subst hf6
    subst hs6
    have hL5 := loc_evT E (sumsOf []) 100000 _ _ _ _ hC1 (Nat.zero_le _)
    have hm5 : s5.mark ≤ s5.next := by rw [hL5.mark]; exact Nat.zero_le _
    have hn5 := (loc_evT E (sumsOf []) 100000 _ _ _ _ hD1 hm5).next
    refine gow_piece hE hmix tolds_nil hC1 (by show s5.next ≤ 100000; omega) ?_
    show GoW _ _ _ _ _ _
    refine gow_piece hE hmix tolds_nil hD1 (by show s4.next ≤ 100000; omega) ?_
    simp only [List.map_cons, List.map_nil, List.cons.injEq, and_true] at hvs4
    obtain ⟨p1, p5, p6, p7⟩ := hvs4
    exact ⟨n + 1 - (i + 1), by omega, i + 1, rfl, by omega, by omega, t4, rfl, ⟨p1, p5, p6, p7⟩, by omega, by rw [show i + 1 - 1 = i by omega]; exact mapAt_eq hmap4⟩
  · obtain rfl : i = n + 1 := by omega
    have hl : ltI (Int.ofNat n) (Int.ofNat (n + 1)) = true := by rw [ltI_eq]; simp; omega
    apply gow_of hE hmix tolds_nil
    repeat apply go_seq
    apply go_region
    case h => intro m; simp (maxSteps := 2000000) (disch := decide) only [opsLoop, evOper, wantedA, nth, aop, aPick, aBin, aIndexAddr, aFieldAddr, aLoad, aStore, aExtract, aConvert, aAlloc, aBox, aIndex, callA, builtinA, Fr.evs, opt, val, when, AM.run, outV, newA, ptr, force_eq, seen_heap, seen_next, seen_mark, seen_seen, agg_cells, int_cells, Fr.ev, Fr.put, onFr, gps, gpn, bltT, still, flat, List.append_nil, List.nil_append, List.cons_append, Nat.reduceEqDiff, ne_eq, not_false_eq_true, reduceCtorEq, Bool.and_true, Bool.true_and, Bool.and_false, Bool.false_and, Bool.not_true, Bool.not_false, Bool.and_self, h7, h6, b_leq, hl]; rfl
    repeat apply go_seq
    apply go_cond
    case hc => simp (disch := decide) only [opsLoop, evOper, wantedA, nth, aop, aPick, aBin, aIndexAddr, aFieldAddr, aLoad, aStore, aExtract, aConvert, aAlloc, aBox, aIndex, callA, builtinA, Fr.evs, opt, val, when, AM.run, outV, newA, ptr, force_eq, seen_heap, seen_next, seen_mark, seen_seen, agg_cells, int_cells, Fr.ev, Fr.put, onFr, gps, gpn, bltT, still, flat, List.append_nil, List.nil_append, List.cons_append, Nat.reduceEqDiff, ne_eq, not_false_eq_true, reduceCtorEq, Bool.and_true, Bool.true_and, Bool.and_false, Bool.false_and, Bool.not_true, Bool.not_false, Bool.and_self]; rfl
    case h1 => intro h; cases h
    intro _
    apply go_exit
    refine ⟨by show s.next ≤ 100000; omega, rfl, _, rfl, ⟨?_, ?_, ?_, ?_⟩, hnx, by rw [show n + 1 - 1 = n by omega] at h0; exact h0⟩
    · simp (disch := decide) only [gps, gpn, h1]
    · simp (disch := decide) only [gps, gpn, h5]
    · simp (disch := decide) only [gps, gpn, h6]
    · simp (disch := decide) only [gps, gpn, h7]
end Go.Proofs.Yteaoeloobbmdaaa.lf
