/- Catalogs: lists of files compared by the laws' own loop. -/
import Derived.Test.YtgofanjbhbeniaaDoorMRowCatalogBack9
section
/- Catalogs in leaves: the leaf of a catalog that may be, as a leaf; catalog.Get of it, walked. -/
noncomputable section
namespace Go.Proofs.YtgofanjbhbeniaaDoor.lf
open AE
set_option linter.unusedSimpArgs false
set_option linter.unusedVariables false
set_option maxRecDepth 10000

def toB : Value → UInt8
  | .int _ n => UInt8.ofNat n.toNat
  | _ => 0
/-- bytes as values -/
def UB (l : List Value) : Prop := ∀ v ∈ l, ∃ k : Nat, k < 256 ∧ v = .int .u8 (.ofNat k)
theorem UB.app {a b : List Value} (h : UB a) (h' : UB b) : UB (a ++ b) := fun v hv => (List.mem_append.1 hv).elim (h v) (h' v)
theorem UB.nil : UB [] := fun v h => by cases h
theorem UB.cons {v : Value} {l : List Value} (hv : ∃ k : Nat, k < 256 ∧ v = .int .u8 (.ofNat k)) (h : UB l) : UB (v :: l) := fun u hu => by
  rcases List.mem_cons.1 hu with rfl | hu
  · exact hv
  · exact h u hu
theorem ub_u8 (x : Int) : ∃ k : Nat, k < 256 ∧ u8V x = .int .u8 (.ofNat k) := by
  refine ⟨modN 256 x, ?_, rfl⟩
  have h := modN_eq 256 (by omega) x
  have h2 := Int.emod_lt_of_pos x (show (0 : Int) < ((256 : Nat) : Int) by omega)
  omega
theorem ub_low4 (x : Int) : UB (low4 x) := .cons (ub_u8 _) (.cons (ub_u8 _) (.cons (ub_u8 _) (.cons (ub_u8 _) .nil)))
theorem ub_zeros : ∀ n, UB (zerosV n)
  | 0 => .nil
  | n + 1 => .cons ⟨0, by omega, rfl⟩ (ub_zeros n)
theorem ub_files : ∀ l, UB (filesV l)
  | [] => .nil
  | f :: l => .app (.cons (ub_u8 _) (.cons (ub_u8 _) (.cons (ub_u8 _) (.cons (ub_u8 _) (.cons (ub_u8 _) (.cons (ub_u8 _) (.cons (ub_u8 _) .nil))))))) (ub_files l)
theorem ub_enc (D : CatD) : UB (encV D) := by
  unfold encV
  have he : UB [u8V D.step, u8V D.status, endV D.ended, u8V D.budget, u8V D.fan] := by
    refine .cons (ub_u8 _) (.cons (ub_u8 _) (.cons ?_ (.cons (ub_u8 _) (.cons (ub_u8 _) .nil))))
    cases D.ended
    · exact ⟨0, by omega, rfl⟩
    · exact ⟨1, by omega, rfl⟩
  exact .app (.app (.app (.app (ub_low4 _) he) (ub_low4 _)) (ub_low4 _)) (ub_files _)
theorem ub_back : ∀ l, UB l → (l.map toB).map bv = l
  | [], _ => rfl
  | v :: l, h => by
    obtain ⟨k, hk, rfl⟩ := h v (by simp)
    simp only [List.map_cons, ub_back l (fun u hu => h u (by simp [hu])), List.cons.injEq, and_true]
    unfold bv toB
    show Value.int .u8 (.ofNat (UInt8.ofNat k).toNat) = _
    rw [UInt8.toNat_ofNat', Nat.mod_eq_of_lt (by simpa using hk)]
/-- the leaf -/
def leafD (D : CatD) : LeafD := ⟨2, 0, 0, 0, .ofNat (17 + 7 * D.files.length), (encV D ++ zerosV (99 - 7 * D.files.length)).map toB⟩
theorem leafD_cells (D : CatD) : (leafD D).cells = putV_ D := by
  unfold LeafD.cells leafD putV_
  simp only
  rw [ub_back _ (.app (ub_enc D) (ub_zeros _))]
theorem encV_len (D : CatD) : (encV D).length = 17 + 7 * D.files.length := by
  have h4 : ∀ x, (low4 x).length = 4 := fun x => rfl
  unfold encV
  simp only [List.length_append, h4, filesV_len, List.length_cons, List.length_nil]
theorem leafD_len (D : CatD) (h : D.files.length ≤ 14) : (leafD D).load.length = 116 := by
  unfold leafD
  simp only [List.length_map, List.length_append, encV_len, zerosV_len]
  omega
theorem zeros_map : ∀ n, (zerosV n).map toB = List.replicate n 0
  | 0 => rfl
  | n + 1 => by simp only [zerosV, List.map_cons, zeros_map n, List.replicate_succ]; rfl
theorem leafD_right (D : CatD) (h : D.files.length ≤ 14) : rightL (leafD D) = true := by
  have hd : (leafD D).load.drop (leafD D).size.toNat = List.replicate (99 - 7 * D.files.length) 0 := by
    show ((encV D ++ zerosV _).map toB).drop (17 + 7 * D.files.length) = _
    rw [List.map_append, List.drop_append_of_le_length (by rw [List.length_map, encV_len]; exact Nat.le_refl _), List.drop_eq_nil_of_le (by rw [List.length_map, encV_len]; exact Nat.le_refl _), List.nil_append, zeros_map]
  have hn : noughts ((leafD D).load.drop (leafD D).size.toNat) = true := by
    rw [hd]
    unfold noughts
    exact beq_iff.2 ((lead_all _).2 (fun j x hj => by
      have := List.mem_of_getElem? hj
      exact (List.mem_replicate.1 this).2))
  have hs : wi (leafD D).size 0 116 = true := wi_iff.2 (by
    have e : (leafD D).size = ((17 + 7 * D.files.length : Nat) : Int) := rfl
    rw [e]; omega)
  unfold rightL
  rw [hn, hs]
  rfl

theorem putRA_some {H : Tr AObj} {N b : Nat} {cap : Nat} (D : CatD) (hD : D.right = true) (hv : Cl ⟨H, N, N, 0, 0⟩ b 0 (fcs D.files)) : (putRA [.agg ⟨D.cells (some ⟨b, 0, none⟩) cap⟩]).run ⟨H, N, N, 0, 0⟩ = some (.agg ⟨putV_ D⟩, ⟨H, N, N, bit N b 0, 0⟩) := by
  have hlen := right_len hD
  have e := cl_load hv (fun cs => opt (filesOf cs) fun fs => when (CatD.right ⟨D.gen, D.step, D.status, D.ended, D.from_, D.to_, D.budget, D.fan, fs⟩) (AM.pure (Value.agg ⟨putV_ ⟨D.gen, D.step, D.status, D.ended, D.from_, D.to_, D.budget, D.fan, fs⟩⟩)))
  rw [fcs_len, filesOf_fcs] at e
  show (when (Nat.ble D.files.length 1000000) (loadA ⟨b, 0, none⟩ (4 * D.files.length) _)).run _ = _
  rw [show Nat.ble D.files.length 1000000 = true from ble_iff.2 (by omega), show ∀ k : AM Value, when true k = k from fun _ => rfl, e]
  show (when D.right (AM.pure (Value.agg ⟨putV_ D⟩))).run _ = _
  rw [hD]
  rfl
theorem putRA_none {H : Tr AObj} {N : Nat} {cap : Nat} (D : CatD) (hD : D.right = true) (h0 : D.files = []) : (putRA [.agg ⟨D.cells none cap⟩]).run ⟨H, N, N, 0, 0⟩ = some (.agg ⟨putV_ D⟩, ⟨H, N, N, 0, 0⟩) := by
  obtain ⟨g, st, su, en, fo, to, bu, fa, fs⟩ := D
  simp only at h0
  subst h0
  show (when (CatD.right ⟨g, st, su, en, fo, to, bu, fa, []⟩) (AM.pure (Value.agg ⟨putV_ ⟨g, st, su, en, fo, to, bu, fa, []⟩⟩))).run _ = _
  rw [hD]
  rfl
theorem neq_same (D : CatD) (h : D.files.length ≤ 14) : binA E .neq 30 (.agg ⟨putV_ D⟩) (.agg ⟨putV_ D⟩) = some (.bool false) := by
  have := neqLf (leafD D) (leafD D) (leafD_len D h) (leafD_len D h)
  rw [leafD_cells, decide_eq_true rfl] at this
  exact this
end Go.Proofs.YtgofanjbhbeniaaDoor.lf
end
end

section
/- Catalogs in leaves: catalog.Get of the leaf of a catalog that may be, walked. -/
noncomputable section
namespace Go.Proofs.YtgofanjbhbeniaaDoor.lf
open AE
set_option linter.unusedSimpArgs false
set_option linter.unusedVariables false
set_option maxRecDepth 10000

abbrev sigGC : List (Nat × (List Value → AM Value)) := [(24, rightA), (7, putRA)]
theorem tolds_GC : Tolds Tryd.prog (sumsOf sigGC) := tolds_cons told_right (tolds_cons told_putR tolds_nil)
theorem gcR : sumsOf sigGC 24 = some rightA := rfl
theorem gcP : sumsOf sigGC 7 = some putRA := rfl
theorem tgLR : ∀ a b, targetA E (.func 24) a b = .pure (.enter 24 (b ++ a)) := tgt (fi := FI.of Tryd.f24) (c := bodyOf Tryd.f24) (by kernel_rfl) (by kernel_rfl)
theorem tgPC : ∀ a b, targetA E (.func 7) a b = .pure (.enter 7 (b ++ a)) := tgt (fi := fiPN) (c := cdPN) (by kernel_rfl) (by kernel_rfl)
theorem chGC0 : cdGC = .seq (sub [0] cdGC) (.seq (sub [1,0] cdGC) (sub [1,1] cdGC)) := rfl
/-- what a walk through catalog.Get comes to -/
def GotC (D : CatD) (v : Value) (s : S) : Prop := v = .tuple ⟨[.agg ⟨D.cells (adG D.files.length) (capG D.files.length)⟩, .bool true]⟩ ∧ (0 < D.files.length → ∃ c2, s.heap.get (40 + 3 * D.files.length) = some (.cells c2 (4 * D.files.length) 41 .loose) ∧ Row c2 0 (fcs D.files))

theorem got_some (D : CatD) (hD : D.right = true) : ∃ t s, runG (bOf (encV D ++ zerosV (99 - 7 * D.files.length))) D.files.length = some (⟨9, t, 114, [], none⟩, s) ∧ t.get 1 = some (.pointer (some ⟨0, 0, none⟩)) ∧ t.get 2 = some (.pointer (some ⟨1, 0, none⟩)) ∧ t.get 4 = some (.pointer (some ⟨40, 0, none⟩)) ∧ s.next ≤ 5000 ∧
    cellsAt s 0 = some (121, 30, .whole, some (putV_ D)) ∧ cellsAt s 1 = some (9, 27, .whole, some zeroC) ∧ cellsAt s 40 = some (9, 27, .whole, some (D.cells (adG D.files.length) (capG D.files.length))) ∧
    (0 < D.files.length → cellsAt s (40 + 3 * D.files.length) = some (4 * D.files.length, 41, .loose, some (fcs D.files))) := by
  have hlen := right_len hD
  have hp := get_run (bOf (encV D ++ zerosV (99 - 7 * D.files.length))) D.files.length hlen
  have hc := catG_enc D hD (zerosV (99 - 7 * D.files.length))
  have hl := leafB_enc D hlen
  unfold probG wantG at hp
  rw [hl] at hp
  split at hp
  · cases hp
  · rename_i fr s h
    obtain ⟨f1, t, n1, d1, r1⟩ := fr
    simp only [Option.some.injEq, Prod.mk.injEq] at hp
    obtain ⟨⟨rfl, rfl, rfl, rfl⟩, ⟨h5, h6, h7⟩, h8, h9, h10, h11, h12⟩ := hp
    refine ⟨t, s, h, h5, h6, h7, ble_iff.1 h8, h9, h10, by rw [h11, hc], fun hpos => ?_⟩
    rw [h12]
    obtain ⟨m, hm⟩ : ∃ m, D.files.length = m + 1 := ⟨D.files.length - 1, by omega⟩
    rw [hm] at hc ⊢
    show some (4 * (m + 1), _, _, some (fcs (catG _ (m + 1)).files)) = _
    rw [hc]

theorem bl9 {n : Nat} (h : n ≤ 100000) : Nat.ble n lastName = true := ble_iff.2 (by unfold lastName; omega)
theorem obj_of {s : S} {n m : Nat} {e : TypeId} {r : Room} {L : List Value} (h : cellsAt s n = some (m, e, r, some L)) : ∃ c, s.heap.get n = some (.cells c m e r) ∧ L.length = m ∧ Row c 0 L := by
  unfold cellsAt at h
  split at h
  · rename_i c m' e' r' hg
    simp only [Option.some.injEq, Prod.mk.injEq] at h
    obtain ⟨rfl, rfl, rfl, h4⟩ := h
    exact ⟨c, hg, row_of_rd h4⟩
  · cases h
set_option maxHeartbeats 4000000 in
theorem getC_gow (q : Free) (hq : 9000 ≤ q.hi) (D : CatD) (hD : D.right = true) (sI : S) (hn : sI.next = 0) :
    GoW Tryd.prog q cdGC ⟨9, Tr.ofList [.agg ⟨putV_ D⟩], 114, [], none⟩ sI (Ret E 9 fiGC (GotC D)) := by
  have hlen := right_len hD
  rw [chGC0]
  generalize hrest : sub [1,1] cdGC = rest
  simp only [cdGC, Tryd.f9, bodyOf, sub]
  have h0 : (Tr.ofList [Value.agg ⟨putV_ D⟩]).get 0 = some (.agg ⟨putV_ D⟩) := rfl
  generalize Tr.ofList [Value.agg ⟨putV_ D⟩] = t at *
  have hpl := putV_len D hlen
  have hzb : Nat.ble (putV_ D).length lastName = true := by rw [hpl]; rfl
  have b0 : Nat.ble 0 lastName = true := rfl
  have b1 : Nat.ble 1 lastName = true := rfl
  obtain ⟨HI, NI, mkI, rdI, wrI⟩ := sI
  simp only at hn
  subst hn
  apply gow_seq
  apply gow_of hE hmix tolds_nil
  repeat apply go_seq
  apply go_region
  case h => intro m; simp (maxSteps := 2000000) (disch := decide) only [opsLoop, evOper, wantedA, nth, aop, aPick, aBin, aIndexAddr, aFieldAddr, aLoad, aStore, aExtract, aConvert, aAlloc, aBox, aIndex, callA, builtinA, Fr.evs, opt, val, when, AM.run, outV, newA, ptr, force_eq, seen_heap, seen_next, seen_mark, seen_seen, agg_cells, int_cells, Fr.ev, Fr.put, onFr, gps, gpn, bltT, still, flat, List.append_nil, List.nil_append, List.cons_append, Nat.reduceEqDiff, ne_eq, not_false_eq_true, reduceCtorEq, Bool.and_true, Bool.true_and, Bool.and_false, Bool.false_and, Bool.not_true, Bool.not_false, Bool.and_self, h0, tyLf, b0, show Nat.ble (Nat.succ 0) lastName = true from rfl, tyC, zeC, hzb, show Nat.ble ([Value.int .i64 0, .int .i64 0, .int .i64 0, .bool false, .int .i64 0, .int .i64 0, .int .i64 0, .int .i64 0, .slice none 0 0] : List Value).length lastName = true from rfl]; rfl
  refine ⟨by show 2 ≤ q.hi; omega, ?_⟩
  show GoW _ _ _ _ _ _
  generalize hs1 : S.mk _ _ _ _ _ = s2
  have e1 : s2.next = 2 := by rw [← hs1]
  have e1h : s2.heap = (HI.put 0 (some (.cells (Tr.ofList (putV_ D)) (putV_ D).length 30 .whole))).put 1 (some (.cells (Tr.ofList zeroC) 9 27 .whole)) := by rw [← hs1]; rfl
  clear hs1
  have o0 : s2.heap.get 0 = some (.cells (Tr.ofList (putV_ D)) 121 30 .whole) := by rw [e1h, hg_far b1 (by omega), hg_same b0, hpl]
  have o1 : s2.heap.get 1 = some (.cells (Tr.ofList zeroC) 9 27 .whole) := by rw [e1h]; exact hg_same b1 _ _
  clear e1h
  have C0 : Cl s2 0 0 (putV_ D) := ⟨by omega, _, _, .inl ⟨_, _, o0⟩, by rw [hpl]; exact Nat.le_refl 121, row_ofList _ (by rw [hpl]; unfold Tr.wide; omega)⟩
  obtain ⟨H, N, mk, rd, wr⟩ := s2
  simp only at e1 o0 o1
  have l0 := C0.ldA (β := ANext) tiLf (by rw [dsLf]; rfl) (by rw [szLf, hpl])
  obtain ⟨s3, r3, n3, g3⟩ := rightA_run (s := (⟨H, N, mk, rd, wr⟩ : S).seen 0) (d := leafD D) (leafD_len D hlen) (fun i hi => bl9 (by show N + i ≤ _; omega))
  rw [leafD_cells, leafD_right D hlen] at r3
  simp only [S.seen] at r3 n3 g3
  have gg : ∀ m, m < 2 → s3.heap.get m = H.get m := fun m hm => (g3 m).trans (if_neg (by show ¬ (N ≤ m ∧ m < N + 2); omega))
  have C3 : Cl s3 0 0 (putV_ D) := C0.keep (by show N ≤ _; omega) (gg 0 (by omega))
  have n3' : s3.next = 4 := by rw [n3, e1]
  obtain ⟨H3, N3, mk3, rd3, wr3⟩ := s3
  simp only at n3' gg
  have l4 := C3.ld (k := 4) tiI (by rw [dsI]; rfl) (show (putV_ D)[4]? = some (.int .i64 (.ofNat (17 + 7 * D.files.length))) from rfl)
  simp only [Nat.zero_add] at l4
  have q1 : ∀ E t, binA E .lss t (.int .i64 (.ofNat (17 + 7 * D.files.length))) (.int .i64 17) = some (.bool false) := fun E t => by
    show some (Value.bool (ltI _ _)) = _
    rw [ltI_eq, decide_eq_false (by show ¬ ((17 + 7 * D.files.length : Nat) : Int) < 17; omega)]
  have q2 : ∀ E t, binA E .sub t (.int .i64 (.ofNat (17 + 7 * D.files.length))) (.int .i64 17) = some (.int .i64 (.ofNat (7 * D.files.length))) := fun E t => by
    show some (Value.int .i64 (wrapA .i64 (((17 + 7 * D.files.length : Nat) : Int) - 17))) = _
    rw [show ((17 + 7 * D.files.length : Nat) : Int) - 17 = ((7 * D.files.length : Nat) : Int) by omega, wrap_small (by omega) (by omega)]
    rfl
  have q3 : ∀ E t, binA E .rem t (.int .i64 (.ofNat (7 * D.files.length))) (.int .i64 7) = some (.int .i64 0) := fun E t => by
    show some (Value.int .i64 (Int.tmod ((7 * D.files.length : Nat) : Int) 7)) = _
    rw [Int.tmod_eq_emod_of_nonneg (by omega)]
    congr 2
    omega
  have q4 : ∀ E t, binA E .neq t (.int .i64 0) (.int .i64 0) = some (.bool false) := fun E t => rfl
  have a4 : addA ⟨0, 0, none⟩ 4 = ⟨0, 4, none⟩ := rfl
  apply gow_seq
  apply gow_of hE hmix tolds_GC
  repeat apply go_seq
  apply go_region
  case h => intro m; simp (maxSteps := 2000000) (disch := decide) only [opsLoop, evOper, wantedA, nth, aop, aPick, aBin, aIndexAddr, aFieldAddr, aLoad, aStore, aExtract, aConvert, aAlloc, aBox, aIndex, callA, builtinA, Fr.evs, opt, val, when, AM.run, outV, newA, ptr, force_eq, seen_heap, seen_next, seen_mark, seen_seen, agg_cells, int_cells, Fr.ev, Fr.put, onFr, gps, gpn, bltT, still, flat, List.append_nil, List.nil_append, List.cons_append, Nat.reduceEqDiff, ne_eq, not_false_eq_true, reduceCtorEq, Bool.and_true, Bool.true_and, Bool.and_false, Bool.false_and, Bool.not_true, Bool.not_false, Bool.and_self, tyLf, dsLf, fl4, ft4, fo4, tyI, szI, ble11, a4, l0, tgLR, evT_told gcR, r3, u_not, l4, q1, q2, q3, q4]; rfl
  repeat apply go_seq
  apply go_cond
  case hc => simp (disch := decide) only [opsLoop, evOper, wantedA, nth, aop, aPick, aBin, aIndexAddr, aFieldAddr, aLoad, aStore, aExtract, aConvert, aAlloc, aBox, aIndex, callA, builtinA, Fr.evs, opt, val, when, AM.run, outV, newA, ptr, force_eq, seen_heap, seen_next, seen_mark, seen_seen, agg_cells, int_cells, Fr.ev, Fr.put, onFr, gps, gpn, bltT, still, flat, List.append_nil, List.nil_append, List.cons_append, Nat.reduceEqDiff, ne_eq, not_false_eq_true, reduceCtorEq, Bool.and_true, Bool.true_and, Bool.and_false, Bool.false_and, Bool.not_true, Bool.not_false, Bool.and_self]; rfl
  case h1 => intro h; cases h
  intro _
  apply go_skip
  refine ⟨by show N3 ≤ q.hi; omega, ?_⟩
  show GoW _ _ _ _ _ _
  obtain ⟨t4, s4, hr4, k1, k2, k4, hn4, hc0, hc1, hc40, hcF⟩ := got_some D hD
  refine gow_less (fr2 := frG) (s2 := sG (bOf (encV D ++ zerosV (99 - 7 * D.files.length))) D.files.length) ?_ (s_keep _ _ _ (by show N3 ≤ 40; omega) (by
    intro x hx
    simp only [List.mem_cons, List.not_mem_nil, or_false] at hx
    rcases hx with rfl | rfl <;> (unfold Tr.wide; omega)) (by
    intro x hx
    simp only [List.mem_cons, List.not_mem_nil, or_false] at hx
    rcases hx with rfl | rfl
    · refine ⟨_, (gg 0 (by omega)).trans o0, ?_⟩
      rw [leafB_enc D hlen]
      exact .refl _
    · exact ⟨_, (gg 1 (by omega)).trans o1, .refl _⟩)) (Nat.zero_le _) (fr_keep _ (by
    intro y hy
    simp only [List.mem_cons, List.not_mem_nil, or_false] at hy
    rcases hy with rfl | rfl | rfl <;> (unfold Tr.wide; omega)) (by
    intro y hy
    simp only [List.mem_cons, List.not_mem_nil, or_false] at hy
    rcases hy with rfl | rfl | rfl
    · simp (disch := decide) only [gps, gpn]
    · simp (disch := decide) only [gps, gpn]
    · simp (disch := decide) only [gps, gpn]))
  rw [← hrest, chGC]
  refine gow_pieces hE hmix tolds_nil 3000 psG _ _ _ _ (by rw [evPt_eq]; exact hr4) (by show s4.next ≤ q.hi; omega) (Nat.zero_le _) ?_
  -- put again, and held against the leaf
  obtain ⟨c0, p0, _, w0⟩ := obj_of hc0
  obtain ⟨c1, p1, _, w1⟩ := obj_of hc1
  obtain ⟨c40, p40, _, w40⟩ := obj_of hc40
  refine gow_less (fr2 := ⟨9, t4, 114, [], none⟩) (s2 := ⟨s4.heap, 5000, 0, 0, 0⟩) ?_ ⟨hn4, fun m o ho => ⟨o, ho, .refl o⟩⟩ (Nat.zero_le _) ⟨rfl, rfl, rfl, rfl, fun _ _ h => h⟩
  obtain ⟨H5, N5, mk5, rd5, wr5⟩ := s4
  simp only at p0 p1 p40 hn4
  clear hr4 hc0 hc1 hc40
  have D40 : Cl ⟨H5, 5000, 5000, 0, 0⟩ 40 0 (D.cells (adG D.files.length) (capG D.files.length)) := ⟨by show 40 < 5000; omega, _, _, .inl ⟨_, _, p40⟩, by show 0 + 9 ≤ 9; omega, w40⟩
  have D0 : Cl ⟨H5, 5000, 5000, 0, 0⟩ 0 0 (putV_ D) := ⟨by show 0 < 5000; omega, _, _, .inl ⟨_, _, p0⟩, by rw [hpl]; exact Nat.le_refl 121, w0⟩
  have m40 := D40.ldA (β := ANext) tiC (by rw [dsC]; rfl) (by rw [szC]; rfl)
  have m0 := D0.ldA (β := ANext) tiLf (by rw [dsLf]; rfl) (by rw [szLf, hpl])
  have nq := neq_same D hlen
  have hput : ∃ rd', (putRA [.agg ⟨D.cells (adG D.files.length) (capG D.files.length)⟩]).run ⟨H5, 5000, 5000, 0, 0⟩ = some (.agg ⟨putV_ D⟩, ⟨H5, 5000, 5000, rd', 0⟩) := by
    cases hm : D.files.length with
    | zero => exact ⟨0, putRA_none D hD (List.eq_nil_of_length_eq_zero hm)⟩
    | succ m =>
      obtain ⟨cF, pF, lF, wF⟩ := obj_of (hcF (by omega))
      refine ⟨_, putRA_some D hD ⟨by show 40 + 3 * (m + 1) < 5000; omega, cF, _, .inl ⟨_, _, by rw [← hm]; exact pF⟩, by rw [Nat.zero_add, lF]; exact Nat.le_refl _, wF⟩⟩
  obtain ⟨rdp, hput⟩ := hput
  have hre : reG = .seq (sub [0] reG) (sub [1] reG) := rfl
  rw [hre]
  generalize hr1 : sub [1] reG = re1
  simp only [reG, cdGC, Tryd.f9, bodyOf, sub]
  apply gow_seq
  apply gow_of hE hmix tolds_GC
  repeat apply go_seq
  apply go_drawn
  case hs => rfl
  case h => intro m; simp (maxSteps := 2000000) (disch := decide) only [opsLoop, evOper, wantedA, nth, aop, aPick, aBin, aIndexAddr, aFieldAddr, aLoad, aStore, aExtract, aConvert, aAlloc, aBox, aIndex, callA, builtinA, Fr.evs, opt, val, when, AM.run, outV, newA, ptr, force_eq, seen_heap, seen_next, seen_mark, seen_seen, agg_cells, int_cells, Fr.ev, Fr.put, onFr, gps, gpn, bltT, still, flat, List.append_nil, List.nil_append, List.cons_append, Nat.reduceEqDiff, ne_eq, not_false_eq_true, reduceCtorEq, Bool.and_true, Bool.true_and, Bool.and_false, Bool.false_and, Bool.not_true, Bool.not_false, Bool.and_self, drawnLoop, force_eq, S.seen, keep_none, clash_nil, clash_reads, created_self, lor_zero, lor_zero', k4, k1, tyC, m40, tgPC, evT_told gcP, hput, tyLf, m0, nq]; rfl
  repeat apply go_seq
  apply go_cond
  case hc => simp (disch := decide) only [opsLoop, evOper, wantedA, nth, aop, aPick, aBin, aIndexAddr, aFieldAddr, aLoad, aStore, aExtract, aConvert, aAlloc, aBox, aIndex, callA, builtinA, Fr.evs, opt, val, when, AM.run, outV, newA, ptr, force_eq, seen_heap, seen_next, seen_mark, seen_seen, agg_cells, int_cells, Fr.ev, Fr.put, onFr, gps, gpn, bltT, still, flat, List.append_nil, List.nil_append, List.cons_append, Nat.reduceEqDiff, ne_eq, not_false_eq_true, reduceCtorEq, Bool.and_true, Bool.true_and, Bool.and_false, Bool.false_and, Bool.not_true, Bool.not_false, Bool.and_self]; rfl
  case h1 => intro h; cases h
  intro _
  apply go_skip
  refine ⟨by show 5000 ≤ q.hi; omega, ?_⟩
  show GoW _ _ _ _ _ _
  rw [← hr1]
  simp only [reG, cdGC, Tryd.f9, bodyOf, sub]
  generalize hs6 : S.mk _ _ _ _ _ = s6
  have e6 : s6.next = 5000 := by rw [← hs6]
  have e6h : s6.heap = H5 := by rw [← hs6]
  clear hs6
  obtain ⟨H6, N6, mk6, rd6, wr6⟩ := s6
  simp only at e6 e6h
  subst e6h
  have D6 : Cl ⟨H6, N6, mk6, rd6, wr6⟩ 40 0 (D.cells (adG D.files.length) (capG D.files.length)) := D40.keep (by show 5000 ≤ N6; omega) rfl
  have n40 := D6.ldA (β := ANext) tiC (by rw [dsC]; rfl) (by rw [szC]; rfl)
  have hall : allOne (D.cells (adG D.files.length) (capG D.files.length)) = true := by
    have : ∀ a c, allOne (D.cells a c) = true := fun a c => by cases a <;> rfl
    exact this _ _
  have st : ∀ rd wr, (storeA ⟨1, 0, none⟩ (D.cells (adG D.files.length) (capG D.files.length)) (AM.pure (ANext.value undefV))).run ⟨H6, N6, mk6, rd, wr⟩ =
      some (.value undefV, ⟨H6.put 1 (some (.cells (wrCells c1 0 (D.cells (adG D.files.length) (capG D.files.length))) 9 27 .whole)), N6, mk6, bit mk6 1 rd, bit mk6 1 wr⟩) := fun rd wr => by
    rw [storeA_run (s := ⟨H6, N6, mk6, rd, wr⟩) _ hall (by show 1 < N6; omega) b1 p1 (by show 0 + 9 ≤ 9; omega) (by omega)]
    rfl
  apply gow_of hE hmix tolds_GC
  repeat apply go_seq
  apply go_region
  case h => intro m; simp (maxSteps := 2000000) (disch := decide) only [opsLoop, evOper, wantedA, nth, aop, aPick, aBin, aIndexAddr, aFieldAddr, aLoad, aStore, aExtract, aConvert, aAlloc, aBox, aIndex, callA, builtinA, Fr.evs, opt, val, when, AM.run, outV, newA, ptr, force_eq, seen_heap, seen_next, seen_mark, seen_seen, agg_cells, int_cells, Fr.ev, Fr.put, onFr, gps, gpn, bltT, still, flat, List.append_nil, List.nil_append, List.cons_append, Nat.reduceEqDiff, ne_eq, not_false_eq_true, reduceCtorEq, Bool.and_true, Bool.true_and, Bool.and_false, Bool.false_and, Bool.not_true, Bool.not_false, Bool.and_self, k4, k2, tyC, n40, szC, show Nat.beq (D.cells (adG D.files.length) (capG D.files.length)).length 9 = true from rfl, st]; rfl
  repeat apply go_seq
  apply go_ret
  refine ⟨by show N6 ≤ q.hi; omega, ?_⟩
  have R1 : Cl ⟨H6.put 1 (some (.cells (wrCells c1 0 (D.cells (adG D.files.length) (capG D.files.length))) 9 27 .whole)), N6, 0, 0, 0⟩ 1 0 (D.cells (adG D.files.length) (capG D.files.length)) :=
    ⟨by show 1 < N6; omega, _, _, .inl ⟨_, _, hg_same b1 _ _⟩, by show 0 + 9 ≤ 9; omega, row_wr (by show 0 + 9 ≤ _; unfold Tr.wide; omega)⟩
  have lo := fun k : Value → AM Value => (R1.of (s1 := ⟨H6.put 1 (some (.cells (wrCells c1 0 (D.cells (adG D.files.length) (capG D.files.length))) 9 27 .whole)), N6, mk6, 0, 0⟩) rfl rfl).ldA tiC (by rw [dsC]; rfl) (by rw [szC]; rfl) k
  apply ret_intro rfl rfl
  case run => simp (disch := decide) only [resultsM, resultsA, resGC, opsLoop, evOper, wantedA, nth, aop, aPick, aBin, aIndexAddr, aFieldAddr, aLoad, aStore, aExtract, aConvert, aAlloc, aBox, aIndex, callA, builtinA, Fr.evs, opt, val, when, AM.run, outV, newA, ptr, force_eq, seen_heap, seen_next, seen_mark, seen_seen, agg_cells, int_cells, Fr.ev, Fr.put, onFr, gps, gpn, bltT, still, flat, List.append_nil, List.nil_append, List.cons_append, Nat.reduceEqDiff, ne_eq, not_false_eq_true, reduceCtorEq, Bool.and_true, Bool.true_and, Bool.and_false, Bool.false_and, Bool.not_true, Bool.not_false, Bool.and_self, k2, tyC, lo]; rfl
  refine ⟨rfl, fun hpos => ?_⟩
  obtain ⟨cF, pF, _, wF⟩ := obj_of (hcF hpos)
  refine ⟨cF, ?_, wF⟩
  show (H6.put 1 _).get _ = _
  rw [hg_far b1 (by omega)]
  exact pF
end Go.Proofs.YtgofanjbhbeniaaDoor.lf
end
end

section
/- Catalogs in leaves: catalog.Get, told for the leaf of a catalog that may be. -/
noncomputable section
namespace Go.Proofs.YtgofanjbhbeniaaDoor.lf
open AE
set_option linter.unusedSimpArgs false
set_option linter.unusedVariables false
set_option maxRecDepth 10000

open Classical in
/-- the catalog whose leaf it is -/
def decD (cells : List Value) : Option CatD := if h : ∃ D : CatD, D.right = true ∧ cells = putV_ D then some (Classical.choose h) else none
theorem decD_put {D : CatD} (h : D.right = true) : decD (putV_ D) = some D := by
  have hx : ∃ D' : CatD, D'.right = true ∧ putV_ D = putV_ D' := ⟨D, h, rfl⟩
  unfold decD
  rw [dif_pos hx]
  have := Classical.choose_spec hx
  rw [put_inj this.1 h this.2.symm]
theorem decD_inv {cells : List Value} {D : CatD} (h : decD cells = some D) : D.right = true ∧ cells = putV_ D := by
  unfold decD at h
  split at h
  · rename_i hx
    cases h
    exact Classical.choose_spec hx
  · cases h
def getC0 : List Value → AM Value
  | [.agg ⟨cells⟩] => opt (decD cells) fun D => match D.files.length with
    | 0 => .pure (.tuple ⟨[.agg ⟨D.cells none 0⟩, .bool true]⟩)
    | _ + 1 => .fail
  | _ => .fail
def getC1 : List Value → AM Value
  | [.agg ⟨cells⟩] => opt (decD cells) fun D => match D.files.length with
    | 0 => .fail
    | m + 1 => .new (.cells (Tr.ofList (fcs D.files)) (4 * (m + 1)) 41 .loose) fun r => .pure (.tuple ⟨[.agg ⟨D.cells (some ⟨r, 0, none⟩) (OPEN + (m + 1))⟩, .bool true]⟩)
  | _ => .fail
def getCA : List Value → AM Value
  | [.agg ⟨cells⟩] => opt (decD cells) fun D => match D.files.length with
    | 0 => .pure (.tuple ⟨[.agg ⟨D.cells none 0⟩, .bool true]⟩)
    | m + 1 => .new (.cells (Tr.ofList (fcs D.files)) (4 * (m + 1)) 41 .loose) fun r => .pure (.tuple ⟨[.agg ⟨D.cells (some ⟨r, 0, none⟩) (OPEN + (m + 1))⟩, .bool true]⟩)
  | _ => .fail
theorem plain_nil : Plain (.slice none 0 0) := ⟨fun ρ => .flat rfl, fun ρ v' h => h.sliceN_inv.1⟩
theorem ownQ_hi (w : World) (K : Nat) : (ownQ w K).hi = K := rfl
/-- a leaf that is handed in is the same anywhere -/
theorem leaf_same {ρ : Ren} {D : CatD} {args' : List Value} (h : LR ρ [.agg ⟨putV_ D⟩] args') : args' = [.agg ⟨putV_ D⟩] ∧ ∀ ρ2 : Ren, LR ρ2 [.agg ⟨putV_ D⟩] args' := by
  obtain ⟨p1, p2⟩ := plain_agg (ints_put D).plain
  cases h with
  | cons a b => cases b with
    | nil =>
      obtain rfl := p2 _ _ a
      exact ⟨rfl, fun ρ2 => .cons (p1 ρ2) .nil⟩
theorem told_get0 : AE.Told Tryd.prog 9 getC0 := by
  refine told_own hE (fi := fiGC) (c := cdGC) (by kernel_rfl) (by kernel_rfl) ?_
  intro args s v s' h hm
  unfold getC0 at h
  split at h
  · rename_i cells
    obtain ⟨D, hd, h2⟩ := run_opt h
    obtain ⟨hD, rfl⟩ := decD_inv hd
    split at h2
    · rename_i hm0
      cases h2
      have hc : D.cells none 0 = [.int .i64 D.gen, .int .i64 D.step, .int .i64 D.status, .bool D.ended, .int .i64 D.from_, .int .i64 D.to_, .int .i64 D.budget, .int .i64 D.fan, .slice none 0 0] := by
        unfold CatD.cells; rw [hm0]
      refine ⟨plain_tuple ?_, Less'.refl _, ?_⟩
      · intro u hu
        simp only [List.mem_cons, List.not_mem_nil, or_false] at hu
        rcases hu with rfl | rfl
        · rw [hc]
          refine plain_agg ?_
          intro u hu
          simp only [List.mem_cons, List.not_mem_nil, or_false] at hu
          rcases hu with rfl | rfl | rfl | rfl | rfl | rfl | rfl | rfl | rfl
          all_goals first | exact plain_int _ _ | exact plain_bool _ | exact plain_nil
        · exact plain_bool _
      intro q ρ w args' hRep hargs
      obtain ⟨rfl, hany⟩ := leaf_same hargs
      refine ⟨[.agg ⟨putV_ D⟩], inS [], renOf [], 9000, 114, rfl, rfl, inputs_of [] (Nat.zero_le _) (fun x hx => by cases hx), hany _, Nat.zero_le _, ?_⟩
      have := getC_gow (ownQ w 9000) (Nat.le_refl _) D hD (inS []) rfl
      refine this.mono ?_
      intro x fr s1 hq
      have key : ∀ x : Ex, Ret E 9 fiGC (GotC D) x fr s1 → Ret E 9 fiGC (fun v1 _ => v1 = .tuple ⟨[.agg ⟨D.cells none 0⟩, .bool true]⟩) x fr s1 := by
        intro x hx
        cases x with
        | exit id => exact hx
        | normal =>
          obtain ⟨a, b, v, s2, c, d⟩ := hx
          refine ⟨a, b, v, s2, c, ?_⟩
          rw [d.1, hm0]; rfl
        | ret =>
          obtain ⟨a, b, v, s2, c, d⟩ := hx
          refine ⟨a, b, v, s2, c, ?_⟩
          rw [d.1, hm0]; rfl
      exact key x hq
    · cases h2
  · cases h
theorem slice_move {ρa ρb : Ren} {a b n c : Nat} {v' : Value} (he : ρa a = ρb b) (h : VR ρa (.slice (some ⟨a, 0, none⟩) n (OPEN + c)) v') : VR ρb (.slice (some ⟨b, 0, none⟩) n (OPEN + c)) v' := by
  generalize hcap : OPEN + c = cap at h
  cases h with
  | flat h => cases h
  | sliceW ha hc => omega
  | sliceL hr =>
    rename_i bb base ex c'
    obtain rfl : c = c' := by omega
    exact .sliceL (n := b) (off := 0) (by rw [← he]; exact hr)
theorem told_get1 : AE.Told Tryd.prog 9 getC1 := by
  refine told_own1 hE (fi := fiGC) (c := cdGC) (by kernel_rfl) (by kernel_rfl) ?_
  intro args s v s' h hm
  unfold getC1 at h
  split at h
  · rename_i cells
    obtain ⟨D, hd, h2⟩ := run_opt h
    obtain ⟨hD, rfl⟩ := decD_inv hd
    split at h2
    · cases h2
    · rename_i m hmm
      have hble : Nat.ble s.next lastName = true := by
        simp only [AM.run, force_eq] at h2
        cases hh : Nat.ble s.next lastName with
        | true => rfl
        | false => rw [hh] at h2; cases h2
      obtain ⟨hw, h3⟩ := run_new h2
      cases h3
      have hlen := right_len hD
      refine ⟨0, Tr.ofList (fcs D.files), 4 * (m + 1), 41, .loose, fun r => .tuple ⟨[.agg ⟨D.cells (some ⟨r, 0, none⟩) (OPEN + (m + 1))⟩, .bool true]⟩, rfl, Nat.lt_succ_self _, hble, ?_, ?_, ?_, ?_⟩
      · intro i u hu hi
        rw [get_ofList _ _ (by rw [fcs_len]; unfold Tr.wide; omega)] at hu
        exact (ints_fcs D.files).plain u (List.mem_of_getElem? hu)
      · intro ρa ρb a b v' he hv
        obtain ⟨l', rfl, hl⟩ := hv.tuple_inv
        cases hl with
        | cons x y => cases y with
          | cons y1 y2 => cases y2 with
            | nil =>
              obtain ⟨l2, rfl, hl2⟩ := x.agg_inv
              obtain ⟨sv', rfl, hs⟩ := cat_inv hl2
              obtain rfl := y1.bool_inv
              exact .tuple (.cons (cat_mk (slice_move he hs)) (.cons (.flat rfl) .nil))
      · intro k
        show (s.grow _).heap.get k = _
        rw [grow_get hw]
        by_cases hk : k = s.next
        · rw [if_pos hk, if_pos (by omega)]
        · rw [if_neg hk, if_neg (by omega), if_neg (by show ¬ (s.next ≤ k ∧ k < s.next + 1); omega)]
      · intro q ρ w args' hRep hargs
        obtain ⟨rfl, hany⟩ := leaf_same hargs
        refine ⟨[.agg ⟨putV_ D⟩], inS [], renOf [], 9000, 114, rfl, rfl, inputs_of [] (Nat.zero_le _) (fun x hx => by cases hx), hany _, Nat.zero_le _, ?_⟩
        have := getC_gow (ownQ w 9000) (Nat.le_refl _) D hD (inS []) rfl
        refine this.mono ?_
        intro x fr s1 hq
        have hval : ∀ v s2, GotC D v s2 → ∃ r c2, v = .tuple ⟨[.agg ⟨D.cells (some ⟨r, 0, none⟩) (OPEN + (m + 1))⟩, .bool true]⟩ ∧ s2.heap.get r = some (.cells c2 (4 * (m + 1)) 41 .loose) ∧ ∀ i u, (Tr.ofList (fcs D.files)).get i = some u → i < 4 * (m + 1) → c2.get i = some u := by
          intro v s2 hg
          obtain ⟨h1, h2⟩ := hg
          obtain ⟨c2, g1, g2⟩ := h2 (by omega)
          rw [hmm] at h1 g1
          refine ⟨40 + 3 * (m + 1), c2, h1, g1, fun i u hu hi => ?_⟩
          rw [get_ofList _ _ (by rw [fcs_len]; unfold Tr.wide; omega)] at hu
          have := g2 i u hu
          rwa [Nat.zero_add] at this
        cases x with
        | exit id => exact hq
        | normal =>
          obtain ⟨a, b, v, s2, c, d⟩ := hq
          exact ⟨a, b, v, s2, c, hval v s2 d⟩
        | ret =>
          obtain ⟨a, b, v, s2, c, d⟩ := hq
          exact ⟨a, b, v, s2, c, hval v s2 d⟩
  · cases h
theorem told_getC : AE.Told Tryd.prog 9 getCA := by
  refine AE.told_two told_get0 told_get1 ?_
  intro args s v s' h
  unfold getCA at h
  split at h
  · rename_i cells
    obtain ⟨D, hd, h2⟩ := run_opt h
    cases hm : D.files.length with
    | zero =>
      left
      refine ⟨s', ?_, Less'.refl _⟩
      show (opt (decD cells) fun D => match D.files.length with
        | 0 => AM.pure (Value.tuple ⟨[.agg ⟨D.cells none 0⟩, .bool true]⟩)
        | _ + 1 => AM.fail).run s = _
      rw [hd]
      rw [hm] at h2
      show (match D.files.length with
        | 0 => AM.pure (Value.tuple ⟨[.agg ⟨D.cells none 0⟩, .bool true]⟩)
        | _ + 1 => AM.fail).run s = _
      rw [hm]
      exact h2
    | succ m =>
      right
      refine ⟨s', ?_, Less'.refl _⟩
      show (opt (decD cells) fun D => match D.files.length with
        | 0 => AM.fail
        | m + 1 => AM.new (.cells (Tr.ofList (fcs D.files)) (4 * (m + 1)) 41 .loose) fun r => .pure (Value.tuple ⟨[.agg ⟨D.cells (some ⟨r, 0, none⟩) (OPEN + (m + 1))⟩, .bool true]⟩)).run s = _
      rw [hd]
      rw [hm] at h2
      show (match D.files.length with
        | 0 => AM.fail
        | m + 1 => AM.new (.cells (Tr.ofList (fcs D.files)) (4 * (m + 1)) 41 .loose) fun r => .pure (Value.tuple ⟨[.agg ⟨D.cells (some ⟨r, 0, none⟩) (OPEN + (m + 1))⟩, .bool true]⟩)).run s = _
      rw [hm]
      exact h2
  · cases h
end Go.Proofs.YtgofanjbhbeniaaDoor.lf
end
end

section
/- Catalogs: lists of files compared by the laws' own loop. -/
noncomputable section
namespace Go.Proofs.YtgofanjbhbeniaaDoor.lf
open AE
set_option linter.unusedSimpArgs false
set_option linter.unusedVariables false
set_option maxRecDepth 10000

instance : DecidableEq FileD := fun a b => if h : a.name = b.name ∧ a.file = b.file ∧ a.first = b.first ∧ a.blocks = b.blocks then isTrue (by cases a; cases b; simp_all) else isFalse (fun e => h (by subst e; exact ⟨rfl, rfl, rfl, rfl⟩))
theorem file_eq_iff (a b : FileD) : (a = b) ↔ (a.name = b.name ∧ a.file = b.file ∧ a.first = b.first ∧ a.blocks = b.blocks) :=
  ⟨fun h => by subst h; exact ⟨rfl, rfl, rfl, rfl⟩, fun h => by cases a; cases b; simp_all⟩
theorem eqF (f g : FileD) : eqV E 1000 41 (.agg ⟨f.cells⟩) (.agg ⟨g.cells⟩) = some (decide (f = g)) := by
  obtain ⟨a, b, c, d⟩ := f
  obtain ⟨a', b', c', d'⟩ := g
  have hf : eqFs E 999 fsF.toList [.int .i64 a, .int .i64 b, .int .i64 c, .int .i64 d] [.int .i64 a', .int .i64 b', .int .i64 c', .int .i64 d'] = some (decide ((⟨a, b, c, d⟩ : FileD) = ⟨a', b', c', d'⟩)) := by
    rw [lsF]
    show eqFs E (998 + 1) _ _ _ = _
    simp only [eqFs, nmF0, nmF1, nmF2, nmF3, ftF0, ftF1, ftF2, ftF3, foF0, foF1, foF2, foF3, tyI, partK _ _ _ _ 0 _ rfl, partK _ _ _ _ 1 _ rfl, partK _ _ _ _ 2 _ rfl, partK _ _ _ _ 3 _ rfl, eqInt_any]
    by_cases h0 : a = a'
    · by_cases h1 : b = b'
      · by_cases h2 : c = c'
        · by_cases h3 : d = d'
          · simp [h0, h1, h2, h3]
          · simp [h0, h1, h2, h3]
        · simp [h0, h1, h2]
      · simp [h0, h1]
    · simp [h0]
  show eqV E (999 + 1) _ _ _ = _
  simp only [eqV, tyF, dsF, gdF]
  exact hf
theorem neqF (f g : FileD) : binA E .neq 41 (.agg ⟨f.cells⟩) (.agg ⟨g.cells⟩) = some (.bool (!decide (f = g))) := by
  show someB (eqV E 1000 41 (.agg ⟨f.cells⟩) (.agg ⟨g.cells⟩)) false = _
  rw [eqF]
  rfl
theorem Vx.rd {s s' : S} {a : Option Addr} {L : List Value} (h : Vx s a L) (hr : Rd s s') : Vx s' a L := h.keep (by rw [hr.next]; exact Nat.le_refl _) (fun m _ => by rw [hr.heap])
def sameFA : List Value → AM Value
  | [.slice a n c, .slice a2 n2 c2] => when (Nat.ble n 1000000) (match Nat.beq n n2 with
    | false => .pure (.bool false)
    | true => rdV a (4 * n) fun cs => rdV a2 (4 * n) fun cs2 => opt (filesOf cs) fun l => opt (filesOf cs2) fun l2 => .pure (.bool (decide (l = l2))))
  | _ => .fail
noncomputable def fiSF : FI := FI.of Tryd.f19
noncomputable def cdSF : Code := bodyOf Tryd.f19
noncomputable def cdSFl : Code := sub [1,1,0,1,0,0] cdSF
theorem resSF : fiSF.results = [.tmp 4] := rfl
theorem b_neqI {E t} (x y : Int) : binA E .neq t (.int .i64 x) (.int .i64 y) = some (.bool (not (eqI x y))) := rfl

def InvSF (a a2 : Option Addr) (c c2 : Nat) (l l2 : List FileD) (s0 : S) (k : Nat) (fr : Fr) (s : S) : Prop :=
  ∃ (i : Nat) (t : Tr Value), k = l.length - i ∧ i ≤ l.length ∧ fr = ⟨19, t, 26, [], none⟩ ∧ Rd s0 s ∧ t.get 0 = some (.slice a l.length c) ∧ t.get 1 = some (.slice a2 l.length c2) ∧ t.get 5 = some (.int .i64 (.ofNat i)) ∧
    (∀ j, j < i → l[j]? = l2[j]?)
def PostSF (l l2 : List FileD) (s0 : S) (x : Ex) (fr : Fr) (s : S) : Prop :=
  ∃ t : Tr Value, fr = ⟨19, t, 26, [], none⟩ ∧ Rd s0 s ∧ ((x = .exit 0 ∧ l = l2) ∨ (x = .ret ∧ l ≠ l2 ∧ t.get 4 = some (.bool false)))
theorem sameF_round (a a2 : Option Addr) (c c2 : Nat) (l l2 : List FileD) (s0 : S) (hl : l.length ≤ 1000000) (hl2 : l2.length = l.length) (hb : Vx s0 a (fcs l)) (hb2 : Vx s0 a2 (fcs l2)) (k : Nat) (fr : Fr) (s : S) (h : InvSF a a2 c c2 l l2 s0 k fr s) :
    GoC E (sumsOf []) cdSFl fr s (Again (InvSF a a2 c c2 l l2 s0) k (PostSF l l2 s0)) := by
  obtain ⟨i, t, rfl, hi, rfl, hr, h0, h1, h5, hz⟩ := h
  simp only [cdSFl, cdSF, Tryd.f19, bodyOf, sub]
  by_cases hlt : i < l.length
  · obtain ⟨x, hx⟩ : ∃ x, l[i]? = some x := ⟨_, List.getElem?_eq_getElem hlt⟩
    obtain ⟨y, hy⟩ : ∃ y, l2[i]? = some y := ⟨_, List.getElem?_eq_getElem (by omega)⟩
    cases a with
    | none =>
      have h9 : fcs l = [] := hb
      have := fcs_len l
      rw [h9] at this
      have h4 : (0 : Nat) = 4 * l.length := this
      omega
    | some ad =>
      cases a2 with
      | none =>
        have h9 : fcs l2 = [] := hb2
        have := fcs_len l2
        rw [h9] at this
        have h4 : (0 : Nat) = 4 * l2.length := this
        omega
      | some ad2 =>
        have hlt' : ltI (Int.ofNat i) (Int.ofNat l.length) = true := by rw [ltI_eq]; simp; omega
        have hbl : Nat.blt i l.length = true := blt_iff.2 hlt
        obtain ⟨ab, ao, asp⟩ := ad
        obtain ⟨ab2, ao2, asp2⟩ := ad2
        obtain ⟨hsp, hcl⟩ := hb
        obtain ⟨hsp2, hcl2⟩ := hb2
        simp only at hsp hcl hsp2 hcl2
        subst hsp
        subst hsp2
        obtain ⟨H, N, mk, rd, wr⟩ := s
        have B1 := (hcl.rd hr).sub (i * 4) 4 (by rw [fcs_len]; omega)
        have B2 := (hcl2.rd hr).sub (i * 4) 4 (by rw [fcs_len]; omega)
        rw [fcs_at l i x hx] at B1
        rw [fcs_at l2 i y hy] at B2
        have lx := (B1.of (s1 := ⟨H, N, N, 0, 0⟩) rfl rfl).ldA (β := ANext) tiF (by rw [dsF]; rfl) (by rw [szF]; rfl)
        have ly := (B2.of (s1 := ⟨H, N, N, 0, 0⟩) rfl rfl).ldA (β := ANext) tiF (by rw [dsF]; rfl) (by rw [szF]; rfl)
        have aa : addA ⟨ab, ao, none⟩ (Nat.mul i 4) = ⟨ab, ao + i * 4, none⟩ := addAn ab ao _
        have aa2 : addA ⟨ab2, ao2, none⟩ (Nat.mul i 4) = ⟨ab2, ao2 + i * 4, none⟩ := addAn ab2 ao2 _
        have nq := neqF x y
        have hinc := b_incr (n := i) (by omega)
        repeat apply go_seq
        apply go_region
        case h => intro m; simp (maxSteps := 2000000) (disch := decide) only [opsLoop, evOper, wantedA, nth, aop, aPick, aBin, aIndexAddr, aFieldAddr, aLoad, aStore, aExtract, aConvert, aAlloc, aBox, aIndex, callA, builtinA, Fr.evs, opt, val, when, AM.run, outV, newA, ptr, force_eq, seen_heap, seen_next, seen_mark, seen_seen, agg_cells, int_cells, Fr.ev, Fr.put, onFr, gps, gpn, bltT, still, flat, List.append_nil, List.nil_append, List.cons_append, Nat.reduceEqDiff, ne_eq, not_false_eq_true, reduceCtorEq, Bool.and_true, Bool.true_and, Bool.and_false, Bool.false_and, Bool.not_true, Bool.not_false, Bool.and_self, h0, h5, tyFs, dsFs, b_lss, hlt']; rfl
        repeat apply go_seq
        apply go_cond
        case hc => simp (disch := decide) only [opsLoop, evOper, wantedA, nth, aop, aPick, aBin, aIndexAddr, aFieldAddr, aLoad, aStore, aExtract, aConvert, aAlloc, aBox, aIndex, callA, builtinA, Fr.evs, opt, val, when, AM.run, outV, newA, ptr, force_eq, seen_heap, seen_next, seen_mark, seen_seen, agg_cells, int_cells, Fr.ev, Fr.put, onFr, gps, gpn, bltT, still, flat, List.append_nil, List.nil_append, List.cons_append, Nat.reduceEqDiff, ne_eq, not_false_eq_true, reduceCtorEq, Bool.and_true, Bool.true_and, Bool.and_false, Bool.false_and, Bool.not_true, Bool.not_false, Bool.and_self]; rfl
        case h2 => intro h; cases h
        intro _
        apply go_skip
        apply go_seq
        apply go_block
        by_cases e : x = y
        · rw [decide_eq_true e, Bool.not_true] at nq
          repeat apply go_seq
          apply go_drawn
          case hs => rfl
          case h => intro m; simp (maxSteps := 2000000) (disch := decide) only [opsLoop, evOper, wantedA, nth, aop, aPick, aBin, aIndexAddr, aFieldAddr, aLoad, aStore, aExtract, aConvert, aAlloc, aBox, aIndex, callA, Fr.evs, opt, val, when, AM.run, outV, newA, ptr, force_eq, seen_heap, seen_next, seen_mark, seen_seen, agg_cells, int_cells, Fr.ev, Fr.put, onFr, gps, gpn, bltT, still, flat, List.append_nil, List.nil_append, List.cons_append, Nat.reduceEqDiff, ne_eq, not_false_eq_true, reduceCtorEq, Bool.and_true, Bool.true_and, Bool.and_false, Bool.false_and, Bool.not_true, Bool.not_false, Bool.and_self, drawnLoop, keep_none, clash_nil, clash_reads, created_self, lor_zero, lor_zero', h0, h1, h5, tyFs, dsFs, tyF, dsF, szF, hbl, aa, aa2, lx, ly, nq, clash_bef]; rfl
          repeat apply go_seq
          apply go_cond
          case hc => simp (disch := decide) only [opsLoop, evOper, wantedA, nth, aop, aPick, aBin, aIndexAddr, aFieldAddr, aLoad, aStore, aExtract, aConvert, aAlloc, aBox, aIndex, callA, builtinA, Fr.evs, opt, val, when, AM.run, outV, newA, ptr, force_eq, seen_heap, seen_next, seen_mark, seen_seen, agg_cells, int_cells, Fr.ev, Fr.put, onFr, gps, gpn, bltT, still, flat, List.append_nil, List.nil_append, List.cons_append, Nat.reduceEqDiff, ne_eq, not_false_eq_true, reduceCtorEq, Bool.and_true, Bool.true_and, Bool.and_false, Bool.false_and, Bool.not_true, Bool.not_false, Bool.and_self]; rfl
          case h1 => intro h; cases h
          intro _
          apply go_skip
          repeat apply go_seq
          apply go_region
          case h => intro m; simp (maxSteps := 2000000) (disch := decide) only [opsLoop, evOper, wantedA, nth, aop, aPick, aBin, aIndexAddr, aFieldAddr, aLoad, aStore, aExtract, aConvert, aAlloc, aBox, aIndex, callA, builtinA, Fr.evs, opt, val, when, AM.run, outV, newA, ptr, force_eq, seen_heap, seen_next, seen_mark, seen_seen, agg_cells, int_cells, Fr.ev, Fr.put, onFr, gps, gpn, bltT, still, flat, List.append_nil, List.nil_append, List.cons_append, Nat.reduceEqDiff, ne_eq, not_false_eq_true, reduceCtorEq, Bool.and_true, Bool.true_and, Bool.and_false, Bool.false_and, Bool.not_true, Bool.not_false, Bool.and_self, h5, int1, hinc]; rfl
          refine ⟨l.length - (i + 1), by omega, i + 1, _, rfl, by omega, rfl, ⟨hr.heap, hr.next, hr.mark⟩, ?_, ?_, ?_, ?_⟩
          · simp (disch := decide) only [gps, gpn, h0]
          · simp (disch := decide) only [gps, gpn, h1]
          · simp (disch := decide) only [gps, gpn]
          · intro j hj
            by_cases e2 : j = i
            · subst e2; rw [hx, hy, e]
            · exact hz j (by omega)
        · rw [decide_eq_false e, Bool.not_false] at nq
          repeat apply go_seq
          apply go_drawn
          case hs => rfl
          case h => intro m; simp (maxSteps := 2000000) (disch := decide) only [opsLoop, evOper, wantedA, nth, aop, aPick, aBin, aIndexAddr, aFieldAddr, aLoad, aStore, aExtract, aConvert, aAlloc, aBox, aIndex, callA, Fr.evs, opt, val, when, AM.run, outV, newA, ptr, force_eq, seen_heap, seen_next, seen_mark, seen_seen, agg_cells, int_cells, Fr.ev, Fr.put, onFr, gps, gpn, bltT, still, flat, List.append_nil, List.nil_append, List.cons_append, Nat.reduceEqDiff, ne_eq, not_false_eq_true, reduceCtorEq, Bool.and_true, Bool.true_and, Bool.and_false, Bool.false_and, Bool.not_true, Bool.not_false, Bool.and_self, drawnLoop, keep_none, clash_nil, clash_reads, created_self, lor_zero, lor_zero', h0, h1, h5, tyFs, dsFs, tyF, dsF, szF, hbl, aa, aa2, lx, ly, nq, clash_bef]; rfl
          repeat apply go_seq
          apply go_cond
          case hc => simp (disch := decide) only [opsLoop, evOper, wantedA, nth, aop, aPick, aBin, aIndexAddr, aFieldAddr, aLoad, aStore, aExtract, aConvert, aAlloc, aBox, aIndex, callA, builtinA, Fr.evs, opt, val, when, AM.run, outV, newA, ptr, force_eq, seen_heap, seen_next, seen_mark, seen_seen, agg_cells, int_cells, Fr.ev, Fr.put, onFr, gps, gpn, bltT, still, flat, List.append_nil, List.nil_append, List.cons_append, Nat.reduceEqDiff, ne_eq, not_false_eq_true, reduceCtorEq, Bool.and_true, Bool.true_and, Bool.and_false, Bool.false_and, Bool.not_true, Bool.not_false, Bool.and_self]; rfl
          case h2 => intro h; cases h
          intro _
          repeat apply go_seq
          apply go_region
          case h => intro m; simp (maxSteps := 2000000) (disch := decide) only [opsLoop, evOper, wantedA, nth, aop, aPick, aBin, aIndexAddr, aFieldAddr, aLoad, aStore, aExtract, aConvert, aAlloc, aBox, aIndex, callA, builtinA, Fr.evs, opt, val, when, AM.run, outV, newA, ptr, force_eq, seen_heap, seen_next, seen_mark, seen_seen, agg_cells, int_cells, Fr.ev, Fr.put, onFr, gps, gpn, bltT, still, flat, List.append_nil, List.nil_append, List.cons_append, Nat.reduceEqDiff, ne_eq, not_false_eq_true, reduceCtorEq, Bool.and_true, Bool.true_and, Bool.and_false, Bool.false_and, Bool.not_true, Bool.not_false, Bool.and_self]; rfl
          apply go_ret
          refine ⟨_, rfl, ⟨hr.heap, hr.next, hr.mark⟩, .inr ⟨rfl, fun e2 => ?_, ?_⟩⟩
          · subst e2; rw [hx] at hy; exact e (Option.some.inj hy)
          · simp (disch := decide) only [gps, gpn]
  · obtain rfl : i = l.length := by omega
    have hlt' : ltI (Int.ofNat l.length) (Int.ofNat l.length) = false := by rw [ltI_eq]; simp
    repeat apply go_seq
    apply go_region
    case h => intro m; simp (maxSteps := 2000000) (disch := decide) only [opsLoop, evOper, wantedA, nth, aop, aPick, aBin, aIndexAddr, aFieldAddr, aLoad, aStore, aExtract, aConvert, aAlloc, aBox, aIndex, callA, builtinA, Fr.evs, opt, val, when, AM.run, outV, newA, ptr, force_eq, seen_heap, seen_next, seen_mark, seen_seen, agg_cells, int_cells, Fr.ev, Fr.put, onFr, gps, gpn, bltT, still, flat, List.append_nil, List.nil_append, List.cons_append, Nat.reduceEqDiff, ne_eq, not_false_eq_true, reduceCtorEq, Bool.and_true, Bool.true_and, Bool.and_false, Bool.false_and, Bool.not_true, Bool.not_false, Bool.and_self, h0, h5, tyFs, dsFs, b_lss, hlt']; rfl
    repeat apply go_seq
    apply go_cond
    case hc => simp (disch := decide) only [opsLoop, evOper, wantedA, nth, aop, aPick, aBin, aIndexAddr, aFieldAddr, aLoad, aStore, aExtract, aConvert, aAlloc, aBox, aIndex, callA, builtinA, Fr.evs, opt, val, when, AM.run, outV, newA, ptr, force_eq, seen_heap, seen_next, seen_mark, seen_seen, agg_cells, int_cells, Fr.ev, Fr.put, onFr, gps, gpn, bltT, still, flat, List.append_nil, List.nil_append, List.cons_append, Nat.reduceEqDiff, ne_eq, not_false_eq_true, reduceCtorEq, Bool.and_true, Bool.true_and, Bool.and_false, Bool.false_and, Bool.not_true, Bool.not_false, Bool.and_self]; rfl
    case h1 => intro h; cases h
    intro _
    apply go_exit
    refine ⟨_, rfl, hr, .inl ⟨rfl, List.ext_getElem? fun j => ?_⟩⟩
    by_cases hj : j < l.length
    · exact hz j hj
    · rw [List.getElem?_eq_none (by omega), List.getElem?_eq_none (by omega)]

theorem told_sameF : AE.Told Tryd.prog 19 sameFA := by
  refine told_go hE hmix tolds_nil ?_
  intro args s v s' h hm
  unfold sameFA at h
  split at h
  · rename_i a n c a2 n2 c2
    obtain ⟨hc, h2⟩ := run_when h
    have hn := ble_iff.1 hc
    refine go_enter (fi := fiSF) (c := cdSF) (by kernel_rfl) (by kernel_rfl) 26 rfl rfl ?_
    have hcode : cdSF = .seq (sub [0] cdSF) (.seq (sub [1,0] cdSF) (.seq (.seq (sub [1,1,0,0] cdSF) (.block 0 (.loop cdSFl))) (sub [1,1,1] cdSF))) := rfl
    rw [hcode]
    have h0 : (Tr.ofList [Value.slice a n c, .slice a2 n2 c2]).get 0 = some (.slice a n c) := rfl
    have h1 : (Tr.ofList [Value.slice a n c, .slice a2 n2 c2]).get 1 = some (.slice a2 n2 c2) := rfl
    generalize Tr.ofList [Value.slice a n c, .slice a2 n2 c2] = t at *
    simp only [cdSF, Tryd.f19, bodyOf, sub]
    cases hbq : Nat.beq n n2 with
    | false =>
      rw [hbq] at h2
      cases h2
      have hne : eqI (Int.ofNat n) (Int.ofNat n2) = false := eqI_f (fun e => by subst e; rw [beq_iff.2 rfl] at hbq; cases hbq)
      repeat apply go_seq
      apply go_region
      case h => intro m; simp (maxSteps := 2000000) (disch := decide) only [opsLoop, evOper, wantedA, nth, aop, aPick, aBin, aIndexAddr, aFieldAddr, aLoad, aStore, aExtract, aConvert, aAlloc, aBox, aIndex, callA, builtinA, Fr.evs, opt, val, when, AM.run, outV, newA, ptr, force_eq, seen_heap, seen_next, seen_mark, seen_seen, agg_cells, int_cells, Fr.ev, Fr.put, onFr, gps, gpn, bltT, still, flat, List.append_nil, List.nil_append, List.cons_append, Nat.reduceEqDiff, ne_eq, not_false_eq_true, reduceCtorEq, Bool.and_true, Bool.true_and, Bool.and_false, Bool.false_and, Bool.not_true, Bool.not_false, Bool.and_self]; rfl
      repeat apply go_seq
      apply go_region
      case h => intro m; simp (maxSteps := 2000000) (disch := decide) only [opsLoop, evOper, wantedA, nth, aop, aPick, aBin, aIndexAddr, aFieldAddr, aLoad, aStore, aExtract, aConvert, aAlloc, aBox, aIndex, callA, builtinA, Fr.evs, opt, val, when, AM.run, outV, newA, ptr, force_eq, seen_heap, seen_next, seen_mark, seen_seen, agg_cells, int_cells, Fr.ev, Fr.put, onFr, gps, gpn, bltT, still, flat, List.append_nil, List.nil_append, List.cons_append, Nat.reduceEqDiff, ne_eq, not_false_eq_true, reduceCtorEq, Bool.and_true, Bool.true_and, Bool.and_false, Bool.false_and, Bool.not_true, Bool.not_false, Bool.and_self, h0, h1, tyFs, dsFs, b_neqI, hne]; rfl
      repeat apply go_seq
      apply go_cond
      case hc => simp (disch := decide) only [opsLoop, evOper, wantedA, nth, aop, aPick, aBin, aIndexAddr, aFieldAddr, aLoad, aStore, aExtract, aConvert, aAlloc, aBox, aIndex, callA, builtinA, Fr.evs, opt, val, when, AM.run, outV, newA, ptr, force_eq, seen_heap, seen_next, seen_mark, seen_seen, agg_cells, int_cells, Fr.ev, Fr.put, onFr, gps, gpn, bltT, still, flat, List.append_nil, List.nil_append, List.cons_append, Nat.reduceEqDiff, ne_eq, not_false_eq_true, reduceCtorEq, Bool.and_true, Bool.true_and, Bool.and_false, Bool.false_and, Bool.not_true, Bool.not_false, Bool.and_self]; rfl
      case h2 => intro h; cases h
      intro _
      repeat apply go_seq
      apply go_region
      case h => intro m; simp (maxSteps := 2000000) (disch := decide) only [opsLoop, evOper, wantedA, nth, aop, aPick, aBin, aIndexAddr, aFieldAddr, aLoad, aStore, aExtract, aConvert, aAlloc, aBox, aIndex, callA, builtinA, Fr.evs, opt, val, when, AM.run, outV, newA, ptr, force_eq, seen_heap, seen_next, seen_mark, seen_seen, agg_cells, int_cells, Fr.ev, Fr.put, onFr, gps, gpn, bltT, still, flat, List.append_nil, List.nil_append, List.cons_append, Nat.reduceEqDiff, ne_eq, not_false_eq_true, reduceCtorEq, Bool.and_true, Bool.true_and, Bool.and_false, Bool.false_and, Bool.not_true, Bool.not_false, Bool.and_self]; rfl
      repeat apply go_seq
      apply go_ret
      apply ret_intro rfl rfl
      case run => simp (disch := decide) only [resultsM, resultsA, resSF, opsLoop, evOper, wantedA, nth, aop, aPick, aBin, aIndexAddr, aFieldAddr, aLoad, aStore, aExtract, aConvert, aAlloc, aBox, aIndex, callA, builtinA, Fr.evs, opt, val, when, AM.run, outV, newA, ptr, force_eq, seen_heap, seen_next, seen_mark, seen_seen, agg_cells, int_cells, Fr.ev, Fr.put, onFr, gps, gpn, bltT, still, flat, List.append_nil, List.nil_append, List.cons_append, Nat.reduceEqDiff, ne_eq, not_false_eq_true, reduceCtorEq, Bool.and_true, Bool.true_and, Bool.and_false, Bool.false_and, Bool.not_true, Bool.not_false, Bool.and_self]; rfl
      exact ⟨rfl, Less'.refl _⟩
    | true =>
      rw [hbq] at h2
      obtain rfl := beq_iff.1 hbq
      obtain ⟨L, s1, hL, hb, hr1, h3⟩ := vx_of_rd h2
      obtain ⟨L2, s2, hL2, hb2, hr2, h4⟩ := vx_of_rd h3
      obtain ⟨l, hfs, h5⟩ := run_opt h4
      obtain ⟨l2, hfs2, h6⟩ := run_opt h5
      cases h6
      obtain rfl := filesOf_inv L l hfs
      obtain rfl := filesOf_inv L2 l2 hfs2
      rw [fcs_len] at hL hL2
      have hl : l.length = n := by omega
      have hl2 : l2.length = n := by omega
      clear h4 h5 hfs hfs2
      have heq : eqI (Int.ofNat n) (Int.ofNat n) = true := eqI_t n
      repeat apply go_seq
      apply go_region
      case h => intro m; simp (maxSteps := 2000000) (disch := decide) only [opsLoop, evOper, wantedA, nth, aop, aPick, aBin, aIndexAddr, aFieldAddr, aLoad, aStore, aExtract, aConvert, aAlloc, aBox, aIndex, callA, builtinA, Fr.evs, opt, val, when, AM.run, outV, newA, ptr, force_eq, seen_heap, seen_next, seen_mark, seen_seen, agg_cells, int_cells, Fr.ev, Fr.put, onFr, gps, gpn, bltT, still, flat, List.append_nil, List.nil_append, List.cons_append, Nat.reduceEqDiff, ne_eq, not_false_eq_true, reduceCtorEq, Bool.and_true, Bool.true_and, Bool.and_false, Bool.false_and, Bool.not_true, Bool.not_false, Bool.and_self]; rfl
      repeat apply go_seq
      apply go_region
      case h => intro m; simp (maxSteps := 2000000) (disch := decide) only [opsLoop, evOper, wantedA, nth, aop, aPick, aBin, aIndexAddr, aFieldAddr, aLoad, aStore, aExtract, aConvert, aAlloc, aBox, aIndex, callA, builtinA, Fr.evs, opt, val, when, AM.run, outV, newA, ptr, force_eq, seen_heap, seen_next, seen_mark, seen_seen, agg_cells, int_cells, Fr.ev, Fr.put, onFr, gps, gpn, bltT, still, flat, List.append_nil, List.nil_append, List.cons_append, Nat.reduceEqDiff, ne_eq, not_false_eq_true, reduceCtorEq, Bool.and_true, Bool.true_and, Bool.and_false, Bool.false_and, Bool.not_true, Bool.not_false, Bool.and_self, h0, h1, tyFs, dsFs, b_neqI, heq]; rfl
      repeat apply go_seq
      apply go_cond
      case hc => simp (disch := decide) only [opsLoop, evOper, wantedA, nth, aop, aPick, aBin, aIndexAddr, aFieldAddr, aLoad, aStore, aExtract, aConvert, aAlloc, aBox, aIndex, callA, builtinA, Fr.evs, opt, val, when, AM.run, outV, newA, ptr, force_eq, seen_heap, seen_next, seen_mark, seen_seen, agg_cells, int_cells, Fr.ev, Fr.put, onFr, gps, gpn, bltT, still, flat, List.append_nil, List.nil_append, List.cons_append, Nat.reduceEqDiff, ne_eq, not_false_eq_true, reduceCtorEq, Bool.and_true, Bool.true_and, Bool.and_false, Bool.false_and, Bool.not_true, Bool.not_false, Bool.and_self]; rfl
      case h1 => intro h; cases h
      intro _
      apply go_skip
      repeat apply go_seq
      apply go_region
      case h => intro m; simp (maxSteps := 2000000) (disch := decide) only [opsLoop, evOper, wantedA, nth, aop, aPick, aBin, aIndexAddr, aFieldAddr, aLoad, aStore, aExtract, aConvert, aAlloc, aBox, aIndex, callA, builtinA, Fr.evs, opt, val, when, AM.run, outV, newA, ptr, force_eq, seen_heap, seen_next, seen_mark, seen_seen, agg_cells, int_cells, Fr.ev, Fr.put, onFr, gps, gpn, bltT, still, flat, List.append_nil, List.nil_append, List.cons_append, Nat.reduceEqDiff, ne_eq, not_false_eq_true, reduceCtorEq, Bool.and_true, Bool.true_and, Bool.and_false, Bool.false_and, Bool.not_true, Bool.not_false, Bool.and_self]; rfl
      apply go_block
      subst hl
      refine (go_loop_inv (InvSF a a2 c c2 l l2 s) (fun k fr s1 hI => sameF_round a a2 c c2 l l2 s hn hl2 hb (hb2.rd ⟨hr1.heap.symm, hr1.next.symm, hr1.mark.symm⟩) k fr s1 hI) (l.length - 0) _ _ ⟨0, _, rfl, by omega, rfl, Rd.refl s, ?_, ?_, ?_, fun j hj => by omega⟩).mono ?_
      · simp (disch := decide) only [gps, gpn, h0]
      · simp (disch := decide) only [gps, gpn, h1]
      · simp (disch := decide) only [gps, gpn, int0]
      rintro x fr s3 ⟨t1, rfl, hr3, hx⟩
      have hless : Less' s3 s' := hr3.less (hr1.trans hr2)
      rcases hx with ⟨rfl, rfl⟩ | ⟨rfl, hne, g4⟩
      · simp only [Out_, if_true]
        show GoC E _ _ _ _ _
        repeat apply go_seq
        apply go_region
        case h => intro m; simp (maxSteps := 2000000) (disch := decide) only [opsLoop, evOper, wantedA, nth, aop, aPick, aBin, aIndexAddr, aFieldAddr, aLoad, aStore, aExtract, aConvert, aAlloc, aBox, aIndex, callA, builtinA, Fr.evs, opt, val, when, AM.run, outV, newA, ptr, force_eq, seen_heap, seen_next, seen_mark, seen_seen, agg_cells, int_cells, Fr.ev, Fr.put, onFr, gps, gpn, bltT, still, flat, List.append_nil, List.nil_append, List.cons_append, Nat.reduceEqDiff, ne_eq, not_false_eq_true, reduceCtorEq, Bool.and_true, Bool.true_and, Bool.and_false, Bool.false_and, Bool.not_true, Bool.not_false, Bool.and_self]; rfl
        repeat apply go_seq
        apply go_ret
        apply ret_intro rfl rfl
        case run => simp (disch := decide) only [resultsM, resultsA, resSF, opsLoop, evOper, wantedA, nth, aop, aPick, aBin, aIndexAddr, aFieldAddr, aLoad, aStore, aExtract, aConvert, aAlloc, aBox, aIndex, callA, builtinA, Fr.evs, opt, val, when, AM.run, outV, newA, ptr, force_eq, seen_heap, seen_next, seen_mark, seen_seen, agg_cells, int_cells, Fr.ev, Fr.put, onFr, gps, gpn, bltT, still, flat, List.append_nil, List.nil_append, List.cons_append, Nat.reduceEqDiff, ne_eq, not_false_eq_true, reduceCtorEq, Bool.and_true, Bool.true_and, Bool.and_false, Bool.false_and, Bool.not_true, Bool.not_false, Bool.and_self]; rfl
        exact ⟨by simp, hless⟩
      · simp only [Out_]
        apply ret_intro rfl rfl
        case run => simp (disch := decide) only [resultsM, resultsA, resSF, opsLoop, evOper, wantedA, nth, aop, aPick, aBin, aIndexAddr, aFieldAddr, aLoad, aStore, aExtract, aConvert, aAlloc, aBox, aIndex, callA, builtinA, Fr.evs, opt, val, when, AM.run, outV, newA, ptr, force_eq, seen_heap, seen_next, seen_mark, seen_seen, agg_cells, int_cells, Fr.ev, Fr.put, onFr, gps, gpn, bltT, still, flat, List.append_nil, List.nil_append, List.cons_append, Nat.reduceEqDiff, ne_eq, not_false_eq_true, reduceCtorEq, Bool.and_true, Bool.true_and, Bool.and_false, Bool.false_and, Bool.not_true, Bool.not_false, Bool.and_self, g4]; rfl
        exact ⟨by simp [hne], hless⟩
  · cases h
end Go.Proofs.YtgofanjbhbeniaaDoor.lf
end
end
