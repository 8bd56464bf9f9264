/- Leaves: bytes closed with their sum: told. -/
import Derived.Test.YtioieffmihdheaaDoorLf5
noncomputable section
namespace Go.Proofs.YtioieffmihdheaaDoor.lf
open AE
set_option linter.unusedSimpArgs false
set_option linter.unusedVariables false
set_option maxRecDepth 10000

theorem b_shrN (c k : Nat) (hk : k ≤ 32) : ∀ E t, binA E .shr t (.int .u32 (.ofNat c)) (.int .u64 (.ofNat k)) = some (.int .u32 (.ofNat (c >>> k))) := by
  intro E t
  show some (Value.int .u32 (Int.fdiv (.ofNat c) (pow2 (minN k 32)))) = _
  have h : minN k 32 = k := by rw [minN_eq]; omega
  rw [h]
  have h2 : Int.fdiv (.ofNat c) (pow2 k) = Int.ofNat (c >>> k) := by
    rw [Nat.shiftRight_eq_div_pow]
    unfold pow2
    show Int.fdiv ((c : Nat) : Int) ((2 ^ k : Nat) : Int) = ((c / 2 ^ k : Nat) : Int)
    rw [Int.fdiv_eq_ediv_of_nonneg _ (Int.natCast_nonneg _)]
    rfl
  rw [h2]
theorem cv8 (c : Nat) : Value.int .u8 (wrapA .u8 (.ofNat c)) = bv (UInt8.ofNat c) := by
  unfold bv
  rw [UInt8.toNat_ofNat']
  rfl
theorem bv_cells (x : UInt8) : (bv x).cells.toList = [bv x] := rfl
theorem fill4 (a b c d : UInt8) : fillA (placeA 1) [(0, bv a), (1, bv b), (2, bv c), (3, bv d)] (repeatL [Value.int .u8 (Int.ofNat 0)] 4) = some [bv a, bv b, bv c, bv d] := rfl
theorem fill2 (a b : UInt8) : fillA (placeA 1) [(0, bv a), (1, bv b)] (repeatL [Value.int .u8 (Int.ofNat 0)] 2) = some [bv a, bv b] := rfl
theorem repeat_len (v : Value) : ∀ n, (repeatL [v] n).length = n
  | 0 => rfl
  | n + 1 => by simp only [repeatL, List.cons_append, List.nil_append, List.length_cons, repeat_len v n]

def sum4 (c : Nat) : List UInt8 := [UInt8.ofNat c, UInt8.ofNat (c >>> 8), UInt8.ofNat (c >>> 16), UInt8.ofNat (c >>> 24)]
def closeL (l : List UInt8) : List UInt8 := l ++ sum4 (crc32 l)
theorem closeL_len (l : List UInt8) : (closeL l).length = l.length + 4 := by simp [closeL, sum4]
/-- bytes, new in memory -/
def newB (l : List UInt8) (k : Nat → AM Value) : AM Value := .new (.cells (Tr.ofList (l.map bv)) l.length 5 .whole) k
def closeA : List Value → AM Value
  | [.slice (some ad) n cap] => when (Nat.ble 1 n && Nat.ble n 1000) (loadA ad n fun cs => opt (bytesV cs) fun l => newB (closeL l) fun r => bump 1 (.pure (.slice (some ⟨r, 0, none⟩) (n + 4) (n + 4))))
  | _ => .fail
abbrev sigC : List (Nat × (List Value → AM Value)) := [(25, crcA)]
theorem tolds_C : Tolds Tryd.prog (sumsOf sigC) := tolds_cons told_sum tolds_nil
theorem sgS : sumsOf sigC 25 = some crcA := rfl
noncomputable def fiS : FI := FI.of Tryd.f25
noncomputable def cdS : Code := bodyOf Tryd.f25
theorem tgS : ∀ a b, targetA E (.func 25) a b = .pure (.enter 25 (b ++ a)) := tgt (fi := fiS) (c := cdS) (by kernel_rfl) (by kernel_rfl)
noncomputable def fiC : FI := FI.of Tryd.f17
noncomputable def cdC : Code := bodyOf Tryd.f17
theorem resC : fiC.results = [.tmp 2] := rfl

/-- what a new object leaves -/
theorem new_run {β : Type} {o : AObj} {k : Nat → AM β} {s : S} {r : β × S} (h : (AM.new o k).run s = some r) : Nat.ble s.next lastName = true ∧ (k s.next).run (s.grow o) = some r := by
  refine ⟨?_, (run_new h).2⟩
  simp only [AM.run, force_eq] at h
  cases hh : Nat.ble s.next lastName with
  | true => rfl
  | false => rw [hh] at h; cases h

theorem Bs.keep {s s1 : S} {ad : Addr} {l : List UInt8} (h : Bs s ad l) (hn : s.next ≤ s1.next) (hg : s1.heap.get ad.block = s.heap.get ad.block) : Bs s1 ad l :=
  ⟨h.spot, by have := h.lt; omega, by rw [hg]; exact h.cell⟩
theorem sub_row {c : Tr Value} {L : List Value} (h : Row c 0 L) (hl : L.length ≤ Tr.wide) : ∀ i v, (Tr.ofList L).get i = some v → c.get i = some v := by
  intro i v hi
  rw [get_ofList L i hl] at hi
  have := h i v hi
  rwa [Nat.zero_add] at this
theorem bs_new {s : S} {n : Nat} {l : List UInt8} {e : TypeId} {rm : Room} (hlt : n < s.next) (hg : s.heap.get n = some (.cells (Tr.ofList (l.map bv)) l.length e rm)) (hl : l.length ≤ 1000000) : Bs s ⟨n, 0, none⟩ l :=
  ⟨rfl, hlt, _, _, _, _, hg, by show 0 + l.length ≤ l.length; omega, row_ofList _ (by rw [List.length_map]; unfold Tr.wide; omega)⟩

set_option maxHeartbeats 400000 in
theorem told_close : AE.Told Tryd.prog 17 closeA := by
  refine told_go hE hmix tolds_C ?_
  intro args s v s' h hm
  unfold closeA at h
  split at h
  · rename_i ad n cap
    obtain ⟨hc, h2⟩ := run_when h
    simp only [Bool.and_eq_true] at hc
    have hn1 := ble_iff.1 hc.1
    have hn2 := ble_iff.1 hc.2
    obtain ⟨l, rfl, hb, h3⟩ := bs_of_load h2
    obtain ⟨hN0, h4⟩ := new_run h3
    obtain ⟨s9, h5, hn9, hm9, hh9, hbl⟩ := bump_run 1 _ _ _ h4
    have hN1 : Nat.ble (s.next + 1) lastName = true := hbl 0 (by omega)
    cases h5
    clear h h2 h3 h4
    have hN0 : Nat.ble s.next lastName = true := hN0
    have hn9 : s'.next = s.next + 2 := hn9
    have hh9 : ∀ m, s'.heap.get m = if s.next + 1 ≤ m ∧ m < s.next + 2 then none else (s.heap.put s.next (some (.cells (Tr.ofList ((closeL l).map bv)) (closeL l).length 5 .whole))).get m := hh9
    refine go_enter (fi := fiC) (c := cdC) (by kernel_rfl) (by kernel_rfl) 27 rfl rfl ?_
    have h0 : (Tr.ofList [Value.slice (some ad) l.length cap]).get 0 = some (.slice (some ad) l.length cap) := rfl
    generalize Tr.ofList [Value.slice (some ad) l.length cap] = t at *
    simp only [cdC, Tryd.f17, bodyOf]
    have hcrc := crcA_run hb (by omega) (by omega) cap
    have hadd : ∀ E t, binA E .add t (.int .i64 (.ofNat l.length)) (.int .i64 (.ofNat 4)) = some (.int .i64 (.ofNat (l.length + 4))) := by
      intro E t
      show some (Value.int .i64 (wrapA .i64 (.ofNat (l.length + 4)))) = _
      rw [wrap64 (by omega)]
    have k1 : Nat.ble 0 (l.length + 4) = true := rfl
    have k2 : Nat.ble (l.length + 4) maxNeed = true := ble_iff.2 (by unfold maxNeed; omega)
    have k3 : Nat.ble (repeatL [Value.int .u8 (Int.ofNat 0)] (l.length + 4)).length lastName = true := by rw [repeat_len]; exact ble_iff.2 (by unfold lastName; omega)
    have int4 : (4 : Int) = Int.ofNat 4 := rfl
    repeat apply go_seq
    apply go_region
    case h => intro m; simp (disch := decide) only [opsLoop, evOper, wantedA, nth, aop, aPick, aBin, aIndexAddr, aFieldAddr, aLoad, aStore, aExtract, aConvert, aAlloc, aBox, aIndex, callA, builtinA, Fr.evs, opt, val, when, AM.run, outV, newA, ptr, force_eq, seen_heap, seen_next, seen_mark, seen_seen, agg_cells, int_cells, Fr.ev, Fr.put, onFr, gps, gpn, bltT, still, flat, List.append_nil, List.nil_append, List.cons_append, Nat.reduceEqDiff, ne_eq, not_false_eq_true, reduceCtorEq, Bool.and_true, Bool.true_and, Bool.and_false, Bool.false_and, Bool.not_true, Bool.not_false, Bool.and_self]; rfl
    repeat apply go_seq
    apply go_region
    case h => intro m; simp (disch := decide) only [opsLoop, evOper, wantedA, nth, aop, aPick, aBin, aIndexAddr, aFieldAddr, aLoad, aStore, aExtract, aConvert, aAlloc, aBox, aIndex, callA, builtinA, Fr.evs, opt, val, when, AM.run, outV, newA, ptr, force_eq, seen_heap, seen_next, seen_mark, seen_seen, agg_cells, int_cells, Fr.ev, Fr.put, onFr, gps, gpn, bltT, still, flat, List.append_nil, List.nil_append, List.cons_append, Nat.reduceEqDiff, ne_eq, not_false_eq_true, reduceCtorEq, Bool.and_true, Bool.true_and, Bool.and_false, Bool.false_and, Bool.not_true, Bool.not_false, Bool.and_self, h0, tgS, evT_told sgS, hcrc]; rfl
    repeat apply go_seq
    apply go_region
    case h => intro m; simp (disch := decide) only [opsLoop, evOper, wantedA, nth, aop, aPick, aBin, aIndexAddr, aFieldAddr, aLoad, aStore, aExtract, aConvert, aAlloc, aBox, aIndex, callA, Fr.evs, opt, val, when, AM.run, outV, newA, ptr, force_eq, seen_heap, seen_next, seen_mark, seen_seen, agg_cells, int_cells, Fr.ev, Fr.put, onFr, gps, gpn, bltT, still, flat, List.append_nil, List.nil_append, List.cons_append, Nat.reduceEqDiff, ne_eq, not_false_eq_true, reduceCtorEq, Bool.and_true, Bool.true_and, Bool.and_false, Bool.false_and, Bool.not_true, Bool.not_false, Bool.and_self, h0, len_b, int0, int4, hadd, aMakeSlice, tyB, dsB, tyU8, zeU8, szU8, byU8, k1, k2, k3, hN0, show Nat.ble 1 1024 = true from rfl, show Nat.ble 1 1 = true from rfl, show Nat.beq ([Value.int .u8 (Int.ofNat 0)] : List Value).length 1 = true from rfl]; rfl
    generalize hs1 : S.mk _ _ _ _ _ = s1
    have e1 : s1.next = s.next + 1 := by rw [← hs1]
    have e1h : s1.heap = s.heap.put s.next (some (.cells (Tr.ofList (repeatL [Value.int .u8 (Int.ofNat 0)] (l.length + 4))) (repeatL [Value.int .u8 (Int.ofNat 0)] (l.length + 4)).length 5 .whole)) := by rw [← hs1]
    rw [repeat_len] at e1h
    clear hs1
    have hbl := hb.lt
    have hne : ad.block ≠ s.next := by omega
    have B1 : Bs s1 ad l := hb.keep (by omega) (by rw [e1h, hg_far hN0 hne])
    have c1 : s1.heap.get s.next = some (.cells (Tr.ofList (repeatL [Value.int .u8 (Int.ofNat 0)] (l.length + 4))) (l.length + 4) 5 .whole) := by rw [e1h]; exact hg_same hN0 _ _
    obtain ⟨s2, a2, e2h, e2, e2m⟩ := append_b (len := 0) (cap := l.length + 4) (c2 := cap) B1 rfl (by omega) (by omega) c1 hN0 (by omega) (by omega) (by omega) (by omega)
    rw [Nat.zero_add] at a2
    repeat apply go_seq
    apply go_ops
    apply go_take 3
    case h => intro m; simp (disch := decide) only [List.take, opsLoop, evOper, wantedA, nth, aop, aPick, aBin, aIndexAddr, aFieldAddr, aLoad, aStore, aExtract, aConvert, aAlloc, aBox, aIndex, callA, Fr.evs, opt, val, when, AM.run, outV, newA, ptr, force_eq, seen_heap, seen_next, seen_mark, seen_seen, agg_cells, int_cells, Fr.ev, Fr.put, onFr, gps, gpn, bltT, still, flat, List.append_nil, List.nil_append, List.cons_append, Nat.reduceEqDiff, ne_eq, not_false_eq_true, reduceCtorEq, Bool.and_true, Bool.true_and, Bool.and_false, Bool.false_and, Bool.not_true, Bool.not_false, Bool.and_self, h0, a2]; rfl
    simp only [List.drop]
    have g8 := b_shrN (crc32 l) 8 (by omega)
    have g16 := b_shrN (crc32 l) 16 (by omega)
    have g24 := b_shrN (crc32 l) 24 (by omega)
    have f4 := fill4 (UInt8.ofNat (crc32 l)) (UInt8.ofNat (crc32 l >>> 8)) (UInt8.ofNat (crc32 l >>> 16)) (UInt8.ofNat (crc32 l >>> 24))
    have hN1' : Nat.ble s2.next lastName = true := by rw [e2, e1]; exact hN1
    have i8 : (8 : Int) = Int.ofNat 8 := rfl
    have i16 : (16 : Int) = Int.ofNat 16 := rfl
    have i24 : (24 : Int) = Int.ofNat 24 := rfl
    apply go_take 12
    case h => intro m; simp (disch := decide) only [List.take, opsLoop, evOper, wantedA, nth, aop, aPick, aBin, aIndexAddr, aFieldAddr, aLoad, aStore, aExtract, aConvert, aAlloc, aBox, aIndex, callA, Fr.evs, opt, val, when, AM.run, outV, newA, ptr, force_eq, seen_heap, seen_next, seen_mark, seen_seen, agg_cells, int_cells, Fr.ev, Fr.put, onFr, gps, gpn, bltT, still, flat, List.append_nil, List.nil_append, List.cons_append, Nat.reduceEqDiff, ne_eq, not_false_eq_true, reduceCtorEq, Bool.and_true, Bool.true_and, Bool.and_false, Bool.false_and, Bool.not_true, Bool.not_false, Bool.and_self, tyU8, tyU32, dsU8, dsU32, i8, i16, i24, g8, g16, g24, cv8, aBuildSlice, evParts, tyB, dsB, zeU8, szU8, byU8, int0, f4, hN1', show Nat.ble (Nat.mul 4 1) 1048576 = true from rfl, show Nat.beq ([Value.int .u8 (Int.ofNat 0)] : List Value).length 1 = true from rfl, show Nat.ble 1 1 = true from rfl, show ∀ a b c d : Value, Nat.ble ([a, b, c, d] : List Value).length lastName = true from fun _ _ _ _ => rfl]; rfl
    simp only [List.drop]
    generalize hs3 : S.mk _ _ _ _ _ = s3
    have e3 : s3.next = s.next + 2 := by rw [← hs3]; show s2.next + 1 = _; omega
    have e3h : s3.heap = s2.heap.put s2.next (some (.cells (Tr.ofList [bv (UInt8.ofNat (crc32 l)), bv (UInt8.ofNat (crc32 l >>> 8)), bv (UInt8.ofNat (crc32 l >>> 16)), bv (UInt8.ofNat (crc32 l >>> 24))]) (List.length [bv (UInt8.ofNat (crc32 l)), bv (UInt8.ofNat (crc32 l >>> 8)), bv (UInt8.ofNat (crc32 l >>> 16)), bv (UInt8.ofNat (crc32 l >>> 24))]) 5 .whole)) := by rw [← hs3]
    have hL4 : [bv (UInt8.ofNat (crc32 l)), bv (UInt8.ofNat (crc32 l >>> 8)), bv (UInt8.ofNat (crc32 l >>> 16)), bv (UInt8.ofNat (crc32 l >>> 24))] = (sum4 (crc32 l)).map bv := rfl
    rw [hL4, List.length_map] at e3h
    clear hs3
    have h21 : s2.next = s.next + 1 := by omega
    rw [h21] at e3h
    have c2 : s2.heap.get s.next = some (.cells (wrCells (Tr.ofList (repeatL [Value.int .u8 (Int.ofNat 0)] (l.length + 4))) 0 (l.map bv)) (l.length + 4) 5 .whole) := by rw [e2h]; exact hg_same hN0 _ _
    have c3 : s3.heap.get s.next = some (.cells (wrCells (Tr.ofList (repeatL [Value.int .u8 (Int.ofNat 0)] (l.length + 4))) 0 (l.map bv)) (l.length + 4) 5 .whole) := by
      rw [e3h, hg_far hN1 (by omega)]; exact c2
    have B3 : Bs s3 ⟨s.next + 1, 0, none⟩ (sum4 (crc32 l)) := bs_new (by omega) (by rw [e3h]; exact hg_same hN1 _ _) (by simp [sum4])
    obtain ⟨s4, a4, e4h, e4, e4m⟩ := append_b (len := l.length) (cap := l.length + 4) (c2 := 4) (n := 4) B3 rfl (by omega) (by omega) c3 hN0 (by omega) (by omega) (by omega) (by omega)
    rw [← h21] at a4
    apply go_take 2
    case h => intro m; simp (disch := decide) only [List.take, opsLoop, evOper, wantedA, nth, aop, aPick, aBin, aIndexAddr, aFieldAddr, aLoad, aStore, aExtract, aConvert, aAlloc, aBox, aIndex, callA, Fr.evs, opt, val, when, AM.run, outV, newA, ptr, force_eq, seen_heap, seen_next, seen_mark, seen_seen, agg_cells, int_cells, Fr.ev, Fr.put, onFr, gps, gpn, bltT, still, flat, List.append_nil, List.nil_append, List.cons_append, Nat.reduceEqDiff, ne_eq, not_false_eq_true, reduceCtorEq, Bool.and_true, Bool.true_and, Bool.and_false, Bool.false_and, Bool.not_true, Bool.not_false, Bool.and_self, a4]; rfl
    simp only [List.drop]
    apply go_done
    repeat apply go_seq
    apply go_ret
    apply ret_intro rfl rfl
    case run => simp (disch := decide) only [resultsM, resultsA, resC, opsLoop, evOper, wantedA, nth, aop, aPick, aBin, aIndexAddr, aFieldAddr, aLoad, aStore, aExtract, aConvert, aAlloc, aBox, aIndex, callA, builtinA, Fr.evs, opt, val, when, AM.run, outV, newA, ptr, force_eq, seen_heap, seen_next, seen_mark, seen_seen, agg_cells, int_cells, Fr.ev, Fr.put, onFr, gps, gpn, bltT, still, flat, List.append_nil, List.nil_append, List.cons_append, Nat.reduceEqDiff, ne_eq, not_false_eq_true, reduceCtorEq, Bool.and_true, Bool.true_and, Bool.and_false, Bool.false_and, Bool.not_true, Bool.not_false, Bool.and_self]; rfl
    refine ⟨rfl, by rw [e4, e3, hn9]; exact Nat.le_refl _, ?_⟩
    intro m o ho
    rw [hh9] at ho
    by_cases h1 : s.next + 1 ≤ m ∧ m < s.next + 2
    · rw [if_pos h1] at ho; cases ho
    · rw [if_neg h1] at ho
      by_cases h2 : m = s.next
      · subst h2
        rw [hg_same hN0] at ho
        cases ho
        have hw : Row (wrCells (wrCells (Tr.ofList (repeatL [Value.int .u8 (Int.ofNat 0)] (l.length + 4))) 0 (l.map bv)) l.length ((sum4 (crc32 l)).map bv)) 0 ((closeL l).map bv) := by
          have hwide : l.length + 4 ≤ Tr.wide := by unfold Tr.wide; omega
          unfold closeL
          rw [List.map_append]
          refine row_app (row_wr_far ?_ (row_wr ?_) (.inl ?_)) ?_
          · rw [List.length_map]; exact hwide
          · rw [List.length_map]; omega
          · rw [List.length_map]; omega
          · rw [List.length_map, Nat.zero_add]
            exact row_wr (by rw [List.length_map]; exact hwide)
        refine ⟨_, by rw [e4h]; exact hg_same hN0 _ _, ?_⟩
        rw [closeL_len]
        exact .cells fun i v hi _ => sub_row hw (by rw [List.length_map, closeL_len]; unfold Tr.wide; omega) i v hi
      · rw [hg_far hN0 h2] at ho
        refine ⟨o, ?_, .refl o⟩
        rw [e4h, hg_far hN0 h2, e3h, hg_far hN1 (by omega), e2h, hg_far hN0 h2, e1h, hg_far hN0 h2]
        exact ho
  · cases h
end Go.Proofs.YtioieffmihdheaaDoor.lf
