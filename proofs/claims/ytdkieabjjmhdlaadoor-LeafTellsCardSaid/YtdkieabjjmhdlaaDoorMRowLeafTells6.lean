/- Any leaf, any bytes, its own with one turned among them: leaf says what the document says, and what is handed in stays: at all leaves, bytes, places and turns. -/
import Derived.Test.YtdkieabjjmhdlaaDoorMRowLeafTells5
import Derived.ChangeArms
import Derived.ChangeReads
import Derived.ChangeShapes
import Derived.RowKit
import Derived.Deep.Slices
import Derived.Deep.Fields
import Derived.ChangeSame
import Derived.ChangeSlices
import Derived.OpenShut
import Derived.ProofKit
import Derived.Test.YtdkieabjjmhdlaaDoorRows
import Derived.Test.YtdkieabjjmhdlaaDoorCards
import Derived.Test.YtdkieabjjmhdlaaDoorTie
import Derived.WalkKit
import Derived.ShutString
import Derived.ChangeOld
import Derived.Below
import Derived.LaidMore
import Derived.Lay
import Derived.SevenTiedAt
import Derived.Stop.Joined
section
/- Leaves: any leaf, any bytes: the law's beginning. -/
noncomputable section
namespace Go.Proofs.YtdkieabjjmhdlaaDoor.lf
open AE
set_option linter.unusedSimpArgs false
set_option linter.unusedVariables false
set_option maxRecDepth 10000

theorem app_eq (a b : Option Addr) (n c n2 c2 : Nat) : builtinA E .append #[25, 25] [.slice a n c, .slice b n2 c2] = appendA 1 1 1 5 a n c n2 (.slice b n2 c2) := by
  simp only [builtinA, tyB, dsB, opt, tyU8, zeU8, szU8, byU8, lenA, int_cells]
  rfl
theorem first_b {s : S} {ad : Addr} {l : List UInt8} {c2 : Nat} (hb : Bs s ad l) (h0 : 0 < l.length) (k : List Value → AM ANext) : (firstA 1 l.length (.slice (some ad) l.length c2) k).run s = (k (l.map bv)).run (s.seen ad.block) := by
  obtain ⟨x, l', rfl⟩ : ∃ x l', l = x :: l' := by
    cases l with
    | nil => simp at h0
    | cons x l' => exact ⟨x, l', rfl⟩
  have e : firstA 1 (x :: l').length (.slice (some ad) (x :: l').length c2) k = loadA ad (x :: l').length k := by
    show loadA ad (Nat.mul (x :: l').length 1) k = _
    rw [mul1]
  rw [e, loadA_run hb]
theorem append_new {s : S} {e n c2 : Nat} {ad : Addr} {l : List UInt8} (hb : Bs s ad l) (hn : l.length = n) (h0 : 0 < n) (hmax : n ≤ 1000000) (he : Bs s ⟨e, 0, none⟩ []) (hN : Nat.ble s.next lastName = true) :
    ∃ s1, (builtinA E .append #[25, 25] [.slice (some ⟨e, 0, none⟩) 0 0, .slice (some ad) n c2]).run s = some (.value (.slice (some ⟨s.next, 0, none⟩) n (Nat.add OPEN n)), s1) ∧
      s1.heap = s.heap.put s.next (some (.cells (Tr.ofList (l.map bv)) l.length 5 .loose)) ∧ s1.next = s.next + 1 ∧ s1.mark = s.mark := by
  subst hn
  rw [app_eq]
  unfold appendA
  have h3 : Nat.ble (Nat.add 0 l.length) maxNeed = true := ble_iff.2 (by show 0 + _ ≤ maxNeed; unfold maxNeed; omega)
  have h4 : Nat.ble (Nat.add 0 l.length) 0 = false := ble_f (by show 0 < 0 + l.length; omega)
  simp only [h3, when, show Nat.ble 1 1 = true from rfl, show Nat.ble 1 1024 = true from rfl, Bool.and_self]
  rw [first_b hb h0]
  simp only [show Nat.ble OPEN 0 = false from rfl, h4]
  have e1 : ∀ k : List Value → AM ANext, (loadA ⟨e, 0, none⟩ (Nat.mul 0 1) k).run (s.seen ad.block) = (k []).run ((s.seen ad.block).seen e) := fun k => loadA_run (s := s.seen ad.block) (l := []) (he.of rfl rfl) k
  rw [e1]
  unfold growA
  simp only [when, show Nat.beq 1 1 = true from rfl, List.nil_append]
  rw [newA_go (s := (s.seen ad.block).seen e) (by rw [List.length_map]; omega) hN]
  refine ⟨((s.seen ad.block).seen e).grow (.cells (Tr.ofList (l.map bv)) (l.map bv).length 5 .loose), by rw [show Nat.add 0 l.length = l.length from Nat.zero_add _]; rfl, ?_, rfl, rfl⟩
  rw [List.length_map]
  rfl
def CutOK (a : Option Addr) (n cap : Nat) : Prop := (a = none ∧ n = 0 ∧ cap = 0) ∨ (∃ b, a = some ⟨b, 0, none⟩ ∧ ((Nat.ble OPEN cap = false ∧ n ≤ cap) ∨ ∃ c, Nat.ble OPEN cap = true ∧ Nat.sub cap OPEN = c ∧ Nat.add OPEN c = cap ∧ 0 < c ∧ n ≤ c))
theorem sub0 (k : Nat) : Nat.sub k 0 = k := rfl
theorem slc_nil (s : S) : (sliceA 1 none 0 0 0 none).run s = some (.value (.slice none 0 0), s) := by
  simp only [sliceA, show Nat.ble OPEN 0 = false from rfl, sliceE, when, show Nat.ble 0 0 = true from rfl, Bool.and_self, val, AM.run]
theorem slc_all {b cap m : Nat} (hb : Nat.ble OPEN cap = false) (h2 : Nat.ble m cap = true) (h0 : Nat.ble 0 m = true) (s : S) : (sliceA 1 (some ⟨b, 0, none⟩) cap 0 m none).run s = some (.value (.slice (some ⟨b, 0, none⟩) m cap), s) := by
  have had : addIf ⟨b, 0, none⟩ cap 0 1 = ⟨b, 0, none⟩ := by
    unfold addIf
    split <;> rfl
  simp only [sliceA, hb, sliceE, when, h2, h0, Bool.and_self, val, AM.run, had, sub0]
theorem slc_open {b cap m c : Nat} (hb : Nat.ble OPEN cap = true) (hs : Nat.sub cap OPEN = c) (hadd : Nat.add OPEN c = cap) (hq : Nat.beq c 0 = false) (h2 : Nat.ble m c = true) (h0 : Nat.ble 0 m = true) (s : S) : (sliceA 1 (some ⟨b, 0, none⟩) cap 0 m none).run s = some (.value (.slice (some ⟨b, 0, none⟩) m cap), s) := by
  have had : addA ⟨b, 0, none⟩ (Nat.mul 0 1) = ⟨b, 0, none⟩ := rfl
  have e1 : sliceA 1 (some ⟨b, 0, none⟩) cap 0 m none = sliceO 1 ⟨b, 0, none⟩ c 0 m := by
    unfold sliceA
    simp only [hb, hs]
  rw [e1]
  unfold sliceO
  simp only [when, h2, h0, Bool.and_self, hq, val, AM.run, sub0, hadd, had]
theorem slc_run {a : Option Addr} {n cap m : Nat} (h : CutOK a n cap) (hm : m ≤ n) : ∀ s, (sliceA 1 a cap 0 m none).run s = some (.value (.slice a m cap), s) := by
  intro s
  have h0 : Nat.ble 0 m = true := ble_iff.2 (Nat.zero_le _)
  rcases h with ⟨rfl, rfl, rfl⟩ | ⟨b, rfl, h⟩
  · obtain rfl : m = 0 := by omega
    exact slc_nil s
  · rcases h with ⟨hb, h2⟩ | ⟨c, hb, hs, hadd, h1, h2⟩
    · exact slc_all hb (ble_iff.2 (by omega)) h0 s
    · exact slc_open hb hs hadd (by
        cases hh : Nat.beq c 0 with
        | false => rfl
        | true => have := beq_iff.1 hh; omega) (ble_iff.2 (by omega)) h0 s
theorem min_run (n : Nat) : minMax false [.int .i64 (.ofNat n), .int .i64 140] = some (.int .i64 (.ofNat (min n 140))) := by
  show minMax.go false .i64 (.ofNat n) [.int .i64 140] = _
  show some (Value.int .i64 (match ltI 140 (Int.ofNat n) with | true => 140 | false => Int.ofNat n)) = _
  have e : ltI 140 (Int.ofNat n) = decide (140 < n) := by
    rw [ltI_eq]
    have : (140 : Int) < Int.ofNat n ↔ 140 < n := by show (140 : Int) < (n : Int) ↔ _; omega
    simp only [this]
  rw [e]
  by_cases h : 140 < n
  · rw [decide_eq_true h, Nat.min_eq_right (by omega)]; rfl
  · rw [decide_eq_false h, Nat.min_eq_left (by omega)]
theorem b_xor8 (x : UInt8) (m : Nat) (hm : m < 256) : ∀ E t, binA E .xor t (.int .u8 (.ofNat x.toNat)) (.int .u8 (.ofNat m)) = some (bv (x ^^^ UInt8.ofNat m)) := by
  intro E t
  have hx := x.toNat_lt
  show some (Value.int .u8 (wrapA .u8 (.ofNat (Nat.xor (x.toNat % 256) (m % 256))))) = _
  rw [Nat.mod_eq_of_lt hx, Nat.mod_eq_of_lt hm, cv8]
  have : UInt8.ofNat (Nat.xor x.toNat m) = x ^^^ UInt8.ofNat m := by
    apply UInt8.toNat_inj.1
    have h2 : x.toNat ^^^ m < 256 := Nat.xor_lt_two_pow (n := 8) hx hm
    rw [UInt8.toNat_xor, UInt8.toNat_ofNat_of_lt' hm]
    exact UInt8.toNat_ofNat_of_lt' h2
  rw [this]

theorem len_bx (a : Option Addr) (n c : Nat) : builtinA E .len #[25] [.slice a n c] = AE.val (.int .i64 (.ofNat n)) := by
  simp only [builtinA, tyB, dsB, opt]
theorem min_b (n : Nat) : builtinA E .min #[3, 3] [.int .i64 (.ofNat n), .int .i64 140] = AE.val (.int .i64 (.ofNat (min n 140))) := by
  show opt (minMax false [.int .i64 (.ofNat n), .int .i64 140]) AE.val = _
  rw [min_run]
  rfl
/-- bytes of one's own, put behind none -/
theorem app_own {s : S} {e : Nat} {l : List UInt8} {a : Option Addr} {c2 : Nat} (hb : Bx s a l) (hmax : l.length ≤ 140) (he : Bs s ⟨e, 0, none⟩ []) (hN : Nat.ble s.next lastName = true) :
    ∃ a2 c s1, (builtinA E .append #[25, 25] [.slice (some ⟨e, 0, none⟩) 0 0, .slice a l.length c2]).run s = some (.value (.slice (some a2) l.length c), s1) ∧ capOK (some a2) l.length c = true ∧ s.next ≤ s1.next ∧ s1.next ≤ s.next + 1 ∧
      (∀ m, m < s.next → s1.heap.get m = s.heap.get m) ∧ Bs s1 a2 l := by
  cases l with
  | nil =>
    refine ⟨⟨e, 0, none⟩, 0, s, ?_, rfl, Nat.le_refl _, Nat.le_succ _, fun m hm => rfl, he⟩
    rw [app_eq]
    unfold appendA
    simp only [List.length_nil, show Nat.ble (Nat.add 0 0) maxNeed = true from rfl, when, show Nat.ble 1 1 = true from rfl, show Nat.ble 1 1024 = true from rfl, Bool.and_self]
    cases a with
    | none => rfl
    | some ad => rfl
  | cons y r =>
    cases a with
    | none => cases hb
    | some ad =>
      obtain ⟨s1, e1, e2, e3, e4⟩ := append_new (c2 := c2) (show Bs s ad (y :: r) from hb) rfl (by simp) (by omega) he hN
      refine ⟨⟨s.next, 0, none⟩, _, s1, e1, ?_, by omega, by omega, fun m hm => by rw [e2]; exact hg_far hN (by omega) _ _, bs_new (by omega) (by rw [e2]; exact hg_same hN _ _) (by omega)⟩
      unfold capOK nilOK
      dsimp only
      cases hh : Nat.beq (y :: r).length 128 with
      | false => rfl
      | true =>
        have := beq_iff.1 hh
        rw [this]
        rfl
set_option maxHeartbeats 4000000 in
/-- what is the caller's own -/
theorem te_start (d : LeafD) (hlen : d.load.length = 116) (lb : List UInt8) (ab : Option Addr) (cb : Nat) (hcut : CutOK ab lb.length cb) (at_ : Int) (x : UInt8) (s : S) (hm : s.mark ≤ s.next) (hB : Bx s ab (lb.take 140)) (hN : ∀ i, i < 60 → Nat.ble (s.next + i) lastName = true) (t : Tr Value)
    (h0 : t.get 0 = some (.agg ⟨d.cells⟩)) (h1 : t.get 1 = some (.slice ab lb.length cb)) (h2 : t.get 2 = some (.int .i64 at_)) (h3 : t.get 3 = some (bv x)) :
    GoC E (sumsOf sigTe) cdTe ⟨3, t, 86, [], none⟩ s (Ret E 3 fiTe Yes) := by
  have hcode : cdTe = .seq (sub [0] cdTe) (.seq (sub [1,0] cdTe) (.seq (sub [1,1,0] cdTe) (.seq (sub [1,1,1,0] cdTe) cdTe6))) := rfl
  rw [hcode]
  generalize hrest : cdTe6 = rest
  simp only [cdTe, Tryd.f3, bodyOf, sub]
  have hN0 := hN 0 (by omega)
  rw [Nat.add_zero] at hN0
  have b1 : Nat.ble d.cells.length lastName = true := by rw [d.len hlen]; rfl
  repeat apply go_seq
  apply go_region
  case h => intro m; simp (maxSteps := 2000000) (disch := decide) only [opsLoop, evOper, wantedA, nth, aop, aPick, aBin, aIndexAddr, aFieldAddr, aLoad, aStore, aExtract, aConvert, aAlloc, aBox, aIndex, callA, builtinA, Fr.evs, opt, val, when, AM.run, outV, newA, ptr, force_eq, seen_heap, seen_next, seen_mark, seen_seen, agg_cells, int_cells, Fr.ev, Fr.put, onFr, gps, gpn, bltT, still, flat, List.append_nil, List.nil_append, List.cons_append, Nat.reduceEqDiff, ne_eq, not_false_eq_true, reduceCtorEq, Bool.and_true, Bool.true_and, Bool.and_false, Bool.false_and, Bool.not_true, Bool.not_false, Bool.and_self, h0, tyLf, hN0, b1]; rfl
  generalize hs1 : S.mk _ _ _ _ _ = s1
  have q1 : s1.next = s.next + 1 := by rw [← hs1]
  have q1m : s1.mark ≤ s1.next := by rw [← hs1]; show s.mark ≤ s.next + 1; omega
  have q1h : s1.heap = s.heap.put s.next (some (.cells (Tr.ofList d.cells) d.cells.length 24 .whole)) := by rw [← hs1]
  clear hs1
  have far1 : ∀ m, m < s.next → s1.heap.get m = s.heap.get m := fun m hm => by rw [q1h]; exact hg_far hN0 (by omega) _ _
  have A1 : LfAt s1 s.next d := ⟨by omega, ⟨_, _, _, by rw [q1h, hg_same hN0, d.len hlen], row_ofList _ (by rw [d.len hlen]; unfold Tr.wide; omega)⟩, hlen⟩
  have B1 : Bx s1 ab (lb.take 140) := hB.keep (by omega) far1
  have la := A1.load
  have hpn : putN d ≤ 11 := by unfold putN; split <;> omega
  obtain ⟨s2, pr, p2, _, _, _, p4, p5⟩ := putA_run (s := s1.seen s.next) hlen q1m (fun i hi => by
    show Nat.ble (s1.next + i) lastName = true
    rw [q1, Nat.add_assoc]
    exact hN (1 + i) (by omega))
  have pr : (putA [.agg ⟨d.cells⟩]).run (s1.seen s.next) = some (putV d s1.next, s2) := pr
  have p2 : s2.next = s1.next + putN d := p2
  have p4 : ∀ m, (m < s1.next ∨ s1.next + putN d ≤ m) → s2.heap.get m = s1.heap.get m := p4
  have p5 : rightL d = true → s2.heap.get (s1.next + 9) = some (.cells (Tr.ofList ((putL d).map bv)) (putL d).length 5 .whole) := p5
  have A2 : LfAt s2 s.next d := A1.keep (by omega) (p4 _ (.inl A1.lt))
  have B2 : Bx s2 ab (lb.take 140) := B1.keep (by omega) (fun m hm => p4 m (.inl hm))
  have hpl := putL_len d hlen
  -- the block that Put gave
  obtain ⟨pa, pc, hpv, P2⟩ : ∃ pa pc, putV d s1.next = .slice pa (putB d).length pc ∧ Bx s2 pa (putB d) := by
    unfold putV putB
    cases hR : rightL d with
    | true =>
      have hn11 : putN d = 11 := by unfold putN; rw [if_pos hR]
      refine ⟨some ⟨s1.next + 9, 0, none⟩, 128, ?_, ?_⟩
      · rw [if_pos rfl, if_pos rfl, hpl]
      · rw [if_pos rfl]
        exact bs_new (by omega) (p5 hR) (by omega)
    | false =>
      exact ⟨none, 0, rfl, rfl⟩
  rw [hpv] at pr
  repeat apply go_seq
  apply go_region
  case h => intro m; simp (maxSteps := 2000000) (disch := decide) only [opsLoop, evOper, wantedA, nth, aop, aPick, aBin, aIndexAddr, aFieldAddr, aLoad, aStore, aExtract, aConvert, aAlloc, aBox, aIndex, callA, builtinA, Fr.evs, opt, val, when, AM.run, outV, newA, ptr, force_eq, seen_heap, seen_next, seen_mark, seen_seen, agg_cells, int_cells, Fr.ev, Fr.put, onFr, gps, gpn, bltT, still, flat, List.append_nil, List.nil_append, List.cons_append, Nat.reduceEqDiff, ne_eq, not_false_eq_true, reduceCtorEq, Bool.and_true, Bool.true_and, Bool.and_false, Bool.false_and, Bool.not_true, Bool.not_false, Bool.and_self, tyLf, la, tgP, evT_told teP, pr]; rfl
  clear la pr A1 B1
  -- b's own
  have hN2 : Nat.ble s2.next lastName = true := by
    rw [p2, q1, Nat.add_assoc]
    exact hN (1 + putN d) (by omega)
  repeat apply go_seq
  apply go_ops
  apply go_take 1
  case h => intro m; simp (disch := decide) only [List.take, opsLoop, evOper, wantedA, nth, aop, aPick, aBin, aIndexAddr, aFieldAddr, aLoad, aStore, aExtract, aConvert, aAlloc, aBox, aIndex, callA, Fr.evs, opt, val, when, AM.run, outV, newA, ptr, force_eq, seen_heap, seen_next, seen_mark, seen_seen, agg_cells, int_cells, Fr.ev, Fr.put, onFr, gps, gpn, bltT, still, flat, List.append_nil, List.nil_append, List.cons_append, Nat.reduceEqDiff, ne_eq, not_false_eq_true, reduceCtorEq, Bool.and_true, Bool.true_and, Bool.and_false, Bool.false_and, Bool.not_true, Bool.not_false, Bool.and_self, aBuildSlice, evParts, tyB, dsB, tyU8, dsU8, zeU8, szU8, int_cells, fillA, repeatL, hN2, show Nat.ble (Nat.mul 0 1) 1048576 = true from rfl, show Nat.beq ([Value.int .u8 0] : List Value).length 1 = true from rfl, show Nat.ble 1 1 = true from rfl, show Nat.ble ([] : List Value).length lastName = true from rfl]; rfl
  simp only [List.drop]
  generalize hs3 : S.mk _ _ _ _ _ = s3
  have q3 : s3.next = s2.next + 1 := by rw [← hs3]
  have q3h : s3.heap = s2.heap.put s2.next (some (.cells (Tr.ofList []) ([] : List Value).length 5 .whole)) := by rw [← hs3]
  clear hs3
  have far3 : ∀ m, m < s2.next → s3.heap.get m = s2.heap.get m := fun m hm => by rw [q3h]; exact hg_far hN2 (by omega) _ _
  have A3 : LfAt s3 s.next d := A2.keep (by omega) (far3 _ A2.lt)
  have B3 : Bx s3 ab (lb.take 140) := B2.keep (by omega) far3
  have P3 : Bx s3 pa (putB d) := P2.keep (by omega) far3
  have E3 : Bs s3 ⟨s2.next, 0, none⟩ [] := bs_new (l := []) (by omega) (by rw [q3h]; exact hg_same hN2 _ _) (by simp)
  have hN3 : Nat.ble s3.next lastName = true := by
    rw [q3, p2, q1, Nat.add_assoc, Nat.add_assoc]
    exact hN (1 + (putN d + 1)) (by omega)
  have htl : (lb.take 140).length = min lb.length 140 := by rw [List.length_take]; omega
  have sl := slc_run hcut (m := min lb.length 140) (by omega) s3
  apply go_take 5
  case h => intro m; simp (disch := decide) only [List.take, opsLoop, evOper, wantedA, nth, aop, aPick, aBin, aIndexAddr, aFieldAddr, aLoad, aStore, aExtract, aConvert, aAlloc, aBox, aIndex, callA, Fr.evs, opt, val, when, AM.run, outV, newA, ptr, force_eq, seen_heap, seen_next, seen_mark, seen_seen, agg_cells, int_cells, Fr.ev, Fr.put, onFr, gps, gpn, bltT, still, flat, List.append_nil, List.nil_append, List.cons_append, Nat.reduceEqDiff, ne_eq, not_false_eq_true, reduceCtorEq, Bool.and_true, Bool.true_and, Bool.and_false, Bool.false_and, Bool.not_true, Bool.not_false, Bool.and_self, h1, len_bx, min_b, aSlice, lowHigh, intOf?, tyB, dsB, tyU8, szU8, sl]; rfl
  simp only [List.drop]
  obtain ⟨a4, c4, s4, ap, cap4, q4a, q4b, far4, O4⟩ := app_own (c2 := cb) B3 (by rw [htl]; omega) E3 hN3
  rw [htl] at ap
  apply go_take 2
  case h => intro m; simp (disch := decide) only [List.take, opsLoop, evOper, wantedA, nth, aop, aPick, aBin, aIndexAddr, aFieldAddr, aLoad, aStore, aExtract, aConvert, aAlloc, aBox, aIndex, callA, Fr.evs, opt, val, when, AM.run, outV, newA, ptr, force_eq, seen_heap, seen_next, seen_mark, seen_seen, agg_cells, int_cells, Fr.ev, Fr.put, onFr, gps, gpn, bltT, still, flat, List.append_nil, List.nil_append, List.cons_append, Nat.reduceEqDiff, ne_eq, not_false_eq_true, reduceCtorEq, Bool.and_true, Bool.true_and, Bool.and_false, Bool.false_and, Bool.not_true, Bool.not_false, Bool.and_self, ap]; rfl
  simp only [List.drop]
  apply go_done
  have A4 : LfAt s4 s.next d := A3.keep q4a (far4 _ A3.lt)
  have P4 : Bx s4 pa (putB d) := P3.keep q4a far4
  -- is there a block?
  have hpb : ltI (Int.ofNat 0) (Int.ofNat (putB d).length) = rightL d := by
    unfold putB
    cases hR : rightL d with
    | true => rw [if_pos rfl, hpl]; rfl
    | false => rfl
  subst hrest
  cases hR : rightL d with
  | false =>
    rw [hR] at hpb
    repeat apply go_seq
    apply go_region
    case h => intro m; simp (maxSteps := 2000000) (disch := decide) only [opsLoop, evOper, wantedA, nth, aop, aPick, aBin, aIndexAddr, aFieldAddr, aLoad, aStore, aExtract, aConvert, aAlloc, aBox, aIndex, callA, builtinA, Fr.evs, opt, val, when, AM.run, outV, newA, ptr, force_eq, seen_heap, seen_next, seen_mark, seen_seen, agg_cells, int_cells, Fr.ev, Fr.put, onFr, gps, gpn, bltT, still, flat, List.append_nil, List.nil_append, List.cons_append, Nat.reduceEqDiff, ne_eq, not_false_eq_true, reduceCtorEq, Bool.and_true, Bool.true_and, Bool.and_false, Bool.false_and, Bool.not_true, Bool.not_false, Bool.and_self, tyB, dsB, b_gtr, int0, hpb]; rfl
    repeat apply go_seq
    apply go_cond
    case hc => simp (disch := decide) only [opsLoop, evOper, wantedA, nth, aop, aPick, aBin, aIndexAddr, aFieldAddr, aLoad, aStore, aExtract, aConvert, aAlloc, aBox, aIndex, callA, builtinA, Fr.evs, opt, val, when, AM.run, outV, newA, ptr, force_eq, seen_heap, seen_next, seen_mark, seen_seen, agg_cells, int_cells, Fr.ev, Fr.put, onFr, gps, gpn, bltT, still, flat, List.append_nil, List.nil_append, List.cons_append, Nat.reduceEqDiff, ne_eq, not_false_eq_true, reduceCtorEq, Bool.and_true, Bool.true_and, Bool.and_false, Bool.false_and, Bool.not_true, Bool.not_false, Bool.and_self]; rfl
    case h1 => intro h; cases h
    intro _
    apply go_skip
    rw [← htl]
    refine te_tail d hlen (lb.take 140) (by rw [htl]; omega) s4 _ s.next c4 pc (some a4) pa cap4 A4 O4 P4 (fun i hi => ?_) ?_ ?_ ?_
    · obtain ⟨k, hk, hk2⟩ : ∃ k, s4.next = s.next + k ∧ k ≤ 15 := ⟨s4.next - s.next, by omega, by omega⟩
      rw [hk, Nat.add_assoc]
      exact hN (k + i) (by omega)
    · simp (disch := decide) only [gps, gpn]
    · simp (disch := decide) only [gps, gpn]
    · simp (disch := decide) only [gps, gpn]
  | true =>
    rw [hR] at hpb
    repeat apply go_seq
    apply go_region
    case h => intro m; simp (maxSteps := 2000000) (disch := decide) only [opsLoop, evOper, wantedA, nth, aop, aPick, aBin, aIndexAddr, aFieldAddr, aLoad, aStore, aExtract, aConvert, aAlloc, aBox, aIndex, callA, builtinA, Fr.evs, opt, val, when, AM.run, outV, newA, ptr, force_eq, seen_heap, seen_next, seen_mark, seen_seen, agg_cells, int_cells, Fr.ev, Fr.put, onFr, gps, gpn, bltT, still, flat, List.append_nil, List.nil_append, List.cons_append, Nat.reduceEqDiff, ne_eq, not_false_eq_true, reduceCtorEq, Bool.and_true, Bool.true_and, Bool.and_false, Bool.false_and, Bool.not_true, Bool.not_false, Bool.and_self, tyB, dsB, b_gtr, int0, hpb]; rfl
    repeat apply go_seq
    apply go_cond
    case hc => simp (disch := decide) only [opsLoop, evOper, wantedA, nth, aop, aPick, aBin, aIndexAddr, aFieldAddr, aLoad, aStore, aExtract, aConvert, aAlloc, aBox, aIndex, callA, builtinA, Fr.evs, opt, val, when, AM.run, outV, newA, ptr, force_eq, seen_heap, seen_next, seen_mark, seen_seen, agg_cells, int_cells, Fr.ev, Fr.put, onFr, gps, gpn, bltT, still, flat, List.append_nil, List.nil_append, List.cons_append, Nat.reduceEqDiff, ne_eq, not_false_eq_true, reduceCtorEq, Bool.and_true, Bool.true_and, Bool.and_false, Bool.false_and, Bool.not_true, Bool.not_false, Bool.and_self]; rfl
    case h2 => intro h; cases h
    intro _
    have hput : putB d = putL d := by unfold putB; rw [if_pos hR]
    rw [hput, hpl]
    rw [hput] at P4
    have hN4 : Nat.ble s4.next lastName = true := by
      obtain ⟨k, hk, hk2⟩ : ∃ k, s4.next = s.next + k ∧ k ≤ 15 := ⟨s4.next - s.next, by omega, by omega⟩
      rw [hk]
      exact hN k (by omega)
    repeat apply go_seq
    apply go_ops
    apply go_take 1
    case h => intro m; simp (disch := decide) only [List.take, opsLoop, evOper, wantedA, nth, aop, aPick, aBin, aIndexAddr, aFieldAddr, aLoad, aStore, aExtract, aConvert, aAlloc, aBox, aIndex, callA, Fr.evs, opt, val, when, AM.run, outV, newA, ptr, force_eq, seen_heap, seen_next, seen_mark, seen_seen, agg_cells, int_cells, Fr.ev, Fr.put, onFr, gps, gpn, bltT, still, flat, List.append_nil, List.nil_append, List.cons_append, Nat.reduceEqDiff, ne_eq, not_false_eq_true, reduceCtorEq, Bool.and_true, Bool.true_and, Bool.and_false, Bool.false_and, Bool.not_true, Bool.not_false, Bool.and_self, aBuildSlice, evParts, tyB, dsB, tyU8, dsU8, zeU8, szU8, int_cells, fillA, repeatL, hN4, show Nat.ble (Nat.mul 0 1) 1048576 = true from rfl, show Nat.beq ([Value.int .u8 0] : List Value).length 1 = true from rfl, show Nat.ble 1 1 = true from rfl, show Nat.ble ([] : List Value).length lastName = true from rfl]; rfl
    simp only [List.drop]
    generalize hs5 : S.mk _ _ _ _ _ = s5
    have q5 : s5.next = s4.next + 1 := by rw [← hs5]
    have q5h : s5.heap = s4.heap.put s4.next (some (.cells (Tr.ofList []) ([] : List Value).length 5 .whole)) := by rw [← hs5]
    clear hs5
    have far5 : ∀ m, m < s4.next → s5.heap.get m = s4.heap.get m := fun m hm => by rw [q5h]; exact hg_far hN4 (by omega) _ _
    have A5 : LfAt s5 s.next d := A4.keep (by omega) (far5 _ A4.lt)
    have P5 : Bx s5 pa (putL d) := P4.keep (by omega) far5
    have E5 : Bs s5 ⟨s4.next, 0, none⟩ [] := bs_new (l := []) (by omega) (by rw [q5h]; exact hg_same hN4 _ _) (by simp)
    have hN5 : Nat.ble s5.next lastName = true := by
      obtain ⟨k, hk, hk2⟩ : ∃ k, s5.next = s.next + k ∧ k ≤ 16 := ⟨s5.next - s.next, by omega, by omega⟩
      rw [hk]
      exact hN k (by omega)
    cases pa with
    | none =>
      have : putL d = [] := P5
      rw [this] at hpl
      cases hpl
    | some pad =>
      have P5 : Bs s5 pad (putL d) := P5
      obtain ⟨s6, ap6, q6h, q6, _⟩ := append_new (c2 := pc) P5 hpl (by omega) (by omega) E5 hN5
      apply go_take 3
      case h => intro m; simp (disch := decide) only [List.take, opsLoop, evOper, wantedA, nth, aop, aPick, aBin, aIndexAddr, aFieldAddr, aLoad, aStore, aExtract, aConvert, aAlloc, aBox, aIndex, callA, Fr.evs, opt, val, when, AM.run, outV, newA, ptr, force_eq, seen_heap, seen_next, seen_mark, seen_seen, agg_cells, int_cells, Fr.ev, Fr.put, onFr, gps, gpn, bltT, still, flat, List.append_nil, List.nil_append, List.cons_append, Nat.reduceEqDiff, ne_eq, not_false_eq_true, reduceCtorEq, Bool.and_true, Bool.true_and, Bool.and_false, Bool.false_and, Bool.not_true, Bool.not_false, Bool.and_self, ap6]; rfl
      simp only [List.drop]
      apply go_done
      have far6 : ∀ m, m < s5.next → s6.heap.get m = s5.heap.get m := fun m hm => by rw [q6h]; exact hg_far hN5 (by omega) _ _
      have A6 : LfAt s6 s.next d := A5.keep (by omega) (far6 _ A5.lt)
      have P6 : Bx s6 (some pad) (putL d) := Bx.keep (a := some pad) P5 (by omega) far6
      have g6 : s6.heap.get s5.next = some (.cells (Tr.ofList ((putL d).map bv)) (putL d).length 5 .loose) := by rw [q6h]; exact hg_same hN5 _ _
      have wb := wn_le at_ 127
      have ww : ∀ s, (withinBA [.int .i64 at_, .int .i64 (.ofNat 0), .int .i64 (.ofNat 127)]).run s = some (.int .i64 (.ofNat (wn at_ 127)), s) := fun s => withinBA_run at_ 127 (by omega) s
      generalize wn at_ 127 = k at wb ww
      obtain ⟨y, hy⟩ : ∃ y, (putL d)[k]? = some y := ⟨_, List.getElem?_eq_getElem (by omega)⟩
      have O6 : Bs s6 ⟨s5.next, 0, none⟩ (putL d) := bs_new (by omega) g6 (by omega)
      have lx := sum.byte_load (Bs.at O6 hy) tiU8 dsU8
      rw [add0] at lx
      have xr : ∀ E t, binA E .xor t (.int .u8 (.ofNat y.toNat)) (bv x) = some (bv (y ^^^ UInt8.ofNat x.toNat)) := b_xor8 y x.toNat x.toNat_lt
      generalize hz : y ^^^ UInt8.ofNat x.toNat = z at xr
      have sb : ∀ E t, binA E .sub t (.int .i64 (.ofNat 128)) (.int .i64 1) = some (.int .i64 (.ofNat 127)) := fun E t => rfl
      have hbl : Nat.blt k 128 = true := blt_iff.2 (by omega)
      have st := storeA_run (s := s6.seen s5.next) (N := s5.next) (o := k) (m := (putL d).length) (vs := [bv z]) (c := Tr.ofList ((putL d).map bv)) (e := 5) (rm := .loose) (AM.pure (ANext.value undefV)) (by rfl) (by show s5.next < s6.next; omega) hN5 g6 (by show k + 1 ≤ (putL d).length; omega) (by omega)
      repeat apply go_seq
      apply go_region
      case h => intro m; simp (maxSteps := 2000000) (disch := decide) only [opsLoop, evOper, wantedA, nth, aop, aPick, aBin, aIndexAddr, aFieldAddr, aLoad, aStore, aExtract, aConvert, aAlloc, aBox, aIndex, callA, builtinA, Fr.evs, opt, val, when, AM.run, outV, newA, ptr, force_eq, seen_heap, seen_next, seen_mark, seen_seen, agg_cells, int_cells, Fr.ev, Fr.put, onFr, gps, gpn, bltT, still, flat, List.append_nil, List.nil_append, List.cons_append, Nat.reduceEqDiff, ne_eq, not_false_eq_true, reduceCtorEq, Bool.and_true, Bool.true_and, Bool.and_false, Bool.false_and, Bool.not_true, Bool.not_false, Bool.and_self, h2, h3, len_bx, tyB, dsB, sb, tgWB, evT_told teWB, int0, ww, tyU8, dsU8, szU8, hbl, mul1, add0, lx, xr, bv_cells, show Nat.beq ([bv z] : List Value).length 1 = true from rfl, st]; rfl
      generalize hs7 : S.turn _ _ _ = s7
      have q7 : s7.next = s6.next := by rw [← hs7]; rfl
      have q7h : s7.heap = s6.heap.put s5.next (some (.cells (wrCells (Tr.ofList ((putL d).map bv)) k [bv z]) (putL d).length 5 .loose)) := by rw [← hs7]; rfl
      clear hs7
      have far7 : ∀ m, m ≠ s5.next → s7.heap.get m = s6.heap.get m := fun m hm => by rw [q7h]; exact hg_far hN5 hm _ _
      have hl7 : ((putL d).set k z).length = 128 := by rw [List.length_set, hpl]
      have O7 : Bs s7 ⟨s5.next, 0, none⟩ ((putL d).set k z) := by
        refine ⟨rfl, by show s5.next < s7.next; omega, _, (putL d).length, .inl ⟨_, _, by rw [q7h]; exact hg_same hN5 _ _⟩, by show 0 + _ ≤ _; rw [hl7]; omega, ?_⟩
        show Row _ 0 _
        rw [List.map_set]
        exact row_set (row_ofList _ (by rw [List.length_map]; unfold Tr.wide; omega)) (by omega)
      have A7 : LfAt s7 s.next d := A6.keep (by omega) (far7 _ (by have := A5.lt; omega))
      have P7 : Bx s7 (some pad) (putL d) := by
        have hP6 : Bs s6 pad (putL d) := P6
        obtain ⟨cc, mm, x1, x2, x3⟩ := hP6.cell
        have := P5.lt
        exact ⟨hP6.spot, by have := hP6.lt; omega, cc, mm, x1.of (far7 _ (by omega)), x2, x3⟩
      refine te_tail d hlen ((putL d).set k z) (by rw [hl7]; omega) s7 _ s.next (Nat.add OPEN 128) pc (some ⟨s5.next, 0, none⟩) (some pad) (by rw [hl7]; rfl) A7 O7 (by rw [hput]; exact P7) (fun i hi => ?_) ?_ ?_ ?_
      · obtain ⟨k, hk, hk2⟩ : ∃ k, s7.next = s.next + k ∧ k ≤ 18 := ⟨s7.next - s.next, by omega, by omega⟩
        rw [hk, Nat.add_assoc]
        exact hN (k + i) (by omega)
      · simp (disch := decide) only [gps, gpn]
      · rw [hput, hpl]; simp (disch := decide) only [gps, gpn]
      · rw [hl7]; simp (disch := decide) only [gps, gpn]
end Go.Proofs.YtdkieabjjmhdlaaDoor.lf
end
end

section
/- Leaves: any leaf, any bytes: what is handed in, opened; the law. -/
noncomputable section
namespace Go.Proofs.YtdkieabjjmhdlaaDoor.lf
open AE
open Go.RowKit Go.ChangeShapes Go.WideShapes Go.Deep
set_option linter.unusedSimpArgs false
set_option linter.unusedVariables false
set_option maxRecDepth 10000

theorem mapM_all {α β : Type} {f : α → Option β} : ∀ (l : List α) (xs : List β), l.mapM f = some xs → ∀ a ∈ l, ∃ y, f a = some y
  | [], xs, _, a, ha => by simp at ha
  | b :: l, xs, h, a, ha => by
    rw [List.mapM_cons] at h
    simp only [bind, Option.bind_eq_some_iff, pure, Option.some.injEq] at h
    obtain ⟨y, hy, ys, hys, _⟩ := h
    rcases List.mem_cons.1 ha with rfl | ha
    · exact ⟨y, hy⟩
    · exact mapM_all l ys hys a ha
theorem undLf : Tryd.prog.underlying 24 = some (.struct fsLf) := by kernel_rfl
theorem undA : Tryd.prog.underlying 22 = some (.array 116 5) := by kernel_rfl
theorem undI : Tryd.prog.underlying 3 = some (.int .i64) := by kernel_rfl
theorem undU8 : Tryd.prog.underlying 5 = some (.int .u8) := by kernel_rfl
theorem celLf : Tryd.prog.cellsOf 24 = 121 := by kernel_rfl
theorem celA : Tryd.prog.cellsOf 22 = 116 := by kernel_rfl
theorem celI : Tryd.prog.cellsOf 3 = 1 := by kernel_rfl
theorem celU8 : Tryd.prog.cellsOf 5 = 1 := by kernel_rfl
def byteOf : Value → UInt8
  | .int _ (.ofNat m) => UInt8.ofNat m
  | _ => 0
theorem wf_u8 {n : Int} (h : (Lit.int .u8 n).wf = true) : ∃ x : Nat, n = .ofNat x ∧ x < 256 := by
  have h2 : 0 ≤ n ∧ n ≤ 255 := by simpa [Lit.wf, IntKind.min, IntKind.max, IntKind.signed, IntKind.bits] using h
  exact ⟨n.toNat, (Int.toNat_of_nonneg h2.1).symm, by omega⟩
theorem wf_u32 {n : Int} (h : (Lit.int .u32 n).wf = true) : ∃ x : Nat, n = .ofNat x ∧ x < 4294967296 := by
  have h2 : 0 ≤ n ∧ n ≤ 4294967295 := by simpa [Lit.wf, IntKind.min, IntKind.max, IntKind.signed, IntKind.bits] using h
  exact ⟨n.toNat, (Int.toNat_of_nonneg h2.1).symm, by omega⟩
section
variable {H : Type} {enc : TypeId × Value → H} {w : World} {base : Nat} {sp : Nat → Bool} {held : Bool}
theorem one_int {fuel : Nat} {ls : List Value} {i : Nat} {y : DataW H × List MemPlace} {t : TypeId} {k : IntKind} (hu : Tryd.prog.underlying t = some (.int k)) (h : DataW.trod enc Tryd.prog w base sp held fuel t ((ls.drop i).take 1) = some y) :
    ∃ n, ls[i]? = some (.int k n) ∧ (Lit.int k n).wf = true := by
  obtain ⟨n, h1, _, h2⟩ := DataW.trod_int hu h
  refine ⟨n, ?_, h2⟩
  have := congrArg (·[0]?) h1
  simpa [List.getElem?_take, List.getElem?_drop] using this
theorem open_bytes {fuel : Nat} {ls : List Value} {y : DataW H × List MemPlace} (h : DataW.trod enc Tryd.prog w base sp held fuel 22 ls = some y) : ls = (ls.map byteOf).map bv ∧ ls.length = 116 := by
  cases fuel with
  | zero => simp [DataW.trod] at h
  | succ n =>
    rw [DataW.trod_step] at h
    unfold DataW.trodStep at h
    simp only [undA, celA, celU8, Nat.mul_one] at h
    split at h
    · rename_i hl
      simp only [Option.map_eq_some_iff] at h
      obtain ⟨xs, hx, _⟩ := h
      refine ⟨?_, hl⟩
      apply List.ext_getElem?
      intro i
      by_cases hi : i < 116
      · obtain ⟨y, hy⟩ := mapM_all _ _ hx i (List.mem_range.2 hi)
        obtain ⟨m, h1, h2⟩ := one_int undU8 hy
        rw [List.getElem?_map, List.getElem?_map, h1]
        obtain ⟨x, rfl, hx⟩ := wf_u8 h2
        show some (Value.int .u8 (.ofNat x)) = some (Value.int .u8 (.ofNat (UInt8.ofNat x).toNat))
        rw [UInt8.toNat_ofNat_of_lt' hx]
      · rw [List.getElem?_eq_none (by omega), List.getElem?_eq_none (by simp; omega)]
    · cases h
theorem open_leaf {r : Reach} {b0 : Nat} {v : Value} {d : DataW H} {ps : List MemPlace} (hval : Value.okWide Tryd.prog w r b0 24 v) (hd : DataW.Trod enc Tryd.prog w base sp held 24 v d ps) :
    ∃ l : LeafD, v = .agg ⟨l.cells⟩ ∧ l.load.length = 116 := by
  simp only [Value.okWide, undLf] at hval
  obtain ⟨⟨cs⟩, rfl, hsz, _⟩ := hval
  obtain ⟨fuel, hf⟩ := hd
  cases fuel with
  | zero => simp [DataW.trod] at hf
  | succ n =>
    rw [DataW.trod_step] at hf
    unfold DataW.trodStep at hf
    simp only [undLf, Value.cells, celLf] at hf
    split at hf
    · rename_i hl
      simp only [Option.map_eq_some_iff, fs_list] at hf
      obtain ⟨xs, hx, _⟩ := hf
      obtain ⟨y0, h0⟩ := mapM_all _ _ hx (fd 0) (by simp)
      obtain ⟨y1, h1⟩ := mapM_all _ _ hx (fd 1) (by simp)
      obtain ⟨y2, h2⟩ := mapM_all _ _ hx (fd 2) (by simp)
      obtain ⟨y3, h3⟩ := mapM_all _ _ hx (fd 3) (by simp)
      obtain ⟨y4, h4⟩ := mapM_all _ _ hx (fd 4) (by simp)
      obtain ⟨y5, h5⟩ := mapM_all _ _ hx (fd 5) (by simp)
      rw [ft0, fo0, celI] at h0
      rw [ft1, fo1, celI] at h1
      rw [ft2, fo2, celI] at h2
      rw [ft3, fo3, celI] at h3
      rw [ft4, fo4, celI] at h4
      rw [ft5, fo5, celA] at h5
      obtain ⟨n0, g0, _⟩ := one_int undI h0
      obtain ⟨n1, g1, _⟩ := one_int undI h1
      obtain ⟨n2, g2, _⟩ := one_int undI h2
      obtain ⟨n3, g3, _⟩ := one_int undI h3
      obtain ⟨n4, g4, _⟩ := one_int undI h4
      obtain ⟨g5, g6⟩ := open_bytes h5
      match cs, hl, g0, g1, g2, g3, g4, g5, g6 with
      | c0 :: c1 :: c2 :: c3 :: c4 :: ls, hl, g0, g1, g2, g3, g4, g5, g6 =>
        have hls : ls.length = 116 := by simpa using hl
        have e : (List.drop 5 (c0 :: c1 :: c2 :: c3 :: c4 :: ls)).take 116 = ls := by
          show ls.take 116 = ls
          rw [List.take_of_length_le (by omega)]
        rw [e] at g5
        simp at g0 g1 g2 g3 g4
        subst g0; subst g1; subst g2; subst g3; subst g4
        refine ⟨⟨n0, n1, n2, n3, n4, ls.map byteOf⟩, ?_, by rw [List.length_map]; exact hls⟩
        show Value.agg ⟨_⟩ = Value.agg ⟨_⟩
        unfold LeafD.cells
        rw [← g5]
        rfl
    · cases hf
end

section
variable {H : Type} {enc : TypeId × Value → H} {P : Program} {w : World} {base : Nat} {spare : Nat → Bool} {held : Bool}
theorem rowAt_off (fits : TypeId → Bool) : ∀ (d : Nat) (e : TypeId) (cells off n : Nat), rowAt P fits d e (cells / P.cellsOf e) off n = true → off ≤ cells
  | 0, e, cells, off, n, h => by simp [rowAt] at h
  | d + 1, e, cells, off, n, h => by
    simp only [rowAt] at h
    split at h
    · cases h
    · rename_i hs
      have hpos : 0 < P.cellsOf e := Nat.pos_of_ne_zero hs
      have hdm := Nat.div_add_mod off (P.cellsOf e)
      have hcm := Nat.div_mul_le_self cells (P.cellsOf e)
      simp only [Bool.or_eq_true, Bool.and_eq_true, beq_iff_eq, decide_eq_true_eq] at h
      rcases h with ⟨⟨h1, h2⟩, _⟩ | ⟨h1, _⟩
      · have : P.cellsOf e * (off / P.cellsOf e) ≤ cells := by
          have := Nat.mul_le_mul_right (P.cellsOf e) (show off / P.cellsOf e ≤ cells / P.cellsOf e by omega)
          rw [Nat.mul_comm] at this
          omega
        omega
      · have hlt := Nat.mod_lt off hpos
        have h3 : (off / P.cellsOf e + 1) * P.cellsOf e ≤ cells / P.cellsOf e * P.cellsOf e := Nat.mul_le_mul_right _ h1
        rw [Nat.add_mul, Nat.one_mul, Nat.mul_comm (off / P.cellsOf e)] at h3
        omega
theorem liesAt_off : ∀ (d : Nat) (e : TypeId) (cells off : Nat) (u : TypeId) (n : Nat), liesAt P d e (cells / P.cellsOf e) off u n = true → off ≤ cells
  | 0, e, cells, off, u, n, h => by simp [liesAt] at h
  | d + 1, e, cells, off, u, n, h => by
    simp only [liesAt, Bool.or_eq_true] at h
    rcases h with h | h
    · exact rowAt_off _ _ _ _ _ _ h
    · split at h
      · exact liesAt_off d e cells off _ _ h
      · cases h
theorem has_block {r : Reach} {b0 : Nat} {a : Addr} {e : TypeId} {n : Nat} (h : w.has P r b0 a e n) : a.spot = none ∧ ∃ cs el z, w.heap[a.block]? = some (.cells cs el z) ∧ a.off ≤ cs.size := by
  obtain ⟨_, h1, row, cells, h2, h3⟩ := h
  refine ⟨h1, ?_⟩
  unfold World.shape? at h2
  split at h2
  · rename_i c el z hb
    simp only [Option.some.injEq, Prod.mk.injEq] at h2
    obtain ⟨rfl, rfl⟩ := h2
    exact ⟨c, el, z, hb, liesAt_off _ _ _ _ _ _ h3⟩
  · cases h2
end
theorem undBs : Tryd.prog.underlying 25 = some (.slice 5) := by kernel_rfl
/-- bytes of the world -/
def BIn (w : World) (l : List UInt8) (v : Value) : Prop :=
  (l = [] ∧ v = .slice none 0 0) ∨
  ∃ b off cap cs e z, v = .slice (some ⟨b, off, none⟩) l.length cap ∧ l.length ≤ cap ∧ w.heap[b]? = some (.cells cs e z) ∧ off ≤ cs.size ∧ ∀ i u, (l.map bv)[i]? = some u → cs[off + i]? = some u
theorem open_bsl {H : Type} {enc : TypeId × Value → H} {w : World} {base : Nat} {sp : Nat → Bool} {held : Bool} {r : Reach} {b0 : Nat} {v : Value} {d : DataW H} {ps : List MemPlace} (hval : Value.okWide Tryd.prog w r b0 25 v) (hd : DataW.Trod enc Tryd.prog w base sp held 25 v d ps) : ∃ l, BIn w l v := by
  obtain ⟨a, n, c, rfl⟩ := okWide_slice undBs hval
  obtain ⟨fuel, hf⟩ := hd
  rcases open_ints undBs undU8 (by kernel_rfl) hf with ⟨h1, _⟩ | ⟨a1, len, cap, zs, h1, hb, hl, hm, hz, _, hcell, hwf⟩
  · injection h1 with h1
    exact ⟨[], .inl ⟨rfl, h1⟩⟩
  · injection h1 with h1
    injection h1 with h1 h2 h3
    subst h1 h2 h3
    simp only [Value.okWide, undBs, Cell.okWide, Cell.ok] at hval
    have hhas := hval.2.2
    obtain ⟨hsp, bs, el, z, hbk, hoff⟩ := has_block hhas
    obtain ⟨ab, ao, asp⟩ := a1
    simp only at hsp hbk hoff
    subst hsp
    have hnz : n ≤ zs.length := by rw [hz]; split <;> omega
    have hll : ((List.range n).map fun i => UInt8.ofNat (zs.getD i 0).toNat).length = n := by simp
    refine ⟨(List.range n).map fun i => UInt8.ofNat (zs.getD i 0).toNat, .inr ⟨ab, ao, c, bs, el, z, by rw [hll], by rw [hll]; exact hl, hbk, hoff, ?_⟩⟩
    intro i u hu
    rw [List.map_map, List.getElem?_map] at hu
    have hi : i < n := by
      rcases Nat.lt_or_ge i n with h | h
      · exact h
      · rw [List.getElem?_eq_none (by simpa using h)] at hu
        cases hu
    rw [List.getElem?_range hi] at hu
    have hc := hcell i (by omega)
    obtain ⟨x, hx, hx2⟩ := wf_u8 (hwf (zs.getD i 0) (by rw [List.getD_eq_getElem?_getD, List.getElem?_eq_getElem (by omega)]; exact List.getElem_mem _))
    rw [addr_add] at hc
    unfold World.cell? at hc
    simp only [hbk] at hc
    rw [hx] at hc
    simp only [Option.map_some, Option.some.injEq, Function.comp] at hu
    rw [← hu, hx]
    show _ = some (Value.int .u8 (.ofNat (UInt8.ofNat x).toNat))
    rw [UInt8.toNat_ofNat_of_lt' hx2]
    exact hc

theorem open_facts (O c : Nat) : Nat.ble O (O + c) = true ∧ Nat.sub (O + c) O = c ∧ Nat.add O c = O + c :=
  ⟨ble_iff.2 (Nat.le_add_right _ _), Nat.add_sub_cancel_left O c, rfl⟩

theorem in_head (x : InRow) (l : List InRow) : (inS (x :: l)).heap.get 0 = some (.row (Tr.ofList x.L) x.L.length x.e) := by
  show ((trOf (rowsOf l 1)).put 0 (some (AObj.row (Tr.ofList x.L) x.L.length x.e))).get 0 = _
  exact hg_same rfl _ _
/-- bytes of the world, as a list that is read -/
theorem bytes_in {w : World} {l : List UInt8} {v : Value} (h : BIn w l v) :
    ∃ (rows : List InRow) (a : Option Addr) (cap : Nat), rows.length ≤ 1 ∧ (∀ x ∈ rows, x.In w) ∧ VR (renOf rows) (.slice a l.length cap) v ∧ CutOK a l.length cap ∧ Bx (inS rows) a (l.take 140) := by
  rcases h with ⟨rfl, rfl⟩ | ⟨b, off, cap, cs, e, z, rfl, hcap, hb, hoff, hcell⟩
  · exact ⟨[], none, 0, Nat.zero_le _, (fun x hx => by cases hx), VR.flat rfl, Or.inl ⟨rfl, rfl, rfl⟩, rfl⟩
  · have hcut : ∀ i u, ((l.take 140).map bv)[i]? = some u → cs[off + i]? = some u := by
      intro i u hu
      refine hcell i u ?_
      rw [List.getElem?_map] at hu ⊢
      have hi : i < 140 := by
        rcases Nat.lt_or_ge i 140 with h | h
        · exact h
        · rw [List.getElem?_eq_none (by rw [List.length_take]; omega)] at hu; cases hu
      rw [List.getElem?_take_of_lt hi] at hu
      exact hu
    have hlen : ((l.take 140).map bv).length ≤ 140 := by rw [List.length_map, List.length_take]; omega
    have hend : off + ((l.take 140).map bv).length ≤ cs.size := by
      rcases Nat.eq_zero_or_pos ((l.take 140).map bv).length with h0 | h0
      · omega
      · obtain ⟨u, hu⟩ : ∃ u, ((l.take 140).map bv)[((l.take 140).map bv).length - 1]? = some u := ⟨_, List.getElem?_eq_getElem (by omega)⟩
        have := (Array.getElem?_eq_some_iff.1 (hcut _ u hu)).1
        omega
    have hin : InRow.In ⟨b, off, 0, (l.take 140).map bv, e⟩ w := ⟨⟨cs, z, hb, hend, hcut⟩, bytes_plain _, by show ((l.take 140).map bv).length ≤ _; unfold Tr.wide; omega⟩
    have hin2 : ∀ x ∈ [(⟨b, off, 0, (l.take 140).map bv, e⟩ : InRow)], x.In w := fun u hu => by simp only [List.mem_singleton] at hu; subst hu; exact hin
    have hbx : Bx (inS [⟨b, off, 0, (l.take 140).map bv, e⟩]) (some ⟨0, 0, none⟩) (l.take 140) := by
      refine ⟨rfl, Nat.zero_lt_one, _, _, .inr ⟨_, in_head _ _⟩, by show 0 + (l.take 140).length ≤ ((l.take 140).map bv).length; rw [List.length_map]; omega, row_ofList _ (by show ((l.take 140).map bv).length ≤ Tr.wide; unfold Tr.wide; omega)⟩
    by_cases hO : cap < OPEN
    · refine ⟨[⟨b, off, 0, (l.take 140).map bv, e⟩], some ⟨0, 0, none⟩, cap, Nat.le_refl _, hin2, .sliceW ⟨0, 0, b, off, 0, rfl, rfl, rfl⟩ hO, .inr ⟨0, rfl, .inl ⟨?_, hcap⟩⟩, hbx⟩
      cases hh : Nat.ble OPEN cap with
      | false => rfl
      | true => have := ble_iff.1 hh; omega
    · obtain ⟨f1, f2, f3⟩ := open_facts OPEN cap
      refine ⟨[⟨b, off, 0, (l.take 140).map bv, e⟩], some ⟨0, 0, none⟩, OPEN + cap, Nat.le_refl _, hin2, ?_, .inr ⟨0, rfl, .inr ⟨cap, f1, f2, f3, ?_, hcap⟩⟩, hbx⟩
      · exact VR.sliceL (ρ := renOf [⟨b, off, 0, (l.take 140).map bv, e⟩]) (n := 0) (off := 0) (b := b) (base := off) (ex := 0) (len := l.length) (c := cap) rfl
      · have : 0 < OPEN := by unfold OPEN; omega
        omega
/-- **any leaf, any bytes, its own with one turned among them** -/
theorem leafTells_any (d : LeafD) (hlen : d.load.length = 116) (l : List UInt8) (v : Value) (at_ : Int) (x : UInt8) (w : World) (hB : BIn w l v) :
    Calls Tryd.prog 3 #[.agg ⟨d.cells⟩, v, .int .i64 at_, .int .u8 (.ofNat x.toNat)] w fun e w' => e = .returned (.bool true) ∧ Go.RowKit.Below w.heap.size w w' := by
  obtain ⟨rows, a, cap, hr, hin, hv, hcut, hbx⟩ := bytes_in hB
  have hgo := go_enter (E := E) (σ := sumsOf sigTe) (Q := Yes) (fi := fiTe) (c := cdTe) (args := [.agg ⟨d.cells⟩, .slice a l.length cap, .int .i64 at_, bv x]) (s := inS rows) (f := 3) (by kernel_rfl) (by kernel_rfl) 86 rfl rfl
    (te_start d hlen l a cap hcut at_ x (inS rows) (Nat.zero_le _) hbx (fun i hi => ble_iff.2 (by show rows.length + i ≤ lastName; unfold lastName; omega)) _ rfl rfl rfl rfl)
  obtain ⟨v1, s1, rfl, n0, hn⟩ := hgo
  obtain ⟨p1, _⟩ := plain_agg (leaf_plain d)
  exact callsI hP hmix tolds_Te (hn n0 (Nat.le_refl _)) (Nat.zero_le _) w (inputs_of rows (by omega) hin) (.cons (p1 _) (.cons hv (.cons ((plain_int _ _).1 _) (.cons ((plain_int _ _).1 _) .nil))))
end Go.Proofs.YtdkieabjjmhdlaaDoor.lf
end
end

section
/- Any leaf, any bytes, its own with one turned among them: leaf says what the document says, and what is handed in stays: at all leaves, bytes, places and turns. -/
namespace Go.Proofs.YtdkieabjjmhdlaaDoor.leafTells
open Go.ChangeShapes Go.WideShapes Go.ChangeAt Go.RowKit
set_option linter.unusedVariables false

theorem own : ownKnob Tryd.prog.godebug = none := by kernel_rfl
theorem laidOut : laidOutB Tryd.prog = true := by kernel_rfl

set_option maxRecDepth 100000 in
set_option maxHeartbeats 1600000 in
theorem lifted (os : Os) (started : os.Started) (H : Type) (enc : TypeId × Value → H) :
    ReturnsInHanded {} Tryd.checked os 3 .any (fun w args => (Rows.leafTellsSpec.pre enc Tryd.prog Tryd.f3 Rows.leafTellsRow.domain false w args ∧ laidMetH Tryd.prog Rows.leafTellsRow.laid w) ∧ sizedMet enc Tryd.prog Tryd.f3 (OpenSpec.ofChange Rows.leafTellsSpec) false w args)
      (Rows.leafTellsSpec.post enc Tryd.prog Tryd.f3 false true false false) := by
  refine returnsInHanded_of_change_and (C := Tryd.checked) (X := fun w _ => laidMetH Tryd.prog Rows.leafTellsRow.laid w) (fun _ _ _ hh h => h.of_heap hh) own started (by kernel_rfl) Tryd.func3
    (ChangeSpec.witness_shaped (enc := enc) (C := Tryd.checked) (os := os) (X := fun w _ => laidMetH Tryd.prog Rows.leafTellsRow.laid w) false (World.laidAll Tryd.prog os Rows.leafTellsRow.laid) #[.agg ⟨lf.zeroL.cells⟩, .slice none 0 0, .int .i64 0, .int .u8 0] 8 (World.laidAll_os _ _ _)
      (World.shaped_of_ZipB (by kernel_rfl) (by kernel_rfl)) (by kernel_rfl) (by kernel_rfl) (by kernel_rfl)
      (by rw [MakeChecks.laidMetH_plain _ _ _ (by kernel_rfl)]; exact laidMet_laidAll _ (by kernel_rfl) (by kernel_rfl))) ?_
  intro W base args ds gs before hval0 hW hc _ hL _
  have hval : ∀ (j : Nat) t v, Tryd.f3.params[j]? = some t → args[j]? = some v → Value.okWide Tryd.prog W .any base t v := hval0
  have hW' := hW
  obtain ⟨p, q, hA0, hV, rfl, hfz, hnd⟩ := hW
  have hA : DataW.TrodAll enc Tryd.prog W 0 (fun _ => true) true Tryd.f3.params.toList args.toList ds p := hA0
  rw [Tryd.params3] at hA hval
  obtain ⟨v0, vs0, d0, ds0, p0, q0, hargs, rfl, rfl, h0, r0⟩ := trodAll_cons hA
  obtain ⟨v1, vs1, d1, ds1, p1, q1, rfl, rfl, rfl, h1, r1⟩ := trodAll_cons r0
  obtain ⟨v2, vs2, d2, ds2, p2, q2, rfl, rfl, rfl, h2, r2⟩ := trodAll_cons r1
  obtain ⟨v3, vs3, d3, ds3, p3, q3, rfl, rfl, rfl, h3, r3⟩ := trodAll_cons r2
  obtain ⟨rfl, rfl, rfl⟩ := trodAll_nil r3
  obtain rfl : args = #[v0, v1, v2, v3] := by cases args; simp_all
  obtain ⟨rfl, rfl⟩ := trodVars_none hV
  have k0 := h0
  have lt0 : ∀ x ∈ p0, x.block < W.heap.size := by obtain ⟨m, hm⟩ := k0; exact DataW.trod_lt m _ _ _ hm
  have k1 := h1
  have lt1 : ∀ x ∈ p1, x.block < W.heap.size := by obtain ⟨m, hm⟩ := k1; exact DataW.trod_lt m _ _ _ hm
  have k2 := h2
  have lt2 : ∀ x ∈ p2, x.block < W.heap.size := by obtain ⟨m, hm⟩ := k2; exact DataW.trod_lt m _ _ _ hm
  have k3 := h3
  have lt3 : ∀ x ∈ p3, x.block < W.heap.size := by obtain ⟨m, hm⟩ := k3; exact DataW.trod_lt m _ _ _ hm
  obtain ⟨l0, rfl, ll0⟩ := lf.open_leaf (hval 0 24 v0 rfl rfl) h0
  obtain ⟨B1, hB1⟩ := lf.open_bsl (hval 1 25 v1 rfl rfl) h1
  obtain ⟨a2, rfl, rfl, rfl, w2⟩ := open_int Tryd.underlying3 (hval 2 3 v2 rfl rfl) h2
  obtain ⟨a3, rfl, rfl, rfl, w3⟩ := open_int Tryd.underlying5 (hval 3 5 v3 rfl rfl) h3
  obtain ⟨y3, rfl, hy3⟩ := lf.wf_u8 w3
  obtain ⟨x3, rfl⟩ : ∃ x : UInt8, y3 = x.toNat := ⟨UInt8.ofNat y3, (UInt8.toNat_ofNat_of_lt' hy3).symm⟩
  clear hA0 hval0
  refine (lf.leafTells_any l0 ll0 B1 v1 a2 x3 W hB1).mono fun e W' ⟨he, bel⟩ => ?_
  subst he
  exact ⟨_, rfl, _, _, _, [], _, [], hW', trodAll_mk1 (shut_bool Tryd.underlying4 _), (trodAll_cons_mk (Below.trod laidOut (by kernel_rfl) (of_decide_eq_true (by kernel_rfl)) k0 bel lt0) (trodAll_cons_mk (Below.trod laidOut (by kernel_rfl) (of_decide_eq_true (by kernel_rfl)) k1 bel lt1) (trodAll_cons_mk (Below.trod laidOut (by kernel_rfl) (of_decide_eq_true (by kernel_rfl)) k2 bel lt2) (trodAll_cons_mk (Below.trod laidOut (by kernel_rfl) (of_decide_eq_true (by kernel_rfl)) k3 bel lt3) trodAll_mk0)))), rfl, bel.frame _, fun h => by cases h⟩

theorem over : Rows.leafTellsRow.holds Tryd.pinned (OpenSpec.ofChange Rows.leafTellsSpec) :=
  OpenClaim.holds_of_wide 3 Tryd.f3 rfl rfl rfl rfl rfl rfl rfl ⟨rfl, rfl, rfl, rfl, rfl⟩ rfl rfl rfl rfl rfl (by kernel_rfl) Tryd.func3 (by kernel_rfl)
    (of_decide_eq_true (by kernel_rfl)) (by unfold Func.isWrapper; first | (rw [if_pos (by decide +kernel)]; kernel_rfl) | (rw [if_neg (by decide +kernel)]; exact ⟨rfl, rfl⟩))
    (fun os started H enc _ => lifted os started H enc)

theorem wants0 : Tryd.pinned.checked.prog.wantsStandIn 24 = false := by kernel_rfl
theorem wants1 : Tryd.pinned.checked.prog.wantsStandIn 25 = false := by kernel_rfl
theorem wants2 : Tryd.pinned.checked.prog.wantsStandIn 3 = false := by kernel_rfl
theorem wants3 : Tryd.pinned.checked.prog.wantsStandIn 5 = false := by kernel_rfl
/-- the statement -/
theorem proved : Rows.LeafTellsCardSaid :=
  Claim7.holds_tied_plain_at .later [] [.data, .pinned] true (true, "b006fb97a40d41b487695a8a9358ea25072c9a8ecc82d1128d17da768d2d55cc") false over (fun _ h => by cases h) (by kernel_rfl) (fun _ h => by cases h) leafTells_row_tie rfl ⟨rfl, rfl⟩ (by kernel_rfl) rfl
    (fun f fn hf hfn => by
      obtain rfl : f = 3 := Option.some.inj ((show Tryd.prog.funcNamed "sheaf/sheaflaw5.LeafTells" = some 3 by kernel_rfl).symm.trans hf) |>.symm
      obtain rfl : fn = Tryd.f3 := (Option.some.inj (Tryd.func3.symm.trans hfn)).symm
      exact ⟨by kernel_rfl, fun j t ht => by
        rw [Tryd.params3] at ht
        match j, ht with
        | 0, ht => have e : (24 : Nat) = t := Option.some.inj ht; subst e; exact wants0
        | 1, ht => have e : (25 : Nat) = t := Option.some.inj ht; subst e; exact wants1
        | 2, ht => have e : (3 : Nat) = t := Option.some.inj ht; subst e; exact wants2
        | 3, ht => have e : (5 : Nat) = t := Option.some.inj ht; subst e; exact wants3
        | j + 4, ht => simp at ht⟩)
    (by kernel_rfl)
#print axioms proved
end Go.Proofs.YtdkieabjjmhdlaaDoor.leafTells
end
