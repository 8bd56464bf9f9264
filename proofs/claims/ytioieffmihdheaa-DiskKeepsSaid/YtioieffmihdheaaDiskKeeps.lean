/- The law on what a boot keeps: the walk. -/
import Derived.Test.YtioieffmihdheaaDiskKp0
import Derived.Test.YtioieffmihdheaaDiskLast
namespace Go.Proofs.Ytioieffmihdheaa
open Go.RowKit
set_option linter.unusedVariables false
set_option linter.unusedSimpArgs false

def arrB (l : List Bool) : Array Value := (l.map Value.bool).toArray

/-- the head of a round of the first loop -/
structure KpA (w0 : World) (p Hb : Nat) (i : Nat) (wr : World) (D : PD) (has : List UInt8) : Prop where
  good : Good w0 wr p D
  live : Live D 6 i
  len : has.length = 6
  blk : Blk wr Hb 48 (arrC has)
  old : w0.heap.size ≤ Hb
  reads : ∀ (j : Nat) (x : UInt8), has[j]? = some x → D.read j = some (rep x)

/-- the head of a round of the second loop -/
structure KpB2 (w0 : World) (p Hb Ht : Nat) (how : List UInt8) (i : Nat) (wr : World) (D : PD) (has : List UInt8) (torn : List Bool) : Prop where
  good : Good w0 wr p D
  live : Live D 6 (i + 12)
  cnt : D.waits.length = i
  len : has.length = 6
  tlen : torn.length = 6
  blk : Blk wr Hb 48 (arrC has)
  tblk : Blk wr Ht 49 (arrB torn)
  old : w0.heap.size ≤ Hb
  told : w0.heap.size ≤ Ht
  keeps : KeepsAs how D has torn

/-- the head of a round of the third loop -/
structure KpC (w0 : World) (p Hb Ht : Nat) (i : Nat) (wr : World) (D : PD) (has : List UInt8) (torn : List Bool) : Prop where
  good : Good w0 wr p D
  live : Live D 6 (i + 24)
  len : has.length = 6
  tlen : torn.length = 6
  blk : Blk wr Hb 48 (arrC has)
  tblk : Blk wr Ht 49 (arrB torn)
  reads : ∀ (j : Nat) (x : UInt8) (t : Bool), i ≤ j → has[j]? = some x → torn[j]? = some t → D.read j = want x t

theorem lt_of_get {α : Type} {l : List α} {j n : Nat} {x : α} (h : l[j]? = some x) (hn : l.length = n) : j < n := by
  rcases Nat.lt_or_ge j n with h' | h'
  · exact h'
  · rw [List.getElem?_eq_none (by omega)] at h; cases h

/-- a write into block k, and the variable with it -/
theorem reads_set {D : PD} {m : Nat} {has : List UInt8} {k : Nat} {x : UInt8} {n : Nat} (hl : Live D n m) (hk : k < n) (hh : has.length = n) (h : ∀ (j : Nat) (x : UInt8), has[j]? = some x → D.read j = some (rep x)) :
    ∀ (j : Nat) (y : UInt8), (has.set k x)[j]? = some y → (D.write k (rep x)).2.read j = some (rep y) := by
  intro j y hy
  have hj : j < n := lt_of_get hy (by rw [List.length_set]; exact hh)
  rw [hl.read_write hk hj (rep_len _)]
  rw [List.getElem?_set] at hy
  by_cases e : k = j
  · rw [if_pos e] at hy ⊢
    rw [if_pos (by omega)] at hy
    rw [Option.some.inj hy]
  · rw [if_neg e] at hy ⊢
    exact h j y hy

set_option maxRecDepth 100000 in
set_option maxHeartbeats 12800000 in
theorem diskKeeps_any (A0 A1 A2 : Option Addr) (c0 c1 c2 : Nat) (l0 l1 : List QAsk) (how : List UInt8) (w0 : World) (hA0 : Asks w0 A0 l0) (hA1 : Asks w0 A1 l1) (hA2 : BytesIn w0 A2 how) :
    Calls Try.prog 7 #[.slice A0 l0.length c0, .slice A1 l1.length c1, .slice A2 how.length c2] w0 fun e w' => e = .returned (.bool true) ∧ Below w0.heap.size w0 w' := by
  have hll0 := hA0.1
  have hll1 := hA1.1
  have hll2 := hA2.2.1
  have HA0 := Lib.hid hA0
  have HA1 := Lib.hid hA1
  have HA2 := Lib.hid hA2
  clear hA0 hA1 hA2
  go_enter Try.func7, Try.ntmps7
  go_wp2_with fail
  refine (new_any 6 _ (by omega) (by omega)).mono ?_
  rintro e w1 hm
  obtain ⟨p, M, rfl, _⟩ := id hm
  have G1 : Hid (Good w0 w1 p (PD.new 6)) := Good.start (Below.refl _ _) hm
  clear hm
  go_wp2_with fail
  have hB1 : Below w1.heap.size w1 (w1.alloc (.cells #[.int .u8 0, .int .u8 0, .int .u8 0, .int .u8 0, .int .u8 0, .int .u8 0] 48)) := (Below.refl _ _).alloc (Nat.le_refl _) _
  have hR0 : KpA w0 p w1.heap.size 0 (w1.alloc (.cells #[.int .u8 0, .int .u8 0, .int .u8 0, .int .u8 0, .int .u8 0, .int .u8 0] 48)) (PD.new 6) (List.replicate 6 0) := by
    refine ⟨G1.out.below hB1, live_new 6 (by omega), rfl, Blk.new _ _ _, G1.out.1.size, ?_⟩
    intro j x hx
    have hj : j < 6 := lt_of_get hx (by simp)
    rw [read_new 6 j hj]
    rw [List.getElem?_replicate, if_pos hj] at hx
    rw [Option.some.inj hx]
  have HR0 := Lib.hid hR0
  have hHb0 : w0.heap.size ≤ w1.heap.size := G1.out.1.size
  clear hB1 hR0
  go_loopw [9] (fun i wr => ∃ i' : Nat, i' ≤ l0.length ∧ i' ≤ 12 ∧ i = .int .i64 i' ∧ ∃ D has, Hid (KpA w0 p w1.heap.size i' wr D has)) (fun i _ => l0.length - (intOf i).toNat)
  case atStart => exact ⟨0, by omega, by omega, rfl, _, _, HR0⟩
  case round =>
    obtain ⟨i, hi, hi12, rfl, D, has, HR⟩ := hrel
    by_cases hgo : i < l0.length ∧ i < 12
    · obtain ⟨hlt, hlt12⟩ := hgo
      have d1 : decide ((i : Int) < (l0.length : Int)) = true := by simp; omega
      have d2 : decide ((i : Int) < 12) = true := by simp; omega
      obtain ⟨q, hq⟩ : ∃ q, l0[i]? = some q := ⟨_, List.getElem?_eq_getElem hlt⟩
      obtain ⟨b, off, rfl, hbl, hask⟩ : ∃ b off, A0 = some ⟨b, off, none⟩ ∧ b < w0.heap.size ∧ AskAt w0 b (off + i * 8) q := by
        rcases HA0.out.2 with h | ⟨b, off, h1, h2, h3⟩
        · rw [h] at hlt; simp at hlt
        · exact ⟨b, off, h1, h2, h3 i q hq⟩
      obtain ⟨k, hk, hk5⟩ := within_nat q.i 5 (by omega)
      have HK := Lib.hid hk
      have HAsk := Lib.hid hask
      have hc1 := (hask.below HR.out.good.1).c1
      have hc4 := (hask.below HR.out.good.1).c4
      have hwi := hask.wi
      have hi0 : (0 : Int) ≤ (i : Int) := by omega
      have hi1 : (i : Int) < (l0.length : Int) := by omega
      have hlv := HR.out.live
      have HLv := Lib.hid hlv
      have hfew := hlv.few
      have hwro := hlv.wro
      have G2 : Hid (Good w0 wr p D) := HR.out.good
      have Q0 := Lib.hid (congrArg Prod.fst (hlv.write (k := k) (by omega) (rep_len q.x)))
      clear hq hk hask hlv
      go_wp2_with fail
      refine (within_any q.i 0 5 _ (by omega) (by omega) (by omega) hwi.1 hwi.2).mono ?_
      rintro e w' ⟨rfl, rfl⟩
      rw [HK.out]
      go_wp2_with fail
      refine (fill_rep q.x _ rfl _).mono ?_
      rintro e W3 ⟨g3, rfl, ho3, hb3⟩
      have G3 := Lib.hid (G2.out.below hb3)
      have O3 := Lib.hid ho3
      have B3 := Lib.hid hb3
      have T3 := Lib.hid (TF.of_below hb3)
      clear ho3 hb3
      go_wp2_with fail
      have cW := good_write G3.out k g3 128 (rep q.x) _ O3.out (by omega) (by omega)
      rw [Q0.out] at cW
      refine cW.mono ?_
      clear cW
      rintro e W4 ⟨rfl, hg, ht⟩
      have G4 : Hid (Good w0 W4 p (D.write k (rep q.x)).2) := hg
      have T4 := Lib.hid ht
      clear hg ht
      have hc4' := (HAsk.out.below G4.out.1).c4
      have hblk4 := (T3.out.trans T4.out).2 _ _ _ HR.out.blk (by decide) (by decide) (by decide)
      have hu : ∃ u, W4.cell? ⟨w1.heap.size, k, none⟩ = some u := ⟨_, by rw [hblk4.cell]; exact Array.getElem?_eq_getElem (by have := HR.out.len; simp [arrC]; omega)⟩
      obtain ⟨u0, hu⟩ := hu
      have hfr := hblk4.frozen k
      have hk0 : (0 : Int) ≤ (k : Int) := by omega
      have hk6 : (k : Int) < 6 := by omega
      have HBL4 := Lib.hid hblk4
      clear hblk4 hc1 hc4
      have hA5 : Blk (W4.setCell ⟨w1.heap.size, k, none⟩ (BV q.x)) w1.heap.size 48 (arrC (has.set k q.x)) := by
        have := HBL4.out.set_ k (BV q.x)
        unfold arrC at this ⊢
        rw [List.map_set]
        simpa using this
      have hB5 := G4.out.arr (o := k) (u := BV q.x) HBL4.out hHb0 (by decide) (by decide) (by decide) (by decide)
      have HA5 := Lib.hid hA5
      have HB5 := Lib.hid hB5
      have HR5 := Lib.hid (reads_set (n := 6) (k := k) (x := q.x) HLv.out (by omega) HR.out.len HR.out.reads)
      have HL5 : Hid (Live (D.write k (rep q.x)).2 6 (i + 1)) := HLv.out.write_live (by omega) (rep_len _)
      have HLen : Hid ((has.set k q.x).length = 6) := by show _ = _; rw [List.length_set]; exact HR.out.len
      unfold BV at HA5 HB5
      clear hA5 hB5
      go_wp2_with fail
      go_roundw
      case rel => exact ⟨i + 1, by omega, by omega, by go_num, _, _, HB5.out, HL5.out, HLen.out, HA5.out, hHb0, HR5.out⟩
      case measure => simp [intOf]; omega
    · by_cases hlt : i < l0.length
      · have hlv := HR.out.live
        have HLv := Lib.hid hlv
        have hfew := hlv.few
        have hwro := hlv.wro
        have G2 : Hid (Good w0 wr p D) := HR.out.good
        have QF := Lib.hid (congrArg Prod.fst hlv.flush)
        have d1 : decide (i < l0.length) = true := by simp; omega
        have d2 : decide ((i : Int) < 12) = false := by simp; omega
        clear hlv hgo
        go_wp2_with fail
        all_goals
          have cF := good_flush G2.out (by omega)
          rw [QF.out] at cF
          refine cF.mono ?_
          clear cF
          rintro e W5 ⟨rfl, hg, ht⟩
          have G5 : Hid (Good w0 W5 p (D.flush).2) := hg
          have T5 := Lib.hid ht
          clear hg ht
          go_wp2_with fail
          have hBt : Below W5.heap.size W5 (W5.alloc (.cells #[.bool false, .bool false, .bool false, .bool false, .bool false, .bool false] 49)) := (Below.refl _ _).alloc (Nat.le_refl _) _
          have hblk5 := T5.out.2 _ _ _ HR.out.blk (by decide) (by decide) (by decide)
          have hne : w1.heap.size ≠ W5.heap.size := Nat.ne_of_lt hblk5.lt
          have hne' := hne.symm
          have hR1 : KpB2 w0 p w1.heap.size W5.heap.size how 0 (W5.alloc (.cells #[.bool false, .bool false, .bool false, .bool false, .bool false, .bool false] 49)) (D.flush).2 has (List.replicate 6 false) := by
            refine ⟨G5.out.below hBt, (HLv.out.flush_live).more (by omega), by rw [HLv.out.flush]; rfl, HR.out.len, rfl, hblk5.alloc _, Blk.new _ _ _, hHb0, G5.out.1.size, ?_⟩
            refine keepsAs_start HLv.out.flush_live (by rw [HLv.out.flush]) ?_ HR.out.len
            intro j x hx
            rw [HLv.out.read_flush (lt_of_get hx HR.out.len)]
            exact HR.out.reads j x hx
          have HR1 := Lib.hid hR1
          have hHt0 : w0.heap.size ≤ W5.heap.size := G5.out.1.size
          clear hBt hblk5 hR1
          go_loopw [12] (fun i wr => ∃ i' : Nat, i' ≤ l1.length ∧ i' ≤ 12 ∧ i = .int .i64 i' ∧ ∃ D has torn, Hid (KpB2 w0 p w1.heap.size W5.heap.size how i' wr D has torn)) (fun i _ => l1.length - (intOf i).toNat)
          case atStart => exact ⟨0, by omega, by omega, rfl, _, _, _, HR1⟩
          case round =>
            obtain ⟨i, hi, hi12, rfl, D2, has2, torn, HR⟩ := hrel
            by_cases hgo : i < l1.length ∧ i < 12
            · obtain ⟨hlt, hlt12⟩ := hgo
              have d1 : decide ((i : Int) < (l1.length : Int)) = true := by simp; omega
              have d2 : decide ((i : Int) < 12) = true := by simp; omega
              obtain ⟨q, hq⟩ : ∃ q, l1[i]? = some q := ⟨_, List.getElem?_eq_getElem hlt⟩
              obtain ⟨b, off, rfl, hbl, hask⟩ : ∃ b off, A1 = some ⟨b, off, none⟩ ∧ b < w0.heap.size ∧ AskAt w0 b (off + i * 8) q := by
                rcases HA1.out.2 with h | ⟨b, off, h1, h2, h3⟩
                · rw [h] at hlt; simp at hlt
                · exact ⟨b, off, h1, h2, h3 i q hq⟩
              obtain ⟨k, hk, hk5⟩ := within_nat q.i 5 (by omega)
              have HK := Lib.hid hk
              have HAsk := Lib.hid hask
              have hc1 := (hask.below HR.out.good.1).c1
              have hc4 := (hask.below HR.out.good.1).c4
              have hwi := hask.wi
              have hi0 : (0 : Int) ≤ (i : Int) := by omega
              have hi1 : (i : Int) < (l1.length : Int) := by omega
              have hlv := HR.out.live
              have HLv := Lib.hid hlv
              have hfew := hlv.few
              have hwro := hlv.wro
              have G2 : Hid (Good w0 wr p D2) := HR.out.good
              have Q0 := Lib.hid (congrArg Prod.fst (hlv.write (k := k) (by omega) (rep_len q.x)))
              clear hq hk hask hlv
              go_wp2_with fail
              refine (within_any q.i 0 5 _ (by omega) (by omega) (by omega) hwi.1 hwi.2).mono ?_
              rintro e w' ⟨rfl, rfl⟩
              rw [HK.out]
              go_wp2_with fail
              refine (fill_rep q.x _ rfl _).mono ?_
              rintro e W3 ⟨g3, rfl, ho3, hb3⟩
              have G3 := Lib.hid (G2.out.below hb3)
              have O3 := Lib.hid ho3
              have B3 := Lib.hid hb3
              have T3 := Lib.hid (TF.of_below hb3)
              clear ho3 hb3
              go_wp2_with fail
              have cW := good_write G3.out k g3 128 (rep q.x) _ O3.out (by omega) (by omega)
              rw [Q0.out] at cW
              refine cW.mono ?_
              clear cW
              rintro e W4 ⟨rfl, hg, ht⟩
              have G4 : Hid (Good w0 W4 p (D2.write k (rep q.x)).2) := hg
              have T4 := Lib.hid ht
              clear hg ht
              have hc4' := (HAsk.out.below G4.out.1).c4
              have hblk4 := (T3.out.trans T4.out).2 _ _ _ HR.out.blk (by decide) (by decide) (by decide)
              have hu : ∃ u, W4.cell? ⟨w1.heap.size, k, none⟩ = some u := ⟨_, by rw [hblk4.cell]; exact Array.getElem?_eq_getElem (by have := HR.out.len; simp [arrC]; omega)⟩
              obtain ⟨u0, hu⟩ := hu
              have hfr := hblk4.frozen k
              have hk0 : (0 : Int) ≤ (k : Int) := by omega
              have hk6 : (k : Int) < 6 := by omega
              have HBL4 := Lib.hid hblk4
              clear hblk4 hc1 hc4
              have hcnt := HR.out.cnt
              have tblk4 := (T3.out.trans T4.out).2 _ _ _ HR.out.tblk (by decide) (by decide) (by decide)
              have ht : ∃ u, W4.cell? ⟨W5.heap.size, k, none⟩ = some u := ⟨_, by rw [tblk4.cell]; exact Array.getElem?_eq_getElem (by have := HR.out.tlen; simp [arrB]; omega)⟩
              obtain ⟨t0, ht⟩ := ht
              have htfr := tblk4.frozen k
              have HTL4 := Lib.hid tblk4
              have HKp := Lib.hid (keepsAs_write (n := 6) HR.out.keeps HLv.out (k := k) (by omega) HR.out.len HR.out.tlen q.x)
              have HL5 : Hid (Live (D2.write k (rep q.x)).2 6 (i + 1 + 12)) := (HLv.out.write_live (k := k) (by omega) (rep_len q.x)).more (by omega)
              have HCnt : Hid ((D2.write k (rep q.x)).2.waits.length = i + 1) := by show _ = _; rw [HLv.out.write (by omega) (rep_len _)]; simp [hcnt]
              have HCN := Lib.hid hcnt
              clear tblk4 hcnt
              by_cases hih : i < how.length
              · have d3 : decide ((i : Int) < (how.length : Int)) = true := by simp; omega
                obtain ⟨y, hy⟩ : ∃ y, how[i]? = some y := ⟨_, List.getElem?_eq_getElem hih⟩
                obtain ⟨ad, rfl, hcy⟩ := HA2.out.1.2 i y hy
                have hcy4 : W4.cell? (ad.add i) = some (BV y) := (G4.out.1.cell (World.block_lt_of_cell? w0 _ hcy)).trans hcy
                have hi2 : (i : Int) < (how.length : Int) := by omega
                have HY : Hid (how[D2.waits.length]? = some y) := by show _ = _; rw [HCN.out]; exact hy
                have hKp := HKp.out
                rw [HY.out] at hKp
                simp only at hKp
                unfold BV at hcy4
                clear hy hcy
                by_cases h1 : y.toNat % 3 = 1
                · have e1 : ((y.toNat : Int) % 3 == 1) = true := by simp; omega
                  have e2 : ((y.toNat : Int) % 3 == 2) = false := by simp; omega
                  rw [if_pos h1, if_pos h1] at hKp
                  have HKq := Lib.hid hKp
                  have HH1 := Lib.hid h1
                  have hA5 : Blk (W4.setCell ⟨w1.heap.size, k, none⟩ (BV q.x)) w1.heap.size 48 (arrC (has2.set k q.x)) := by
                    have := HBL4.out.set_ k (BV q.x)
                    unfold arrC at this ⊢
                    rw [List.map_set]
                    simpa using this
                  have hT5 : Blk (W4.setCell ⟨w1.heap.size, k, none⟩ (BV q.x)) W5.heap.size 49 (arrB torn) := HTL4.out.far (by simpa using hne') _
                  have hA6 : Blk ((W4.setCell ⟨w1.heap.size, k, none⟩ (BV q.x)).setCell ⟨W5.heap.size, k, none⟩ (.bool false)) w1.heap.size 48 (arrC (has2.set k q.x)) := hA5.far (by simpa using hne) _
                  have hT6 : Blk ((W4.setCell ⟨w1.heap.size, k, none⟩ (BV q.x)).setCell ⟨W5.heap.size, k, none⟩ (.bool false)) W5.heap.size 49 (arrB (torn.set k false)) := by
                    have := hT5.set_ k (.bool false)
                    unfold arrB at this ⊢
                    rw [List.map_set]
                    simpa using this
                  have hB5 := (G4.out.arr (o := k) (u := BV q.x) HBL4.out hHb0 (by decide) (by decide) (by decide) (by decide)).arr (o := k) (u := .bool false) hT5 hHt0 (by decide) (by decide) (by decide) (by decide)
                  have HA6 := Lib.hid hA6
                  have HT6 := Lib.hid hT6
                  have HB5 := Lib.hid hB5
                  unfold BV at HA6 HT6 HB5
                  clear hKp h1 hA5 hT5 hA6 hT6 hB5
                  go_wp2_with fail
                  go_roundw
                  case rel => exact ⟨i + 1, by omega, by omega, by go_num, _, _, _, HB5.out, HL5.out, HCnt.out, by rw [List.length_set]; exact HR.out.len, by rw [List.length_set]; exact HR.out.tlen, HA6.out, HT6.out, hHb0, hHt0, HKq.out⟩
                  case measure => simp [intOf]; omega
                · by_cases h2 : y.toNat % 3 = 2
                  · have e1 : ((y.toNat : Int) % 3 == 1) = false := by simp; omega
                    have e2 : ((y.toNat : Int) % 3 == 2) = true := by simp; omega
                    rw [if_neg h1, if_neg h1, if_pos h2] at hKp
                    have HKq := Lib.hid hKp
                    have hA6 : Blk (W4.setCell ⟨W5.heap.size, k, none⟩ (.bool true)) w1.heap.size 48 (arrC has2) := HBL4.out.far (by simpa using hne) _
                    have hT6 : Blk (W4.setCell ⟨W5.heap.size, k, none⟩ (.bool true)) W5.heap.size 49 (arrB (torn.set k true)) := by
                      have := HTL4.out.set_ k (.bool true)
                      unfold arrB at this ⊢
                      rw [List.map_set]
                      simpa using this
                    have hB5 := G4.out.arr (o := k) (u := .bool true) HTL4.out hHt0 (by decide) (by decide) (by decide) (by decide)
                    have HA6 := Lib.hid hA6
                    have HT6 := Lib.hid hT6
                    have HB5 := Lib.hid hB5
                    clear hKp h1 h2 hA6 hT6 hB5
                    go_wp2_with fail
                    go_roundw
                    case rel => exact ⟨i + 1, by omega, by omega, by go_num, _, _, _, HB5.out, HL5.out, HCnt.out, HR.out.len, by rw [List.length_set]; exact HR.out.tlen, HA6.out, HT6.out, hHb0, hHt0, HKq.out⟩
                    case measure => simp [intOf]; omega
                  · have e1 : ((y.toNat : Int) % 3 == 1) = false := by simp; omega
                    have e2 : ((y.toNat : Int) % 3 == 2) = false := by simp; omega
                    rw [if_neg h1, if_neg h1, if_neg h2] at hKp
                    have HKq := Lib.hid hKp
                    clear hKp h1 h2
                    go_wp2_with fail
                    go_roundw
                    case rel => exact ⟨i + 1, by omega, by omega, by go_num, _, _, _, G4.out, HL5.out, HCnt.out, HR.out.len, HR.out.tlen, HBL4.out, HTL4.out, hHb0, hHt0, HKq.out⟩
                    case measure => simp [intOf]; omega
              · have d3 : decide (i < how.length) = false := by simp; omega
                have hd3 : ¬ (i : Int) < (how.length : Int) := by omega
                have HY : Hid (how[D2.waits.length]? = none) := by show _ = _; rw [HCN.out]; exact List.getElem?_eq_none (by omega)
                have hKp := HKp.out
                rw [HY.out] at hKp
                simp only at hKp
                have HKq := Lib.hid hKp
                clear hKp hih
                go_wp2_with fail
                go_roundw
                case rel => exact ⟨i + 1, by omega, by omega, by go_num, _, _, _, G4.out, HL5.out, HCnt.out, HR.out.len, HR.out.tlen, HBL4.out, HTL4.out, hHb0, hHt0, HKq.out⟩
                case measure => simp [intOf]; omega
            · by_cases hlt1 : i < l1.length
              · have hlv := HR.out.live
                have HLv := Lib.hid hlv
                have hfew := hlv.few
                have hwro := hlv.wro
                have G2 : Hid (Good w0 wr p D2) := HR.out.good
                have HSA := Lib.hid (HA2.out.below HR.out.good.1).1
                have d1 : decide (i < l1.length) = true := by simp; omega
                have d2 : decide ((i : Int) < 12) = false := by simp; omega
                clear hlv hgo
                go_wp2_with fail
                all_goals
                  refine (good_boot G2.out (by omega) A2 c2 how HSA.out hll2 (fun ad had hpos => .inl (HA2.out.2.2 ad had hpos))).mono ?_
                  rintro e W6 ⟨rfl, hg, ht⟩
                  have G6 : Hid (Good w0 W6 p (D2.boot how)) := hg
                  have T6 := Lib.hid ht
                  have hR2 : KpC w0 p w1.heap.size W5.heap.size 0 W6 (D2.boot how) has2 torn :=
                    ⟨hg, (boot_live HLv.out how).more (by omega), HR.out.len, HR.out.tlen, ht.2 _ _ _ HR.out.blk (by decide) (by decide) (by decide), ht.2 _ _ _ HR.out.tblk (by decide) (by decide) (by decide),
                     fun j x t _ hx htt => boot_read HLv.out HR.out.keeps (lt_of_get hx HR.out.len) hx htt⟩
                  have HR2 := Lib.hid hR2
                  clear hg ht hR2
                  go_wp2_with fail
                  go_loopw [111] (fun i wr => ∃ j : Nat, j ≤ 6 ∧ i = .int .i64 j ∧ ∃ D, Hid (KpC w0 p w1.heap.size W5.heap.size j wr D has2 torn)) (fun i _ => 6 - (intOf i).toNat)
                  case atStart => exact ⟨0, by omega, rfl, _, HR2⟩
                  case round =>
                    obtain ⟨j, hj, rfl, D3, HR3⟩ := hrel
                    have hlv3 := HR3.out.live
                    have HLv3 := Lib.hid hlv3
                    have hfew3 := hlv3.few
                    have hwro3 := hlv3.wro
                    have G10 : Hid (Good w0 wr p D3) := HR3.out.good
                    by_cases hj6 : j < 6
                    · obtain ⟨x, hx⟩ : ∃ x, has2[j]? = some x := ⟨_, List.getElem?_eq_getElem (by rw [HR3.out.len]; exact hj6)⟩
                      obtain ⟨t, htj⟩ : ∃ t, torn[j]? = some t := ⟨_, List.getElem?_eq_getElem (by rw [HR3.out.tlen]; exact hj6)⟩
                      have QR : Hid (D3.read j = want x t) := HR3.out.reads j x t (Nat.le_refl _) hx htj
                      have Q3 := Lib.hid (congrArg Prod.fst (hlv3.write (k := j) hj6 (rep_len 3)))
                      have hj0 : (0 : Int) ≤ (j : Int) := by omega
                      have hj1 : (j : Int) < 6 := by omega
                      have HX := Lib.hid hx
                      have HT := Lib.hid htj
                      have HNx : Hid (∀ (j' : Nat) (x : UInt8) (t : Bool), j + 1 ≤ j' → has2[j']? = some x → torn[j']? = some t → (D3.write j (rep 3)).2.read j' = want x t) := by
                        intro j' x' t' hjj hx' ht'
                        rw [HLv3.out.read_write hj6 (lt_of_get hx' HR3.out.len) (rep_len _), if_neg (by omega)]
                        exact HR3.out.reads j' x' t' (by omega) hx' ht'
                      have HL5 : Hid (Live (D3.write j (rep 3)).2 6 (j + 1 + 24)) := (hlv3.write_live (k := j) hj6 (rep_len 3)).more (by omega)
                      clear hx htj hlv3
                      cases t with
                      | true =>
                        go_wp2_with fail
                        have cR := good_read G10.out (by omega) j
                        rw [QR.out] at cR
                        refine cR.mono ?_
                        clear cR
                        rintro e W11 ⟨hb11, rfl⟩
                        have G11 := Lib.hid (G10.out.below hb11)
                        have B11 := Lib.hid hb11
                        have T11 := Lib.hid (TF.of_below hb11)
                        clear hb11
                        have bh := (T11.out).2 _ _ _ HR3.out.blk (by decide) (by decide) (by decide)
                        have bt := (T11.out).2 _ _ _ HR3.out.tblk (by decide) (by decide) (by decide)
                        have ch : W11.cell? ⟨w1.heap.size, j, none⟩ = some (.int .u8 (x.toNat : Int)) := by
                          rw [bh.cell]
                          show (arrC has2)[j]? = _
                          unfold arrC
                          rw [List.getElem?_toArray, List.getElem?_map, HX.out]; rfl
                        have ct : W11.cell? ⟨W5.heap.size, j, none⟩ = some (.bool true) := by
                          rw [bt.cell]
                          show (arrB torn)[j]? = _
                          unfold arrB
                          rw [List.getElem?_toArray, List.getElem?_map, HT.out]; rfl
                        clear bh bt
                        go_wp2_with fail
                        refine (fill_rep 3 _ rfl _).mono ?_
                        rintro e W12 ⟨g12, rfl, ho12, hb12⟩
                        have G12 := Lib.hid (G11.out.below hb12)
                        have O12 := Lib.hid ho12
                        have B12 := Lib.hid hb12
                        have T12 := Lib.hid (TF.of_below hb12)
                        clear ho12 hb12
                        go_wp2_with fail
                        have cW := good_write G12.out j g12 128 (rep 3) _ O12.out (by omega) (by omega)
                        rw [Q3.out] at cW
                        refine cW.mono ?_
                        clear cW
                        rintro e W13 ⟨rfl, hg, ht⟩
                        have G13 : Hid (Good w0 W13 p (D3.write j (rep 3)).2) := hg
                        have T13 := Lib.hid ht
                        clear hg ht
                        have hTT := (T11.out.trans T12.out).trans T13.out
                        have hKC : KpC w0 p w1.heap.size W5.heap.size (j + 1) W13 (D3.write j (rep 3)).2 has2 torn := ⟨G13.out, HL5.out, HR3.out.len, HR3.out.tlen, hTT.2 _ _ _ HR3.out.blk (by decide) (by decide) (by decide), hTT.2 _ _ _ HR3.out.tblk (by decide) (by decide) (by decide), HNx.out⟩
                        have HKC := Lib.hid hKC
                        clear hTT hKC
                        go_wp2_with fail
                        go_roundw
                        case rel => exact ⟨j + 1, by omega, by go_num, _, HKC⟩
                        case measure => simp [intOf]; omega
                      | false =>
                        go_wp2_with fail
                        have cR := good_read G10.out (by omega) j
                        rw [QR.out] at cR
                        refine cR.mono ?_
                        clear cR
                        rintro e W11 ⟨hb11, g11, c11, rfl, ho11⟩
                        have G11 := Lib.hid (G10.out.below hb11)
                        have B11 := Lib.hid hb11
                        have T11 := Lib.hid (TF.of_below hb11)
                        clear hb11
                        have O11 := Lib.hid ho11
                        clear ho11
                        have bh := (T11.out).2 _ _ _ HR3.out.blk (by decide) (by decide) (by decide)
                        have bt := (T11.out).2 _ _ _ HR3.out.tblk (by decide) (by decide) (by decide)
                        have ch : W11.cell? ⟨w1.heap.size, j, none⟩ = some (.int .u8 (x.toNat : Int)) := by
                          rw [bh.cell]
                          show (arrC has2)[j]? = _
                          unfold arrC
                          rw [List.getElem?_toArray, List.getElem?_map, HX.out]; rfl
                        have ct : W11.cell? ⟨W5.heap.size, j, none⟩ = some (.bool false) := by
                          rw [bt.cell]
                          show (arrB torn)[j]? = _
                          unfold arrB
                          rw [List.getElem?_toArray, List.getElem?_map, HT.out]; rfl
                        clear bh bt
                        go_wp2_with fail
                        refine (fill_rep x _ rfl _).mono ?_
                        rintro e W14 ⟨g14, rfl, ho14, hb14⟩
                        have G14 := Lib.hid (G11.out.below hb14)
                        have O14 := Lib.hid ho14
                        have B14 := Lib.hid hb14
                        have T14 := Lib.hid (TF.of_below hb14)
                        clear ho14 hb14
                        go_wp2_with fail
                        refine (same_any (some ⟨g11, 0, none⟩) (some ⟨g14, 0, none⟩) c11 128 (rep x) (rep x) _ true (by simp) (sameAt_of_owns (TF.owns T14.out O11.out (by decide) (by decide) (by decide))) (sameAt_of_owns O14.out) (by rw [rep_len]; omega) (by rw [rep_len]; omega)).mono ?_
                        rintro e W15 ⟨rfl, n15, hw15⟩
                        subst hw15
                        have G15 : Hid (Good w0 (W14.drewN n15) p D3) := G14.out.below (World.drewN_below _ _ _)
                        have T15 : Hid (TF W14 (W14.drewN n15)) := TF.of_below (World.drewN_below _ _ _)
                        go_wp2_with fail
                        refine (fill_rep 3 _ rfl _).mono ?_
                        rintro e W12 ⟨g12, rfl, ho12, hb12⟩
                        have G12 := Lib.hid (G15.out.below hb12)
                        have O12 := Lib.hid ho12
                        have B12 := Lib.hid hb12
                        have T12 := Lib.hid (TF.of_below hb12)
                        clear ho12 hb12
                        go_wp2_with fail
                        have cW := good_write G12.out j g12 128 (rep 3) _ O12.out (by omega) (by omega)
                        rw [Q3.out] at cW
                        refine cW.mono ?_
                        clear cW
                        rintro e W13 ⟨rfl, hg, ht⟩
                        have G13 : Hid (Good w0 W13 p (D3.write j (rep 3)).2) := hg
                        have T13 := Lib.hid ht
                        clear hg ht
                        have hTT := (((T11.out.trans T14.out).trans T15.out).trans T12.out).trans T13.out
                        have hKC : KpC w0 p w1.heap.size W5.heap.size (j + 1) W13 (D3.write j (rep 3)).2 has2 torn := ⟨G13.out, HL5.out, HR3.out.len, HR3.out.tlen, hTT.2 _ _ _ HR3.out.blk (by decide) (by decide) (by decide), hTT.2 _ _ _ HR3.out.tblk (by decide) (by decide) (by decide), HNx.out⟩
                        have HKC := Lib.hid hKC
                        clear hTT hKC
                        go_wp2_with fail
                        go_roundw
                        case rel => exact ⟨j + 1, by omega, by go_num, _, HKC⟩
                        case measure => simp [intOf]; omega
                    · obtain rfl : j = 6 := by omega
                      have QF3 := Lib.hid (congrArg Prod.fst hlv3.flush)
                      have QW3 : Hid ((D3.flush).2.waits.length = 0) := by show _ = _; rw [hlv3.flush]; rfl
                      clear hlv3
                      go_wp2_with fail
                      have cF := good_flush G10.out (by omega)
                      rw [QF3.out] at cF
                      refine cF.mono ?_
                      clear cF
                      rintro e W20 ⟨rfl, hg, ht⟩
                      have G20 : Hid (Good w0 W20 p (D3.flush).2) := hg
                      have T20 := Lib.hid ht
                      clear hg ht
                      go_wp2_with fail
                      have cW := good_waits G20.out
                      rw [QW3.out] at cW
                      refine cW.mono ?_
                      clear cW
                      rintro e W21 ⟨rfl, rfl⟩
                      go_wp2_with fail
                      refine (diskRuns_any _).mono ?_
                      rintro e W22 ⟨rfl, hb22⟩
                      have G22 := Lib.hid (G20.out.below hb22)
                      clear hb22
                      go_wp2_with fail
                      go_ret
                      exact ⟨rfl, G22.out.1⟩
              · have hlv := HR.out.live
                have HLv := Lib.hid hlv
                have hfew := hlv.few
                have hwro := hlv.wro
                have G2 : Hid (Good w0 wr p D2) := HR.out.good
                have HSA := Lib.hid (HA2.out.below HR.out.good.1).1
                have d1 : decide (i < l1.length) = false := by simp; omega
                clear hlv hgo
                go_wp2_with fail
                all_goals
                  refine (good_boot G2.out (by omega) A2 c2 how HSA.out hll2 (fun ad had hpos => .inl (HA2.out.2.2 ad had hpos))).mono ?_
                  rintro e W6 ⟨rfl, hg, ht⟩
                  have G6 : Hid (Good w0 W6 p (D2.boot how)) := hg
                  have T6 := Lib.hid ht
                  have hR2 : KpC w0 p w1.heap.size W5.heap.size 0 W6 (D2.boot how) has2 torn :=
                    ⟨hg, (boot_live HLv.out how).more (by omega), HR.out.len, HR.out.tlen, ht.2 _ _ _ HR.out.blk (by decide) (by decide) (by decide), ht.2 _ _ _ HR.out.tblk (by decide) (by decide) (by decide),
                     fun j x t _ hx htt => boot_read HLv.out HR.out.keeps (lt_of_get hx HR.out.len) hx htt⟩
                  have HR2 := Lib.hid hR2
                  clear hg ht hR2
                  go_wp2_with fail
                  go_loopw [111] (fun i wr => ∃ j : Nat, j ≤ 6 ∧ i = .int .i64 j ∧ ∃ D, Hid (KpC w0 p w1.heap.size W5.heap.size j wr D has2 torn)) (fun i _ => 6 - (intOf i).toNat)
                  case atStart => exact ⟨0, by omega, rfl, _, HR2⟩
                  case round =>
                    obtain ⟨j, hj, rfl, D3, HR3⟩ := hrel
                    have hlv3 := HR3.out.live
                    have HLv3 := Lib.hid hlv3
                    have hfew3 := hlv3.few
                    have hwro3 := hlv3.wro
                    have G10 : Hid (Good w0 wr p D3) := HR3.out.good
                    by_cases hj6 : j < 6
                    · obtain ⟨x, hx⟩ : ∃ x, has2[j]? = some x := ⟨_, List.getElem?_eq_getElem (by rw [HR3.out.len]; exact hj6)⟩
                      obtain ⟨t, htj⟩ : ∃ t, torn[j]? = some t := ⟨_, List.getElem?_eq_getElem (by rw [HR3.out.tlen]; exact hj6)⟩
                      have QR : Hid (D3.read j = want x t) := HR3.out.reads j x t (Nat.le_refl _) hx htj
                      have Q3 := Lib.hid (congrArg Prod.fst (hlv3.write (k := j) hj6 (rep_len 3)))
                      have hj0 : (0 : Int) ≤ (j : Int) := by omega
                      have hj1 : (j : Int) < 6 := by omega
                      have HX := Lib.hid hx
                      have HT := Lib.hid htj
                      have HNx : Hid (∀ (j' : Nat) (x : UInt8) (t : Bool), j + 1 ≤ j' → has2[j']? = some x → torn[j']? = some t → (D3.write j (rep 3)).2.read j' = want x t) := by
                        intro j' x' t' hjj hx' ht'
                        rw [HLv3.out.read_write hj6 (lt_of_get hx' HR3.out.len) (rep_len _), if_neg (by omega)]
                        exact HR3.out.reads j' x' t' (by omega) hx' ht'
                      have HL5 : Hid (Live (D3.write j (rep 3)).2 6 (j + 1 + 24)) := (hlv3.write_live (k := j) hj6 (rep_len 3)).more (by omega)
                      clear hx htj hlv3
                      cases t with
                      | true =>
                        go_wp2_with fail
                        have cR := good_read G10.out (by omega) j
                        rw [QR.out] at cR
                        refine cR.mono ?_
                        clear cR
                        rintro e W11 ⟨hb11, rfl⟩
                        have G11 := Lib.hid (G10.out.below hb11)
                        have B11 := Lib.hid hb11
                        have T11 := Lib.hid (TF.of_below hb11)
                        clear hb11
                        have bh := (T11.out).2 _ _ _ HR3.out.blk (by decide) (by decide) (by decide)
                        have bt := (T11.out).2 _ _ _ HR3.out.tblk (by decide) (by decide) (by decide)
                        have ch : W11.cell? ⟨w1.heap.size, j, none⟩ = some (.int .u8 (x.toNat : Int)) := by
                          rw [bh.cell]
                          show (arrC has2)[j]? = _
                          unfold arrC
                          rw [List.getElem?_toArray, List.getElem?_map, HX.out]; rfl
                        have ct : W11.cell? ⟨W5.heap.size, j, none⟩ = some (.bool true) := by
                          rw [bt.cell]
                          show (arrB torn)[j]? = _
                          unfold arrB
                          rw [List.getElem?_toArray, List.getElem?_map, HT.out]; rfl
                        clear bh bt
                        go_wp2_with fail
                        refine (fill_rep 3 _ rfl _).mono ?_
                        rintro e W12 ⟨g12, rfl, ho12, hb12⟩
                        have G12 := Lib.hid (G11.out.below hb12)
                        have O12 := Lib.hid ho12
                        have B12 := Lib.hid hb12
                        have T12 := Lib.hid (TF.of_below hb12)
                        clear ho12 hb12
                        go_wp2_with fail
                        have cW := good_write G12.out j g12 128 (rep 3) _ O12.out (by omega) (by omega)
                        rw [Q3.out] at cW
                        refine cW.mono ?_
                        clear cW
                        rintro e W13 ⟨rfl, hg, ht⟩
                        have G13 : Hid (Good w0 W13 p (D3.write j (rep 3)).2) := hg
                        have T13 := Lib.hid ht
                        clear hg ht
                        have hTT := (T11.out.trans T12.out).trans T13.out
                        have hKC : KpC w0 p w1.heap.size W5.heap.size (j + 1) W13 (D3.write j (rep 3)).2 has2 torn := ⟨G13.out, HL5.out, HR3.out.len, HR3.out.tlen, hTT.2 _ _ _ HR3.out.blk (by decide) (by decide) (by decide), hTT.2 _ _ _ HR3.out.tblk (by decide) (by decide) (by decide), HNx.out⟩
                        have HKC := Lib.hid hKC
                        clear hTT hKC
                        go_wp2_with fail
                        go_roundw
                        case rel => exact ⟨j + 1, by omega, by go_num, _, HKC⟩
                        case measure => simp [intOf]; omega
                      | false =>
                        go_wp2_with fail
                        have cR := good_read G10.out (by omega) j
                        rw [QR.out] at cR
                        refine cR.mono ?_
                        clear cR
                        rintro e W11 ⟨hb11, g11, c11, rfl, ho11⟩
                        have G11 := Lib.hid (G10.out.below hb11)
                        have B11 := Lib.hid hb11
                        have T11 := Lib.hid (TF.of_below hb11)
                        clear hb11
                        have O11 := Lib.hid ho11
                        clear ho11
                        have bh := (T11.out).2 _ _ _ HR3.out.blk (by decide) (by decide) (by decide)
                        have bt := (T11.out).2 _ _ _ HR3.out.tblk (by decide) (by decide) (by decide)
                        have ch : W11.cell? ⟨w1.heap.size, j, none⟩ = some (.int .u8 (x.toNat : Int)) := by
                          rw [bh.cell]
                          show (arrC has2)[j]? = _
                          unfold arrC
                          rw [List.getElem?_toArray, List.getElem?_map, HX.out]; rfl
                        have ct : W11.cell? ⟨W5.heap.size, j, none⟩ = some (.bool false) := by
                          rw [bt.cell]
                          show (arrB torn)[j]? = _
                          unfold arrB
                          rw [List.getElem?_toArray, List.getElem?_map, HT.out]; rfl
                        clear bh bt
                        go_wp2_with fail
                        refine (fill_rep x _ rfl _).mono ?_
                        rintro e W14 ⟨g14, rfl, ho14, hb14⟩
                        have G14 := Lib.hid (G11.out.below hb14)
                        have O14 := Lib.hid ho14
                        have B14 := Lib.hid hb14
                        have T14 := Lib.hid (TF.of_below hb14)
                        clear ho14 hb14
                        go_wp2_with fail
                        refine (same_any (some ⟨g11, 0, none⟩) (some ⟨g14, 0, none⟩) c11 128 (rep x) (rep x) _ true (by simp) (sameAt_of_owns (TF.owns T14.out O11.out (by decide) (by decide) (by decide))) (sameAt_of_owns O14.out) (by rw [rep_len]; omega) (by rw [rep_len]; omega)).mono ?_
                        rintro e W15 ⟨rfl, n15, hw15⟩
                        subst hw15
                        have G15 : Hid (Good w0 (W14.drewN n15) p D3) := G14.out.below (World.drewN_below _ _ _)
                        have T15 : Hid (TF W14 (W14.drewN n15)) := TF.of_below (World.drewN_below _ _ _)
                        go_wp2_with fail
                        refine (fill_rep 3 _ rfl _).mono ?_
                        rintro e W12 ⟨g12, rfl, ho12, hb12⟩
                        have G12 := Lib.hid (G15.out.below hb12)
                        have O12 := Lib.hid ho12
                        have B12 := Lib.hid hb12
                        have T12 := Lib.hid (TF.of_below hb12)
                        clear ho12 hb12
                        go_wp2_with fail
                        have cW := good_write G12.out j g12 128 (rep 3) _ O12.out (by omega) (by omega)
                        rw [Q3.out] at cW
                        refine cW.mono ?_
                        clear cW
                        rintro e W13 ⟨rfl, hg, ht⟩
                        have G13 : Hid (Good w0 W13 p (D3.write j (rep 3)).2) := hg
                        have T13 := Lib.hid ht
                        clear hg ht
                        have hTT := (((T11.out.trans T14.out).trans T15.out).trans T12.out).trans T13.out
                        have hKC : KpC w0 p w1.heap.size W5.heap.size (j + 1) W13 (D3.write j (rep 3)).2 has2 torn := ⟨G13.out, HL5.out, HR3.out.len, HR3.out.tlen, hTT.2 _ _ _ HR3.out.blk (by decide) (by decide) (by decide), hTT.2 _ _ _ HR3.out.tblk (by decide) (by decide) (by decide), HNx.out⟩
                        have HKC := Lib.hid hKC
                        clear hTT hKC
                        go_wp2_with fail
                        go_roundw
                        case rel => exact ⟨j + 1, by omega, by go_num, _, HKC⟩
                        case measure => simp [intOf]; omega
                    · obtain rfl : j = 6 := by omega
                      have QF3 := Lib.hid (congrArg Prod.fst hlv3.flush)
                      have QW3 : Hid ((D3.flush).2.waits.length = 0) := by show _ = _; rw [hlv3.flush]; rfl
                      clear hlv3
                      go_wp2_with fail
                      have cF := good_flush G10.out (by omega)
                      rw [QF3.out] at cF
                      refine cF.mono ?_
                      clear cF
                      rintro e W20 ⟨rfl, hg, ht⟩
                      have G20 : Hid (Good w0 W20 p (D3.flush).2) := hg
                      have T20 := Lib.hid ht
                      clear hg ht
                      go_wp2_with fail
                      have cW := good_waits G20.out
                      rw [QW3.out] at cW
                      refine cW.mono ?_
                      clear cW
                      rintro e W21 ⟨rfl, rfl⟩
                      go_wp2_with fail
                      refine (diskRuns_any _).mono ?_
                      rintro e W22 ⟨rfl, hb22⟩
                      have G22 := Lib.hid (G20.out.below hb22)
                      clear hb22
                      go_wp2_with fail
                      go_ret
                      exact ⟨rfl, G22.out.1⟩
      · have hlv := HR.out.live
        have HLv := Lib.hid hlv
        have hfew := hlv.few
        have hwro := hlv.wro
        have G2 : Hid (Good w0 wr p D) := HR.out.good
        have QF := Lib.hid (congrArg Prod.fst hlv.flush)
        have d1 : decide (i < l0.length) = false := by simp; omega
        clear hlv hgo
        go_wp2_with fail
        all_goals
          have cF := good_flush G2.out (by omega)
          rw [QF.out] at cF
          refine cF.mono ?_
          clear cF
          rintro e W5 ⟨rfl, hg, ht⟩
          have G5 : Hid (Good w0 W5 p (D.flush).2) := hg
          have T5 := Lib.hid ht
          clear hg ht
          go_wp2_with fail
          have hBt : Below W5.heap.size W5 (W5.alloc (.cells #[.bool false, .bool false, .bool false, .bool false, .bool false, .bool false] 49)) := (Below.refl _ _).alloc (Nat.le_refl _) _
          have hblk5 := T5.out.2 _ _ _ HR.out.blk (by decide) (by decide) (by decide)
          have hne : w1.heap.size ≠ W5.heap.size := Nat.ne_of_lt hblk5.lt
          have hne' := hne.symm
          have hR1 : KpB2 w0 p w1.heap.size W5.heap.size how 0 (W5.alloc (.cells #[.bool false, .bool false, .bool false, .bool false, .bool false, .bool false] 49)) (D.flush).2 has (List.replicate 6 false) := by
            refine ⟨G5.out.below hBt, (HLv.out.flush_live).more (by omega), by rw [HLv.out.flush]; rfl, HR.out.len, rfl, hblk5.alloc _, Blk.new _ _ _, hHb0, G5.out.1.size, ?_⟩
            refine keepsAs_start HLv.out.flush_live (by rw [HLv.out.flush]) ?_ HR.out.len
            intro j x hx
            rw [HLv.out.read_flush (lt_of_get hx HR.out.len)]
            exact HR.out.reads j x hx
          have HR1 := Lib.hid hR1
          have hHt0 : w0.heap.size ≤ W5.heap.size := G5.out.1.size
          clear hBt hblk5 hR1
          go_loopw [12] (fun i wr => ∃ i' : Nat, i' ≤ l1.length ∧ i' ≤ 12 ∧ i = .int .i64 i' ∧ ∃ D has torn, Hid (KpB2 w0 p w1.heap.size W5.heap.size how i' wr D has torn)) (fun i _ => l1.length - (intOf i).toNat)
          case atStart => exact ⟨0, by omega, by omega, rfl, _, _, _, HR1⟩
          case round =>
            obtain ⟨i, hi, hi12, rfl, D2, has2, torn, HR⟩ := hrel
            by_cases hgo : i < l1.length ∧ i < 12
            · obtain ⟨hlt, hlt12⟩ := hgo
              have d1 : decide ((i : Int) < (l1.length : Int)) = true := by simp; omega
              have d2 : decide ((i : Int) < 12) = true := by simp; omega
              obtain ⟨q, hq⟩ : ∃ q, l1[i]? = some q := ⟨_, List.getElem?_eq_getElem hlt⟩
              obtain ⟨b, off, rfl, hbl, hask⟩ : ∃ b off, A1 = some ⟨b, off, none⟩ ∧ b < w0.heap.size ∧ AskAt w0 b (off + i * 8) q := by
                rcases HA1.out.2 with h | ⟨b, off, h1, h2, h3⟩
                · rw [h] at hlt; simp at hlt
                · exact ⟨b, off, h1, h2, h3 i q hq⟩
              obtain ⟨k, hk, hk5⟩ := within_nat q.i 5 (by omega)
              have HK := Lib.hid hk
              have HAsk := Lib.hid hask
              have hc1 := (hask.below HR.out.good.1).c1
              have hc4 := (hask.below HR.out.good.1).c4
              have hwi := hask.wi
              have hi0 : (0 : Int) ≤ (i : Int) := by omega
              have hi1 : (i : Int) < (l1.length : Int) := by omega
              have hlv := HR.out.live
              have HLv := Lib.hid hlv
              have hfew := hlv.few
              have hwro := hlv.wro
              have G2 : Hid (Good w0 wr p D2) := HR.out.good
              have Q0 := Lib.hid (congrArg Prod.fst (hlv.write (k := k) (by omega) (rep_len q.x)))
              clear hq hk hask hlv
              go_wp2_with fail
              refine (within_any q.i 0 5 _ (by omega) (by omega) (by omega) hwi.1 hwi.2).mono ?_
              rintro e w' ⟨rfl, rfl⟩
              rw [HK.out]
              go_wp2_with fail
              refine (fill_rep q.x _ rfl _).mono ?_
              rintro e W3 ⟨g3, rfl, ho3, hb3⟩
              have G3 := Lib.hid (G2.out.below hb3)
              have O3 := Lib.hid ho3
              have B3 := Lib.hid hb3
              have T3 := Lib.hid (TF.of_below hb3)
              clear ho3 hb3
              go_wp2_with fail
              have cW := good_write G3.out k g3 128 (rep q.x) _ O3.out (by omega) (by omega)
              rw [Q0.out] at cW
              refine cW.mono ?_
              clear cW
              rintro e W4 ⟨rfl, hg, ht⟩
              have G4 : Hid (Good w0 W4 p (D2.write k (rep q.x)).2) := hg
              have T4 := Lib.hid ht
              clear hg ht
              have hc4' := (HAsk.out.below G4.out.1).c4
              have hblk4 := (T3.out.trans T4.out).2 _ _ _ HR.out.blk (by decide) (by decide) (by decide)
              have hu : ∃ u, W4.cell? ⟨w1.heap.size, k, none⟩ = some u := ⟨_, by rw [hblk4.cell]; exact Array.getElem?_eq_getElem (by have := HR.out.len; simp [arrC]; omega)⟩
              obtain ⟨u0, hu⟩ := hu
              have hfr := hblk4.frozen k
              have hk0 : (0 : Int) ≤ (k : Int) := by omega
              have hk6 : (k : Int) < 6 := by omega
              have HBL4 := Lib.hid hblk4
              clear hblk4 hc1 hc4
              have hcnt := HR.out.cnt
              have tblk4 := (T3.out.trans T4.out).2 _ _ _ HR.out.tblk (by decide) (by decide) (by decide)
              have ht : ∃ u, W4.cell? ⟨W5.heap.size, k, none⟩ = some u := ⟨_, by rw [tblk4.cell]; exact Array.getElem?_eq_getElem (by have := HR.out.tlen; simp [arrB]; omega)⟩
              obtain ⟨t0, ht⟩ := ht
              have htfr := tblk4.frozen k
              have HTL4 := Lib.hid tblk4
              have HKp := Lib.hid (keepsAs_write (n := 6) HR.out.keeps HLv.out (k := k) (by omega) HR.out.len HR.out.tlen q.x)
              have HL5 : Hid (Live (D2.write k (rep q.x)).2 6 (i + 1 + 12)) := (HLv.out.write_live (k := k) (by omega) (rep_len q.x)).more (by omega)
              have HCnt : Hid ((D2.write k (rep q.x)).2.waits.length = i + 1) := by show _ = _; rw [HLv.out.write (by omega) (rep_len _)]; simp [hcnt]
              have HCN := Lib.hid hcnt
              clear tblk4 hcnt
              by_cases hih : i < how.length
              · have d3 : decide ((i : Int) < (how.length : Int)) = true := by simp; omega
                obtain ⟨y, hy⟩ : ∃ y, how[i]? = some y := ⟨_, List.getElem?_eq_getElem hih⟩
                obtain ⟨ad, rfl, hcy⟩ := HA2.out.1.2 i y hy
                have hcy4 : W4.cell? (ad.add i) = some (BV y) := (G4.out.1.cell (World.block_lt_of_cell? w0 _ hcy)).trans hcy
                have hi2 : (i : Int) < (how.length : Int) := by omega
                have HY : Hid (how[D2.waits.length]? = some y) := by show _ = _; rw [HCN.out]; exact hy
                have hKp := HKp.out
                rw [HY.out] at hKp
                simp only at hKp
                unfold BV at hcy4
                clear hy hcy
                by_cases h1 : y.toNat % 3 = 1
                · have e1 : ((y.toNat : Int) % 3 == 1) = true := by simp; omega
                  have e2 : ((y.toNat : Int) % 3 == 2) = false := by simp; omega
                  rw [if_pos h1, if_pos h1] at hKp
                  have HKq := Lib.hid hKp
                  have HH1 := Lib.hid h1
                  have hA5 : Blk (W4.setCell ⟨w1.heap.size, k, none⟩ (BV q.x)) w1.heap.size 48 (arrC (has2.set k q.x)) := by
                    have := HBL4.out.set_ k (BV q.x)
                    unfold arrC at this ⊢
                    rw [List.map_set]
                    simpa using this
                  have hT5 : Blk (W4.setCell ⟨w1.heap.size, k, none⟩ (BV q.x)) W5.heap.size 49 (arrB torn) := HTL4.out.far (by simpa using hne') _
                  have hA6 : Blk ((W4.setCell ⟨w1.heap.size, k, none⟩ (BV q.x)).setCell ⟨W5.heap.size, k, none⟩ (.bool false)) w1.heap.size 48 (arrC (has2.set k q.x)) := hA5.far (by simpa using hne) _
                  have hT6 : Blk ((W4.setCell ⟨w1.heap.size, k, none⟩ (BV q.x)).setCell ⟨W5.heap.size, k, none⟩ (.bool false)) W5.heap.size 49 (arrB (torn.set k false)) := by
                    have := hT5.set_ k (.bool false)
                    unfold arrB at this ⊢
                    rw [List.map_set]
                    simpa using this
                  have hB5 := (G4.out.arr (o := k) (u := BV q.x) HBL4.out hHb0 (by decide) (by decide) (by decide) (by decide)).arr (o := k) (u := .bool false) hT5 hHt0 (by decide) (by decide) (by decide) (by decide)
                  have HA6 := Lib.hid hA6
                  have HT6 := Lib.hid hT6
                  have HB5 := Lib.hid hB5
                  unfold BV at HA6 HT6 HB5
                  clear hKp h1 hA5 hT5 hA6 hT6 hB5
                  go_wp2_with fail
                  go_roundw
                  case rel => exact ⟨i + 1, by omega, by omega, by go_num, _, _, _, HB5.out, HL5.out, HCnt.out, by rw [List.length_set]; exact HR.out.len, by rw [List.length_set]; exact HR.out.tlen, HA6.out, HT6.out, hHb0, hHt0, HKq.out⟩
                  case measure => simp [intOf]; omega
                · by_cases h2 : y.toNat % 3 = 2
                  · have e1 : ((y.toNat : Int) % 3 == 1) = false := by simp; omega
                    have e2 : ((y.toNat : Int) % 3 == 2) = true := by simp; omega
                    rw [if_neg h1, if_neg h1, if_pos h2] at hKp
                    have HKq := Lib.hid hKp
                    have hA6 : Blk (W4.setCell ⟨W5.heap.size, k, none⟩ (.bool true)) w1.heap.size 48 (arrC has2) := HBL4.out.far (by simpa using hne) _
                    have hT6 : Blk (W4.setCell ⟨W5.heap.size, k, none⟩ (.bool true)) W5.heap.size 49 (arrB (torn.set k true)) := by
                      have := HTL4.out.set_ k (.bool true)
                      unfold arrB at this ⊢
                      rw [List.map_set]
                      simpa using this
                    have hB5 := G4.out.arr (o := k) (u := .bool true) HTL4.out hHt0 (by decide) (by decide) (by decide) (by decide)
                    have HA6 := Lib.hid hA6
                    have HT6 := Lib.hid hT6
                    have HB5 := Lib.hid hB5
                    clear hKp h1 h2 hA6 hT6 hB5
                    go_wp2_with fail
                    go_roundw
                    case rel => exact ⟨i + 1, by omega, by omega, by go_num, _, _, _, HB5.out, HL5.out, HCnt.out, HR.out.len, by rw [List.length_set]; exact HR.out.tlen, HA6.out, HT6.out, hHb0, hHt0, HKq.out⟩
                    case measure => simp [intOf]; omega
                  · have e1 : ((y.toNat : Int) % 3 == 1) = false := by simp; omega
                    have e2 : ((y.toNat : Int) % 3 == 2) = false := by simp; omega
                    rw [if_neg h1, if_neg h1, if_neg h2] at hKp
                    have HKq := Lib.hid hKp
                    clear hKp h1 h2
                    go_wp2_with fail
                    go_roundw
                    case rel => exact ⟨i + 1, by omega, by omega, by go_num, _, _, _, G4.out, HL5.out, HCnt.out, HR.out.len, HR.out.tlen, HBL4.out, HTL4.out, hHb0, hHt0, HKq.out⟩
                    case measure => simp [intOf]; omega
              · have d3 : decide (i < how.length) = false := by simp; omega
                have hd3 : ¬ (i : Int) < (how.length : Int) := by omega
                have HY : Hid (how[D2.waits.length]? = none) := by show _ = _; rw [HCN.out]; exact List.getElem?_eq_none (by omega)
                have hKp := HKp.out
                rw [HY.out] at hKp
                simp only at hKp
                have HKq := Lib.hid hKp
                clear hKp hih
                go_wp2_with fail
                go_roundw
                case rel => exact ⟨i + 1, by omega, by omega, by go_num, _, _, _, G4.out, HL5.out, HCnt.out, HR.out.len, HR.out.tlen, HBL4.out, HTL4.out, hHb0, hHt0, HKq.out⟩
                case measure => simp [intOf]; omega
            · by_cases hlt1 : i < l1.length
              · have hlv := HR.out.live
                have HLv := Lib.hid hlv
                have hfew := hlv.few
                have hwro := hlv.wro
                have G2 : Hid (Good w0 wr p D2) := HR.out.good
                have HSA := Lib.hid (HA2.out.below HR.out.good.1).1
                have d1 : decide (i < l1.length) = true := by simp; omega
                have d2 : decide ((i : Int) < 12) = false := by simp; omega
                clear hlv hgo
                go_wp2_with fail
                all_goals
                  refine (good_boot G2.out (by omega) A2 c2 how HSA.out hll2 (fun ad had hpos => .inl (HA2.out.2.2 ad had hpos))).mono ?_
                  rintro e W6 ⟨rfl, hg, ht⟩
                  have G6 : Hid (Good w0 W6 p (D2.boot how)) := hg
                  have T6 := Lib.hid ht
                  have hR2 : KpC w0 p w1.heap.size W5.heap.size 0 W6 (D2.boot how) has2 torn :=
                    ⟨hg, (boot_live HLv.out how).more (by omega), HR.out.len, HR.out.tlen, ht.2 _ _ _ HR.out.blk (by decide) (by decide) (by decide), ht.2 _ _ _ HR.out.tblk (by decide) (by decide) (by decide),
                     fun j x t _ hx htt => boot_read HLv.out HR.out.keeps (lt_of_get hx HR.out.len) hx htt⟩
                  have HR2 := Lib.hid hR2
                  clear hg ht hR2
                  go_wp2_with fail
                  go_loopw [111] (fun i wr => ∃ j : Nat, j ≤ 6 ∧ i = .int .i64 j ∧ ∃ D, Hid (KpC w0 p w1.heap.size W5.heap.size j wr D has2 torn)) (fun i _ => 6 - (intOf i).toNat)
                  case atStart => exact ⟨0, by omega, rfl, _, HR2⟩
                  case round =>
                    obtain ⟨j, hj, rfl, D3, HR3⟩ := hrel
                    have hlv3 := HR3.out.live
                    have HLv3 := Lib.hid hlv3
                    have hfew3 := hlv3.few
                    have hwro3 := hlv3.wro
                    have G10 : Hid (Good w0 wr p D3) := HR3.out.good
                    by_cases hj6 : j < 6
                    · obtain ⟨x, hx⟩ : ∃ x, has2[j]? = some x := ⟨_, List.getElem?_eq_getElem (by rw [HR3.out.len]; exact hj6)⟩
                      obtain ⟨t, htj⟩ : ∃ t, torn[j]? = some t := ⟨_, List.getElem?_eq_getElem (by rw [HR3.out.tlen]; exact hj6)⟩
                      have QR : Hid (D3.read j = want x t) := HR3.out.reads j x t (Nat.le_refl _) hx htj
                      have Q3 := Lib.hid (congrArg Prod.fst (hlv3.write (k := j) hj6 (rep_len 3)))
                      have hj0 : (0 : Int) ≤ (j : Int) := by omega
                      have hj1 : (j : Int) < 6 := by omega
                      have HX := Lib.hid hx
                      have HT := Lib.hid htj
                      have HNx : Hid (∀ (j' : Nat) (x : UInt8) (t : Bool), j + 1 ≤ j' → has2[j']? = some x → torn[j']? = some t → (D3.write j (rep 3)).2.read j' = want x t) := by
                        intro j' x' t' hjj hx' ht'
                        rw [HLv3.out.read_write hj6 (lt_of_get hx' HR3.out.len) (rep_len _), if_neg (by omega)]
                        exact HR3.out.reads j' x' t' (by omega) hx' ht'
                      have HL5 : Hid (Live (D3.write j (rep 3)).2 6 (j + 1 + 24)) := (hlv3.write_live (k := j) hj6 (rep_len 3)).more (by omega)
                      clear hx htj hlv3
                      cases t with
                      | true =>
                        go_wp2_with fail
                        have cR := good_read G10.out (by omega) j
                        rw [QR.out] at cR
                        refine cR.mono ?_
                        clear cR
                        rintro e W11 ⟨hb11, rfl⟩
                        have G11 := Lib.hid (G10.out.below hb11)
                        have B11 := Lib.hid hb11
                        have T11 := Lib.hid (TF.of_below hb11)
                        clear hb11
                        have bh := (T11.out).2 _ _ _ HR3.out.blk (by decide) (by decide) (by decide)
                        have bt := (T11.out).2 _ _ _ HR3.out.tblk (by decide) (by decide) (by decide)
                        have ch : W11.cell? ⟨w1.heap.size, j, none⟩ = some (.int .u8 (x.toNat : Int)) := by
                          rw [bh.cell]
                          show (arrC has2)[j]? = _
                          unfold arrC
                          rw [List.getElem?_toArray, List.getElem?_map, HX.out]; rfl
                        have ct : W11.cell? ⟨W5.heap.size, j, none⟩ = some (.bool true) := by
                          rw [bt.cell]
                          show (arrB torn)[j]? = _
                          unfold arrB
                          rw [List.getElem?_toArray, List.getElem?_map, HT.out]; rfl
                        clear bh bt
                        go_wp2_with fail
                        refine (fill_rep 3 _ rfl _).mono ?_
                        rintro e W12 ⟨g12, rfl, ho12, hb12⟩
                        have G12 := Lib.hid (G11.out.below hb12)
                        have O12 := Lib.hid ho12
                        have B12 := Lib.hid hb12
                        have T12 := Lib.hid (TF.of_below hb12)
                        clear ho12 hb12
                        go_wp2_with fail
                        have cW := good_write G12.out j g12 128 (rep 3) _ O12.out (by omega) (by omega)
                        rw [Q3.out] at cW
                        refine cW.mono ?_
                        clear cW
                        rintro e W13 ⟨rfl, hg, ht⟩
                        have G13 : Hid (Good w0 W13 p (D3.write j (rep 3)).2) := hg
                        have T13 := Lib.hid ht
                        clear hg ht
                        have hTT := (T11.out.trans T12.out).trans T13.out
                        have hKC : KpC w0 p w1.heap.size W5.heap.size (j + 1) W13 (D3.write j (rep 3)).2 has2 torn := ⟨G13.out, HL5.out, HR3.out.len, HR3.out.tlen, hTT.2 _ _ _ HR3.out.blk (by decide) (by decide) (by decide), hTT.2 _ _ _ HR3.out.tblk (by decide) (by decide) (by decide), HNx.out⟩
                        have HKC := Lib.hid hKC
                        clear hTT hKC
                        go_wp2_with fail
                        go_roundw
                        case rel => exact ⟨j + 1, by omega, by go_num, _, HKC⟩
                        case measure => simp [intOf]; omega
                      | false =>
                        go_wp2_with fail
                        have cR := good_read G10.out (by omega) j
                        rw [QR.out] at cR
                        refine cR.mono ?_
                        clear cR
                        rintro e W11 ⟨hb11, g11, c11, rfl, ho11⟩
                        have G11 := Lib.hid (G10.out.below hb11)
                        have B11 := Lib.hid hb11
                        have T11 := Lib.hid (TF.of_below hb11)
                        clear hb11
                        have O11 := Lib.hid ho11
                        clear ho11
                        have bh := (T11.out).2 _ _ _ HR3.out.blk (by decide) (by decide) (by decide)
                        have bt := (T11.out).2 _ _ _ HR3.out.tblk (by decide) (by decide) (by decide)
                        have ch : W11.cell? ⟨w1.heap.size, j, none⟩ = some (.int .u8 (x.toNat : Int)) := by
                          rw [bh.cell]
                          show (arrC has2)[j]? = _
                          unfold arrC
                          rw [List.getElem?_toArray, List.getElem?_map, HX.out]; rfl
                        have ct : W11.cell? ⟨W5.heap.size, j, none⟩ = some (.bool false) := by
                          rw [bt.cell]
                          show (arrB torn)[j]? = _
                          unfold arrB
                          rw [List.getElem?_toArray, List.getElem?_map, HT.out]; rfl
                        clear bh bt
                        go_wp2_with fail
                        refine (fill_rep x _ rfl _).mono ?_
                        rintro e W14 ⟨g14, rfl, ho14, hb14⟩
                        have G14 := Lib.hid (G11.out.below hb14)
                        have O14 := Lib.hid ho14
                        have B14 := Lib.hid hb14
                        have T14 := Lib.hid (TF.of_below hb14)
                        clear ho14 hb14
                        go_wp2_with fail
                        refine (same_any (some ⟨g11, 0, none⟩) (some ⟨g14, 0, none⟩) c11 128 (rep x) (rep x) _ true (by simp) (sameAt_of_owns (TF.owns T14.out O11.out (by decide) (by decide) (by decide))) (sameAt_of_owns O14.out) (by rw [rep_len]; omega) (by rw [rep_len]; omega)).mono ?_
                        rintro e W15 ⟨rfl, n15, hw15⟩
                        subst hw15
                        have G15 : Hid (Good w0 (W14.drewN n15) p D3) := G14.out.below (World.drewN_below _ _ _)
                        have T15 : Hid (TF W14 (W14.drewN n15)) := TF.of_below (World.drewN_below _ _ _)
                        go_wp2_with fail
                        refine (fill_rep 3 _ rfl _).mono ?_
                        rintro e W12 ⟨g12, rfl, ho12, hb12⟩
                        have G12 := Lib.hid (G15.out.below hb12)
                        have O12 := Lib.hid ho12
                        have B12 := Lib.hid hb12
                        have T12 := Lib.hid (TF.of_below hb12)
                        clear ho12 hb12
                        go_wp2_with fail
                        have cW := good_write G12.out j g12 128 (rep 3) _ O12.out (by omega) (by omega)
                        rw [Q3.out] at cW
                        refine cW.mono ?_
                        clear cW
                        rintro e W13 ⟨rfl, hg, ht⟩
                        have G13 : Hid (Good w0 W13 p (D3.write j (rep 3)).2) := hg
                        have T13 := Lib.hid ht
                        clear hg ht
                        have hTT := (((T11.out.trans T14.out).trans T15.out).trans T12.out).trans T13.out
                        have hKC : KpC w0 p w1.heap.size W5.heap.size (j + 1) W13 (D3.write j (rep 3)).2 has2 torn := ⟨G13.out, HL5.out, HR3.out.len, HR3.out.tlen, hTT.2 _ _ _ HR3.out.blk (by decide) (by decide) (by decide), hTT.2 _ _ _ HR3.out.tblk (by decide) (by decide) (by decide), HNx.out⟩
                        have HKC := Lib.hid hKC
                        clear hTT hKC
                        go_wp2_with fail
                        go_roundw
                        case rel => exact ⟨j + 1, by omega, by go_num, _, HKC⟩
                        case measure => simp [intOf]; omega
                    · obtain rfl : j = 6 := by omega
                      have QF3 := Lib.hid (congrArg Prod.fst hlv3.flush)
                      have QW3 : Hid ((D3.flush).2.waits.length = 0) := by show _ = _; rw [hlv3.flush]; rfl
                      clear hlv3
                      go_wp2_with fail
                      have cF := good_flush G10.out (by omega)
                      rw [QF3.out] at cF
                      refine cF.mono ?_
                      clear cF
                      rintro e W20 ⟨rfl, hg, ht⟩
                      have G20 : Hid (Good w0 W20 p (D3.flush).2) := hg
                      have T20 := Lib.hid ht
                      clear hg ht
                      go_wp2_with fail
                      have cW := good_waits G20.out
                      rw [QW3.out] at cW
                      refine cW.mono ?_
                      clear cW
                      rintro e W21 ⟨rfl, rfl⟩
                      go_wp2_with fail
                      refine (diskRuns_any _).mono ?_
                      rintro e W22 ⟨rfl, hb22⟩
                      have G22 := Lib.hid (G20.out.below hb22)
                      clear hb22
                      go_wp2_with fail
                      go_ret
                      exact ⟨rfl, G22.out.1⟩
              · have hlv := HR.out.live
                have HLv := Lib.hid hlv
                have hfew := hlv.few
                have hwro := hlv.wro
                have G2 : Hid (Good w0 wr p D2) := HR.out.good
                have HSA := Lib.hid (HA2.out.below HR.out.good.1).1
                have d1 : decide (i < l1.length) = false := by simp; omega
                clear hlv hgo
                go_wp2_with fail
                all_goals
                  refine (good_boot G2.out (by omega) A2 c2 how HSA.out hll2 (fun ad had hpos => .inl (HA2.out.2.2 ad had hpos))).mono ?_
                  rintro e W6 ⟨rfl, hg, ht⟩
                  have G6 : Hid (Good w0 W6 p (D2.boot how)) := hg
                  have T6 := Lib.hid ht
                  have hR2 : KpC w0 p w1.heap.size W5.heap.size 0 W6 (D2.boot how) has2 torn :=
                    ⟨hg, (boot_live HLv.out how).more (by omega), HR.out.len, HR.out.tlen, ht.2 _ _ _ HR.out.blk (by decide) (by decide) (by decide), ht.2 _ _ _ HR.out.tblk (by decide) (by decide) (by decide),
                     fun j x t _ hx htt => boot_read HLv.out HR.out.keeps (lt_of_get hx HR.out.len) hx htt⟩
                  have HR2 := Lib.hid hR2
                  clear hg ht hR2
                  go_wp2_with fail
                  go_loopw [111] (fun i wr => ∃ j : Nat, j ≤ 6 ∧ i = .int .i64 j ∧ ∃ D, Hid (KpC w0 p w1.heap.size W5.heap.size j wr D has2 torn)) (fun i _ => 6 - (intOf i).toNat)
                  case atStart => exact ⟨0, by omega, rfl, _, HR2⟩
                  case round =>
                    obtain ⟨j, hj, rfl, D3, HR3⟩ := hrel
                    have hlv3 := HR3.out.live
                    have HLv3 := Lib.hid hlv3
                    have hfew3 := hlv3.few
                    have hwro3 := hlv3.wro
                    have G10 : Hid (Good w0 wr p D3) := HR3.out.good
                    by_cases hj6 : j < 6
                    · obtain ⟨x, hx⟩ : ∃ x, has2[j]? = some x := ⟨_, List.getElem?_eq_getElem (by rw [HR3.out.len]; exact hj6)⟩
                      obtain ⟨t, htj⟩ : ∃ t, torn[j]? = some t := ⟨_, List.getElem?_eq_getElem (by rw [HR3.out.tlen]; exact hj6)⟩
                      have QR : Hid (D3.read j = want x t) := HR3.out.reads j x t (Nat.le_refl _) hx htj
                      have Q3 := Lib.hid (congrArg Prod.fst (hlv3.write (k := j) hj6 (rep_len 3)))
                      have hj0 : (0 : Int) ≤ (j : Int) := by omega
                      have hj1 : (j : Int) < 6 := by omega
                      have HX := Lib.hid hx
                      have HT := Lib.hid htj
                      have HNx : Hid (∀ (j' : Nat) (x : UInt8) (t : Bool), j + 1 ≤ j' → has2[j']? = some x → torn[j']? = some t → (D3.write j (rep 3)).2.read j' = want x t) := by
                        intro j' x' t' hjj hx' ht'
                        rw [HLv3.out.read_write hj6 (lt_of_get hx' HR3.out.len) (rep_len _), if_neg (by omega)]
                        exact HR3.out.reads j' x' t' (by omega) hx' ht'
                      have HL5 : Hid (Live (D3.write j (rep 3)).2 6 (j + 1 + 24)) := (hlv3.write_live (k := j) hj6 (rep_len 3)).more (by omega)
                      clear hx htj hlv3
                      cases t with
                      | true =>
                        go_wp2_with fail
                        have cR := good_read G10.out (by omega) j
                        rw [QR.out] at cR
                        refine cR.mono ?_
                        clear cR
                        rintro e W11 ⟨hb11, rfl⟩
                        have G11 := Lib.hid (G10.out.below hb11)
                        have B11 := Lib.hid hb11
                        have T11 := Lib.hid (TF.of_below hb11)
                        clear hb11
                        have bh := (T11.out).2 _ _ _ HR3.out.blk (by decide) (by decide) (by decide)
                        have bt := (T11.out).2 _ _ _ HR3.out.tblk (by decide) (by decide) (by decide)
                        have ch : W11.cell? ⟨w1.heap.size, j, none⟩ = some (.int .u8 (x.toNat : Int)) := by
                          rw [bh.cell]
                          show (arrC has2)[j]? = _
                          unfold arrC
                          rw [List.getElem?_toArray, List.getElem?_map, HX.out]; rfl
                        have ct : W11.cell? ⟨W5.heap.size, j, none⟩ = some (.bool true) := by
                          rw [bt.cell]
                          show (arrB torn)[j]? = _
                          unfold arrB
                          rw [List.getElem?_toArray, List.getElem?_map, HT.out]; rfl
                        clear bh bt
                        go_wp2_with fail
                        refine (fill_rep 3 _ rfl _).mono ?_
                        rintro e W12 ⟨g12, rfl, ho12, hb12⟩
                        have G12 := Lib.hid (G11.out.below hb12)
                        have O12 := Lib.hid ho12
                        have B12 := Lib.hid hb12
                        have T12 := Lib.hid (TF.of_below hb12)
                        clear ho12 hb12
                        go_wp2_with fail
                        have cW := good_write G12.out j g12 128 (rep 3) _ O12.out (by omega) (by omega)
                        rw [Q3.out] at cW
                        refine cW.mono ?_
                        clear cW
                        rintro e W13 ⟨rfl, hg, ht⟩
                        have G13 : Hid (Good w0 W13 p (D3.write j (rep 3)).2) := hg
                        have T13 := Lib.hid ht
                        clear hg ht
                        have hTT := (T11.out.trans T12.out).trans T13.out
                        have hKC : KpC w0 p w1.heap.size W5.heap.size (j + 1) W13 (D3.write j (rep 3)).2 has2 torn := ⟨G13.out, HL5.out, HR3.out.len, HR3.out.tlen, hTT.2 _ _ _ HR3.out.blk (by decide) (by decide) (by decide), hTT.2 _ _ _ HR3.out.tblk (by decide) (by decide) (by decide), HNx.out⟩
                        have HKC := Lib.hid hKC
                        clear hTT hKC
                        go_wp2_with fail
                        go_roundw
                        case rel => exact ⟨j + 1, by omega, by go_num, _, HKC⟩
                        case measure => simp [intOf]; omega
                      | false =>
                        go_wp2_with fail
                        have cR := good_read G10.out (by omega) j
                        rw [QR.out] at cR
                        refine cR.mono ?_
                        clear cR
                        rintro e W11 ⟨hb11, g11, c11, rfl, ho11⟩
                        have G11 := Lib.hid (G10.out.below hb11)
                        have B11 := Lib.hid hb11
                        have T11 := Lib.hid (TF.of_below hb11)
                        clear hb11
                        have O11 := Lib.hid ho11
                        clear ho11
                        have bh := (T11.out).2 _ _ _ HR3.out.blk (by decide) (by decide) (by decide)
                        have bt := (T11.out).2 _ _ _ HR3.out.tblk (by decide) (by decide) (by decide)
                        have ch : W11.cell? ⟨w1.heap.size, j, none⟩ = some (.int .u8 (x.toNat : Int)) := by
                          rw [bh.cell]
                          show (arrC has2)[j]? = _
                          unfold arrC
                          rw [List.getElem?_toArray, List.getElem?_map, HX.out]; rfl
                        have ct : W11.cell? ⟨W5.heap.size, j, none⟩ = some (.bool false) := by
                          rw [bt.cell]
                          show (arrB torn)[j]? = _
                          unfold arrB
                          rw [List.getElem?_toArray, List.getElem?_map, HT.out]; rfl
                        clear bh bt
                        go_wp2_with fail
                        refine (fill_rep x _ rfl _).mono ?_
                        rintro e W14 ⟨g14, rfl, ho14, hb14⟩
                        have G14 := Lib.hid (G11.out.below hb14)
                        have O14 := Lib.hid ho14
                        have B14 := Lib.hid hb14
                        have T14 := Lib.hid (TF.of_below hb14)
                        clear ho14 hb14
                        go_wp2_with fail
                        refine (same_any (some ⟨g11, 0, none⟩) (some ⟨g14, 0, none⟩) c11 128 (rep x) (rep x) _ true (by simp) (sameAt_of_owns (TF.owns T14.out O11.out (by decide) (by decide) (by decide))) (sameAt_of_owns O14.out) (by rw [rep_len]; omega) (by rw [rep_len]; omega)).mono ?_
                        rintro e W15 ⟨rfl, n15, hw15⟩
                        subst hw15
                        have G15 : Hid (Good w0 (W14.drewN n15) p D3) := G14.out.below (World.drewN_below _ _ _)
                        have T15 : Hid (TF W14 (W14.drewN n15)) := TF.of_below (World.drewN_below _ _ _)
                        go_wp2_with fail
                        refine (fill_rep 3 _ rfl _).mono ?_
                        rintro e W12 ⟨g12, rfl, ho12, hb12⟩
                        have G12 := Lib.hid (G15.out.below hb12)
                        have O12 := Lib.hid ho12
                        have B12 := Lib.hid hb12
                        have T12 := Lib.hid (TF.of_below hb12)
                        clear ho12 hb12
                        go_wp2_with fail
                        have cW := good_write G12.out j g12 128 (rep 3) _ O12.out (by omega) (by omega)
                        rw [Q3.out] at cW
                        refine cW.mono ?_
                        clear cW
                        rintro e W13 ⟨rfl, hg, ht⟩
                        have G13 : Hid (Good w0 W13 p (D3.write j (rep 3)).2) := hg
                        have T13 := Lib.hid ht
                        clear hg ht
                        have hTT := (((T11.out.trans T14.out).trans T15.out).trans T12.out).trans T13.out
                        have hKC : KpC w0 p w1.heap.size W5.heap.size (j + 1) W13 (D3.write j (rep 3)).2 has2 torn := ⟨G13.out, HL5.out, HR3.out.len, HR3.out.tlen, hTT.2 _ _ _ HR3.out.blk (by decide) (by decide) (by decide), hTT.2 _ _ _ HR3.out.tblk (by decide) (by decide) (by decide), HNx.out⟩
                        have HKC := Lib.hid hKC
                        clear hTT hKC
                        go_wp2_with fail
                        go_roundw
                        case rel => exact ⟨j + 1, by omega, by go_num, _, HKC⟩
                        case measure => simp [intOf]; omega
                    · obtain rfl : j = 6 := by omega
                      have QF3 := Lib.hid (congrArg Prod.fst hlv3.flush)
                      have QW3 : Hid ((D3.flush).2.waits.length = 0) := by show _ = _; rw [hlv3.flush]; rfl
                      clear hlv3
                      go_wp2_with fail
                      have cF := good_flush G10.out (by omega)
                      rw [QF3.out] at cF
                      refine cF.mono ?_
                      clear cF
                      rintro e W20 ⟨rfl, hg, ht⟩
                      have G20 : Hid (Good w0 W20 p (D3.flush).2) := hg
                      have T20 := Lib.hid ht
                      clear hg ht
                      go_wp2_with fail
                      have cW := good_waits G20.out
                      rw [QW3.out] at cW
                      refine cW.mono ?_
                      clear cW
                      rintro e W21 ⟨rfl, rfl⟩
                      go_wp2_with fail
                      refine (diskRuns_any _).mono ?_
                      rintro e W22 ⟨rfl, hb22⟩
                      have G22 := Lib.hid (G20.out.below hb22)
                      clear hb22
                      go_wp2_with fail
                      go_ret
                      exact ⟨rfl, G22.out.1⟩

end Go.Proofs.Ytioieffmihdheaa
