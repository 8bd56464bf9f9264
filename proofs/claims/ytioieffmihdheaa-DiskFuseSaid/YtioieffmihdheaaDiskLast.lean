/- The law on what is read last: the walk. -/
import Derived.Test.YtioieffmihdheaaDiskLi
namespace Go.Proofs.Ytioieffmihdheaa
open Go.RowKit
set_option linter.unusedVariables false
set_option linter.unusedSimpArgs false

/-- five bytes in a variable -/
def arrC (l : List UInt8) : Array Value := (l.map BV).toArray

theorem five (l : List UInt8) (h : l.length = 5) : ∃ a b c d e, l = [a, b, c, d, e] := by
  match l, h with
  | [a, b, c, d, e], _ => exact ⟨a, b, c, d, e, rfl⟩

theorem index5 (x0 x1 x2 x3 x4 : Value) (j : Nat) (hj : j < 5) (y : Value) (hy : [x0, x1, x2, x3, x4][j]? = some y) : ∀ w : World, (Instr.index 43 (.agg #[x0, x1, x2, x3, x4]) (.int .i64 (j : Int))).run Try.prog w = .ok y w := by
  intro w
  match j, hj with
  | 0, _ => simp at hy; subst hy; rfl
  | 1, _ => simp at hy; subst hy; rfl
  | 2, _ => simp at hy; subst hy; rfl
  | 3, _ => simp at hy; subst hy; rfl
  | 4, _ => simp at hy; subst hy; rfl

/-- what holds at the head of a round -/
structure LastAt (w0 : World) (p Hb : Nat) (i : Nat) (wr : World) (D : PD) (has : List UInt8) : Prop where
  good : Good w0 wr p D
  live : Live D 5 i
  len : has.length = 5
  blk : Blk wr Hb 43 (arrC has)
  old : w0.heap.size ≤ Hb
  reads : ∀ (j : Nat) (x : UInt8), has[j]? = some x → D.read j = some (rep x)

set_option maxRecDepth 100000 in
set_option maxHeartbeats 6400000 in
theorem diskLast_any (A : Option Addr) (c : Nat) (l : List QAsk) (fl : Int) (w0 : World) (hA : Asks w0 A l) (hf1 : -9223372036854775808 ≤ fl) (hf2 : fl ≤ 9223372036854775807) :
    Calls Try.prog 6 #[.slice A l.length c, .int .i64 fl] w0 fun e w' => e = .returned (.bool true) ∧ Below w0.heap.size w0 w' := by
  obtain ⟨f, hf, hf3⟩ := within_nat fl 19 (by omega)
  have HF := Lib.hid hf
  have hll := hA.1
  have HA := Lib.hid hA
  clear hf hA
  go_enter Try.func6, Try.ntmps6
  go_wp2_with fail
  refine (new_any 5 _ (by omega) (by omega)).mono ?_
  rintro e w1 hm
  obtain ⟨p, M, rfl, _⟩ := id hm
  have G1 : Hid (Good w0 w1 p (PD.new 5)) := Good.start (Below.refl _ _) hm
  clear hm
  go_wp2_with fail
  have hB1 : Below w1.heap.size w1 (w1.alloc (.cells #[.int .u8 0, .int .u8 0, .int .u8 0, .int .u8 0, .int .u8 0] 43)) := (Below.refl _ _).alloc (Nat.le_refl _) _
  have hR0 : LastAt w0 p w1.heap.size 0 (w1.alloc (.cells #[.int .u8 0, .int .u8 0, .int .u8 0, .int .u8 0, .int .u8 0] 43)) (PD.new 5) [0, 0, 0, 0, 0] := by
    refine ⟨G1.out.below hB1, live_new 5 (by omega), rfl, Blk.new _ _ _, G1.out.1.size, ?_⟩
    intro j x hx
    have hj : j < 5 := by
      rcases Nat.lt_or_ge j 5 with h | h
      · exact h
      · rw [List.getElem?_eq_none (by simp; omega)] at hx; cases hx
    rw [read_new 5 j hj]
    congr 1
    match j, hj with
    | 0, _ => simp at hx; rw [← hx]
    | 1, _ => simp at hx; rw [← hx]
    | 2, _ => simp at hx; rw [← hx]
    | 3, _ => simp at hx; rw [← hx]
    | 4, _ => simp at hx; rw [← hx]
  have HR0 := Lib.hid hR0
  clear hB1 hR0
  go_loopw [7] (fun i wr => ∃ i' : Nat, i' ≤ l.length ∧ i' ≤ 20 ∧ i = .int .i64 i' ∧ ∃ D has, Hid (LastAt w0 p w1.heap.size i' wr D has)) (fun i _ => l.length - (intOf i).toNat)
  case atStart => exact ⟨0, by omega, by omega, rfl, _, _, HR0⟩
  case round =>
    obtain ⟨i, hi, hi20, rfl, D, has, HR⟩ := hrel
    by_cases hgo : i < l.length ∧ i < 20
    · obtain ⟨hlt, hlt20⟩ := hgo
      have d1 : decide ((i : Int) < (l.length : Int)) = true := by simp; omega
      have d2 : decide ((i : Int) < 20) = true := by simp; omega
      obtain ⟨q, hq⟩ : ∃ q, l[i]? = some q := ⟨_, List.getElem?_eq_getElem hlt⟩
      obtain ⟨b, off, rfl, hbl, hask⟩ : ∃ b off, A = some ⟨b, off, none⟩ ∧ b < w0.heap.size ∧ AskAt w0 b (off + i * 8) q := by
        rcases HA.out.2 with h | ⟨b, off, h1, h2, h3⟩
        · rw [h] at hlt; simp at hlt
        · exact ⟨b, off, h1, h2, h3 i q hq⟩
      obtain ⟨k, hk, hk4⟩ := within_nat q.i 4 (by omega)
      have HK := Lib.hid hk
      have HAsk := Lib.hid hask
      have hc1 := (hask.below HR.out.good.1).c1
      have hc4 := (hask.below HR.out.good.1).c4
      have hwi := hask.wi
      have hi0 : (0 : Int) ≤ (i : Int) := by omega
      have hi1 : (i : Int) < (l.length : Int) := by omega
      have hlv := HR.out.live
      have HLv := Lib.hid hlv
      have hfew := hlv.few
      have hwro := hlv.wro
      have G2 : Hid (Good w0 wr p D) := HR.out.good
      have Q0 := Lib.hid (congrArg Prod.fst (hlv.write (k := k) (by omega) (rep_len q.x)))
      clear hq hk hask hlv
      go_wp2_with fail
      refine (within_any q.i 0 4 _ (by omega) (by omega) (by omega) hwi.1 hwi.2).mono ?_
      rintro e w' ⟨rfl, rfl⟩
      rw [HK.out]
      go_wp2_with fail
      refine (fill_rep q.x _ rfl _).mono ?_
      rintro e W3 ⟨g3, rfl, ho3, hb3⟩
      have G3 := Lib.hid (G2.out.below hb3)
      have O3 := Lib.hid ho3
      have B3 := Lib.hid hb3
      have T3 := Lib.hid (TF.of_below hb3)
      clear ho3 hb3
      go_wp2_with fail
      have cW := good_write G3.out k g3 128 (rep q.x) _ O3.out (by omega) (by omega)
      rw [Q0.out] at cW
      refine cW.mono ?_
      clear cW
      rintro e W4 ⟨rfl, hg, ht⟩
      have G4 : Hid (Good w0 W4 p (D.write k (rep q.x)).2) := hg
      have T4 := Lib.hid ht
      clear hg ht
      have hc4' := (HAsk.out.below G4.out.1).c4
      have hblk4 := (T3.out.trans T4.out).2 _ _ _ HR.out.blk (by decide) (by decide) (by decide)
      have hu : ∃ u, W4.cell? ⟨w1.heap.size, k, none⟩ = some u := ⟨_, by rw [hblk4.cell]; exact Array.getElem?_eq_getElem (by have := HR.out.len; simp [arrC]; omega)⟩
      obtain ⟨u0, hu⟩ := hu
      have hfr := hblk4.frozen k
      have hk0 : (0 : Int) ≤ (k : Int) := by omega
      have hk5 : (k : Int) < 5 := by omega
      -- the array behind the store, the disk as it stands
      have hA5 : Blk (W4.setCell ⟨w1.heap.size, k, none⟩ (BV q.x)) w1.heap.size 43 (arrC (has.set k q.x)) := by
        have := hblk4.set_ k (BV q.x)
        unfold arrC at this ⊢
        rw [List.map_set]
        simpa using this
      have hB5 : Good w0 (W4.setCell ⟨w1.heap.size, k, none⟩ (BV q.x)) p (D.write k (rep q.x)).2 := by
        obtain ⟨h1, M', ⟨bb, nc, G, wv, L, hD, e1, e2, rfl⟩, h3⟩ := G4.out
        have hne := hD.blk_ne hblk4 (by decide) (by decide) (by decide)
        refine ⟨h1.setCell HR.out.old _, dskM p bb wv, ⟨bb, nc, G, wv, L, ?_, e1, e2, rfl⟩, h3⟩
        exact (hD.arr hblk4 (by decide) (by decide) (by decide) (by decide)).more (by simp [World.setCell])
      have HA5 := Lib.hid hA5
      have HB5 := Lib.hid hB5
      have HR5 : Hid (∀ (j : Nat) (x : UInt8), (has.set k q.x)[j]? = some x → (D.write k (rep q.x)).2.read j = some (rep x)) := by
        intro j x hx
        have hj : j < 5 := by
          rcases Nat.lt_or_ge j 5 with h | h
          · exact h
          · rw [List.getElem?_eq_none (by have := HR.out.len; simp; omega)] at hx; cases hx
        rw [HLv.out.read_write (by omega) hj (rep_len _)]
        rw [List.getElem?_set] at hx
        by_cases e : k = j
        · rw [if_pos e] at hx ⊢
          rw [if_pos (by have := HR.out.len; omega)] at hx
          rw [Option.some.inj hx]
        · rw [if_neg e] at hx ⊢
          exact HR.out.reads j x hx
      have HL5 : Hid (Live (D.write k (rep q.x)).2 5 (i + 1)) := HLv.out.write_live (by omega) (rep_len _)
      unfold BV at HA5 HB5
      clear hblk4 hA5 hB5 hc1 hc4
      by_cases hfl : i = f
      · have e1 : ((i : Int) == (f : Int)) = true := by simp; omega
        have QF := Lib.hid (congrArg Prod.fst HL5.out.flush)
        have hfw := HL5.out.few
        have HFL := Lib.hid hfl
        clear hfl
        go_wp2_with fail
        refine (within_any fl 0 19 _ (by omega) (by omega) (by omega) hf1 hf2).mono ?_
        rintro e w' ⟨rfl, rfl⟩
        rw [HF.out]
        go_wp2_with fail
        have cF := good_flush HB5.out (by omega)
        rw [QF.out] at cF
        refine cF.mono ?_
        clear cF
        rintro e W6 ⟨rfl, hg, ht⟩
        have G6 : Hid (Good w0 W6 p ((D.write k (rep q.x)).2.flush).2) := hg
        have T6 := Lib.hid ht
        clear hg ht
        have HA6 : Hid (Blk W6 w1.heap.size 43 (arrC (has.set k q.x))) := T6.out.2 _ _ _ HA5.out (by decide) (by decide) (by decide)
        have HR6 : Hid (∀ (j : Nat) (x : UInt8), (has.set k q.x)[j]? = some x → ((D.write k (rep q.x)).2.flush).2.read j = some (rep x)) := by
          intro j x hx
          have hj : j < 5 := by
            rcases Nat.lt_or_ge j 5 with h | h
            · exact h
            · rw [List.getElem?_eq_none (by have := HR.out.len; simp; omega)] at hx; cases hx
          rw [HL5.out.read_flush hj]
          exact HR5.out j x hx
        have HL6 : Hid (Live ((D.write k (rep q.x)).2.flush).2 5 (i + 1)) := HL5.out.flush_live
        obtain ⟨x0, x1, x2, x3, x4, hx⟩ := five (has.set k q.x) (by rw [List.length_set]; exact HR.out.len)
        have BA := HA6.out
        rw [hx] at BA
        have z0 : W6.cell? ⟨w1.heap.size, 0, none⟩ = some (.int .u8 (x0.toNat : Int)) := BA.cell 0
        have z1 : W6.cell? ⟨w1.heap.size, 1, none⟩ = some (.int .u8 (x1.toNat : Int)) := BA.cell 1
        have z2 : W6.cell? ⟨w1.heap.size, 2, none⟩ = some (.int .u8 (x2.toNat : Int)) := BA.cell 2
        have z3 : W6.cell? ⟨w1.heap.size, 3, none⟩ = some (.int .u8 (x3.toNat : Int)) := BA.cell 3
        have z4 : W6.cell? ⟨w1.heap.size, 4, none⟩ = some (.int .u8 (x4.toNat : Int)) := BA.cell 4
        have HBA := Lib.hid BA
        have RD : Hid (∀ (j : Nat) (x : UInt8), [x0, x1, x2, x3, x4][j]? = some x → (((D.write k (rep q.x)).2.flush).2).read j = some (rep x)) := by rw [← hx]; exact HR6.out
        have LV := HL6
        have hfewD := LV.out.few
        clear BA hx
        go_wp2_with fail
        go_loopw [63] (fun i wr => ∃ j : Nat, j ≤ 5 ∧ i = .int .i64 j ∧ Hid (Below (W6).heap.size (W6) wr)) (fun i _ => 5 - (intOf i).toNat)
        case atStart => exact ⟨0, by omega, rfl, Below.refl _ _⟩
        case round =>
          obtain ⟨j, hj, rfl, HBj⟩ := hrel
          by_cases hj5 : j < 5
          · obtain ⟨y, hy⟩ : ∃ y, [x0, x1, x2, x3, x4][j]? = some y := ⟨_, List.getElem?_eq_getElem (by simpa using hj5)⟩
            have hix := index5 (BV x0) (BV x1) (BV x2) (BV x3) (BV x4) j hj5 (BV y) (by
              have := congrArg (Option.map BV) hy
              rw [← List.getElem?_map] at this
              exact this)
            unfold BV at hix
            have HY := Lib.hid hy
            have QR : Hid ((((D.write k (rep q.x)).2.flush).2).read j = some (rep y)) := RD.out j y hy
            have Gj : Hid (Good w0 wr p (((D.write k (rep q.x)).2.flush).2)) := G6.out.below HBj.out
            clear hy
            go_wp2_with fail
            clear hix
            have cR := good_read Gj.out (by omega) j
            rw [QR.out] at cR
            refine cR.mono ?_
            clear cR
            rintro e W20 ⟨hb20, g20, c20, rfl, ho20⟩
            have G20 := Lib.hid (Gj.out.below hb20)
            have B20 := Lib.hid hb20
            have T20 := Lib.hid (TF.of_below hb20)
            clear hb20
            have O20 := Lib.hid ho20
            clear ho20
            go_wp2_with fail
            refine (fill_rep y _ rfl _).mono ?_
            rintro e W21 ⟨g21, rfl, ho21, hb21⟩
            have G21 := Lib.hid (G20.out.below hb21)
            have O21 := Lib.hid ho21
            have B21 := Lib.hid hb21
            have T21 := Lib.hid (TF.of_below hb21)
            clear ho21 hb21
            go_wp2_with fail
            refine (same_any (some ⟨g20, 0, none⟩) (some ⟨g21, 0, none⟩) c20 128 (rep y) (rep y) _ true (by simp) (sameAt_of_owns (TF.owns T21.out O20.out (by decide) (by decide) (by decide))) (sameAt_of_owns O21.out) (by rw [rep_len]; omega) (by rw [rep_len]; omega)).mono ?_
            rintro e W22 ⟨rfl, n22, hw22⟩
            subst hw22
            have O22 : Hid ((W21.drewN n22).ownsRow wr.heap.size 5 1 (.slice (some ⟨g20, 0, none⟩) (rep y).length c20) (rep y).length ((rep y).map BV)) := TF.owns T21.out O20.out (by decide) (by decide) (by decide)
            have hyl := rep_len y
            have hyp : (0 : Int) < ((rep y).length : Int) := by omega
            have hcy : (W21.drewN n22).cell? ⟨g20, 0, none⟩ = some (.int .u8 (y.toNat : Int)) := by
              rw [O22.out.cellAt 0 (by omega)]
              rfl
            have hfy := O22.out.frozenAt 0
            have hgl := (O20.out.lt g20 rfl).1
            have hB22 : Below (W6).heap.size (W6) (W21.drewN n22) := ((HBj.out.trans (B20.out.mono HBj.out.size)).trans (B21.out.mono (Nat.le_trans HBj.out.size B20.out.size))).trans (World.drewN_below _ _ _)
            have HB22 := Lib.hid hB22
            have hwz := HBj.out.size
            clear hyl hB22
            go_wp2_with fail
            go_roundw
            case rel => exact ⟨j + 1, by omega, by go_num, HB22.out.setCell (p := ⟨g20, 0, none⟩) (Nat.le_trans hwz hgl) _⟩
            case measure => simp [intOf]; omega
          · obtain rfl : j = 5 := by omega
            go_wp2_with fail
            go_roundw
            case rel =>
              refine ⟨i + 1, by omega, by omega, by go_num, _, [x0, x1, x2, x3, x4], G6.out.below HBj.out, LV.out, rfl, ?_, HR.out.old, RD.out⟩
              exact Below.blk HBj.out HBA.out HBA.out.lt
            case measure => simp [intOf]; omega
      · have e1 : ((i : Int) == (f : Int)) = false := by simp; omega
        generalize hW5 : W4.setCell ⟨w1.heap.size, k, none⟩ (Value.int .u8 (q.x.toNat : Int)) = W5 at *
        have HFL := Lib.hid hfl
        clear hfl
        go_wp2_with fail
        clear hW5
        refine (within_any fl 0 19 _ (by omega) (by omega) (by omega) hf1 hf2).mono ?_
        rintro e w' ⟨rfl, rfl⟩
        rw [HF.out]
        obtain ⟨x0, x1, x2, x3, x4, hx⟩ := five (has.set k q.x) (by rw [List.length_set]; exact HR.out.len)
        have BA := HA5.out
        rw [hx] at BA
        have z0 : W5.cell? ⟨w1.heap.size, 0, none⟩ = some (.int .u8 (x0.toNat : Int)) := BA.cell 0
        have z1 : W5.cell? ⟨w1.heap.size, 1, none⟩ = some (.int .u8 (x1.toNat : Int)) := BA.cell 1
        have z2 : W5.cell? ⟨w1.heap.size, 2, none⟩ = some (.int .u8 (x2.toNat : Int)) := BA.cell 2
        have z3 : W5.cell? ⟨w1.heap.size, 3, none⟩ = some (.int .u8 (x3.toNat : Int)) := BA.cell 3
        have z4 : W5.cell? ⟨w1.heap.size, 4, none⟩ = some (.int .u8 (x4.toNat : Int)) := BA.cell 4
        have HBA := Lib.hid BA
        have RD : Hid (∀ (j : Nat) (x : UInt8), [x0, x1, x2, x3, x4][j]? = some x → ((D.write k (rep q.x)).2).read j = some (rep x)) := by rw [← hx]; exact HR5.out
        have LV := HL5
        have hfewD := LV.out.few
        clear BA hx
        go_wp2_with fail
        go_loopw [63] (fun i wr => ∃ j : Nat, j ≤ 5 ∧ i = .int .i64 j ∧ Hid (Below (W5).heap.size (W5) wr)) (fun i _ => 5 - (intOf i).toNat)
        case atStart => exact ⟨0, by omega, rfl, Below.refl _ _⟩
        case round =>
          obtain ⟨j, hj, rfl, HBj⟩ := hrel
          by_cases hj5 : j < 5
          · obtain ⟨y, hy⟩ : ∃ y, [x0, x1, x2, x3, x4][j]? = some y := ⟨_, List.getElem?_eq_getElem (by simpa using hj5)⟩
            have hix := index5 (BV x0) (BV x1) (BV x2) (BV x3) (BV x4) j hj5 (BV y) (by
              have := congrArg (Option.map BV) hy
              rw [← List.getElem?_map] at this
              exact this)
            unfold BV at hix
            have HY := Lib.hid hy
            have QR : Hid (((D.write k (rep q.x)).2).read j = some (rep y)) := RD.out j y hy
            have Gj : Hid (Good w0 wr p ((D.write k (rep q.x)).2)) := HB5.out.below HBj.out
            clear hy
            go_wp2_with fail
            clear hix
            have cR := good_read Gj.out (by omega) j
            rw [QR.out] at cR
            refine cR.mono ?_
            clear cR
            rintro e W20 ⟨hb20, g20, c20, rfl, ho20⟩
            have G20 := Lib.hid (Gj.out.below hb20)
            have B20 := Lib.hid hb20
            have T20 := Lib.hid (TF.of_below hb20)
            clear hb20
            have O20 := Lib.hid ho20
            clear ho20
            go_wp2_with fail
            refine (fill_rep y _ rfl _).mono ?_
            rintro e W21 ⟨g21, rfl, ho21, hb21⟩
            have G21 := Lib.hid (G20.out.below hb21)
            have O21 := Lib.hid ho21
            have B21 := Lib.hid hb21
            have T21 := Lib.hid (TF.of_below hb21)
            clear ho21 hb21
            go_wp2_with fail
            refine (same_any (some ⟨g20, 0, none⟩) (some ⟨g21, 0, none⟩) c20 128 (rep y) (rep y) _ true (by simp) (sameAt_of_owns (TF.owns T21.out O20.out (by decide) (by decide) (by decide))) (sameAt_of_owns O21.out) (by rw [rep_len]; omega) (by rw [rep_len]; omega)).mono ?_
            rintro e W22 ⟨rfl, n22, hw22⟩
            subst hw22
            have O22 : Hid ((W21.drewN n22).ownsRow wr.heap.size 5 1 (.slice (some ⟨g20, 0, none⟩) (rep y).length c20) (rep y).length ((rep y).map BV)) := TF.owns T21.out O20.out (by decide) (by decide) (by decide)
            have hyl := rep_len y
            have hyp : (0 : Int) < ((rep y).length : Int) := by omega
            have hcy : (W21.drewN n22).cell? ⟨g20, 0, none⟩ = some (.int .u8 (y.toNat : Int)) := by
              rw [O22.out.cellAt 0 (by omega)]
              rfl
            have hfy := O22.out.frozenAt 0
            have hgl := (O20.out.lt g20 rfl).1
            have hB22 : Below (W5).heap.size (W5) (W21.drewN n22) := ((HBj.out.trans (B20.out.mono HBj.out.size)).trans (B21.out.mono (Nat.le_trans HBj.out.size B20.out.size))).trans (World.drewN_below _ _ _)
            have HB22 := Lib.hid hB22
            have hwz := HBj.out.size
            clear hyl hB22
            go_wp2_with fail
            go_roundw
            case rel => exact ⟨j + 1, by omega, by go_num, HB22.out.setCell (p := ⟨g20, 0, none⟩) (Nat.le_trans hwz hgl) _⟩
            case measure => simp [intOf]; omega
          · obtain rfl : j = 5 := by omega
            go_wp2_with fail
            go_roundw
            case rel =>
              refine ⟨i + 1, by omega, by omega, by go_num, _, [x0, x1, x2, x3, x4], HB5.out.below HBj.out, LV.out, rfl, ?_, HR.out.old, RD.out⟩
              exact Below.blk HBj.out HBA.out HBA.out.lt
            case measure => simp [intOf]; omega
    · have hR := HR.out
      have hlv := hR.live
      have hfew := hlv.few
      have QA : Hid (D.read (-1) = none) := by show _ = _; unfold PD.read; rw [if_neg (by omega)]
      have QB : Hid (D.read 5 = none) := by show _ = _; unfold PD.read; rw [if_neg (by rw [hlv.len]; omega)]
      have G2 : Hid (Good w0 wr p D) := hR.good
      clear hR hlv
      by_cases h1 : i < l.length
      · have d1 : decide (i < l.length) = true := by simp; omega
        have d2 : decide ((i : Int) < 20) = false := by simp; omega
        clear hgo h1
        go_wp2_with fail
        all_goals
          have cR := good_read G2.out (by omega) (-1)
          rw [QA.out] at cR
          refine cR.mono ?_
          clear cR
          rintro e W30 ⟨hb30, rfl⟩
          have G30 := Lib.hid (G2.out.below hb30)
          have B30 := Lib.hid hb30
          have T30 := Lib.hid (TF.of_below hb30)
          clear hb30
          go_wp2_with fail
          have cR := good_read G30.out (by omega) 5
          rw [QB.out] at cR
          refine cR.mono ?_
          clear cR
          rintro e W31 ⟨hb31, rfl⟩
          have G31 := Lib.hid (G30.out.below hb31)
          have B31 := Lib.hid hb31
          have T31 := Lib.hid (TF.of_below hb31)
          clear hb31
          go_wp2_with fail
          refine (diskRuns_any _).mono ?_
          rintro e W32 ⟨rfl, hb32⟩
          have G32 := Lib.hid (G31.out.below hb32)
          clear hb32
          go_wp2_with fail
          go_ret
          exact ⟨rfl, G32.out.1⟩
      · have d1 : decide (i < l.length) = false := by simp; omega
        clear hgo h1
        go_wp2_with fail
        all_goals
          have cR := good_read G2.out (by omega) (-1)
          rw [QA.out] at cR
          refine cR.mono ?_
          clear cR
          rintro e W30 ⟨hb30, rfl⟩
          have G30 := Lib.hid (G2.out.below hb30)
          have B30 := Lib.hid hb30
          have T30 := Lib.hid (TF.of_below hb30)
          clear hb30
          go_wp2_with fail
          have cR := good_read G30.out (by omega) 5
          rw [QB.out] at cR
          refine cR.mono ?_
          clear cR
          rintro e W31 ⟨hb31, rfl⟩
          have G31 := Lib.hid (G30.out.below hb31)
          have B31 := Lib.hid hb31
          have T31 := Lib.hid (TF.of_below hb31)
          clear hb31
          go_wp2_with fail
          refine (diskRuns_any _).mono ?_
          rintro e W32 ⟨rfl, hb32⟩
          have G32 := Lib.hid (G31.out.below hb32)
          clear hb32
          go_wp2_with fail
          go_ret
          exact ⟨rfl, G32.out.1⟩

end Go.Proofs.Ytioieffmihdheaa
