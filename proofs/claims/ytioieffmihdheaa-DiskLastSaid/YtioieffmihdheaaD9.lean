/- Arm and Burst, of a disk. -/
import Derived.Test.YtioieffmihdheaaD8
namespace Go.Proofs.Ytioieffmihdheaa
open Go.RowKit
set_option linter.unusedVariables false
set_option linter.unusedSimpArgs false

set_option maxRecDepth 100000 in
set_option maxHeartbeats 800000 in
theorem arm_any {n0 : Nat} {w : World} {p bb nc : Nat} {G : List (Value × Option (List UInt8))} {wv : Value} {L : List (Nat × Value × List UInt8)} {fuse : Int} {off : Bool} {wrote : Int} (h : DskG n0 w p bb nc G wv L fuse off wrote)
    (n : Int) (hn : n ≤ 9223372036854775807) :
    Calls Try.prog 26 #[.pointer (some ⟨p, 0, none⟩), .int .i64 n] w fun e w' => e = .returned (.tuple #[]) ∧ Kp [p] w w' ∧ DskG n0 w' p bb nc G wv L (max n (-1)) off wrote := by
  have c2 := h.c2
  have f2 := h.self.frozen 2
  have HH := Lib.hid h
  have hk : ∀ v, Kp [p] w (w.setCell ⟨p, 2, none⟩ v) := fun v => (Kp.refl [p] w).setCell (.inl (by simp)) v
  have HR : ∀ m : Int, -1 ≤ m → m ≤ 9223372036854775807 → DskG n0 (w.setCell ⟨p, 2, none⟩ (.int .i64 m)) p bb nc G wv L m off wrote := fun m h1 h2 => h.reself (hk _) (h.self.set_ 2 (.int .i64 m)) h1 h2 h.wro
  have HR' := Lib.hid HR
  have HK := Lib.hid hk
  clear h HR hk
  by_cases h1 : n < -1
  · go_enter Try.func26, Try.ntmps26
    go_wp2
    go_end0
    refine ⟨rfl, HK.out _, ?_⟩
    rw [show max n (-1) = -1 from by omega]
    exact HR'.out (-1) (by omega) (by omega)
  · have h2 : -1 ≤ n := by omega
    clear h1
    go_enter Try.func26, Try.ntmps26
    go_wp2
    go_end0
    refine ⟨rfl, HK.out _, ?_⟩
    rw [show max n (-1) = n from by omega]
    exact HR'.out n (by omega) (by omega)

set_option maxRecDepth 100000 in
set_option maxHeartbeats 800000 in
theorem burst_bad {n0 : Nat} {w : World} {p bb nc : Nat} {G : List (Value × Option (List UInt8))} {wv : Value} {L : List (Nat × Value × List UInt8)} {fuse : Int} {off : Bool} {wrote : Int} (h : DskG n0 w p bb nc G wv L fuse off wrote)
    (i a : Int) (x : Nat) (hL : L.length ≤ 1048576) (hb : ¬ (0 ≤ i ∧ i < G.length ∧ 0 ≤ a ∧ a ≤ 124 ∧ L = [])) :
    Calls Try.prog 28 #[.pointer (some ⟨p, 0, none⟩), .int .i64 i, .int .i64 a, .int .u32 (x : Int)] w fun e w' => e = .returned (.bool false) ∧ w = w' := by
  obtain ⟨A, c, hwv⟩ := h.wvslice
  subst hwv
  have c0 := h.c0
  have c1 := h.c1
  have hfew := h.few
  clear h
  by_cases hi : 0 ≤ i ∧ i < G.length
  · have HR : Hid (decide (0 ≤ i ∧ i < (G.length : Int)) = true) := by show decide _ = true; simpa using hi
    by_cases h1 : a < 0
    · have d1 : decide (a < 0) = true := by simpa using h1
      clear hb hi h1
      go_enter Try.func28, Try.ntmps28
      go_wp2_with (go_at_call 39; refine (has_any p bb nc G.length i _ true c0 hfew HR.out).mono ?_; rintro e w' ⟨rfl, rfl⟩)
      go_ret
      exact ⟨rfl, rfl⟩
    · have d1 : decide (a < 0) = false := by simpa using h1
      by_cases h2 : 124 < a
      · have d2 : decide (124 < a) = true := by simpa using h2
        clear hb hi h1 h2
        go_enter Try.func28, Try.ntmps28
        go_wp2_with (go_at_call 39; refine (has_any p bb nc G.length i _ true c0 hfew HR.out).mono ?_; rintro e w' ⟨rfl, rfl⟩)
        go_ret
        exact ⟨rfl, rfl⟩
      · have d2 : decide (124 < a) = false := by simpa using h2
        have h3 : 0 < L.length := by
          rcases Nat.eq_zero_or_pos L.length with h | h
          · exact absurd ⟨hi.1, hi.2, by omega, by omega, List.eq_nil_of_length_eq_zero h⟩ hb
          · exact h
        have d3 : decide ((0 : Int) < (L.length : Int)) = true := by simp; omega
        clear hb hi h1 h2
        go_enter Try.func28, Try.ntmps28
        go_wp2_with (go_at_call 39; refine (has_any p bb nc G.length i _ true c0 hfew HR.out).mono ?_; rintro e w' ⟨rfl, rfl⟩)
        go_ret
        exact ⟨rfl, rfl⟩
  · have HR : Hid (decide (0 ≤ i ∧ i < (G.length : Int)) = false) := by show decide _ = false; simpa using hi
    clear hb hi
    go_enter Try.func28, Try.ntmps28
    go_wp2_with (go_at_call 39; refine (has_any p bb nc G.length i _ false c0 hfew HR.out).mono ?_; rintro e w' ⟨rfl, rfl⟩)
    go_ret
    exact ⟨rfl, rfl⟩

/-- a block of the disk is told -/
theorem DskG.block_cell {n0 : Nat} {w : World} {p bb nc : Nat} {G : List (Value × Option (List UInt8))} {wv : Value} {L : List (Nat × Value × List UInt8)} {fuse : Int} {off : Bool} {wrote : Int} (h : DskG n0 w p bb nc G wv L fuse off wrote)
    {i : Nat} {x : Value × Option (List UInt8)} (hx : G[i]? = some x) : w.cell? ⟨bb, i, none⟩ = some x.1 ∧ w.frozen? ⟨bb, i, none⟩ = false ∧ OptB n0 w x.1 x.2 := by
  obtain ⟨cs, r1, r2, r3, r4, r5⟩ := h.row
  refine ⟨?_, r1.frozen i, h.each x (List.mem_of_getElem? hx)⟩
  rw [r1.cell]
  have hi : i < G.length := by
    rcases Nat.lt_or_ge i G.length with h | h
    · exact h
    · rw [List.getElem?_eq_none h] at hx; cases hx
  have h1 : (cs.toList.take G.length)[i]? = some x.1 := by rw [r5, List.getElem?_map, hx]; rfl
  rw [List.getElem?_take, if_pos hi] at h1
  simpa using h1

set_option maxRecDepth 100000 in
set_option maxHeartbeats 800000 in
theorem burst_torn {n0 : Nat} {w : World} {p bb nc : Nat} {G : List (Value × Option (List UInt8))} {wv : Value} {fuse : Int} {off : Bool} {wrote : Int} (h : DskG n0 w p bb nc G wv [] fuse off wrote)
    (i : Nat) (v : Value) (a : Int) (x : Nat) (hi : G[i]? = some (v, none)) (ha : 0 ≤ a) (ha' : a ≤ 124) :
    Calls Try.prog 28 #[.pointer (some ⟨p, 0, none⟩), .int .i64 i, .int .i64 a, .int .u32 (x : Int)] w fun e w' => e = .returned (.bool true) ∧ w = w' := by
  have hq := fun (w : World) (a : Option Addr) (n c : Nat) => Lib.run_eql_slice_nil (P := Try.prog) w 34 5 a n c 0 0 Try.underlying34
  obtain ⟨A, c, hwv⟩ := h.wvslice
  subst hwv
  have c0 := h.c0
  have c1 := h.c1
  have hfew := h.few
  have hlt : i < G.length := by
    rcases Nat.lt_or_ge i G.length with h | h
    · exact h
    · rw [List.getElem?_eq_none h] at hi; cases hi
  obtain ⟨hcb, _, hv⟩ := h.block_cell hi
  simp only [OptB] at hv
  subst hv
  simp only at hcb
  have HR : Hid (decide (0 ≤ (i : Int) ∧ (i : Int) < (G.length : Int)) = true) := by show decide _ = true; simp; omega
  have d1 : decide (a < 0) = false := by simp; omega
  have d2 : decide (124 < a) = false := by simp; omega
  have hi0 : (0 : Int) ≤ (i : Int) := by omega
  have hi1 : (i : Int) < (G.length : Int) := by omega
  clear h hi
  go_enter Try.func28, Try.ntmps28
  go_wp2_with (go_at_call 39; refine (has_any p bb nc G.length i _ true c0 hfew HR.out).mono ?_; rintro e w' ⟨rfl, rfl⟩)
  go_ret
  exact ⟨rfl, rfl⟩

theorem burstK_len (b : List UInt8) (a x : Nat) : ∀ k, (burstK b a x k).length = b.length
  | 0 => rfl
  | k + 1 => by unfold burstK; rw [List.length_set]; exact burstK_len b a x k

theorem xor_byte (y : UInt8) (x k : Nat) : Value.int .u8 (bits .xor .u8 (y.toNat : Int) ((x : Int) / 2 ^ (8 * k) % 256)) = BV (y ^^^ byteOf x k) := by
  have h1 : ((x : Int) / 2 ^ (8 * k) % 256) = ((x / 2 ^ (8 * k) % 256 : Nat) : Int) := by
    rw [Int.natCast_emod, Int.natCast_ediv, Int.natCast_pow]; rfl
  rw [h1, u8_xor_nat _ _ (UInt8.toNat_lt y) (Nat.mod_lt _ (by omega))]
  unfold BV byteOf
  rw [UInt8.toNat_xor, UInt8.toNat_ofNat']

set_option maxRecDepth 100000 in
set_option maxHeartbeats 1600000 in
theorem burst_ok {n0 : Nat} {w : World} {p bb nc : Nat} {G : List (Value × Option (List UInt8))} {wv : Value} {fuse : Int} {off : Bool} {wrote : Int} (h : DskG n0 w p bb nc G wv [] fuse off wrote) (hn : n0 ≤ w.heap.size)
    (i : Nat) (v : Value) (l : List UInt8) (a : Nat) (x : Nat) (hi : G[i]? = some (v, some l)) (ha : a ≤ 124) (hx : x < 4294967296) :
    Calls Try.prog 28 #[.pointer (some ⟨p, 0, none⟩), .int .i64 i, .int .i64 a, .int .u32 (x : Int)] w fun e w' => e = .returned (.bool true) ∧ Kp [bb] w w' ∧ ∃ v', DskG w'.heap.size w' p bb nc (G.set i (v', some (burstK l a x 4))) wv [] fuse off wrote := by
  have hq := fun (w : World) (a : Option Addr) (n c : Nat) => Lib.run_eql_slice_nil (P := Try.prog) w 34 5 a n c 0 0 Try.underlying34
  obtain ⟨A, c, hwv⟩ := h.wvslice
  subst hwv
  have c0 := h.c0
  have c1 := h.c1
  have hfew := h.few
  have hlt : i < G.length := by
    rcases Nat.lt_or_ge i G.length with h | h
    · exact h
    · rw [List.getElem?_eq_none h] at hi; cases hi
  obtain ⟨hcb, hfb, hv, hl⟩ := h.block_cell hi
  obtain ⟨gv, cv, rfl, hglt, hlc, _, hcells⟩ := hv.form
  simp only at hcb
  have HR : Hid (decide (0 ≤ (i : Int) ∧ (i : Int) < (G.length : Int)) = true) := by show decide _ = true; simp; omega
  have d1 : decide ((a : Int) < 0) = false := by simp
  have d2 : decide ((124 : Int) < (a : Int)) = false := by simp; omega
  have hi0 : (0 : Int) ≤ (i : Int) := by omega
  have hi1 : (i : Int) < (G.length : Int) := by omega
  have HH := Lib.hid h
  have HV := Lib.hid hv
  have HL := Lib.hid hl
  have HC := Lib.hid hcells
  have HN := Lib.hid hn
  have HI := Lib.hid hi
  have hl0 : l.length ≤ 1048576 := by omega
  clear h hi hv hl hlc hn hcells
  go_enter Try.func28, Try.ntmps28
  go_wp2_with (first | (go_at_call 39; refine (has_any p bb nc G.length i _ true c0 hfew HR.out).mono ?_; rintro e w' ⟨rfl, rfl⟩) | (go_at_call 41; refine (clone_some ⟨gv, 0, none⟩ cv l _ hl0 HC.out).mono ?_; rintro e w1 ⟨g1, k1, rfl, hown1, hbel1⟩; have HO := Lib.hid hown1; have HB := Lib.hid hbel1; clear hown1 hbel1))
  go_loopw [10, 47] (fun _ i wr => ∃ k : Nat, k ≤ 4 ∧ i = .int .i64 k ∧ Hid (Below w.heap.size w wr) ∧ Hid (wr.ownsRow w.heap.size 5 1 (.slice (some ⟨g1, 0, none⟩) l.length k1) l.length ((burstK l a x k).map BV))) (fun _ i _ => 4 - (intOf i).toNat)
  case atStart => exact ⟨0, by omega, rfl, HB, HO⟩
  case round =>
    obtain ⟨k, hk, rfl, HBr, HOr⟩ := hrel
    by_cases hlt4 : k < 4
    · have hlen := HL.out
      have hcell := HOr.out.cellAt (a + k) (by omega)
      obtain ⟨y, hy⟩ : ∃ y, (burstK l a x k)[a + k]? = some y := ⟨_, List.getElem?_eq_getElem (by rw [burstK_len]; omega)⟩
      rw [List.getElem?_map, hy] at hcell
      simp only [Option.map_some] at hcell
      unfold BV at hcell
      have hfr := HOr.out.frozenAt (a + k)
      have HY := Lib.hid hy
      have HLL := Lib.hid hlen
      have hs1 : (0 : Int) ≤ (k : Int) * 8 := by omega
      have hb1 : (a : Int) + (k : Int) < (l.length : Int) := by omega
      have hb2 : (0 : Int) ≤ (a : Int) + (k : Int) := by omega
      clear hy hlen
      go_wp2
      go_roundw
      case rel =>
        refine ⟨k + 1, by omega, by go_num, HBr.out.setCell (HOr.out.lt g1 rfl).1 _, ?_⟩
        have h1 := HOr.out.stored (a + k) (BV (y ^^^ byteOf x k))
        rw [xor_byte]
        unfold Hid
        rw [show (burstK l a x (k + 1)).map BV = ((burstK l a x k).map BV).set (a + k) (BV (y ^^^ byteOf x k)) from by rw [← List.map_set]; congr 1; show (burstK l a x k).set _ _ = _; rw [HY.out]; rfl]
        exact h1.1
      case measure => simp [intOf]; omega
    · obtain rfl : k = 4 := by omega
      have hB0 := HBr.out
      have hD1 := HH.out.below (hB0.mono HN.out)
      have hs := hB0.size
      have hgl := (HOr.out.lt g1 rfl).2
      have c0' := hD1.c0
      obtain ⟨hcb', hfb', _⟩ := hD1.block_cell HI.out
      simp only at hcb'
      have HD1 := Lib.hid hD1
      have HS := Lib.hid hs
      have HGL := Lib.hid hgl
      clear hB0 hD1 hs hgl
      go_wp2
      go_ret
      have hkb : Kp [bb] wr (wr.setCell ⟨bb, i, none⟩ (.slice (some ⟨g1, 0, none⟩) l.length k1)) := (Kp.refl [bb] wr).setCell (.inl (by simp)) _
      refine ⟨rfl, ((Kp.of_below HBr.out (Nat.le_refl _)).trans hkb), .slice (some ⟨g1, 0, none⟩) l.length k1, ?_⟩
      obtain ⟨cs, r1, _⟩ := HD1.out.row
      have hbt : Bts 5 wr.heap.size wr (.slice (some ⟨g1, 0, none⟩) l.length k1) (burstK l a x 4) := ⟨by rw [burstK_len]; exact owns_rebase HOr.out (Nat.zero_le _), g1, rfl, HGL.out⟩
      have h1 := (HD1.out.more (n1 := wr.heap.size) (by have := HS.out; have := HN.out; omega)).reblock hkb hlt r1 (r1.set_ i _) (o := some (burstK l a x 4)) ⟨hbt, by rw [burstK_len]; exact HL.out⟩
      simpa [World.setCell] using h1

end Go.Proofs.Ytioieffmihdheaa
