/- The law on bursts: the walk. -/
import Derived.Test.YtioieffmihdheaaDiskBu0
namespace Go.Proofs.Ytioieffmihdheaa
open Go.RowKit
set_option linter.unusedVariables false
set_option linter.unusedSimpArgs false

theorem byte_at (s : UInt8) (a x : Nat) {j : Nat} (hj : j < 128) : (burstK (rep s) a x 4)[j]? = some (if a ≤ j ∧ j < a + 4 then s ^^^ byteOf x (j - a) else s) := by
  rw [burstK_get]
  have h1 : (rep s)[j]? = some s := by rw [rep, List.getElem?_replicate, if_pos hj]
  rw [h1]
  split <;> rfl

theorem xor_byte' (y : UInt8) (x k : Nat) : bits .xor .u8 (y.toNat : Int) ((x : Int) / 2 ^ (8 * k) % 256) = ((y.toNat ^^^ (byteOf x k).toNat : Nat) : Int) := by
  have h := xor_byte y x k
  unfold BV at h
  rw [UInt8.toNat_xor] at h
  exact (Value.int.inj h).2

theorem within_nat (n hi : Int) (h : 0 ≤ hi) : ∃ k : Nat, within n 0 hi = k ∧ (k : Int) ≤ hi := by
  have := within_math n 0 hi h
  exact ⟨(within n 0 hi).toNat, by unfold within; omega, by unfold within; omega⟩

set_option maxRecDepth 100000 in
set_option maxHeartbeats 6400000 in
theorem diskBursts_any (i at_ : Int) (x : Nat) (s : UInt8) (w0 : World) (hx : x < 4294967296) (hi1 : -9223372036854775808 ≤ i) (hi2 : i ≤ 9223372036854775807) (ha1 : -9223372036854775808 ≤ at_) (ha2 : at_ ≤ 9223372036854775807) :
    Calls Try.prog 9 #[.int .i64 i, .int .i64 at_, .int .u32 (x : Int), .int .u8 (s.toNat : Int)] w0 fun e w' => e = .returned (.bool true) ∧ Below w0.heap.size w0 w' := by
  obtain ⟨k, hk, hk2⟩ := within_nat i 2 (by omega)
  obtain ⟨a, ha, ha2'⟩ := within_nat at_ 124 (by omega)
  have hk3 : k ≤ 2 := by omega
  have ha3 : a ≤ 124 := by omega
  obtain ⟨k', hk', hk'2, hk'3⟩ : ∃ k' : Nat, ((k : Int) + 1) % 3 = k' ∧ k' ≤ 2 ∧ k' ≠ k := ⟨(k + 1) % 3, by omega, by omega, by omega⟩
  have HK := Lib.hid hk
  have HA := Lib.hid ha
  have HK' := Lib.hid hk'
  have Q0 := Lib.hid (congrArg Prod.fst (bu_write k (rep s) hk3 (rep_len s)))
  have D0 := Lib.hid (congrArg Prod.snd (bu_write k (rep s) hk3 (rep_len s)))
  have Q1 : Hid (∀ i aa, (bu1 k (rep s)).burst i aa x = (false, bu1 k (rep s))) := fun i aa => bu1_burst k x (rep s) i aa
  have Q2 := Lib.hid (bu1_flush k (rep s))
  have Q3 := Lib.hid (bu_burst k a x (rep s) hk3 ha3)
  have Q4 := Lib.hid (bu_read k (burstK (rep s) a x 4) hk3)
  have Q5 := Lib.hid (bu_read_other k (burstK (rep s) a x 4) k' hk'2 hk'3)
  have Q6 : Hid ((bu k (burstK (rep s) a x 4)).burst k a x = (true, bu k (rep s))) := by
    have := bu_burst k a x (burstK (rep s) a x 4) hk3 ha3
    rw [burstK_twice] at this
    exact this
  have Q7 : Hid (∀ i aa, ¬ (0 ≤ i ∧ i < 3 ∧ 0 ≤ aa ∧ aa ≤ 124) → (bu k (rep s)).burst i aa x = (false, bu k (rep s))) := fun i aa hn => bu_burst_no k x (rep s) i aa hn
  have Q8 := Lib.hid (bu_read k (rep s) hk3)
  have HAT : Hid (∀ j, j < 128 → (burstK (rep s) a x 4)[j]? = some (if a ≤ j ∧ j < a + 4 then s ^^^ byteOf x (j - a) else s)) := fun j hj => byte_at s a x hj
  have HLen : Hid ((burstK (rep s) a x 4).length = 128) := by show _ = _; rw [burstK_len, rep_len]
  generalize burstK (rep s) a x 4 = l at Q3 Q4 Q5 Q6 HAT HLen
  clear hk ha hk2 ha2' hk'
  go_enter Try.func9, Try.ntmps9
  go_wp2_with fail
  refine (new_any 3 _ (by omega) (by omega)).mono ?_
  rintro e w1 hm
  obtain ⟨p, M, rfl, _⟩ := id hm
  have G1 : Hid (Good w0 w1 p (PD.new 3)) := Good.start (Below.refl _ _) hm
  clear hm
  go_wp2_with fail
  refine (within_any i 0 2 _ (by omega) (by omega) (by omega) hi1 hi2).mono ?_
  rintro e w' ⟨rfl, rfl⟩
  rw [HK.out]
  go_wp2_with fail
  refine (within_any at_ 0 124 _ (by omega) (by omega) (by omega) ha1 ha2).mono ?_
  rintro e w' ⟨rfl, rfl⟩
  rw [HA.out]
  go_wp2_with fail
  refine (fill_rep s _ rfl _).mono ?_
  rintro e W2 ⟨g2, rfl, ho2, hb2⟩
  have G2 := Lib.hid (G1.out.below hb2)
  have O2 := Lib.hid ho2
  clear ho2 hb2
  go_wp2_with fail
  have cW := good_write G2.out k g2 128 (rep s) _ O2.out (by simp [PD.new]) (by simp [PD.new])
  rw [Q0.out, D0.out] at cW
  refine cW.mono ?_
  clear cW
  rintro e W3 ⟨rfl, hg, _⟩
  have G3 : Hid (Good w0 W3 p (bu1 k (rep s))) := hg
  clear hg
  go_wp2_with fail
  have cB := good_burst G3.out (by simp [bu1]) k a x hx
  rw [Q1.out] at cB
  refine cB.mono ?_
  clear cB
  rintro e W4 ⟨rfl, hg, _⟩
  have G4 : Hid (Good w0 W4 p (bu1 k (rep s))) := hg
  clear hg
  go_wp2_with fail
  have cF := good_flush G4.out (by simp [bu1])
  rw [Q2.out] at cF
  refine cF.mono ?_
  clear cF
  rintro e W5 ⟨rfl, hg, _⟩
  have G5 : Hid (Good w0 W5 p (bu k (rep s))) := hg
  clear hg
  go_wp2_with fail
  have cB := good_burst G5.out (by simp [bu]) k a x hx
  rw [Q3.out] at cB
  refine cB.mono ?_
  clear cB
  rintro e W6 ⟨rfl, hg, _⟩
  have G6 : Hid (Good w0 W6 p (bu k l)) := hg
  clear hg
  go_wp2_with fail
  have cR := good_read G6.out (by simp [bu]) k
  rw [Q4.out] at cR
  refine cR.mono ?_
  clear cR
  rintro e W7 ⟨hb7, g7, c7, rfl, ho7⟩
  have G7 := Lib.hid (G6.out.below hb7)
  have B7 := Lib.hid hb7
  have T7 := Lib.hid (TF.of_below hb7)
  clear hb7
  have O7 := Lib.hid ho7
  clear ho7
  go_wp2_with fail
  have hle : l.length ≤ 128 := by have := HLen.out; omega
  go_loop [14, 15, 16, 59] (fun _ _ _ i => ∃ j : Nat, j ≤ l.length ∧ i = .int .i64 j) (fun _ _ _ i => l.length - (intOf i).toNat)
  case atStart => exact ⟨0, by omega, rfl⟩
  case round =>
    obtain ⟨j, hj, rfl⟩ := hrel
    by_cases hlt : j < l.length
    · have hcell := O7.out.cellAt j (by omega)
      have hat := HAT.out j (by have := HLen.out; omega)
      by_cases hin : a ≤ j ∧ j < a + 4
      · rw [if_pos hin] at hat
        rw [List.getElem?_map, hat] at hcell
        simp only [Option.map_some] at hcell
        unfold BV at hcell
        obtain ⟨d, rfl⟩ : ∃ d, j = a + d := ⟨j - a, by omega⟩
        have hd : d < 4 := by omega
        rw [Nat.add_sub_cancel_left] at hcell
        have h1 : (a : Int) ≤ ((a + d : Nat) : Int) := by omega
        have h2 : ((a + d : Nat) : Int) < (a : Int) + 4 := by omega
        have h3 : ((a + d : Nat) : Int) - (a : Int) = (d : Int) := by omega
        have HI := Lib.hid hin
        have hne : (((s.toNat ^^^ (byteOf x d).toNat : Nat) : Int) != bits .xor .u8 (s.toNat : Int) ((x : Int) / 2 ^ (8 * d) % 256)) = false := by rw [xor_byte']; simp
        clear hat hin
        go_wp2
        go_round
        case rel => exact ⟨a + d + 1, by omega, by go_num⟩
        case measure => simp [intOf]; omega
      · rw [if_neg hin] at hat
        rw [List.getElem?_map, hat] at hcell
        simp only [Option.map_some] at hcell
        unfold BV at hcell
        clear hat
        by_cases h1 : (a : Int) ≤ (j : Int)
        · have h2 : ¬ ((j : Int) < (a : Int) + 4) := by omega
          have h2' : (a : Int) + 4 ≤ (j : Int) := by omega
          clear hin
          go_wp2
          go_round
          case rel => exact ⟨j + 1, by omega, by go_num⟩
          case measure => simp [intOf]; omega
        · have h1' : (j : Int) < (a : Int) := by omega
          clear hin
          go_wp2
          go_round
          case rel => exact ⟨j + 1, by omega, by go_num⟩
          case measure => simp [intOf]; omega
    · obtain rfl : j = l.length := by omega
      have h30 : (0 : Int) ≤ (k : Int) + 1 := by omega
      go_wp2_with fail
      rw [HK'.out]
      have cR := good_read G7.out (by simp [bu]) k'
      rw [Q5.out] at cR
      refine cR.mono ?_
      clear cR
      rintro e W8 ⟨hb8, g8, c8, rfl, ho8⟩
      have G8 := Lib.hid (G7.out.below hb8)
      have B8 := Lib.hid hb8
      have T8 := Lib.hid (TF.of_below hb8)
      clear hb8
      have O8 := Lib.hid ho8
      clear ho8
      go_wp2_with fail
      refine (fill_rep 0 _ rfl _).mono ?_
      rintro e W9 ⟨g9, rfl, ho9, hb9⟩
      have G9 := Lib.hid (G8.out.below hb9)
      have O9 := Lib.hid ho9
      have B9 := Lib.hid hb9
      have T9 := Lib.hid (TF.of_below hb9)
      clear ho9 hb9
      go_wp2_with fail
      refine (same_any (some ⟨g8, 0, none⟩) (some ⟨g9, 0, none⟩) c8 128 (rep 0) (rep 0) _ true (by simp) (sameAt_of_owns (TF.owns T9.out O8.out (by decide) (by decide) (by decide))) (sameAt_of_owns O9.out) (by rw [rep_len]; omega) (by rw [rep_len]; omega)).mono ?_
      rintro e W10 ⟨rfl, n10, hw10⟩
      subst hw10
      have G10 : Hid (Good w0 (W9.drewN n10) p (bu k l)) := G9.out.below (World.drewN_below _ _ _)
      go_wp2_with fail
      have cB := good_burst G10.out (by simp [bu]) k a x hx
      rw [Q6.out] at cB
      refine cB.mono ?_
      clear cB
      rintro e W11 ⟨rfl, hg, ht⟩
      have G11 : Hid (Good w0 W11 p (bu k (rep s))) := hg
      have T11 := Lib.hid ht
      clear hg ht
      go_wp2_with fail
      have cB := good_burst G11.out (by simp [bu]) 3 a x hx
      rw [(Lib.hid (Q7.out 3 a (by omega))).out] at cB
      refine cB.mono ?_
      clear cB
      rintro e W12 ⟨rfl, hg, ht⟩
      have G12 : Hid (Good w0 W12 p (bu k (rep s))) := hg
      have T12 := Lib.hid ht
      clear hg ht
      go_wp2_with fail
      have cB := good_burst G12.out (by simp [bu]) k (-1) x hx
      rw [(Lib.hid (Q7.out k (-1) (by omega))).out] at cB
      refine cB.mono ?_
      clear cB
      rintro e W13 ⟨rfl, hg, ht⟩
      have G13 : Hid (Good w0 W13 p (bu k (rep s))) := hg
      have T13 := Lib.hid ht
      clear hg ht
      go_wp2_with fail
      have cB := good_burst G13.out (by simp [bu]) k 125 x hx
      rw [(Lib.hid (Q7.out k 125 (by omega))).out] at cB
      refine cB.mono ?_
      clear cB
      rintro e W14 ⟨rfl, hg, ht⟩
      have G14 : Hid (Good w0 W14 p (bu k (rep s))) := hg
      have T14 := Lib.hid ht
      clear hg ht
      go_wp2_with fail
      have cR := good_read G14.out (by simp [bu]) k
      rw [Q8.out] at cR
      refine cR.mono ?_
      clear cR
      rintro e W15 ⟨hb15, g15, c15, rfl, ho15⟩
      have G15 := Lib.hid (G14.out.below hb15)
      have B15 := Lib.hid hb15
      have T15 := Lib.hid (TF.of_below hb15)
      clear hb15
      have O15 := Lib.hid ho15
      clear ho15
      go_wp2_with fail
      refine (fill_rep s _ rfl _).mono ?_
      rintro e W16 ⟨g16, rfl, ho16, hb16⟩
      have G16 := Lib.hid (G15.out.below hb16)
      have O16 := Lib.hid ho16
      have B16 := Lib.hid hb16
      have T16 := Lib.hid (TF.of_below hb16)
      clear ho16 hb16
      go_wp2_with fail
      refine (same_any (some ⟨g15, 0, none⟩) (some ⟨g16, 0, none⟩) c15 128 (rep s) (rep s) _ true (by simp) (sameAt_of_owns (TF.owns T16.out O15.out (by decide) (by decide) (by decide))) (sameAt_of_owns O16.out) (by rw [rep_len]; omega) (by rw [rep_len]; omega)).mono ?_
      rintro e W17 ⟨rfl, n17, hw17⟩
      subst hw17
      have G17 : Hid (Good w0 (W16.drewN n17) p (bu k (rep s))) := G16.out.below (World.drewN_below _ _ _)
      go_wp2_with fail
      refine (diskRuns_any _).mono ?_
      rintro e W18 ⟨rfl, hb18⟩
      have G18 := Lib.hid (G17.out.below hb18)
      clear hb18
      go_wp2_with fail
      go_ret
      exact ⟨rfl, G18.out.1⟩

end Go.Proofs.Ytioieffmihdheaa
