/- Chapter 4's runs come out as they are said to. -/
import Derived.Test.YtioieffmihdheaaDL
namespace Go.Proofs.Ytioieffmihdheaa
open Go.RowKit
set_option linter.unusedVariables false
set_option linter.unusedSimpArgs false

theorem sameAt_of_owns {w : World} {base : Nat} {g c : Nat} {l : List UInt8} (h : w.ownsRow base 5 1 (.slice (some ⟨g, 0, none⟩) l.length c) l.length (l.map BV)) : SameAt w l.length (some ⟨g, 0, none⟩) l :=
  ⟨rfl, fun k x hx => ⟨_, rfl, h.cells rfl k (BV x) (by rw [List.getElem?_map, hx]; rfl)⟩⟩
theorem SameAt.below {w w' : World} {n : Nat} {A : Option Addr} {l : List UInt8} {B : Nat} (h : SameAt w n A l) (hb : Below B w w') (hA : ∀ ad, A = some ad → ad.block < B) : SameAt w' n A l :=
  ⟨h.1, fun k x hx => by
    obtain ⟨ad, h1, h2⟩ := h.2 k x hx
    have hbl : (ad.add k).block = ad.block := by unfold Addr.add; split <;> rfl
    exact ⟨ad, h1, (hb.cell (by rw [hbl]; exact hA ad h1)).trans h2⟩⟩

theorem World.drewN_below (B : Nat) (w : World) (n : Nat) : Below B w (w.drewN n) := ⟨rfl, rfl, rfl, Nat.le_refl _, fun _ _ => rfl⟩

def rep (x : UInt8) : List UInt8 := List.replicate 128 x
theorem rep_len (x : UInt8) : (rep x).length = 128 := by simp [rep]

/-- fill, its bytes by name -/
theorem fill_rep (x : UInt8) (n : Int) (hn : n = (x.toNat : Int)) (w : World) : Calls Try.prog 19 #[.int .u8 n] w fun e w' => ∃ g, e = .returned (.slice (some ⟨g, 0, none⟩) (rep x).length 128) ∧ w'.ownsRow w.heap.size 5 1 (.slice (some ⟨g, 0, none⟩) (rep x).length 128) (rep x).length ((rep x).map BV) ∧ Below w.heap.size w w' := by
  subst hn
  refine (fill_any x w).mono ?_
  rintro e w' ⟨g, rfl, h1, h2⟩
  exact ⟨g, by rw [rep_len], by rw [rep_len]; exact h1, h2⟩

def dr0 : PD := PD.new 2
def dr1 : PD := (dr0.write 0 (rep 9)).2
def dr2 : PD := dr1.boot [0]
def dr3 : PD := (dr2.write 0 (rep 9)).2
def dr4 : PD := dr3.boot [2]
def dr5 : PD := (dr4.write 0 (rep 9)).2
def dr6 : PD := (dr5.flush).2
def dr7 : PD := dr6.boot []
theorem dr_facts : (dr0.write 0 (rep 9)).1 = 0 ∧ dr2.read 0 = some (rep 0) ∧ (dr2.write 0 (rep 9)).1 = 0 ∧ dr4.read 0 = none ∧ (dr4.write 0 (rep 9)).1 = 0 ∧ (dr5.flush).1 = 0 ∧ dr7.read 0 = some (rep 9) ∧ dr7.wrote = 3 :=
  ⟨by kernel_rfl, by kernel_rfl, by kernel_rfl, by kernel_rfl, by kernel_rfl, by kernel_rfl, by kernel_rfl, by kernel_rfl⟩
theorem dr_sizes : dr0.waits.length = 0 ∧ dr0.wrote = 0 ∧ dr1.waits.length = 1 ∧ dr2.waits.length = 0 ∧ dr2.wrote = 1 ∧ dr3.waits.length = 1 ∧ dr4.waits.length = 0 ∧ dr4.wrote = 2 ∧ dr5.waits.length = 1 ∧ dr6.waits.length = 0 ∧ dr7.waits.length = 0 :=
  ⟨by kernel_rfl, by kernel_rfl, by kernel_rfl, by kernel_rfl, by kernel_rfl, by kernel_rfl, by kernel_rfl, by kernel_rfl, by kernel_rfl, by kernel_rfl, by kernel_rfl⟩

set_option maxRecDepth 100000 in
set_option maxHeartbeats 3200000 in
theorem diskRuns_any (w0 : World) : Calls Try.prog 5 #[] w0 fun e w' => e = .returned (.bool true) ∧ Below w0.heap.size w0 w' := by
  obtain ⟨q0, q1, q2, q3, q4, q5, q6, q7⟩ := dr_facts
  obtain ⟨z0, z1, z2, z3, z4, z5, z6, z7, z8, z9, z10⟩ := dr_sizes
  have Q0 := Lib.hid q0
  have Q1 := Lib.hid q1
  have Q2 := Lib.hid q2
  have Q3 := Lib.hid q3
  have Q4 := Lib.hid q4
  have Q5 := Lib.hid q5
  have Q6 := Lib.hid q6
  have Q7 := Lib.hid q7
  have Z : Hid (dr0.waits.length = 0 ∧ dr0.wrote = 0 ∧ dr1.waits.length = 1 ∧ dr2.waits.length = 0 ∧ dr2.wrote = 1 ∧ dr3.waits.length = 1 ∧ dr4.waits.length = 0 ∧ dr4.wrote = 2 ∧ dr5.waits.length = 1 ∧ dr6.waits.length = 0 ∧ dr7.waits.length = 0) := ⟨z0, z1, z2, z3, z4, z5, z6, z7, z8, z9, z10⟩
  clear q0 q1 q2 q3 q4 q5 q6 q7 z0 z1 z2 z3 z4 z5 z6 z7 z8 z9 z10
  go_enter Try.func5, Try.ntmps5
  go_wp2_with fail
  refine (new_any 2 _ (by omega) (by omega)).mono ?_
  rintro e w1 hm
  obtain ⟨p, M, rfl, _⟩ := id hm
  have G1 : Hid (Good w0 w1 p dr0) := Good.start (Below.refl _ _) hm
  clear hm
  go_wp2_with fail
  refine (fill_rep 9 9 rfl _).mono ?_
  rintro e W2 ⟨g2, rfl, ho2, hb2⟩
  have G2 := Lib.hid (G1.out.below hb2)
  have O2 := Lib.hid ho2
  clear ho2 hb2
  go_wp2_with fail
  have cW := good_write G2.out 0 g2 128 (rep 9) _ O2.out (by have := Z.out; omega) (by have := Z.out; omega)
  rw [Q0.out] at cW
  refine cW.mono ?_
  clear cW
  rintro e W3 ⟨rfl, hg, _⟩
  have G3 : Hid (Good w0 W3 p dr1) := hg
  clear hg
  go_wp2_with fail
  have cB := good_boot (G3.out.below ((Below.refl _ W3).alloc (Nat.le_refl _) (.cells #[.int .u8 0] 5))) (by have := Z.out; omega) (some ⟨W3.heap.size, 0, none⟩) 1 [0] ⟨rfl, fun k x hx => ⟨_, rfl, by
    cases k with
    | zero => simp only [List.getElem?_cons_zero, Option.some.injEq] at hx; subst hx; exact (Blk.new W3 5 #[.int .u8 0]).cell 0
    | succ k => simp at hx⟩⟩ (by simp) (fun ad had _ => by cases had; exact .inr ⟨_, Blk.new _ _ _⟩)
  refine cB.mono ?_
  clear cB
  rintro e W4 ⟨rfl, hg, _⟩
  have GW4 : Hid (Good w0 W4 p dr2) := hg
  clear hg
  go_wp2_with fail
  have cR := good_read GW4.out (by have := Z.out; omega) 0
  rw [Q1.out] at cR
  refine cR.mono ?_
  clear cR
  rintro e W5 ⟨hb5, g5, c5, rfl, ho5⟩
  have G5 := Lib.hid (GW4.out.below hb5)
  have O5 := Lib.hid ho5
  clear hb5 ho5
  go_wp2_with fail
  refine (fill_rep 9 9 rfl _).mono ?_
  rintro e W6 ⟨g6, rfl, ho6, hb6⟩
  have G6 := Lib.hid (G5.out.below hb6)
  have O6 := Lib.hid ho6
  have T6 := Lib.hid (TF.of_below hb6)
  clear ho6 hb6
  go_wp2_with fail
  have cW := good_write G6.out 0 g6 128 (rep 9) _ O6.out (by have := Z.out; omega) (by have := Z.out; omega)
  rw [Q2.out] at cW
  refine cW.mono ?_
  clear cW
  rintro e W7 ⟨rfl, hg, ht⟩
  have T7 := Lib.hid ht
  clear ht
  have G7 : Hid (Good w0 W7 p dr3) := hg
  clear hg
  go_wp2_with fail
  have cB := good_boot (G7.out.below ((Below.refl _ W7).alloc (Nat.le_refl _) (.cells #[.int .u8 2] 5))) (by have := Z.out; omega) (some ⟨W7.heap.size, 0, none⟩) 1 [2] ⟨rfl, fun k x hx => ⟨_, rfl, by
    cases k with
    | zero => simp only [List.getElem?_cons_zero, Option.some.injEq] at hx; subst hx; exact (Blk.new W7 5 #[.int .u8 2]).cell 0
    | succ k => simp at hx⟩⟩ (by simp) (fun ad had _ => by cases had; exact .inr ⟨_, Blk.new _ _ _⟩)
  refine cB.mono ?_
  clear cB
  rintro e W8 ⟨rfl, hg, ht⟩
  have T8 : Hid (TF W7 W8) := (TF.of_below ((Below.refl _ W7).alloc (Nat.le_refl _) _)).trans ht
  clear ht
  have GW8 : Hid (Good w0 W8 p dr4) := hg
  clear hg
  go_wp2_with fail
  have cR := good_read GW8.out (by have := Z.out; omega) 0
  rw [Q3.out] at cR
  refine cR.mono ?_
  clear cR
  rintro e W9 ⟨hb9, rfl⟩
  have G9 := Lib.hid (GW8.out.below hb9)
  have T9 := Lib.hid (TF.of_below hb9)
  clear hb9
  go_wp2_with fail
  refine (fill_rep 9 9 rfl _).mono ?_
  rintro e W10 ⟨g10, rfl, ho10, hb10⟩
  have G10 := Lib.hid (G9.out.below hb10)
  have O10 := Lib.hid ho10
  have T10 := Lib.hid (TF.of_below hb10)
  clear ho10 hb10
  go_wp2_with fail
  have cW := good_write G10.out 0 g10 128 (rep 9) _ O10.out (by have := Z.out; omega) (by have := Z.out; omega)
  rw [Q4.out] at cW
  refine cW.mono ?_
  clear cW
  rintro e W11 ⟨rfl, hg, ht⟩
  have T11 := Lib.hid ht
  clear ht
  have G11 : Hid (Good w0 W11 p dr5) := hg
  clear hg
  go_wp2_with fail
  have cF := good_flush G11.out (by have := Z.out; omega)
  rw [Q5.out] at cF
  refine cF.mono ?_
  clear cF
  rintro e W12 ⟨rfl, hg, ht⟩
  have T12 := Lib.hid ht
  have G12 : Hid (Good w0 W12 p dr6) := hg
  clear hg ht
  go_wp2_with fail
  refine (good_boot G12.out (by have := Z.out; omega) none 0 [] ⟨rfl, by simp⟩ (by simp) (by simp)).mono ?_
  rintro e W13 ⟨rfl, hg, ht⟩
  have T13 := Lib.hid ht
  have G13 : Hid (Good w0 W13 p dr7) := hg
  clear hg ht
  go_wp2_with fail
  have cR := good_read G13.out (by have := Z.out; omega) 0
  rw [Q6.out] at cR
  refine cR.mono ?_
  clear cR
  rintro e W14 ⟨hb14, g14, c14, rfl, ho14⟩
  have G14 := Lib.hid (G13.out.below hb14)
  have O14 := Lib.hid ho14
  have T14 := Lib.hid (TF.of_below hb14)
  clear hb14 ho14
  have O5' : Hid (W14.ownsRow W4.heap.size 5 1 (.slice (some ⟨g5, 0, none⟩) (rep 0).length c5) (rep 0).length ((rep 0).map BV)) :=
    TF.owns ((((((((T6.out.trans T7.out).trans T8.out).trans T9.out).trans T10.out).trans T11.out).trans T12.out).trans T13.out).trans T14.out) O5.out (by decide) (by decide) (by decide)
  go_wp2_with fail
  refine (fill_rep 0 0 rfl _).mono ?_
  rintro e W15 ⟨g15, rfl, ho15, hb15⟩
  have G15 := Lib.hid (G14.out.below hb15)
  have O15 := Lib.hid ho15
  have B15 := Lib.hid hb15
  clear ho15 hb15
  go_wp2_with fail
  refine (same_any (some ⟨g5, 0, none⟩) (some ⟨g15, 0, none⟩) c5 128 (rep 0) (rep 0) _ true (by simp) (sameAt_of_owns (TF.owns (TF.of_below B15.out) O5'.out (by decide) (by decide) (by decide))) (sameAt_of_owns O15.out) (by rw [rep_len]; omega) (by rw [rep_len]; omega)).mono ?_
  rintro e W16 ⟨rfl, n16, rfl⟩
  have G16 : Hid (Good w0 (W15.drewN n16) p dr7) := G15.out.below (World.drewN_below _ _ _)
  go_wp2_with fail
  refine (fill_rep 9 9 rfl _).mono ?_
  rintro e W17 ⟨g17, rfl, ho17, hb17⟩
  have G17 := Lib.hid (G16.out.below hb17)
  have O17 := Lib.hid ho17
  have B17 := Lib.hid hb17
  clear ho17 hb17
  go_wp2_with fail
  refine (same_any (some ⟨g14, 0, none⟩) (some ⟨g17, 0, none⟩) c14 128 (rep 9) (rep 9) _ true (by simp) (sameAt_of_owns (TF.owns ((TF.of_below B15.out).trans ((TF.of_below (World.drewN_below _ _ n16)).trans (TF.of_below B17.out))) O14.out (by decide) (by decide) (by decide))) (sameAt_of_owns O17.out) (by rw [rep_len]; omega) (by rw [rep_len]; omega)).mono ?_
  rintro e W18 ⟨rfl, n18, rfl⟩
  have G18 : Hid (Good w0 (W17.drewN n18) p dr7) := G17.out.below (World.drewN_below _ _ _)
  go_wp2_with fail
  have cW := good_wrote G18.out
  rw [Q7.out] at cW
  refine cW.mono ?_
  clear cW
  rintro e W19 ⟨rfl, rfl⟩
  go_wp2_with fail
  go_ret
  exact ⟨rfl, G18.out.1⟩

end Go.Proofs.Ytioieffmihdheaa
