/- The law on the fuse: the walk. -/
import Derived.Test.YtioieffmihdheaaDiskKeeps
import Derived.Deep.QuietTactic
import Derived.BigQuiet
import Derived.Deep.RegionWith
namespace Go.Proofs.Ytioieffmihdheaa
open Go.RowKit
set_option linter.unusedVariables false
set_option linter.unusedSimpArgs false
attribute [local go_sem ↓] Go.wp_at_zero Go.wp_at_succ

/-- a disk of four blocks under a fuse: left says how many go, or the power is off -/
structure FuseAt (D : PD) (left : Int) (off : Bool) (i : Nat) : Prop where
  len : D.blocks.length = 4
  few : D.waits.length ≤ i
  wro : D.wrote ≤ i
  offi : D.off = off
  fuse : off = false → D.fuse = left ∧ 0 ≤ left
  offl : off = true → left < 0

theorem fuse_write {D : PD} {left : Int} {off : Bool} {i : Nat} (h : FuseAt D left off i) {k : Nat} (hk : k < 4) {b : List UInt8} (hb : b.length = 128) :
    (D.write k b).1 = (if off || decide (left = 0) then 7 else 0) ∧ FuseAt (D.write k b).2 (left - 1) (off || decide (left = 0)) (i + 1) := by
  have h1 : (0 : Int) ≤ (k : Int) ∧ (k : Int) < D.blocks.length ∧ b.length = 128 := ⟨by omega, by rw [h.len]; omega, hb⟩
  unfold PD.write
  rw [if_pos h1]
  cases off with
  | true =>
    have hg : D.goes = (false, { D with off := true }) := by unfold PD.goes; rw [if_pos (.inr h.offi)]
    rw [hg]
    have := h.offl rfl
    exact ⟨rfl, h.len, by show D.waits.length ≤ i + 1; have := h.few; omega, by show D.wrote ≤ ((i + 1 : Nat) : Int); have := h.wro; omega, rfl, by simp, fun _ => by omega⟩
  | false =>
    obtain ⟨hf, h0⟩ := h.fuse rfl
    by_cases hl : left = 0
    · have hg : D.goes = (false, { D with off := true }) := by unfold PD.goes; rw [if_pos (.inl (by omega))]
      rw [hg]
      subst hl
      exact ⟨rfl, h.len, by show D.waits.length ≤ i + 1; have := h.few; omega, by show D.wrote ≤ ((i + 1 : Nat) : Int); have := h.wro; omega, by simp, by simp, fun _ => by omega⟩
    · have hg : D.goes = (true, { D with fuse := max (D.fuse - 1) (-1) }) := by unfold PD.goes; rw [if_neg (by rw [h.offi]; simp; omega)]
      rw [hg]
      refine ⟨by simp [hl], h.len, ?_, by show D.wrote + 1 ≤ ((i + 1 : Nat) : Int); have := h.wro; omega, by show D.off = _; simp [hl, h.offi], fun _ => ?_, by simp [hl]⟩
      · show (D.waits ++ [_]).length ≤ i + 1
        have := h.few
        simp
        omega
      · show max (D.fuse - 1) (-1) = left - 1 ∧ 0 ≤ left - 1
        omega
theorem fuse_flush {D : PD} {left : Int} {off : Bool} {i : Nat} (h : FuseAt D left off i) :
    (D.flush).1 = (if off || decide (left = 0) then 7 else 0) ∧ FuseAt (D.flush).2 (left - 1) (off || decide (left = 0)) (i + 1) := by
  unfold PD.flush
  cases off with
  | true =>
    have hg : D.goes = (false, { D with off := true }) := by unfold PD.goes; rw [if_pos (.inr h.offi)]
    rw [hg]
    have := h.offl rfl
    exact ⟨rfl, h.len, by show D.waits.length ≤ i + 1; have := h.few; omega, by show D.wrote ≤ ((i + 1 : Nat) : Int); have := h.wro; omega, rfl, by simp, fun _ => by omega⟩
  | false =>
    obtain ⟨hf, h0⟩ := h.fuse rfl
    by_cases hl : left = 0
    · have hg : D.goes = (false, { D with off := true }) := by unfold PD.goes; rw [if_pos (.inl (by omega))]
      rw [hg]
      subst hl
      exact ⟨rfl, h.len, by show D.waits.length ≤ i + 1; have := h.few; omega, by show D.wrote ≤ ((i + 1 : Nat) : Int); have := h.wro; omega, by simp, by simp, fun _ => by omega⟩
    · have hg : D.goes = (true, { D with fuse := max (D.fuse - 1) (-1) }) := by unfold PD.goes; rw [if_neg (by rw [h.offi]; simp; omega)]
      rw [hg]
      refine ⟨by simp [hl], by simp only [if_true]; rw [landAll_len]; exact h.len, by simp, by show D.wrote ≤ ((i + 1 : Nat) : Int); have := h.wro; omega, by show D.off = _; simp [hl, h.offi], fun _ => ?_, by simp [hl]⟩
      show max (D.fuse - 1) (-1) = left - 1 ∧ 0 ≤ left - 1
      omega
/-- block 0 is read just if the power is on: never torn here -/
structure Whole4 (D : PD) : Prop where
  blk : ∀ x ∈ D.blocks, x ≠ none
theorem whole_write {D : PD} (h : Whole4 D) (i : Int) (b : List UInt8) : Whole4 (D.write i b).2 := by
  constructor
  unfold PD.write
  split
  · unfold PD.goes
    by_cases hg : D.fuse = 0 ∨ D.off = true
    · rw [if_pos hg]; exact h.blk
    · rw [if_neg hg]; exact h.blk
  · exact h.blk
theorem landAll_mem (l : List (Nat × List UInt8)) : ∀ bs : List (Option (List UInt8)), (∀ x ∈ bs, x ≠ none) → ∀ x ∈ landAll bs l, x ≠ none := by
  induction l with
  | nil => intro bs h; exact h
  | cons y l ih =>
    intro bs h
    refine ih (bs.set y.1 (some y.2)) ?_
    intro x hx
    rcases List.mem_or_eq_of_mem_set hx with hx | rfl
    · exact h x hx
    · simp
theorem whole_flush {D : PD} (h : Whole4 D) : Whole4 (D.flush).2 := by
  constructor
  unfold PD.flush
  unfold PD.goes
  by_cases hg : D.fuse = 0 ∨ D.off = true
  · rw [if_pos hg]; exact h.blk
  · rw [if_neg hg]; exact landAll_mem _ _ h.blk
theorem whole_read {D : PD} {left : Int} {off : Bool} {i : Nat} (h : FuseAt D left off i) (hw : Whole4 D) : ∃ l, D.read 0 = (if off then none else some l) := by
  unfold PD.read
  cases off with
  | true => exact ⟨[], by rw [if_neg (by rw [h.offi]; simp)]; rfl⟩
  | false =>
    rw [if_pos ⟨by omega, by rw [h.len]; omega, h.offi⟩]
    cases lastOf D.waits (0 : Int).toNat with
    | some b => exact ⟨b, rfl⟩
    | none =>
      obtain ⟨o, ho⟩ : ∃ o, D.blocks[(0 : Int).toNat]? = some o := ⟨_, List.getElem?_eq_getElem (by rw [h.len]; decide)⟩
      simp only
      rw [ho]
      cases o with
      | none => exact absurd rfl (hw.blk none (List.mem_of_getElem? ho))
      | some l => exact ⟨l, rfl⟩

/-- the head of a round -/
structure FuAt (w0 : World) (p : Nat) (i : Nat) (left : Int) (off : Bool) (wr : World) (D : PD) : Prop where
  good : Good w0 wr p D
  fu : FuseAt D left off i
  who : Whole4 D

set_option maxRecDepth 100000 in
set_option maxHeartbeats 12800000 in
theorem diskFuse_any (n : Int) (A : Option Addr) (c : Nat) (l : List QAsk) (w0 : World) (hA : Asks w0 A l) (hn1 : -9223372036854775808 ≤ n) (hn2 : n ≤ 9223372036854775807) :
    Calls Try.prog 8 #[.int .i64 n, .slice A l.length c] w0 fun e w' => e = .returned (.bool true) ∧ Below w0.heap.size w0 w' := by
  obtain ⟨f, hf, hf3⟩ := within_nat n 12 (by omega)
  have HF := Lib.hid hf
  have hll := hA.1
  have HA := Lib.hid hA
  clear hf hA
  go_enter Try.func8, Try.ntmps8
  go_wp2_with fail
  refine (new_any 4 _ (by omega) (by omega)).mono ?_
  rintro e w1 hm
  obtain ⟨p, M, rfl, _⟩ := id hm
  have G1 : Hid (Good w0 w1 p (PD.new 4)) := Good.start (Below.refl _ _) hm
  clear hm
  go_wp2_with fail
  refine (within_any n 0 12 _ (by omega) (by omega) (by omega) hn1 hn2).mono ?_
  rintro e w' ⟨rfl, rfl⟩
  rw [HF.out]
  go_wp2_with fail
  refine (good_arm G1.out f (by omega)).mono ?_
  rintro e w2 ⟨rfl, hg, _⟩
  have hR0 : FuAt w0 p 0 f false w2 { PD.new 4 with fuse := max (f : Int) (-1) } := by
    refine ⟨hg, ⟨by simp [PD.new], by simp [PD.new], by simp [PD.new], rfl, fun _ => ⟨by simp only; omega, by omega⟩, by simp⟩, ⟨?_⟩⟩
    intro x hx
    simp only [PD.new] at hx
    rw [List.eq_of_mem_replicate hx]
    simp
  have HR0 := Lib.hid hR0
  clear hg hR0
  go_wp2_with fail
  go_loopw [6, 7, 8] (fun lf of i wr => ∃ i' : Nat, i' ≤ l.length ∧ i' ≤ 30 ∧ i = .int .i64 i' ∧ ∃ (left : Int) (off : Bool) (D : PD), lf = .int .i64 left ∧ of = .bool off ∧ -100 ≤ left + i' ∧ left ≤ 12 ∧ Hid (FuAt w0 p i' left off wr D)) (fun _ _ i _ => l.length - (intOf i).toNat)
  case atStart => exact ⟨0, by omega, by omega, rfl, _, _, _, rfl, rfl, by omega, by omega, HR0⟩
  case round =>
    obtain ⟨i, hi, hi30, rfl, left, off, D, rfl, rfl, hlo, hhi, HR⟩ := hrel
    have hfew := HR.out.fu.few
    have hwro := HR.out.fu.wro
    have G2 : Hid (Good w0 wr p D) := HR.out.good
    by_cases hgo : i < l.length ∧ i < 30
    · obtain ⟨hlt, hlt30⟩ := hgo
      have d1 : decide ((i : Int) < (l.length : Int)) = true := by simp; omega
      have d2 : decide ((i : Int) < 30) = true := by simp; omega
      obtain ⟨q, hq⟩ : ∃ q, l[i]? = some q := ⟨_, List.getElem?_eq_getElem hlt⟩
      obtain ⟨b, bo, rfl, hbl, hask⟩ : ∃ b off, A = some ⟨b, off, none⟩ ∧ b < w0.heap.size ∧ AskAt w0 b (off + i * 8) q := by
        rcases HA.out.2 with h | ⟨b, off, h1, h2, h3⟩
        · rw [h] at hlt; simp at hlt
        · exact ⟨b, off, h1, h2, h3 i q hq⟩
      have HAsk := Lib.hid hask
      have hi0 : (0 : Int) ≤ (i : Int) := by omega
      have hi1 : (i : Int) < (l.length : Int) := by omega
      have QB : Hid (∀ b, D.write 4 b = (1, D)) := fun b => by unfold PD.write; rw [if_neg (by rw [HR.out.fu.len]; omega)]
      have QN : Hid (∀ i, D.write i [] = (1, D)) := fun i => by unfold PD.write; rw [if_neg (by simp)]
      clear hq hask
      go_wp2_with fail
      refine (fill_rep 1 _ rfl _).mono ?_
      rintro e W3 ⟨g3, rfl, ho3, hb3⟩
      have G3 := Lib.hid (G2.out.below hb3)
      have O3 := Lib.hid ho3
      have B3 := Lib.hid hb3
      have T3 := Lib.hid (TF.of_below hb3)
      clear ho3 hb3
      go_wp2_with fail
      have cW := good_write G3.out 4 g3 128 (rep 1) _ O3.out (by omega) (by omega)
      rw [QB.out] at cW
      refine cW.mono ?_
      clear cW
      rintro e W4 ⟨rfl, hg, ht⟩
      have G4 : Hid (Good w0 W4 p D) := hg
      have T4 := Lib.hid ht
      clear hg ht
      go_wp2_with fail
      have cN : Calls Try.prog 18 #[.pointer (some ⟨p, 0, none⟩), .int .i64 0, .slice none 0 0] W4 fun e w' => e = .returned (.int .i64 1) ∧ W4 = w' := good_write_short G4.out 0 none 0 0 (by omega)
      refine cN.mono ?_
      clear cN
      rintro e W5 ⟨rfl, rfl⟩
      have hcc := HAsk.out.below G4.out.1
      have hc0 := hcc.c0
      have hc1 := hcc.c1
      have hc4 := hcc.c4
      have hwi := hcc.wi
      clear hcc
      by_cases hk2 : q.kind = 2
      · have e1 : (q.kind == 2) = true := by simpa using hk2
        have HK2 := Lib.hid hk2
        clear hk2
        cases off with
        | true =>
          have hneg := HR.out.fu.offl rfl
          have ez : (left == 0) = false := by simp; omega
          have hor : (true || decide (left = 0)) = true := rfl
          have hfl := fuse_flush HR.out.fu
          rw [hor] at hfl
          have QF := Lib.hid hfl.1
          have FU := Lib.hid hfl.2
          have WH := Lib.hid (whole_flush HR.out.who)
          clear hfl hor
          go_wp2_with fail
          have cF := good_flush G4.out (by omega)
          rw [QF.out] at cF
          refine cF.mono ?_
          clear cF
          rintro e W6 ⟨rfl, hg, _⟩
          simp only [Bool.false_eq_true, if_true, if_false]
          have G6 : Hid (Good w0 W6 p (D.flush).2) := hg
          clear hg QF
          generalize hD' : (D.flush).2 = D' at G6 FU WH
          clear hD'
          obtain ⟨lr, hlr⟩ := whole_read FU.out WH.out
          have QR := Lib.hid hlr
          have QO : Hid (D'.off = true) := FU.out.offi
          have hfew6 := FU.out.few
          clear hlr
          go_wp2_with fail
          have cO := good_off G6.out
          rw [QO.out] at cO
          refine cO.mono ?_
          clear cO
          rintro e W8 ⟨rfl, hw8⟩
          subst hw8
          go_wp2_with fail
          have QR2 : Hid (D'.read 0 = none) := QR.out
          have cR := good_read G6.out (by omega) 0
          rw [QR2.out] at cR
          refine cR.mono ?_
          clear cR
          rintro e W9 ⟨hb9, rfl⟩
          have G9 := Lib.hid (G6.out.below hb9)
          have B9 := Lib.hid hb9
          have T9 := Lib.hid (TF.of_below hb9)
          clear hb9
          go_wp2_with fail
          go_roundw
          case rel => exact ⟨i + 1, by omega, by omega, by go_num, left - 1, true, D', rfl, rfl, by omega, by omega, G9.out, FU.out, WH.out⟩
          case measure => simp [intOf]; omega
        | false =>
          by_cases hz : left = 0
          · have hneg : left ≤ 0 := by omega
            have ez : ((0 : Int) == 0) = true := rfl
            subst hz
            have hor : (false || decide ((0 : Int) = 0)) = true := rfl
            have hfl := fuse_flush HR.out.fu
            rw [hor] at hfl
            have QF := Lib.hid hfl.1
            have FU := Lib.hid hfl.2
            have WH := Lib.hid (whole_flush HR.out.who)
            clear hfl hor
            go_wp2_with fail
            have cF := good_flush G4.out (by omega)
            rw [QF.out] at cF
            refine cF.mono ?_
            clear cF
            rintro e W6 ⟨rfl, hg, _⟩
            simp only [Bool.false_eq_true, if_true, if_false]
            have G6 : Hid (Good w0 W6 p (D.flush).2) := hg
            clear hg QF
            generalize hD' : (D.flush).2 = D' at G6 FU WH
            clear hD'
            obtain ⟨lr, hlr⟩ := whole_read FU.out WH.out
            have QR := Lib.hid hlr
            have QO : Hid (D'.off = true) := FU.out.offi
            have hfew6 := FU.out.few
            clear hlr
            go_wp2_with fail
            have cO := good_off G6.out
            rw [QO.out] at cO
            refine cO.mono ?_
            clear cO
            rintro e W8 ⟨rfl, hw8⟩
            subst hw8
            go_wp2_with fail
            have QR2 : Hid (D'.read 0 = none) := QR.out
            have cR := good_read G6.out (by omega) 0
            rw [QR2.out] at cR
            refine cR.mono ?_
            clear cR
            rintro e W9 ⟨hb9, rfl⟩
            have G9 := Lib.hid (G6.out.below hb9)
            have B9 := Lib.hid hb9
            have T9 := Lib.hid (TF.of_below hb9)
            clear hb9
            go_wp2_with fail
            go_roundw
            case rel => exact ⟨i + 1, by omega, by omega, by go_num, 0 - 1, true, D', rfl, rfl, by omega, by omega, G9.out, FU.out, WH.out⟩
            case measure => simp [intOf]; omega
          · have ez : (left == 0) = false := by simpa using hz
            have hor : (false || decide (left = 0)) = false := by simp [hz]
            have hpos : 1 ≤ left := by have := (HR.out.fu.fuse rfl).2; omega
            have hfl := fuse_flush HR.out.fu
            rw [hor] at hfl
            have QF := Lib.hid hfl.1
            have FU := Lib.hid hfl.2
            have WH := Lib.hid (whole_flush HR.out.who)
            clear hfl hor
            go_wp2_with fail
            have cF := good_flush G4.out (by omega)
            rw [QF.out] at cF
            refine cF.mono ?_
            clear cF
            rintro e W6 ⟨rfl, hg, _⟩
            simp only [Bool.false_eq_true, if_true, if_false]
            have G6 : Hid (Good w0 W6 p (D.flush).2) := hg
            clear hg QF
            generalize hD' : (D.flush).2 = D' at G6 FU WH
            clear hD'
            obtain ⟨lr, hlr⟩ := whole_read FU.out WH.out
            have QR := Lib.hid hlr
            have QO : Hid (D'.off = false) := FU.out.offi
            have hfew6 := FU.out.few
            clear hlr
            go_wp2_with fail
            have cO := good_off G6.out
            rw [QO.out] at cO
            refine cO.mono ?_
            clear cO
            rintro e W8 ⟨rfl, hw8⟩
            subst hw8
            go_wp2_with fail
            have QR2 : Hid (D'.read 0 = some lr) := QR.out
            have cR := good_read G6.out (by omega) 0
            rw [QR2.out] at cR
            refine cR.mono ?_
            clear cR
            rintro e W9 ⟨hb9, g9, c9, rfl, ho9⟩
            have G9 := Lib.hid (G6.out.below hb9)
            have B9 := Lib.hid hb9
            have T9 := Lib.hid (TF.of_below hb9)
            clear hb9
            have O9 := Lib.hid ho9
            clear ho9
            go_wp2_with fail
            go_roundw
            case rel => exact ⟨i + 1, by omega, by omega, by go_num, left - 1, false, D', rfl, rfl, by omega, by omega, G9.out, FU.out, WH.out⟩
            case measure => simp [intOf]; omega
      · have e1 : (q.kind == 2) = false := by simpa using hk2
        obtain ⟨k, hk, hk3⟩ := within_nat q.i 3 (by omega)
        have HK := Lib.hid hk
        clear hk2 hk
        cases off with
        | true =>
          have hneg := HR.out.fu.offl rfl
          have ez : (left == 0) = false := by simp; omega
          have hor : (true || decide (left = 0)) = true := rfl
          have hfl := fuse_write (k := k) HR.out.fu (by omega) (rep_len q.x)
          rw [hor] at hfl
          have QF := Lib.hid hfl.1
          have FU := Lib.hid hfl.2
          have WH := Lib.hid (whole_write HR.out.who k (rep q.x))
          have G4d : Hid (Good w0 W4.drew p D) := G4.out.below (Below.refl _ W4).drew
          clear hfl hor
          go_wp2_with fail
          go_region_held3 (fun w' => w'.cell? ⟨b, bo + i * 8 + 1, none⟩ = some (.int .i64 q.i) ∧ w'.cell? ⟨b, bo + i * 8 + 4, none⟩ = some (.int .u8 (q.x.toNat : Int)))
            (first
              | exact ⟨hc1, hc4⟩
              | exact ⟨(HAsk.out.below G6.out.1).c1, (HAsk.out.below G6.out.1).c4⟩
              | exact ⟨(HAsk.out.below G7.out.1).c1, (HAsk.out.below G7.out.1).c4⟩)
            ((first
              | (go_at_call 16; refine (within_any q.i 0 3 _ (by omega) (by omega) (by omega) hwi.1 hwi.2).mono ?_; rintro e w' ⟨rfl, rfl⟩; rw [HK.out])
              | (go_at_call 19; refine (fill_rep q.x _ rfl _).mono ?_; rintro e W6 ⟨g6, rfl, ho6, hb6⟩; have G6 := Lib.hid (G4d.out.below hb6); have O6 := Lib.hid ho6; clear ho6 hb6)
              | (go_at_call 18; have cW := good_write G6.out k g6 128 (rep q.x) _ O6.out (by omega) (by omega); rw [QF.out] at cW; refine cW.mono ?_; clear cW; rintro e W7 ⟨rfl, hg, _⟩; have G7 := Lib.hid hg; clear hg)))
          all_goals
            try simp only [Bool.false_eq_true, if_true, if_false]
            generalize hD' : (D.write k (rep q.x)).2 = D' at G7 FU WH
            clear hD' QF
            obtain ⟨lr, hlr⟩ := whole_read FU.out WH.out
            have QR := Lib.hid hlr
            have QO : Hid (D'.off = true) := FU.out.offi
            have hfew6 := FU.out.few
            clear hlr
            go_wp2_with fail
            have cO := good_off G7.out
            rw [QO.out] at cO
            refine cO.mono ?_
            clear cO
            rintro e W8 ⟨rfl, hw8⟩
            subst hw8
            go_wp2_with fail
            have QR2 : Hid (D'.read 0 = none) := QR.out
            have cR := good_read G7.out (by omega) 0
            rw [QR2.out] at cR
            refine cR.mono ?_
            clear cR
            rintro e W9 ⟨hb9, rfl⟩
            have G9 := Lib.hid (G7.out.below hb9)
            have B9 := Lib.hid hb9
            have T9 := Lib.hid (TF.of_below hb9)
            clear hb9
            go_wp2_with fail
            go_roundw
            case rel => exact ⟨i + 1, by omega, by omega, by go_num, left - 1, true, D', rfl, rfl, by omega, by omega, G9.out, FU.out, WH.out⟩
            case measure => simp [intOf]; omega
        | false =>
          by_cases hz : left = 0
          · have hneg : left ≤ 0 := by omega
            have ez : ((0 : Int) == 0) = true := rfl
            subst hz
            have hor : (false || decide ((0 : Int) = 0)) = true := rfl
            have hfl := fuse_write (k := k) HR.out.fu (by omega) (rep_len q.x)
            rw [hor] at hfl
            have QF := Lib.hid hfl.1
            have FU := Lib.hid hfl.2
            have WH := Lib.hid (whole_write HR.out.who k (rep q.x))
            have G4d : Hid (Good w0 W4.drew p D) := G4.out.below (Below.refl _ W4).drew
            clear hfl hor
            go_wp2_with fail
            go_region_held3 (fun w' => w'.cell? ⟨b, bo + i * 8 + 1, none⟩ = some (.int .i64 q.i) ∧ w'.cell? ⟨b, bo + i * 8 + 4, none⟩ = some (.int .u8 (q.x.toNat : Int)))
              (first
                | exact ⟨hc1, hc4⟩
                | exact ⟨(HAsk.out.below G6.out.1).c1, (HAsk.out.below G6.out.1).c4⟩
                | exact ⟨(HAsk.out.below G7.out.1).c1, (HAsk.out.below G7.out.1).c4⟩)
              ((first
                | (go_at_call 16; refine (within_any q.i 0 3 _ (by omega) (by omega) (by omega) hwi.1 hwi.2).mono ?_; rintro e w' ⟨rfl, rfl⟩; rw [HK.out])
                | (go_at_call 19; refine (fill_rep q.x _ rfl _).mono ?_; rintro e W6 ⟨g6, rfl, ho6, hb6⟩; have G6 := Lib.hid (G4d.out.below hb6); have O6 := Lib.hid ho6; clear ho6 hb6)
                | (go_at_call 18; have cW := good_write G6.out k g6 128 (rep q.x) _ O6.out (by omega) (by omega); rw [QF.out] at cW; refine cW.mono ?_; clear cW; rintro e W7 ⟨rfl, hg, _⟩; have G7 := Lib.hid hg; clear hg)))
            all_goals
              try simp only [Bool.false_eq_true, if_true, if_false]
              generalize hD' : (D.write k (rep q.x)).2 = D' at G7 FU WH
              clear hD' QF
              obtain ⟨lr, hlr⟩ := whole_read FU.out WH.out
              have QR := Lib.hid hlr
              have QO : Hid (D'.off = true) := FU.out.offi
              have hfew6 := FU.out.few
              clear hlr
              go_wp2_with fail
              have cO := good_off G7.out
              rw [QO.out] at cO
              refine cO.mono ?_
              clear cO
              rintro e W8 ⟨rfl, hw8⟩
              subst hw8
              go_wp2_with fail
              have QR2 : Hid (D'.read 0 = none) := QR.out
              have cR := good_read G7.out (by omega) 0
              rw [QR2.out] at cR
              refine cR.mono ?_
              clear cR
              rintro e W9 ⟨hb9, rfl⟩
              have G9 := Lib.hid (G7.out.below hb9)
              have B9 := Lib.hid hb9
              have T9 := Lib.hid (TF.of_below hb9)
              clear hb9
              go_wp2_with fail
              go_roundw
              case rel => exact ⟨i + 1, by omega, by omega, by go_num, 0 - 1, true, D', rfl, rfl, by omega, by omega, G9.out, FU.out, WH.out⟩
              case measure => simp [intOf]; omega
          · have ez : (left == 0) = false := by simpa using hz
            have hor : (false || decide (left = 0)) = false := by simp [hz]
            have hpos : 1 ≤ left := by have := (HR.out.fu.fuse rfl).2; omega
            have hfl := fuse_write (k := k) HR.out.fu (by omega) (rep_len q.x)
            rw [hor] at hfl
            have QF := Lib.hid hfl.1
            have FU := Lib.hid hfl.2
            have WH := Lib.hid (whole_write HR.out.who k (rep q.x))
            have G4d : Hid (Good w0 W4.drew p D) := G4.out.below (Below.refl _ W4).drew
            clear hfl hor
            go_wp2_with fail
            go_region_held3 (fun w' => w'.cell? ⟨b, bo + i * 8 + 1, none⟩ = some (.int .i64 q.i) ∧ w'.cell? ⟨b, bo + i * 8 + 4, none⟩ = some (.int .u8 (q.x.toNat : Int)))
              (first
                | exact ⟨hc1, hc4⟩
                | exact ⟨(HAsk.out.below G6.out.1).c1, (HAsk.out.below G6.out.1).c4⟩
                | exact ⟨(HAsk.out.below G7.out.1).c1, (HAsk.out.below G7.out.1).c4⟩)
              ((first
                | (go_at_call 16; refine (within_any q.i 0 3 _ (by omega) (by omega) (by omega) hwi.1 hwi.2).mono ?_; rintro e w' ⟨rfl, rfl⟩; rw [HK.out])
                | (go_at_call 19; refine (fill_rep q.x _ rfl _).mono ?_; rintro e W6 ⟨g6, rfl, ho6, hb6⟩; have G6 := Lib.hid (G4d.out.below hb6); have O6 := Lib.hid ho6; clear ho6 hb6)
                | (go_at_call 18; have cW := good_write G6.out k g6 128 (rep q.x) _ O6.out (by omega) (by omega); rw [QF.out] at cW; refine cW.mono ?_; clear cW; rintro e W7 ⟨rfl, hg, _⟩; have G7 := Lib.hid hg; clear hg)))
            all_goals
              try simp only [Bool.false_eq_true, if_true, if_false]
              generalize hD' : (D.write k (rep q.x)).2 = D' at G7 FU WH
              clear hD' QF
              obtain ⟨lr, hlr⟩ := whole_read FU.out WH.out
              have QR := Lib.hid hlr
              have QO : Hid (D'.off = false) := FU.out.offi
              have hfew6 := FU.out.few
              clear hlr
              go_wp2_with fail
              have cO := good_off G7.out
              rw [QO.out] at cO
              refine cO.mono ?_
              clear cO
              rintro e W8 ⟨rfl, hw8⟩
              subst hw8
              go_wp2_with fail
              have QR2 : Hid (D'.read 0 = some lr) := QR.out
              have cR := good_read G7.out (by omega) 0
              rw [QR2.out] at cR
              refine cR.mono ?_
              clear cR
              rintro e W9 ⟨hb9, g9, c9, rfl, ho9⟩
              have G9 := Lib.hid (G7.out.below hb9)
              have B9 := Lib.hid hb9
              have T9 := Lib.hid (TF.of_below hb9)
              clear hb9
              have O9 := Lib.hid ho9
              clear ho9
              go_wp2_with fail
              go_roundw
              case rel => exact ⟨i + 1, by omega, by omega, by go_num, left - 1, false, D', rfl, rfl, by omega, by omega, G9.out, FU.out, WH.out⟩
              case measure => simp [intOf]; omega
    · by_cases hlt : i < l.length
      · have hLv : Live (D.boot []) 4 i := ⟨by show (bootAll _ _ _).length = 4; rw [bootAll_len]; exact HR.out.fu.len, rfl, rfl, by simp [PD.boot], hwro, by simp [PD.boot]⟩
        have QO : Hid ((D.boot []).off = false) := rfl
        have QW : Hid (((D.boot []).write 0 (rep 1)).1 = 0) := congrArg Prod.fst (hLv.write (k := 0) (by omega) (rep_len 1))
        have hfb : (D.boot []).waits.length < 1048576 := by have := hLv.few; omega
        have hwb : (D.boot []).wrote < 1152921504606846976 := by have := hLv.wro; omega
        have d1 : decide (i < l.length) = true := by simp; omega
        have d2 : decide ((i : Int) < 30) = false := by simp; omega
        clear hLv hgo
        go_wp2_with fail
        all_goals
          refine (good_boot G2.out (by omega) none 0 [] ⟨rfl, by simp⟩ (by simp) (by simp)).mono ?_
          rintro e W6 ⟨rfl, hg, _⟩
          have G6 : Hid (Good w0 W6 p (D.boot [])) := hg
          clear hg
          go_wp2_with fail
          have cO := good_off G6.out
          rw [QO.out] at cO
          refine cO.mono ?_
          clear cO
          rintro e W7 ⟨rfl, hw7⟩
          subst hw7
          go_wp2_with fail
          refine (fill_rep 1 _ rfl _).mono ?_
          rintro e W8 ⟨g8, rfl, ho8, hb8⟩
          have G8 := Lib.hid (G6.out.below hb8)
          have O8 := Lib.hid ho8
          have B8 := Lib.hid hb8
          have T8 := Lib.hid (TF.of_below hb8)
          clear ho8 hb8
          go_wp2_with fail
          have cW := good_write G8.out 0 g8 128 (rep 1) _ O8.out hfb hwb
          rw [QW.out] at cW
          refine cW.mono ?_
          clear cW
          rintro e W9 ⟨rfl, hg, ht⟩
          have G9 : Hid (Good w0 W9 p ((D.boot []).write 0 (rep 1)).2) := hg
          have T9 := Lib.hid ht
          clear hg ht
          go_wp2_with fail
          refine (diskRuns_any _).mono ?_
          rintro e W10 ⟨rfl, hb10⟩
          have G10 := Lib.hid (G9.out.below hb10)
          clear hb10
          go_wp2_with fail
          go_ret
          exact ⟨rfl, G10.out.1⟩
      · have hLv : Live (D.boot []) 4 i := ⟨by show (bootAll _ _ _).length = 4; rw [bootAll_len]; exact HR.out.fu.len, rfl, rfl, by simp [PD.boot], hwro, by simp [PD.boot]⟩
        have QO : Hid ((D.boot []).off = false) := rfl
        have QW : Hid (((D.boot []).write 0 (rep 1)).1 = 0) := congrArg Prod.fst (hLv.write (k := 0) (by omega) (rep_len 1))
        have hfb : (D.boot []).waits.length < 1048576 := by have := hLv.few; omega
        have hwb : (D.boot []).wrote < 1152921504606846976 := by have := hLv.wro; omega
        have d1 : decide (i < l.length) = false := by simp; omega
        clear hLv hgo
        go_wp2_with fail
        all_goals
          refine (good_boot G2.out (by omega) none 0 [] ⟨rfl, by simp⟩ (by simp) (by simp)).mono ?_
          rintro e W6 ⟨rfl, hg, _⟩
          have G6 : Hid (Good w0 W6 p (D.boot [])) := hg
          clear hg
          go_wp2_with fail
          have cO := good_off G6.out
          rw [QO.out] at cO
          refine cO.mono ?_
          clear cO
          rintro e W7 ⟨rfl, hw7⟩
          subst hw7
          go_wp2_with fail
          refine (fill_rep 1 _ rfl _).mono ?_
          rintro e W8 ⟨g8, rfl, ho8, hb8⟩
          have G8 := Lib.hid (G6.out.below hb8)
          have O8 := Lib.hid ho8
          have B8 := Lib.hid hb8
          have T8 := Lib.hid (TF.of_below hb8)
          clear ho8 hb8
          go_wp2_with fail
          have cW := good_write G8.out 0 g8 128 (rep 1) _ O8.out hfb hwb
          rw [QW.out] at cW
          refine cW.mono ?_
          clear cW
          rintro e W9 ⟨rfl, hg, ht⟩
          have G9 : Hid (Good w0 W9 p ((D.boot []).write 0 (rep 1)).2) := hg
          have T9 := Lib.hid ht
          clear hg ht
          go_wp2_with fail
          refine (diskRuns_any _).mono ?_
          rintro e W10 ⟨rfl, hb10⟩
          have G10 := Lib.hid (G9.out.below hb10)
          clear hb10
          go_wp2_with fail
          go_ret
          exact ⟨rfl, G10.out.1⟩

end Go.Proofs.Ytioieffmihdheaa
