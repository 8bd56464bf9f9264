/- Boot, of a disk. -/
import Derived.Test.YtioieffmihdheaaD6
namespace Go.Proofs.Ytioieffmihdheaa
open Go.RowKit
set_option linter.unusedVariables false
set_option linter.unusedSimpArgs false

def bootStepG (G : List (Value × Option (List UInt8))) (x : Nat × Value × List UInt8) (h : UInt8) : List (Value × Option (List UInt8)) :=
  if h.toNat % 3 = 1 then G.set x.1 (x.2.1, some x.2.2) else if h.toNat % 3 = 2 then G.set x.1 (.slice none 0 0, none) else G
def bootG (G : List (Value × Option (List UInt8))) (Z : List ((Nat × Value × List UInt8) × UInt8)) : List (Value × Option (List UInt8)) := Z.foldl (fun G y => bootStepG G y.1 y.2) G
theorem bootStepG_len (G : List (Value × Option (List UInt8))) (x : Nat × Value × List UInt8) (h : UInt8) : (bootStepG G x h).length = G.length := by
  unfold bootStepG
  split
  · simp
  · split <;> simp
theorem bootG_len (Z : List ((Nat × Value × List UInt8) × UInt8)) : ∀ G, (bootG G Z).length = G.length := by
  induction Z with
  | nil => intro G; rfl
  | cons x L ih => intro G; unfold bootG; rw [List.foldl_cons]; exact (ih _).trans (bootStepG_len _ _ _)
theorem bootG_snoc (G : List (Value × Option (List UInt8))) (Z : List ((Nat × Value × List UInt8) × UInt8)) (k : Nat) (x : Nat × Value × List UInt8) (h : UInt8) (hx : Z[k]? = some (x, h)) : bootG G (Z.take (k + 1)) = bootStepG (bootG G (Z.take k)) x h := by
  unfold bootG
  rw [List.take_add_one, hx]
  simp [List.foldl_append]
theorem bootG_all (how : List UInt8) : ∀ (L : List (Nat × Value × List UInt8)) (G : List (Value × Option (List UInt8))), (bootG G (L.zip how)).map (·.2) = bootAll (G.map (·.2)) (L.map fun x => (x.1, x.2.2)) how := by
  induction how with
  | nil => intro L G; simp [bootG, bootAll]
  | cons h how ih =>
    intro L G
    cases L with
    | nil => simp [bootG, bootAll]
    | cons x L =>
      have h1 := ih L (bootStepG G x h)
      unfold bootG bootAll at h1 ⊢
      rw [List.zip_cons_cons, List.foldl_cons, h1, List.map_cons, List.zip_cons_cons, List.foldl_cons]
      congr 1
      unfold bootStepG bootStep
      split
      · rw [List.map_set]
      · split
        · rw [List.map_set]
        · rfl

set_option maxRecDepth 100000 in
set_option maxHeartbeats 3200000 in
theorem boot_any {n0 : Nat} {w : World} {p bb nc : Nat} {G : List (Value × Option (List UInt8))} {wv : Value} {L : List (Nat × Value × List UInt8)} {fuse : Int} {off : Bool} {wrote : Int} (h : DskG n0 w p bb nc G wv L fuse off wrote)
    (hn : n0 ≤ w.heap.size) (hL : L.length ≤ 1048576) (A' : Option Addr) (c' : Nat) (how : List UInt8) (hhow : SameAt w how.length A' how) (hh : how.length ≤ 9223372036854775807) (hne : ∀ ad, A' = some ad → 0 < how.length → ad.block ≠ p ∧ ad.block ≠ bb) :
    Calls Try.prog 20 #[.pointer (some ⟨p, 0, none⟩), .slice A' how.length c'] w fun e w' => e = .returned (.tuple #[]) ∧ Kp [p, bb] w w' ∧
      DskG n0 w' p bb nc (bootG G (L.zip how)) (.slice none 0 0) [] (-1) false wrote := by
  have HH := Lib.hid h
  have HN := Lib.hid hn
  have HW := Lib.hid hhow
  have HE := Lib.hid hne
  obtain ⟨A, c, hwv⟩ := h.wvslice
  have hwf := h.wvform
  subst hwv
  have HF := Lib.hid hwf
  have c1 := h.c1
  clear h hn hwf hhow hne
  -- what is left, once all has been looked at
  have HT : ∀ wr : World, Hid (Kp [p, bb] w wr) → Hid (DskG n0 wr p bb nc (bootG G (L.zip how)) (.slice A L.length c) L fuse off wrote) →
      Hid (Kp [p, bb] w (((wr.setCell ⟨p, 1, none⟩ (.slice none 0 0)).setCell ⟨p, 2, none⟩ (.int .i64 (-1))).setCell ⟨p, 3, none⟩ (.bool false)) ∧ DskG n0 (((wr.setCell ⟨p, 1, none⟩ (.slice none 0 0)).setCell ⟨p, 2, none⟩ (.int .i64 (-1))).setCell ⟨p, 3, none⟩ (.bool false)) p bb nc (bootG G (L.zip how)) (.slice none 0 0) [] (-1) false wrote) := by
    intro wr HK HD
    refine ⟨((HK.out.setCell (.inl (by simp)) _).setCell (.inl (by simp)) _).setCell (.inl (by simp)) _, ?_⟩
    exact HD.out.unwait ((((Kp.refl [p] wr).setCell (.inl (by simp)) _).setCell (.inl (by simp)) _).setCell (.inl (by simp)) _) (((HD.out.self.set_ 1 (.slice none 0 0)).set_ 2 (.int .i64 (-1))).set_ 3 (.bool false)) (by simp) (by simp)
  have HT' := Lib.hid HT
  clear HT
  go_enter Try.func20, Try.ntmps20
  go_wp2
  go_loopw [4, 5, 11] (fun _ _ i wr => ∃ k : Nat, k ≤ L.length ∧ i = .int .i64 k ∧ Hid (k ≤ how.length) ∧ Hid (Kp [p, bb] w wr) ∧ Hid (DskG n0 wr p bb nc (bootG G ((L.zip how).take k)) (.slice A L.length c) L fuse off wrote)) (fun _ _ i _ => L.length - (intOf i).toNat)
  case atStart => exact ⟨0, by omega, rfl, Nat.zero_le _, Kp.refl _ _, HH.out⟩
  case round =>
    obtain ⟨k, hk, rfl, HKH, HK, HD⟩ := hrel
    have hkh := HKH.out
    by_cases hlt : k < L.length
    · obtain ⟨x, hx⟩ : ∃ x, L[k]? = some x := ⟨_, List.getElem?_eq_getElem hlt⟩
      obtain ⟨g, rfl⟩ : ∃ g, A = some ⟨g, 0, none⟩ := by
        rcases HF.out with ⟨h1, h2⟩ | ⟨g, c', h1, _⟩
        · rw [h2] at hlt; simp at hlt
        · injection h1 with h1; exact ⟨g, h1⟩
      obtain ⟨hc1, hc2⟩ := HD.out.wait_cells g c rfl k x hx
      obtain ⟨hw1, hw2, hw3⟩ := HD.out.wait x (List.mem_of_getElem? hx)
      have hnw : n0 ≤ wr.heap.size := by have := HK.out.size; have := HN.out; omega
      have hbel := (Below.refl n0 wr).alloc hnw (.cells #[.int .i64 (x.1 : Int), x.2.1] 73)
      have hD' := HD.out.below hbel
      have hw4 := hw2.below hbel
      obtain ⟨gv, cv, hv, _⟩ := hw2.form
      obtain ⟨x1, x2, x3⟩ := x
      simp only at hv hc1 hc2 hw1 hw3 hw4 hD'
      subst hv
      by_cases hlt' : k < how.length
      · obtain ⟨y, hy⟩ : ∃ y, how[k]? = some y := ⟨_, List.getElem?_eq_getElem hlt'⟩
        have hz : (L.zip how)[k]? = some ((x1, .slice (some ⟨gv, 0, none⟩) x3.length cv, x3), y) := by rw [List.getElem?_zip_eq_some]; exact ⟨hx, hy⟩
        have hsn := bootG_snoc G _ k _ _ hz
        obtain ⟨ad, rfl, hcy⟩ := HW.out.2 k y hy
        have hby : (ad.add k).block = ad.block := by unfold Addr.add; split <;> rfl
        have hcy' : wr.cell? (ad.add k) = some (BV y) := by
          have h1 := World.block_lt_of_cell? w _ hcy
          have h2 := HE.out ad rfl (by omega)
          rw [HK.out.cell h1 (by rw [hby]; simp; exact h2)]
          exact hcy
        have hcy2 : (wr.alloc (.cells #[.int .i64 (x1 : Int), .slice (some ⟨gv, 0, none⟩) x3.length cv] 73)).cell? (ad.add k) = some (BV y) := by
          rw [World.cell?_alloc_lt wr _ _ (World.block_lt_of_cell? wr _ hcy')]
          exact hcy'
        have hxlt : x1 < G.length := by rw [bootG_len] at hw1; exact hw1
        have HD' := Lib.hid hD'
        have HW1 := Lib.hid hw1
        have HW3 := Lib.hid hw3
        have HW4 := Lib.hid hw4
        have HX := Lib.hid hx
        have HSN := Lib.hid hsn
        have HNW := Lib.hid hnw
        unfold BV at hcy2
        have hk0 : (0 : Int) ≤ (k : Int) := by omega
        have hk1 : (k : Int) < (how.length : Int) := by omega
        clear hw1 hw2 hw3 hw4 hx hnw hD' hsn hy hz hcy hcy' hby hbel
        by_cases h1 : y.toNat % 3 = 1
        · have e1 : ((y.toNat : Int) % 3 == 1) = true := by simp; omega
          have e2 : ((y.toNat : Int) % 3 == 2) = false := by simp; omega
          have HY := Lib.hid h1
          clear h1
          go_wp2_with (go_at_call 42; refine (land_any HD'.out x1 HW1.out _ x3 HW4.out HW3.out (by have := HNW.out; simp; omega)).mono ?_; rintro e w2 ⟨rfl, hk2, hD2⟩; have HK2 := Lib.hid hk2; have HD2 := Lib.hid hD2; clear hk2 hD2)
          go_roundw
          case rel => exact ⟨k + 1, by omega, by go_num, hlt', (HK.out.alloc _).trans (HK2.out.mono (by simp)), by rw [HSN.out]; unfold bootStepG; rw [if_pos HY.out]; exact HD2.out⟩
          case measure => simp [intOf]; omega
        · by_cases h2 : y.toNat % 3 = 2
          · have e1 : ((y.toNat : Int) % 3 == 1) = false := by simp; omega
            have e2 : ((y.toNat : Int) % 3 == 2) = true := by simp; omega
            have HY := Lib.hid h1
            have HY2 := Lib.hid h2
            have cp := HD.out.c0
            have hbl : bb < wr.heap.size := by have := HD.out.blt; have := HNW.out; omega
            have hpl : p < wr.heap.size := HD.out.self.lt
            obtain ⟨cs, r1, r2, r3, r4, r5⟩ := HD.out.row
            have hcb : ∃ u, wr.cell? ⟨bb, x1, none⟩ = some u := ⟨_, by rw [r1.cell]; exact Array.getElem?_eq_getElem (by have := HW1.out; omega)⟩
            obtain ⟨u0, hcb⟩ := hcb
            have hfb := r1.frozen x1
            have hlenG := bootG_len ((L.zip how).take k) G
            rw [hlenG] at cp
            have hx0 : (0 : Int) ≤ (x1 : Int) := by omega
            have hx1 : (x1 : Int) < (G.length : Int) := by omega
            have HR1 := Lib.hid r1
            clear h1 h2 r1 r2 r3 r4 r5 hlenG
            go_wp2
            go_region
            all_goals go_wp2
            go_roundw
            case rel =>
              have hkb := (Kp.refl [bb] wr).setCell (p := ⟨bb, x1, none⟩) (.inl (by simp)) (.slice none 0 0)
              refine ⟨k + 1, by omega, by go_num, hlt', ((HK.out.setCell (.inl (by simp)) _).alloc _).drew, ?_⟩
              rw [HSN.out]
              unfold bootStepG
              rw [if_neg HY.out, if_pos HY2.out]
              exact (HD.out.reblock hkb HW1.out HR1.out (HR1.out.set_ x1 _) (o := none) rfl).below ((Below.refl n0 _).alloc (by have := HNW.out; simpa [World.setCell] using this) _).drew
            case measure => simp [intOf]; omega
          · have e1 : ((y.toNat : Int) % 3 == 1) = false := by simp; omega
            have e2 : ((y.toNat : Int) % 3 == 2) = false := by simp; omega
            have HY := Lib.hid h1
            have HY2 := Lib.hid h2
            clear h1 h2
            go_wp2
            go_roundw
            case rel => exact ⟨k + 1, by omega, by go_num, hlt', HK.out.alloc _, by rw [HSN.out]; unfold bootStepG; rw [if_neg HY.out, if_neg HY2.out]; exact HD'.out⟩
            case measure => simp [intOf]; omega
      · have hz : (L.zip how).take k = L.zip how := List.take_of_length_le (by simp [List.length_zip]; omega)
        rw [hz] at HD
        have c1' := HD.out.c1
        have cf1 := HD.out.self.frozen 1
        have c2' := HD.out.c2
        have cf2 := HD.out.self.frozen 2
        have c3' := HD.out.c3
        have cf3 := HD.out.self.frozen 3
        have hpl : p < wr.heap.size := HD.out.self.lt
        have HT2 := HT'.out wr HK HD
        have HNW := Lib.hid hnw
        clear hD' hw1 hw2 hw3 hw4 hx hz hnw hbel
        go_wp2
        go_end0
        exact ⟨rfl, HT2.out.1.alloc _, HT2.out.2.below ((Below.refl n0 _).alloc (by have := HNW.out; simpa [World.setCell] using this) _)⟩
    · obtain rfl : k = L.length := by omega
      have hz : (L.zip how).take L.length = L.zip how := List.take_of_length_le (by simp [List.length_zip]; omega)
      rw [hz] at HD
      have c1' := HD.out.c1
      have cf1 := HD.out.self.frozen 1
      have c2' := HD.out.c2
      have cf2 := HD.out.self.frozen 2
      have c3' := HD.out.c3
      have cf3 := HD.out.self.frozen 3
      have HT2 := HT'.out wr HK HD
      clear hz
      go_wp2
      go_end0
      exact ⟨rfl, HT2.out.1, HT2.out.2⟩

end Go.Proofs.Ytioieffmihdheaa
