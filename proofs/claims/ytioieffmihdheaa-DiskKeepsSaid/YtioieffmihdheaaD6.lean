/- Flush and Boot, of a disk. -/
import Derived.Test.YtioieffmihdheaaD5
namespace Go.Proofs.Ytioieffmihdheaa
open Go.RowKit
set_option linter.unusedVariables false
set_option linter.unusedSimpArgs false

theorem flat_at (L : List (Nat × Value × List UInt8)) : ∀ (k : Nat) (x : Nat × Value × List UInt8), L[k]? = some x →
    (L.flatMap fun x => [Value.int .i64 (x.1 : Int), x.2.1])[k * 2]? = some (.int .i64 (x.1 : Int)) ∧ (L.flatMap fun x => [Value.int .i64 (x.1 : Int), x.2.1])[k * 2 + 1]? = some x.2.1 := by
  induction L with
  | nil => intro k x h; simp at h
  | cons y L ih =>
    intro k x h
    cases k with
    | zero => simp at h; subst h; simp
    | succ k =>
      have h1 := ih k x (by simpa using h)
      rw [show (k + 1) * 2 = (k * 2) + 2 by omega]
      simpa using h1

def landG (G : List (Value × Option (List UInt8))) (L : List (Nat × Value × List UInt8)) : List (Value × Option (List UInt8)) := L.foldl (fun G x => G.set x.1 (x.2.1, some x.2.2)) G
theorem landG_len (L : List (Nat × Value × List UInt8)) : ∀ G, (landG G L).length = G.length := by
  induction L with
  | nil => intro G; rfl
  | cons x L ih => intro G; unfold landG; rw [List.foldl_cons]; exact (ih _).trans List.length_set
theorem landG_snoc (G : List (Value × Option (List UInt8))) (L : List (Nat × Value × List UInt8)) (k : Nat) (x : Nat × Value × List UInt8) (h : L[k]? = some x) : landG G (L.take (k + 1)) = (landG G (L.take k)).set x.1 (x.2.1, some x.2.2) := by
  unfold landG
  rw [List.take_add_one, h]
  simp [List.foldl_append]
theorem landG_all (L : List (Nat × Value × List UInt8)) : ∀ G, (landG G L).map (·.2) = landAll (G.map (·.2)) (L.map fun x => (x.1, x.2.2)) := by
  induction L with
  | nil => intro G; rfl
  | cons x L ih =>
    intro G
    unfold landG landAll
    rw [List.foldl_cons, List.map_cons, List.foldl_cons]
    have := ih (G.set x.1 (x.2.1, some x.2.2))
    unfold landG landAll at this
    rw [this, List.map_set]

section
variable {n0 : Nat} {w w' : World} {p bb nc : Nat} {G : List (Value × Option (List UInt8))} {wv : Value} {L : List (Nat × Value × List UInt8)} {fuse : Int} {off : Bool} {wrote : Int}
theorem DskG.wait_cells (h : DskG n0 w p bb nc G wv L fuse off wrote) (g c : Nat) (hv : wv = .slice (some ⟨g, 0, none⟩) L.length c) (k : Nat) (x : Nat × Value × List UInt8) (hx : L[k]? = some x) :
    w.cell? ⟨g, k * 2, none⟩ = some (.int .i64 (x.1 : Int)) ∧ w.cell? ⟨g, k * 2 + 1, none⟩ = some x.2.1 := by
  subst hv
  obtain ⟨h1, h2⟩ := flat_at L k x hx
  have hk : k < L.length := by
    rcases Nat.lt_or_ge k L.length with h | h
    · exact h
    · rw [List.getElem?_eq_none h] at hx; cases hx
  exact ⟨(h.own.cellAt (k * 2) (by omega)).trans h1, (h.own.cellAt (k * 2 + 1) (by omega)).trans h2⟩
/-- nothing waits any more; fuse, power -/
theorem DskG.unwait {fuse' : Int} {off' : Bool} (h : DskG n0 w p bb nc G wv L fuse off wrote) (hk : Kp [p] w w')
    (hs : Blk w' p 69 #[.slice (some ⟨bb, 0, none⟩) G.length nc, .slice none 0 0, .int .i64 fuse', .bool off', .int .i64 wrote]) (h1 : -1 ≤ fuse') (h2 : fuse' ≤ 9223372036854775807) : DskG n0 w' p bb nc G (.slice none 0 0) [] fuse' off' wrote := by
  obtain ⟨cs, r1, r2⟩ := h.row
  have hB : ∀ {v : Value} {l : List UInt8}, Bts 5 n0 w v l → Bts 5 n0 w' v l := fun hv => hv.kp hk (fun g hg hm => h.bts_ne hv g hg (by simp only [List.mem_singleton] at hm; simp [dskM, hm]))
  refine ⟨hs, h.plt, ⟨cs, hk.blk r1 (by simpa using Ne.symm h.ne_pb), r2⟩, h.blt, fun x hx => ?_, World.ownsRow_nil _ _ _ _, by simp [Value.ownBlock], by simp, h1, h2, h.wro, h.pos, h.few⟩
  have := h.each x hx
  match h2 : x.2 with
  | none => rw [h2] at this; exact this
  | some l => rw [h2] at this; exact ⟨hB this.1, this.2⟩
end

set_option maxRecDepth 100000 in
set_option maxHeartbeats 800000 in
theorem flush_down {n0 : Nat} {w : World} {p bb nc : Nat} {G : List (Value × Option (List UInt8))} {wv : Value} {L : List (Nat × Value × List UInt8)} {fuse : Int} {off : Bool} {wrote : Int} (h : DskG n0 w p bb nc G wv L fuse off wrote)
    (hg : decide (¬ (fuse = 0 ∨ off = true)) = false) :
    Calls Try.prog 22 #[.pointer (some ⟨p, 0, none⟩)] w fun e w' => e = .returned (.int .i64 7) ∧ Kp [p] w w' ∧ DskG n0 w' p bb nc G wv L fuse true wrote := by
  have HH := Lib.hid h
  have HG := Lib.hid hg
  clear h hg
  go_enter Try.func22, Try.ntmps22
  go_wp2_with (go_at_call 40; refine (goes_any HH.out false HG.out).mono ?_; rintro e w' ⟨rfl, hk1, hs1, hD1⟩; have HK1 := Lib.hid hk1; have HD1 := Lib.hid hD1; clear hk1 hs1 hD1)
  go_ret
  exact ⟨rfl, HK1.out, HD1.out⟩

set_option maxRecDepth 100000 in
set_option maxHeartbeats 1600000 in
theorem flush_ok {n0 : Nat} {w : World} {p bb nc : Nat} {G : List (Value × Option (List UInt8))} {wv : Value} {L : List (Nat × Value × List UInt8)} {fuse : Int} {off : Bool} {wrote : Int} (h : DskG n0 w p bb nc G wv L fuse off wrote)
    (hn : n0 ≤ w.heap.size) (hL : L.length ≤ 1048576) (hg : decide (¬ (fuse = 0 ∨ off = true)) = true) :
    Calls Try.prog 22 #[.pointer (some ⟨p, 0, none⟩)] w fun e w' => e = .returned (.int .i64 0) ∧ Kp [p, bb] w w' ∧ DskG n0 w' p bb nc (landG G L) (.slice none 0 0) [] (max (fuse - 1) (-1)) false wrote := by
  have HH := Lib.hid h
  have HG := Lib.hid hg
  have HN := Lib.hid hn
  obtain ⟨A, c, hwv⟩ := h.wvslice
  have hwf := h.wvform
  subst hwv
  have HF := Lib.hid hwf
  clear h hg hn hwf
  go_enter Try.func22, Try.ntmps22
  go_wp2_with (go_at_call 40; refine (goes_any HH.out true HG.out).mono ?_; rintro e w1 ⟨rfl, hk1, hs1, hD1⟩; have HK1 := Lib.hid hk1; have HD1 := Lib.hid hD1; have HS1 := Lib.hid hs1; have c1 := hD1.c1; clear hk1 hs1 hD1)
  go_loopw [4, 13] (fun _ i wr => ∃ k : Nat, k ≤ L.length ∧ i = .int .i64 k ∧ Hid (Kp [p, bb] w wr) ∧ Hid (DskG n0 wr p bb nc (landG G (L.take k)) (.slice A L.length c) L (max (fuse - 1) (-1)) false wrote)) (fun _ i _ => L.length - (intOf i).toNat)
  case atStart => exact ⟨0, by omega, rfl, HK1.out.mono (by simp), HD1.out⟩
  case round =>
    obtain ⟨k, hk, rfl, HK, HD⟩ := hrel
    by_cases hlt : k < L.length
    · obtain ⟨x, hx⟩ : ∃ x, L[k]? = some x := ⟨_, List.getElem?_eq_getElem hlt⟩
      obtain ⟨g, rfl⟩ : ∃ g, A = some ⟨g, 0, none⟩ := by
        rcases HF.out with ⟨h1, h2⟩ | ⟨g, c', h1, _⟩
        · rw [h2] at hlt; simp at hlt
        · injection h1 with h1; exact ⟨g, h1⟩
      obtain ⟨hc1, hc2⟩ := HD.out.wait_cells g c rfl k x hx
      obtain ⟨hw1, hw2, hw3⟩ := HD.out.wait x (List.mem_of_getElem? hx)
      have hnw : n0 ≤ wr.heap.size := by have := HK.out.size; have := HN.out; omega
      have hD' := HD.out.below ((Below.refl n0 wr).alloc hnw (.cells #[.int .i64 (x.1 : Int), x.2.1] 73))
      have hw4 := hw2.below ((Below.refl n0 wr).alloc hnw (.cells #[.int .i64 (x.1 : Int), x.2.1] 73))
      obtain ⟨gv, cv, hv, _⟩ := hw2.form
      obtain ⟨x1, x2, x3⟩ := x
      simp only at hv hc1 hc2 hw1 hw3 hw4 hD'
      subst hv
      have hsn := landG_snoc G L k _ hx
      have HD' := Lib.hid hD'
      have HW1 := Lib.hid hw1
      have HW3 := Lib.hid hw3
      have HW4 := Lib.hid hw4
      have HX := Lib.hid hx
      have HSN := Lib.hid hsn
      have HNW := Lib.hid hnw
      clear hw1 hw2 hw3 hw4 hx hnw hD' hsn
      go_wp2_with (go_at_call 42; refine (land_any HD'.out x1 HW1.out _ x3 HW4.out HW3.out (by have := HNW.out; simp; omega)).mono ?_; rintro e w2 ⟨rfl, hk2, hD2⟩; have HK2 := Lib.hid hk2; have HD2 := Lib.hid hD2; clear hk2 hD2)
      go_roundw
      case rel => exact ⟨k + 1, by omega, by go_num, (HK.out.alloc _).trans (HK2.out.mono (by simp)), by rw [HSN.out]; exact HD2.out⟩
      case measure => simp [intOf]; omega
    · obtain rfl : k = L.length := by omega
      have c1 := HD.out.c1
      have f1 := HD.out.self.frozen 1
      have cp := HD.out.c0
      go_wp2
      go_ret
      refine ⟨rfl, HK.out.setCell (.inl (by simp)) _, ?_⟩
      have h1 := HD.out.unwait ((Kp.refl [p] wr).setCell (.inl (by simp)) _) (HD.out.self.set_ 1 (.slice none 0 0)) HD.out.flo HD.out.fhi
      rw [List.take_length] at h1
      exact h1

end Go.Proofs.Ytioieffmihdheaa
