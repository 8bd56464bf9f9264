/- The disk's small calls: has, goes, Len, Waits, Off, Wrote, Arm, land. -/
import Derived.Test.YtioieffmihdheaaD1
import Derived.Deep.QuietTactic
import Derived.BigQuiet
namespace Go.Proofs.Ytioieffmihdheaa
open Go.RowKit
set_option linter.unusedVariables false
set_option linter.unusedSimpArgs false

section
variable {n0 : Nat} {w : World} {p bb nc : Nat} {G : List (Value × Option (List UInt8))} {wv : Value} {L : List (Nat × Value × List UInt8)} {fuse : Int} {off : Bool} {wrote : Int}
theorem DskG.c0 (h : DskG n0 w p bb nc G wv L fuse off wrote) : w.cell? ⟨p, 0, none⟩ = some (.slice (some ⟨bb, 0, none⟩) G.length nc) := h.self.cell 0
theorem DskG.c1 (h : DskG n0 w p bb nc G wv L fuse off wrote) : w.cell? ⟨p, 1, none⟩ = some wv := h.self.cell 1
theorem DskG.c2 (h : DskG n0 w p bb nc G wv L fuse off wrote) : w.cell? ⟨p, 2, none⟩ = some (.int .i64 fuse) := h.self.cell 2
theorem DskG.c3 (h : DskG n0 w p bb nc G wv L fuse off wrote) : w.cell? ⟨p, 3, none⟩ = some (.bool off) := h.self.cell 3
theorem DskG.c4 (h : DskG n0 w p bb nc G wv L fuse off wrote) : w.cell? ⟨p, 4, none⟩ = some (.int .i64 wrote) := h.self.cell 4
theorem DskG.wvform (h : DskG n0 w p bb nc G wv L fuse off wrote) : (wv = .slice none 0 0 ∧ L = []) ∨ ∃ g c, wv = .slice (some ⟨g, 0, none⟩) L.length c ∧ L.length ≤ c := by
  rcases h.own.2 with ⟨h1, h2⟩ | ⟨g, c, cur, h1, h2, h3, h4, h5, h6⟩
  · exact .inl ⟨h1, List.eq_nil_of_length_eq_zero h2⟩
  · exact .inr ⟨g, c, h1, h4⟩
theorem DskG.wvslice (h : DskG n0 w p bb nc G wv L fuse off wrote) : ∃ a c, wv = .slice a L.length c := by
  rcases h.wvform with ⟨h1, rfl⟩ | ⟨g, c, h1, _⟩
  · exact ⟨none, 0, h1⟩
  · exact ⟨_, _, h1⟩
/-- the cells that change by themselves: fuse, power, count -/
theorem DskG.reself {w' : World} {fuse' : Int} {off' : Bool} {wrote' : Int} (h : DskG n0 w p bb nc G wv L fuse off wrote) (hk : Kp [p] w w')
    (hs : Blk w' p 69 #[.slice (some ⟨bb, 0, none⟩) G.length nc, wv, .int .i64 fuse', .bool off', .int .i64 wrote']) (h1 : -1 ≤ fuse') (h2 : fuse' ≤ 9223372036854775807) (h3 : 0 ≤ wrote') : DskG n0 w' p bb nc G wv L fuse' off' wrote' := by
  obtain ⟨cs, r1, r2⟩ := h.row
  have hB : ∀ {v : Value} {l : List UInt8}, Bts 5 n0 w v l → Bts 5 n0 w' v l := fun hv => hv.kp hk (fun g hg hm => h.bts_ne hv g hg (by simp only [List.mem_singleton] at hm; simp [dskM, hm]))
  refine ⟨hs, h.plt, ⟨cs, hk.blk r1 (by simpa using Ne.symm h.ne_pb), r2⟩, h.blt, fun x hx => ?_, hk.owns h.own (fun g hg hm => h.ne_wp (by simp only [List.mem_singleton] at hm; rw [hg, hm])), h.wlt, fun x hx => ⟨(h.wait x hx).1, hB (h.wait x hx).2.1, (h.wait x hx).2.2⟩, h1, h2, h3, h.pos, h.few⟩
  have := h.each x hx
  match h2 : x.2 with
  | none => rw [h2] at this; exact this
  | some l => rw [h2] at this; exact ⟨hB this.1, this.2⟩
end

set_option maxHeartbeats 400000 in
theorem has_any (p bb nc n : Nat) (i : Int) (w : World) (r : Bool) (h0 : w.cell? ⟨p, 0, none⟩ = some (.slice (some ⟨bb, 0, none⟩) n nc)) (hn : n ≤ 512) (hr : decide (0 ≤ i ∧ i < n) = r) :
    Calls Try.prog 39 #[.pointer (some ⟨p, 0, none⟩), .int .i64 i] w fun e w' => e = .returned (.bool r) ∧ w = w' := by
  subst hr
  by_cases h1 : 0 ≤ i
  · by_cases h2 : i < n
    · have hx : decide (0 ≤ i ∧ i < (n : Int)) = true := by simp [h1, h2]
      rw [hx]
      go_enter Try.func39, Try.ntmps39
      go_wp2
      go_ret
      exact ⟨rfl, rfl⟩
    · have hx : decide (0 ≤ i ∧ i < (n : Int)) = false := by simp [h2]
      rw [hx]
      go_enter Try.func39, Try.ntmps39
      go_wp2
      go_ret
      exact ⟨rfl, rfl⟩
  · have hx : decide (0 ≤ i ∧ i < (n : Int)) = false := by simp [h1]
    rw [hx]
    go_enter Try.func39, Try.ntmps39
    go_wp2
    go_ret
    exact ⟨rfl, rfl⟩

set_option maxHeartbeats 400000 in
theorem len_any (p bb nc n : Nat) (w : World) (h0 : w.cell? ⟨p, 0, none⟩ = some (.slice (some ⟨bb, 0, none⟩) n nc)) :
    Calls Try.prog 35 #[.pointer (some ⟨p, 0, none⟩)] w fun e w' => e = .returned (.int .i64 n) ∧ w = w' := by
  go_enter Try.func35, Try.ntmps35
  go_wp2
  go_ret
  exact ⟨rfl, rfl⟩
set_option maxHeartbeats 400000 in
theorem waits_any (p n c : Nat) (a : Option Addr) (w : World) (h0 : w.cell? ⟨p, 1, none⟩ = some (.slice a n c)) :
    Calls Try.prog 25 #[.pointer (some ⟨p, 0, none⟩)] w fun e w' => e = .returned (.int .i64 n) ∧ w = w' := by
  go_enter Try.func25, Try.ntmps25
  go_wp2
  go_ret
  exact ⟨rfl, rfl⟩
set_option maxHeartbeats 400000 in
theorem off_any (p : Nat) (b : Bool) (w : World) (h0 : w.cell? ⟨p, 3, none⟩ = some (.bool b)) :
    Calls Try.prog 27 #[.pointer (some ⟨p, 0, none⟩)] w fun e w' => e = .returned (.bool b) ∧ w = w' := by
  go_enter Try.func27, Try.ntmps27
  go_wp2
  go_ret
  exact ⟨rfl, rfl⟩
set_option maxHeartbeats 400000 in
theorem wrote_any (p : Nat) (n : Int) (w : World) (h0 : w.cell? ⟨p, 4, none⟩ = some (.int .i64 n)) :
    Calls Try.prog 24 #[.pointer (some ⟨p, 0, none⟩)] w fun e w' => e = .returned (.int .i64 n) ∧ w = w' := by
  go_enter Try.func24, Try.ntmps24
  go_wp2
  go_ret
  exact ⟨rfl, rfl⟩

set_option maxHeartbeats 400000 in
theorem goes_raw (p : Nat) (f : Int) (off : Bool) (w : World) (h2 : w.cell? ⟨p, 2, none⟩ = some (.int .i64 f)) (h3 : w.cell? ⟨p, 3, none⟩ = some (.bool off)) (g2 : w.frozen? ⟨p, 2, none⟩ = false) (g3 : w.frozen? ⟨p, 3, none⟩ = false)
    (hlo : -1 ≤ f) (hhi : f ≤ 9223372036854775807) :
    Calls Try.prog 40 #[.pointer (some ⟨p, 0, none⟩)] w fun e w' =>
      (e = .returned (.bool (decide (¬ (f = 0 ∨ off = true))))) ∧ w' = (if f = 0 then w.setCell ⟨p, 3, none⟩ (.bool true) else if off = true then w else w.setCell ⟨p, 2, none⟩ (.int .i64 (max (f - 1) (-1)))) := by
  by_cases hf : f = 0
  · subst hf
    go_enter Try.func40, Try.ntmps40
    go_wp2
    go_ret
    exact ⟨by simp, by simp⟩
  · have hb : (f == 0) = false := by simpa using hf
    cases off with
    | true =>
      go_enter Try.func40, Try.ntmps40
      go_wp2
      go_ret
      exact ⟨by simp, by simp [hf]⟩
    | false =>
      go_enter Try.func40, Try.ntmps40
      go_wp2
      all_goals go_ret
      · exact ⟨rfl, by rw [show max (f - 1) (-1) = -1 from by omega]⟩
      · exact ⟨rfl, by rw [show max (f - 1) (-1) = f - 1 from by omega]⟩

end Go.Proofs.Ytioieffmihdheaa
