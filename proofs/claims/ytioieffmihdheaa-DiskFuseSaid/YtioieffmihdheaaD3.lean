/- goes and land, of a disk. -/
import Derived.Test.YtioieffmihdheaaD2
import Derived.RegionTactic
import Derived.StillTailTactics
import Derived.ChangeAlike
namespace Go.Proofs.Ytioieffmihdheaa
open Go.RowKit
set_option linter.unusedVariables false
set_option linter.unusedSimpArgs false

section
variable {n0 : Nat} {w w' : World} {p bb nc : Nat} {G : List (Value × Option (List UInt8))} {wv : Value} {L : List (Nat × Value × List UInt8)} {fuse : Int} {off : Bool} {wrote : Int}
theorem DskG.reblock {at_ : Nat} {v : Value} {o : Option (List UInt8)} {cs : Array Value} (h : DskG n0 w p bb nc G wv L fuse off wrote) (hk : Kp [bb] w w') (hat : at_ < G.length)
    (hcs : Blk w bb 34 cs) (hs : Blk w' bb 34 (cs.setIfInBounds at_ v)) (hv : OptB n0 w v o) : DskG n0 w' p bb nc (G.set at_ (v, o)) wv L fuse off wrote := by
  obtain ⟨cs', r1, r2, r3, r4, r5⟩ := h.row
  have hcc : cs' = cs := by
    unfold Blk at r1 hcs
    rw [hcs] at r1
    injection r1 with r1
    injection r1 with r1
    exact r1.symm
  subst hcc
  have hB : ∀ {v : Value} {l : List UInt8}, Bts 5 n0 w v l → Bts 5 n0 w' v l := fun hv => hv.kp hk (fun g hg hm => h.bts_ne hv g hg (by simp only [List.mem_singleton] at hm; simp [dskM, hm]))
  have hO : ∀ {v : Value} {o : Option (List UInt8)}, OptB n0 w v o → OptB n0 w' v o := by
    intro v o ho
    cases o with
    | none => exact ho
    | some l => exact ⟨hB ho.1, ho.2⟩
  have hlen : (G.set at_ (v, o)).length = G.length := List.length_set
  refine ⟨?_, h.plt, ⟨_, hs, by omega, r3, by simp [r4], ?_⟩, h.blt, fun x hx => ?_, hk.owns h.own (fun g hg hm => h.ne_wb (by simp only [List.mem_singleton] at hm; rw [hg, hm])), h.wlt, fun x hx => ⟨by rw [hlen]; exact (h.wait x hx).1, hB (h.wait x hx).2.1, (h.wait x hx).2.2⟩, h.flo, h.fhi, h.wro, by rw [hlen]; exact h.pos, by rw [hlen]; exact h.few⟩
  · rw [hlen]
    exact hk.blk h.self (by simpa using h.ne_pb)
  · rw [hlen, Array.toList_setIfInBounds, List.take_set, r5, List.map_set]
  · rcases List.mem_or_eq_of_mem_set hx with hx | rfl
    · exact hO (h.each x hx)
    · exact hO hv
end

set_option maxHeartbeats 400000 in
theorem goes_any {n0 : Nat} {w : World} {p bb nc : Nat} {G : List (Value × Option (List UInt8))} {wv : Value} {L : List (Nat × Value × List UInt8)} {fuse : Int} {off : Bool} {wrote : Int} (h : DskG n0 w p bb nc G wv L fuse off wrote)
    (go : Bool) (hg : decide (¬ (fuse = 0 ∨ off = true)) = go) :
    Calls Try.prog 40 #[.pointer (some ⟨p, 0, none⟩)] w fun e w' => e = .returned (.bool go) ∧ Kp [p] w w' ∧ w'.heap.size = w.heap.size ∧
      DskG n0 w' p bb nc G wv L (if go = true then max (fuse - 1) (-1) else fuse) (!go) wrote := by
  refine (goes_raw p fuse off w h.c2 h.c3 (h.self.frozen 2) (h.self.frozen 3) h.flo h.fhi).mono ?_
  rintro e w' ⟨rfl, rfl⟩
  have hk : ∀ (o : Nat) (v : Value), Kp [p] w (w.setCell ⟨p, o, none⟩ v) := fun o v => (Kp.refl [p] w).setCell (by simp) v
  refine ⟨by rw [hg], ?_⟩
  have hlo := h.flo
  have hhi := h.fhi
  by_cases hf : fuse = 0
  · subst hf
    obtain rfl : go = false := by rw [← hg]; simp
    refine ⟨by rw [if_pos rfl]; exact hk 3 _, by simp [World.setCell], ?_⟩
    rw [if_pos rfl]
    exact h.reself (hk 3 _) (h.self.set_ 3 (.bool true)) (by simp) (by simp) h.wro
  · rw [if_neg hf]
    cases off with
    | true =>
      obtain rfl : go = false := by rw [← hg]; simp
      exact ⟨Kp.refl _ _, rfl, h⟩
    | false =>
      obtain rfl : go = true := by rw [← hg]; simp [hf]
      refine ⟨hk 2 _, by simp [World.setCell], ?_⟩
      exact h.reself (hk 2 _) (h.self.set_ 2 (.int .i64 (max (fuse - 1) (-1)))) (by omega) (by omega) h.wro

set_option maxHeartbeats 400000 in
theorem land_any {n0 : Nat} {w : World} {p bb nc : Nat} {G : List (Value × Option (List UInt8))} {wv : Value} {L : List (Nat × Value × List UInt8)} {fuse : Int} {off : Bool} {wrote : Int} (h : DskG n0 w p bb nc G wv L fuse off wrote)
    (at_ : Nat) (hat : at_ < G.length) (v : Value) (l : List UInt8) (hv : Bts 5 n0 w v l) (hl : l.length = 128) (hn : n0 ≤ w.heap.size) :
    Calls Try.prog 42 #[.pointer (some ⟨p, 0, none⟩), .agg #[.int .i64 at_, v]] w fun e w' => e = .returned (.tuple #[]) ∧ Kp [bb] w w' ∧
      DskG n0 w' p bb nc (G.set at_ (v, some l)) wv L fuse off wrote := by
  obtain ⟨cs, r1, r2, r3, r4, r5⟩ := h.row
  have hc0 := h.c0
  obtain ⟨u0, hcell⟩ : ∃ u, w.cell? ⟨bb, at_, none⟩ = some u := ⟨_, by rw [r1.cell]; exact Array.getElem?_eq_getElem (by omega)⟩
  have hfr := r1.frozen at_
  have hplt : p < w.heap.size := by have := h.plt; omega
  have hblt : bb < w.heap.size := by have := h.blt; omega
  obtain ⟨g, c, rfl, hvf⟩ := hv.form
  have hat' : (at_ : Int) < (G.length : Int) := by omega
  have hfew := h.few
  clear r2 r4 r5
  have HH := Lib.hid h
  have HV := Lib.hid hv
  have HL := Lib.hid hl
  have HN := Lib.hid hn
  clear h hv hl hvf hn
  go_enter Try.func42, Try.ntmps42
  go_wp2
  go_region
  all_goals go_end0
  have hk : ∀ v, Kp [bb] w (w.setCell ⟨bb, at_, none⟩ v) := fun v => (Kp.refl [bb] w).setCell (.inl (by simp)) v
  refine ⟨rfl, ((hk _).alloc _).drew, ?_⟩
  refine (HH.out.reblock (hk _) hat r1 (r1.set_ at_ _) (o := some l) ⟨HV.out, HL.out⟩).below ?_
  exact ((Below.refl n0 _).alloc (by simpa [World.setCell] using HN.out) _).drew

/-- a write, in plain words of its parts -/
def waitCell (x : Nat × Value × List UInt8) : List Value := [.int .i64 (x.1 : Int), x.2.1]

set_option maxHeartbeats 800000 in
theorem write_bad {n0 : Nat} {w : World} {p bb nc : Nat} {G : List (Value × Option (List UInt8))} {wv : Value} {L : List (Nat × Value × List UInt8)} {fuse : Int} {off : Bool} {wrote : Int} (h : DskG n0 w p bb nc G wv L fuse off wrote)
    (i : Int) (a : Option Addr) (n c : Nat) (hb : ¬ (0 ≤ i ∧ i < G.length ∧ n = 128)) :
    Calls Try.prog 18 #[.pointer (some ⟨p, 0, none⟩), .int .i64 i, .slice a n c] w fun e w' => e = .returned (.int .i64 1) ∧ w = w' := by
  have hc0 := h.c0
  have hfew := h.few
  clear h
  by_cases hi : 0 ≤ i ∧ i < G.length
  · have hn : ((n : Int) != 128) = true := by rw [bne_iff_ne]; omega
    have hr : decide (0 ≤ i ∧ i < (G.length : Int)) = true := by simpa using hi
    have HR := Lib.hid hr
    clear hr hi hb
    go_enter Try.func18, Try.ntmps18
    go_wp2_with (go_at_call 39; refine (has_any p bb nc G.length i _ true hc0 hfew HR.out).mono ?_; rintro e w' ⟨rfl, rfl⟩)
    go_ret
    exact ⟨rfl, rfl⟩
  · have hr : decide (0 ≤ i ∧ i < (G.length : Int)) = false := by simpa using hi
    have HR := Lib.hid hr
    clear hr hi hb
    go_enter Try.func18, Try.ntmps18
    go_wp2_with (go_at_call 39; refine (has_any p bb nc G.length i _ false hc0 hfew HR.out).mono ?_; rintro e w' ⟨rfl, rfl⟩)
    go_ret
    exact ⟨rfl, rfl⟩

end Go.Proofs.Ytioieffmihdheaa
