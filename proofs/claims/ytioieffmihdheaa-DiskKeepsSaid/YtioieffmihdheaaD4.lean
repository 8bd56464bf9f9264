/- Write, of a disk. -/
import Derived.Test.YtioieffmihdheaaD3
import Derived.Deep.RegionHeld3
import Derived.Deep.DrawnRows
import Derived.Deep.RegionLaw
namespace Go.Proofs.Ytioieffmihdheaa
open Go.RowKit
set_option linter.unusedVariables false
set_option linter.unusedSimpArgs false
attribute [local go_sem ↓] Go.wp_at_zero Go.wp_at_succ

theorem Try.infoWrite : (Try.prog.info? 73).map (fun i => (i.zero, i.size, i.bytes)) = some (some (.agg #[.int .i64 0, .slice none 0 0]), 2, 32) := by kernel_rfl

set_option maxHeartbeats 800000 in
theorem write_down {n0 : Nat} {w : World} {p bb nc : Nat} {G : List (Value × Option (List UInt8))} {wv : Value} {L : List (Nat × Value × List UInt8)} {fuse : Int} {off : Bool} {wrote : Int} (h : DskG n0 w p bb nc G wv L fuse off wrote)
    (i : Int) (a : Option Addr) (c : Nat) (hi : 0 ≤ i ∧ i < G.length) (hg : decide (¬ (fuse = 0 ∨ off = true)) = false) :
    Calls Try.prog 18 #[.pointer (some ⟨p, 0, none⟩), .int .i64 i, .slice a 128 c] w fun e w' => e = .returned (.int .i64 7) ∧ Kp [p] w w' ∧
      DskG n0 w' p bb nc G wv L fuse true wrote := by
  have hc0 := h.c0
  have hfew := h.few
  have hr : decide (0 ≤ i ∧ i < (G.length : Int)) = true := by simpa using hi
  have HR := Lib.hid hr
  have HH := Lib.hid h
  have HG := Lib.hid hg
  clear hr hi h hg
  go_enter Try.func18, Try.ntmps18
  go_wp2_with (first | (go_at_call 39; refine (has_any p bb nc G.length i _ true hc0 hfew HR.out).mono ?_; rintro e w' ⟨rfl, rfl⟩) | (go_at_call 40; refine (goes_any HH.out false HG.out).mono ?_; rintro e w' ⟨rfl, hk1, hs1, hD1⟩; have HK1 := Lib.hid hk1; have HD1 := Lib.hid hD1; clear hk1 hs1 hD1))
  go_ret
  exact ⟨rfl, HK1.out, HD1.out⟩

theorem one_of_owns {w : World} {base : Nat} {e : TypeId} {size : Nat} {v : Value} {n : Nat} {xs : List Value} (h : w.ownsRow base e size v n xs) : v.oneCell' = true := by
  rcases h.2 with ⟨rfl, _⟩ | ⟨g, c, cur, rfl, _⟩ <;> rfl

theorem two_one (i : Int) {v : Value} (h : v.oneCell' = true) : ∀ u ∈ [Value.int .i64 i, v], u.oneCell' = true := by
  intro u hu
  simp only [List.mem_cons, List.not_mem_nil, or_false] at hu
  rcases hu with rfl | rfl
  · rfl
  · exact h

theorem held_alloc {w : World} {p k : Nat} {v : Value} (hp : p < w.heap.size) (o : Obj) (h : w.cell? ⟨p, k, none⟩ = some v ∧ w.frozen? ⟨p, k, none⟩ = false) : (w.alloc o).cell? ⟨p, k, none⟩ = some v ∧ (w.alloc o).frozen? ⟨p, k, none⟩ = false :=
  have hb := (Below.refl w.heap.size w).alloc (Nat.le_refl _) o
  ⟨(hb.cell (p := ⟨p, k, none⟩) hp).trans h.1, (hb.frozen (p := ⟨p, k, none⟩) hp).trans h.2⟩
theorem held_grown {w w' : World} {row : Option Nat} {p k : Nat} {v : Value} (hg : w.grownBy w' row) (hp : p < w.heap.size) (hne : some p ≠ row) (h : w.cell? ⟨p, k, none⟩ = some v ∧ w.frozen? ⟨p, k, none⟩ = false) : w'.cell? ⟨p, k, none⟩ = some v ∧ w'.frozen? ⟨p, k, none⟩ = false :=
  ⟨(hg.cell_far ⟨p, k, none⟩ hp hne).trans h.1, (hg.frozen_far ⟨p, k, none⟩ hp hne).trans h.2⟩

/-- what a write that went leaves -/
def Wrote_ (n0 : Nat) (w : World) (p bb nc : Nat) (G : List (Value × Option (List UInt8))) (wv : Value) (L : List (Nat × Value × List UInt8)) (fuse : Int) (wrote : Int) (i : Nat) (l : List UInt8) (w' : World) : Prop :=
  ∃ v wv', Kp (dskM p bb wv) w w' ∧ DskG w'.heap.size w' p bb nc G wv' (L ++ [(i, v, l)]) (max (fuse - 1) (-1)) false (wrote + 1) ∧ (∀ g, wv'.ownBlock = some g → wv.ownBlock = some g ∨ n0 ≤ g)

theorem flat_snoc (L : List (Nat × Value × List UInt8)) (i : Nat) (v : Value) (l : List UInt8) : (L.flatMap fun x => [Value.int .i64 (x.1 : Int), x.2.1]) ++ [Value.int .i64 (i : Int), v] = (L ++ [(i, v, l)]).flatMap fun x => [Value.int .i64 (x.1 : Int), x.2.1] := by simp

theorem Below.undrew {B : Nat} {w w' : World} (h : Below B w.drew w') : Below B w w' := ⟨h.os, h.tape, h.output, h.size, h.block⟩

theorem write_fin {n0 : Nat} {w w2 w3 w4 : World} {p bb nc : Nat} {G : List (Value × Option (List UInt8))} {wv : Value} {L : List (Nat × Value × List UInt8)} {fuse : Int} {off : Bool} {wrote : Int} {i g3 c3 gg cap H : Nat} {l : List UInt8}
    (hn : n0 ≤ w.heap.size) (hk2 : Kp [p] w w2) (hD2 : DskG n0 w2 p bb nc G wv L fuse off wrote) (hs2 : w2.heap.size = w.heap.size)
    (ho3 : w3.ownsRow w2.drew.heap.size 5 1 (.slice (some ⟨g3, 0, none⟩) l.length c3) l.length (l.map BV)) (hb3 : Below w2.drew.heap.size w2.drew w3)
    (hown4 : w4.ownsRow 0 73 2 (.slice (some ⟨gg, 0, none⟩) (L.length + 1) cap) (L.length + 1) ((L.flatMap fun x => [.int .i64 (x.1 : Int), x.2.1]) ++ [.int .i64 (i : Int), .slice (some ⟨g3, 0, none⟩) l.length c3]))
    (hgrow4 : (w3.alloc (.cells #[.int .i64 i, .slice (some ⟨g3, 0, none⟩) l.length c3] 73)).grownBy w4 wv.ownBlock) (hat4 : wv.ownBlock = some gg ∨ gg = H) (hH : w3.heap.size + 1 = H) (hi : i < G.length) (hl : l.length = 128) :
    Kp (dskM p bb wv) w (w4.setCell ⟨p, 1, none⟩ (.slice (some ⟨gg, 0, none⟩) (L.length + 1) cap)) ∧
    DskG (w4.setCell ⟨p, 1, none⟩ (.slice (some ⟨gg, 0, none⟩) (L.length + 1) cap)).heap.size (w4.setCell ⟨p, 1, none⟩ (.slice (some ⟨gg, 0, none⟩) (L.length + 1) cap)) p bb nc G (.slice (some ⟨gg, 0, none⟩) (L.length + 1) cap) (L ++ [(i, .slice (some ⟨g3, 0, none⟩) l.length c3, l)]) fuse off wrote ∧
    (∀ g, (Value.slice (some ⟨gg, 0, none⟩) (L.length + 1) cap).ownBlock = some g → wv.ownBlock = some g ∨ n0 ≤ g) := by
  have hb3' := Below.undrew hb3
  have hz3 : w2.heap.size ≤ w3.heap.size := hb3'.size
  have hB25 : Below w2.heap.size w2 (w3.alloc (.cells #[.int .i64 i, .slice (some ⟨g3, 0, none⟩) l.length c3] 73)) := hb3'.alloc hz3 _
  have hD5 := hD2.below (hB25.mono (by omega))
  have hz5 : (w3.alloc (.cells #[.int .i64 i, .slice (some ⟨g3, 0, none⟩) l.length c3] 73)).heap.size = w3.heap.size + 1 := by simp
  have ho5 := ho3.alloc (.cells #[.int .i64 i, .slice (some ⟨g3, 0, none⟩) l.length c3] 73)
  generalize w3.alloc (.cells #[.int .i64 i, .slice (some ⟨g3, 0, none⟩) l.length c3] 73) = w5 at *
  have hk54 : Kp wv.ownBlock.toList w5 w4 := ⟨hgrow4.os, hgrow4.tape, hgrow4.output, hgrow4.size, fun k hk hm => hgrow4.block k hk (fun e => hm (by simp [← e]))⟩
  have hg3 : g3 < w3.heap.size := (ho3.lt g3 rfl).2
  have hn3 : n0 ≤ g3 := by have := (ho3.lt g3 rfl).1; have h2 : w2.drew.heap.size = w2.heap.size := rfl; omega
  have hz4 : w5.heap.size ≤ w4.heap.size := hgrow4.size
  have hz6 : (w4.setCell ⟨p, 1, none⟩ (.slice (some ⟨gg, 0, none⟩) (L.length + 1) cap)).heap.size = w4.heap.size := by simp [World.setCell]
  have hk46 : Kp [p] w4 (w4.setCell ⟨p, 1, none⟩ (.slice (some ⟨gg, 0, none⟩) (L.length + 1) cap)) := (Kp.refl [p] w4).setCell (.inl (by simp)) _
  have hwv : ∀ x ∈ wv.ownBlock.toList, x ∈ dskM p bb wv := fun x hx => by simp only [dskM, List.mem_cons]; exact .inr (.inr hx)
  have hnew : wv.ownBlock = some gg ∨ w3.heap.size + 1 = gg := by rcases hat4 with h | h; · exact .inl h
                                                                  · exact .inr (by omega)
  have hggne : gg ≠ p := by
    rcases hnew with h | h
    · intro e; subst e; exact hD5.ne_wp h
    · have := hD5.plt; omega
  have hggb : gg ≠ bb := by
    rcases hnew with h | h
    · intro e; subst e; exact hD5.ne_wb h
    · have := hD5.blt; omega
  have hBts : ∀ {v : Value} {l : List UInt8} {n1 : Nat}, Bts 5 n1 w5 v l → n1 ≤ w5.heap.size → Bts 5 w4.heap.size (w4.setCell ⟨p, 1, none⟩ (.slice (some ⟨gg, 0, none⟩) (L.length + 1) cap)) v l := by
    intro v l n1 hv hn1
    have h1 := hv.kp hk54 (fun g hg hm => hD5.bts_ne hv g hg (hwv g hm))
    have h2 : ∀ g, v.ownBlock = some g → g ∉ [p] := fun g hg hm => hD5.bts_ne hv g hg (by simp only [List.mem_singleton] at hm; simp [dskM, hm])
    exact (h1.kp hk46 h2).more (by omega)
  refine ⟨?_, ?_, ?_⟩
  · refine (((hk2.mono (M' := dskM p bb wv) (by intro x hx; simp only [List.mem_singleton] at hx; simp [dskM, hx])).trans (Kp.of_below hB25 (Nat.le_refl _))).trans (hk54.mono hwv)).setCell (.inl (by simp [dskM])) _
  · obtain ⟨cs, r1, r2, r3, r4, r5⟩ := hD5.row
    have hself := hk54.blk hD5.self (by intro hm; exact hD5.ne_wp (by simpa using hm))
    have hrow := hk54.blk r1 (by intro hm; exact hD5.ne_wb (by simpa using hm))
    rw [hz6]
    refine ⟨hself.set_ 1 _, by have := hD5.plt; omega, ⟨cs, hk46.blk hrow (by simpa using Ne.symm hD5.ne_pb), r2, r3, r4, r5⟩, by have := hD5.blt; omega, fun x hx => ?_, ?_, ?_, fun x hx => ?_, hD5.flo, hD5.fhi, hD5.wro, hD5.pos, hD5.few⟩
    · have h1 := hD5.each x hx
      match h2 : x.2 with
      | none => rw [h2] at h1; exact h1
      | some l => rw [h2] at h1; exact ⟨hBts h1.1 (by omega), h1.2⟩
    · have h1 := hk46.owns hown4 (fun g hg => by have h9 : gg = g := Option.some.inj hg; subst h9; simpa using hggne)
      rw [flat_snoc L i _ l] at h1
      rw [List.length_append]
      exact h1
    · intro g hg
      have h9 : gg = g := Option.some.inj hg
      subst h9
      exact (hown4.lt gg rfl).2
    · rcases List.mem_append.1 hx with hx | hx
      · exact ⟨(hD5.wait x hx).1, hBts (hD5.wait x hx).2.1 (by omega), (hD5.wait x hx).2.2⟩
      · simp only [List.mem_singleton] at hx
        subst hx
        exact ⟨hi, hBts (n1 := w3.heap.size) ⟨owns_rebase ho5 (Nat.zero_le _), g3, rfl, hg3⟩ (by omega), hl⟩
  · intro g hg
    have h9 : gg = g := Option.some.inj hg
    subst h9
    rcases hnew with h | h
    · exact .inl h
    · exact .inr (by omega)

set_option maxRecDepth 100000 in
set_option maxHeartbeats 1600000 in
theorem write_ok {n0 : Nat} {w : World} {p bb nc : Nat} {G : List (Value × Option (List UInt8))} {wv : Value} {L : List (Nat × Value × List UInt8)} {fuse : Int} {off : Bool} {wrote : Int} (h : DskG n0 w p bb nc G wv L fuse off wrote) (hn : n0 ≤ w.heap.size)
    (i : Nat) (ad : Addr) (c : Nat) (l : List UInt8) (hi : i < G.length) (hl : l.length = 128) (hc : ∀ j u, (l.map BV)[j]? = some u → w.cell? (ad.add j) = some u) (had : ad.block ≠ p) (hg : decide (¬ (fuse = 0 ∨ off = true)) = true)
    (hL : L.length < 1048576) (hw : wrote < 1152921504606846976) :
    Calls Try.prog 18 #[.pointer (some ⟨p, 0, none⟩), .int .i64 i, .slice (some ad) 128 c] w fun e w' => e = .returned (.int .i64 0) ∧ Wrote_ n0 w p bb nc G wv L fuse wrote i l w' := by
  have hc0 := h.c0
  have hfew := h.few
  have hwro := h.wro
  have hr : decide (0 ≤ (i : Int) ∧ (i : Int) < (G.length : Int)) = true := by simp; omega
  obtain ⟨iw, hiw, hz0, hz1, hz2⟩ := info_parts Try.infoWrite
  have HR := Lib.hid hr
  have HH := Lib.hid h
  have HG := Lib.hid hg
  have HC := Lib.hid hc
  have HL := Lib.hid hl
  have HN := Lib.hid hn
  have HI := Lib.hid hi
  have HA := Lib.hid had
  clear hr hi h hg hc hl had hn
  go_enter Try.func18, Try.ntmps18
  go_wp2_with (first | (go_at_call 39; refine (has_any p bb nc G.length i _ true hc0 hfew HR.out).mono ?_; rintro e w' ⟨rfl, rfl⟩) | (go_at_call 40; refine (goes_any HH.out true HG.out).mono ?_; rintro e w1 ⟨rfl, hk1, hs1, hD1⟩; have HK1 := Lib.hid hk1; have HS1 := Lib.hid hs1; have HD1 := Lib.hid hD1; have c4 := hD1.c4; have f4 := hD1.self.frozen 4; clear hk1 hs1 hD1))
  have hk2 : Kp [p] w (w1.setCell ⟨p, 4, none⟩ (.int .i64 (wrote + 1))) := HK1.out.setCell (.inl (by simp)) _
  have hD2 : DskG n0 (w1.setCell ⟨p, 4, none⟩ (.int .i64 (wrote + 1))) p bb nc G wv L (max (fuse - 1) (-1)) false (wrote + 1) :=
    HD1.out.reself ((Kp.refl [p] w1).setCell (.inl (by simp)) _) (HD1.out.self.set_ 4 (.int .i64 (wrote + 1))) HD1.out.flo HD1.out.fhi (by omega)
  have hs2 : (w1.setCell ⟨p, 4, none⟩ (.int .i64 (wrote + 1))).heap.size = w.heap.size := by simpa [World.setCell] using HS1.out
  clear HK1 HS1 HD1 c4 f4
  generalize w1.setCell ⟨p, 4, none⟩ (.int .i64 (wrote + 1)) = w2 at hk2 hD2 hs2 ⊢
  have c1 := hD2.c1
  have f1 := hD2.self.frozen 1
  have hp2 : p < w2.heap.size := hD2.self.lt
  have hc2 : ∀ j u, (l.map BV)[j]? = some u → w2.cell? (ad.add j) = some u := by
    intro j u hu
    have h1 := HC.out j u hu
    have h2 := World.block_lt_of_cell? w _ h1
    have hbl : (ad.add j).block = ad.block := by unfold Addr.add; split <;> rfl
    rw [hk2.cell h2 (by rw [hbl]; simpa using HA.out)]
    exact h1
  have HC2 := Lib.hid hc2
  have HK2 := Lib.hid hk2
  have HD2 := Lib.hid hD2
  have HS2 := Lib.hid hs2
  have hll := HL.out
  have hl0 : l.length ≤ 1048576 := by omega
  have HLL := Lib.hid hll
  have hcl := fun (W : World) => clone_some ad c l W hl0
  rw [hll] at hcl
  have HW : Hid (∀ g, wv.ownBlock = some g → g < w2.drew.heap.size) := fun g hg => by
    have h1 := HD2.out.wlt g hg
    have h2 := HN.out
    have h3 := HS2.out
    show g < w2.heap.size
    omega
  have HOW : Hid (w2.drew.ownsRow 0 73 2 wv L.length (L.flatMap fun x => [.int .i64 (x.1 : Int), x.2.1])) := HD2.out.own
  have HWP : Hid (some p ≠ wv.ownBlock) := fun e => HD2.out.ne_wp e.symm
  clear hc2 hk2 hD2 hs2 hll
  go_region_law
    ((first
      | (go_simp; go_at_call 41; refine (hcl _ (by exact HC2.out)).mono ?_; rintro e w3 ⟨g3, c3, rfl, hown3, hbel3⟩; have HO3 := Lib.hid hown3; have HV3 := Lib.hid (two_one (i : Int) (one_of_owns hown3)); have HB3 := Lib.hid hbel3; have hb3 := bcell hbel3; have d1 := (hb3.1 p 1 hp2).trans c1; have d2 := (hb3.2 p 1 hp2).trans f1; have hz3 := hbel3.size; have hp3 : p < w3.heap.size := Nat.lt_of_lt_of_le hp2 hz3; have hO := Lib.hid (Below.owns HB3.out HOW.out HW.out); clear hown3 hbel3)
      | (refine step_append_lies _ (by rfl) _ _ _ (by rfl) 0 73 iw _ 2 32 Try.underlying67 hiw hz0 hz1 hz2 rfl (by omega) wv L.length (L.flatMap fun x => [.int .i64 (x.1 : Int), x.2.1]) (by rfl) (hO.out.alloc _) ⟨w3.heap.size, 0, none⟩ 1 1 [.int .i64 i, .slice (some ⟨g3, 0, none⟩) l.length c3] (by rfl) (by rfl) (World.news_of_block (cs := #[.int .i64 i, .slice (some ⟨g3, 0, none⟩) l.length c3]) (t := 73) (fr := (0, 0)) (heap_alloc_new w3 _)) HV3.out (by omega) (by unfold maxLen; omega) (by omega) (by omega) (w3.heap.size + 1) (by simp) ?_; intro gg cap w4 hown4 hgrow4 hat4 hlt4; have hh4 := held_grown hgrow4 (by simp; omega) HWP.out (held_alloc hp3 _ ⟨d1, d2⟩); have d3 := hh4.1; have d4 := hh4.2)))
  all_goals
    go_wp2
    go_ret
    exact ⟨rfl, _, _, write_fin HN.out HK2.out HD2.out HS2.out HO3.out HB3.out hown4 hgrow4 hat4 rfl HI.out HLL.out⟩

end Go.Proofs.Ytioieffmihdheaa
