/- The disk's calls, as a law has them: a disk that is the law's own. -/
import Derived.Test.YtioieffmihdheaaRd
namespace Go.Proofs.Ytioieffmihdheaa
open Go.RowKit
set_option linter.unusedVariables false
set_option linter.unusedSimpArgs false

/-- blocks that are no disk's stay -/
def TF (w w' : World) : Prop := w.heap.size ≤ w'.heap.size ∧ ∀ g t cs, Blk w g t cs → t ≠ 69 → t ≠ 34 → t ≠ 73 → Blk w' g t cs
theorem TF.refl (w : World) : TF w w := ⟨Nat.le_refl _, fun _ _ _ h _ _ _ => h⟩
theorem TF.trans {a b c : World} (h : TF a b) (k : TF b c) : TF a c := ⟨Nat.le_trans h.1 k.1, fun g t cs hb h1 h2 h3 => k.2 g t cs (h.2 g t cs hb h1 h2 h3) h1 h2 h3⟩
theorem TF.of_below {w w' : World} (h : Below w.heap.size w w') : TF w w' := ⟨h.size, fun g t cs hb _ _ _ => Below.blk h hb hb.lt⟩
theorem DskG.tf {n0 : Nat} {w w' : World} {p bb nc : Nat} {G : List (Value × Option (List UInt8))} {wv : Value} {L : List (Nat × Value × List UInt8)} {fuse : Int} {off : Bool} {wrote : Int} (h : DskG n0 w p bb nc G wv L fuse off wrote) (hk : Kp (dskM p bb wv) w w') : TF w w' :=
  ⟨hk.size, fun g t cs hb h1 h2 h3 => hk.blk hb (h.blk_ne hb h1 h2 h3)⟩

theorem TF.owns {w w' : World} (h : TF w w') {base : Nat} {e : TypeId} {size : Nat} {v : Value} {n : Nat} {xs : List Value} (ho : w.ownsRow base e size v n xs) (h1 : e ≠ 69) (h2 : e ≠ 34) (h3 : e ≠ 73) : w'.ownsRow base e size v n xs := by
  refine ⟨ho.1, ?_⟩
  rcases ho.2 with hn | ⟨g, cap, cur, rfl, hb, hgg, rest⟩
  · exact .inl hn
  · exact .inr ⟨g, cap, cur, rfl, hb, h.2 g e cur hgg h1 h2 h3, rest⟩

/-- a disk that is the law's own -/
def Good (w0 w : World) (p : Nat) (D : PD) : Prop := Below w0.heap.size w0 w ∧ ∃ M, Dsk w.heap.size w p M D ∧ ∀ x ∈ M, w0.heap.size ≤ x

theorem Good.below {w0 w w' : World} {p : Nat} {D : PD} (h : Good w0 w p D) (hb : Below w.heap.size w w') : Good w0 w' p D := by
  obtain ⟨h1, M, h2, h3⟩ := h
  exact ⟨h1.trans (hb.mono h1.size), M, (h2.below hb).more hb.size, h3⟩
theorem Good.start {w0 w w' : World} {p : Nat} {D : PD} (hb : Below w0.heap.size w0 w) (h : Made w D (.returned (.pointer (some ⟨p, 0, none⟩))) w') : Good w0 w' p D := by
  obtain ⟨p', M, he, h1, h2, h3⟩ := h
  have hs := hb.size
  have e1 : p = p' := by injection he with he; injection he with he; injection he with he; injection he
  subst e1
  exact ⟨hb.trans (h1.mono hs), M, h2, fun x hx => by have := h3 x hx; omega⟩
theorem Good.lift {w0 w w' : World} {p : Nat} {D' : PD} {M M' : List Nat} (hb : Below w0.heap.size w0 w) (hM : ∀ x ∈ M, w0.heap.size ≤ x) (hk : Kp M w w') (hD : Dsk w'.heap.size w' p M' D') (hM' : ∀ x ∈ M', x ∈ M ∨ w.heap.size ≤ x) : Good w0 w' p D' :=
  ⟨hb.trans (hk.below hM hb.size), M', hD, fun x hx => (hM' x hx).elim (hM x) (fun h => by have := hb.size; omega)⟩

/-- a store into a variable of the law's leaves its disk as it is -/
theorem Good.arr {w0 w : World} {p : Nat} {D : PD} {g o : Nat} {t : TypeId} {cs : Array Value} {u : Value} (h : Good w0 w p D) (hg : Blk w g t cs) (hold : w0.heap.size ≤ g)
    (h1 : t ≠ 69) (h2 : t ≠ 34) (h3 : t ≠ 73) (h4 : t ≠ 5) : Good w0 (w.setCell ⟨g, o, none⟩ u) p D := by
  obtain ⟨hB, M', ⟨bb, nc, G, wv, L, hD, e1, e2, rfl⟩, hM⟩ := h
  exact ⟨hB.setCell hold _, dskM p bb wv, ⟨bb, nc, G, wv, L, (hD.arr hg h1 h2 h3 h4).more (by simp [World.setCell]), e1, e2, rfl⟩, hM⟩

theorem goes_fst (D : PD) : (D.goes).1 = decide (¬ (D.fuse = 0 ∨ D.off = true)) := by
  unfold PD.goes
  by_cases h : D.fuse = 0 ∨ D.off = true
  · rw [if_pos h]; simp [h]
  · rw [if_neg h]; simp only [decide_not]; simp [h]

theorem good_write {w0 w : World} {p : Nat} {D : PD} (h : Good w0 w p D) (i : Int) (g c : Nat) (b : List UInt8) (base : Nat) (hb : w.ownsRow base 5 1 (.slice (some ⟨g, 0, none⟩) b.length c) b.length (b.map BV))
    (hL : D.waits.length < 1048576) (hw : D.wrote < 1152921504606846976) :
    Calls Try.prog 18 #[.pointer (some ⟨p, 0, none⟩), .int .i64 i, .slice (some ⟨g, 0, none⟩) b.length c] w fun e w' => e = .returned (.int .i64 (D.write i b).1) ∧ Good w0 w' p (D.write i b).2 ∧ TF w w' := by
  obtain ⟨hB, M, ⟨bb, nc, G, wv, L, hD, hbl, hwa, rfl⟩, hM⟩ := id h
  have hlen : D.blocks.length = G.length := by rw [hbl, List.length_map]
  have hLl : D.waits.length = L.length := by rw [hwa, List.length_map]
  by_cases hok : 0 ≤ i ∧ i < G.length ∧ b.length = 128
  · by_cases hg : D.fuse = 0 ∨ D.off = true
    · have h1 : D.write i b = (7, { D with off := true }) := by
        unfold PD.write
        rw [if_pos (by rw [hlen]; exact hok), goes_fst]
        simp [hg, PD.goes]
      rw [h1]
      have hlen' := hok.2.2
      rw [hlen']
      refine (write_down hD i (some ⟨g, 0, none⟩) c ⟨hok.1, hok.2.1⟩ (decide_eq_false (fun h => h hg))).mono ?_
      rintro e w' ⟨rfl, hk, hD'⟩
      have hk' : Kp (dskM p bb wv) w w' := hk.mono (by intro x hx; simp only [List.mem_singleton] at hx; simp [dskM, hx])
      exact ⟨rfl, Good.lift hB hM hk' ⟨bb, nc, G, wv, L, hD'.more hk.size, hbl, hwa, rfl⟩ (fun x hx => .inl hx), hD.tf hk'⟩
    · obtain ⟨k, rfl⟩ := Int.eq_ofNat_of_zero_le hok.1
      have hlen' := hok.2.2
      have h1 : D.write k b = (0, { D with fuse := max (D.fuse - 1) (-1), waits := D.waits ++ [(k, b)], wrote := D.wrote + 1 }) := by
        unfold PD.write
        rw [if_pos (by rw [hlen]; exact hok), goes_fst]
        simp [hg, PD.goes]
      rw [h1, hlen']
      have hne : g ∉ dskM p bb wv := hD.bts_ne (n1 := g + 1) (v := .slice (some ⟨g, 0, none⟩) b.length c) (l := b) ⟨owns_rebase hb (Nat.zero_le _), g, rfl, by omega⟩ g rfl
      refine (write_ok (hD.more (Nat.le_refl _)) (Nat.le_refl _) k ⟨g, 0, none⟩ c b (by omega) hlen' (hb.cells rfl) (by intro e; apply hne; simp only [] at e; simp [dskM, e]) (decide_eq_true hg) (by omega) hw).mono ?_
      rintro e w' ⟨rfl, v, wv', hk, hD', hnew⟩
      have hoff : D.off = false := by
        cases ho : D.off with
        | false => rfl
        | true => exact absurd (.inr ho) hg
      refine ⟨rfl, Good.lift hB hM hk ⟨bb, nc, G, wv', L ++ [(k, v, b)], by simpa [hoff] using hD', hbl, by simp [hwa], rfl⟩ ?_, hD.tf hk⟩
      intro x hx
      simp only [dskM, List.mem_cons, Option.mem_toList] at hx ⊢
      rcases hx with rfl | rfl | hx
      · exact .inl (.inl rfl)
      · exact .inl (.inr (.inl rfl))
      · rcases hnew x hx with h9 | h9
        · exact .inl (.inr (.inr h9))
        · exact .inr h9
  · have h1 : D.write i b = (1, D) := by
      unfold PD.write
      rw [if_neg (by rw [hlen]; exact hok)]
    rw [h1]
    refine (write_bad hD i _ _ c hok).mono ?_
    rintro e w' ⟨rfl, rfl⟩
    exact ⟨rfl, h, TF.refl _⟩

/-- a list that is no block's is refused -/
theorem good_write_short {w0 w : World} {p : Nat} {D : PD} (h : Good w0 w p D) (i : Int) (a : Option Addr) (n c : Nat) (hn : n ≠ 128) :
    Calls Try.prog 18 #[.pointer (some ⟨p, 0, none⟩), .int .i64 i, .slice a n c] w fun e w' => e = .returned (.int .i64 1) ∧ w = w' := by
  obtain ⟨hB, M, ⟨bb, nc, G, wv, L, hD, hbl, hwa, rfl⟩, hM⟩ := id h
  exact write_bad hD i a n c (fun h => hn h.2.2)

theorem good_flush {w0 w : World} {p : Nat} {D : PD} (h : Good w0 w p D) (hL : D.waits.length ≤ 1048576) :
    Calls Try.prog 22 #[.pointer (some ⟨p, 0, none⟩)] w fun e w' => e = .returned (.int .i64 (D.flush).1) ∧ Good w0 w' p (D.flush).2 ∧ TF w w' := by
  obtain ⟨hB, M, ⟨bb, nc, G, wv, L, hD, hbl, hwa, rfl⟩, hM⟩ := id h
  have hLl : D.waits.length = L.length := by rw [hwa, List.length_map]
  by_cases hg : D.fuse = 0 ∨ D.off = true
  · have h1 : D.flush = (7, { D with off := true }) := by unfold PD.flush; rw [goes_fst]; simp [hg, PD.goes]
    rw [h1]
    refine (flush_down hD (decide_eq_false (fun h => h hg))).mono ?_
    rintro e w' ⟨rfl, hk, hD'⟩
    have hk' : Kp (dskM p bb wv) w w' := hk.mono (by intro x hx; simp only [List.mem_singleton] at hx; simp [dskM, hx])
    exact ⟨rfl, Good.lift hB hM hk' ⟨bb, nc, G, wv, L, hD'.more hk.size, hbl, hwa, rfl⟩ (fun x hx => .inl hx), hD.tf hk'⟩
  · have hoff : D.off = false := by
      cases ho : D.off with
      | false => rfl
      | true => exact absurd (.inr ho) hg
    have h1 : D.flush = (0, { D with fuse := max (D.fuse - 1) (-1), blocks := landAll D.blocks D.waits, waits := [] }) := by unfold PD.flush; rw [goes_fst]; simp [hg, PD.goes]
    rw [h1]
    refine (flush_ok hD (Nat.le_refl _) (by omega) (decide_eq_true hg)).mono ?_
    rintro e w' ⟨rfl, hk, hD'⟩
    have hk' : Kp (dskM p bb wv) w w' := hk.mono (by intro x hx; simp only [List.mem_cons, List.not_mem_nil, or_false] at hx; simp only [dskM, List.mem_cons]; rcases hx with rfl | rfl <;> simp)
    refine ⟨rfl, Good.lift hB hM hk' ⟨bb, nc, landG G L, .slice none 0 0, [], by simpa [hoff] using hD'.more hk.size, by rw [landG_all, ← hbl, ← hwa], rfl, rfl⟩ ?_, hD.tf hk'⟩
    intro x hx
    simp only [dskM, Value.ownBlock, Option.toList_none, List.mem_cons, List.not_mem_nil, or_false] at hx ⊢
    rcases hx with rfl | rfl <;> simp

theorem good_boot {w0 w : World} {p : Nat} {D : PD} (h : Good w0 w p D) (hL : D.waits.length ≤ 1048576) (A' : Option Addr) (c' : Nat) (how : List UInt8) (hhow : SameAt w how.length A' how) (hh : how.length ≤ 9223372036854775807) (hne : ∀ ad, A' = some ad → 0 < how.length → ad.block < w0.heap.size ∨ ∃ cs, Blk w ad.block 5 cs) :
    Calls Try.prog 20 #[.pointer (some ⟨p, 0, none⟩), .slice A' how.length c'] w fun e w' => e = .returned (.tuple #[]) ∧ Good w0 w' p (D.boot how) ∧ TF w w' := by
  obtain ⟨hB, M, ⟨bb, nc, G, wv, L, hD, hbl, hwa, rfl⟩, hM⟩ := id h
  have hLl : D.waits.length = L.length := by rw [hwa, List.length_map]
  have hpM := hM p (by simp [dskM])
  have hbM := hM bb (by simp [dskM])
  refine (boot_any hD (Nat.le_refl _) (by omega) A' c' how hhow hh (fun ad had hpos => by
    rcases hne ad had hpos with h9 | ⟨cs, h9⟩
    · exact ⟨by omega, by omega⟩
    · have h8 := hD.blk_ne h9 (by decide) (by decide) (by decide)
      exact ⟨fun e => h8 (by simp [dskM, e]), fun e => h8 (by simp [dskM, e])⟩)).mono ?_
  rintro e w' ⟨rfl, hk, hD'⟩
  have hk' : Kp (dskM p bb wv) w w' := hk.mono (by intro x hx; simp only [List.mem_cons, List.not_mem_nil, or_false] at hx; simp only [dskM, List.mem_cons]; rcases hx with rfl | rfl <;> simp)
  refine ⟨rfl, Good.lift hB hM hk' ⟨bb, nc, bootG G (L.zip how), .slice none 0 0, [], hD'.more hk.size, by rw [bootG_all, ← hbl, ← hwa]; rfl, rfl, rfl⟩ ?_, hD.tf hk'⟩
  intro x hx
  simp only [dskM, Value.ownBlock, Option.toList_none, List.mem_cons, List.not_mem_nil, or_false] at hx ⊢
  rcases hx with rfl | rfl <;> simp

theorem lastG_lastOf (L : List (Nat × Value × List UInt8)) (i : Nat) : lastG L i = lastOf (L.map fun x => (x.1, x.2.2)) i := by
  unfold lastG lastOf
  rw [← List.map_reverse, List.find?_map, Option.map_map]
  rfl

theorem good_read {w0 w : World} {p : Nat} {D : PD} (h : Good w0 w p D) (hL : D.waits.length ≤ 1048576) (i : Int) :
    Calls Try.prog 21 #[.pointer (some ⟨p, 0, none⟩), .int .i64 i] w (ReadPost w (D.read i)) := by
  obtain ⟨hB, M, ⟨bb, nc, G, wv, L, hD, hbl, hwa, rfl⟩, hM⟩ := id h
  have hlen : D.blocks.length = G.length := by rw [hbl, List.length_map]
  have hLl : D.waits.length = L.length := by rw [hwa, List.length_map]
  by_cases hok : 0 ≤ i ∧ i < G.length ∧ D.off = false
  · obtain ⟨k, rfl⟩ := Int.eq_ofNat_of_zero_le hok.1
    have h1 : D.read k = readO G L k := by
      unfold PD.read readO
      rw [if_pos (by rw [hlen]; exact hok), lastG_lastOf, hwa, hbl]
      simp only [Int.toNat_natCast, List.getElem?_map]
      cases lastOf (L.map fun x => (x.1, x.2.2)) k with
      | some l => rfl
      | none => cases hg : G[k]? <;> simp
    rw [h1]
    rw [hok.2.2] at hD
    exact read_yes hD (Nat.le_refl _) (by omega) k (by omega)
  · have h1 : D.read i = none := by
      unfold PD.read
      rw [if_neg (by rw [hlen]; exact hok)]
    rw [h1]
    exact read_no hD i hok

theorem good_arm {w0 w : World} {p : Nat} {D : PD} (h : Good w0 w p D) (n : Int) (hn : n ≤ 9223372036854775807) :
    Calls Try.prog 26 #[.pointer (some ⟨p, 0, none⟩), .int .i64 n] w fun e w' => e = .returned (.tuple #[]) ∧ Good w0 w' p { D with fuse := max n (-1) } ∧ TF w w' := by
  obtain ⟨hB, M, ⟨bb, nc, G, wv, L, hD, hbl, hwa, rfl⟩, hM⟩ := id h
  refine (arm_any hD n hn).mono ?_
  rintro e w' ⟨rfl, hk, hD'⟩
  have hk' : Kp (dskM p bb wv) w w' := hk.mono (by intro x hx; simp only [List.mem_singleton] at hx; simp [dskM, hx])
  exact ⟨rfl, Good.lift hB hM hk' ⟨bb, nc, G, wv, L, hD'.more hk.size, hbl, hwa, rfl⟩ (fun x hx => .inl hx), hD.tf hk'⟩

theorem good_burst {w0 w : World} {p : Nat} {D : PD} (h : Good w0 w p D) (hL : D.waits.length ≤ 1048576) (i a : Int) (x : Nat) (hx : x < 4294967296) :
    Calls Try.prog 28 #[.pointer (some ⟨p, 0, none⟩), .int .i64 i, .int .i64 a, .int .u32 (x : Int)] w fun e w' => e = .returned (.bool (D.burst i a x).1) ∧ Good w0 w' p (D.burst i a x).2 ∧ TF w w' := by
  obtain ⟨hB, M, ⟨bb, nc, G, wv, L, hD, hbl, hwa, rfl⟩, hM⟩ := id h
  have hlen : D.blocks.length = G.length := by rw [hbl, List.length_map]
  have hLl : D.waits.length = L.length := by rw [hwa, List.length_map]
  by_cases hok : 0 ≤ i ∧ i < G.length ∧ 0 ≤ a ∧ a ≤ 124 ∧ L = []
  · obtain ⟨hi0, hi1, ha0, ha1, rfl⟩ := hok
    obtain ⟨k, rfl⟩ := Int.eq_ofNat_of_zero_le hi0
    obtain ⟨b, rfl⟩ := Int.eq_ofNat_of_zero_le ha0
    have hw0 : D.waits = [] := hwa
    obtain ⟨⟨v, o⟩, hg⟩ : ∃ y, G[k]? = some y := ⟨_, List.getElem?_eq_getElem (by omega)⟩
    have hbk : (D.blocks[k]?).getD none = o := by rw [hbl, List.getElem?_map, hg]; rfl
    cases o with
    | none =>
      have h1 : D.burst k b x = (true, D) := by
        unfold PD.burst
        rw [if_pos ⟨hi0, by omega, ha0, ha1, hw0⟩, Int.toNat_natCast, hbk]
      rw [h1]
      refine (burst_torn hD k v b x hg (by omega) (by omega)).mono ?_
      rintro e w' ⟨rfl, rfl⟩
      exact ⟨rfl, h, TF.refl _⟩
    | some l =>
      have h1 : D.burst k b x = (true, { D with blocks := D.blocks.set k (some (burstK l b x 4)) }) := by
        unfold PD.burst
        rw [if_pos ⟨hi0, by omega, ha0, ha1, hw0⟩, Int.toNat_natCast, hbk, Int.toNat_natCast]
      rw [h1]
      refine (burst_ok hD (Nat.le_refl _) k v l b x hg (by omega) hx).mono ?_
      rintro e w' ⟨rfl, hk, v', hD'⟩
      have hk' : Kp (dskM p bb wv) w w' := hk.mono (by intro x hx; simp only [List.mem_singleton] at hx; simp [dskM, hx])
      exact ⟨rfl, Good.lift hB hM hk' ⟨bb, nc, G.set k (v', some (burstK l b x 4)), wv, [], hD', by rw [List.map_set, ← hbl], hwa, rfl⟩ (fun x hx => .inl hx), hD.tf hk'⟩
  · have h1 : D.burst i a x = (false, D) := by
      unfold PD.burst
      rw [if_neg]
      rintro ⟨h2, h3, h4, h5, h6⟩
      exact hok ⟨h2, by omega, h4, h5, List.eq_nil_of_length_eq_zero (by rw [← hLl, h6]; rfl)⟩
    rw [h1]
    refine (burst_bad hD i a x (by omega) hok).mono ?_
    rintro e w' ⟨rfl, rfl⟩
    exact ⟨rfl, h, TF.refl _⟩

theorem good_wrote {w0 w : World} {p : Nat} {D : PD} (h : Good w0 w p D) : Calls Try.prog 24 #[.pointer (some ⟨p, 0, none⟩)] w fun e w' => e = .returned (.int .i64 D.wrote) ∧ w = w' := by
  obtain ⟨hB, M, ⟨bb, nc, G, wv, L, hD, hbl, hwa, rfl⟩, hM⟩ := id h
  exact wrote_any p D.wrote w hD.c4
theorem good_off {w0 w : World} {p : Nat} {D : PD} (h : Good w0 w p D) : Calls Try.prog 27 #[.pointer (some ⟨p, 0, none⟩)] w fun e w' => e = .returned (.bool D.off) ∧ w = w' := by
  obtain ⟨hB, M, ⟨bb, nc, G, wv, L, hD, hbl, hwa, rfl⟩, hM⟩ := id h
  exact off_any p D.off w hD.c3
theorem good_waits {w0 w : World} {p : Nat} {D : PD} (h : Good w0 w p D) : Calls Try.prog 25 #[.pointer (some ⟨p, 0, none⟩)] w fun e w' => e = .returned (.int .i64 D.waits.length) ∧ w = w' := by
  obtain ⟨hB, M, ⟨bb, nc, G, wv, L, hD, hbl, hwa, rfl⟩, hM⟩ := id h
  obtain ⟨a, c, rfl⟩ := hD.wvslice
  have hLl : D.waits.length = L.length := by rw [hwa, List.length_map]
  rw [hLl]
  exact waits_any p L.length c a w hD.c1
theorem good_len {w0 w : World} {p : Nat} {D : PD} (h : Good w0 w p D) : Calls Try.prog 35 #[.pointer (some ⟨p, 0, none⟩)] w fun e w' => e = .returned (.int .i64 D.blocks.length) ∧ w = w' := by
  obtain ⟨hB, M, ⟨bb, nc, G, wv, L, hD, hbl, hwa, rfl⟩, hM⟩ := id h
  have hlen : D.blocks.length = G.length := by rw [hbl, List.length_map]
  rw [hlen]
  exact len_any p bb nc G.length w hD.c0

end Go.Proofs.Ytioieffmihdheaa
