/- New, of a disk. -/
import Derived.Test.YtioieffmihdheaaD7
import Derived.Laws.MakeOwn
namespace Go.Proofs.Ytioieffmihdheaa
open Go.RowKit
set_option linter.unusedVariables false
set_option linter.unusedSimpArgs false

theorem Try.infoBytes : (Try.prog.info? 34).map (fun i => (i.zero, i.size, i.bytes)) = some (some (.slice none 0 0), 1, 24) := by kernel_rfl

theorem run_make_rowN {P : Program} (t e : TypeId) (i : TypeInfo) (z : Value) (ht : P.underlying t = some (.slice e)) (hi : P.info? e = some i) (hz : i.zero = some z)
    (kl kc : IntKind) (n c : Nat) (hnc : n ≤ c) (hbytes : i.bytes * c ≤ 281474976710656) (h63 : c ≤ 9223372036854775807) (w : World) :
    (Instr.makeSlice t (.int kl (n : Int)) (.int kc (c : Int))).run P w = .ok (.slice (some ⟨w.heap.size, 0, none⟩) n c) (w.alloc (.cells (madeCells z.cells (c * i.size)) e)) := by
  have hb : (i.bytes : Int) * (c : Int) ≤ 281474976710656 := by
    have h : ((i.bytes * c : Nat) : Int) ≤ 281474976710656 := by omega
    rwa [Int.natCast_mul] at h
  have hr := run_make (P := P) w t e i z ht hi hz kl kc n c (by omega) (by omega) hb (by omega)
  simp only [Int.toNat_natCast] at hr
  exact hr

/-- n values nil -/
def nils (n : Nat) : Array Value := (List.replicate n (Value.slice none 0 0)).toArray

theorem make_nils (n : Nat) (hn : n ≤ 65536) : ∀ W : World, (Instr.makeSlice 58 (.int .i64 n) (.int .i64 n)).run Try.prog W = .ok (.slice (some ⟨W.heap.size, 0, none⟩) n n) (W.alloc (.cells (nils n) 34)) := by
  intro W
  obtain ⟨i0, hi, hz0, hz1, hz2⟩ := info_parts Try.infoBytes
  have h := run_make_rowN (P := Try.prog) 58 34 i0 _ Try.underlying58 hi hz0 .i64 .i64 n n (Nat.le_refl _) (by rw [hz2]; omega) (by omega) W
  rw [h, hz1]
  congr 3
  apply Array.ext'
  rw [Nat.mul_one]
  exact toList_madeCells_one _ n

theorem info_disk : (Try.prog.info? 69).map (fun i => (i.zero, i.size, i.bytes)) = some (some (.agg #[.slice none 0 0, .slice none 0 0, .int .i64 0, .bool false, .int .i64 0]), 5, 72) := by kernel_rfl

set_option maxRecDepth 100000 in
set_option maxHeartbeats 800000 in
theorem new_bad (n : Int) (w : World) (hn : n < 1 ∨ 512 < n) : Calls Try.prog 17 #[.int .i64 n] w fun e w' => e = .returned (.pointer none) ∧ w = w' := by
  by_cases h1 : n < 1
  · go_enter Try.func17, Try.ntmps17
    go_wp2
    go_ret
    exact ⟨rfl, rfl⟩
  · have h2 : 512 < n := by omega
    clear hn
    go_enter Try.func17, Try.ntmps17
    go_wp2
    go_ret
    exact ⟨rfl, rfl⟩

def noughts : List UInt8 := List.replicate 128 0

/-- the blocks' row, k of them made -/
def newRow (n : Nat) (vs : List Value) : Array Value := (vs ++ List.replicate (n - vs.length) (Value.slice none 0 0)).toArray
theorem newRow_at {n k : Nat} {vs : List Value} (hv : vs.length ≤ n) (hk : k < n) : ∃ u, (newRow n vs)[k]? = some u := ⟨_, Array.getElem?_eq_getElem (by simp [newRow]; omega)⟩
theorem newRow_set {n : Nat} {vs : List Value} (v : Value) (hk : vs.length < n) : (newRow n vs).setIfInBounds vs.length v = newRow n (vs ++ [v]) := by
  unfold newRow
  apply Array.ext'
  simp only [List.setIfInBounds_toArray, List.length_append, List.length_singleton]
  rw [List.set_append_right _ _ (Nat.le_refl _), Nat.sub_self]
  obtain ⟨m, hm⟩ : ∃ m, n - vs.length = m + 1 := ⟨n - vs.length - 1, by omega⟩
  rw [hm, show n - (vs.length + 1) = m by omega, List.replicate_succ, List.set_cons_zero, List.append_assoc]
  rfl

/-- a new disk -/
def Made (w : World) (D : PD) (e : Ending) (w' : World) : Prop :=
  ∃ p M, e = .returned (.pointer (some ⟨p, 0, none⟩)) ∧ Below w.heap.size w w' ∧ Dsk w'.heap.size w' p M D ∧ ∀ x ∈ M, w.heap.size ≤ x

/-- a disk under way -/
def NewAt (w : World) (n k : Nat) (wr : World) : Prop :=
  Below w.heap.size w wr ∧ w.heap.size + 1 < wr.heap.size ∧ Blk wr (w.heap.size + 1) 69 #[.slice (some ⟨w.heap.size, 0, none⟩) n n, .slice none 0 0, .int .i64 (-1), .bool false, .int .i64 0] ∧
  ∃ vs : List Value, vs.length = k ∧ Blk wr w.heap.size 34 (newRow n vs) ∧ ∀ v ∈ vs, Bts 5 wr.heap.size wr v noughts

theorem newAt_step {w wr : World} {n k : Nat} (h : NewAt w n k wr) (hk : k < n) : NewAt w n (k + 1) (((wr.setCell ⟨w.heap.size, k, none⟩ (.slice (some ⟨wr.heap.size, 0, none⟩) 128 128)).alloc (.cells zeros 5)).drew) := by
  obtain ⟨hb, hz, hself, vs, rfl, hrow, hvs⟩ := h
  have hs := Below.setCell (p := ⟨w.heap.size, vs.length, none⟩) hb (Nat.le_refl _) (.slice (some ⟨wr.heap.size, 0, none⟩) 128 128)
  have hsz : (wr.setCell ⟨w.heap.size, vs.length, none⟩ (.slice (some ⟨wr.heap.size, 0, none⟩) 128 128)).heap.size = wr.heap.size := by simp [World.setCell]
  refine ⟨(hs.alloc hs.size _).drew, ?_, ?_, vs ++ [.slice (some ⟨wr.heap.size, 0, none⟩) 128 128], by simp, ?_, ?_⟩
  · show _ < (World.alloc _ _).heap.size
    simp [World.setCell]; omega
  · exact (hself.far (by simp) _).alloc _
  · rw [← newRow_set _ hk]
    exact (hrow.set_ vs.length _).alloc _
  · intro v hv
    have hnew : (((wr.setCell ⟨w.heap.size, vs.length, none⟩ (.slice (some ⟨wr.heap.size, 0, none⟩) 128 128)).alloc (.cells zeros 5)).drew).heap.size = wr.heap.size + 1 := by show (World.alloc _ _).heap.size = _; simp [World.setCell]
    rw [hnew]
    rcases List.mem_append.1 hv with hv | hv
    · have h1 := hvs v hv
      have h2 := (h1.kp (w' := ((wr.setCell ⟨w.heap.size, vs.length, none⟩ (.slice (some ⟨wr.heap.size, 0, none⟩) 128 128)).alloc (.cells zeros 5)).drew) (((Kp.refl [w.heap.size] wr).setCell (.inl (by simp)) _).alloc _).drew ?_)
      · exact h2.more (by omega)
      · intro g hg hm
        simp only [List.mem_singleton] at hm
        subst hm
        exact owns_blk_ne h1.1 hrow (by decide) hg
    · simp only [List.mem_singleton] at hv
      subst hv
      have hblk : Blk (((wr.setCell ⟨w.heap.size, vs.length, none⟩ (.slice (some ⟨wr.heap.size, 0, none⟩) 128 128)).alloc (.cells zeros 5)).drew) wr.heap.size 5 zeros := by
        have := Blk.new (wr.setCell ⟨w.heap.size, vs.length, none⟩ (.slice (some ⟨wr.heap.size, 0, none⟩) 128 128)) 5 zeros
        rw [hsz] at this
        exact this
      exact ⟨owns_of_blk (cs := noughts.map BV) hblk (by simp [noughts]) (by unfold maxLen; omega) 0 (Nat.zero_le _), wr.heap.size, rfl, by omega⟩

theorem newAt_end {w wr : World} {n : Nat} (h : NewAt w n n wr) (h1 : 1 ≤ n) (h2 : n ≤ 512) : Made w (PD.new n) (.returned (.pointer (some ⟨w.heap.size + 1, 0, none⟩))) wr := by
  obtain ⟨hb, hz, hself, vs, hl, hrow, hvs⟩ := h
  have hlen : (vs.map fun v => (v, some noughts)).length = n := by simp [hl]
  refine ⟨w.heap.size + 1, dskM (w.heap.size + 1) w.heap.size (.slice none 0 0), rfl, hb, ⟨w.heap.size, n, vs.map (fun v => (v, some noughts)), .slice none 0 0, [], ⟨?_, hz, ⟨_, hrow, by omega, by omega, ?_, ?_⟩, by omega, ?_, World.ownsRow_nil _ _ _ _, by simp [Value.ownBlock], by simp, (by show (-1 : Int) ≤ -1; omega), (by show (-1 : Int) ≤ _; omega), (by show (0 : Int) ≤ 0; omega), by omega, by omega⟩, ?_, by simp [PD.new], rfl⟩, ?_⟩
  · rw [hlen]; exact hself
  · simp [newRow, hl]
  · rw [hlen]
    simp only [newRow, hl, Nat.sub_self, List.replicate_zero, List.append_nil, List.map_map]
    rw [List.take_of_length_le (by omega)]
    simp [Function.comp_def]
  · intro x hx
    obtain ⟨v, hv, rfl⟩ := List.mem_map.1 hx
    exact ⟨hvs v hv, by simp [noughts]⟩
  · simp only [PD.new, List.map_map, Function.comp_def]
    rw [← hl]
    simp [noughts, List.map_const']
  · intro x hx
    simp only [dskM, Value.ownBlock, Option.toList_none, List.mem_cons, List.not_mem_nil, or_false] at hx
    omega

set_option maxRecDepth 100000 in
set_option maxHeartbeats 1600000 in
theorem new_any (n : Nat) (w : World) (h1 : 1 ≤ n) (h2 : n ≤ 512) : Calls Try.prog 17 #[.int .i64 n] w (Made w (PD.new n)) := by
  have hmk := make_nils n (by omega)
  have hmz := make_zeros
  have h0 : NewAt w n 0 ((w.alloc (.cells (nils n) 34)).alloc (.cells #[.slice (some ⟨w.heap.size, 0, none⟩) n n, .slice none 0 0, .int .i64 (-1), .bool false, .int .i64 0] 69)) := by
    refine ⟨((Below.refl _ _).alloc (Nat.le_refl _) _).alloc (by simp) _, by simp, ?_, [], rfl, ?_, by simp⟩
    · have := Blk.new (w.alloc (.cells (nils n) 34)) 69 #[.slice (some ⟨w.heap.size, 0, none⟩) n n, .slice none 0 0, .int .i64 (-1), .bool false, .int .i64 0]
      simpa using this
    · have := (Blk.new w 34 (nils n)).alloc (.cells #[.slice (some ⟨w.heap.size, 0, none⟩) n n, .slice none 0 0, .int .i64 (-1), .bool false, .int .i64 0] 69)
      simpa [newRow, nils] using this
  have H0 := Lib.hid h0
  have d1 : decide ((n : Int) < 1) = false := by simp; omega
  have d2 : decide ((512 : Int) < (n : Int)) = false := by simp; omega
  clear h0
  go_enter Try.func17, Try.ntmps17
  go_wp2
  go_loopw [4, 20] (fun _ i wr => ∃ k : Nat, k ≤ n ∧ i = .int .i64 k ∧ Hid (NewAt w n k wr)) (fun _ i _ => n - (intOf i).toNat)
  case atStart => exact ⟨0, by omega, rfl, H0⟩
  case round =>
    obtain ⟨k, hk, rfl, HA⟩ := hrel
    obtain ⟨hb, hz, hself, vs, hl, hrow, hvs⟩ := HA.out
    by_cases hlt : k < n
    · obtain ⟨u0, hcu⟩ := newRow_at (n := n) (vs := vs) (by omega) hlt
      have hc0 := hself.cell 0
      simp only [List.getElem?_toArray, List.getElem?_cons_zero] at hc0
      have hcb : wr.cell? ⟨w.heap.size, k, none⟩ = some u0 := by rw [hrow.cell]; exact hcu
      have hfb := hrow.frozen k
      have hi0 : (0 : Int) ≤ (k : Int) := by omega
      have hi1 : (k : Int) < (n : Int) := by omega
      have hz2 : w.heap.size < wr.heap.size := by omega
      clear hb hself hl hrow hvs hcu
      go_wp2
      go_region
      all_goals go_wp2
      go_roundw
      case rel => exact ⟨k + 1, by omega, by go_num, newAt_step HA.out hlt⟩
      case measure => simp [intOf]; omega
    · obtain rfl : k = n := by omega
      clear hb hself hl hrow hvs hz
      go_wp2
      go_ret
      exact newAt_end HA.out h1 h2

end Go.Proofs.Ytioieffmihdheaa
