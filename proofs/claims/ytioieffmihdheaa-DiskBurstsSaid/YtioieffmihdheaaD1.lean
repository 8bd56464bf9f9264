/- Clones; the disk's small calls. -/
import Derived.Test.YtioieffmihdheaaDk
import Derived.WalkKit
import Derived.WalkSpells
import Derived.WalkLawsBesides
namespace Go.Proofs.Ytioieffmihdheaa
open Go.RowKit
set_option linter.unusedVariables false
set_option linter.unusedSimpArgs false

theorem Try.infoByte : (Try.prog.info? 5).map (fun i => (i.zero, i.size, i.bytes)) = some (some (.int .u8 0), 1, 1) := by kernel_rfl

/-- a clone of bytes: new bytes of its own -/
def Cloned (w : World) (l : List UInt8) (e : Ending) (w' : World) : Prop :=
  ∃ g c, e = .returned (.slice (some ⟨g, 0, none⟩) l.length c) ∧ w'.ownsRow w.heap.size 5 1 (.slice (some ⟨g, 0, none⟩) l.length c) l.length (l.map BV) ∧ Below w.heap.size w w'

theorem form_of_owns {w : World} {base : Nat} {e : TypeId} {size : Nat} {v : Value} {n : Nat} {xs : List Value} (h : w.ownsRow base e size v n xs) {g : Nat} (hg : v.ownBlock = some g) : ∃ c, v = .slice (some ⟨g, 0, none⟩) n c ∧ base ≤ g ∧ g < w.heap.size ∧ n ≤ c := by
  rcases h.2 with ⟨rfl, _⟩ | ⟨g', c, cur, rfl, hb, hh, hn, _⟩
  · simp [Value.ownBlock] at hg
  · have : g' = g := by simpa [Value.ownBlock] using hg
    subst this
    exact ⟨c, rfl, hb, (Array.getElem?_eq_some_iff.1 hh).1, hn⟩

set_option maxHeartbeats 400000 in
theorem clone_nil (w : World) : Calls Try.prog 41 #[.slice none 0 0] w fun e w' => e = .returned (.slice none 0 0) ∧ w = w' := by
  have hq := fun (w : World) (a : Option Addr) (n c : Nat) => Lib.run_eql_slice_nil (P := Try.prog) w 34 5 a n c 0 0 Try.underlying34
  go_enter Try.func41, Try.ntmps41
  go_wp2
  go_ret
  exact ⟨rfl, rfl⟩

set_option maxHeartbeats 400000 in
theorem clone_some (ad : Addr) (c : Nat) (l : List UInt8) (w : World) (hl : l.length ≤ 1048576) (hc : ∀ j u, (l.map BV)[j]? = some u → w.cell? (ad.add j) = some u) :
    Calls Try.prog 41 #[.slice (some ad) l.length c] w (Cloned w l) := by
  have hq := fun (w : World) (a : Option Addr) (n c : Nat) => Lib.run_eql_slice_nil (P := Try.prog) w 34 5 a n c 0 0 Try.underlying34
  obtain ⟨i0, hi, hz0, hz1, hz2⟩ := info_parts Try.infoByte
  have hb : ad.block < w.heap.size ∨ l = [] := by
    cases l with
    | nil => exact .inr rfl
    | cons x l =>
      left
      have := hc 0 (BV x) rfl
      have h2 := World.block_lt_of_cell? w _ this
      unfold Addr.add at h2
      simpa using h2
  have hmm : (l.map BV).length = l.length * 1 := by simp
  have h0 : (w.alloc (.cells #[] 5)).ownsRow w.heap.size 5 1 (.slice (some ⟨w.heap.size, 0, none⟩) 0 0) 0 [] := World.ownsRow_made w #[] 0 (Nat.le_refl _) (by unfold maxLen; omega) rfl
  have hnews : ∀ j u, (l.map BV)[j]? = some u → (w.alloc (.cells #[] 5)).cell? (ad.add j) = some u := by
    intro j u hu
    rcases hb with hb | rfl
    · rw [World.cell?_alloc_lt w _ _ (by unfold Addr.add; split <;> simpa using hb)]
      exact hc j u hu
    · simp at hu
  have HN := Lib.hid hnews
  have HC := Lib.hid hc
  have HM := Lib.hid hmm
  clear hnews hc hmm hb
  go_enter Try.func41, Try.ntmps41
  go_wp2_with (at_builtin; refine wpList_append_own_at _ rfl _ _ _ rfl w.heap.size 5 i0 (.int .u8 0) 1 1 Try.underlying34 hi hz0 hz1 hz2 rfl (by decide) _ _ _ rfl h0 ad l.length c (l.map BV) rfl HM.out HN.out (BVs_one l) (by unfold maxLen; omega) (by omega) (by simp) ?_; intro v' w1 hown hgrow hnil hat)
  go_ret
  simp only [Nat.zero_add, List.nil_append] at hown
  obtain ⟨g, hg⟩ : ∃ g, v'.ownBlock = some g := by
    rcases hat with hat | hat
    · exact ⟨_, hat⟩
    · exact ⟨_, hat⟩
  obtain ⟨c', rfl, _⟩ := form_of_owns hown hg
  refine ⟨g, c', rfl, hown, ?_⟩
  · exact ((Below.refl _ w).alloc (Nat.le_refl _) _).grown hgrow (by simp) (fun k hk => by have h9 : w.heap.size = k := Option.some.inj hk; omega)

set_option maxHeartbeats 400000 in
theorem bclone_nil (w : World) : Calls Try.prog 44 #[.slice none 0 0] w fun e w' => e = .returned (.slice none 0 0) ∧ w = w' := by
  have hq := fun (w : World) (a : Option Addr) (n c : Nat) => Lib.run_eql_slice_nil (P := Try.prog) w 34 5 a n c 0 0 Try.underlying34
  go_enter Try.func44, Try.ntmps44
  go_wp2
  go_ret
  exact ⟨rfl, rfl⟩

set_option maxHeartbeats 400000 in
theorem bclone_some (ad : Addr) (c : Nat) (l : List UInt8) (w : World) (hl : l.length ≤ 1048576) (hc : ∀ j u, (l.map BV)[j]? = some u → w.cell? (ad.add j) = some u) :
    Calls Try.prog 44 #[.slice (some ad) l.length c] w (Cloned w l) := by
  have hq := fun (w : World) (a : Option Addr) (n c : Nat) => Lib.run_eql_slice_nil (P := Try.prog) w 34 5 a n c 0 0 Try.underlying34
  obtain ⟨i0, hi, hz0, hz1, hz2⟩ := info_parts Try.infoByte
  have hb : ad.block < w.heap.size ∨ l = [] := by
    cases l with
    | nil => exact .inr rfl
    | cons x l =>
      left
      have := hc 0 (BV x) rfl
      have h2 := World.block_lt_of_cell? w _ this
      unfold Addr.add at h2
      simpa using h2
  have hmm : (l.map BV).length = l.length * 1 := by simp
  have h0 : (w.alloc (.cells #[] 5)).ownsRow w.heap.size 5 1 (.slice (some ⟨w.heap.size, 0, none⟩) 0 0) 0 [] := World.ownsRow_made w #[] 0 (Nat.le_refl _) (by unfold maxLen; omega) rfl
  have hnews : ∀ j u, (l.map BV)[j]? = some u → (w.alloc (.cells #[] 5)).cell? (ad.add j) = some u := by
    intro j u hu
    rcases hb with hb | rfl
    · rw [World.cell?_alloc_lt w _ _ (by unfold Addr.add; split <;> simpa using hb)]
      exact hc j u hu
    · simp at hu
  have HN := Lib.hid hnews
  have HC := Lib.hid hc
  have HM := Lib.hid hmm
  clear hnews hc hmm hb
  go_enter Try.func44, Try.ntmps44
  go_wp2_with (at_builtin; refine wpList_append_own_at _ rfl _ _ _ rfl w.heap.size 5 i0 (.int .u8 0) 1 1 Try.underlying34 hi hz0 hz1 hz2 rfl (by decide) _ _ _ rfl h0 ad l.length c (l.map BV) rfl HM.out HN.out (BVs_one l) (by unfold maxLen; omega) (by omega) (by simp) ?_; intro v' w1 hown hgrow hnil hat)
  go_ret
  simp only [Nat.zero_add, List.nil_append] at hown
  obtain ⟨g, hg⟩ : ∃ g, v'.ownBlock = some g := by
    rcases hat with hat | hat
    · exact ⟨_, hat⟩
    · exact ⟨_, hat⟩
  obtain ⟨c', rfl, _⟩ := form_of_owns hown hg
  refine ⟨g, c', rfl, hown, ?_⟩
  · exact ((Below.refl _ w).alloc (Nat.le_refl _) _).grown hgrow (by simp) (fun k hk => by have h9 : w.heap.size = k := Option.some.inj hk; omega)

end Go.Proofs.Ytioieffmihdheaa
