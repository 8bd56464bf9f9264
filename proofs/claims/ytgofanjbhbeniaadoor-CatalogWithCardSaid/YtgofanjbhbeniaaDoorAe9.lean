/- Each operation over the named memory does what the world's does: what is built, appended, copied. No program is named here. -/
import Derived.Test.YtgofanjbhbeniaaDoorAe8
noncomputable section
namespace Go.AE
set_option linter.unusedVariables false
set_option linter.unusedSimpArgs false

section
variable {P : Program} {E : Env} {q : Free} {ρ : Ren} {s s' : S} {w : World} {fr : Fr} {e : Operand → Value} {nx : ANext}

inductive PsR (ρ : Ren) : List (Nat × Value) → List (Nat × Value) → Prop
  | nil : PsR ρ [] []
  | cons {i v v' l l'} : VR ρ v v' → PsR ρ l l' → PsR ρ ((i, v) :: l) ((i, v') :: l')

theorem evParts_R (hev : ∀ x v, fr.ev x = some v → VR ρ v (e x)) : ∀ {l : List (Nat × Operand)} {vs}, evParts fr l = some vs → PsR ρ vs (l.map fun p => (p.1, e p.2))
  | [], vs, h => by simp only [evParts] at h; cases h; exact .nil
  | (i, x) :: l, vs, h => by
    simp only [evParts] at h
    split at h
    · cases h
    · rename_i v hv
      split at h
      · cases h
      · rename_i r hr
        cases h
        exact .cons (hev _ _ hv) (evParts_R hev hr)

theorem over_LR : ∀ {off : Nat} {vs vs' cs cs' r : List Value}, over off vs cs = some r → LR ρ vs vs' → LR ρ cs cs' → ∃ r', over off vs' cs' = some r' ∧ LR ρ r r'
  | 0, [], vs', cs, cs', r, h, hv, hc => by
    cases hv
    simp only [over] at h; cases h
    exact ⟨cs', by cases cs' <;> rfl, hc⟩
  | 0, v :: vs, vs', [], cs', r, h, hv, hc => by simp [over] at h
  | 0, v :: vs, vs', c :: cs, cs', r, h, hv, hc => by
    cases hv with
    | cons a b =>
      cases hc with
      | cons x y =>
        simp only [over] at h
        split at h
        · cases h
        · rename_i r0 hr
          cases h
          obtain ⟨r', h1, h2⟩ := over_LR hr b y
          exact ⟨_, by simp only [over, h1], .cons a h2⟩
  | n + 1, vs, vs', [], cs', r, h, hv, hc => by simp [over] at h
  | n + 1, vs, vs', c :: cs, cs', r, h, hv, hc => by
    cases hc with
    | cons x y =>
      simp only [over] at h
      split at h
      · cases h
      · rename_i r0 hr
        cases h
        obtain ⟨r', h1, h2⟩ := over_LR hr hv y
        exact ⟨_, by simp only [over, h1], .cons x h2⟩

theorem over_get : ∀ {off : Nat} {vs cs r : List Value}, over off vs cs = some r → off + vs.length ≤ cs.length ∧ ∀ i, r[i]? = if off ≤ i ∧ i < off + vs.length then vs[i - off]? else cs[i]?
  | 0, [], cs, r, h => by
    have : r = cs := by cases cs <;> (simp only [over] at h; cases h; rfl)
    subst this
    exact ⟨by simp, fun i => by rw [if_neg (by simp)]⟩
  | 0, v :: vs, [], r, h => by simp [over] at h
  | 0, v :: vs, c :: cs, r, h => by
    simp only [over] at h
    split at h
    · cases h
    · rename_i r0 hr
      cases h
      obtain ⟨h1, h2⟩ := over_get hr
      refine ⟨by simp; omega, ?_⟩
      intro i
      cases i with
      | zero => simp
      | succ i =>
        have := h2 i
        simp only [List.getElem?_cons_succ, List.length_cons, this]
        by_cases hi : i < vs.length
        · rw [if_pos (by omega), if_pos (by omega)]; simp
        · rw [if_neg (by omega), if_neg (by omega)]
  | n + 1, vs, [], r, h => by simp [over] at h
  | n + 1, vs, c :: cs, r, h => by
    simp only [over] at h
    split at h
    · cases h
    · rename_i r0 hr
      cases h
      obtain ⟨h1, h2⟩ := over_get hr
      refine ⟨by simp; omega, ?_⟩
      intro i
      cases i with
      | zero => rw [if_neg (by omega)]; simp
      | succ i =>
        have := h2 i
        simp only [List.getElem?_cons_succ, this]
        by_cases hi : n ≤ i ∧ i < n + vs.length
        · rw [if_pos hi, if_pos (by omega), show i + 1 - (n + 1) = i - n by omega]
        · rw [if_neg hi, if_neg (by omega)]

theorem foldSet (off : Nat) : ∀ (vs : List Value) (k : Nat) (cells : Array Value), off + k + vs.length ≤ cells.size →
    ∀ i, ((vs.zipIdx k).foldl (fun cs (x : Value × Nat) => cs.setIfInBounds (off + x.2) x.1) cells)[i]? = if off + k ≤ i ∧ i < off + k + vs.length then vs[i - (off + k)]? else cells[i]?
  | [], k, cells, h, i => by rw [if_neg (by simp)]; simp
  | v :: vs, k, cells, h, i => by
    simp only [List.zipIdx_cons, List.foldl_cons]
    simp only [List.length_cons] at h
    rw [foldSet off vs (k + 1) _ (by simp; omega) i]
    simp only [List.length_cons]
    by_cases hi : i = off + k
    · subst hi
      have hlt : off + k < cells.size := by omega
      rw [if_neg (by omega), if_pos (by omega)]
      simp [Array.getElem?_setIfInBounds, hlt]
    · by_cases h2 : off + (k + 1) ≤ i ∧ i < off + (k + 1) + vs.length
      · rw [if_pos h2, if_pos (by omega)]
        obtain ⟨d, hd⟩ : ∃ d, i = off + k + 1 + d := ⟨i - (off + k + 1), by omega⟩
        subst hd
        rw [show off + k + 1 + d - (off + (k + 1)) = d by omega, show off + k + 1 + d - (off + k) = d + 1 by omega]
        simp
      · rw [if_neg h2, if_neg (by omega)]
        simp [Array.getElem?_setIfInBounds, show ¬ off + k = i by omega]

theorem fill_sound : ∀ {ps ps' : List (Nat × Value)} {place place' : Nat → Option (Nat × Nat)} {cs cs' r : List Value}, fillA place ps cs = some r → PsR ρ ps ps' → LR ρ cs cs' →
    (∀ i x, place i = some x → place' i = some x) → ∃ r', Instr.fill place' ⟨cs'⟩ ps' = some ⟨r'⟩ ∧ LR ρ r r'
  | [], ps', place, place', cs, cs', r, h, hp, hc, hpl => by
    cases hp
    simp only [fillA] at h; cases h
    exact ⟨cs', rfl, hc⟩
  | (i, v) :: ps, ps', place, place', cs, cs', r, h, hp, hc, hpl => by
    cases hp with
    | cons a b =>
      rename_i v' l'
      simp only [fillA] at h
      split at h
      · cases h
      · rename_i off size hpi
        split at h
        · cases h
        · rename_i hsz
          have hsz := beq_iff.1 hsz
          split at h
          · cases h
          · rename_i cs2 hov
            obtain ⟨r', h1, h2⟩ := over_LR hov a.cells hc
            obtain ⟨h3, h4⟩ := over_get h1
            obtain ⟨r2, h5, h6⟩ := fill_sound h b h2 hpl
            refine ⟨r2, ?_, h6⟩
            have hlen := a.cells.length
            rw [Instr.fill, hpl _ _ hpi]
            dsimp only
            simp only [Array.length_toList] at hlen hsz h3
            rw [if_neg (by simp; omega)]
            rw [← h5]
            congr 1
            apply Array.ext'
            apply List.ext_getElem?
            intro k
            rw [h4 k]
            rw [← Array.foldl_toList, Array.toList_zipIdx]
            have := foldSet off v'.cells.toList 0 ⟨cs'⟩ (by simpa using h3) k
            simp only [Nat.add_zero] at this
            simpa using this

theorem placesA_run (hE : EnvOK P E) : ∀ {fs : List Field} {pl}, placesA E fs = some pl → ∀ w, (fs.mapM fun f => do pure (f.offset, ← sizeOf f.type) : Sem (List (Nat × Nat))).run P w = .ok pl w
  | [], pl, h, w => by simp only [placesA] at h; cases h; rfl
  | f :: fs, pl, h, w => by
    simp only [placesA] at h
    split at h
    · cases h
    · rename_i j hj
      split at h
      · cases h
      · rename_i r hr
        cases h
        simp only [List.mapM_cons, Sem.run_bind, run_size hE hj, Sem.run_pure, Result.andThen_ok, placesA_run hE hr]
theorem nthP_eq : ∀ (l : List (Nat × Nat)) (n : Nat) (x : Nat × Nat), nthP l n = some x → l[n]? = some x
  | [], n, x, h => by cases n <;> cases h
  | _ :: _, 0, x, h => by cases h; rfl
  | _ :: l, n + 1, x, h => by simpa using nthP_eq l n x h

theorem aBuild_sound (hE : EnvOK P E) (hR : Rep P q ρ s w) (hev : ∀ x v, fr.ev x = some v → VR ρ v (e x)) {t : TypeId} {parts : Array (Nat × Operand)} (h : (aBuild E fr t parts).run s = some (nx, s')) :
    ValRes P q ρ w s' nx ((Instr.build t (parts.map fun (i, x) => (i, e x))).run P w) := by
  obtain ⟨i, hi, h1⟩ := run_opt h
  obtain ⟨z, hz, h2⟩ := run_opt h1
  obtain ⟨ps, hps, h3⟩ := run_opt h2
  clear h h1 h2
  have hp := evParts_R hev hps
  have hzz := still_cells (ρ := ρ) (zero_still hE hi hz)
  split at h3
  · rename_i fs hd
    obtain ⟨pl, hpl, h4⟩ := run_opt h3
    obtain ⟨cs, hcs, h5⟩ := run_opt h4
    obtain ⟨r', g1, g2⟩ := fill_sound (place' := fun i => pl.toArray[i]?) hcs hp hzz (by intro i x hx; simpa using nthP_eq _ _ _ hx)
    refine .here hR (.agg g2) ?_ h5
    simp only [Instr.build, Sem.run_bind, run_zero hE hi w hz, Result.andThen_ok, Sem.run_pure, run_under hE hi, hd, Array.mapM_eq_mapM_toList, Sem.run_map, placesA_run hE hpl]
    rw [show (parts.map fun (i, x) => (i, e x)).toList = parts.toList.map fun p => (p.1, e p.2) from by simp]
    rw [show z.cells = ⟨z.cells.toList⟩ from rfl, g1]
    rfl
  · rename_i n el hd
    obtain ⟨j, hj, h4⟩ := run_opt h3
    obtain ⟨cs, hcs, h5⟩ := run_opt h4
    obtain ⟨r', g1, g2⟩ := fill_sound (place' := fun i => some (i * j.size, j.size)) hcs hp hzz (by intro i x hx; exact hx)
    refine .here hR (.agg g2) ?_ h5
    simp only [Instr.build, Sem.run_bind, run_zero hE hi w hz, Result.andThen_ok, Sem.run_pure, run_under hE hi, hd, run_size hE hj]
    rw [show (parts.map fun (i, x) => (i, e x)).toList = parts.toList.map fun p => (p.1, e p.2) from by simp]
    rw [show z.cells = ⟨z.cells.toList⟩ from rfl, g1]
    rfl
  · cases h3

theorem aBuildSlice_sound (hE : EnvOK P E) (hl : s'.next ≤ q.hi) (hR : Rep P q ρ s w) (hev : ∀ x v, fr.ev x = some v → VR ρ v (e x)) {t : TypeId} {len : Nat} {parts : Array (Nat × Operand)} (h : (aBuildSlice E fr t len parts).run s = some (nx, s')) :
    ValRes P q ρ w s' nx ((Instr.buildSlice t len (parts.map fun (i, x) => (i, e x))).run P w) := by
  obtain ⟨i, hi, h1⟩ := run_opt h
  obtain ⟨ps, hps, h3⟩ := run_opt h1
  clear h h1
  have hp := evParts_R hev hps
  split at h3
  · rename_i el hd
    obtain ⟨j, hj, h4⟩ := run_opt h3
    obtain ⟨z, hz, h5⟩ := run_opt h4
    obtain ⟨hb, h6⟩ := run_when h5
    obtain ⟨cs, hcs, h7⟩ := run_opt h6
    clear h3 h4 h5 h6
    simp only [Bool.and_eq_true, ble_iff, beq_iff] at hb
    obtain ⟨⟨hb1, hb2⟩, hb3⟩ := hb
    have hzz := (still_cells (ρ := ρ) (zero_still hE hj hz)).repeat len
    obtain ⟨r', g1, g2⟩ := fill_sound (place' := fun i => some (i * j.size, j.size)) hcs hp hzz (by intro i x hx; exact hx)
    obtain ⟨s1, ρ1, h8, a, b, d⟩ := new_sim0 hR g2 hl h7
    obtain ⟨rfl, rfl⟩ := run_val h8
    have hb1 : len * j.size ≤ 1048576 := hb1
    have hlen : len < OPEN := by
      have : len * 1 ≤ len * j.size := Nat.mul_le_mul (Nat.le_refl _) hb3
      unfold OPEN; omega
    refine ⟨ρ1, _, _, _, rfl, ?_, a, b, .sliceW ⟨s.next, 0, w.heap.size, 0, 0, d, rfl, rfl⟩ hlen⟩
    have hzs : z.cells.size = j.size := by simpa using hb2
    have hrep : ((Array.range (len * j.size)).map fun i => z.cells[i % z.cells.size]!) = ⟨repeatL z.cells.toList len⟩ := by
      rw [← hzs]; exact range_repeat _ (by omega) _
    simp only [Instr.buildSlice, Sem.run_bind, run_under hE hi, hd, Result.andThen_ok, run_size hE hj]
    rw [if_neg (by omega)]
    rw [show (parts.map fun (i, x) => (i, e x)).toList = parts.toList.map fun p => (p.1, e p.2) from by simp]
    by_cases hc0 : len * j.size = 0
    · have hl0 : len = 0 := by
        rcases Nat.mul_eq_zero.1 hc0 with h0 | h0
        · exact h0
        · omega
      subst hl0
      rw [if_pos hc0]
      have h0 : Array.range (0 * j.size) = #[] := by apply Array.ext'; simp
      simp only [Sem.run_bind, Sem.run_pure, Result.andThen_ok, h0, Array.map_empty]
      simp only [repeatL] at g1
      rw [g1]
      simp [newRow]
    · rw [if_neg hc0]
      simp only [Sem.run_bind, run_zero hE hj w hz, Result.andThen_ok, Sem.run_pure, hrep]
      rw [g1]
      simp [newRow]
  · cases h3
end
end Go.AE
