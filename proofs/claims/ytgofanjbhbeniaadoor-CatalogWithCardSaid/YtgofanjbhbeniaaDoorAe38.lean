/- What a call reads, named anew: rows of plain cells. A call told by cases. No program is named here. -/
import Derived.Test.YtgofanjbhbeniaaDoorAe37
noncomputable section
namespace Go.AE
set_option linter.unusedVariables false
set_option linter.unusedSimpArgs false

/-- a row of plain cells of the world: its block, where it begins, what room there is, the cells, their type -/
structure InRow where
  b : Nat
  base : Nat
  ex : Nat
  L : List Value
  e : TypeId
structure InRow.In (x : InRow) (w : World) : Prop where
  blk : ∃ cs z, w.heap[x.b]? = some (.cells cs x.e z) ∧ x.base + x.L.length ≤ cs.size ∧ ∀ i v, x.L[i]? = some v → cs[x.base + i]? = some v
  plain : ∀ v ∈ x.L, Plain v
  len : x.L.length ≤ Tr.wide
def rowsOf : List InRow → Nat → List (Nat × AObj)
  | [], _ => []
  | x :: l, k => (k, .row (Tr.ofList x.L) x.L.length x.e) :: rowsOf l (k + 1)
theorem rowsOf_mem : ∀ (l : List InRow) (k : Nat) (p : Nat × AObj), p ∈ rowsOf l k → ∃ x, k ≤ p.1 ∧ l[p.1 - k]? = some x ∧ p.2 = .row (Tr.ofList x.L) x.L.length x.e
  | [], k, p, h => by cases h
  | x :: l, k, p, h => by
    rcases List.mem_cons.1 h with rfl | h
    · exact ⟨x, Nat.le_refl _, by simp, rfl⟩
    · obtain ⟨y, h1, h2, h3⟩ := rowsOf_mem l (k + 1) p h
      refine ⟨y, by omega, ?_, h3⟩
      rw [show p.1 - k = (p.1 - (k + 1)) + 1 by omega]
      simpa using h2
theorem rowsOf_lt : ∀ (l : List InRow) (k : Nat) (p : Nat × AObj), p ∈ rowsOf l k → p.1 < k + l.length
  | [], k, p, h => by cases h
  | x :: l, k, p, h => by
    rcases List.mem_cons.1 h with rfl | h
    · simp
    · have := rowsOf_lt l (k + 1) p h
      simp only [List.length_cons]
      omega
def renOf (l : List InRow) : Ren := fun n => (l[n]?).map fun x => (x.b, x.base, x.ex)
def inS (l : List InRow) : S := ⟨trOf (rowsOf l 0), l.length, 0, 0, 0⟩
theorem inputs_of {P : Program} {w : World} (l : List InRow) (hl : l.length ≤ 1000) (h : ∀ x ∈ l, x.In w) : Inputs P (renOf l) (inS l) w := by
  have hw : ∀ p ∈ rowsOf l 0, p.1 < Tr.wide := fun p hp => by
    have := rowsOf_lt l 0 p hp
    unfold Tr.wide; omega
  refine ⟨?_, ?_, ?_⟩
  · intro n o ho
    obtain ⟨x, _, h1, h2⟩ := rowsOf_mem l 0 _ (trOf_get _ hw n o ho)
    simp only [Nat.sub_zero] at h1
    simp only at h2
    subst h2
    have hx := h x (List.mem_of_getElem? h1)
    obtain ⟨cs, z, h3, h4, h5⟩ := hx.blk
    refine ⟨x.b, x.base, x.ex, _, by unfold renOf; rw [h1]; rfl, h3, .row h4 ?_, _, _, _, rfl⟩
    intro i v hv hi
    rw [get_ofList _ _ hx.len] at hv
    exact ⟨v, h5 i v hv, (hx.plain v (List.mem_of_getElem? hv)).1 _⟩
  · intro n x hx
    unfold renOf at hx
    cases hn : l[n]? with
    | none => rw [hn] at hx; cases hx
    | some y => exact (List.getElem?_eq_some_iff.1 hn).1
  · intro n b base ex hx
    unfold renOf at hx
    cases hn : l[n]? with
    | none => rw [hn] at hx; cases hx
    | some y =>
      rw [hn] at hx
      simp only [Option.map_some, Option.some.injEq, Prod.mk.injEq] at hx
      obtain ⟨rfl, _, _⟩ := hx
      obtain ⟨cs, z, h3, _⟩ := (h y (List.mem_of_getElem? hn)).blk
      exact (Array.getElem?_eq_some_iff.1 h3).1
/-- cells that are known, as the world has them -/
theorem inrow_of {P : Program} {q : Free} {ρ : Ren} {s : S} {w : World} (hR : Rep P q ρ s w) {n off b base ex : Nat} {L : List Value} (hC : Cl s n off L) (hρ : ρ n = some (b, base, ex)) (hp : ∀ v ∈ L, Plain v) (hl : L.length ≤ Tr.wide) :
    ∃ e, InRow.In ⟨b, base + off, ex, L, e⟩ w := by
  obtain ⟨hlt, c, m, hh, h1, h2⟩ := hC
  have key : ∀ (o : AObj), s.heap.get n = some o → (o.isRead = true ∨ o.isRead = false) → (∃ e rm, o = .cells c m e rm) ∨ (∃ e, o = .row c m e) → ∃ e cs z, w.heap[b]? = some (.cells cs e z) ∧ base + m ≤ cs.size ∧ ∀ i v, c.get i = some v → i < m → ∃ v', cs[base + i]? = some v' ∧ VR ρ v v' := by
    intro o ho _ hx
    obtain ⟨b1, base1, ex1, obj, e1, e2, e3⟩ := hR.live n o ho
    rw [hρ] at e1
    cases e1
    rcases hx with ⟨e, rm, rfl⟩ | ⟨e, rfl⟩
    · cases e3 with
      | cells x y z => exact ⟨_, _, _, e2, x, z⟩
    · cases e3 with
      | row x z => exact ⟨_, _, _, e2, x, z⟩
  obtain ⟨e, cs, z, k1, k2, k3⟩ : ∃ e cs z, w.heap[b]? = some (.cells cs e z) ∧ base + m ≤ cs.size ∧ ∀ i v, c.get i = some v → i < m → ∃ v', cs[base + i]? = some v' ∧ VR ρ v v' := by
    rcases hh with ⟨e, rm, hg⟩ | ⟨e, hg⟩
    · exact key _ hg (by cases (AObj.cells c m e rm).isRead <;> simp) (.inl ⟨e, rm, rfl⟩)
    · exact key _ hg (by cases (AObj.row c m e).isRead <;> simp) (.inr ⟨e, rfl⟩)
  refine ⟨e, ⟨cs, z, k1, by show base + off + L.length ≤ _; omega, ?_⟩, hp, hl⟩
  intro i v hv
  have hi : i < L.length := (List.getElem?_eq_some_iff.1 hv).1
  obtain ⟨v', g1, g2⟩ := k3 (off + i) v (h2 i v hv) (by omega)
  have := (hp v (List.mem_of_getElem? hv)).2 _ _ g2
  subst this
  show cs[base + off + i]? = _
  rw [Nat.add_assoc]; exact g1
/-- a slice, named anew -/
theorem slice_anew {ρ : Ren} {ad : Addr} {n cap : Nat} {v' : Value} (h : VR ρ (.slice (some ad) n cap) v') (hs : ad.spot = none) : ∃ b base ex, ρ ad.block = some (b, base, ex) ∧ ∀ (l : List InRow) (k : Nat) (L : List Value) (e : TypeId), l[k]? = some ⟨b, base + ad.off, ex, L, e⟩ → VR (renOf l) (.slice (some ⟨k, 0, none⟩) n cap) v' := by
  obtain ⟨blk, off, sp⟩ := ad
  simp only at hs
  subst hs
  cases h with
  | flat h => cases h
  | sliceW ha hc =>
    obtain ⟨nm, of, b, base, ex, h1, h2, h3⟩ := ha
    cases h2
    subst h3
    refine ⟨b, base, ex, h1, fun l k L e hl => .sliceW ⟨k, 0, b, base + off, ex, by unfold renOf; rw [hl]; rfl, rfl, rfl⟩ hc⟩
  | sliceL hr =>
    rename_i b base ex c
    refine ⟨b, base, ex, hr, fun l k L e hl => ?_⟩
    have := VR.sliceL (ρ := renOf l) (n := k) (off := 0) (b := b) (base := base + off) (ex := ex) (len := n) (c := c) (by unfold renOf; rw [hl]; rfl)
    exact this

/-- a call told by cases -/
theorem told_two {P : Program} {f : FuncId} {am am1 am2 : List Value → AM Value} (h1 : Told P f am1) (h2 : Told P f am2)
    (h : ∀ args s v s', (am args).run s = some (v, s') → (∃ s1, (am1 args).run s = some (v, s1) ∧ Less' s1 s') ∨ (∃ s1, (am2 args).run s = some (v, s1) ∧ Less' s1 s')) : Told P f am := by
  intro q ρ args args' s v s' w hrun hm hl hR ha c cs
  rcases h args s v s' hrun with ⟨s1, e1, hless⟩ | ⟨s1, e1, hless⟩
  · obtain ⟨ρ', v', w', g1, g2, g3, g4⟩ := h1 q ρ args args' s v s1 w e1 hm (Nat.le_trans hless.next hl) hR ha c cs
    exact ⟨ρ', v', w', g1.less' hless, g2, g3, g4⟩
  · obtain ⟨ρ', v', w', g1, g2, g3, g4⟩ := h2 q ρ args args' s v s1 w e1 hm (Nat.le_trans hless.next hl) hR ha c cs
    exact ⟨ρ', v', w', g1.less' hless, g2, g3, g4⟩
/-- a call that hands back no memory takes no names -/
theorem told_nobump {P : Program} {f : FuncId} {am am' : List Value → AM Value} (ht : Told P f am)
    (h : ∀ args s v s', (am' args).run s = some (v, s') → Plain v ∧ Less' s s' ∧ ∀ (q : Free) (ρ : Ren) (w : World) (args' : List Value), Rep P q ρ s w → LR ρ args args' →
      ∃ (args2 : List Value) (sI sE : S) (ρ2 : Ren), Inputs P ρ2 sI w ∧ LR ρ2 args2 args' ∧ (am args2).run sI = some (v, sE) ∧ sI.mark ≤ sI.next) : Told P f am' := by
  intro q ρ args args' s v s' w hrun hm hl hR ha c cs
  obtain ⟨hp, hless, hown⟩ := h args s v s' hrun
  obtain ⟨args2, sI, sE, ρ2, hI, ha2, hrun2, hm2⟩ := hown q ρ w args' hR ha
  obtain ⟨ρ', v', w', h1, h2, h3, h4⟩ := ht (ownQ w sE.next) ρ2 args2 args' sI v sE w hrun2 hm2 (Nat.le_refl _) (hI.rep _) ha2 c cs
  have := hp.2 _ _ h3
  subst this
  have hbel : Go.RowKit.Below w.heap.size w w' := ⟨h2.rest.1, h2.rest.2.1, h2.rest.2.2, h2.size, fun k hk => by
    have hk' : w.heap[k]? = some w.heap[k] := Array.getElem?_eq_getElem hk
    rw [hk']
    exact h1.kept k _ hk'⟩
  obtain ⟨hR', hE'⟩ := hR.below hbel
  exact ⟨ρ, v', w', hR'.less' hless, hE', hp.1 ρ, h4⟩
end Go.AE
