/- What is known may be forgotten: of a frame, and of memory. No program is named here. -/
import Derived.Test.YtgofanjbhbeniaaDoorAe35
noncomputable section
namespace Go.AE
set_option linter.unusedVariables false
set_option linter.unusedSimpArgs false

section
variable {P : Program} {E : Env} {σ : Sums} {q : Free}

/-- less is known of the frame, and of memory -/
structure FrLess (fr2 fr : Fr) : Prop where
  fn : fr2.fn = fr.fn
  n : fr2.n = fr.n
  defers : fr2.defers = fr.defers
  round : fr2.round = fr.round
  get : ∀ k v, fr2.tmps.get k = some v → fr.tmps.get k = some v
theorem gow_less {c : Code} {fr fr2 : Fr} {s s2 : S} {Q : Ex → Fr → S → Prop} (h : GoW P q c fr2 s2 Q) (hs : Less' s s2) (hm2 : s2.mark ≤ s2.next) (hf : FrLess fr2 fr) : GoW P q c fr s Q := by
  intro ρ w a b hm hR hA hB k cs
  obtain ⟨x, fr', s', h1, h2, h3, h4, h5⟩ := h ρ w a b hm2 (hR.less' hs) ⟨⟨hA.1.1.trans hf.n.symm, fun i v hv => hA.1.2 i v (hf.get i v hv)⟩, by rw [hf.defers]; exact hA.2.1, by rw [hf.n]; exact hA.2.2⟩ (hB.of hf.fn hf.round) k cs
  exact ⟨x, fr', s', h1, h2, h3.trans hf.fn, h4.trans hf.round, h5⟩
/-- a frame of which so much is known -/
theorem frless {fn : FuncId} {t2 t : Tr Value} {n : Nat} {d : List Deferred} {r : Option Nat} (h : ∀ k v, t2.get k = some v → t.get k = some v) : FrLess ⟨fn, t2, n, d, r⟩ ⟨fn, t, n, d, r⟩ := ⟨rfl, rfl, rfl, rfl, h⟩
/-- a few entries of a trie -/
def trOf {α : Type} : List (Nat × α) → Tr α
  | [] => .nil
  | (k, v) :: l => (trOf l).put k (some v)
theorem trOf_get {α : Type} : ∀ (l : List (Nat × α)), (∀ x ∈ l, x.1 < Tr.wide) → ∀ k v, (trOf l).get k = some v → (k, v) ∈ l
  | [], _, k, v, h => by cases k <;> cases h
  | (k0, v0) :: l, hw, k, v, h => by
    have h1 : ((trOf l).put k0 (some v0)).get k = some v := h
    rw [Tr.get_put _ _ _ _ (hw (k0, v0) (by simp))] at h1
    split at h1
    · rename_i e
      cases h1
      subst e
      simp
    · exact List.mem_cons_of_mem _ (trOf_get l (fun x hx => hw x (by simp [hx])) k v h1)
theorem fr_keep {fn : FuncId} {t : Tr Value} {n : Nat} {d : List Deferred} {r : Option Nat} (l : List (Nat × Value)) (hw : ∀ x ∈ l, x.1 < Tr.wide) (h : ∀ x ∈ l, t.get x.1 = some x.2) : FrLess ⟨fn, trOf l, n, d, r⟩ ⟨fn, t, n, d, r⟩ :=
  frless fun k v hk => h (k, v) (trOf_get l hw k v hk)
theorem s_keep {s : S} (l : List (Nat × AObj)) (N mk : Nat) (hN : s.next ≤ N) (hw : ∀ x ∈ l, x.1 < Tr.wide) (h : ∀ x ∈ l, ∃ o, s.heap.get x.1 = some o ∧ Sub x.2 o) : Less' s ⟨trOf l, N, mk, 0, 0⟩ :=
  ⟨hN, fun k o hk => by
    obtain ⟨o1, h1, h2⟩ := h (k, o) (trOf_get l hw k o hk)
    exact ⟨o1, h1, h2⟩⟩

/-! steps along a map -/
theorem lastN_app : ∀ (l : List Nat) (b : Nat), lastN (l ++ [b]) = some b
  | [], b => rfl
  | [x], b => rfl
  | x :: y :: l, b => lastN_app (y :: l) b
theorem bornAt_mem : ∀ (es : List MapEntry) (e : MapEntry), e ∈ es → (es.map (·.born)).Nodup → bornAt e.born es = some e
  | [], e, h, _ => by cases h
  | x :: es, e, h, hn => by
    simp only [List.map_cons, List.nodup_cons] at hn
    simp only [bornAt]
    rcases List.mem_cons.1 h with rfl | h
    · rw [show Nat.beq e.born e.born = true from beq_iff.2 rfl]
    · cases hb : Nat.beq x.born e.born with
      | true =>
        exact absurd (beq_iff.1 hb) (fun hx => hn.1 (by rw [hx]; exact List.mem_map_of_mem h))
      | false => exact bornAt_mem es e h hn.2
theorem unseen_mem : ∀ {seen : List Nat} {es : List MapEntry} {e : MapEntry}, e ∈ unseen seen es → e ∈ es ∧ e.born ∉ seen
  | seen, [], e, h => by cases h
  | seen, x :: es, e, h => by
    simp only [unseen, memN_eq] at h
    cases hq : seen.contains x.born with
    | true =>
      rw [hq] at h
      obtain ⟨h1, h2⟩ := unseen_mem (seen := seen) (es := es) h
      exact ⟨List.mem_cons_of_mem _ h1, h2⟩
    | false =>
      rw [hq] at h
      rcases List.mem_cons.1 h with rfl | h
      · exact ⟨by simp, by simpa using hq⟩
      · obtain ⟨h1, h2⟩ := unseen_mem (seen := seen) (es := es) h
        exact ⟨List.mem_cons_of_mem _ h1, h2⟩
/-- one less is left -/
theorem unseen_step : ∀ {seen : List Nat} {es : List MapEntry} {e : MapEntry}, (es.map (·.born)).Nodup → e ∈ unseen seen es → ∃ a b, unseen seen es = a ++ e :: b ∧ unseen (seen ++ [e.born]) es = a ++ b
  | seen, [], e, hn, h => by cases h
  | seen, x :: es, e, hn, h => by
    have hn0 := hn
    simp only [List.map_cons, List.nodup_cons] at hn
    have same : ∀ l : List MapEntry, x.born ∉ l.map (·.born) → unseen (seen ++ [x.born]) l = unseen seen l := by
      intro l
      induction l with
      | nil => intro _; rfl
      | cons y l ih =>
        intro hy
        simp only [List.map_cons, List.mem_cons, not_or] at hy
        simp only [unseen, memN_eq, List.contains_append, ih hy.2]
        have : [x.born].contains y.born = false := by simp; exact fun h => hy.1 h.symm
        rw [this, Bool.or_false]
    simp only [unseen, memN_eq] at h ⊢
    cases hq : seen.contains x.born with
    | true =>
      rw [hq] at h
      obtain ⟨a, b, h1, h2⟩ := unseen_step hn.2 h
      refine ⟨a, b, h1, ?_⟩
      have : (seen ++ [e.born]).contains x.born = true := by simp only [List.contains_append, hq, Bool.true_or]
      rw [this]
      exact h2
    | false =>
      rw [hq] at h
      rcases List.mem_cons.1 h with rfl | h
      · refine ⟨[], unseen seen es, rfl, ?_⟩
        have : (seen ++ [e.born]).contains e.born = true := by simp
        rw [this]
        exact same es hn.1
      · obtain ⟨a, b, h1, h2⟩ := unseen_step hn.2 h
        obtain ⟨h3, _⟩ := unseen_mem h
        have hne : e.born ≠ x.born := fun hx => hn.1 (by rw [← hx]; exact List.mem_map_of_mem h3)
        have : (seen ++ [e.born]).contains x.born = false := by
          simp only [List.contains_append, hq, Bool.false_or]
          simp
          exact fun h => hne h.symm
        rw [this]
        exact ⟨x :: a, b, by rw [h1]; rfl, by rw [h2]; rfl⟩
end
end Go.AE
