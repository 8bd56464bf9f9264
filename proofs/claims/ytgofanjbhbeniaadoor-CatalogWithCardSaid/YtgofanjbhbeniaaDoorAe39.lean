/- Calls on plain values, told by one evaluation in empty memory. No program is named here. -/
import Derived.Test.YtgofanjbhbeniaaDoorAe38
noncomputable section
namespace Go.AE
set_option linter.unusedVariables false
set_option linter.unusedSimpArgs false

/-- what a call on plain values comes to in empty memory -/
def evV (E : Env) (σ : Sums) (n f : Nat) (args : List Value) : Option Value := match evNext (evT E σ n) E (.enter f args) s0 with
  | some (.val v, _) => some v
  | _ => none
def noRen : Ren := fun _ => none
theorem inputs_none {P : Program} (w : World) : Inputs P noRen s0 w :=
  ⟨fun n o h => (by cases n <;> cases h), fun n x h => (by cases h), fun n b base ex h => (by cases h)⟩
theorem plain_args : ∀ {args args' : List Value} {ρ : Ren}, (∀ v ∈ args, Plain v) → LR ρ args args' → args' = args ∧ LR noRen args args'
  | [], _, _, _, h => by cases h; exact ⟨rfl, .nil⟩
  | a :: l, _, ρ, hp, h => by
    cases h with
    | cons h1 h2 =>
      have := (hp a (by simp)).2 _ _ h1
      subst this
      obtain ⟨e, h3⟩ := plain_args (fun v hv => hp v (by simp [hv])) h2
      subst e
      exact ⟨rfl, .cons ((hp _ (by simp)).1 noRen) h3⟩
/-- **a call on plain values, told by one evaluation** -/
theorem told_pure {P : Program} {E : Env} (hE : EnvOK P E) (hmix : P.follows .mixedOrders = true) {σ : Sums} (hσ : Tolds P σ) {f : FuncId} {am : List Value → AM Value}
    (h : ∀ args s v s', (am args).run s = some (v, s') → Plain v ∧ Less' s s' ∧ (∀ a ∈ args, Plain a) ∧ ∃ n, evV E σ n f args = some v) : Told P f am := by
  intro q ρ args args' s v s' w hrun hm hl hR ha c cs
  obtain ⟨hp, hless, hpa, n, he⟩ := h args s v s' hrun
  obtain ⟨rfl, ha2⟩ := plain_args hpa ha
  unfold evV at he
  split at he
  · rename_i v1 s1 h1
    simp only [Option.some.injEq] at he
    subst he
    obtain ⟨ρ', v', w', fr', g1, g2, g3, g4, g5, g6, g7, g8, fn, g9, g10⟩ := (enterT hE hmix hσ (n := n)) (ownQ w s1.next) noRen f args' args' s0 v1 s1 w .normal h1 (Nat.le_refl _) (Nat.le_refl _) ((inputs_none w).rep _) ha2 (c :: cs)
    have := hp.2 _ _ g3
    subst this
    have hbel : Go.RowKit.Below w.heap.size w w' := ⟨g2.rest.1, g2.rest.2.1, g2.rest.2.2, g2.size, fun k hk => by
      have hk' : w.heap[k]? = some w.heap[k] := Array.getElem?_eq_getElem hk
      rw [hk']
      exact g1.kept k _ hk'⟩
    obtain ⟨hR', hE'⟩ := hR.below hbel
    exact ⟨ρ, v', w', hR'.less' hless, hE', hp.1 ρ, Steps.trans g4 (.one (step_leave_returned ⟨g6, g7, g8, fn, g9, g10⟩))⟩
  · cases he
end Go.AE
