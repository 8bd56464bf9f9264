/- A function's text, run with told answers, in memory of its own. No program is named here. -/
import Derived.Test.YtgofanjbhbeniaaDoorAe40
noncomputable section
namespace Go.AE
set_option linter.unusedVariables false
set_option linter.unusedSimpArgs false

/-- what a function's text comes to: its value, the memory behind it (its names below K), what was asked -/
def ownR (E : Env) (fi : FI) (K f : Nat) (r : Ro Out) : Option (Value × S × List (Bool × Bool)) := match r with
  | some (out, s, o) => match out with
    | .fr x fr => match x with
      | .exit _ => none
      | _ => match fr.defers with
        | [] => match Nat.beq fr.fn f with
          | true => match Nat.ble s.next K with
            | true => match (resultsM E fr fi).run s with
              | some (v, s') => some (v, s', o.asked)
              | none => none
            | false => none
          | false => none
        | _ => none
    | _ => none
  | none => none
theorem gow_own {P : Program} {E : Env} {γ : Gates} {σ : Sums} {q : Free} (hE : EnvOK P E) (hmix : P.follows .mixedOrders = true) (hσ : Tolds P (gated γ σ)) {n : Nat} {c : Code} {fr : Fr} {fi : FI} {sI s' : S} {v : Value} {told : List (Nat × Option Bool)} {qs : List (Bool × Bool)} {K f : Nat}
    (h : ownR E fi K f (evO E γ σ n (.code c fr) sI ⟨told, []⟩) = some (v, s', qs)) (hq : ∀ p ∈ qs, p.1 = p.2) (hK : K ≤ q.hi) {Q : Value → S → Prop} (hQ : Q v s') : GoW P q c fr sI (Ret E f fi Q) := by
  have hs := evO_says E γ σ n (.code c fr) sI ⟨told, []⟩
  generalize evO E γ σ n (.code c fr) sI ⟨told, []⟩ = r at *
  unfold ownR at h
  split at h
  · rename_i out s o
    split at h
    · rename_i x fr1
      have fin : ∀ x : Ex, (∀ i, x ≠ .exit i) → evT E (gated γ σ) n (.code c fr) sI = some (.fr x fr1, s) →
          (match fr1.defers with
            | [] => match Nat.beq fr1.fn f with
              | true => match Nat.ble s.next K with
                | true => match (resultsM E fr1 fi).run s with
                  | some (v, s') => some (v, s', o.asked)
                  | none => none
                | false => none
              | false => none
            | _ => none) = some (v, s', qs) → GoW P q c fr sI (Ret E f fi Q) := by
        intro x hx hr h
        split at h
        · rename_i hd
          split at h
          · rename_i hf
            split at h
            · rename_i hk
              split at h
              · rename_i v1 s1 hres
                cases h
                refine gow_piece hE hmix hσ hr (Nat.le_trans (ble_iff.1 hk) hK) ?_
                cases x with
                | exit i => exact absurd rfl (hx i)
                | normal => exact ⟨beq_iff.1 hf, hd, _, _, hres, hQ⟩
                | ret => exact ⟨beq_iff.1 hf, hd, _, _, hres, hQ⟩
              · cases h
            · cases h
          · cases h
        · cases h
      have hask : qs = o.asked := by
        cases x with
        | exit i => cases h
        | normal =>
          dsimp only at h
          split at h
          · split at h
            · split at h
              · split at h
                · cases h; rfl
                · cases h
              · cases h
            · cases h
          · cases h
        | ret =>
          dsimp only at h
          split at h
          · split at h
            · split at h
              · split at h
                · cases h; rfl
                · cases h
              · cases h
            · cases h
          · cases h
      subst hask
      have hr := (hs _ _ _ rfl).2 hq
      cases x with
      | exit i => cases h
      | normal => exact fin .normal (fun i h => by cases h) hr h
      | ret => exact fin .ret (fun i h => by cases h) hr h
    · cases h
  · cases h
end Go.AE
