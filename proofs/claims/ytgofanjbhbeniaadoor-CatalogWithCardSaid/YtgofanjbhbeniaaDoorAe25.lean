/- The evaluator with summaries: a call of which a summary speaks is made by the summary. A summary is lawful where the evaluator without any says the same. No program is named here. -/
import Derived.Test.YtgofanjbhbeniaaDoorAe24
noncomputable section
namespace Go.AE
set_option linter.unusedVariables false
set_option linter.unusedSimpArgs false

/-- for a call: what it does, told shortly -/
abbrev Sums := FuncId → Option (List Value → AM Value)
def outV (r : Option (Value × S)) : Option (Out × S) := match r with
  | none => none
  | some (v, s) => some (.val v, s)
def evNextS (σ : Sums) (rc : Rec) (E : Env) (n : ANext) (s : S) : Option (Out × S) := match n with
  | .enter f args => match σ f with
    | none => evNext rc E (.enter f args) s
    | some am => outV ((am args).run s)
  | .round l fn t n a b => evNext rc E (.round l fn t n a b) s
  | _ => none
def evS (E : Env) (σ : Sums) : Nat → Task → S → Option (Out × S)
  | 0, _, _ => none
  | fuel + 1, t, s => match t with
    | .code c fr => evCode (evS E σ fuel) E c fr s
    | .next n => evNextS σ (evS E σ fuel) E n s
    | .leave fr => evLeave (evS E σ fuel) E fr s

def SumsOK (E : Env) (σ : Sums) : Prop := ∀ f am, σ f = some am → ∀ args s v s', (am args).run s = some (v, s') → ∃ F, ev E F (.next (.enter f args)) s = some (.val v, s')

theorem loc_outV (am : AM Value) : Loc (fun s => outV (am.run s)) := by
  refine Loc.congr ?_ (Loc.bind (Loc.am am) (fun v => Loc.pure (Out.val v)))
  intro s
  simp only [outV]
  cases am.run s with
  | none => rfl
  | some p => rfl
theorem loc_nextS {rc : Rec} {E : Env} (σ : Sums) (hrc : ∀ t, Loc (rc t)) (n : ANext) : Loc (evNextS σ rc E n) := by
  cases n with
  | enter f args =>
    unfold evNextS
    simp only
    cases σ f with
    | none => exact loc_next hrc _
    | some am => exact loc_outV (am args)
  | round l fn t n a b => exact (loc_next hrc (.round l fn t n a b) : Loc (evNext rc E (.round l fn t n a b)))
  | _ => exact Loc.none
theorem loc_evS (E : Env) (σ : Sums) : ∀ (f : Nat) (t : Task), Loc (evS E σ f t)
  | 0, t => Loc.none
  | f + 1, t => by
    cases t with
    | code c fr => exact loc_code (loc_evS E σ f) c fr
    | next n => exact loc_nextS σ (loc_evS E σ f) n
    | leave fr => exact loc_leave (loc_evS E σ f) fr

section
variable {P : Program} {E : Env} {rc : Rec} {σ : Sums}

theorem outV_inv {r : Option (Value × S)} {v : Value} {s : S} (h : outV r = some (.val v, s)) : r = some (v, s) := by
  unfold outV at h
  split at h
  · cases h
  · cases h; rfl

theorem fnS_sim (hE : EnvOK P E) (hmix : P.follows .mixedOrders = true) (hσ : SumsOK E σ) (hL : ∀ t, Loc (rc t)) (hC : CodeSim P rc) (hV : LeaveSim P rc) : EnterSim P (fun t s => match t with | .next n => evNextS σ rc E n s | t => none) := by
  intro q ρ f args args' s v s' w kind h hm hl hR ha cs
  simp only [evNextS] at h
  cases hf : σ f with
  | none =>
    rw [hf] at h
    exact fn_sim hE hL hC hV q ρ f args args' s v s' w kind h hm hl hR ha cs
  | some am =>
    rw [hf] at h
    obtain ⟨F, hF⟩ := hσ f am hf args s v s' (outV_inv h)
    exact (ev_sim hE hmix F).2.2.1 q ρ f args args' s v s' w kind hF hm hl hR ha cs

theorem nextS_sim (hE : EnvOK P E) (hmix : P.follows .mixedOrders = true) (hσ : SumsOK E σ) (hL : ∀ t, Loc (rc t)) (hC : CodeSim P rc) (hV : LeaveSim P rc) : NextSim P (fun t s => match t with | .next n => evNextS σ rc E n s | t => none) := by
  intro q ρ n n' s v s' w F h hm hl hR hnr hF c cs
  cases n with
  | enter f args =>
    simp only [evNextS] at h
    cases hf : σ f with
    | none =>
      rw [hf] at h
      exact next_sim hE hL hC hV q ρ _ _ s v s' w F h hm hl hR hnr hF c cs
    | some am =>
      rw [hf] at h
      obtain ⟨G, hG⟩ := hσ f am hf args s v s' (outV_inv h)
      exact (ev_sim hE hmix G).2.1 q ρ _ _ s v s' w F hG hm hl hR hnr hF c cs
  | round l fn t n a b =>
    have h' : evNext rc E (.round l fn t n a b) s = some (.val v, s') := h
    exact next_sim hE hL hC hV q ρ (.round l fn t n a b) n' s v s' w F h' hm hl hR hnr hF c cs
  | value v => cases h
  | defer d => cases h

/-- **what an evaluation with summaries says, the machine does** -/
theorem evS_sim (hE : EnvOK P E) (hmix : P.follows .mixedOrders = true) (hσ : SumsOK E σ) : ∀ f, CodeSim P (evS E σ f) ∧ NextSim P (evS E σ f) ∧ EnterSim P (evS E σ f) ∧ LeaveSim P (evS E σ f)
  | 0 => ⟨fun _ _ _ _ _ _ _ _ _ _ _ h => by simp [evS] at h, fun _ _ _ _ _ _ _ _ _ h => by simp [evS] at h, fun _ _ _ _ _ _ _ _ _ _ h => by simp [evS] at h, fun _ _ _ _ _ _ _ _ _ h => by simp [evS] at h⟩
  | f + 1 => by
    obtain ⟨hC, hN, hF, hV⟩ := evS_sim hE hmix hσ f
    have hL := loc_evS E σ f
    exact ⟨code_sim hE hmix hL hC hN, nextS_sim hE hmix hσ hL hC hV, fnS_sim hE hmix hσ hL hC hV, leave_sim hE hL hF hV⟩

/-- **a function that is evaluated to 'true', by summaries, is called and returns 'true'**, and leaves what was there as it was -/
theorem callsS_true (hP : lawful P = true) (hmix : P.follows .mixedOrders = true) (hσ : SumsOK (Env.of P) σ) {fuel f : Nat} (h : isTrue (evS (Env.of P) σ fuel (.next (.enter f [])) s0) = true) (w : World) :
    Calls P f #[] w fun e w' => e = .returned (.bool true) ∧ Go.RowKit.Below w.heap.size w w' := by
  intro cs
  cases hr : evS (Env.of P) σ fuel (.next (.enter f [])) s0 with
  | none => rw [hr] at h; cases h
  | some p =>
    obtain ⟨o, s'⟩ := p
    rw [hr] at h
    cases o with
    | fr x fr => cases h
    | val v =>
      have hv : v = .bool true := by
        simp only [isTrue] at h
        split at h
        · rename_i he; cases he; rfl
        · cases h
      subst hv
      have hR : Rep P ⟨fun _ => True, 0, s'.next, fun _ => none⟩ (fun _ => none) s0 w := by
        refine ⟨?_, ?_, Nat.le_refl _, fun _ _ _ => trivial, fun _ _ _ => rfl, ?_, (fun _ _ h => by cases h), (fun _ _ _ _ _ _ _ _ h => by cases h), (fun n o _ _ _ ho _ _ => by cases n <;> cases ho)⟩
        · intro n o ho; cases n <;> cases ho
        · intro n m o o' b base ex base' ex' _ ho; cases n <;> cases ho
        · intro n b base ex e; cases e
      obtain ⟨_, _, hF, _⟩ := evS_sim (env_ok hP) hmix hσ fuel
      obtain ⟨ρ', v', w', fr', h1, h2, h3, h4, h5, h6, h7, h8, h9⟩ := hF _ _ f [] [] s0 _ s' w .normal hr (Nat.le_refl _) (Nat.le_refl _) hR .nil cs
      have hv := h3.bool_inv
      subst hv
      refine ⟨.returned (.bool true), w', fr', ⟨rfl, h2.rest.1, h2.rest.2.1, h2.rest.2.2, h2.size, fun k hk => h2.frame k hk (fun n base ex e => by cases e)⟩, h4, h5, h6, h7, h8, h9⟩
end
end Go.AE
