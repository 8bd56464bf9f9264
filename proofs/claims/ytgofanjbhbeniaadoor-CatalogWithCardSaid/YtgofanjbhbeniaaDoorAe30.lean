/- Calls that are told of the machine itself: a summary is lawful if the machine bears it out. And a statement's own call, with arguments that hold no addresses. No program is named here. -/
import Derived.Test.YtgofanjbhbeniaaDoorAe29
noncomputable section
namespace Go.AE
set_option linter.unusedVariables false
set_option linter.unusedSimpArgs false

/-- what the machine does at a call is what am says -/
def Told (P : Program) (f : FuncId) (am : List Value → AM Value) : Prop :=
  ∀ (q : Free) (ρ : Ren) (args args' : List Value) (s : S) (v : Value) (s' : S) (w : World), (am args).run s = some (v, s') → s.mark ≤ s.next → s'.next ≤ q.hi → Rep P q ρ s w → LR ρ args args' →
    ∀ c cs, ∃ ρ' v' w', Rep P q ρ' s' w' ∧ Evo ρ w ρ' w' ∧ VR ρ' v v' ∧ Steps P (lone (Frame.enter P f ⟨args'⟩ .normal) (c :: cs) w) (lone (c.finish v') cs w')
def Tolds (P : Program) (σ : Sums) : Prop := ∀ f am, σ f = some am → Told P f am

/-- a call that was deferred is made by the text -/
def plain (E : Env) (rc : Rec) : Rec := fun t s => match t with
  | .next (.enter f args) => evNext rc E (.enter f args) s
  | t => rc t s
def evT (E : Env) (σ : Sums) : Nat → Task → S → Option (Out × S)
  | 0, _, _ => none
  | n + 1, t, s => match t with
    | .code c fr => evCode (evT E σ n) E c fr s
    | .next x => evNextS σ (evT E σ n) E x s
    | .leave fr => evLeave (plain E (evT E σ n)) E fr s

theorem loc_plain {E : Env} {rc : Rec} (hrc : ∀ t, Loc (rc t)) : ∀ t, Loc (plain E rc t) := by
  intro t
  cases t with
  | next n =>
    cases n with
    | enter f args => exact loc_next hrc (.enter f args)
    | _ => exact hrc _
  | _ => exact hrc _
theorem loc_evT (E : Env) (σ : Sums) : ∀ (n : Nat) (t : Task), Loc (evT E σ n t)
  | 0, t => Loc.none
  | n + 1, t => by
    cases t with
    | code c fr => exact loc_code (loc_evT E σ n) c fr
    | next x => exact loc_nextS σ (loc_evT E σ n) x
    | leave fr => exact loc_leave (loc_plain (loc_evT E σ n)) fr

section
variable {P : Program} {E : Env} {rc : Rec} {σ : Sums}

theorem nextT_sim (hE : EnvOK P E) (hσ : Tolds P σ) (hL : ∀ t, Loc (rc t)) (hC : CodeSim P rc) (hV : LeaveSim P rc) : NextSim P (fun t s => match t with | .next n => evNextS σ rc E n s | t => none) := by
  intro q ρ n n' s v s' w F h hm hl hR hnr hF c cs
  cases n with
  | enter f args =>
    simp only [evNextS] at h
    cases hf : σ f with
    | none =>
      rw [hf] at h
      exact next_sim hE hL hC hV q ρ _ _ s v s' w F h hm hl hR hnr hF c cs
    | some am =>
      rw [hf] at h
      cases hnr with
      | enter ha =>
        cases hF
        exact hσ f am hf q ρ args _ s v s' w (outV_inv h) hm hl hR ha c cs
  | round l fn t n a b =>
    have h' : evNext rc E (.round l fn t n a b) s = some (.val v, s') := h
    exact next_sim hE hL hC hV q ρ (.round l fn t n a b) n' s v s' w F h' hm hl hR hnr hF c cs
  | value v => cases h
  | defer d => cases h

/-- **what an evaluation with told calls says, the machine does** -/
theorem evT_sim (hE : EnvOK P E) (hmix : P.follows .mixedOrders = true) (hσ : Tolds P σ) : ∀ n, CodeSim P (evT E σ n) ∧ NextSim P (evT E σ n) ∧ LeaveSim P (evT E σ n)
  | 0 => ⟨fun _ _ _ _ _ _ _ _ _ _ _ h => by simp [evT] at h, fun _ _ _ _ _ _ _ _ _ h => by simp [evT] at h, fun _ _ _ _ _ _ _ _ _ h => by simp [evT] at h⟩
  | n + 1 => by
    obtain ⟨hC, hN, hV⟩ := evT_sim hE hmix hσ n
    have hL := loc_evT E σ n
    have hF := fn_sim hE hL hC hV
    have hF' : EnterSim P (plain E (evT E σ n)) := fun q ρ f args args' s v s' w kind h => hF q ρ f args args' s v s' w kind h
    have hV' : LeaveSim P (plain E (evT E σ n)) := fun q ρ fr s v s' w a b h => hV q ρ fr s v s' w a b h
    exact ⟨code_sim hE hmix hL hC hN, nextT_sim hE hσ hL hC hV, leave_sim hE (loc_plain hL) hF' hV'⟩

/-- a function's own text, entered -/
theorem enterT (hE : EnvOK P E) (hmix : P.follows .mixedOrders = true) (hσ : Tolds P σ) {n : Nat} : EnterSim P (plain E (evT E σ n)) := by
  obtain ⟨hC, hN, hV⟩ := evT_sim hE hmix hσ n
  have hF := fn_sim hE (loc_evT E σ n) hC hV
  exact fun q ρ f args args' s v s' w kind h => hF q ρ f args args' s v s' w kind h

/-- less is known -/
structure Less (s1 s : S) : Prop where
  next : s1.next ≤ s.next
  get : ∀ n o, s.heap.get n = some o → s1.heap.get n = some o
theorem Less.refl (s : S) : Less s s := ⟨Nat.le_refl _, fun _ _ h => h⟩
theorem Rep.less {q : Free} {ρ : Ren} {s1 s : S} {w : World} (h : Rep P q ρ s1 w) (hl : Less s1 s) : Rep P q ρ s w where
  live n o e := h.live n o (hl.get n o e)
  apart n m o o' b base ex base' ex' hne e e' := h.apart n m o o' b base ex base' ex' hne (hl.get n o e) (hl.get m o' e')
  from_ := Nat.le_trans h.from_ hl.next
  room n a b := h.room n (Nat.le_trans hl.next a) b
  fresh n a b := h.fresh n a (b.elim .inl (fun b => .inr (Nat.le_trans hl.next b)))
  blk n b base ex e := h.blk n b base ex e
  kept := h.kept
  safe n o b base ex o' e := h.safe n o b base ex o' (hl.get n o e)
  rows n o b base ex e := h.rows n o b base ex (hl.get n o e)

/-- a walk through the text tells the call -/
theorem told_of_walk (hE : EnvOK P E) (hmix : P.follows .mixedOrders = true) (hσ : Tolds P σ) {f : FuncId} {am : List Value → AM Value}
    (h : ∀ args s v s', (am args).run s = some (v, s') → s.mark ≤ s.next → ∃ n s1, evNext (evT E σ n) E (.enter f args) s = some (.val v, s1) ∧ Less s1 s') : Told P f am := by
  intro q ρ args args' s v s' w hrun hm hl hR ha c cs
  obtain ⟨n, s1, hw, hless⟩ := h args s v s' hrun hm
  obtain ⟨ρ', v', w', fr', h1, h2, h3, h4, h5, h6, h7, h8, fn, h9, h10⟩ := (enterT hE hmix hσ (n := n)) q ρ f args args' s v s1 w .normal hw hm (Nat.le_trans hless.next hl) hR ha (c :: cs)
  exact ⟨ρ', v', w', h1.less hless, h2, h3, Steps.trans h4 (.one (step_leave_returned ⟨h6, h7, h8, fn, h9, h10⟩))⟩
/-- a summary that the evaluator bears out is told -/
theorem told_of_sum (hE : EnvOK P E) (hmix : P.follows .mixedOrders = true) {f : FuncId} {am : List Value → AM Value}
    (h : ∀ args s v s', (am args).run s = some (v, s') → ∃ F, ev E F (.next (.enter f args)) s = some (.val v, s')) : Told P f am := by
  intro q ρ args args' s v s' w hrun hm hl hR ha c cs
  obtain ⟨F, hF⟩ := h args s v s' hrun
  exact (ev_sim hE hmix F).2.1 q ρ _ _ s v s' w _ hF hm hl hR (.enter ha) rfl c cs

/-- a world that has grown, but turned nothing, is as good -/
theorem Rep.below {q : Free} {ρ : Ren} {s : S} {w w' : World} (h : Rep P q ρ s w) (hb : Go.RowKit.Below w.heap.size w w') : Rep P q ρ s w' ∧ Evo ρ w ρ w' := by
  refine ⟨⟨?_, h.apart, h.from_, h.room, h.fresh, fun n b base ex e => Nat.lt_of_lt_of_le (h.blk n b base ex e) hb.size, fun b o e => (hb.block b (Array.getElem?_eq_some_iff.1 (h.kept b o e)).1).trans (h.kept b o e), h.safe, h.rows⟩, Ren.le.refl ρ, fun b hb' _ => hb.block b hb', hb.size, fun n b base ex e _ => ⟨n, base, ex, e⟩, hb.os, hb.tape, hb.output⟩
  intro n o e
  obtain ⟨b, base, ex, obj, h1, h2, h3⟩ := h.live n o e
  exact ⟨b, base, ex, obj, h1, (hb.block b (h.blk n b base ex h1)).trans h2, h3⟩
/-- a call without arguments that returns the same whatever the world -/
def constA (v : Value) (args : List Value) : AM Value := match args with
  | [] => .pure v
  | _ => .fail
theorem told_of_calls {f : FuncId} {v : Value} (hv : flat v = true) (h : ∀ w, Calls P f #[] w fun e w' => e = .returned v ∧ Go.RowKit.Below w.heap.size w w') : Told P f (constA v) := by
  intro q ρ args args' s v1 s' w hrun hm hl hR ha c cs
  cases args with
  | cons a l => cases hrun
  | nil =>
    cases ha
    cases hrun
    obtain ⟨e, w', fr, ⟨rfl, hb⟩, hc, h5, hleave⟩ := h w (c :: cs)
    obtain ⟨hR', hE'⟩ := hR.below hb
    exact ⟨ρ, v, w', hR', hE', .flat hv, Steps.trans hc (.one (step_leave_returned hleave))⟩

/-- **a call whose arguments hold no addresses** -/
theorem callsT (hP : lawful P = true) (hmix : P.follows .mixedOrders = true) (hσ : Tolds P σ) {n f : Nat} {args args' : List Value} {v : Value} {s' : S} (h : evNext (evT (Env.of P) σ n) (Env.of P) (.enter f args) s0 = some (.val v, s'))
    (ha : LR (fun _ => none) args args') (w : World) :
    Calls P f ⟨args'⟩ w fun e w' => (∃ ρ' v', e = .returned v' ∧ VR ρ' v v' ∧ Rep P ⟨fun _ => True, 0, s'.next, fun _ => none⟩ ρ' s' w') ∧ Go.RowKit.Below w.heap.size w w' := by
  intro cs
  have hR : Rep P ⟨fun _ => True, 0, s'.next, fun _ => none⟩ (fun _ => none) s0 w := by
    refine ⟨?_, ?_, Nat.le_refl _, fun _ _ _ => trivial, fun _ _ _ => rfl, ?_, (fun _ _ h => by cases h), (fun _ _ _ _ _ _ _ _ h => by cases h), (fun n o _ _ _ ho _ _ => by cases n <;> cases ho)⟩
    · intro n o ho; cases n <;> cases ho
    · intro n m o o' b base ex base' ex' _ ho; cases n <;> cases ho
    · intro n b base ex e; cases e
  obtain ⟨ρ', v', w', fr', h1, h2, h3, h4, h5, h6, h7, h8, h9⟩ := (enterT (env_ok hP) hmix hσ (n := n)) _ _ f args args' s0 v s' w .normal h (Nat.le_refl _) (Nat.le_refl _) hR ha cs
  exact ⟨.returned v', w', fr', ⟨⟨ρ', v', rfl, h3, h1⟩, h2.rest.1, h2.rest.2.1, h2.rest.2.2, h2.size, fun k hk => h2.frame k hk (fun n base ex e => by cases e)⟩, h4, h5, h6, h7, h8, h9⟩
theorem callsT_true (hP : lawful P = true) (hmix : P.follows .mixedOrders = true) (hσ : Tolds P σ) {n f : Nat} {args args' : List Value} {s' : S} (h : evNext (evT (Env.of P) σ n) (Env.of P) (.enter f args) s0 = some (.val (.bool true), s'))
    (ha : LR (fun _ => none) args args') (w : World) :
    Calls P f ⟨args'⟩ w fun e w' => e = .returned (.bool true) ∧ Go.RowKit.Below w.heap.size w w' := by
  refine (callsT hP hmix hσ h ha w).mono ?_
  rintro e w' ⟨⟨ρ', v', rfl, hv, _⟩, hb⟩
  exact ⟨by rw [hv.bool_inv], hb⟩

/-! the quick form -/
def stepFT (E : Env) (σ : Sums) (rc : Rec) (t : Task) (s : S) : Option (Out × S) :=
  Task.rec (motive := fun _ => Option (Out × S)) (fun c fr => (codeB E c).un rc fr s) (fun n => evNextS σ rc E n s) (fun fr => evLeave (plain E rc) E fr s) t
def evFT (E : Env) (σ : Sums) (n : Nat) : Rec := Nat.rec (motive := fun _ => Rec) (fun _ _ => none) (fun _ ih => stepFT E σ ih) n
theorem evFT_eq (E : Env) (σ : Sums) : ∀ n, evFT E σ n = evT E σ n
  | 0 => by funext t s; rfl
  | n + 1 => by
    funext t s
    show stepFT E σ (evFT E σ n) t s = _
    rw [evFT_eq E σ n]
    cases t with
    | code c fr => exact codeB_eq _ E c fr s
    | next n => rfl
    | leave fr => rfl
/-- is it so that a call comes to 'true'? -/
def goesTrue (E : Env) (σ : Sums) (n : Nat) (f : Nat) (args : List Value) : Bool := isTrue (evNext (evFT E σ n) E (.enter f args) s0)
theorem goesTrue_calls (hP : lawful P = true) (hmix : P.follows .mixedOrders = true) (hσ : Tolds P σ) {n f : Nat} {args args' : List Value} (h : goesTrue (Env.of P) σ n f args = true) (ha : LR (fun _ => none) args args') (w : World) :
    Calls P f ⟨args'⟩ w fun e w' => e = .returned (.bool true) ∧ Go.RowKit.Below w.heap.size w w' := by
  unfold goesTrue at h
  rw [evFT_eq] at h
  cases hr : evNext (evT (Env.of P) σ n) (Env.of P) (.enter f args) s0 with
  | none => rw [hr] at h; cases h
  | some p =>
    obtain ⟨o, s'⟩ := p
    rw [hr] at h
    unfold isTrue at h
    split at h
    · rename_i he
      cases he
      exact callsT_true hP hmix hσ hr ha w
    · cases h
end
end Go.AE
