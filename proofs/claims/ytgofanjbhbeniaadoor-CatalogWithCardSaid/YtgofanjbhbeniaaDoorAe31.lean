/- Rules for a walk over the named memory: what holds of all great enough fuels. No program is named here. -/
import Derived.Test.YtgofanjbhbeniaaDoorAe30
noncomputable section
namespace Go.AE
set_option linter.unusedVariables false
set_option linter.unusedSimpArgs false

section
variable {E : Env} {σ : Sums}

/-- a piece of code comes to an end that is Q's -/
def GoC (E : Env) (σ : Sums) (c : Code) (fr : Fr) (s : S) (Q : Ex → Fr → S → Prop) : Prop :=
  ∃ x fr' s', Q x fr' s' ∧ ∃ n0, ∀ n, n0 ≤ n → evT E σ n (.code c fr) s = some (.fr x fr', s')
/-- so does a call -/
def GoN (E : Env) (σ : Sums) (f : FuncId) (args : List Value) (s : S) (Q : Value → S → Prop) : Prop :=
  ∃ v s', Q v s' ∧ ∃ n0, ∀ n, n0 ≤ n → evT E σ n (.next (.enter f args)) s = some (.val v, s')

theorem GoC.mono {c : Code} {fr : Fr} {s : S} {Q Q' : Ex → Fr → S → Prop} (h : GoC E σ c fr s Q) (hq : ∀ x fr s, Q x fr s → Q' x fr s) : GoC E σ c fr s Q' := by
  obtain ⟨x, fr', s', h1, h2⟩ := h
  exact ⟨x, fr', s', hq _ _ _ h1, h2⟩
theorem GoN.mono {f : FuncId} {args : List Value} {s : S} {Q Q' : Value → S → Prop} (h : GoN E σ f args s Q) (hq : ∀ v s, Q v s → Q' v s) : GoN E σ f args s Q' := by
  obtain ⟨v, s', h1, h2⟩ := h
  exact ⟨v, s', hq _ _ h1, h2⟩

/-- behind the first of two -/
def Then (E : Env) (σ : Sums) (b : Code) (Q : Ex → Fr → S → Prop) : Ex → Fr → S → Prop
  | .normal, fr, s => GoC E σ b fr s Q
  | x, fr, s => Q x fr s
theorem go_seq {a b : Code} {fr : Fr} {s : S} {Q : Ex → Fr → S → Prop} (h : GoC E σ a fr s (Then E σ b Q)) : GoC E σ (.seq a b) fr s Q := by
  obtain ⟨x, fr1, s1, hq, n0, h0⟩ := h
  cases x with
  | normal =>
    obtain ⟨y, fr2, s2, hq2, n1, h1⟩ := hq
    refine ⟨y, fr2, s2, hq2, max n0 n1 + 1, fun n hn => ?_⟩
    obtain ⟨m, rfl⟩ : ∃ m, n = m + 1 := ⟨n - 1, by omega⟩
    simp only [evT, evCode, h0 m (by omega), h1 m (by omega)]
  | exit id =>
    refine ⟨.exit id, fr1, s1, hq, n0 + 1, fun n hn => ?_⟩
    obtain ⟨m, rfl⟩ : ∃ m, n = m + 1 := ⟨n - 1, by omega⟩
    simp only [evT, evCode, h0 m (by omega)]
  | ret =>
    refine ⟨.ret, fr1, s1, hq, n0 + 1, fun n hn => ?_⟩
    obtain ⟨m, rfl⟩ : ∃ m, n = m + 1 := ⟨n - 1, by omega⟩
    simp only [evT, evCode, h0 m (by omega)]
theorem go_skip {fr : Fr} {s : S} {Q : Ex → Fr → S → Prop} (h : Q .normal fr s) : GoC E σ .skip fr s Q := by
  refine ⟨_, _, _, h, 1, fun n hn => ?_⟩
  obtain ⟨m, rfl⟩ : ∃ m, n = m + 1 := ⟨n - 1, by omega⟩
  rfl
theorem go_label {l : Nat} {fr : Fr} {s : S} {Q : Ex → Fr → S → Prop} (h : Q .normal fr s) : GoC E σ (.label l) fr s Q := by
  refine ⟨_, _, _, h, 1, fun n hn => ?_⟩
  obtain ⟨m, rfl⟩ : ∃ m, n = m + 1 := ⟨n - 1, by omega⟩
  rfl
theorem go_exit {id : Nat} {fr : Fr} {s : S} {Q : Ex → Fr → S → Prop} (h : Q (.exit id) fr s) : GoC E σ (.exit id) fr s Q := by
  refine ⟨_, _, _, h, 1, fun n hn => ?_⟩
  obtain ⟨m, rfl⟩ : ∃ m, n = m + 1 := ⟨n - 1, by omega⟩
  rfl
theorem go_ret {fr : Fr} {s : S} {Q : Ex → Fr → S → Prop} (h : Q .ret fr s) : GoC E σ .ret fr s Q := by
  refine ⟨_, _, _, h, 1, fun n hn => ?_⟩
  obtain ⟨m, rfl⟩ : ∃ m, n = m + 1 := ⟨n - 1, by omega⟩
  rfl
theorem go_cond {c : Operand} {a b : Code} {fr : Fr} {s : S} {Q : Ex → Fr → S → Prop} {t : Bool} (hc : fr.ev c = some (.bool t)) (h1 : t = true → GoC E σ a fr s Q) (h2 : t = false → GoC E σ b fr s Q) : GoC E σ (.cond c a b) fr s Q := by
  cases t with
  | true =>
    obtain ⟨x, fr1, s1, hq, n0, h0⟩ := h1 rfl
    refine ⟨x, fr1, s1, hq, n0 + 1, fun n hn => ?_⟩
    obtain ⟨m, rfl⟩ : ∃ m, n = m + 1 := ⟨n - 1, by omega⟩
    simp only [evT, evCode, hc, h0 m (by omega)]
  | false =>
    obtain ⟨x, fr1, s1, hq, n0, h0⟩ := h2 rfl
    refine ⟨x, fr1, s1, hq, n0 + 1, fun n hn => ?_⟩
    obtain ⟨m, rfl⟩ : ∃ m, n = m + 1 := ⟨n - 1, by omega⟩
    simp only [evT, evCode, hc, h0 m (by omega)]
/-- out of a block -/
def Out_ (id : Nat) (Q : Ex → Fr → S → Prop) : Ex → Fr → S → Prop
  | .exit i, fr, s => if i = id then Q .normal fr s else Q (.exit i) fr s
  | x, fr, s => Q x fr s
theorem go_block {id : Nat} {a : Code} {fr : Fr} {s : S} {Q : Ex → Fr → S → Prop} (h : GoC E σ a fr s (Out_ id Q)) : GoC E σ (.block id a) fr s Q := by
  obtain ⟨x, fr1, s1, hq, n0, h0⟩ := h
  cases x with
  | normal =>
    refine ⟨.normal, fr1, s1, hq, n0 + 1, fun n hn => ?_⟩
    obtain ⟨m, rfl⟩ : ∃ m, n = m + 1 := ⟨n - 1, by omega⟩
    simp only [evT, evCode, h0 m (by omega)]
  | ret =>
    refine ⟨.ret, fr1, s1, hq, n0 + 1, fun n hn => ?_⟩
    obtain ⟨m, rfl⟩ : ∃ m, n = m + 1 := ⟨n - 1, by omega⟩
    simp only [evT, evCode, h0 m (by omega)]
  | exit i =>
    by_cases e : i = id
    · simp only [Out_, e, if_true] at hq
      refine ⟨.normal, fr1, s1, hq, n0 + 1, fun n hn => ?_⟩
      obtain ⟨m, rfl⟩ : ∃ m, n = m + 1 := ⟨n - 1, by omega⟩
      subst e
      have hb : Nat.beq i i = true := beq_iff.2 rfl
      simp only [evT, evCode, h0 m (by omega), hb]
    · simp only [Out_, e, if_false] at hq
      refine ⟨.exit i, fr1, s1, hq, n0 + 1, fun n hn => ?_⟩
      obtain ⟨m, rfl⟩ : ∃ m, n = m + 1 := ⟨n - 1, by omega⟩
      have hb : Nat.beq i id = false := by
        cases hh : Nat.beq i id with
        | false => rfl
        | true => exact absurd (beq_iff.1 hh) e
      simp only [evT, evCode, h0 m (by omega), hb]
/-- a round of a loop -/
theorem go_loop {body : Code} {fr : Fr} {s : S} {Q : Ex → Fr → S → Prop} (h : GoC E σ body fr s (Then E σ (.loop body) Q)) : GoC E σ (.loop body) fr s Q := by
  obtain ⟨x, fr1, s1, hq, n0, h0⟩ := h
  cases x with
  | normal =>
    obtain ⟨y, fr2, s2, hq2, n1, h1⟩ := hq
    refine ⟨y, fr2, s2, hq2, max n0 n1 + 1, fun n hn => ?_⟩
    obtain ⟨m, rfl⟩ : ∃ m, n = m + 1 := ⟨n - 1, by omega⟩
    simp only [evT, evCode, h0 m (by omega), h1 m (by omega)]
  | exit id =>
    refine ⟨.exit id, fr1, s1, hq, n0 + 1, fun n hn => ?_⟩
    obtain ⟨m, rfl⟩ : ∃ m, n = m + 1 := ⟨n - 1, by omega⟩
    simp only [evT, evCode, h0 m (by omega)]
  | ret =>
    refine ⟨.ret, fr1, s1, hq, n0 + 1, fun n hn => ?_⟩
    obtain ⟨m, rfl⟩ : ∃ m, n = m + 1 := ⟨n - 1, by omega⟩
    simp only [evT, evCode, h0 m (by omega)]
/-- a loop by an invariant that counts down -/
def Again (I : Nat → Fr → S → Prop) (k : Nat) (Q : Ex → Fr → S → Prop) : Ex → Fr → S → Prop
  | .normal, fr, s => ∃ k', k' < k ∧ I k' fr s
  | x, fr, s => Q x fr s
theorem go_loop_inv {body : Code} {Q : Ex → Fr → S → Prop} (I : Nat → Fr → S → Prop) (h : ∀ k fr s, I k fr s → GoC E σ body fr s (Again I k Q)) : ∀ k fr s, I k fr s → GoC E σ (.loop body) fr s Q := by
  intro k
  induction k using Nat.strongRecOn with
  | _ k ih =>
    intro fr s hI
    refine go_loop ((h k fr s hI).mono ?_)
    intro x fr s hx
    cases x with
    | normal => obtain ⟨k', hk, hI'⟩ := hx; exact ih k' hk fr s hI'
    | _ => exact hx
/-- a region whose order isn't drawn -/
theorem go_region {id : Nat} {ops : Array Oper} {fr fr' : Fr} {s s' : S} {Q : Ex → Fr → S → Prop} (h : ∀ m, opsLoop (evT E σ (m + 1)) E ops.toList ops.toList fr s = some (fr', s')) (hq : Q .normal fr' s') : GoC E σ (.region id ops false) fr s Q := by
  refine ⟨_, _, _, hq, 2, fun n hn => ?_⟩
  obtain ⟨m, rfl⟩ : ∃ m, n = m + 1 + 1 := ⟨n - 2, by omega⟩
  show outFr (opsLoop (evT E σ (m + 1)) E ops.toList ops.toList fr s) = _
  rw [h m]
  rfl
/-- a region whose order is drawn -/
theorem go_drawn {id : Nat} {ops : Array Oper} {bef : List Nat} {fr fr' : Fr} {s s' : S} {Q : Ex → Fr → S → Prop} (hs : stat ops.toList = some bef)
    (h : ∀ m, drawnLoop (evT E σ (m + 1)) E ops.toList s.mark ops.toList bef 0 [] s.rd s.wr fr s = some (fr', s')) (hq : Q .normal fr' s') : GoC E σ (.region id ops true) fr s Q := by
  refine ⟨_, _, _, hq, 2, fun n hn => ?_⟩
  obtain ⟨m, rfl⟩ : ∃ m, n = m + 1 + 1 := ⟨n - 2, by omega⟩
  show evRegion (evT E σ (m + 1)) E ops.toList true fr s = _
  unfold evRegion
  simp only [hs, h m]
  rfl
/-- a call that is told -/
theorem evT_told {m : Nat} {f : FuncId} {am : List Value → AM Value} {args : List Value} {s : S} (hf : σ f = some am) : evT E σ (m + 1) (.next (.enter f args)) s = outV ((am args).run s) := by
  simp only [evT, evNextS, hf]

/-- what a function's end must be -/
def Ret (E : Env) (f : FuncId) (fi : FI) (Q : Value → S → Prop) : Ex → Fr → S → Prop
  | .exit _, _, _ => False
  | _, fr, s => fr.fn = f ∧ fr.defers = [] ∧ ∃ v s', (resultsM E fr fi).run s = some (v, s') ∧ Q v s'
/-- a function's text, walked through -/
theorem go_enter {f : FuncId} {fi : FI} {c : Code} {args : List Value} {s : S} {Q : Value → S → Prop} (hf : E.fn.get f = some fi) (hb : fi.body = some c) (N : Nat) (hN : Nat.add args.length (Nat.sub fi.ntmps args.length) = N) (hN2 : Nat.ble N lastName = true)
    (h : GoC E σ c ⟨f, Tr.ofList args, N, [], none⟩ s (Ret E f fi Q)) : ∃ v s', Q v s' ∧ ∃ n0, ∀ n, n0 ≤ n → evNext (evT E σ n) E (.enter f args) s = some (.val v, s') := by
  obtain ⟨x, fr, s1, hq, n0, h0⟩ := h
  have hleave : ∀ (x : Ex), (x = .normal ∨ x = .ret) → Ret E f fi Q x fr s1 → (∀ n, n0 ≤ n → evT E σ n (.code c ⟨f, Tr.ofList args, N, [], none⟩) s = some (.fr x fr, s1)) →
      ∃ v s', Q v s' ∧ ∃ n0, ∀ n, n0 ≤ n → evNext (evT E σ n) E (.enter f args) s = some (.val v, s') := by
    intro x hx hr h0
    have hr' : fr.fn = f ∧ fr.defers = [] ∧ ∃ v s', (resultsM E fr fi).run s1 = some (v, s') ∧ Q v s' := by rcases hx with rfl | rfl <;> exact hr
    obtain ⟨e1, e2, v, s', e3, e4⟩ := hr'
    refine ⟨v, s', e4, n0 + 1, fun n hn => ?_⟩
    have hl : evT E σ n (.leave fr) s1 = some (.val v, s') := by
      obtain ⟨m, rfl⟩ : ∃ m, n = m + 1 := ⟨n - 1, by omega⟩
      simp only [evT, evLeave, e2, e1, hf, e3]
    simp only [evNext, hf, hb, evEnter, hN, hN2, h0 n (by omega)]
    rcases hx with rfl | rfl <;> exact hl
  cases x with
  | exit id => exact hq.elim
  | normal => exact hleave _ (.inl rfl) hq h0
  | ret => exact hleave _ (.inr rfl) hq h0
end

/-! told calls, of walks -/
/-- the cells of which one knows are as another knows them -/
inductive Sub : AObj → AObj → Prop
  | refl (o : AObj) : Sub o o
  | cells {c c1 : Tr Value} {n : Nat} {e : TypeId} {r : Room} : (∀ i v, c.get i = some v → i < n → c1.get i = some v) → Sub (.cells c n e r) (.cells c1 n e r)
theorem Sub.or {P : Program} {ρ : Ren} {base ex : Nat} {o o1 : AObj} {obj : Obj} (h : Sub o o1) (hr : OR P ρ base ex o1 obj) : OR P ρ base ex o obj := by
  cases h with
  | refl => exact hr
  | cells hc =>
    cases hr with
    | cells a b c => exact .cells a b fun i v e hi => c i v (hc i v e hi) hi
theorem Sub.isRead {o o1 : AObj} (h : Sub o o1) : o.isRead = o1.isRead := by cases h <;> rfl
theorem Sub.lo {o o1 : AObj} (h : Sub o o1) (base : Nat) : o.lo base = o1.lo base := by cases h <;> rfl
theorem Sub.hi {P : Program} {o o1 : AObj} (h : Sub o o1) (base ex : Nat) : o.hi P base ex = o1.hi P base ex := by
  cases h with
  | refl => rfl
  | cells _ => rename_i r _; cases r <;> rfl
structure Less' (s1 s : S) : Prop where
  next : s1.next ≤ s.next
  get : ∀ n o, s.heap.get n = some o → ∃ o1, s1.heap.get n = some o1 ∧ Sub o o1
theorem Less'.refl (s : S) : Less' s s := ⟨Nat.le_refl _, fun _ o h => ⟨o, h, .refl o⟩⟩
theorem Rep.less' {P : Program} {q : Free} {ρ : Ren} {s1 s : S} {w : World} (h : Rep P q ρ s1 w) (hl : Less' s1 s) : Rep P q ρ s w where
  live n o e := by
    obtain ⟨o1, e1, hs⟩ := hl.get n o e
    obtain ⟨b, base, ex, obj, h1, h2, h3⟩ := h.live n o1 e1
    exact ⟨b, base, ex, obj, h1, h2, hs.or h3⟩
  apart n m o o' b base ex base' ex' hne e e' r1 r2 i h1 h2 h3 h4 := by
    obtain ⟨o1, e1, hs⟩ := hl.get n o e
    obtain ⟨o2, e2, hs'⟩ := hl.get m o' e'
    exact h.apart n m o1 o2 b base ex base' ex' hne e1 e2 r1 r2 i (by rw [← hs.lo]; exact h1) (by rw [← hs.hi]; exact h2) (by rw [← hs'.lo]; exact h3) (by rw [← hs'.hi]; exact h4)
  from_ := Nat.le_trans h.from_ hl.next
  room n a b := h.room n (Nat.le_trans hl.next a) b
  fresh n a b := h.fresh n a (b.elim .inl (fun b => .inr (Nat.le_trans hl.next b)))
  blk n b base ex e := h.blk n b base ex e
  kept := h.kept
  safe n o b base ex o' e r k := by
    obtain ⟨o1, e1, hs⟩ := hl.get n o e
    rw [hs.isRead]
    exact h.safe n o1 b base ex o' e1 r k
  rows n o b base ex e r k := by
    obtain ⟨o1, e1, hs⟩ := hl.get n o e
    exact h.rows n o1 b base ex e1 r (by rw [← hs.isRead]; exact k)
/-- a walk through the text tells the call -/
theorem told_go {P : Program} {E : Env} {σ : Sums} (hE : EnvOK P E) (hmix : P.follows .mixedOrders = true) (hσ : Tolds P σ) {f : FuncId} {am : List Value → AM Value}
    (h : ∀ args s v s', (am args).run s = some (v, s') → s.mark ≤ s.next → ∃ v1 s1, (v1 = v ∧ Less' s1 s') ∧ ∃ n0, ∀ n, n0 ≤ n → evNext (evT E σ n) E (.enter f args) s = some (.val v1, s1)) : Told P f am := by
  intro q ρ args args' s v s' w hrun hm hl hR ha c cs
  obtain ⟨v1, s1, ⟨rfl, hless⟩, n0, h0⟩ := h args s v s' hrun hm
  obtain ⟨ρ', v', w', fr', h1, h2, h3, h4, h5, h6, h7, h8, fn, h9, h10⟩ := (enterT hE hmix hσ (n := n0)) q ρ f args args' s v1 s1 w .normal (h0 n0 (Nat.le_refl _)) hm (Nat.le_trans hless.next hl) hR ha (c :: cs)
  exact ⟨ρ', v', w', h1.less' hless, h2, h3, Steps.trans h4 (.one (step_leave_returned ⟨h6, h7, h8, fn, h9, h10⟩))⟩
/-- some names are taken, and let go -/
def bump {α : Type} : Nat → AM α → AM α
  | 0, k => k
  | n + 1, k => .new (.deferred none) fun r => .del r (bump n k)
/-- a list of summaries -/
def sumsOf : List (Nat × (List Value → AM Value)) → Sums
  | [], _ => none
  | (g, am) :: l, f => match Nat.beq f g with
    | true => some am
    | false => sumsOf l f
theorem tolds_nil {P : Program} : Tolds P (sumsOf []) := fun f am h => by cases h
theorem tolds_cons {P : Program} {g : Nat} {am : List Value → AM Value} {l : List (Nat × (List Value → AM Value))} (h : Told P g am) (hl : Tolds P (sumsOf l)) : Tolds P (sumsOf ((g, am) :: l)) := by
  intro f a hf
  unfold sumsOf at hf
  split at hf
  · rename_i hb
    cases hf
    have := beq_iff.1 hb
    subst this
    exact h
  · exact hl f a hf
end Go.AE
