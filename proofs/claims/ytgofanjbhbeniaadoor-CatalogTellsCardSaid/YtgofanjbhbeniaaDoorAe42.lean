/- Calls that are walked where they are made; parts of regions with calls in them; ranges over functions, their bodies. No program is named here. -/
import Derived.Test.YtgofanjbhbeniaaDoorAe41
noncomputable section
namespace Go.AE
set_option linter.unusedVariables false
set_option linter.unusedSimpArgs false

section
variable {E : Env} {σ : Sums}

/-- a part of a region comes to an end that is Q's, whatever calls are in it -/
def GoP (E : Env) (σ : Sums) (all l : List Oper) (fr : Fr) (s : S) (Q : Fr → S → Prop) : Prop :=
  ∃ fr' s', Q fr' s' ∧ ∃ n0, ∀ n, n0 ≤ n → opsLoop (evT E σ n) E all l fr s = some (fr', s')
theorem gop_ops {id : Nat} {ops : Array Oper} {fr : Fr} {s : S} {Q : Ex → Fr → S → Prop} (h : GoP E σ ops.toList ops.toList fr s (fun fr s => Q .normal fr s)) : GoC E σ (.region id ops false) fr s Q := by
  obtain ⟨fr', s', hq, n0, h0⟩ := h
  refine ⟨_, fr', s', hq, n0 + 1, fun n hn => ?_⟩
  obtain ⟨m, rfl⟩ : ∃ m, n = m + 1 := ⟨n - 1, by omega⟩
  show outFr (opsLoop (evT E σ m) E ops.toList ops.toList fr s) = _
  rw [h0 m (by omega)]
  rfl
theorem ops_app {rc : Rec} {all : List Oper} : ∀ (a b : List Oper) (fr : Fr) (s : S), opsLoop rc E all (a ++ b) fr s = match opsLoop rc E all a fr s with | some (fr, s) => opsLoop rc E all b fr s | none => none
  | [], b, fr, s => rfl
  | o :: a, b, fr, s => by
    simp only [List.cons_append, opsLoop]
    cases evOper rc E false all o fr s with
    | none => rfl
    | some p => exact ops_app a b p.1 p.2
theorem gop_take {all l : List Oper} {fr fr1 : Fr} {s s1 : S} {Q : Fr → S → Prop} (n : Nat) (h : ∀ m, opsLoop (evT E σ (m + 1)) E all (l.take n) fr s = some (fr1, s1)) (hq : GoP E σ all (l.drop n) fr1 s1 Q) : GoP E σ all l fr s Q := by
  obtain ⟨fr', s', hq, n0, h2⟩ := hq
  refine ⟨fr', s', hq, n0 + 1, fun k hk => ?_⟩
  obtain ⟨m, rfl⟩ : ∃ m, k = m + 1 := ⟨k - 1, by omega⟩
  have e : l = l.take n ++ l.drop n := (List.take_append_drop n l).symm
  rw [e, ops_app, h m]
  exact h2 (m + 1) (by omega)
theorem gop_done {all : List Oper} {fr : Fr} {s : S} {Q : Fr → S → Prop} (h : Q fr s) : GoP E σ all [] fr s Q := ⟨fr, s, h, 0, fun _ _ => rfl⟩
/-- the first is a call -/
theorem gop_call {all rest : List Oper} {op : Oper} {fr : Fr} {s s1 : S} {f : FuncId} {args : List Value} {Q : Fr → S → Prop} (hw : wantedA all fr op = some true) (ha : (aop E fr op).run s = some (.enter f args, s1))
    (hc : GoN E σ f args s1 (fun v s' => ∃ fr', fr.put op.dst v = some fr' ∧ GoP E σ all rest fr' s' Q)) : GoP E σ all (op :: rest) fr s Q := by
  obtain ⟨v, s', ⟨fr', hp, fr2, s2, hq, n1, h1⟩, n0, h0⟩ := hc
  refine ⟨fr2, s2, hq, max n0 n1, fun n hn => ?_⟩
  simp only [opsLoop, evOper, hw, ha, h0 n (by omega), hp, onFr, h1 n (by omega)]
/-- what the text of a function comes to -/
theorem gon_enter {f : FuncId} {fi : FI} {c : Code} {args : List Value} {s : S} {Q : Value → S → Prop} (hs : σ f = none) (hf : E.fn.get f = some fi) (hb : fi.body = some c) (N : Nat) (hN : Nat.add args.length (Nat.sub fi.ntmps args.length) = N) (hN2 : Nat.ble N lastName = true)
    (h : GoC E σ c ⟨f, Tr.ofList args, N, [], none⟩ s (Ret E f fi Q)) : GoN E σ f args s Q := by
  obtain ⟨v, s', hq, n0, h0⟩ := go_enter hf hb N hN hN2 h
  refine ⟨v, s', hq, n0 + 1, fun n hn => ?_⟩
  obtain ⟨m, rfl⟩ : ∃ m, n = m + 1 := ⟨n - 1, by omega⟩
  show evNextS σ (evT E σ m) E (.enter f args) s = _
  simp only [evNextS, hs]
  exact h0 m (by omega)
theorem gon_told {f : FuncId} {am : List Value → AM Value} {args : List Value} {s s' : S} {v : Value} {Q : Value → S → Prop} (hs : σ f = some am) (hr : (am args).run s = some (v, s')) (hq : Q v s') : GoN E σ f args s Q := by
  refine ⟨v, s', hq, 1, fun n hn => ?_⟩
  obtain ⟨m, rfl⟩ : ∃ m, n = m + 1 := ⟨n - 1, by omega⟩
  rw [evT_told hs, hr]
  rfl

/-! regions whose order is drawn -/
def GoD (E : Env) (σ : Sums) (all : List Oper) (mk : Nat) (l : List Oper) (bef : List Nat) (i : Nat) (seen : List (Nat × Nat × Nat)) (rd wr : Nat) (fr : Fr) (s : S) (Q : Fr → S → Prop) : Prop :=
  ∃ fr' s', Q fr' s' ∧ ∃ n0, ∀ n, n0 ≤ n → drawnLoop (evT E σ n) E all mk l bef i seen rd wr fr s = some (fr', s')
theorem god_drawn {id : Nat} {ops : Array Oper} {bef : List Nat} {fr : Fr} {s : S} {Q : Ex → Fr → S → Prop} (hs : stat ops.toList = some bef)
    (h : GoD E σ ops.toList s.mark ops.toList bef 0 [] s.rd s.wr fr s (fun fr s => Q .normal fr s)) : GoC E σ (.region id ops true) fr s Q := by
  obtain ⟨fr', s', hq, n0, h0⟩ := h
  refine ⟨_, fr', s', hq, n0 + 1, fun n hn => ?_⟩
  obtain ⟨m, rfl⟩ : ∃ m, n = m + 1 := ⟨n - 1, by omega⟩
  show evRegion (evT E σ m) E ops.toList true fr s = _
  unfold evRegion
  simp only [hs, h0 m (by omega)]
  rfl
theorem god_done {all : List Oper} {mk : Nat} {bef : List Nat} {i : Nat} {seen : List (Nat × Nat × Nat)} {rd wr : Nat} {fr : Fr} {s : S} {Q : Fr → S → Prop} (h : Q fr ⟨s.heap, s.next, mk, rd, wr⟩) : GoD E σ all mk [] bef i seen rd wr fr s Q := ⟨fr, _, h, 0, fun _ _ => rfl⟩
theorem god_step {all rest : List Oper} {o : Oper} {mk b : Nat} {bef : List Nat} {i : Nat} {seen : List (Nat × Nat × Nat)} {rd wr : Nat} {fr fr1 : Fr} {s s1 : S} {Q : Fr → S → Prop}
    (h : ∀ m, evOper (evT E σ (m + 1)) E true all o fr ⟨s.heap, s.next, s.next, 0, 0⟩ = some (fr1, s1)) (hc : clash s1.rd s1.wr b seen = false)
    (hq : GoD E σ all mk rest bef (i + 1) (keepLog i s1.rd (Nat.lor s1.wr (created s.next s1.next)) seen) (joinLog mk rd s1.rd) (joinLog mk wr s1.wr) fr1 s1 Q) : GoD E σ all mk (o :: rest) (b :: bef) i seen rd wr fr s Q := by
  obtain ⟨fr', s', hq, n0, h2⟩ := hq
  refine ⟨fr', s', hq, n0 + 1, fun k hk => ?_⟩
  obtain ⟨m, rfl⟩ : ∃ m, k = m + 1 := ⟨k - 1, by omega⟩
  simp only [drawnLoop, force_eq, h m, hc]
  exact h2 (m + 1) (by omega)
theorem god_call {all rest : List Oper} {o : Oper} {mk b : Nat} {bef : List Nat} {i : Nat} {seen : List (Nat × Nat × Nat)} {rd wr : Nat} {fr : Fr} {s s1 : S} {f : FuncId} {args : List Value} {Q : Fr → S → Prop}
    (hw : wantedA all fr o = some true) (ha : (aop E fr o).run ⟨s.heap, s.next, s.next, 0, 0⟩ = some (.enter f args, s1))
    (hcall : GoN E σ f args s1 fun v s2 => clash s2.rd s2.wr b seen = false ∧ ∃ fr1, fr.put o.dst v = some fr1 ∧
      GoD E σ all mk rest bef (i + 1) (keepLog i s2.rd (Nat.lor s2.wr (created s.next s2.next)) seen) (joinLog mk rd s2.rd) (joinLog mk wr s2.wr) fr1 s2 Q) : GoD E σ all mk (o :: rest) (b :: bef) i seen rd wr fr s Q := by
  obtain ⟨v, s2, ⟨hc, fr1, hp, fr', s', hq, n1, h1⟩, n0, h0⟩ := hcall
  refine ⟨fr', s', hq, max n0 n1, fun n hn => ?_⟩
  simp only [drawnLoop, force_eq, evOper, hw, ha, h0 n (by omega), hp, onFr, hc]
  exact h1 n (by omega)

/-! ranges over functions -/
def GoR (E : Env) (σ : Sums) (l : Nat) (fn : FuncId) (t : Tr Value) (k : Nat) (a b : Code) (s : S) (Q : Value → S → Prop) : Prop :=
  ∃ v s', Q v s' ∧ ∃ n0, ∀ n, n0 ≤ n → evT E σ n (.next (.round l fn t k a b)) s = some (.val v, s')
theorem gop_yield {all rest : List Oper} {op : Oper} {fr : Fr} {s s1 : S} {l : Nat} {fn : FuncId} {t : Tr Value} {k : Nat} {a b : Code} {Q : Fr → S → Prop} (hw : wantedA all fr op = some true) (ha : (aop E fr op).run s = some (.round l fn t k a b, s1))
    (hc : GoR E σ l fn t k a b s1 (fun v s' => ∃ fr', fr.put op.dst v = some fr' ∧ GoP E σ all rest fr' s' Q)) : GoP E σ all (op :: rest) fr s Q := by
  obtain ⟨v, s', ⟨fr', hp, fr2, s2, hq, n1, h1⟩, n0, h0⟩ := hc
  refine ⟨fr2, s2, hq, max n0 n1, fun n hn => ?_⟩
  simp only [opsLoop, evOper, hw, ha, h0 n (by omega), hp, onFr, h1 n (by omega)]
theorem GoR.mono {l : Nat} {fn : FuncId} {t : Tr Value} {k : Nat} {a b : Code} {s : S} {Q Q' : Value → S → Prop} (h : GoR E σ l fn t k a b s Q) (hq : ∀ v s, Q v s → Q' v s) : GoR E σ l fn t k a b s Q' := by
  obtain ⟨v, s', h1, h2⟩ := h
  exact ⟨v, s', hq _ _ h1, h2⟩
theorem gor_intro {l : Nat} {fn : FuncId} {t : Tr Value} {k : Nat} {a b : Code} {s : S} {Q : Value → S → Prop}
    (h : GoC E σ a ⟨fn, t, k, [], some l⟩ s fun x fr s => x = .normal ∧ ∃ s1, (beginM l).run s = some ((), s1) ∧ GoC E σ b fr s1 fun x fr s => fr.defers = [] ∧ ∃ s2, (endM l x).run s = some ((), s2) ∧ Q (.bool (exGoes x)) s2) : GoR E σ l fn t k a b s Q := by
  obtain ⟨x, fr1, s1, ⟨rfl, s2, hb, y, fr3, s3, ⟨hd, s4, he, hq⟩, n1, h1⟩, n0, h0⟩ := h
  refine ⟨_, s4, hq, max n0 n1 + 1, fun n hn => ?_⟩
  obtain ⟨m, rfl⟩ : ∃ m, n = m + 1 := ⟨n - 1, by omega⟩
  show evNextS σ (evT E σ m) E (.round l fn t k a b) s = _
  simp only [evNextS, evNext, evRound, h0 m (by omega), evBody, hb, h1 m (by omega), evEnd, hd, he]
theorem go_rangef {f : Operand} {ps : Array Tmp} {a b : Code} {fr : Fr} {s s1 s2 : S} {Q : Ex → Fr → S → Prop} {l : Nat} {mk : List Deferred} {g : FuncId} {args : List Value}
    (h1 : (enterM fr ps.toList a b).run s = some ((l, mk), s1)) (h2 : (rangeCall E (fr.ev f) l).run s1 = some (.enter g args, s2))
    (h : GoN E σ g args s2 fun _ s3 => ∃ j s4, (finM l).run s3 = some (j, s4) ∧ match j with
      | none => Q .normal ⟨fr.fn, fr.tmps, fr.n, mk ++ fr.defers, fr.round⟩ s4
      | some c => GoC E σ c ⟨fr.fn, fr.tmps, fr.n, mk ++ fr.defers, fr.round⟩ s4 Q) : GoC E σ (.rangeFunc f ps a b) fr s Q := by
  obtain ⟨v, s3, ⟨j, s4, hf, hj⟩, n0, h0⟩ := h
  cases j with
  | none =>
    refine ⟨.normal, _, s4, hj, n0 + 1, fun n hn => ?_⟩
    obtain ⟨m, rfl⟩ : ∃ m, n = m + 1 := ⟨n - 1, by omega⟩
    show evRange (evT E σ m) E f ps a b fr s = _
    simp only [evRange, h1, h2, evCall, h0 m (by omega), evFin, hf]
  | some c =>
    obtain ⟨x, fr', s', hq, n1, h1'⟩ := hj
    refine ⟨x, fr', s', hq, max n0 n1 + 1, fun n hn => ?_⟩
    obtain ⟨m, rfl⟩ : ∃ m, n = m + 1 := ⟨n - 1, by omega⟩
    show evRange (evT E σ m) E f ps a b fr s = _
    simp only [evRange, h1, h2, evCall, h0 m (by omega), evFin, hf, h1' m (by omega)]
/-- what was deferred is collected, and is none -/
inductive Col : List Deferred → S → S → Prop
  | nil (s : S) : Col [] s s
  | cons {b : Nat} {ds : List Deferred} {s s1 s2 : S} : (takeM b).run s = some ([], s1) → Col ds s1 s2 → Col ({ target := .collected b, args := #[] } :: ds) s s2
theorem leave_col {fn : FuncId} {fi : FI} {t : Tr Value} {k : Nat} {r : Option Nat} {v : Value} {s' : S} (hf : E.fn.get fn = some fi) : ∀ {ds : List Deferred} {s s1 : S}, Col ds s s1 → (resultsM E ⟨fn, t, k, [], r⟩ fi).run s1 = some (v, s') →
    ∃ n0, ∀ n, n0 ≤ n → evT E σ n (.leave ⟨fn, t, k, ds, r⟩) s = some (.val v, s') := by
  intro ds s s1 h hr
  induction h with
  | nil s =>
    refine ⟨1, fun n hn => ?_⟩
    obtain ⟨m, rfl⟩ : ∃ m, n = m + 1 := ⟨n - 1, by omega⟩
    simp only [evT, evLeave, hf, hr]
  | cons ht _ ih =>
    obtain ⟨n0, h0⟩ := ih hr
    refine ⟨n0 + 1, fun n hn => ?_⟩
    obtain ⟨m, rfl⟩ : ∃ m, n = m + 1 := ⟨n - 1, by omega⟩
    simp only [evT, evLeave, ht, List.nil_append]
    exact h0 m (by omega)
/-- a function's end, be there ranges in it -/
def RetD (E : Env) (f : FuncId) (fi : FI) (Q : Value → S → Prop) : Ex → Fr → S → Prop
  | .exit _, _, _ => False
  | _, fr, s => fr.fn = f ∧ ∃ s1, Col fr.defers s s1 ∧ ∃ v s', (resultsM E ⟨f, fr.tmps, fr.n, [], fr.round⟩ fi).run s1 = some (v, s') ∧ Q v s'
theorem gon_enterD {f : FuncId} {fi : FI} {c : Code} {args : List Value} {s : S} {Q : Value → S → Prop} (hs : σ f = none) (hf : E.fn.get f = some fi) (hb : fi.body = some c) (N : Nat) (hN : Nat.add args.length (Nat.sub fi.ntmps args.length) = N) (hN2 : Nat.ble N lastName = true)
    (h : GoC E σ c ⟨f, Tr.ofList args, N, [], none⟩ s (RetD E f fi Q)) : GoN E σ f args s Q := by
  obtain ⟨x, fr, s1, hq, n0, h0⟩ := h
  have hr : fr.fn = f ∧ ∃ s2, Col fr.defers s1 s2 ∧ ∃ v s', (resultsM E ⟨f, fr.tmps, fr.n, [], fr.round⟩ fi).run s2 = some (v, s') ∧ Q v s' := by
    cases x with
    | exit id => exact hq.elim
    | normal => exact hq
    | ret => exact hq
  obtain ⟨e1, s2, hc, v, s', e3, e4⟩ := hr
  obtain ⟨n1, h1⟩ := leave_col (σ := σ) hf hc e3
  refine ⟨v, s', e4, max n0 n1 + 1, fun n hn => ?_⟩
  obtain ⟨m, rfl⟩ : ∃ m, n = m + 1 := ⟨n - 1, by omega⟩
  show evNextS σ (evT E σ m) E (.enter f args) s = _
  have hl : evT E σ m (.leave fr) s1 = some (.val v, s') := by
    have := h1 m (by omega)
    obtain ⟨fn, t, k, ds, r⟩ := fr
    simp only at e1
    subst e1
    exact this
  have h0' := h0 m (by omega)
  simp only [evNextS, hs, evNext, hf, hb, evEnter, hN, hN2, h0']
  cases x with
  | exit id => exact hq.elim
  | normal => exact hl
  | ret => exact hl
end
end Go.AE
