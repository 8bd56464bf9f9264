/- The records of ranges over functions, the results, and what is deferred, on the machine. No program is named here. -/
import Derived.Test.YtgofanjbhbeniaaDoorAe20
import Derived.RangeFuncIn
noncomputable section
namespace Go.AE
set_option linter.unusedVariables false
set_option linter.unusedSimpArgs false

section
variable {P : Program} {E : Env} {q : Free} {ρ : Ren} {s s' : S} {w : World} {fr fr' : Fr} {rc : Rec} {a : Act} {b : Frame}

theorem loop_at (hR : Rep P q ρ s w) {l c base ex : Nat} (hρ : ρ l = some (c, base, ex)) {o : AObj} (ho : s.heap.get l = some o) : ∃ obj, w.heap[c]? = some obj ∧ OR P ρ base ex o obj := by
  obtain ⟨b1, base1, ex1, obj, e1, e2, e3⟩ := hR.live _ _ ho
  rw [hρ] at e1; cases e1
  exact ⟨obj, e2, e3⟩

theorem enter_sim (hR : Rep P q ρ s w) (hA : ActR ρ fr a) (hB : BaseR ρ fr b) {ps : Array Tmp} {as bd : Code} {l : Nat} {mk : List Deferred} (h : (enterM fr ps.toList as bd).run s = some ((l, mk), s')) (hl : s'.next ≤ q.hi) :
    ∃ ρ1 l' mk' w1, (Instr.enterLoop b.fn a.tmps ps as bd b.roundOf).run P w = .ok (l', mk') w1 ∧ Rep P q ρ1 s' w1 ∧ Evo ρ w ρ1 w1 ∧ ρ1 l = some (l', 0, 0) ∧ DsR ρ1 mk mk' := by
  unfold enterM at h
  have hr := hB.2.1
  split at h
  · rename_i l0 hround
    rw [hround] at hr
    obtain ⟨c, base, ex, hro, hρ⟩ := hr
    obtain ⟨o, ho, h1⟩ := run_get h
    obtain ⟨obj, e1, e2⟩ := loop_at hR hρ ho
    split at h1
    · rename_i d
      have hgo := getObj_run (P := P) e1 e2 rfl
      cases e2 with
      | loop htr hd =>
        rename_i bb bbb bex
        obtain ⟨s1, ρ1, h2, a1, a2, a3⟩ := newO_sim (hR.seen l0) (obj := .loop { state := .ready, pending := none, fn := b.fn, tmps := a.tmps, params := ps, assign := as, body := bd, defers := bb })
          (fun ρ' hle => by rw [hB.1]; exact .loop (hA.1.mono hle) (hle _ _ hd)) (by exact hl) h1
        simp only [AM.run, Option.some.injEq, Prod.mk.injEq] at h2
        obtain ⟨⟨rfl, rfl⟩, rfl⟩ := h2
        refine ⟨ρ1, _, [], _, ?_, a1, a2, a3, .nil⟩
        simp [Instr.enterLoop, hro, Instr.getLoop, hgo]
    · cases h1
  · rename_i hround
    rw [hround] at hr
    have hro : b.roundOf = none := hr
    obtain ⟨hn0, h1⟩ := run_new h
    have hm1 := run_mono h1
    obtain ⟨s1, ρ1, h1', a1, a2, a3⟩ := newO_sim hR (obj := .deferred (some [])) (fun ρ' _ => .deferS .nil) (by exact hl) h
    have hld := a3
    obtain ⟨s2, ρ2, h2, b1, b2, b3⟩ := newO_sim a1 (obj := .loop { state := .ready, pending := none, fn := b.fn, tmps := a.tmps, params := ps, assign := as, body := bd, defers := w.heap.size })
      (fun ρ' hle => by rw [hB.1]; exact .loop ((hA.1.mono a2.sub).mono hle) (hle _ _ a3)) (by exact hl) h1'
    simp only [AM.run, Option.some.injEq, Prod.mk.injEq] at h2
    obtain ⟨⟨rfl, rfl⟩, rfl⟩ := h2
    refine ⟨ρ2, _, [{ target := .collected w.heap.size, args := #[] }], _, ?_, b1, a2.trans b2, b3, .cons (.collected (b2.sub _ _ a3)) .nil⟩
    simp only [Instr.enterLoop, hro, Sem.run_bind, run_newObj, Result.andThen_ok, Sem.run_pure]

theorem fin_sim (hR : Rep P q ρ s w) {l c base ex : Nat} (hρ : ρ l = some (c, base, ex)) {j : Option Code} (h : (finM l).run s = some (j, s')) :
    ∃ w1, (Instr.endLoop c).run P w = .ok j w1 ∧ Rep P q ρ s' w1 ∧ Evo ρ w ρ w1 := by
  obtain ⟨o, ho, h1⟩ := run_get h
  obtain ⟨obj, e1, e2⟩ := loop_at hR hρ ho
  split at h1
  · rename_i st p fn t n ps as bd d
    have hgo := getObj_run (P := P) e1 e2 rfl
    have e20 := e2
    cases e2 with
    | loop htr hd =>
      rename_i A bb bbb bex
      split at h1
      · cases h1
      · rename_i hst
        obtain ⟨s1, h2, a1, a2, a3⟩ := setO_sim (hR.seen l) (obj1 := .loop { state := .exhausted, pending := p, fn := fn, tmps := A, params := ⟨ps⟩, assign := as, body := bd, defers := bb }) ho hρ e1 e20 rfl (.loop htr hd) rfl h1
        simp only [AM.run, Option.some.injEq, Prod.mk.injEq] at h2
        obtain ⟨rfl, rfl⟩ := h2
        refine ⟨_, ?_, a1, a2⟩
        have hne : (st == LoopState.busy) = false := by cases st <;> first | rfl | exact absurd rfl hst
        simp only [Instr.endLoop, Instr.getLoop, Sem.run_bind, hgo, Result.andThen_ok, Sem.run_pure, hne, Bool.false_eq_true, if_false, a3]
  · cases h1

theorem begin_sim (hR : Rep P q ρ s w) {l c base ex : Nat} (hρ : ρ l = some (c, base, ex)) (h : (beginM l).run s = some ((), s')) :
    ∃ w1, (Instr.beginRound c).run P w = .ok () w1 ∧ Rep P q ρ s' w1 ∧ Evo ρ w ρ w1 := by
  obtain ⟨o, ho, h1⟩ := run_get h
  obtain ⟨obj, e1, e2⟩ := loop_at hR hρ ho
  split at h1
  · rename_i p fn t n ps as bd d
    have hgo := getObj_run (P := P) e1 e2 rfl
    have e20 := e2
    cases e2 with
    | loop htr hd =>
      rename_i A bb bbb bex
      obtain ⟨s1, h2, a1, a2, a3⟩ := setO_sim (hR.seen l) (obj1 := .loop { state := .busy, pending := p, fn := fn, tmps := A, params := ⟨ps⟩, assign := as, body := bd, defers := bb }) ho hρ e1 e20 rfl (.loop htr hd) rfl h1
      simp only [AM.run, Option.some.injEq, Prod.mk.injEq, true_and] at h2
      subst h2
      refine ⟨_, ?_, a1, a2⟩
      simp only [Instr.beginRound, Instr.getLoop, Sem.run_bind, hgo, Result.andThen_ok, Sem.run_pure, a3]
  · cases h1

theorem end_sim (hR : Rep P q ρ s w) {l c base ex : Nat} (hρ : ρ l = some (c, base, ex)) {x : Ex} (h : (endM l x).run s = some ((), s')) :
    ∃ w1, (Instr.endRound c (exJump x)).run P w = .ok (.bool (exGoes x)) w1 ∧ Rep P q ρ s' w1 ∧ Evo ρ w ρ w1 := by
  obtain ⟨o, ho, h1⟩ := run_get h
  obtain ⟨obj, e1, e2⟩ := loop_at hR hρ ho
  split at h1
  · rename_i st p fn t n ps as bd d
    have hgo := getObj_run (P := P) e1 e2 rfl
    have e20 := e2
    cases e2 with
    | loop htr hd =>
      rename_i A bb bbb bex
      obtain ⟨s1, h2, a1, a2, a3⟩ := setO_sim (hR.seen l) (obj1 := .loop { state := exState x, pending := exJump x, fn := fn, tmps := A, params := ⟨ps⟩, assign := as, body := bd, defers := bb }) ho hρ e1 e20 rfl (.loop htr hd) rfl h1
      simp only [AM.run, Option.some.injEq, Prod.mk.injEq, true_and] at h2
      subst h2
      refine ⟨_, ?_, a1, a2⟩
      have hst : (if exGoes x = true then LoopState.ready else LoopState.done) = exState x := by cases x <;> rfl
      have hgg : (exJump x).isNone = exGoes x := by cases x <;> rfl
      simp only [Instr.endRound, Instr.getLoop, Sem.run_bind, hgo, Result.andThen_ok, Sem.run_pure, hgg, hst, a3]
  · cases h1

theorem take_sim (hR : Rep P q ρ s w) {l c base ex : Nat} (hρ : ρ l = some (c, base, ex)) {ds : List Deferred} (h : (takeM l).run s = some (ds, s')) :
    ∃ ds' w1, (Instr.takeDeferred c).run P w = .ok ds' w1 ∧ DsR ρ ds ds' ∧ Rep P q ρ s' w1 ∧ Evo ρ w ρ w1 := by
  obtain ⟨o, ho, h1⟩ := run_get h
  obtain ⟨obj, e1, e2⟩ := loop_at hR hρ ho
  split at h1
  · rename_i ds0
    have hgo := getObj_run (P := P) e1 e2 rfl
    have e20 := e2
    cases e2 with
    | deferS hds =>
      rename_i ds'
      obtain ⟨s1, h2, a1, a2, a3⟩ := setO_sim (hR.seen l) (obj1 := .deferred none) ho hρ e1 e20 rfl .deferN rfl h1
      simp only [AM.run, Option.some.injEq, Prod.mk.injEq] at h2
      obtain ⟨rfl, rfl⟩ := h2
      refine ⟨ds', _, ?_, hds, a1, a2⟩
      simp only [Instr.takeDeferred, Sem.run_bind, hgo, Result.andThen_ok, Sem.run_pure, a3]
  · cases h1

def resF (a : Act) : ResultVar → Sem Value
  | .tmp t => pure (a.tmps.getD t undef)
  | .cell x t => do loadVar t (← asAddr (a.tmps.getD x undef))
theorem resultsA_sim (hE : EnvOK P E) (hA : ActR ρ fr a) : ∀ (l : List ResultVar) (k : List Value → AM Value) (s : S) (r), Rep P q ρ s w → (resultsA E fr l k).run s = some r →
    ∃ vs vs' s1, (k vs).run s1 = some r ∧ Rep P q ρ s1 w ∧ LR ρ vs vs' ∧ (l.mapM (resF a)).run P w = .ok vs' w
  | [], k, s, r, hR, h => ⟨[], [], s, h, hR, .nil, rfl⟩
  | .tmp t :: l, k, s, r, hR, h => by
    simp only [resultsA] at h
    obtain ⟨v, hv, h1⟩ := run_opt h
    obtain ⟨vs, vs', s1, e1, e2, e3, e4⟩ := resultsA_sim hE hA l _ s r hR h1
    obtain ⟨v', g1, g2⟩ := hA.1.2 t v hv
    refine ⟨v :: vs, v' :: vs', s1, e1, e2, .cons g2 e3, ?_⟩
    have hg : a.tmps.getD t undef = v' := by simp [g1]
    have hf : (resF a (.tmp t)).run P w = .ok v' w := by simp only [resF, Sem.run_pure, hg]
    rw [List.mapM_cons, Sem.run_bind, hf]
    simp only [Result.andThen_ok, Sem.run_bind, e4, Sem.run_pure]
  | .cell x t :: l, k, s, r, hR, h => by
    simp only [resultsA] at h
    split at h
    · rename_i ad hx
      obtain ⟨i, hi, h1⟩ := run_opt h
      obtain ⟨p', g1, g2⟩ := hA.1.2 x _ hx
      obtain ⟨a', rfl, har⟩ := g2.ptr_inv
      obtain ⟨v, v', s1, h2, rfl, hv, hload⟩ := loadT_sound hE hR hi har h1
      obtain ⟨vs, vs', s2, e1, e2, e3, e4⟩ := resultsA_sim hE hA l _ _ r (hR.seen _) h2
      refine ⟨v :: vs, v' :: vs', s2, e1, e2, .cons hv e3, ?_⟩
      have hg : a.tmps.getD x undef = .pointer (some a') := by simp [g1]
      have hf : (resF a (.cell x t)).run P w = .ok v' w := by simp only [resF, Sem.run_bind, hg, asAddr, Sem.run_pure, Result.andThen_ok, hload]
      rw [List.mapM_cons, Sem.run_bind, hf]
      simp only [Result.andThen_ok, Sem.run_bind, e4, Sem.run_pure]
    · cases h

theorem results_sim (hE : EnvOK P E) (hR : Rep P q ρ s w) (hA : ActR ρ fr a) {fn : Func} {v : Value} (h : (resultsM E fr (FI.of fn)).run s = some (v, s')) :
    ∃ v', (results fn a.tmps).run P w = .ok v' w ∧ VR ρ v v' ∧ Rep P q ρ s' w := by
  obtain ⟨vs, vs', s1, e1, e2, e3, e4⟩ := resultsA_sim hE hA _ _ s _ hR h
  have hres : (results fn a.tmps).run P w = .ok (if h : vs'.length = 1 then vs'[0] else .tuple ⟨vs'⟩) w := by
    have h0 : results fn a.tmps = (do let vs ← fn.results.mapM (resF a); pure (if h : vs.size = 1 then vs[0] else .tuple vs)) := by
      unfold results
      congr 2
    rw [h0]
    simp only [Sem.run_bind, Array.mapM_eq_mapM_toList, Sem.run_map]
    have e4' : (fn.results.toList.mapM (resF a)).run P w = .ok vs' w := e4
    rw [e4']
    simp only [Result.andThen_ok, Sem.run_pure]
    congr 1
  rw [hres]
  cases e3 with
  | nil =>
    simp only [AM.run, Option.some.injEq, Prod.mk.injEq] at e1
    obtain ⟨rfl, rfl⟩ := e1
    exact ⟨_, rfl, .tuple .nil, e2⟩
  | cons x y =>
    cases y with
    | nil =>
      simp only [AM.run, Option.some.injEq, Prod.mk.injEq] at e1
      obtain ⟨rfl, rfl⟩ := e1
      exact ⟨_, rfl, x, e2⟩
    | cons x2 y2 =>
      simp only [AM.run, Option.some.injEq, Prod.mk.injEq] at e1
      obtain ⟨rfl, rfl⟩ := e1
      exact ⟨_, rfl, .tuple (.cons x (.cons x2 y2)), e2⟩
end
end Go.AE
