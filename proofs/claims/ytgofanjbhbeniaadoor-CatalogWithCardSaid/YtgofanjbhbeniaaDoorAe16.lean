/- Code over the named memory does what the machine does: what is asked of each task; one operation; a region whose order isn't drawn. No program is named here. -/
import Derived.Test.YtgofanjbhbeniaaDoorAe15
import Derived.AtR
noncomputable section
namespace Go.AE
set_option linter.unusedVariables false
set_option linter.unusedSimpArgs false

def ActR (ρ : Ren) (fr : Fr) (a : Act) : Prop := TR ρ fr.tmps fr.n a.tmps ∧ DsR ρ fr.defers a.defers ∧ fr.n ≤ lastName
def RoundR (ρ : Ren) : Option Nat → Option Nat → Prop
  | none, r => r = none
  | some l, r => ∃ c base ex, r = some c ∧ ρ l = some (c, base, ex)
def BaseR (ρ : Ren) (fr : Fr) (b : Frame) : Prop := b.fn = fr.fn ∧ RoundR ρ fr.round b.roundOf ∧ (fr.round ≠ none → b.kind = .normal)

def Arr (P : Program) (m : Machine) (b : Frame) (k : List Item) (cs : List Frame) : Ex → Act → World → Prop
  | .normal, a, w => Steps P m (lone (b.atR a k) cs w)
  | .ret, a, w => ∃ T, Steps P m (lone (b.atR a (.code .ret :: T)) cs w)
  | .exit id, a, w => ∃ T, exitTo id T = exitTo id k ∧ Steps P m (lone (b.atR a (.code (.exit id) :: T)) cs w)

def frameOf (P : Program) : Next → Option Frame
  | .enter f args => some (Frame.enter P f args .normal)
  | .round l f t a b => some (Frame.round l f t a b .normal)
  | _ => none

section defs
variable (P : Program) (rc : Rec)
def CodeSim : Prop := ∀ (q : Free) (ρ : Ren) (c : Code) (fr : Fr) (s : S) (x : Ex) (fr' : Fr) (s' : S) (w : World) (a : Act) (b : Frame), rc (.code c fr) s = some (.fr x fr', s') → s.mark ≤ s.next → s'.next ≤ q.hi → Rep P q ρ s w → ActR ρ fr a → BaseR ρ fr b →
  ∀ (k : List Item) (cs : List Frame), ∃ (ρ' : Ren) (a' : Act) (w' : World), Rep P q ρ' s' w' ∧ Evo ρ w ρ' w' ∧ ActR ρ' fr' a' ∧ fr'.fn = fr.fn ∧ fr'.round = fr.round ∧ Arr P (lone (b.atR a (.code c :: k)) cs w) b k cs x a' w'
def NextSim : Prop := ∀ (q : Free) (ρ : Ren) n n' s v s' w F, rc (.next n) s = some (.val v, s') → s.mark ≤ s.next → s'.next ≤ q.hi → Rep P q ρ s w → NR ρ n n' → frameOf P n' = some F →
  ∀ c cs, ∃ ρ' v' w', Rep P q ρ' s' w' ∧ Evo ρ w ρ' w' ∧ VR ρ' v v' ∧ Steps P (lone F (c :: cs) w) (lone (c.finish v') cs w')
def EnterSim : Prop := ∀ (q : Free) (ρ : Ren) f args args' s v s' w (kind : CallKind), rc (.next (.enter f args)) s = some (.val v, s') → s.mark ≤ s.next → s'.next ≤ q.hi → Rep P q ρ s w → LR ρ args args' →
  ∀ cs, ∃ ρ' v' w' fr', Rep P q ρ' s' w' ∧ Evo ρ w ρ' w' ∧ VR ρ' v v' ∧ Steps P (lone (Frame.enter P f ⟨args'⟩ kind) cs w) (lone fr' cs w') ∧ fr'.fn = f ∧ fr'.mode = .returning ∧ fr'.defers = [] ∧ fr'.kind = kind ∧
    ∃ fn, P.funcs[fr'.fn]? = some fn ∧ (results fn fr'.tmps).run P w' = .ok v' w'
def LeaveSim : Prop := ∀ (q : Free) (ρ : Ren) (fr : Fr) (s : S) (v : Value) (s' : S) (w : World) (a : Act) (b : Frame), rc (.leave fr) s = some (.val v, s') → s.mark ≤ s.next → s'.next ≤ q.hi → Rep P q ρ s w → ActR ρ fr a → b.fn = fr.fn →
  ∀ (T : List Item) (cs : List Frame), ∃ (ρ' : Ren) (v' : Value) (w' : World) (a' : Act), Rep P q ρ' s' w' ∧ Evo ρ w ρ' w' ∧ VR ρ' v v' ∧ a'.defers = [] ∧ Steps P (lone { b.atR a T with mode := .returning } cs w) (lone { b.atR a' T with mode := .returning } cs w') ∧
    ∃ fn, P.funcs[b.fn]? = some fn ∧ (results fn a'.tmps).run P w' = .ok v' w'
end defs

section
variable {P : Program} {E : Env} {q : Free} {ρ : Ren} {s s' : S} {w : World} {fr fr' : Fr} {rc : Rec} {a : Act} {b : Frame}

theorem RoundR.mono {ρ' : Ren} (h : ρ.le ρ') {l r} (x : RoundR ρ l r) : RoundR ρ' l r := by
  cases l with
  | none => exact x
  | some l => obtain ⟨c, base, ex, e, e'⟩ := x; exact ⟨c, base, ex, e, h _ _ e'⟩
theorem ActR.mono {ρ' : Ren} (h : ρ.le ρ') (x : ActR ρ fr a) : ActR ρ' fr a := ⟨x.1.mono h, x.2.1.mono h, x.2.2⟩
theorem BaseR.mono {ρ' : Ren} (h : ρ.le ρ') (x : BaseR ρ fr b) : BaseR ρ' fr b := ⟨x.1, x.2.1.mono h, x.2.2⟩
theorem BaseR.of {fr' : Fr} (x : BaseR ρ fr b) (h1 : fr'.fn = fr.fn) (h2 : fr'.round = fr.round) : BaseR ρ fr' b := ⟨x.1.trans h1.symm, by rw [h2]; exact x.2.1, by rw [h2]; exact x.2.2⟩

theorem ActR.ev (h : ActR ρ fr a) (x : Operand) (v : Value) (hx : fr.ev x = some v) : VR ρ v (a.eval x) := by
  cases x with
  | tmp t =>
    obtain ⟨v', h1, h2⟩ := h.1.2 t v hx
    simpa [Act.eval, h1] using h2
  | const c =>
    simp only [Fr.ev] at hx
    split at hx
    · rename_i hs; cases hx; exact still_VR hs
    · cases hx
  | global g => cases hx
  | func f => cases hx; exact .flat rfl

theorem ActR.put (h : ActR ρ fr a) {dst : Option Tmp} {v v' : Value} (hp : fr.put dst v = some fr') (hv : VR ρ v v') : ActR ρ fr' (a.put dst v') ∧ fr'.fn = fr.fn ∧ fr'.round = fr.round := by
  cases dst with
  | none => simp only [Fr.put] at hp; cases hp; exact ⟨h, rfl, rfl⟩
  | some d =>
    simp only [Fr.put] at hp
    split at hp
    · rename_i hd
      cases hp
      have hd := blt_iff.1 hd
      exact ⟨⟨h.1.put hd (Nat.lt_trans hd (name_wide h.2.2)) hv, h.2.1, h.2.2⟩, rfl, rfl⟩
    · cases hp

theorem nth_eq {α : Type} : ∀ (l : List α) (n : Nat) (x : α), nth l n = some x → l[n]? = some x
  | [], n, x, h => by cases n <;> cases h
  | _ :: _, 0, x, h => by cases h; rfl
  | _ :: l, n + 1, x, h => by simpa using nth_eq l n x h

theorem wanted_sim (h : ActR ρ fr a) {ops : Array Oper} {o : Oper} {bb : Bool} (hw : wantedA ops.toList fr o = some bb) : Region.wanted o (yielded ops a.tmps) = bb := by
  unfold wantedA at hw
  unfold Region.wanted
  cases hg : o.guard with
  | none => rw [hg] at hw; cases hw; rfl
  | some g =>
    obtain ⟨j, want⟩ := g
    rw [hg] at hw
    simp only at hw ⊢
    split at hw
    · cases hw
    · rename_i p hp
      have hp := nth_eq _ _ _ hp
      simp at hp
      split at hw
      · cases hw
      · rename_i d hd
        split at hw
        · rename_i t ht
          cases hw
          obtain ⟨v', h1, h2⟩ := h.1.2 d _ ht
          have h2 := h2.bool_inv
          subst h2
          simp only [yielded, hp, Option.bind_some, hd, h1]
          cases t <;> cases want <;> rfl
        · rename_i ht
          cases hw
          obtain ⟨v', h1, h2⟩ := h.1.2 d _ ht
          obtain ⟨l', rfl, hl⟩ := h2.tuple_inv
          simp only [yielded, hp, Option.bind_some, hd, h1]
          rfl
        · cases hw

/-- **one operation** -/
theorem oper_sim (hE : EnvOK P E) (hN : NextSim P rc) (hL : ∀ t, Loc (rc t)) {ops : Array Oper} {i : Nat} {o : Oper} (hoi : ops[i]? = some o)
    {dr : Bool} (h : evOper rc E dr ops.toList o fr s = some (fr', s')) (hm : s.mark ≤ s.next) (hl : s'.next ≤ q.hi) (hR : Rep P q ρ s w) (hA : ActR ρ fr a) (hB : BaseR ρ fr b) (rest : List Nat) (k : List Item) (cs : List Frame) :
    ∃ ρ' a' w', Rep P q ρ' s' w' ∧ Evo ρ w ρ' w' ∧ ActR ρ' fr' a' ∧ fr'.fn = fr.fn ∧ fr'.round = fr.round ∧ Steps P (lone (b.atR a (.inRegion ops (i :: rest) :: k)) cs w) (lone (b.atR a' (.inRegion ops rest :: k)) cs w') := by
  unfold evOper at h
  have hund : VR ρ undefV undef := .tuple .nil
  split at h
  · cases h
  · rename_i hw
    have hw := wanted_sim hA hw
    unfold onFr at h
    split at h
    · cases h
    · rename_i fr2 hp
      cases h
      obtain ⟨g1, g2, g3⟩ := hA.put hp hund
      refine ⟨ρ, _, w, hR, Evo.refl _ _, g1, g2, g3, .one ?_⟩
      have := stepR_op_skip (P := P) (b := b) (a := a) (k := k) (cs := cs) (w := w) (ops := ops) (i := i) (rest := rest) (by simp [hoi]; simpa using hw)
      simpa [hoi] using this
  · rename_i hw
    have hw := wanted_sim hA hw
    split at h
    · cases h
    · rename_i n s1 hrun
      have hloc := Loc.am (aop E fr o) s n s1 hrun hm
      have hg := stepGR_op (P := P) (b := b) (a := a) (k := k) (cs := cs) (w := w) (rest := rest) hoi hw
      have hnext : s1.next ≤ s'.next := by
        split at h
        · unfold onFr at h; split at h <;> cases h; exact Nat.le_refl _
        · cases dr with
          | true => cases h
          | false =>
            simp only at h
            unfold onDefer onFr at h; split at h
            · split at h <;> cases h; exact Nat.le_refl _
            · cases h
        · split at h
          · rename_i v s2 hrc
            have := (hL _ _ _ _ hrc (by rw [hloc.mark]; exact Nat.le_trans hm hloc.next)).next
            unfold onFr at h; split at h <;> cases h; exact this
          · cases h
      obtain ⟨ρ1, nx', w1, hq, hR1, hE1, hN1⟩ := aop_sound hE (Nat.le_trans hnext hl) hR hA.ev hrun
      have hfin : ∀ (a : Act) v, (b.atR a (.inRegion ops (i :: rest) :: k)).finish v = b.atR (a.put o.dst v) (.inRegion ops rest :: k) := by
        intro a v; rw [Frame.finish_atR, hoi]; rfl
      have hdef : ∀ n', NR ρ1 n n' → (∀ d, n' ≠ .defer d) → (execOp a.eval o).run P w = .ok n' w1 → (o.semAt b.roundOf a.eval).run P w = .ok n' w1 := by
        intro n' _ hnd hq
        rw [Oper.semAt_eq]
        · exact hq
        · intro c hc
          rw [show execOp a.eval o = (do pure (Next.defer (← resolve a.eval c o.type)) : Sem Next) from by simp [execOp, hc]] at hq
          simp only [Sem.run_bind] at hq
          cases hr : (resolve a.eval c o.type).run P w with
          | ok d w2 => rw [hr] at hq; simp at hq; exact hnd d hq.1.symm
          | halt x w2 => rw [hr] at hq; simp at hq
      have hA1 := hA.mono hE1.sub
      split at h
      · rename_i v
        unfold onFr at h
        split at h
        · cases h
        · rename_i fr2 hp
          cases h
          cases hN1 with
          | value hv =>
            obtain ⟨g1, g2, g3⟩ := hA1.put hp hv
            refine ⟨ρ1, _, w1, hR1, hE1, g1, g2, g3, .one (step_lone_go ?_)⟩
            rw [hg, ← hfin]
            simp [stepG.apply, hdef _ (.value hv) (by intro d h; cases h) hq]
          | skip =>
            have hund1 : VR ρ1 undefV undef := .tuple .nil
            obtain ⟨g1, g2, g3⟩ := hA1.put hp hund1
            refine ⟨ρ1, _, w1, hR1, hE1, g1, g2, g3, .one (step_lone_go ?_)⟩
            rw [hg, ← hfin]
            simp [stepG.apply, hdef _ .skip (by intro d h; cases h) hq]
      · rename_i d
        cases dr with
        | true => cases h
        | false =>
        simp only at h
        unfold onDefer at h
        split at h
        · rename_i hround
          unfold onFr at h
          split at h
          · cases h
          · rename_i fr2 hp
            cases h
            cases hN1 with
            | defer hd =>
              rename_i d'
              have hA2 : ActR ρ1 ⟨fr.fn, fr.tmps, fr.n, d :: fr.defers, fr.round⟩ { a with defers := d' :: a.defers } := ⟨hA1.1, .cons hd hA1.2.1, hA1.2.2⟩
              have hund1 : VR ρ1 undefV undef := .tuple .nil
              obtain ⟨g1, g2, g3⟩ := hA2.put hp hund1
              refine ⟨ρ1, _, w1, hR1, hE1, g1, g2, g3, .one (step_lone_go ?_)⟩
              have hro : b.roundOf = none := by
                have := hB.2.1
                rw [hround] at this
                exact this
              have hsem : (o.semAt b.roundOf a.eval).run P w = .ok (.defer d') w1 := by
                rw [hro, Oper.semAt_none]; exact hq
              have : ({ b.atR a (.inRegion ops (i :: rest) :: k) with defers := d' :: a.defers } : Frame).finish undef =
                  b.atR ({ a with defers := d' :: a.defers }.put o.dst undef) (.inRegion ops rest :: k) := by
                have := hfin { a with defers := d' :: a.defers } undef
                exact this
              rw [hg]; simp only [stepG.apply, Sem.runT_eq, hsem, GStep.bare_after]
              exact congrArg (fun fr => GStep.go { frame := fr, callers := cs, status := .running, dying := none } w1) this
        · cases h
      · rename_i hn1 hn2
        split at h
        · rename_i v s2 hrc
          have hloc2 := hL _ _ _ _ hrc (by rw [hloc.mark]; exact Nat.le_trans hm hloc.next)
          unfold onFr at h
          split at h
          · cases h
          · rename_i fr2 hp
            cases h
            cases hN1 with
            | value hv => exact absurd rfl (hn1 _)
            | skip => exact absurd rfl (hn1 _)
            | defer hd => exact absurd rfl (hn2 _)
            | enter hargs =>
              rename_i f args args'
              obtain ⟨ρ2, v', w2, c1, c2, c3, c4⟩ := hN q ρ1 _ _ _ _ _ w1 _ hrc (by rw [hloc.mark]; exact Nat.le_trans hm hloc.next) hl hR1 (.enter hargs) rfl (b.atR a (.inRegion ops (i :: rest) :: k)) cs
              obtain ⟨g1, g2, g3⟩ := (hA1.mono c2.sub).put hp c3
              refine ⟨ρ2, _, w2, c1, hE1.trans c2, g1, g2, g3, .head (step_lone_go ?_) (by rw [← hfin]; exact c4)⟩
              rw [hg]; simp [stepG.apply, hdef _ (.enter hargs) (by intro d h; cases h) hq, Frame.atR]
            | round hr ht hnn =>
              rename_i l bb base ex fn t n A as bd
              obtain ⟨ρ2, v', w2, c1, c2, c3, c4⟩ := hN q ρ1 _ _ _ _ _ w1 _ hrc (by rw [hloc.mark]; exact Nat.le_trans hm hloc.next) hl hR1 (.round hr ht hnn) rfl (b.atR a (.inRegion ops (i :: rest) :: k)) cs
              obtain ⟨g1, g2, g3⟩ := (hA1.mono c2.sub).put hp c3
              refine ⟨ρ2, _, w2, c1, hE1.trans c2, g1, g2, g3, .head (step_lone_go ?_) (by rw [← hfin]; exact c4)⟩
              rw [hg]; simp [stepG.apply, hdef _ (.round hr ht hnn) (by intro d h; cases h) hq, Frame.atR]
        · cases h
end
end Go.AE
