/- A run over the named memory is a run of the machine. No program is named here. -/
import Derived.Test.YtgofanjbhbeniaaDoorAe21
noncomputable section
namespace Go.AE
set_option linter.unusedVariables false
set_option linter.unusedSimpArgs false

def todoOf (m : Machine) : List Item := ((m.gs[0]?).map fun g => g.frame.todo).getD []
theorem todoOf_lone (fr : Frame) (cs : List Frame) (w : World) : todoOf (lone fr cs w) = fr.todo := rfl

theorem Steps.tail {P : Program} {m m1 m' : Machine} (h : Steps P m m') (hs : step P m = .next m1) (hne : todoOf m ≠ todoOf m') : Steps P m1 m' := by
  obtain ⟨n, hn⟩ := h
  cases n with
  | zero => simp only [runN, Stepped.next.injEq] at hn; subst hn; exact absurd rfl hne
  | succ n => simp only [runN, hs] at hn; exact ⟨n, hn⟩

section
variable {P : Program} {E : Env} {q : Free} {ρ : Ren} {s s' : S} {w : World} {fr fr' : Fr} {rc : Rec} {a : Act} {b : Frame}

theorem Arr.of_steps {m m1 : Machine} {k : List Item} {cs : List Frame} {x : Ex} (h : Steps P m m1) (h' : Arr P m1 b k cs x a w) : Arr P m b k cs x a w := by
  cases x with
  | normal => exact h.trans h'
  | ret => obtain ⟨T, h'⟩ := h'; exact ⟨T, h.trans h'⟩
  | exit id => obtain ⟨T, e, h'⟩ := h'; exact ⟨T, e, h.trans h'⟩

/-- from the loop's own item -/
theorem Arr.inLoop {c : Code} {k : List Item} {cs : List Frame} {x : Ex} {a a' : Act} {w w' : World} (h : Arr P (lone (b.atR a (.code (.loop c) :: k)) cs w) b k cs x a' w') : Arr P (lone (b.atR a (.inLoop c :: k)) cs w) b k cs x a' w' := by
  have h1 := stepR_loop (P := P) (b := b) (a := a) (k := k) (cs := cs) (w := w) (c := c)
  have h2 := stepR_inLoop (P := P) (b := b) (a := a) (k := k) (cs := cs) (w := w) (c := c)
  have key : ∀ m', Steps P (lone (b.atR a (.code (.loop c) :: k)) cs w) m' → todoOf m' ≠ (.code (.loop c) :: k) → Steps P (lone (b.atR a (.inLoop c :: k)) cs w) m' := by
    intro m' hs hne
    exact .head h2 (Steps.tail hs h1 (by rw [todoOf_lone]; exact fun e => hne e.symm))
  cases x with
  | normal =>
    refine key _ h ?_
    rw [todoOf_lone]
    intro e
    have : k.length = k.length + 1 := congrArg List.length e
    omega
  | ret =>
    obtain ⟨T, h⟩ := h
    refine ⟨T, key _ h ?_⟩
    rw [todoOf_lone]
    intro e
    have e : (Item.code .ret :: T) = .code (.loop c) :: k := e
    injection e with e1 _
    injection e1 with e1
    cases e1
  | exit id =>
    obtain ⟨T, e0, h⟩ := h
    refine ⟨T, e0, key _ h ?_⟩
    rw [todoOf_lone]
    intro e
    have e : (Item.code (.exit id) :: T) = .code (.loop c) :: k := e
    injection e with e1 _
    injection e1 with e1
    cases e1

/-- the one call of a range over a function -/
theorem range_call (hE : EnvOK P E) (hN : NextSim P rc) {f : Operand} {ps : Array Tmp} {as bd : Code} {l l' : Nat} {mk' : List Deferred} {s1 s2 s3 : S} {mk : List Deferred} {g : FuncId} {args : List Value} {v : Value} {ρ1 : Ren} {w1 : World}
    (hcall : (rangeCall E (fr.ev f) l).run s1 = some (.enter g args, s2)) (hrc : rc (.next (.enter g args)) s2 = some (.val v, s3)) (hm2 : s2.mark ≤ s2.next) (hl : s3.next ≤ q.hi)
    (hA : ActR ρ fr a) (hB : BaseR ρ fr b) (c1 : (Instr.enterLoop b.fn a.tmps ps as bd b.roundOf).run P w = .ok (l', mk') w1) (c2 : Rep P q ρ1 s1 w1) (c3 : Evo ρ w ρ1 w1) (c4 : ρ1 l = some (l', 0, 0)) (c5 : DsR ρ1 mk mk') {k : List Item} {cs : List Frame} :
    ∃ ρ3 w3, Rep P q ρ3 s3 w3 ∧ Evo ρ w ρ3 w3 ∧ ρ1.le ρ3 ∧ Steps P (lone (b.atR a (.code (.rangeFunc f ps as bd) :: k)) cs w) (lone (b.atR { a with defers := mk' ++ a.defers } (.endRangeFunc l' :: k)) cs w3) := by
  unfold rangeCall at hcall
  split at hcall
  · rename_i fn first captured hf
    have hv := (hA.mono c3.sub).ev _ _ hf
    have key : ∃ fn' first' captured', a.eval f = .func fn' ⟨first'⟩ ⟨captured'⟩ ∧ LR ρ1 first first' ∧ LR ρ1 captured captured' ∧ ((∃ f, fn = .func f ∧ fn' = .func f) ∨ (∃ l b base ex, fn = .yield l ∧ fn' = .yield b ∧ ρ1 l = some (b, base, ex))) := by
      cases fn with
      | func g =>
        obtain ⟨a', b', q1, q2, q3⟩ := hv.func_inv
        exact ⟨_, _, _, q1, q2, q3, .inl ⟨g, rfl, rfl⟩⟩
      | yield l =>
        obtain ⟨c, base, ex, q1, q2, q3, q4⟩ := hv.yield_inv
        cases q3; cases q4
        exact ⟨_, [], [], q1, .nil, .nil, .inr ⟨l, c, base, ex, rfl, rfl, q2⟩⟩
      | _ => simp [targetA, AM.run] at hcall
    obtain ⟨fn', first', captured', e1, e2, e3, e4⟩ := key
    have hy : LR ρ1 (first ++ [yieldV l]) (first' ++ [.func (.yield l') #[] #[]]) := e2.append (.cons (.yield c4) .nil)
    obtain ⟨ρ2, nx', w2, f1, f2, f3, f4⟩ := targetA_sound hE c2 e4 e3 hy hcall
    cases f4 with
    | enter hargs =>
      rename_i args'
      have hres : (resolve a.eval (Go.rangeCall f l') 0).run P w1 = .ok { target := .fn fn' ⟨captured'⟩, args := ⟨first' ++ [.func (.yield l') #[] #[]]⟩ } w1 := by
        have ec : ∀ y, a.eval (.const y) = y := fun _ => rfl
        simp [resolve, Go.rangeCall, Deferred.ofValue, e1, ec]
      obtain ⟨ρ3, v', w3, g1, g2, g3, g4⟩ := hN q ρ2 _ _ _ _ _ w2 _ hrc hm2 hl f2 (.enter hargs) rfl (b.atR { a with defers := mk' ++ a.defers } (.inRangeFunc l' :: k)) cs
      refine ⟨ρ3, w3, g1, (c3.trans f3).trans g2, f3.sub.trans g2.sub, .head (stepR_rangeFunc c1 hres f1) ?_⟩
      rw [← finish_atR_inRangeFunc l' v']
      exact g4
  · cases hcall

theorem code_sim (hE : EnvOK P E) (hmix : P.follows .mixedOrders = true) (hL : ∀ t, Loc (rc t)) (hC : CodeSim P rc) (hN : NextSim P rc) : CodeSim P (fun t s => match t with | .code c fr => evCode rc E c fr s | t => none) := by
  intro q ρ c fr s x fr' s' w a b h hm hl hR hA hB k cs
  simp only at h
  cases c with
  | skip =>
    simp only [evCode] at h; cases h
    exact ⟨ρ, a, w, hR, Evo.refl _ _, hA, rfl, rfl, .one stepR_skip⟩
  | label l =>
    simp only [evCode] at h; cases h
    exact ⟨ρ, a, w, hR, Evo.refl _ _, hA, rfl, rfl, .one stepR_label⟩
  | exit id =>
    simp only [evCode] at h; cases h
    exact ⟨ρ, a, w, hR, Evo.refl _ _, hA, rfl, rfl, k, rfl, .refl _ _⟩
  | ret =>
    simp only [evCode] at h; cases h
    exact ⟨ρ, a, w, hR, Evo.refl _ _, hA, rfl, rfl, k, .refl _ _⟩
  | region id ops d =>
    simp only [evCode] at h
    obtain ⟨rfl, ρ', a', w', h1, h2, h3, h4, h5, h6⟩ := region_sim hE hN hL hmix h hm hl hR hA hB id k cs
    exact ⟨ρ', a', w', h1, h2, h3, h4, h5, h6⟩
  | cond c x1 x2 =>
    simp only [evCode] at h
    split at h
    · rename_i hc
      obtain ⟨ρ', a', w', h1, h2, h3, h4, h5, h6⟩ := hC q ρ _ _ _ _ _ _ w a b h hm hl hR hA hB k cs
      exact ⟨ρ', a', w', h1, h2, h3, h4, h5, .of_steps (.one (stepR_cond (hA.ev _ _ hc).bool_inv)) h6⟩
    · rename_i hc
      obtain ⟨ρ', a', w', h1, h2, h3, h4, h5, h6⟩ := hC q ρ _ _ _ _ _ _ w a b h hm hl hR hA hB k cs
      exact ⟨ρ', a', w', h1, h2, h3, h4, h5, .of_steps (.one (stepR_cond (hA.ev _ _ hc).bool_inv)) h6⟩
    · cases h
  | seq x1 x2 =>
    simp only [evCode] at h
    cases hr : rc (.code x1 fr) s with
    | none => rw [hr] at h; cases h
    | some p =>
      obtain ⟨o, s1⟩ := p
      rw [hr] at h
      have A := hL _ _ _ _ hr hm
      have hm1 : s1.mark ≤ s1.next := by rw [A.mark]; exact Nat.le_trans hm A.next
      cases o with
      | val v => simp only at h; cases h
      | fr x0 fr1 =>
        cases x0 with
        | normal =>
          simp only at h
          have B := hL _ _ _ _ h hm1
          obtain ⟨ρ1, a1, w1, h1, h2, h3, h4, h5, h6⟩ := hC q ρ _ _ _ _ _ _ w a b hr hm (Nat.le_trans B.next hl) hR hA hB (.code x2 :: k) cs
          obtain ⟨ρ2, a2, w2, g1, g2, g3, g4, g5, g6⟩ := hC q ρ1 _ _ _ _ _ _ w1 a1 b h hm1 hl h1 h3 ((hB.mono h2.sub).of h4 h5) k cs
          exact ⟨ρ2, a2, w2, g1, h2.trans g2, g3, g4.trans h4, g5.trans h5, .of_steps (.head stepR_seq h6) g6⟩
        | ret =>
          simp only at h; cases h
          obtain ⟨ρ1, a1, w1, h1, h2, h3, h4, h5, h6⟩ := hC q ρ _ _ _ _ _ _ w a b hr hm hl hR hA hB (.code x2 :: k) cs
          exact ⟨ρ1, a1, w1, h1, h2, h3, h4, h5, Arr.of_steps (.one stepR_seq) h6⟩
        | exit id =>
          simp only at h; cases h
          obtain ⟨ρ1, a1, w1, h1, h2, h3, h4, h5, T, e, h6⟩ := hC q ρ _ _ _ _ _ _ w a b hr hm hl hR hA hB (.code x2 :: k) cs
          exact ⟨ρ1, a1, w1, h1, h2, h3, h4, h5, T, e, .head stepR_seq h6⟩
  | block id body =>
    simp only [evCode] at h
    cases hr : rc (.code body fr) s with
    | none => rw [hr] at h; cases h
    | some p =>
      obtain ⟨o, s1⟩ := p
      rw [hr] at h
      cases o with
      | val v => simp only at h; cases h
      | fr x0 fr1 =>
        cases x0 with
        | normal =>
          simp only at h; cases h
          obtain ⟨ρ1, a1, w1, h1, h2, h3, h4, h5, h6⟩ := hC q ρ _ _ _ _ _ _ w a b hr hm hl hR hA hB (.inBlock id :: k) cs
          exact ⟨ρ1, a1, w1, h1, h2, h3, h4, h5, .head stepR_block (Steps.trans h6 (.one stepR_inBlock))⟩
        | ret =>
          simp only at h; cases h
          obtain ⟨ρ1, a1, w1, h1, h2, h3, h4, h5, h6⟩ := hC q ρ _ _ _ _ _ _ w a b hr hm hl hR hA hB (.inBlock id :: k) cs
          exact ⟨ρ1, a1, w1, h1, h2, h3, h4, h5, Arr.of_steps (.one stepR_block) h6⟩
        | exit i =>
          simp only at h
          split at h
          · rename_i hq
            have hq := beq_iff.1 hq
            subst hq
            cases h
            obtain ⟨ρ1, a1, w1, h1, h2, h3, h4, h5, T, e, h6⟩ := hC q ρ _ _ _ _ _ _ w a b hr hm hl hR hA hB (.inBlock i :: k) cs
            have e2 : exitTo i T = some k := by rw [e]; simp [exitTo]
            exact ⟨ρ1, a1, w1, h1, h2, h3, h4, h5, .head stepR_block (Steps.trans h6 (.one (stepR_exit e2)))⟩
          · rename_i hq
            have hq := beq_false hq
            cases h
            obtain ⟨ρ1, a1, w1, h1, h2, h3, h4, h5, T, e, h6⟩ := hC q ρ _ _ _ _ _ _ w a b hr hm hl hR hA hB (.inBlock id :: k) cs
            have e2 : exitTo i T = exitTo i k := by
              rw [e]
              have : (id == i) = false := by simp; exact fun h => hq h.symm
              simp [exitTo, this]
            exact ⟨ρ1, a1, w1, h1, h2, h3, h4, h5, T, e2, .head stepR_block h6⟩
  | loop body =>
    simp only [evCode] at h
    cases hr : rc (.code body fr) s with
    | none => rw [hr] at h; cases h
    | some p =>
      obtain ⟨o, s1⟩ := p
      rw [hr] at h
      have A := hL _ _ _ _ hr hm
      have hm1 : s1.mark ≤ s1.next := by rw [A.mark]; exact Nat.le_trans hm A.next
      cases o with
      | val v => simp only at h; cases h
      | fr x0 fr1 =>
        cases x0 with
        | normal =>
          simp only at h
          have B := hL _ _ _ _ h hm1
          obtain ⟨ρ1, a1, w1, h1, h2, h3, h4, h5, h6⟩ := hC q ρ _ _ _ _ _ _ w a b hr hm (Nat.le_trans B.next hl) hR hA hB (.inLoop body :: k) cs
          obtain ⟨ρ2, a2, w2, g1, g2, g3, g4, g5, g6⟩ := hC q ρ1 _ _ _ _ _ _ w1 a1 b h hm1 hl h1 h3 ((hB.mono h2.sub).of h4 h5) k cs
          exact ⟨ρ2, a2, w2, g1, h2.trans g2, g3, g4.trans h4, g5.trans h5, .of_steps (.head stepR_loop h6) (Arr.inLoop g6)⟩
        | ret =>
          simp only at h; cases h
          obtain ⟨ρ1, a1, w1, h1, h2, h3, h4, h5, h6⟩ := hC q ρ _ _ _ _ _ _ w a b hr hm hl hR hA hB (.inLoop body :: k) cs
          exact ⟨ρ1, a1, w1, h1, h2, h3, h4, h5, Arr.of_steps (.one stepR_loop) h6⟩
        | exit id =>
          simp only at h; cases h
          obtain ⟨ρ1, a1, w1, h1, h2, h3, h4, h5, T, e, h6⟩ := hC q ρ _ _ _ _ _ _ w a b hr hm hl hR hA hB (.inLoop body :: k) cs
          exact ⟨ρ1, a1, w1, h1, h2, h3, h4, h5, T, e, .head stepR_loop h6⟩
  | rangeFunc f ps as bd =>
    simp only [evCode, evRange] at h
    split at h
    · cases h
    · rename_i l mk s1 he
      split at h
      · cases h
      · rename_i n s2 hcall
        have A1 := Loc.am _ _ _ _ he hm
        have hm1 : s1.mark ≤ s1.next := by rw [A1.mark]; exact Nat.le_trans hm A1.next
        have A2 := Loc.am _ _ _ _ hcall hm1
        have hm2 : s2.mark ≤ s2.next := by rw [A2.mark]; exact Nat.le_trans hm1 A2.next
        unfold evCall at h
        split at h
        · rename_i g args
          split at h
          · rename_i v s3 hrc
            have A3 := hL _ _ _ _ hrc hm2
            have hm3 : s3.mark ≤ s3.next := by rw [A3.mark]; exact Nat.le_trans hm2 A3.next
            unfold evFin at h
            split at h
            · cases h
            · rename_i s4 hfin
              cases h
              have A4 := Loc.am _ _ _ _ hfin hm3
              obtain ⟨ρ1, l', mk', w1, c1, c2, c3, c4, c5⟩ := enter_sim hR hA hB he (Nat.le_trans A2.next (Nat.le_trans A3.next (Nat.le_trans A4.next hl)))
              obtain ⟨ρ3, w3, d1, d2, d3, d4⟩ := range_call hE hN hcall hrc hm2 (Nat.le_trans A4.next hl) hA hB c1 c2 c3 c4 c5 (k := k) (cs := cs)
              obtain ⟨w4, f1, f2, f3⟩ := fin_sim d1 (d3 _ _ c4) hfin
              refine ⟨ρ3, { a with defers := mk' ++ a.defers }, w4, f2, d2.trans f3, ?_, rfl, rfl, Steps.trans d4 (.one (stepR_endRangeFunc f1))⟩
              have hA3 := hA.mono d2.sub
              exact ⟨hA3.1, (c5.mono d3).append hA3.2.1, hA3.2.2⟩
            · rename_i c s4 hfin
              have A4 := Loc.am _ _ _ _ hfin hm3
              have hm4 : s4.mark ≤ s4.next := by rw [A4.mark]; exact Nat.le_trans hm3 A4.next
              have A5 := hL _ _ _ _ h hm4
              obtain ⟨ρ1, l', mk', w1, c1, c2, c3, c4, c5⟩ := enter_sim hR hA hB he (Nat.le_trans A2.next (Nat.le_trans A3.next (Nat.le_trans A4.next (Nat.le_trans A5.next hl))))
              obtain ⟨ρ3, w3, d1, d2, d3, d4⟩ := range_call hE hN hcall hrc hm2 (Nat.le_trans A4.next (Nat.le_trans A5.next hl)) hA hB c1 c2 c3 c4 c5 (k := k) (cs := cs)
              obtain ⟨w4, f1, f2, f3⟩ := fin_sim d1 (d3 _ _ c4) hfin
              have hA3 := hA.mono d2.sub
              have hA4 : ActR ρ3 ⟨fr.fn, fr.tmps, fr.n, mk ++ fr.defers, fr.round⟩ { a with defers := mk' ++ a.defers } := ⟨hA3.1, (c5.mono d3).append hA3.2.1, hA3.2.2⟩
              have hB4 : BaseR ρ3 ⟨fr.fn, fr.tmps, fr.n, mk ++ fr.defers, fr.round⟩ b := (hB.mono d2.sub).of rfl rfl
              obtain ⟨ρ5, a5, w5, g1, g2, g3, g4, g5, g6⟩ := hC q ρ3 _ _ _ _ _ _ w4 _ b h hm4 hl f2 hA4 hB4 k cs
              exact ⟨ρ5, a5, w5, g1, (d2.trans f3).trans g2, g3, g4, g5, .of_steps (Steps.trans d4 (.one (stepR_endRangeFunc f1))) g6⟩
          · cases h
        · cases h
  | _ => simp only [evCode] at h; cases h
end
end Go.AE
