/- Each operation over the named memory does what the world's does: equality, numbers, what is built. No program is named here. -/
import Derived.Test.YtgofanjbhbeniaaDoorAe6
import Derived.Laws.StructEq
import GoSem.Dispatch
noncomputable section
namespace Go.AE
set_option linter.unusedVariables false
set_option linter.unusedSimpArgs false

theorem eqBytes_eq : ∀ (a b : List UInt8), eqBytes a b = (a == b)
  | [], [] => rfl
  | [], _ :: _ => rfl
  | _ :: _, [] => rfl
  | a :: l, b :: r => by
    simp only [eqBytes]
    have ih := eqBytes_eq l r
    by_cases h : a = b
    · subst h
      rw [show Nat.beq a.toNat a.toNat = true from by simp]
      simp only [ih]
      simp
    · have : Nat.beq a.toNat b.toNat = false := by
        rw [beq_dec, decide_eq_false]
        intro h'; exact h (UInt8.toNat_inj.1 h')
      rw [this]
      simp [h]
theorem eqBytes_ba (a b : ByteArray) : eqBytes a.data.toList b.data.toList = (a.toList == b.toList) := by
  rw [eqBytes_eq, ByteArray.toList_eq, ByteArray.toList_eq]
theorem eqBool_eq (a b : Bool) : eqBool a b = (a == b) := by cases a <;> cases b <;> rfl
theorem eqI_beq (a b : Int) : eqI a b = (a == b) := by
  rw [eqI_eq]; rfl

section
variable {P : Program} {E : Env} {q : Free} {ρ : Ren} {w : World}

theorem run_eqFields_cons (d : Nat) (xs ys : Array Value) (f : Field) (fs : List Field) (hf : ¬ f.name = "_") :
    (Op.eqFields d xs ys (f :: fs)).run P w = ((part f.type xs f.offset).run P w).andThen fun a w => ((part f.type ys f.offset).run P w).andThen fun b w => ((Op.equalIn d f.type a b).run P w).andThen fun r w =>
      if (!r) = true then .ok false w else (Op.eqFields d xs ys fs).run P w := by
  simp only [Op.eqFields, ne_eq, hf, not_false_eq_true, if_true, Sem.run_bind]
  congr 1; funext a w; congr 1; funext b w; congr 1; funext r w
  cases r <;> simp

def LoopEq (P : Program) (D : Nat) (e : TypeId) (xs ys : Array Value) (k m : Nat) (b : Bool) (w : World) : Prop :=
  ((Sem.run P (forIn (List.range' k m 1) ((none, ()) : Option Bool × Unit) fun i _ => do
        let a ← part e xs (i * 1)
        let c ← part e ys (i * 1)
        let r ← Op.equalIn D e a c
        if (!r) = true then pure (ForInStep.done (some false, ())) else pure (ForInStep.yield (none, ()))) w).andThen fun a w' =>
      Sem.run P (match a.fst with
        | some r => pure r
        | none => pure true) w') = Result.ok b w

theorem eq_sound (hE : EnvOK P E) : ∀ d,
    (∀ t x y x' y' b, eqV E d t x y = some b → VR ρ x x' → VR ρ y y' → ∀ D, d ≤ D → ∀ w, (Op.equalIn D t x' y').run P w = .ok b w) ∧
    (∀ fs xs ys xs' ys' b, eqFs E d fs xs ys = some b → LR ρ xs xs' → LR ρ ys ys' → ∀ D, d ≤ D → ∀ w, (Op.eqFields D ⟨xs'⟩ ⟨ys'⟩ fs).run P w = .ok b w) ∧
    (∀ e xs ys b, eqEs E d e xs ys = some b → xs.length = ys.length → (∀ j, E.ty.get e = some j → isAggD j.desc = false → ∀ (XS YS XS' YS' : List Value) k, LR ρ XS XS' → LR ρ YS YS' → XS.drop k = xs → YS.drop k = ys → ∀ D, d ≤ D → ∀ w, LoopEq P D e ⟨XS'⟩ ⟨YS'⟩ k xs.length b w)) := by
  intro d
  induction d with
  | zero => exact ⟨fun t x y x' y' b h => by simp [eqV] at h, fun fs xs ys xs' ys' b h => by simp [eqFs] at h, fun e xs ys b h => by simp [eqEs] at h⟩
  | succ d ih =>
    obtain ⟨ihV, ihF, ihE⟩ := ih
    refine ⟨?_, ?_, ?_⟩
    · intro t x y x' y' b h hx hy D hD w
      obtain ⟨D, rfl⟩ : ∃ D', D = D' + 1 := ⟨D - 1, by omega⟩
      simp only [eqV] at h
      split at h
      · cases h
      · rename_i i hi
        have hu : P.underlying t = some i.desc := by obtain ⟨ti, h1, h2, h3, h4, h5⟩ := hE.ty t i hi; exact h4
        split at h
        · rename_i a b' hd; rw [hd] at hu; cases h
          rw [hx.bool_inv, hy.bool_inv, run_equalIn_bool' w D t a b' hu, eqBool_eq]
        · rename_i k a k' b' hd; rename_i kk _ _; 
          split at h
          · rename_i hk; subst hk; cases h
            rw [hx.int_inv, hy.int_inv, eqI_beq]
            exact run_equalIn_int w D t _ _ _ _ (by rw [hu, hd])
          · cases h
        · rename_i a b' hd; rw [hd] at hu; cases h
          rw [hx.string_inv, hy.string_inv, run_equalIn_string w D t a b' hu, eqBytes_ba]
        · rename_i fs xs ys hd
          split at h
          · cases h
          · rename_i hg
            have hg2 : P.stoodInHeld t = false := by obtain ⟨ti, h1, h2, h3, h4, h5, h6⟩ := hE.ty t i hi; exact (h6 hg).2
            obtain ⟨xs', rfl, hxl⟩ := hx.agg_inv
            obtain ⟨ys', rfl, hyl⟩ := hy.agg_inv
            have hfs : P.fieldsOf t = fs := by simp [Program.fieldsOf, hu, hd]
            rw [run_equalIn_struct w D t _ _ (by rw [hu, hd, hfs]) hg2, hfs]
            exact ihF _ _ _ _ _ _ h hxl hyl D (by omega) w
        · rename_i n e xs ys hd
          split at h
          · cases h
          · rename_i j hj
            split at h
            · rename_i hb
              obtain ⟨xs', rfl, hxl⟩ := hx.agg_inv
              obtain ⟨ys', rfl, hyl⟩ := hy.agg_inv
              unfold arrB at hb
              split at hb
              · rename_i hg hagg
                simp only [Bool.and_eq_true, beq_iff] at hb
                obtain ⟨⟨hs1, hlx⟩, hly⟩ := hb
                have hl := ihE _ _ _ _ h (by omega)
                have := hl j hj hagg xs ys xs' ys' 0 hxl hyl rfl rfl D (by omega) w
                unfold LoopEq at this
                rw [hlx] at this
                simp only [Op.equalIn, Sem.run_bind, run_under hE hi, hd, Result.andThen_ok, run_size hE hj, hs1, Std.Legacy.Range.forIn_eq_forIn_range', Std.Legacy.Range.size, Nat.sub_zero, Nat.add_sub_cancel, Nat.div_one]
                refine Eq.trans ?_ this
                congr 1
                funext a w'
                obtain ⟨x, u⟩ := a
                cases x <;> rfl
              · cases hb
            · cases h
        · rename_i pe a b' hd
          rw [hd] at hu
          unfold nilEq at h
          split at h
          · cases h
            cases hx; cases hy
            simp [Op.equalIn, run_underlying hu]
          · cases h
            cases hx
            obtain ⟨a', rfl, _⟩ := hy.ptr_inv
            simp [Op.equalIn, run_underlying hu]
          · cases h
            cases hy
            obtain ⟨a', rfl, _⟩ := hx.ptr_inv
            simp [Op.equalIn, run_underlying hu]
          · cases h
        · rename_i ke ve a b' hd
          rw [hd] at hu
          unfold nilEq at h
          split at h
          · cases h
            rw [hx.mapN_inv, hy.mapN_inv]
            simp [Op.equalIn, run_underlying hu]
          · cases h
            rw [hx.mapN_inv]
            obtain ⟨a', _, _, rfl, _⟩ := hy.map_inv
            simp [Op.equalIn, run_underlying hu]
          · cases h
            rw [hy.mapN_inv]
            obtain ⟨a', _, _, rfl, _⟩ := hx.map_inv
            simp [Op.equalIn, run_underlying hu]
          · cases h
        · rename_i el a l1 c1 b' l2 c2 hd
          rw [hd] at hu
          obtain ⟨a1, ca, rfl, sa⟩ := hx.slice_len
          obtain ⟨b1, cb, rfl, sb⟩ := hy.slice_len
          unfold nilEq at h
          split at h
          · cases h
            cases a1 <;> cases b1 <;> first | (cases sa; done) | (cases sb; done) | simp [Op.equalIn, run_underlying hu]
          · cases h
            cases a1 <;> cases b1 <;> first | (cases sa; done) | (cases sb; done) | simp [Op.equalIn, run_underlying hu]
          · cases h
            cases a1 <;> cases b1 <;> first | (cases sa; done) | (cases sb; done) | simp [Op.equalIn, run_underlying hu]
          · cases h
        · rename_i hd; rw [hd] at hu; cases h; cases hx; cases hy
          simp [Op.equalIn, run_underlying hu]
        · rename_i hd; rw [hd] at hu; cases h; cases hx
          cases hy <;> simp [Op.equalIn, run_underlying hu]
        · rename_i hd; rw [hd] at hu; cases h; cases hy
          cases hx <;> simp [Op.equalIn, run_underlying hu]
        · cases h
    · intro fs xs ys xs' ys' b h hx hy D hD w
      cases fs with
      | nil => simp only [eqFs] at h; cases h; rfl
      | cons f fs =>
        simp only [eqFs] at h
        split at h
        · cases h
        · rename_i hf
          split at h
          · cases h
          · rename_i j hj
            split at h
            · rename_i a c ha hc
              obtain ⟨a', pa, va⟩ := partA_sound hE hj hx ha w
              obtain ⟨c', pc, vc⟩ := partA_sound hE hj hy hc w
              rw [run_eqFields_cons D _ _ f fs hf, pa]
              simp only [Result.andThen_ok, pc]
              split at h
              · rename_i he
                rw [ihV _ _ _ _ _ _ he va vc D (by omega) w]
                simp only [Result.andThen_ok, Bool.not_true, Bool.false_eq_true, if_false]
                exact ihF _ _ _ _ _ _ h hx hy D (by omega) w
              · rename_i hne
                cases b with
                | true => exact absurd h hne
                | false =>
                  rw [ihV _ _ _ _ _ _ h va vc D (by omega) w]
                  simp
            · cases h
    · intro e xs ys b h hlen j hj hagg XS YS XS' YS' k hX hY dX dY D hD w
      cases xs with
      | nil =>
        cases ys with
        | nil =>
          simp only [eqEs] at h; cases h
          simp [LoopEq]
        | cons y ys => simp [eqEs] at h
      | cons x xs =>
        cases ys with
        | nil => simp [eqEs] at h
        | cons y ys =>
          simp only [eqEs] at h
          have gx : XS[k]? = some x := by
            have : (XS.drop k)[0]? = some x := by rw [dX]; rfl
            simpa using this
          have gy : YS[k]? = some y := by
            have : (YS.drop k)[0]? = some y := by rw [dY]; rfl
            simpa using this
          obtain ⟨x', gx', vx⟩ := hX.get _ _ gx
          obtain ⟨y', gy', vy⟩ := hY.get _ _ gy
          have px : (part e ⟨XS'⟩ (k * 1)).run P w = .ok x' w := by simp [part, run_agg hE hj, hagg, gx']
          have py : (part e ⟨YS'⟩ (k * 1)).run P w = .ok y' w := by simp [part, run_agg hE hj, hagg, gy']
          unfold LoopEq
          simp only [List.length_cons, List.range'_succ, List.forIn_cons, Sem.run_bind, px, py, Result.andThen_ok]
          split at h
          · rename_i he
            rw [ihV _ _ _ _ _ _ he vx vy D (by omega) w]
            have := ihE _ _ _ _ h (by simpa using hlen) j hj hagg XS YS XS' YS' (k + 1) hX hY (by rw [← List.drop_drop, dX]; rfl) (by rw [← List.drop_drop, dY]; rfl) D (by omega) w
            unfold LoopEq at this
            simpa using this
          · rename_i hne
            cases b with
            | true => exact absurd h hne
            | false =>
              rw [ihV _ _ _ _ _ _ h vx vy D (by omega) w]
              simp

theorem eqTop_sound (hE : EnvOK P E) {t : TypeId} {x y x' y' : Value} {b : Bool} (h : eqTop E t x y = some b) (hx : VR ρ x x') (hy : VR ρ y y') (ox oy : Operand) (w : World) :
    ((eqGuard .eql t ox oy x' y').run P w = .ok () w ∧ (eqGuard .neq t ox oy x' y').run P w = .ok () w) ∧ (binOp .eql t x' y').run P w = .ok (.bool b) w ∧ (binOp .neq t x' y').run P w = .ok (.bool (!b)) w := by
  unfold eqTop at h
  split at h
  · cases h
  · cases h
  · rename_i a c
    cases h
    rw [hx.string_inv, hy.string_inv]
    refine ⟨⟨rfl, rfl⟩, ?_, ?_⟩
    · show (Op.stringOp .eql a c).run P w = _
      simp [Op.stringOp, eqBytes_ba]
    · show (Op.stringOp .neq a c).run P w = _
      simp [Op.stringOp, eqBytes_ba]
  · rename_i h1 h2 h3
    have he := (eq_sound (ρ := ρ) hE 1000).1 t x y x' y' b h hx hy 10000 (by omega) w
    have key : (eqGuard .eql t ox oy x' y').run P w = .ok () w ∧ (eqGuard .neq t ox oy x' y').run P w = .ok () w := by
      simp only [eqV] at h
      split at h
      · cases h
      · rename_i i hi
        split at h
        case _ a b' hd => rw [hx.bool_inv, hy.bool_inv]; exact ⟨rfl, rfl⟩
        case _ => exact absurd rfl (h2 _ _)
        case _ => exact absurd rfl (h3 _ _ rfl)
        case _ fs xs ys hd =>
          obtain ⟨xs', rfl, hxl⟩ := hx.agg_inv
          obtain ⟨ys', rfl, hyl⟩ := hy.agg_inv
          split at h
          · cases h
          · rename_i hg
            have hg2 : P.eqGuardType P.depth t = false := by obtain ⟨ti, g1, g2, g3, g4, g5, g6⟩ := hE.ty t i hi; exact (g6 hg).1
            simp [eqGuard, hg2]
        case _ n e xs ys hd =>
          obtain ⟨xs', rfl, hxl⟩ := hx.agg_inv
          obtain ⟨ys', rfl, hyl⟩ := hy.agg_inv
          split at h
          · cases h
          · rename_i j hj
            split at h
            · rename_i hb
              have hg : i.guard = false := by
                unfold arrB at hb
                split at hb
                · assumption
                · cases hb
              have hg2 : P.eqGuardType P.depth t = false := by obtain ⟨ti, g1, g2, g3, g4, g5, g6⟩ := hE.ty t i hi; exact (g6 hg).1
              simp [eqGuard, hg2]
            · cases h
        case _ pe a b' hd => cases hx <;> cases hy <;> exact ⟨rfl, rfl⟩
        case _ => cases hx <;> cases hy <;> exact ⟨rfl, rfl⟩
        case _ => cases hx <;> cases hy <;> exact ⟨rfl, rfl⟩
        case _ => cases hx; cases hy; exact ⟨rfl, rfl⟩
        case _ => cases hx; cases hy <;> exact ⟨rfl, rfl⟩
        case _ => cases hy; cases hx <;> exact ⟨rfl, rfl⟩
        case _ => cases h
    refine ⟨key, ?_⟩
    have hb : ∀ op, op = BinOp.eql ∨ op = BinOp.neq → (binOp op t x' y').run P w = ((Op.equalIn 10000 t x' y').run P w).andThen fun r w => .ok (.bool (if op = .eql then r else !r)) w := by
      intro op ho
      simp only [eqV] at h
      split at h
      · cases h
      · rename_i i hi
        split at h
        case _ a b' hd => rw [hx.bool_inv, hy.bool_inv]; rcases ho with rfl | rfl <;> simp [binOp, Op.equal, Op.maxDepth]
        case _ => exact absurd rfl (h2 _ _)
        case _ => exact absurd rfl (h3 _ _ rfl)
        case _ fs xs ys hd =>
          obtain ⟨xs', rfl, hxl⟩ := hx.agg_inv
          obtain ⟨ys', rfl, hyl⟩ := hy.agg_inv
          rcases ho with rfl | rfl <;> simp [binOp, Op.equal, Op.maxDepth]
        case _ n e xs ys hd =>
          obtain ⟨xs', rfl, hxl⟩ := hx.agg_inv
          obtain ⟨ys', rfl, hyl⟩ := hy.agg_inv
          rcases ho with rfl | rfl <;> simp [binOp, Op.equal, Op.maxDepth]
        case _ pe a b' hd => rcases ho with rfl | rfl <;> cases hx <;> cases hy <;> simp [binOp, Op.equal, Op.maxDepth]
        case _ => rcases ho with rfl | rfl <;> cases hx <;> cases hy <;> simp [binOp, Op.equal, Op.maxDepth]
        case _ => rcases ho with rfl | rfl <;> cases hx <;> cases hy <;> simp [binOp, Op.equal, Op.maxDepth]
        case _ => rcases ho with rfl | rfl <;> cases hx <;> cases hy <;> simp [binOp, Op.equal, Op.maxDepth]
        case _ => rcases ho with rfl | rfl <;> cases hx <;> cases hy <;> simp [binOp, Op.equal, Op.maxDepth]
        case _ => rcases ho with rfl | rfl <;> cases hy <;> cases hx <;> simp [binOp, Op.equal, Op.maxDepth]
        case _ => cases h
    constructor
    · rw [hb _ (.inl rfl), he]; simp
    · rw [hb _ (.inr rfl), he]; simp

theorem aBin_sound (hE : EnvOK P E) {s s' : S} {fr : Fr} {e : Operand → Value} {nx : ANext} (hR : Rep P q ρ s w) (hev : ∀ x v, fr.ev x = some v → VR ρ v (e x)) {op : BinOp} {t : TypeId} {x y : Operand} (h : (aBin E fr op t x y).run s = some (nx, s')) :
    ValRes P q ρ w s' nx ((do eqGuard op t x y (e x) (e y); binOp op t (e x) (e y) : Sem Value).run P w) := by
  obtain ⟨a, ha, h1⟩ := run_opt h
  obtain ⟨b, hb, h2⟩ := run_opt h1
  obtain ⟨v, hv, hfin⟩ := run_opt h2
  clear h h1 h2
  have va := hev _ _ ha
  have vb := hev _ _ hb
  unfold binA at hv
  split at hv
  · rename_i k a k' b
    rw [va.int_inv, vb.int_inv]
    have hg : (eqGuard op t x y (.int k a) (.int k' b)).run P w = .ok () w := by
      unfold eqGuard; cases op <;> rfl
    have h2 := intA_run (P := P) (t := t) hv w
    have hfl : VR ρ v v := by
      refine .flat ?_
      unfold intA at hv
      cases op <;> simp only [arithA, shiftA] at hv <;> (repeat' split at hv) <;> first | (cases hv; done) | (cases hv; rfl)
    exact .here hR hfl (by simp [hg, h2]) hfin
  · split at hv
    · cases hq : eqTop E t a b with
      | none => rw [hq] at hv; cases hv
      | some r =>
        rw [hq] at hv; cases hv
        obtain ⟨⟨g1, g2⟩, g3, g4⟩ := eqTop_sound hE hq va vb x y w
        exact .here hR (.flat rfl) (by simp [g1, g3]) hfin
    · cases hq : eqTop E t a b with
      | none => rw [hq] at hv; cases hv
      | some r =>
        rw [hq] at hv; cases hv
        obtain ⟨⟨g1, g2⟩, g3, g4⟩ := eqTop_sound hE hq va vb x y w
        exact .here hR (.flat rfl) (by simp [g2, g4]) hfin
    · cases hv
end
end Go.AE
