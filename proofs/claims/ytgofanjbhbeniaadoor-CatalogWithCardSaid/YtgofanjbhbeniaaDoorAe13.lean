/- Every operation over the named memory does what the world's does. No program is named here. -/
import Derived.Test.YtgofanjbhbeniaaDoorAe12
noncomputable section
namespace Go.AE
set_option linter.unusedVariables false
set_option linter.unusedSimpArgs false

section
variable {P : Program} {E : Env} {q : Free} {ρ : Ren} {s s' : S} {w : World} {fr : Fr} {e : Operand → Value} {nx : ANext}

theorem minMax_go (mx : Bool) (k : IntKind) : ∀ (l l' : List Value) (x : Int) (v : Value), minMax.go mx k x l = some v → LR ρ l l' → ∃ y, v = .int k y ∧
    (l'.foldlM (if mx then Builtin.max2 else Builtin.min2) (.int k x) : Sem Value).run P w = .ok (.int k y) w
  | [], l', x, v, h, hl => by
    cases hl
    simp only [minMax.go] at h; cases h
    exact ⟨x, rfl, rfl⟩
  | .int k2 y :: l, l', x, v, h, hl => by
    cases hl with
    | cons a b =>
      have ha := a.int_inv
      subst ha
      simp only [minMax.go] at h
      obtain ⟨z, h1, h2⟩ := minMax_go mx k l _ _ v h b
      refine ⟨z, h1, ?_⟩
      rw [← h2]
      cases mx with
      | true =>
        simp only [List.foldlM_cons, Sem.run_bind, if_true, Builtin.max2, Sem.run_pure, Result.andThen_ok, ltI_eq]
        by_cases hxy : x < y <;> simp [hxy]
      | false =>
        simp only [List.foldlM_cons, Sem.run_bind, if_false, Builtin.min2, Sem.run_pure, Result.andThen_ok, ltI_eq, Bool.false_eq_true]
        by_cases hxy : y < x <;> simp [hxy]
  | .bool _ :: _, _, _, _, h, _ | .float _ _ :: _, _, _, _, h, _ | .complex _ _ _ :: _, _, _, _, h, _ | .string _ :: _, _, _, _, h, _ | .pointer _ :: _, _, _, _, h, _ | .slice _ _ _ :: _, _, _, _, h, _
  | .map _ :: _, _, _, _, h, _ | .chan _ :: _, _, _, _, h, _ | .func _ _ _ :: _, _, _, _, h, _ | .nilFunc :: _, _, _, _, h, _ | .iface _ _ :: _, _, _, _, h, _ | .nilIface :: _, _, _, _, h, _ | .agg _ :: _, _, _, _, h, _ | .tuple _ :: _, _, _, _, h, _ => by simp [minMax.go] at h

theorem minMax_sound (mx : Bool) {l l' : List Value} {v : Value} (h : minMax mx l = some v) (hl : LR ρ l l') (ats : Array TypeId) (ty : TypeId) : ∃ k y, v = .int k y ∧
    (if mx then Builtin.max_ ats ty ⟨l'⟩ else Builtin.min_ ats ty ⟨l'⟩).run P w = .ok (.int k y) w := by
  unfold minMax at h
  split at h
  · cases h
  · rename_i k x rest
    cases hl with
    | cons a b =>
      have ha := a.int_inv
      subst ha
      obtain ⟨y, h1, h2⟩ := minMax_go (P := P) (w := w) mx k _ _ _ _ h b
      refine ⟨k, y, h1, ?_⟩
      cases mx <;> simpa [Builtin.max_, Builtin.min_] using h2
  · cases h

theorem zeroCells_repeat (z : Array Value) (hz : 0 < z.size) (n : Nat) : Builtin.zeroCells z n = ⟨repeatL z.toList n⟩ := range_repeat z hz n

theorem builtinA_sound (hE : EnvOK P E) (hl : s'.next ≤ q.hi) (hR : Rep P q ρ s w) {b : Builtin} {ats : Array TypeId} {args args' : List Value} (ha : LR ρ args args') (ty : TypeId) (cs : Array Bool)
    (h : (builtinA E b ats args).run s = some (nx, s')) : OpRes P q ρ w s' nx ((builtin b ats ty cs ⟨args'⟩).run P w) := by
  unfold builtinA at h
  split at h
  · -- len
    rename_i t r x hats
    obtain ⟨ats⟩ := ats
    simp only at hats; subst hats
    cases ha with
    | cons ax an =>
      cases an
      rename_i x'
      refine ValRes.op (qs := Builtin.len_ ⟨t :: r⟩ ty ⟨[x']⟩) ?_
      obtain ⟨i, hi, h1⟩ := run_opt h
      clear h
      split at h1
      · rename_i a n c hd
        obtain ⟨b', c', rfl, _⟩ := ax.slice_len
        exact .here hR (.flat rfl) (by simp [Builtin.len_, run_under hE hi, hd]; rfl) h1
      · rename_i st hd
        rw [ax.string_inv]
        exact .here hR (.flat rfl) (by simp [Builtin.len_, run_under hE hi, hd]; rfl) h1
      · rename_i n el x2 hd
        exact .here hR (.flat rfl) (by simp [Builtin.len_, run_under hE hi, hd]; rfl) h1
      · rename_i hd
        rw [ax.mapN_inv]
        exact .here hR (.flat rfl) (by simp [Builtin.len_, run_under hE hi, hd]; rfl) h1
      · rename_i hd
        obtain ⟨o, ho, h2⟩ := run_get h1
        obtain ⟨b, base, ex, obj, rfl, hρ, hb, hor⟩ := map_at hR ax ho
        split at h2
        · have hgo := getObj_run (P := P) hb hor rfl
          cases hor with
          | map her =>
            exact .here (hR.seen _) (.flat rfl) (by simp [Builtin.len_, run_under hE hi, hd, hgo, her.length]; rfl) h2
        · cases h2
      · cases h1
  · -- append
    rename_i t t2 r base len cap x hats
    obtain ⟨ats⟩ := ats
    simp only at hats; subst hats
    cases ha with
    | cons a1 an =>
      cases an with
      | cons a2 an =>
        cases an
        rename_i v' x'
        refine ValRes.op (qs := Builtin.append_ ⟨t :: t2 :: r⟩ ty ⟨[v', x']⟩) ?_
        obtain ⟨i, hi, h1⟩ := run_opt h
        obtain ⟨i2, hi2, h2⟩ := run_opt h1
        clear h h1
        split at h2
        · cases h2
        · rename_i el d2 hd hne
          obtain ⟨j, hj, h3⟩ := run_opt h2
          obtain ⟨z, hz, h4⟩ := run_opt h3
          obtain ⟨n, hn, h5⟩ := run_opt h4
          exact appendA_sound hE hl hR ⟨⟨i, hi, hd⟩, ⟨i2, hi2, fun k hk => hne k hk⟩, hj, hz, ⟨r, rfl⟩⟩ a2 a1 hn ty h5
        · cases h2
  · -- copy
    rename_i t r base len cap x hats
    obtain ⟨ats⟩ := ats
    simp only at hats; subst hats
    cases ha with
    | cons a1 an =>
      cases an with
      | cons a2 an =>
        cases an
        rename_i v' x'
        refine ValRes.op (qs := Builtin.copy_ ⟨t :: r⟩ ty ⟨[v', x']⟩) ?_
        obtain ⟨i, hi, h2⟩ := run_opt h
        clear h
        split at h2
        · rename_i el hd
          obtain ⟨j, hj, h3⟩ := run_opt h2
          obtain ⟨n, hn, h5⟩ := run_opt h3
          exact aCopy_sound hE hR hi hd hj rfl a2 a1 hn ty h5
        · cases h2
  · -- max
    refine ValRes.op (qs := Builtin.max_ ats ty ⟨args'⟩) ?_
    obtain ⟨v, hv, h1⟩ := run_opt h
    obtain ⟨k, y, rfl, hq⟩ := minMax_sound (P := P) (w := w) true hv ha ats ty
    exact .here hR (.flat rfl) hq h1
  · -- min
    refine ValRes.op (qs := Builtin.min_ ats ty ⟨args'⟩) ?_
    obtain ⟨v, hv, h1⟩ := run_opt h
    obtain ⟨k, y, rfl, hq⟩ := minMax_sound (P := P) (w := w) false hv ha ats ty
    exact .here hR (.flat rfl) hq h1
  · -- clear
    rename_i t r base len cap hats
    obtain ⟨ats⟩ := ats
    simp only at hats; subst hats
    cases ha with
    | cons a1 an =>
      cases an
      rename_i v'
      refine ValRes.op (qs := Builtin.clear_ ⟨t :: r⟩ ty ⟨[v']⟩) ?_
      obtain ⟨i, hi, h2⟩ := run_opt h
      clear h
      have hund : VR ρ undefV (.tuple #[]) := .tuple .nil
      unfold clearA at h2
      split at h2
      · rename_i el hd
        cases len with
        | zero =>
          obtain ⟨b', c', rfl, _⟩ := a1.slice_len
          exact .here hR hund (by cases b' <;> simp [Builtin.clear_, run_under hE hi, hd]) h2
        | succ n =>
          cases base with
          | none => cases h2
          | some a =>
            obtain ⟨j, hj, h3⟩ := run_opt h2
            obtain ⟨z, hz, h4⟩ := run_opt h3
            obtain ⟨hz1, h5⟩ := run_when h4
            have hz1 := ble_iff.1 hz1
            have hs : a.spot = none := by
              unfold storeA at h5
              split at h5
              · cases h5
              · assumption
            obtain ⟨a', cap', rfl, har⟩ := a1.slice_addr hs
            obtain ⟨s1, w1, h6, b1, b2, b3⟩ := store_sim hR har ((still_cells (ρ := ρ) (zero_still hE hj hz)).repeat _) h5
            obtain ⟨rfl, rfl⟩ := run_val h6
            refine ⟨ρ, _, _, w1, rfl, ?_, b1, b2, hund⟩
            have hzc := zeroCells_repeat z.cells (by have : z.cells.toList.length = z.cells.size := by simp
                                                     omega) (n + 1)
            simp [Builtin.clear_, run_under hE hi, hd, run_zero hE hj w hz, hzc, b3]
      · cases h2
  · -- delete
    rename_i t r m k hats
    obtain ⟨ats⟩ := ats
    simp only at hats; subst hats
    cases ha with
    | cons a1 an =>
      cases an with
      | cons a2 an =>
        cases an
        rename_i m' k'
        refine ValRes.op (qs := Builtin.delete_ ⟨t :: r⟩ ty ⟨[m', k']⟩) ?_
        obtain ⟨i, hi, h2⟩ := run_opt h
        clear h
        have hund : VR ρ undefV (.tuple #[]) := .tuple .nil
        split at h2
        · rename_i kt vt hd
          obtain ⟨j, hj, h3⟩ := run_opt h2
          obtain ⟨hint, h4⟩ := run_when h3
          obtain ⟨o, ho, h5⟩ := run_get h4
          clear h2 h3 h4
          have hk' := a2.int_inv
          subst hk'
          obtain ⟨b, base, ex, obj, rfl, hρ, hb, hor⟩ := map_at hR a1 ho
          split at h5
          · rename_i es clock
            obtain ⟨res, hres, h6⟩ := run_opt h5
            have hgo := getObj_run (P := P) hb hor rfl
            have hor0 := hor
            cases hor with
            | map her =>
              rename_i es'
              obtain ⟨r', hf, hfr⟩ := findKey_run hE hj hint hres her w
              split at h6
              · rename_i ix vx
                cases hfr with
                | some hvx =>
                  obtain ⟨s1, h7, b1, c1, d1⟩ := setO_sim (hR.seen m) (obj1 := .map ((⟨es'⟩ : Array MapEntry).eraseIdxIfInBounds ix) clock) ho hρ hb hor0 rfl
                    (by
                      have := OR.map (P := P) (base := base) (ex := ex) (clock := clock) (dropI_ER (ρ := ρ) ix her)
                      have e : ((⟨es'⟩ : Array MapEntry).eraseIdxIfInBounds ix) = ⟨es'.eraseIdx ix⟩ := by
                        apply Array.ext'; simp
                      rw [e]; exact this) rfl h6
                  obtain ⟨rfl, rfl⟩ := run_val h7
                  refine ⟨ρ, _, _, _, rfl, ?_, b1, c1, hund⟩
                  simp only [Builtin.delete_, List.getElem?_toArray, List.getElem?_cons_zero, List.getElem?_cons_succ, Sem.run_bind, run_under hE hi, hd, Result.andThen_ok, hgo, checkKey_run hE hj hint, hf, d1]
                  rfl
              · cases hfr with
                | none =>
                  obtain ⟨s1, h7, b1, c1, d1⟩ := setO_sim (hR.seen m) (obj1 := .map ⟨es'⟩ clock) ho hρ hb hor0 rfl (OR.map her) rfl h6
                  obtain ⟨rfl, rfl⟩ := run_val h7
                  refine ⟨ρ, _, _, _, rfl, ?_, b1, c1, hund⟩
                  simp only [Builtin.delete_, List.getElem?_toArray, List.getElem?_cons_zero, List.getElem?_cons_succ, Sem.run_bind, run_under hE hi, hd, Result.andThen_ok, hgo, checkKey_run hE hj hint, hf, d1]
                  rfl
          · cases h5
        · cases h2
  · cases h

theorem allBelow_mem {n : Nat} : ∀ {l : List Nat}, allBelow n l = true → ∀ p ∈ l, p < n
  | [], _, p, hp => by cases hp
  | q :: l, h, p, hp => by
    simp only [allBelow] at h
    split at h
    · rename_i hq
      rcases List.mem_cons.1 hp with rfl | hp
      · exact blt_iff.1 hq
      · exact allBelow_mem h p hp
    · cases h

theorem TR.put {t : Tr Value} {n : Nat} {a : Array Value} (h : TR ρ t n a) {d : Nat} (hd : d < n) (hw : d < Tr.wide) {v v' : Value} (hv : VR ρ v v') : TR ρ (t.put d (some v)) n (a.setIfInBounds d v') := by
  refine ⟨by simp [h.1], ?_⟩
  intro i u hu
  rw [Tr.get_put _ _ _ _ hw] at hu
  by_cases hi : i = d
  · subst hi
    rw [if_pos rfl] at hu; cases hu
    exact ⟨v', by simp [h.1, hd], hv⟩
  · rw [if_neg hi] at hu
    obtain ⟨u', h1, h2⟩ := h.2 i u hu
    exact ⟨u', by rw [Array.getElem?_setIfInBounds_ne (by omega)]; exact h1, h2⟩

theorem setAll_TR {n : Nat} (hn : n < Tr.wide) : ∀ {ps : List Nat} {vs vs' : List Value} {t t' : Tr Value} {a : Array Value}, setAll t ps vs = some t' → allBelow n ps = true → LR ρ vs vs' → TR ρ t n a →
    ps.length = vs'.length ∧ TR ρ t' n ((ps.zip vs').foldl (fun a (x : Nat × Value) => a.setIfInBounds x.1 x.2) a)
  | [], vs, vs', t, t', a, h, hb, hv, ht => by
    cases vs with
    | nil => simp only [setAll] at h; cases h; cases hv; exact ⟨rfl, ht⟩
    | cons v vs => simp [setAll] at h
  | p :: ps, vs, vs', t, t', a, h, hb, hv, ht => by
    cases vs with
    | nil => simp [setAll] at h
    | cons v vs =>
      cases hv with
      | cons x y =>
        simp only [setAll] at h
        have hp := allBelow_mem hb p (by simp)
        have hb2 : allBelow n ps = true := by
          simp only [allBelow] at hb
          split at hb
          · exact hb
          · cases hb
        obtain ⟨h1, h2⟩ := setAll_TR hn h hb2 y (ht.put hp (by omega) x)
        exact ⟨by simp [h1], by simpa using h2⟩

theorem natOf_inv {v v' : Value} {n : Nat} (h : natOf? v = some n) (hv : VR ρ v v') : ∃ k, v = .int k n ∧ v' = .int k n := by
  unfold natOf? at h
  split at h
  · rename_i k m
    cases h
    exact ⟨k, rfl, hv.int_inv⟩
  · cases h

theorem extA_any {k : Nat} {args args' : List Value} {v : Value} (h : extA k args = some v) (ha : LR ρ args args') : LR (fun _ => none) args args' ∧ VR ρ v v := by
  unfold extA at h
  split at h
  · rename_i x y c
    cases ha with
    | cons a1 an =>
      cases an with
      | cons a2 an =>
        cases an with
        | cons a3 an =>
          cases an
          split at h
          · rename_i X Y C hx hy hc
            obtain ⟨k1, e1, e2⟩ := natOf_inv hx a1
            obtain ⟨k2, e3, e4⟩ := natOf_inv hy a2
            obtain ⟨k3, e5, e6⟩ := natOf_inv hc a3
            subst e1; subst e2; subst e3; subst e4; subst e5; subst e6
            refine ⟨.cons (.flat rfl) (.cons (.flat rfl) (.cons (.flat rfl) .nil)), ?_⟩
            split at h <;> first | (cases h; done) | (cases h; exact .tuple (.cons (.flat rfl) (.cons (.flat rfl) .nil)))
          · cases h
  · cases h

theorem targetA_sound (hE : EnvOK P E) (hR : Rep P q ρ s w) {fn : Fn} {captured captured' args args' : List Value} {fn' : Fn} (hfn : (∃ f, fn = .func f ∧ fn' = .func f) ∨ (∃ l b base ex, fn = .yield l ∧ fn' = .yield b ∧ ρ l = some (b, base, ex)))
    (hc : LR ρ captured captured') (ha : LR ρ args args')
    (h : (targetA E fn captured args).run s = some (nx, s')) : OpRes P q ρ w s' nx ((invoke (.fn fn' ⟨captured'⟩) ⟨args'⟩).run P w) := by
  unfold targetA at h
  rcases hfn with ⟨f, rfl, rfl⟩ | ⟨l, b, base, ex, rfl, rfl, hρ⟩
  · obtain ⟨g, hg, h1⟩ := run_opt h
    clear h
    obtain ⟨fn, hfn, rfl⟩ := hE.fn f g hg
    have happ : (⟨args'⟩ ++ ⟨captured'⟩ : Array Value) = ⟨args' ++ captured'⟩ := by apply Array.ext'; simp
    split at h1
    · rename_i c hbody
      simp only [AM.run, Option.some.injEq, Prod.mk.injEq] at h1
      obtain ⟨rfl, rfl⟩ := h1
      refine ⟨ρ, .enter f ⟨args' ++ captured'⟩, w, ?_, hR, Evo.refl _ _, .enter (ha.append hc)⟩
      simp only [FI.of] at hbody
      cases hb : fn.body with
      | none => rw [hb] at hbody; cases hbody
      | some c0 =>
        rw [hb] at hbody
        simp only at hbody
        split at hbody
        · cases hbody
        · rename_i hname
          simp [invoke, callFunc, hfn, hname, hb, happ]
    · obtain ⟨v, hv, h2⟩ := run_opt h1
      obtain ⟨hl, hvv⟩ := extA_any hv (ha.append hc)
      obtain ⟨rfl, rfl⟩ := run_val h2
      refine ⟨ρ, .value v, w, ?_, hR, Evo.refl _ _, .value hvv⟩
      have := hE.ext f fn v _ w hfn hv _ hl
      simp only [invoke, happ]
      exact this
  · obtain ⟨o, ho, h1⟩ := run_get h
    clear h
    obtain ⟨b1, base1, ex1, obj, e1, e2, e3⟩ := hR.live _ _ ho
    rw [hρ] at e1; cases e1
    split at h1
    · obtain ⟨hb, h2⟩ := run_when h1
      obtain ⟨t, ht, h3⟩ := run_opt h2
      simp only [AM.run, Option.some.injEq, Prod.mk.injEq] at h3
      obtain ⟨rfl, rfl⟩ := h3
      have hgo := getObj_run (P := P) e2 e3 rfl
      simp only [Bool.and_eq_true, ble_iff] at hb
      cases e3 with
      | loop htr hd =>
        obtain ⟨g1, g2⟩ := setAll_TR (name_wide hb.2) ht hb.1 ha htr
        refine ⟨ρ, _, w, ?_, hR.seen _, Evo.refl _ _, .round hρ g2 hb.2⟩
        simp only [invoke, Instr.yield, Instr.getLoop, Sem.run_bind, hgo, Result.andThen_ok, Sem.run_pure]
        rw [if_neg (by simp; exact g1.symm)]
        simp only [Sem.run_pure]
        congr 2
        rw [← Array.foldl_toList, Array.toList_zip]
    · cases h1

theorem callA_sound (hE : EnvOK P E) (hl : s'.next ≤ q.hi) (hR : Rep P q ρ s w) (hev : ∀ x v, fr.ev x = some v → VR ρ v (e x)) {c : Call} {ty : TypeId} (h : (callA E fr c).run s = some (nx, s')) :
    OpRes P q ρ w s' nx ((do let d ← resolve e c ty; invoke d.target d.args : Sem Next).run P w) := by
  obtain ⟨args, hargs, h1⟩ := run_opt h
  clear h
  have ha := evs_LR hev hargs
  have hmap : c.args.map e = ⟨c.args.toList.map e⟩ := by apply Array.ext'; simp
  split at h1
  · rename_i b hc
    have := builtinA_sound hE hl hR ha ty (c.args.map fun | .const _ => true | _ => false) h1
    simp only [resolve, hc, Sem.run_bind, Sem.run_pure, Result.andThen_ok, invoke, hmap]
    exact this
  · rename_i f hc
    split at h1
    · rename_i fn first captured hf
      have hv := hev _ _ hf
      have key : ∃ fn' first' captured', e f = .func fn' ⟨first'⟩ ⟨captured'⟩ ∧ LR ρ first first' ∧ LR ρ captured captured' ∧ ((∃ f, fn = .func f ∧ fn' = .func f) ∨ (∃ l b base ex, fn = .yield l ∧ fn' = .yield b ∧ ρ l = some (b, base, ex))) := by
        cases fn with
        | func g =>
          obtain ⟨a', b', q1, q2, q3⟩ := hv.func_inv
          exact ⟨_, _, _, q1, q2, q3, .inl ⟨g, rfl, rfl⟩⟩
        | yield l =>
          obtain ⟨c, base, ex, q1, q2, q3, q4⟩ := hv.yield_inv
          cases q3; cases q4
          exact ⟨_, [], [], q1, .nil, .nil, .inr ⟨l, c, base, ex, rfl, rfl, q2⟩⟩
        | _ => simp [targetA, AM.run] at h1
      obtain ⟨fn', first', captured', e1, e2, e3, e4⟩ := key
      have := targetA_sound hE hR e4 e3 (e2.append ha) h1
      have happ : (⟨first'⟩ ++ ⟨c.args.toList.map e⟩ : Array Value) = ⟨first' ++ c.args.toList.map e⟩ := by apply Array.ext'; simp
      simp only [resolve, hc, Deferred.ofValue, e1, Sem.run_bind, Sem.run_pure, Result.andThen_ok, hmap, happ]
      exact this
    · cases h1
  · cases h1

theorem deferA_sound (hR : Rep P q ρ s w) (hev : ∀ x v, fr.ev x = some v → VR ρ v (e x)) {c : Call} {ty : TypeId} (h : (deferA fr c).run s = some (nx, s')) :
    OpRes P q ρ w s' nx ((do pure (Next.defer (← resolve e c ty)) : Sem Next).run P w) := by
  unfold deferA at h
  split at h
  · cases h
  · obtain ⟨args, hargs, h1⟩ := run_opt h
    have ha := evs_LR hev hargs
    have hmap : c.args.map e = ⟨c.args.toList.map e⟩ := by apply Array.ext'; simp
    clear h
    split at h1
    · rename_i f hc
      split at h1
      · rename_i g first captured hf
        simp only [AM.run, Option.some.injEq, Prod.mk.injEq] at h1
        obtain ⟨rfl, rfl⟩ := h1
        obtain ⟨captured⟩ := captured
        obtain ⟨a', b', e1, e2, e3⟩ := (hev _ _ hf).func_inv
        have happ : (⟨a'⟩ ++ ⟨c.args.toList.map e⟩ : Array Value) = ⟨a' ++ c.args.toList.map e⟩ := by apply Array.ext'; simp
        exact ⟨ρ, _, w, by simp [resolve, hc, Deferred.ofValue, e1, hmap, happ], hR, Evo.refl _ _, .defer (.fn e3 (e2.append ha))⟩
      · cases h1
    · cases h1

/-- **every operation** -/
theorem aop_sound (hE : EnvOK P E) (hl : s'.next ≤ q.hi) (hR : Rep P q ρ s w) (hev : ∀ x v, fr.ev x = some v → VR ρ v (e x)) {o : Oper} (h : (aop E fr o).run s = some (nx, s')) :
    OpRes P q ρ w s' nx ((execOp e o).run P w) := by
  obtain ⟨dst, op, ty, pos, after, guard⟩ := o
  cases op with
  | move x =>
    obtain ⟨v, hv, h1⟩ := run_opt h
    obtain ⟨rfl, rfl⟩ := run_val h1
    exact ⟨ρ, _, w, rfl, hR, Evo.refl _ _, .value (hev _ _ hv)⟩
  | assign x =>
    obtain ⟨v, hv, h1⟩ := run_opt h
    obtain ⟨rfl, rfl⟩ := run_val h1
    exact ⟨ρ, _, w, rfl, hR, Evo.refl _ _, .value (hev _ _ hv)⟩
  | pick c a b => exact aPick_sound hR hev h
  | alloc t => exact (aAlloc_sound hE hl hR h).op
  | box t x => exact (aBox_sound hE hl hR hev h).op
  | build t ps => exact (aBuild_sound hE hR hev h).op
  | buildSlice t n ps => exact (aBuildSlice_sound hE hl hR hev h).op
  | load t a => exact (aLoad_sound hE hR hev h).op
  | store t a x => exact (aStore_sound hE hR hev h).op
  | nilCheck x => exact aNil_sound hR hev rfl h
  | binOp op t x y yt => exact (aBin_sound hE hR hev h).op
  | unOp op t x => exact (aUn_sound hR hev h).op
  | convert a b x => exact (aConvert_sound hE hR hev h).op
  | makeFunc fn a b => exact (aMakeFunc_sound hR hev h).op
  | makeMap t r => exact (aMakeMap_sound hl hR h).op
  | makeSlice t l c => exact (aMakeSlice_sound hE hl hR hev h).op
  | slice t x lo hi mx => exact (aSlice_sound hE hl hR hev h).op
  | fieldAddr t x f => exact (aFieldAddr_sound hE hR hev h).op
  | field t x f => exact (aField_sound hE hR hev h).op
  | indexAddr t x i => exact (aIndexAddr_sound hE hR hev h).op
  | index t x i => exact (aIndex_sound hE hR hev h).op
  | lookup t m k ok =>
    obtain ⟨a, ha, h1⟩ := run_opt h
    obtain ⟨b, hb, h2⟩ := run_opt h1
    exact (lookupA_sound hE hR (hev _ _ ha) (hev _ _ hb) h2).op
  | mapUpdate t m k x =>
    obtain ⟨a, ha, h1⟩ := run_opt h
    obtain ⟨b, hb, h2⟩ := run_opt h1
    obtain ⟨c, hc, h3⟩ := run_opt h2
    exact (updateA_sound hE hR (hev _ _ ha) (hev _ _ hb) (hev _ _ hc) h3).op
  | insert t m k x =>
    obtain ⟨a, ha, h1⟩ := run_opt h
    obtain ⟨b, hb, h2⟩ := run_opt h1
    obtain ⟨c, hc, h3⟩ := run_opt h2
    exact (updateA_sound hE hR (hev _ _ ha) (hev _ _ hb) (hev _ _ hc) h3).op
  | range t x => exact (aRange_sound hE hl hR hev h).op
  | next it b =>
    cases b with
    | true => simp [aop, AM.run] at h
    | false => exact (aNext_sound (ty := ty) hR hev h).op
  | entry it => exact (aEntry_sound hR hev h).op
  | extract t i => exact (aExtract_sound hR hev h).op
  | call c => exact callA_sound hE hl hR hev h
  | defer c => exact deferA_sound hR hev h
  | _ => simp [aop, AM.run] at h
end
end Go.AE
