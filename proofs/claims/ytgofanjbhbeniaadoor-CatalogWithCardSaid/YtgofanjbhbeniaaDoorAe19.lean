/- A region whose order is drawn comes to what it comes to in the order of its text. No program is named here. -/
import Derived.Test.YtgofanjbhbeniaaDoorAe18
noncomputable section
namespace Go.AE
set_option linter.unusedVariables false
set_option linter.unusedSimpArgs false

theorem put_tmps {fr fr' : Fr} {dst : Option Tmp} {v : Value} (h : fr.put dst v = some fr') (hn : fr.n ≤ lastName) (t : Nat) : (dst ≠ some t → fr'.tmps.get t = fr.tmps.get t) ∧ (dst = some t → fr'.tmps.get t = some v) ∧ Alike fr fr' := by
  cases dst with
  | none => simp only [Fr.put] at h; cases h; exact ⟨fun _ => rfl, (fun h => by cases h), ⟨rfl, rfl, rfl, rfl⟩⟩
  | some d =>
    simp only [Fr.put] at h
    split at h
    · rename_i hd
      cases h
      have hd := blt_iff.1 hd
      have hw := name_wide (Nat.le_trans (Nat.le_of_lt hd) hn)
      refine ⟨?_, ?_, ⟨rfl, rfl, rfl, rfl⟩⟩
      · intro hne
        show (fr.tmps.put d (some v)).get t = _
        rw [Tr.get_put _ _ _ _ hw, if_neg]
        intro e; subst e; exact hne rfl
      · intro he
        cases he
        show (fr.tmps.put t (some v)).get t = _
        rw [Tr.get_put _ _ _ _ hw, if_pos rfl]
    · cases h

theorem Alike.refl (f : Fr) : Alike f f := ⟨rfl, rfl, rfl, rfl⟩
theorem Alike.trans {f g h : Fr} (a : Alike f g) (b : Alike g h) : Alike f h := ⟨b.fn.trans a.fn, b.n.trans a.n, b.defers.trans a.defers, b.round.trans a.round⟩

/-- a region's run in the order of its text, and what its checks say -/
structure Run (rc : Rec) (E : Env) (ops : Array Oper) (bef : List Nat) (st : Nat → Fr × S) : Prop where
  step : ∀ i, i < ops.size → ∃ o, ops[i]? = some o ∧ evOper rc E true ops.toList o (st i).1 ⟨(st i).2.heap, (st i).2.next, (st i).2.next, 0, 0⟩ = some (st (i + 1))
  conf : ∀ i j, i < ops.size → j < i → Conf (st (j + 1)).2.rd (Nat.lor (st (j + 1)).2.wr (created (st j).2.next (st (j + 1)).2.next)) (st (i + 1)).2 → Bef bef i j
  below : ∀ i o, ops[i]? = some o → ∀ e ∈ o.after.toList, bindsA e = true → e.on < i
  ahead : ∀ i o, ops[i]? = some o → ∀ j, Bef bef i j → ∃ e ∈ o.after.toList, bindsA e = true ∧ (j = e.on ∨ Bef bef e.on j)
  apart : ∀ i j x y, ops[i]? = some x → ops[j]? = some y → j < i → ¬ Bef bef i j → Apart ops.toList y x
  loc : ∀ t, Loc (rc t)

section
variable {rc : Rec} {E : Env} {ops : Array Oper} {bef : List Nat} {st : Nat → Fr × S}

def Wr (st : Nat → Fr × S) (i m : Nat) : Prop := has (st (i + 1)).2.wr m ∨ ((st i).2.next ≤ m ∧ m < (st (i + 1)).2.next)
def Tou (st : Nat → Fr × S) (i m : Nat) : Prop := m < (st i).2.next ∧ (has (st (i + 1)).2.rd m ∨ has (st (i + 1)).2.wr m)

theorem op_at {i : Nat} (hi : i < ops.size) : ops[i]? = some ops[i] := by simp [hi]

theorem Run.locAt (R : Run rc E ops bef st) {i : Nat} {o : Oper} (hi : i < ops.size) (ho : ops[i]? = some o) :
    LocAt (evOper rc E true ops.toList o (st i).1) ⟨(st i).2.heap, (st i).2.next, (st i).2.next, 0, 0⟩ (st (i + 1)).1 (st (i + 1)).2 := by
  obtain ⟨o', ho', h⟩ := R.step i hi
  rw [ho] at ho'; cases ho'
  exact Loc.oper R.loc true ops.toList o (st i).1 _ _ _ h (Nat.le_refl _)

theorem Run.mono1 (R : Run rc E ops bef st) {i : Nat} (hi : i < ops.size) : (st i).2.next ≤ (st (i + 1)).2.next := (R.locAt hi (op_at hi)).next
theorem Run.mono (R : Run rc E ops bef st) {i : Nat} : ∀ {j : Nat}, i ≤ j → j ≤ ops.size → (st i).2.next ≤ (st j).2.next := by
  intro j
  induction j with
  | zero => intro h _; have : i = 0 := by omega
            subst this; exact Nat.le_refl _
  | succ j ih =>
    intro h hj
    by_cases e : i = j + 1
    · subst e; exact Nat.le_refl _
    · exact Nat.le_trans (ih (by omega) (by omega)) (R.mono1 (by omega))

theorem Run.stay (R : Run rc E ops bef st) {i m : Nat} (hi : i < ops.size) (hw : ¬ Wr st i m) : (st (i + 1)).2.heap.get m = (st i).2.heap.get m := by
  have A := R.locAt hi (op_at hi)
  by_cases h1 : m < (st i).2.next
  · exact A.own m h1 (fun h => hw (.inl h))
  · by_cases h2 : m < (st (i + 1)).2.next
    · exact absurd (.inr ⟨by omega, h2⟩) hw
    · exact A.own2 m (by omega)
theorem Run.stays (R : Run rc E ops bef st) {i m : Nat} : ∀ {j : Nat}, i ≤ j → j ≤ ops.size → (∀ k, i ≤ k → k < j → ¬ Wr st k m) → (st j).2.heap.get m = (st i).2.heap.get m := by
  intro j
  induction j with
  | zero => intro h _ _; have : i = 0 := by omega
            subst this; rfl
  | succ j ih =>
    intro h hj hw
    by_cases e : i = j + 1
    · subst e; rfl
    · rw [R.stay (by omega) (hw j (by omega) (by omega))]
      exact ih (by omega) (by omega) (fun k a b => hw k a (by omega))

theorem Run.fr1 (R : Run rc E ops bef st) {i : Nat} {o : Oper} (hi : i < ops.size) (ho : ops[i]? = some o) : ∃ v, (st i).1.put o.dst v = some (st (i + 1)).1 := by
  obtain ⟨o', ho', h⟩ := R.step i hi
  rw [ho] at ho'; cases ho'
  obtain ⟨v, fr2', a, _, _⟩ := oper_alike (Alike.refl _) (fun _ _ => rfl) h
  exact ⟨v, a⟩
theorem Run.frA (R : Run rc E ops bef st) : ∀ {i : Nat}, i ≤ ops.size → (st 0).1.n ≤ lastName → Alike (st 0).1 (st i).1 := by
  intro i
  induction i with
  | zero => intro _ _; exact Alike.refl _
  | succ i ih =>
    intro hi hn
    have a := ih (by omega) hn
    obtain ⟨v, hv⟩ := R.fr1 (i := i) (by omega) (op_at (by omega))
    exact a.trans (put_tmps hv (by rw [a.n]; exact hn) 0).2.2
theorem Run.fr_stay (R : Run rc E ops bef st) {i t : Nat} {o : Oper} (hn : (st 0).1.n ≤ lastName) (hi : i < ops.size) (ho : ops[i]? = some o) (hd : o.dst ≠ some t) : (st (i + 1)).1.tmps.get t = (st i).1.tmps.get t := by
  obtain ⟨v, hv⟩ := R.fr1 hi ho
  have a := R.frA (i := i) (by omega) hn
  exact (put_tmps hv (by rw [a.n]; exact hn) t).1 hd
theorem Run.fr_stays (R : Run rc E ops bef st) {i t : Nat} (hn : (st 0).1.n ≤ lastName) : ∀ {j : Nat}, i ≤ j → j ≤ ops.size → (∀ k o, i ≤ k → k < j → ops[k]? = some o → o.dst ≠ some t) → (st j).1.tmps.get t = (st i).1.tmps.get t := by
  intro j
  induction j with
  | zero => intro h _ _; have : i = 0 := by omega
            subst this; rfl
  | succ j ih =>
    intro h hj hw
    by_cases e : i = j + 1
    · subst e; rfl
    · rw [R.fr_stay hn (by omega) (op_at (by omega)) (hw j _ (by omega) (by omega) (op_at (by omega)))]
      exact ih (by omega) (by omega) (fun k o a b => hw k o a (by omega))

theorem Run.closed (R : Run rc E ops bef st) {D : Nat → Prop} (hD : ∀ i o, D i → ops[i]? = some o → ∀ e ∈ o.after.toList, bindsA e = true → D e.on) :
    ∀ (i : Nat) (o : Oper), ops[i]? = some o → (∀ e ∈ o.after.toList, bindsA e = true → D e.on) → ∀ j, Bef bef i j → D j := by
  intro i
  induction i using Nat.strongRecOn with
  | _ i ih =>
    intro o ho hp j hb
    obtain ⟨e, he, hbe, h⟩ := R.ahead i o ho j hb
    have hde := hp e he hbe
    rcases h with rfl | h
    · exact hde
    · have hlt := R.below i o ho e he hbe
      have hsz : i < ops.size := by
        have := (Array.getElem?_eq_some_iff.1 ho).1
        exact this
      have hoe : ops[e.on]? = some ops[e.on] := op_at (by omega)
      exact ih e.on hlt _ hoe (hD e.on _ hde hoe) j h

theorem Run.c1 (R : Run rc E ops bef st) {i j m : Nat} (hi : i < ops.size) (hj : j < i) (hw : Wr st j m) (ht : Tou st i m) : Bef bef i j := by
  refine R.conf i j hi hj ⟨m, .inl ⟨?_, ht.2⟩⟩
  rw [has_lor, has_created]
  exact hw
theorem Run.c2 (R : Run rc E ops bef st) {i k m : Nat} (hk : k < ops.size) (hi : i < k) (ht : Tou st i m) (hw : has (st (k + 1)).2.wr m) : Bef bef k i := by
  rcases ht.2 with h | h
  · exact R.conf k i hk hi ⟨m, .inr ⟨h, hw⟩⟩
  · exact R.conf k i hk hi ⟨m, .inl ⟨by rw [has_lor]; exact .inl h, .inr hw⟩⟩
theorem Run.c3 (R : Run rc E ops bef st) {i k m : Nat} (hk : k < ops.size) (hi : i < k) (hr : Wr st i m) (hw : has (st (k + 1)).2.wr m) : Bef bef k i := by
  refine R.conf k i hk hi ⟨m, .inl ⟨?_, .inr hw⟩⟩
  rw [has_lor, has_created]; exact hr
theorem Run.log (R : Run rc E ops bef st) {i m : Nat} (hi : i < ops.size) (h : has (st (i + 1)).2.wr m) : m < (st (i + 1)).2.next := by
  rcases (R.locAt hi (op_at hi)).lim m h with h0 | h0
  · exact absurd h0 (by simp [has])
  · exact h0

/-- some operations are done -/
structure Merged (ops : Array Oper) (st : Nat → Fr × S) (D : Nat → Prop) (mh : Tr AObj) (mf : Fr) : Prop where
  closed : ∀ i o, D i → ops[i]? = some o → ∀ e ∈ o.after.toList, bindsA e = true → D e.on
  h1 : ∀ m, (∀ i, i < ops.size → D i → ¬ Wr st i m) → mh.get m = (st 0).2.heap.get m
  h2 : ∀ m i, i < ops.size → D i → Wr st i m → (∀ k, i < k → k < ops.size → D k → ¬ Wr st k m) → mh.get m = (st (i + 1)).2.heap.get m
  alike : Alike (st 0).1 mf
  f1 : ∀ t, (∀ i o, i < ops.size → D i → ops[i]? = some o → o.dst ≠ some t) → mf.tmps.get t = (st 0).1.tmps.get t
  f2 : ∀ t i o, i < ops.size → D i → ops[i]? = some o → o.dst = some t → (∀ k o', i < k → k < ops.size → D k → ops[k]? = some o' → o'.dst ≠ some t) → mf.tmps.get t = (st (i + 1)).1.tmps.get t

/-- the last of some -/
theorem last_of (Q : Nat → Prop) : ∀ n, (∀ k, k < n → ¬ Q k) ∨ ∃ l, l < n ∧ Q l ∧ ∀ k, l < k → k < n → ¬ Q k
  | 0 => .inl (fun k h => by omega)
  | n + 1 => by
    by_cases h : Q n
    · exact .inr ⟨n, by omega, h, fun k a b => by omega⟩
    · rcases last_of Q n with h1 | ⟨l, h1, h2, h3⟩
      · left
        intro k hk
        by_cases e : k = n
        · subst e; exact h
        · exact h1 k (by omega)
      · right
        refine ⟨l, by omega, h2, ?_⟩
        intro k a b
        by_cases e : k = n
        · subst e; exact h
        · exact h3 k a (by omega)

theorem Run.wr_lt (R : Run rc E ops bef st) {j m : Nat} (hj : j < ops.size) {k : Nat} (hk : j < k) (hkn : k ≤ ops.size) (hw : Wr st j m) (hlog : has (st (j + 1)).2.wr m → m < (st (j + 1)).2.next) : m < (st k).2.next := by
  rcases hw with h | ⟨_, h⟩
  · exact Nat.lt_of_lt_of_le (hlog h) (R.mono (by omega) hkn)
  · exact Nat.lt_of_lt_of_le h (R.mono (by omega) hkn)

/-- what an operation touches lies as it lay -/
theorem Run.agree (R : Run rc E ops bef st) {D : Nat → Prop} {mh : Tr AObj} {mf : Fr} (M : Merged ops st D mh mf) {i : Nat} (hi : i < ops.size) (hD : ¬ D i) {o : Oper} (ho : ops[i]? = some o) (hp : ∀ e ∈ o.after.toList, bindsA e = true → D e.on)
    {m : Nat} (hm : Tou st i m ∨ ((st i).2.next ≤ m ∧ m < (st (i + 1)).2.next ∧ ∀ j, j < i → ¬ Wr st j m)) : mh.get m = (st i).2.heap.get m := by
  -- nothing behind it has written there
  have hbehind : ∀ k, i < k → k < ops.size → D k → ¬ Wr st k m := by
    intro k hk hkn hDk hw
    have hnb : ¬ Bef bef k i := fun hb => hD (R.closed M.closed k _ (op_at hkn) (M.closed k _ hDk (op_at hkn)) i hb)
    have hmono : (st (i + 1)).2.next ≤ (st k).2.next := R.mono (by omega) (by omega)
    rcases hw with hw | ⟨hw, _⟩
    · rcases hm with ht | ht
      · exact hnb (R.c2 hkn hk ht hw)
      · exact hnb (R.c3 hkn hk (.inr ⟨ht.1, ht.2.1⟩) hw)
    · rcases hm with ht | ht
      · have := ht.1; have := R.mono1 hi; omega
      · omega
  rcases last_of (fun j => Wr st j m) i with hnone | ⟨l, hl, hwl, hlast⟩
  · rw [M.h1 m, R.stays (Nat.zero_le _) (by omega) (fun k _ hk => hnone k hk)]
    intro k hk hDk hw
    by_cases h1 : k < i
    · exact hnone k h1 hw
    · by_cases h2 : k = i
      · subst h2; exact hD hDk
      · exact hbehind k (by omega) hk hDk hw
  · have hDl : D l := by
      rcases hm with ht | ht
      · exact R.closed M.closed i o ho hp l (R.c1 hi hl hwl ht)
      · exact absurd hwl (ht.2.2 l hl)
    refine (M.h2 m l (by omega) hDl hwl ?_).trans (R.stays (i := l + 1) (j := i) (by omega) (by omega) (fun k a b => hlast k (by omega) b)).symm
    intro k hk hkn hDk hw
    by_cases h1 : k < i
    · exact hlast k hk h1 hw
    · by_cases h2 : k = i
      · subst h2; exact hD hDk
      · exact hbehind k (by omega) hkn hDk hw

theorem Run.agreeF (R : Run rc E ops bef st) {D : Nat → Prop} {mh : Tr AObj} {mf : Fr} (M : Merged ops st D mh mf) (hn : (st 0).1.n ≤ lastName) {i : Nat} (hi : i < ops.size) (hD : ¬ D i) {o : Oper} (ho : ops[i]? = some o) (hp : ∀ e ∈ o.after.toList, bindsA e = true → D e.on)
    {t : Nat} (ht : t ∈ readsOf ops.toList o) : mf.tmps.get t = (st i).1.tmps.get t := by
  have hbehind : ∀ k o', i < k → k < ops.size → D k → ops[k]? = some o' → o'.dst ≠ some t := by
    intro k o' hk hkn hDk ho' hd
    have hnb : ¬ Bef bef k i := fun hb => hD (R.closed M.closed k _ ho' (M.closed k _ hDk ho') i hb)
    exact (R.apart k i o' o ho' ho hk hnb).b t hd ht
  rcases last_of (fun j => ∃ o', ops[j]? = some o' ∧ o'.dst = some t) i with hnone | ⟨l, hl, ⟨ol, hol, hdl⟩, hlast⟩
  · rw [M.f1 t, R.fr_stays hn (Nat.zero_le _) (by omega) (fun k o' _ hk ho' hd => hnone k hk ⟨o', ho', hd⟩)]
    intro k o' hk hDk ho' hd
    by_cases h1 : k < i
    · exact hnone k h1 ⟨o', ho', hd⟩
    · by_cases h2 : k = i
      · subst h2; exact hD hDk
      · exact hbehind k o' (by omega) hk hDk ho' hd
  · have hDl : D l := by
      refine R.closed M.closed i o ho hp l ?_
      refine Classical.byContradiction fun hnb => ?_
      exact ((R.apart i l o ol ho hol hl hnb).a t hdl).1 ht
    refine (M.f2 t l ol (by omega) hDl hol hdl ?_).trans (R.fr_stays hn (i := l + 1) (j := i) (by omega) (by omega) (fun k o' a b ho' hd => hlast k (by omega) b ⟨o', ho', hd⟩)).symm
    intro k o' hk hkn hDk ho' hd
    by_cases h1 : k < i
    · exact hlast k hk h1 ⟨o', ho', hd⟩
    · by_cases h2 : k = i
      · subst h2; exact hD hDk
      · exact hbehind k o' (by omega) hkn hDk ho' hd

/-- one more is done -/
theorem Run.more (R : Run rc E ops bef st) {D : Nat → Prop} {mh : Tr AObj} {mf : Fr} (M : Merged ops st D mh mf) (hn : (st 0).1.n ≤ lastName) (hlog : ∀ i m, i < ops.size → has (st (i + 1)).2.wr m → m < (st (i + 1)).2.next) {i : Nat} (hi : i < ops.size) (hD : ¬ D i) {o : Oper} (ho : ops[i]? = some o) (hp : ∀ e ∈ o.after.toList, bindsA e = true → D e.on) :
    ∃ mf' s2, evOper rc E true ops.toList o mf ⟨mh, (st i).2.next, (st i).2.next, 0, 0⟩ = some (mf', s2) ∧ s2.next = (st (i + 1)).2.next ∧ Merged ops st (fun k => D k ∨ k = i) s2.heap mf' := by
  have A := R.locAt hi ho
  have hfresh : ∀ m, (st i).2.next ≤ m → ∀ j, j < i → ¬ Wr st j m := by
    intro m hm j hj hw
    have := R.wr_lt (by omega) hj (by omega) hw (hlog j m (by omega))
    omega
  obtain ⟨s2, g1, g2, g3, g4, g5, g6, g7, g8, g9⟩ := A.again ⟨mh, (st i).2.next, (st i).2.next, 0, 0⟩ rfl rfl rfl rfl
    (fun m hm hh => R.agree M hi hD ho hp (.inl ⟨hm, hh⟩)) (fun m hm hh => R.agree M hi hD ho hp (.inr ⟨hm, hh, hfresh m hm⟩))
  have g6 : ∀ m, m < (st i).2.next → has (st (i + 1)).2.wr m → s2.heap.get m = (st (i + 1)).2.heap.get m := g6
  have g7 : ∀ m, m < (st i).2.next → ¬ has (st (i + 1)).2.wr m → s2.heap.get m = mh.get m := g7
  have g8 : ∀ m, (st i).2.next ≤ m → m < (st (i + 1)).2.next → s2.heap.get m = (st (i + 1)).2.heap.get m := g8
  have g9 : ∀ m, (st (i + 1)).2.next ≤ m → s2.heap.get m = mh.get m := g9
  have hfa := R.frA (i := i) (by omega) hn
  have hal : Alike (st i).1 mf := ⟨M.alike.fn.trans hfa.fn.symm, M.alike.n.trans hfa.n.symm, M.alike.defers.trans hfa.defers.symm, M.alike.round.trans hfa.round.symm⟩
  obtain ⟨v, mf', p1, p2, p3⟩ := oper_alike hal (fun t ht => R.agreeF M hn hi hD ho hp ht) g1
  have hmn : mf.n ≤ lastName := by rw [M.alike.n]; exact hn
  have hwr : ∀ m, Wr st i m → s2.heap.get m = (st (i + 1)).2.heap.get m := by
    intro m hw
    rcases hw with hw | ⟨ha, hb⟩
    · by_cases hlt : m < (st i).2.next
      · exact g6 m hlt hw
      · exact g8 m (by omega) (hlog i m hi hw)
    · exact g8 m ha hb
  have hnw : ∀ m, ¬ Wr st i m → s2.heap.get m = mh.get m := by
    intro m hw
    by_cases h1 : m < (st i).2.next
    · exact g7 m h1 (fun h => hw (.inl h))
    · by_cases h2 : m < (st (i + 1)).2.next
      · exact absurd (.inr ⟨by omega, h2⟩) hw
      · exact g9 m (by omega)
  refine ⟨mf', s2, p3, g2, ⟨?_, ?_, ?_, ?_, ?_, ?_⟩⟩
  · intro k o' hk ho' e he hb
    rcases hk with hk | hk
    · exact .inl (M.closed k o' hk ho' e he hb)
    · subst hk
      rw [ho] at ho'; cases ho'
      exact .inl (hp e he hb)
  · intro m hm
    rw [hnw m (hm i hi (.inr rfl))]
    exact M.h1 m (fun k hk hDk => hm k hk (.inl hDk))
  · intro m j hj hDj hw hlast
    rcases hDj with hDj | hDj
    · by_cases hwi : Wr st i m
      · -- j wrote last, so i stands ahead of it
        have hji : i ≤ j := Classical.byContradiction fun h => hlast i (by omega) hi (.inr rfl) hwi
        have hne : j ≠ i := fun h => hD (h ▸ hDj)
        exfalso
        have hij : i < j := by omega
        have hnb : ¬ Bef bef j i := fun hb => hD (R.closed M.closed j _ (op_at hj) (M.closed j _ hDj (op_at hj)) i hb)
        rcases hw with hw | ⟨hw, _⟩
        · exact hnb (R.c3 hj hij hwi hw)
        · have := R.wr_lt hi hij (by omega) hwi (hlog i m hi)
          omega
      · rw [hnw m hwi]
        exact M.h2 m j hj hDj hw (fun k a b c => hlast k a b (.inl c))
    · subst hDj
      exact hwr m hw
  · exact M.alike.trans (put_tmps p2 hmn 0).2.2
  · intro t ht
    rw [(put_tmps p2 hmn t).1 (ht i o hi (.inr rfl) ho)]
    exact M.f1 t (fun k o' hk hDk => ht k o' hk (.inl hDk))
  · intro t j oj hj hDj hoj hd hlast
    rcases hDj with hDj | hDj
    · by_cases hdi : o.dst = some t
      · have hji : i ≤ j := Classical.byContradiction fun h => hlast i o (by omega) hi (.inr rfl) ho hdi
        have hne : j ≠ i := fun h => hD (h ▸ hDj)
        exfalso
        have hij : i < j := by omega
        have hnb : ¬ Bef bef j i := fun hb => hD (R.closed M.closed j _ hoj (M.closed j _ hDj hoj) i hb)
        exact ((R.apart j i oj o hoj ho hij hnb).a t hdi).2 hd
      · rw [(put_tmps p2 hmn t).1 hdi]
        exact M.f2 t j oj hj hDj hoj hd (fun k o' a b c => hlast k o' a b (.inl c))
    · subst hDj
      rw [ho] at hoj; cases hoj
      rw [(put_tmps p2 hmn t).2.1 hd, (put_tmps p1 (by rw [hfa.n]; exact hn) t).2.1 hd]
end
end Go.AE
