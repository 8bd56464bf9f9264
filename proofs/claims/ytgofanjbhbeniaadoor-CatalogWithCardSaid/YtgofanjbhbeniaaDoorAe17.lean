/- A region whose order is drawn: what its checks say. No program is named here. -/
import Derived.Test.YtgofanjbhbeniaaDoorAe16
import Derived.Orders
noncomputable section
namespace Go.AE
set_option linter.unusedVariables false
set_option linter.unusedSimpArgs false

theorem has_zero (m : Nat) : ¬ has 0 m := by simp [has]
theorem has_land (a b m : Nat) : has (Nat.land a b) m ↔ has a m ∧ has b m := by
  unfold has
  show Nat.testBit (a &&& b) m = true ↔ _
  rw [Nat.testBit_and]; simp
theorem has_created (lo hi m : Nat) : has (created lo hi) m ↔ lo ≤ m ∧ m < hi := by
  unfold created
  cases hq : Nat.beq lo hi with
  | true =>
    have := beq_iff.1 hq
    subst this
    simp only
    constructor
    · intro h; exact absurd h (has_zero m)
    · intro h; omega
  | false =>
    unfold has
    show Nat.testBit (((1 <<< (hi - lo)) - 1) <<< lo) m = true ↔ _
    rw [Nat.testBit_shiftLeft, Nat.one_shiftLeft, Nat.testBit_two_pow_sub_one]
    simp only [Bool.and_eq_true, decide_eq_true_eq]
    omega

def Conf (r w : Nat) (t : S) : Prop := ∃ m, (has w m ∧ (has t.rd m ∨ has t.wr m)) ∨ (has r m ∧ has t.wr m)

theorem clash_spec {rd wr b : Nat} : ∀ {seen : List (Nat × Nat × Nat)}, clash rd wr b seen = false → ∀ x ∈ seen, (∃ m, (has x.2.2 m ∧ (has rd m ∨ has wr m)) ∨ (has x.2.1 m ∧ has wr m)) → Nat.testBit b x.1 = true
  | [], _, x, hx, _ => by cases hx
  | (i, r, w) :: l, h, x, hx, hc => by
    simp only [clash] at h
    split at h
    · rename_i h0
      rcases List.mem_cons.1 hx with rfl | hx
      · exfalso
        have h0 := beq_iff.1 h0
        obtain ⟨m, hm⟩ := hc
        have : has (Nat.lor (Nat.land w (Nat.lor rd wr)) (Nat.land r wr)) m := by
          rw [has_lor, has_land, has_land, has_lor]; exact hm
        rw [h0] at this
        exact has_zero m this
      · exact clash_spec h x hx hc
    · split at h
      · rename_i ht
        rcases List.mem_cons.1 hx with rfl | hx
        · exact ht
        · exact clash_spec h x hx hc
      · cases h

section
variable {rc : Rec} {E : Env}

theorem drawn_trace (all : List Oper) (mk : Nat) : ∀ (rest : List Oper) (bef : List Nat) (i : Nat) (seen : List (Nat × Nat × Nat)) (rd wr : Nat) (fr : Fr) (s : S) (fr' : Fr) (s' : S),
    drawnLoop rc E all mk rest bef i seen rd wr fr s = some (fr', s') →
    ∃ st : Nat → Fr × S, st 0 = (fr, s) ∧ (st rest.length).1 = fr' ∧ (st rest.length).2.heap = s'.heap ∧ (st rest.length).2.next = s'.next ∧
      ∀ k, k < rest.length → ∃ o b, rest[k]? = some o ∧ bef[k]? = some b ∧ evOper rc E true all o (st k).1 ⟨(st k).2.heap, (st k).2.next, (st k).2.next, 0, 0⟩ = some (st (k + 1)) ∧
        (∀ x ∈ seen, Conf x.2.1 x.2.2 (st (k + 1)).2 → Nat.testBit b x.1 = true) ∧
        (∀ j, j < k → Conf (st (j + 1)).2.rd (Nat.lor (st (j + 1)).2.wr (created (st j).2.next (st (j + 1)).2.next)) (st (k + 1)).2 → Nat.testBit b (i + j) = true)
  | [], bef, i, seen, rd, wr, fr, s, fr', s', h => by
    simp only [drawnLoop, Option.some.injEq, Prod.mk.injEq] at h
    obtain ⟨rfl, rfl⟩ := h
    exact ⟨fun _ => (fr, s), rfl, rfl, rfl, rfl, fun k hk => absurd hk (by simp)⟩
  | _ :: _, [], i, seen, rd, wr, fr, s, fr', s', h => by simp [drawnLoop] at h
  | o :: rest, b :: bef, i, seen, rd, wr, fr, s, fr', s', h => by
    simp only [drawnLoop, force_eq] at h
    split at h
    · cases h
    · rename_i fr1 s1 hop
      split at h
      · cases h
      · rename_i hcl
        obtain ⟨st, h0, h1, h2, h3, h4⟩ := drawn_trace all mk rest bef (Nat.succ i) _ _ _ _ _ _ _ h
        refine ⟨fun k => match k with | 0 => (fr, s) | k + 1 => st k, rfl, h1, h2, h3, ?_⟩
        intro k hk
        cases k with
        | zero =>
          refine ⟨o, b, rfl, rfl, ?_, ?_, fun j hj => by omega⟩
          · show evOper rc E true all o fr ⟨s.heap, s.next, s.next, 0, 0⟩ = some (st 0)
            rw [h0]; exact hop
          · show ∀ x ∈ seen, Conf x.2.1 x.2.2 (st 0).2 → _
            rw [h0]
            intro x hx hc
            exact clash_spec hcl x hx hc
        | succ k =>
          obtain ⟨o', b', e1, e2, e3, e4, e5⟩ := h4 k (by simpa using hk)
          have hkeep : ∀ x ∈ seen, x ∈ keepLog i s1.rd (Nat.lor s1.wr (created s.next s1.next)) seen := by
            intro x hx
            unfold keepLog
            split
            · exact hx
            · exact List.mem_cons_of_mem _ hx
          refine ⟨o', b', by simpa using e1, by simpa using e2, e3, fun x hx => e4 x (hkeep x hx), ?_⟩
          intro j hj hc
          cases j with
          | zero =>
            have hc : Conf (st 0).2.rd (Nat.lor (st 0).2.wr (created s.next (st 0).2.next)) (st (k + 1)).2 := hc
            rw [h0] at hc
            refine e4 (i, s1.rd, Nat.lor s1.wr (created s.next s1.next)) ?_ hc
            unfold keepLog
            split
            · rename_i hz
              exfalso
              have hz := beq_iff.1 hz
              obtain ⟨m, hm⟩ := hc
              have : has (Nat.lor s1.rd (Nat.lor s1.wr (created s.next s1.next))) m := by
                rw [has_lor]
                rcases hm with hm | hm
                · exact .inr hm.1
                · exact .inl hm.1
              rw [hz] at this
              exact has_zero m this
            · exact List.mem_cons_self
          | succ j =>
            have := e5 j (by omega) hc
            rwa [show Nat.succ i + j = i + (j + 1) by show i + 1 + j = _; omega] at this
end

/-! what comes ahead -/
def Bef (bef : List Nat) (i j : Nat) : Prop := ∃ b, bef[i]? = some b ∧ Nat.testBit b j = true

theorem befOf_spec (acc : List Nat) : ∀ (l : List Edge) (m j : Nat), Nat.testBit (befOf acc l m) j = true → Nat.testBit m j = true ∨ ∃ e ∈ l, bindsA e = true ∧ (j = e.on ∨ ∃ b, acc[e.on]? = some b ∧ Nat.testBit b j = true)
  | [], m, j, h => .inl h
  | e :: l, m, j, h => by
    simp only [befOf] at h
    split at h
    · rcases befOf_spec acc l m j h with h | ⟨x, hx, h⟩
      · exact .inl h
      · exact .inr ⟨x, List.mem_cons_of_mem _ hx, h⟩
    · rename_i hb
      rcases befOf_spec acc l _ j h with h | ⟨x, hx, h⟩
      · have h : has (Nat.lor m (Nat.lor (Nat.shiftLeft 1 e.on) (match nth acc e.on with | some b => b | none => 0))) j := h
        rw [has_lor, has_lor] at h
        rcases h with h | h | h
        · exact .inl h
        · refine .inr ⟨e, List.mem_cons_self, hb, .inl ?_⟩
          have h : Nat.testBit (1 <<< e.on) j = true := h
          rw [Nat.testBit_shiftLeft] at h
          simp only [Bool.and_eq_true, decide_eq_true_eq] at h
          cases hk : j - e.on with
          | zero => omega
          | succ z => rw [hk, Nat.testBit_succ] at h; simp at h
        · refine .inr ⟨e, List.mem_cons_self, hb, .inr ?_⟩
          cases hn : nth acc e.on with
          | none => rw [hn] at h; exact absurd h (has_zero j)
          | some b => rw [hn] at h; exact ⟨b, nth_eq _ _ _ hn, h⟩
      · exact .inr ⟨x, List.mem_cons_of_mem _ hx, h⟩

theorem onBelow_spec (i : Nat) : ∀ (l : List Edge), onBelow i l = true → ∀ e ∈ l, bindsA e = true → e.on < i
  | [], _, e, he, _ => by cases he
  | x :: l, h, e, he, hb => by
    simp only [onBelow] at h
    split at h
    · rename_i hx
      rcases List.mem_cons.1 he with rfl | he
      · rw [hx] at hb; cases hb
      · exact onBelow_spec i l h e he hb
    · split at h
      · rename_i hlt
        rcases List.mem_cons.1 he with rfl | he
        · exact blt_iff.1 hlt
        · exact onBelow_spec i l h e he hb
      · cases h

theorem befores_spec : ∀ (l : List Oper) (acc bef : List Nat), befores l acc.length acc = some bef →
    bef.length = acc.length + l.length ∧ (∀ j, j < acc.length → bef[j]? = acc[j]?) ∧
    ∀ k o, l[k]? = some o → (∀ e ∈ o.after.toList, bindsA e = true → e.on < acc.length + k) ∧
      ∀ j, Bef bef (acc.length + k) j → ∃ e ∈ o.after.toList, bindsA e = true ∧ (j = e.on ∨ Bef bef e.on j)
  | [], acc, bef, h => by
    simp only [befores] at h; cases h
    exact ⟨by simp, fun _ _ => rfl, fun k o ho => by simp at ho⟩
  | o :: l, acc, bef, h => by
    simp only [befores, force_eq] at h
    split at h
    · cases h
    · rename_i hob
      have hlen : (acc ++ [befOf acc o.after.toList 0]).length = acc.length + 1 := by simp
      have ih := befores_spec l (acc ++ [befOf acc o.after.toList 0]) bef (by rw [hlen]; exact h)
      rw [hlen] at ih
      obtain ⟨i1, i2, i3⟩ := ih
      have hpre : ∀ j, j < acc.length → bef[j]? = acc[j]? := by
        intro j hj
        rw [i2 j (by omega), List.getElem?_append_left hj]
      refine ⟨by rw [i1]; simp; omega, hpre, ?_⟩
      intro k o' ho
      cases k with
      | zero =>
        simp at ho; subst ho
        refine ⟨onBelow_spec _ _ hob, ?_⟩
        intro j hj
        obtain ⟨b, hb1, hb2⟩ := hj
        rw [Nat.add_zero, i2 _ (by omega), List.getElem?_append_right (Nat.le_refl _)] at hb1
        simp at hb1
        subst hb1
        rcases befOf_spec acc _ _ _ hb2 with h0 | ⟨e, he, hbe, hh⟩
        · simp at h0
        · refine ⟨e, he, hbe, hh.imp id ?_⟩
          rintro ⟨b, hb, ht⟩
          exact ⟨b, by rw [hpre _ (onBelow_spec _ _ hob e he hbe)]; exact hb, ht⟩
      | succ k =>
        have := i3 k o' (by simpa using ho)
        rwa [show acc.length + 1 + k = acc.length + (k + 1) by omega] at this

/-- who is apart -/
theorem apartTs_spec (x : Option Tmp × List Nat) (b : Nat) : ∀ (l : List (Option Tmp × List Nat)) (i : Nat), apartTs x b l i = true → ∀ j y, l[j]? = some y → Nat.testBit b (i + j) = false → apartT y x = true
  | [], i, _, j, y, hj, _ => by simp at hj
  | z :: l, i, h, j, y, hj, hb => by
    simp only [apartTs] at h
    cases j with
    | zero =>
      simp at hj; subst hj
      rw [Nat.add_zero] at hb
      rw [hb] at h
      simp only at h
      split at h
      · assumption
      · cases h
    | succ j =>
      have hrest : apartTs x b l (Nat.succ i) = true := by
        split at h
        · exact h
        · split at h
          · exact h
          · cases h
      exact apartTs_spec x b l (Nat.succ i) hrest j y (by simpa using hj) (by rw [show Nat.succ i + j = i + (j + 1) by show i + 1 + j = _; omega]; exact hb)
theorem apartAll_spec : ∀ (l : List (Option Tmp × List Nat)) (prev : List (Option Tmp × List Nat)) (bs : List Nat), apartAll prev l bs = true →
    ∀ k x, l[k]? = some x → ∃ b, bs[k]? = some b ∧ ∀ j y, j < prev.length + k → (prev ++ l)[j]? = some y → Nat.testBit b j = false → apartT y x = true
  | [], prev, bs, _, k, x, hk => by simp at hk
  | z :: l, prev, [], h, k, x, hk => by simp [apartAll] at h
  | z :: l, prev, b :: bs, h, k, x, hk => by
    simp only [apartAll] at h
    split at h
    · rename_i hz
      cases k with
      | zero =>
        simp at hk; subst hk
        refine ⟨b, rfl, ?_⟩
        intro j y hj hy hb
        rw [List.getElem?_append_left (by omega)] at hy
        exact apartTs_spec _ _ _ 0 hz j y hy (by rw [Nat.zero_add]; exact hb)
      | succ k =>
        obtain ⟨b', h1, h2⟩ := apartAll_spec l (prev ++ [z]) bs h k x (by simpa using hk)
        refine ⟨b', by simpa using h1, ?_⟩
        intro j y hj hy hb
        refine h2 j y (by simp; omega) ?_ hb
        simpa using hy
    · cases h

/-- what the static look says of two operations that aren't ordered -/
structure Apart (all : List Oper) (x y : Oper) : Prop where
  a : ∀ d, x.dst = some d → d ∉ readsOf all y ∧ y.dst ≠ some d
  b : ∀ d, y.dst = some d → d ∉ readsOf all x

theorem memN_iff (n : Nat) (l : List Nat) : memN n l = true ↔ n ∈ l := by rw [memN_eq]; simp
theorem apartT_spec {all : List Oper} {x y : Oper} (h : apartT (x.dst, readsOf all x) (y.dst, readsOf all y) = true) : Apart all x y := by
  unfold apartT at h
  simp only [Bool.and_eq_true] at h
  obtain ⟨h1, h2⟩ := h
  constructor
  · intro d hd
    rw [hd] at h1
    simp only [Bool.and_eq_true] at h1
    obtain ⟨h3, h4⟩ := h1
    constructor
    · intro hm
      rw [(memN_iff _ _).2 hm] at h3; cases h3
    · intro hy
      rw [hy] at h4
      simp at h4
  · intro d hd hm
    rw [hd] at h2
    simp only at h2
    rw [(memN_iff _ _).2 hm] at h2; cases h2

theorem stat_spec {ops : List Oper} {bef : List Nat} (h : stat ops = some bef) :
    (∀ i o, ops[i]? = some o → (∀ e ∈ o.after.toList, bindsA e = true → e.on < i) ∧ ∀ j, Bef bef i j → ∃ e ∈ o.after.toList, bindsA e = true ∧ (j = e.on ∨ Bef bef e.on j)) ∧
    (∀ i j x y, ops[i]? = some x → ops[j]? = some y → j < i → ¬ Bef bef i j → Apart ops y x) := by
  unfold stat at h
  split at h
  · cases h
  · rename_i bef0 hb
    split at h
    · rename_i ha
      cases h
      obtain ⟨h1, h2, h3⟩ := befores_spec ops [] bef hb
      refine ⟨fun i o ho => by have := h3 i o ho; simpa using this, ?_⟩
      intro i j x y hx hy hlt hnb
      obtain ⟨b, hb1, hb2⟩ := apartAll_spec _ _ _ ha i (x.dst, readsOf ops x) (by simp [hx])
      have hf : Nat.testBit b j = false := by
        cases ht : Nat.testBit b j with
        | false => rfl
        | true => exact absurd ⟨b, hb1, ht⟩ hnb
      exact apartT_spec (hb2 j (y.dst, readsOf ops y) (by simpa using hlt) (by simp [hy]) hf)
    · cases h
end Go.AE
