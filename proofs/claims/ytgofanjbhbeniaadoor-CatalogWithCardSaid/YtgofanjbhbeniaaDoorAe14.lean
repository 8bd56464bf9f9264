/- A run over the named memory depends on the names alone that it touches. No program is named here. -/
import Derived.Test.YtgofanjbhbeniaaDoorAe13
noncomputable section
namespace Go.AE
set_option linter.unusedVariables false
set_option linter.unusedSimpArgs false

def has (l n : Nat) : Prop := Nat.testBit l n = true

theorem has_bit (mk n l k : Nat) : has (bit mk n l) k ↔ has l k ∨ (n < mk ∧ k = n) := by
  unfold bit has
  cases hq : Nat.ble mk n with
  | true => have := ble_iff.1 hq; constructor
            · exact .inl
            · rintro (h | h)
              · exact h
              · omega
  | false =>
    have := ble_false hq
    show Nat.testBit (l ||| (1 <<< n)) k = true ↔ _
    rw [Nat.testBit_or, Nat.testBit_shiftLeft]
    simp only [Bool.or_eq_true, Bool.and_eq_true, decide_eq_true_eq]
    constructor
    · rintro (h | ⟨h1, h2⟩)
      · exact .inl h
      · right
        refine ⟨this, ?_⟩
        cases hk : k - n with
        | zero => omega
        | succ m => rw [hk, Nat.testBit_succ] at h2; simp at h2
    · rintro (h | ⟨h1, h2⟩)
      · exact .inl h
      · subst h2
        right
        exact ⟨Nat.le_refl _, by simp⟩
theorem has_lor (a b n : Nat) : has (Nat.lor a b) n ↔ has a n ∨ has b n := by
  unfold has
  show Nat.testBit (a ||| b) n = true ↔ _
  rw [Nat.testBit_or]; simp

structure LocAt {α : Type} (F : S → Option (α × S)) (s : S) (a : α) (s' : S) : Prop where
  mark : s'.mark = s.mark
  next : s.next ≤ s'.next
  own2 : ∀ n, s'.next ≤ n → s'.heap.get n = s.heap.get n
  rd : ∀ n, has s.rd n → has s'.rd n
  wr : ∀ n, has s.wr n → has s'.wr n
  lim : ∀ n, has s'.wr n → has s.wr n ∨ n < s'.next
  own : ∀ n, n < s.mark → ¬ has s'.wr n → s'.heap.get n = s.heap.get n
  again : ∀ s2 : S, s2.next = s.next → s2.mark = s.mark → s2.rd = s.rd → s2.wr = s.wr →
    (∀ n, n < s.mark → has s'.rd n ∨ has s'.wr n → s2.heap.get n = s.heap.get n) → (∀ n, s.mark ≤ n → n < s'.next → s2.heap.get n = s.heap.get n) →
    ∃ s2', F s2 = some (a, s2') ∧ s2'.next = s'.next ∧ s2'.mark = s'.mark ∧ s2'.rd = s'.rd ∧ s2'.wr = s'.wr ∧
      (∀ n, n < s.mark → has s'.wr n → s2'.heap.get n = s'.heap.get n) ∧ (∀ n, n < s.mark → ¬ has s'.wr n → s2'.heap.get n = s2.heap.get n) ∧
      (∀ n, s.mark ≤ n → n < s'.next → s2'.heap.get n = s'.heap.get n) ∧ (∀ n, s'.next ≤ n → s2'.heap.get n = s2.heap.get n)

def Loc {α : Type} (F : S → Option (α × S)) : Prop := ∀ s a s', F s = some (a, s') → s.mark ≤ s.next → LocAt F s a s'

section
variable {α β : Type}
theorem Loc.pure (a : α) : Loc (fun s => some (a, s)) := by
  intro s a' s' h hm
  cases h
  exact ⟨rfl, Nat.le_refl _, fun _ _ => rfl, fun _ h => h, fun _ h => h, fun _ h => .inl h, fun _ _ _ => rfl, fun s2 h1 h2 h3 h4 h5 h6 => ⟨s2, rfl, h1, h2, h3, h4, fun n hn hw => h5 n hn (.inr hw), fun _ _ _ => rfl, h6, fun _ _ => rfl⟩⟩
theorem Loc.none : Loc (fun _ => (none : Option (α × S))) := by intro s a s' h; cases h
theorem Loc.congr {F G : S → Option (α × S)} (h : ∀ s, F s = G s) (hf : Loc F) : Loc G := by
  have : F = G := funext h
  subst this; exact hf

theorem Loc.bind {F : S → Option (α × S)} {G : α → S → Option (β × S)} (hf : Loc F) (hg : ∀ a, Loc (G a)) :
    Loc (fun s => match F s with | Option.none => Option.none | some (a, s) => G a s) := by
  intro s b s' h hm
  simp only at h
  cases hF : F s with
  | none => rw [hF] at h; cases h
  | some p =>
    obtain ⟨a, s1⟩ := p
    rw [hF] at h
    simp only at h
    have A := hf s a s1 hF hm
    have hm1 : s1.mark ≤ s1.next := by rw [A.mark]; exact Nat.le_trans hm A.next
    have B := hg a s1 b s' h hm1
    have hwr : ∀ n, has s1.wr n → has s'.wr n := B.wr
    refine ⟨by rw [B.mark, A.mark], Nat.le_trans A.next B.next, fun n hn => by rw [B.own2 n hn, A.own2 n (Nat.le_trans B.next hn)], fun n h => B.rd n (A.rd n h), fun n h => B.wr n (A.wr n h), fun n h => (B.lim n h).elim (fun h => (A.lim n h).imp id (fun h => Nat.lt_of_lt_of_le h B.next)) .inr, ?_, ?_⟩
    · intro n hn hw
      rw [B.own n (by rw [A.mark]; exact hn) hw, A.own n hn (fun h => hw (hwr n h))]
    · intro s2 e1 e2 e3 e4 e5 e6
      obtain ⟨t1, f1, f2, f3, f4, f5, f6, f7, f8, f9⟩ := A.again s2 e1 e2 e3 e4 (fun n hn hh => e5 n hn (hh.imp (B.rd n) (B.wr n))) (fun n hn hh => e6 n hn (Nat.lt_of_lt_of_le hh B.next))
      obtain ⟨t2, g1, g2, g3, g4, g5, g6, g7, g8, g9⟩ := B.again t1 f2 f3 f4 f5
        (by
          intro n hn hh
          rw [A.mark] at hn
          by_cases hw : has s1.wr n
          · exact f6 n hn hw
          · rw [f7 n hn hw, A.own n hn hw]; exact e5 n hn hh)
        (by
          intro n hn hh
          rw [A.mark] at hn
          by_cases hlt : n < s1.next
          · exact f8 n hn hlt
          · rw [f9 n (by omega), e6 n hn hh, A.own2 n (by omega)])
      refine ⟨t2, by simp only [f1]; exact g1, g2, g3, g4, g5, ?_, ?_, ?_, ?_⟩
      · intro n hn hw; exact g6 n (by rw [A.mark]; exact hn) hw
      · intro n hn hw
        rw [g7 n (by rw [A.mark]; exact hn) hw, f7 n hn (fun h => hw (hwr n h))]
      · intro n hn hh; exact g8 n (by rw [A.mark]; exact hn) hh
      · intro n hn
        rw [g9 n hn, f9 n (Nat.le_trans B.next hn)]

def getS (n : Nat) (s : S) : Option (AObj × S) := match Nat.blt n s.next with
  | false => none
  | true => match s.heap.get n with
    | none => none
    | some o => some (o, s.seen n)
def turnS (n : Nat) (o : Option AObj) (s : S) : Option (Unit × S) := match Nat.blt n s.next && Nat.ble n lastName with
  | false => none
  | true => match s.heap.get n with
    | none => none
    | some _ => some ((), s.turn n o)
def newS (o : AObj) (s : S) : Option (Nat × S) := match Nat.ble s.next lastName with
  | false => none
  | true => some (s.next, s.grow o)

theorem Loc.get (n : Nat) : Loc (getS n) := by
  intro s a s' h hm
  unfold getS at h
  split at h
  · cases h
  · rename_i hlt
    split at h
    · cases h
    · rename_i o ho
      cases h
      have hlt' := blt_iff.1 hlt
      refine ⟨rfl, Nat.le_refl _, fun _ _ => rfl, fun k h => (has_bit _ _ _ _).2 (.inl h), fun _ h => h, fun _ h => .inl h, fun _ _ _ => rfl, ?_⟩
      intro s2 e1 e2 e3 e4 e5 e6
      have hg : s2.heap.get n = some a := by
        by_cases hn : n < s.mark
        · rw [e5 n hn (.inl ((has_bit _ _ _ _).2 (.inr ⟨hn, rfl⟩)))]; exact ho
        · rw [e6 n (by omega) hlt']; exact ho
      refine ⟨s2.seen n, by simp only [getS, e1, hlt, hg], e1, e2, by simp only [S.seen, e2, e3], e4, ?_, fun _ _ _ => rfl, ?_, fun _ _ => rfl⟩
      · intro k hk hw; exact e5 k hk (.inr hw)
      · exact e6
theorem Loc.turn (n : Nat) (o : Option AObj) : Loc (turnS n o) := by
  intro s a s' h hm
  unfold turnS at h
  split at h
  · cases h
  · rename_i hb
    split at h
    · cases h
    · rename_i o' ho
      cases h
      have hb2 := hb
      simp only [Bool.and_eq_true] at hb2
      have hw := name_wide (ble_iff.1 hb2.2)
      have hlt := blt_iff.1 hb2.1
      refine ⟨rfl, Nat.le_refl _, ?_, fun _ h => h, fun k h => (has_bit _ _ _ _).2 (.inl h), (fun k h => ((has_bit _ _ _ _).1 h).imp id (fun h => by rw [h.2]; exact hlt)), ?_, ?_⟩
      · intro k hk
        have : s.next ≤ k := hk
        rw [turn_get hw, if_neg (by omega)]
      · intro k hk hh
        rw [turn_get hw, if_neg]
        intro e; subst e
        exact hh ((has_bit _ _ _ _).2 (.inr ⟨hk, rfl⟩))
      · intro s2 e1 e2 e3 e4 e5 e6
        have hg : s2.heap.get n = some o' := by
          by_cases hn : n < s.mark
          · rw [e5 n hn (.inr ((has_bit _ _ _ _).2 (.inr ⟨hn, rfl⟩)))]; exact ho
          · rw [e6 n (by omega) hlt]; exact ho
        refine ⟨s2.turn n o, by simp only [turnS, e1, hb, hg], e1, e2, e3, by simp only [S.turn, e2, e4], ?_, ?_, ?_, ?_⟩
        · intro k hk hh
          rw [turn_get hw, turn_get hw]
          by_cases e : k = n
          · rw [if_pos e, if_pos e]
          · rw [if_neg e, if_neg e]; exact e5 k hk (.inr hh)
        · intro k hk hh
          rw [turn_get hw, if_neg]
          intro e; subst e
          exact hh ((has_bit _ _ _ _).2 (.inr ⟨hk, rfl⟩))
        · intro k hk hh
          rw [turn_get hw, turn_get hw]
          by_cases e : k = n
          · rw [if_pos e, if_pos e]
          · rw [if_neg e, if_neg e]; exact e6 k hk hh
        · intro k hk
          have : s.next ≤ k := hk
          rw [turn_get hw, if_neg (by omega)]
theorem Loc.new (o : AObj) : Loc (newS o) := by
  intro s a s' h hm
  unfold newS at h
  split at h
  · cases h
  · rename_i hb
    cases h
    have hw := name_wide (ble_iff.1 hb)
    refine ⟨rfl, Nat.le_succ _, ?_, fun _ h => h, fun _ h => h, fun _ h => .inl h, ?_, ?_⟩
    · intro k hk
      have : s.next + 1 ≤ k := hk
      rw [grow_get hw, if_neg (by omega)]
    · intro k hk _
      rw [grow_get hw, if_neg (by omega)]
    · intro s2 e1 e2 e3 e4 e5 e6
      have hw2 : s2.next < Tr.wide := by rw [e1]; exact hw
      refine ⟨s2.grow o, by simp only [newS, e1, hb], by show s2.next + 1 = s.next + 1; omega, e2, e3, e4, ?_, ?_, ?_, ?_⟩
      · intro k hk hh
        rw [grow_get hw2, grow_get hw, if_neg (by omega), if_neg (by omega)]
        exact e5 k hk (.inr hh)
      · intro k hk hh
        rw [grow_get hw2, if_neg (by omega)]
      · intro k hk hh
        rw [grow_get hw2, grow_get hw, e1]
        by_cases e : k = s.next
        · rw [if_pos e, if_pos e]
        · rw [if_neg e, if_neg e]; exact e6 k hk hh
      · intro k hk
        have : s.next + 1 ≤ k := hk
        rw [grow_get hw2, if_neg (by omega)]

theorem Loc.am (t : AM α) : Loc t.run := by
  induction t with
  | pure a => exact Loc.pure a
  | fail => exact Loc.none
  | get n k ih =>
    refine Loc.congr ?_ (Loc.bind (Loc.get n) ih)
    intro s
    simp only [getS, AM.run]
    cases Nat.blt n s.next with
    | false => rfl
    | true => cases s.heap.get n <;> rfl
  | set n o k ih =>
    refine Loc.congr ?_ (Loc.bind (Loc.turn n (some o)) (fun _ => ih))
    intro s
    simp only [turnS, AM.run]
    cases (Nat.blt n s.next && Nat.ble n lastName) with
    | false => rfl
    | true => cases s.heap.get n <;> rfl
  | del n k ih =>
    refine Loc.congr ?_ (Loc.bind (Loc.turn n Option.none) (fun _ => ih))
    intro s
    simp only [turnS, AM.run]
    cases (Nat.blt n s.next && Nat.ble n lastName) with
    | false => rfl
    | true => cases s.heap.get n <;> rfl
  | new o k ih =>
    refine Loc.congr ?_ (Loc.bind (Loc.new o) ih)
    intro s
    simp only [newS, AM.run, force_eq]
    cases Nat.ble s.next lastName <;> rfl
end

section
variable {E : Env} {rc : Rec}

theorem Loc.onFr (r : Option Fr) : Loc (AE.onFr r) := by
  cases r with
  | none => exact Loc.none
  | some fr => exact Loc.pure fr

theorem Loc.oper (hrc : ∀ t, Loc (rc t)) (dr : Bool) (all : List Oper) (o : Oper) (fr : Fr) : Loc (evOper rc E dr all o fr) := by
  unfold evOper
  cases wantedA all fr o with
  | none => exact Loc.none
  | some b =>
    cases b with
    | false => exact Loc.onFr _
    | true =>
      refine Loc.congr ?_ (Loc.bind (Loc.am (aop E fr o)) (G := fun n s => match n with
        | .value v => AE.onFr (fr.put o.dst v) s
        | .defer d => match dr with
          | true => Option.none
          | false => onDefer fr d o.dst s
        | n => match rc (.next n) s with
          | some (.val v, s) => AE.onFr (fr.put o.dst v) s
          | _ => Option.none) ?_)
      · intro s
        cases (aop E fr o).run s with
        | none => rfl
        | some p => rfl
      · intro n
        have key : ∀ n, Loc (fun s => match rc (.next n) s with
          | some (.val v, s) => AE.onFr (fr.put o.dst v) s
          | _ => Option.none) := by
          intro n
          refine Loc.congr ?_ (Loc.bind (hrc (.next n)) (G := fun x s => match x with
            | .val v => AE.onFr (fr.put o.dst v) s
            | .fr _ _ => Option.none) ?_)
          · intro s
            cases rc (.next n) s with
            | none => rfl
            | some p => obtain ⟨x, s⟩ := p; cases x <;> rfl
          · intro x; cases x with
            | val v => exact Loc.onFr _
            | fr _ _ => exact Loc.none
        cases n with
        | value v => exact Loc.onFr _
        | defer d =>
          cases dr with
          | true => exact Loc.none
          | false =>
            show Loc (onDefer fr d o.dst)
            unfold onDefer
            cases fr.round with
            | none => exact Loc.onFr _
            | some _ => exact Loc.none
        | enter f a => exact key _
        | round l fn t n a b => exact key _

theorem Loc.ops (hrc : ∀ t, Loc (rc t)) (all : List Oper) : ∀ (rest : List Oper) (fr : Fr), Loc (opsLoop rc E all rest fr)
  | [], fr => Loc.pure fr
  | o :: rest, fr => by
    refine Loc.congr ?_ (Loc.bind (Loc.oper (E := E) hrc false all o fr) (fun fr' => Loc.ops hrc all rest fr'))
    intro s
    simp only [opsLoop]
    cases evOper rc E false all o fr s with
    | none => rfl
    | some p => rfl

theorem has_join (mk a b n : Nat) (h : 0 < mk) : has (joinLog mk a b) n ↔ has a n ∨ has b n := by
  cases mk with
  | zero => omega
  | succ k => exact has_lor a b n

def opStep (rc : Rec) (E : Env) (all : List Oper) (o : Oper) (fr : Fr) (b : Nat) (seen : List (Nat × Nat × Nat)) (s : S) : Option ((Fr × Nat × Nat) × S) :=
  match evOper rc E true all o fr ⟨s.heap, s.next, s.next, 0, 0⟩ with
  | none => none
  | some (fr', s') => match clash s'.rd s'.wr b seen with
    | true => none
    | false => some ((fr', s'.rd, Nat.lor s'.wr (created s.next s'.next)), ⟨s'.heap, s'.next, s.mark, joinLog s.mark s.rd s'.rd, joinLog s.mark s.wr s'.wr⟩)

theorem Loc.opStep (hrc : ∀ t, Loc (rc t)) (all : List Oper) (o : Oper) (fr : Fr) (b : Nat) (seen : List (Nat × Nat × Nat)) : Loc (AE.opStep rc E all o fr b seen) := by
  intro s a s' h hm
  unfold AE.opStep at h
  split at h
  · cases h
  · rename_i fr' t ht
    split at h
    · cases h
    · rename_i hc
      cases h
      have A := Loc.oper (E := E) hrc true all o fr _ _ _ ht (Nat.le_refl _)
      have Aown : ∀ n, n < s.next → ¬ has t.wr n → t.heap.get n = s.heap.get n := A.own
      have Anext : s.next ≤ t.next := A.next
      refine ⟨rfl, A.next, A.own2, ?_, ?_, ?_, ?_, ?_⟩
      · intro n hn
        show has (joinLog s.mark s.rd t.rd) n
        cases hmk : s.mark with
        | zero => exact hn
        | succ k => exact (has_join _ _ _ _ (by omega)).2 (.inl hn)
      · intro n hn
        show has (joinLog s.mark s.wr t.wr) n
        cases hmk : s.mark with
        | zero => exact hn
        | succ k => exact (has_join _ _ _ _ (by omega)).2 (.inl hn)
      · intro n hn
        have hn : has (joinLog s.mark s.wr t.wr) n := hn
        cases hmk : s.mark with
        | zero => rw [hmk] at hn; exact .inl hn
        | succ k =>
          rcases (has_join _ _ _ _ (by omega)).1 hn with h | h
          · exact .inl h
          · rcases A.lim n h with h0 | h0
            · exact absurd h0 (by simp [has])
            · exact .inr h0
      · intro n hn hw
        have hw2 : ¬ (has s.wr n ∨ has t.wr n) := fun h => hw ((has_join _ _ _ _ (by omega)).2 h)
        exact Aown n (by omega) (fun h => hw2 (.inr h))
      · intro s2 e1 e2 e3 e4 e5 e6
        have e5' : ∀ n, n < s.mark → (has s.rd n ∨ has t.rd n) ∨ (has s.wr n ∨ has t.wr n) → s2.heap.get n = s.heap.get n := by
          intro n hn hh
          exact e5 n hn (hh.imp (has_join _ _ _ _ (by omega)).2 (has_join _ _ _ _ (by omega)).2)
        have e6' : ∀ n, s.mark ≤ n → n < t.next → s2.heap.get n = s.heap.get n := e6
        obtain ⟨u, f1, f2, f3, f4, f5, f6, f7, f8, f9⟩ := A.again ⟨s2.heap, s2.next, s2.next, 0, 0⟩ e1 e1 rfl rfl
          (by
            intro n hn hh
            have hn : n < s.next := hn
            by_cases hmk : n < s.mark
            · exact e5' n hmk (hh.imp .inr .inr)
            · exact e6' n (by omega) (by omega))
          (by
            intro n hn hh
            have hn : s.next ≤ n := hn
            exact e6' n (by omega) hh)
        have f6 : ∀ n, n < s.next → has t.wr n → u.heap.get n = t.heap.get n := f6
        have f7 : ∀ n, n < s.next → ¬ has t.wr n → u.heap.get n = s2.heap.get n := f7
        have f8 : ∀ n, s.next ≤ n → n < t.next → u.heap.get n = t.heap.get n := f8
        refine ⟨⟨u.heap, u.next, s2.mark, joinLog s2.mark s2.rd u.rd, joinLog s2.mark s2.wr u.wr⟩, ?_, f2, e2, ?_, ?_, ?_, ?_, ?_, f9⟩
        · rw [e1] at f1
          simp only [AE.opStep, e1, f1, f4, f5, hc, f2]
        · show joinLog s2.mark s2.rd u.rd = joinLog s.mark s.rd t.rd
          rw [e2, e3, f4]
        · show joinLog s2.mark s2.wr u.wr = joinLog s.mark s.wr t.wr
          rw [e2, e4, f5]
        · intro n hn hh
          show u.heap.get n = t.heap.get n
          have hh2 := (has_join _ _ _ _ (by omega)).1 hh
          by_cases hw : has t.wr n
          · exact f6 n (by omega) hw
          · rw [f7 n (by omega) hw, Aown n (by omega) hw]
            exact e5' n hn (.inr hh2)
        · intro n hn hh
          show u.heap.get n = s2.heap.get n
          exact f7 n (by omega) (fun hw => hh ((has_join _ _ _ _ (by omega)).2 (.inr hw)))
        · intro n hn hh
          show u.heap.get n = t.heap.get n
          by_cases hlt : n < s.next
          · by_cases hw : has t.wr n
            · exact f6 n hlt hw
            · rw [f7 n hlt hw, Aown n hlt hw]; exact e6' n hn hh
          · exact f8 n (by omega) hh

theorem Loc.drawn (hrc : ∀ t, Loc (rc t)) (all : List Oper) : ∀ (rest : List Oper) (bef : List Nat) (i : Nat) (seen : List (Nat × Nat × Nat)) (fr : Fr),
    Loc (fun s => drawnLoop rc E all s.mark rest bef i seen s.rd s.wr fr s)
  | [], bef, i, seen, fr => Loc.congr (fun s => by cases bef <;> rfl) (Loc.pure fr)
  | _ :: _, [], i, seen, fr => Loc.congr (fun s => rfl) Loc.none
  | o :: rest, b :: bef, i, seen, fr => by
    refine Loc.congr ?_ (Loc.bind (Loc.opStep (E := E) hrc all o fr b seen) (fun x => Loc.drawn hrc all rest bef (Nat.succ i) (keepLog i x.2.1 x.2.2 seen) x.1))
    intro s
    simp only [drawnLoop, force_eq, AE.opStep]
    cases evOper rc E true all o fr ⟨s.heap, s.next, s.next, 0, 0⟩ with
    | none => rfl
    | some p =>
      obtain ⟨fr', s'⟩ := p
      simp only
      cases clash s'.rd s'.wr b seen with
      | true => rfl
      | false => 
        simp only
        cases rest with
        | nil => cases bef <;> rfl
        | cons => cases bef <;> rfl
end
end Go.AE
