/- Calls told by a run in memory of their own: what a call reads is named anew, its run is walked there; what it hands back is taken over. No program is named here. -/
import Derived.Test.YtgofanjbhbeniaaDoorAe36
noncomputable section
namespace Go.AE
set_option linter.unusedVariables false
set_option linter.unusedSimpArgs false

/-- a block that no name stood for gets one -/
theorem Rep.adopt {P : Program} {q : Free} {ρ : Ren} {s s1 : S} {w : World} (h : Rep P q ρ s w) {o1 : AObj} {obj1 : Obj} {b base ex : Nat} (hl : s.next < q.hi)
    (hs : ∀ m, s1.heap.get m = if m = s.next then some o1 else s.heap.get m) (hnext : s1.next = s.next + 1) (hb : w.heap[b]? = some obj1)
    (hno : ∀ n x y, ρ n ≠ some (b, x, y)) (hk : q.keep b = none) (ρ' : Ren) (hρ' : ∀ m, ρ' m = if m = s.next then some (b, base, ex) else ρ m)
    (hor : OR P ρ' base ex o1 obj1) (hf1 : o1.isRead = false) : Rep P q ρ' s1 w ∧ ρ.le ρ' := by
  have hle : ρ.le ρ' := by
    intro m x e
    rw [hρ', if_neg]
    · exact e
    · intro hm; subst hm
      rw [h.next_free hl] at e; cases e
  refine ⟨⟨?_, ?_, by rw [hnext]; exact Nat.le_succ_of_le h.from_, fun n a c => h.room n (by rw [hnext] at a; omega) c, ?_, ?_, h.kept, ?_, ?_⟩, hle⟩
  · intro m om e
    rw [hs] at e
    by_cases hm : m = s.next
    · rw [if_pos hm] at e; cases e
      exact ⟨b, base, ex, obj1, by rw [hρ', if_pos hm], hb, hor⟩
    · rw [if_neg hm] at e
      obtain ⟨c, x, y, obj, e1, e2, e3⟩ := h.live m om e
      exact ⟨c, x, y, obj, hle _ _ e1, e2, e3.mono hle⟩
  · intro m k om ok c x y x' y' hne em ek rm rk
    rw [hs] at em ek
    rw [hρ'] at rm rk
    by_cases hm : m = s.next
    · by_cases hk : k = s.next
      · exact absurd (hm.trans hk.symm) hne
      · rw [if_pos hm] at rm; rw [if_neg hk] at rk
        cases rm
        exact absurd rk (hno _ _ _)
    · rw [if_neg hm] at rm em
      by_cases hk : k = s.next
      · rw [if_pos hk] at rk
        cases rk
        exact absurd rm (hno _ _ _)
      · rw [if_neg hk] at rk ek
        exact h.apart m k om ok c x y x' y' hne em ek rm rk
  · intro m hz hm
    rw [hnext] at hm
    rw [hρ', if_neg]
    · exact h.fresh m hz (by omega)
    · have := h.from_
      omega
  · intro m c x y e
    rw [hρ'] at e
    by_cases hm : m = s.next
    · rw [if_pos hm] at e; cases e
      exact (Array.getElem?_eq_some_iff.1 hb).1
    · rw [if_neg hm] at e
      exact h.blk _ _ _ _ e
  · intro m om c x y z e1 e2 e3
    rw [hs] at e1
    rw [hρ'] at e2
    by_cases hm : m = s.next
    · rw [if_pos hm] at e2
      cases e2
      rw [hk] at e3
      cases e3
    · rw [if_neg hm] at e1 e2
      exact h.safe m om c x y z e1 e2 e3
  · intro m om c x y e1 e2 e3
    rw [hs] at e1
    rw [hρ'] at e2
    by_cases hm : m = s.next
    · rw [if_pos hm] at e1
      cases e1
      rw [hf1] at e3; cases e3
    · rw [if_neg hm] at e1 e2
      exact h.rows m om c x y e1 e2 e3

/-- the names that a run in memory of its own may use: all blocks that were there are kept -/
def ownQ (w : World) (K : Nat) : Free := ⟨fun _ => True, 0, K, fun b => w.heap[b]?⟩
theorem Inputs.rep {P : Program} {ρ : Ren} {sI : S} {w : World} (hI : Inputs P ρ sI w) (K : Nat) : Rep P (ownQ w K) ρ sI w := by
  refine ⟨?_, ?_, Nat.zero_le _, fun _ _ _ => trivial, ?_, hI.blk, fun _ _ e => e, ?_, ?_⟩
  · intro n o ho
    obtain ⟨b, base, ex, obj, h1, h2, h3, _⟩ := hI.live n o ho
    exact ⟨b, base, ex, obj, h1, h2, h3⟩
  · intro n m o o' b base ex base' ex' _ ho _ _ _ i h1 h2 _ _
    obtain ⟨_, _, _, _, _, _, _, c, m, e, rfl⟩ := hI.live n o ho
    exact absurd h2 (Nat.not_lt.2 h1)
  · intro n _ hn
    cases hx : ρ n with
    | none => rfl
    | some x => exact absurd (hI.top n x hx) (hn.elim (fun hn => absurd hn (Nat.not_lt_zero _)) (fun hn => Nat.not_lt.2 hn))
  · intro n o b base ex o' ho _ _
    obtain ⟨_, _, _, _, _, _, _, c, m, e, rfl⟩ := hI.live n o ho
    rfl
  · intro n o b base ex ho hr _
    obtain ⟨b1, base1, ex1, obj, h1, h2, _⟩ := hI.live n o ho
    rw [hr] at h1
    cases h1
    exact ⟨obj, h2⟩

section
variable {P : Program} {E : Env}
/-- a run in memory of its own -/
theorem own_run (hE : EnvOK P E) {f : FuncId} {fi : FI} {c : Code} (hf : E.fn.get f = some fi) (hb : fi.body = some c) {args args' : List Value} {sI : S} {ρ2 : Ren} {w : World} {kind : CallKind} {Q : Value → S → Prop} (K N : Nat) (hN : Nat.add args.length (Nat.sub fi.ntmps args.length) = N) (hN2 : Nat.ble N lastName = true)
    (hI : Inputs P ρ2 sI w) (ha : LR ρ2 args args') (hm : sI.mark ≤ sI.next) (h : GoW P (ownQ w K) c ⟨f, Tr.ofList args, N, [], none⟩ sI (Ret E f fi Q)) (cs : List Frame) :
    ∃ v s2, Q v s2 ∧ ∃ ρ' v' w' fr', Rep P (ownQ w K) ρ' s2 w' ∧ Evo ρ2 w ρ' w' ∧ VR ρ' v v' ∧ Go.RowKit.Below w.heap.size w w' ∧ Steps P (lone (Frame.enter P f ⟨args'⟩ kind) cs w) (lone fr' cs w') ∧ fr'.fn = f ∧ fr'.mode = .returning ∧ fr'.defers = [] ∧ fr'.kind = kind ∧
      ∃ fn, P.funcs[fr'.fn]? = some fn ∧ (results fn fr'.tmps).run P w' = .ok v' w' := by
  obtain ⟨v, s2, hq, ρ', v', w', fr', h1, h2, h3, h4, h5, h6, h7, h8, h9⟩ := enter_gow (kind := kind) hE hf hb N hN hN2 h hm (hI.rep K) ha cs
  refine ⟨v, s2, hq, ρ', v', w', fr', h1, h2, h3, ⟨h2.rest.1, h2.rest.2.1, h2.rest.2.2, h2.size, fun k hk => ?_⟩, h4, h5, h6, h7, h8, h9⟩
  have hk' : w.heap[k]? = some w.heap[k] := Array.getElem?_eq_getElem hk
  rw [hk']
  exact h1.kept k _ hk'

/-- a value that is the same in all memory -/
def Plain (v : Value) : Prop := (∀ ρ, VR ρ v v) ∧ ∀ ρ v', VR ρ v v' → v' = v
theorem plain_flat {v : Value} (h : flat v = true) (hi : ∀ ρ v', VR ρ v v' → v' = v) : Plain v := ⟨fun ρ => .flat h, hi⟩
theorem plain_int (k : IntKind) (n : Int) : Plain (.int k n) := ⟨fun ρ => .flat rfl, fun ρ v' h => h.int_inv⟩
theorem plain_bool (b : Bool) : Plain (.bool b) := ⟨fun ρ => .flat rfl, fun ρ v' h => h.bool_inv⟩
theorem plain_list : ∀ {l : List Value}, (∀ v ∈ l, Plain v) → (∀ ρ, LR ρ l l) ∧ ∀ ρ l', LR ρ l l' → l' = l
  | [], _ => ⟨fun ρ => .nil, fun ρ l' h => by cases h; rfl⟩
  | v :: l, h => by
    obtain ⟨h1, h2⟩ := h v (by simp)
    obtain ⟨h3, h4⟩ := plain_list (l := l) (fun u hu => h u (by simp [hu]))
    exact ⟨fun ρ => .cons (h1 ρ) (h3 ρ), fun ρ l' hl => by
      cases hl with
      | cons a b => rw [h2 ρ _ a, h4 ρ _ b]⟩
theorem plain_agg {l : List Value} (h : ∀ v ∈ l, Plain v) : Plain (.agg ⟨l⟩) := by
  obtain ⟨h1, h2⟩ := plain_list h
  exact ⟨fun ρ => .agg (h1 ρ), fun ρ v' hv => by
    obtain ⟨l', rfl, hl⟩ := hv.agg_inv
    rw [h2 ρ l' hl]⟩
theorem plain_tuple {l : List Value} (h : ∀ v ∈ l, Plain v) : Plain (.tuple ⟨l⟩) := by
  obtain ⟨h1, h2⟩ := plain_list h
  exact ⟨fun ρ => .tuple (h1 ρ), fun ρ v' hv => by
    obtain ⟨l', rfl, hl⟩ := hv.tuple_inv
    rw [h2 ρ l' hl]⟩

/-- **a call that hands back no memory, told by a run in memory of its own** -/
theorem told_own (hE : EnvOK P E) {f : FuncId} {fi : FI} {c : Code} {am : List Value → AM Value} (hf : E.fn.get f = some fi) (hb : fi.body = some c)
    (h : ∀ args s v s', (am args).run s = some (v, s') → s.mark ≤ s.next → Plain v ∧ Less' s s' ∧ ∀ (q : Free) (ρ : Ren) (w : World) (args' : List Value), Rep P q ρ s w → LR ρ args args' →
      ∃ (args2 : List Value) (sI : S) (ρ2 : Ren) (K N : Nat), Nat.add args2.length (Nat.sub fi.ntmps args2.length) = N ∧ Nat.ble N lastName = true ∧ Inputs P ρ2 sI w ∧ LR ρ2 args2 args' ∧ sI.mark ≤ sI.next ∧
        GoW P (ownQ w K) c ⟨f, Tr.ofList args2, N, [], none⟩ sI (Ret E f fi fun v1 _ => v1 = v)) : Told P f am := by
  intro q ρ args args' s v s' w hrun hm hl hR ha c0 cs
  obtain ⟨hp, hless, hown⟩ := h args s v s' hrun hm
  obtain ⟨args2, sI, ρ2, K, N, hN, hN2, hI, ha2, hm2, hW⟩ := hown q ρ w args' hR ha
  obtain ⟨v1, s2, rfl, ρ', v', w', fr', h1, h2, h3, hbel, h4, h5, h6, h7, h8, fn, h9, h10⟩ := own_run (kind := .normal) hE hf hb K N hN hN2 hI ha2 hm2 hW (c0 :: cs)
  have := hp.2 _ _ h3
  subst this
  obtain ⟨hR', hE'⟩ := hR.below hbel
  exact ⟨ρ, v', w', hR'.less' hless, hE', hp.1 ρ, Steps.trans h4 (.one (step_leave_returned ⟨h6, h7, h8, fn, h9, h10⟩))⟩

/-- **a call that hands back one new row of plain cells** -/
theorem told_own1 (hE : EnvOK P E) {f : FuncId} {fi : FI} {c : Code} {am : List Value → AM Value} (hf : E.fn.get f = some fi) (hb : fi.body = some c)
    (h : ∀ args s v s', (am args).run s = some (v, s') → s.mark ≤ s.next → ∃ (K1 : Nat) (cc : Tr Value) (n : Nat) (e : TypeId) (rm : Room) (val : Nat → Value), v = val (s.next + K1) ∧ s.next + K1 < s'.next ∧ Nat.ble (s.next + K1) lastName = true ∧
      (∀ i u, cc.get i = some u → i < n → Plain u) ∧ (∀ (ρa ρb : Ren) (a b : Nat) (v' : Value), ρa a = ρb b → VR ρa (val a) v' → VR ρb (val b) v') ∧
      (∀ m, s'.heap.get m = if m = s.next + K1 then some (.cells cc n e rm) else if s.next ≤ m ∧ m < s'.next then none else s.heap.get m) ∧
      ∀ (q : Free) (ρ : Ren) (w : World) (args' : List Value), Rep P q ρ s w → LR ρ args args' →
      ∃ (args2 : List Value) (sI : S) (ρ2 : Ren) (K N : Nat), Nat.add args2.length (Nat.sub fi.ntmps args2.length) = N ∧ Nat.ble N lastName = true ∧ Inputs P ρ2 sI w ∧ LR ρ2 args2 args' ∧ sI.mark ≤ sI.next ∧
        GoW P (ownQ w K) c ⟨f, Tr.ofList args2, N, [], none⟩ sI (Ret E f fi fun v1 s2 => ∃ r c2, v1 = val r ∧ s2.heap.get r = some (.cells c2 n e rm) ∧ ∀ i u, cc.get i = some u → i < n → c2.get i = some u)) : Told P f am := by
  intro q ρ args args' s v s' w hrun hm hl hR ha c0 cs
  obtain ⟨K1, cc, n, e, rm, val, rfl, hK, hble, hpl, hval, hheap, hown⟩ := h args s v s' hrun hm
  obtain ⟨args2, sI, ρ2, K, N, hN, hN2, hI, ha2, hm2, hW⟩ := hown q ρ w args' hR ha
  obtain ⟨v1, s2, ⟨r, c2, rfl, hr, hc2⟩, ρ', v', w', fr', h1, h2, h3, hbel, h4, h5, h6, h7, h8, fn, h9, h10⟩ := own_run (kind := .normal) hE hf hb K N hN hN2 hI ha2 hm2 hW (c0 :: cs)
  obtain ⟨hR', hE'⟩ := hR.below hbel
  -- the block that is handed back
  obtain ⟨b, base, ex, obj, e1, e2, e3⟩ := h1.live r _ hr
  have hnew : w.heap.size ≤ b := by
    rcases Nat.lt_or_ge b w.heap.size with hlt | hge
    · have hk' : w.heap[b]? = some w.heap[b] := Array.getElem?_eq_getElem hlt
      have := h1.safe r _ b base ex _ hr e1 hk'
      cases this
    · exact hge
  -- names up to it
  have hB : Rep P q ρ ⟨s.heap, s.next + K1, s.mark, s.rd, s.wr⟩ w' := hR'.less' ⟨Nat.le_add_right _ _, fun m o ho => ⟨o, ho, .refl o⟩⟩
  have hor : ∀ ρ1 : Ren, OR P ρ1 base ex (.cells cc n e rm) obj := by
    intro ρ1
    cases e3 with
    | cells x y z =>
      exact .cells x y fun i u hu hi => by
        obtain ⟨u', g1, g2⟩ := z i u (hc2 i u hu hi) hi
        obtain ⟨p1, p2⟩ := hpl i u hu hi
        have := p2 _ _ g2
        subst this
        exact ⟨u', g1, p1 ρ1⟩
  have hnok : q.keep b = none := by
    cases hk : q.keep b with
    | none => rfl
    | some o =>
      have := hR.kept b o hk
      exact absurd (Array.getElem?_eq_some_iff.1 this).1 (Nat.not_lt.2 hnew)
  let ρn : Ren := fun m => if m = s.next + K1 then some (b, base, ex) else ρ m
  obtain ⟨hR1, hle⟩ := hB.adopt (s1 := ⟨s.heap.put (s.next + K1) (some (.cells cc n e rm)), s.next + K1 + 1, s.mark, s.rd, s.wr⟩) (o1 := .cells cc n e rm) (b := b) (base := base) (ex := ex) (show s.next + K1 < q.hi by omega)
    (fun m => by
      show (s.heap.put (s.next + K1) _).get m = _
      exact Tr.get_put _ _ _ _ (name_wide (ble_iff.1 hble))) rfl e2 (fun m x y hm => absurd (hR.blk _ _ _ _ hm) (Nat.not_lt.2 hnew)) hnok ρn (fun m => rfl) (hor ρn) rfl
  have hVR : VR ρn (val (s.next + K1)) v' := hval ρ' ρn r (s.next + K1) v' (by rw [e1]; show _ = (if s.next + K1 = s.next + K1 then some (b, base, ex) else ρ (s.next + K1)); rw [if_pos rfl]) h3
  refine ⟨ρn, v', w', hR1.less' ⟨by show s.next + K1 + 1 ≤ s'.next; omega, fun m o ho => ?_⟩, ⟨hle, hE'.frame, hE'.size, ?_, hE'.rest⟩, hVR, Steps.trans h4 (.one (step_leave_returned ⟨h6, h7, h8, fn, h9, h10⟩))⟩
  · rw [hheap] at ho
    have hg : (s.heap.put (s.next + K1) (some (AObj.cells cc n e rm))).get m = if m = s.next + K1 then some (.cells cc n e rm) else s.heap.get m := Tr.get_put _ _ _ _ (name_wide (ble_iff.1 hble))
    refine ⟨o, ?_, .refl o⟩
    show (s.heap.put (s.next + K1) _).get m = _
    rw [hg]
    by_cases hm : m = s.next + K1
    · rw [if_pos hm] at ho ⊢; exact ho
    · rw [if_neg hm] at ho ⊢
      split at ho
      · cases ho
      · exact ho
  · intro m c1 x y hm hlt
    have hm' : (if m = s.next + K1 then some (b, base, ex) else ρ m) = some (c1, x, y) := hm
    split at hm'
    · cases hm'
      exact absurd hlt (Nat.not_lt.2 hnew)
    · exact ⟨m, x, y, hm'⟩
end
end Go.AE
