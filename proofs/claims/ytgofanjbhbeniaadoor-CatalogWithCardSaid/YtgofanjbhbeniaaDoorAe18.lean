/- An operation depends on the temporaries alone that it names. No program is named here. -/
import Derived.Test.YtgofanjbhbeniaaDoorAe17
noncomputable section
namespace Go.AE
set_option linter.unusedVariables false
set_option linter.unusedSimpArgs false

section
variable {E : Env} {f g : Fr}

theorem evs_congr : ∀ {l : List Operand}, (∀ x ∈ l, f.ev x = g.ev x) → f.evs l = g.evs l
  | [], _ => rfl
  | x :: l, h => by
    simp only [Fr.evs]
    rw [h x (by simp), evs_congr (fun y hy => h y (by simp [hy]))]
theorem evParts_congr : ∀ {l : List (Nat × Operand)}, (∀ x ∈ l, f.ev x.2 = g.ev x.2) → evParts f l = evParts g l
  | [], _ => rfl
  | (i, x) :: l, h => by
    simp only [evParts]
    rw [h (i, x) (by simp), evParts_congr (fun y hy => h y (by simp [hy]))]
theorem lowHigh_congr {x : Option Operand} {d : Nat} (h : ∀ y, x = some y → f.ev y = g.ev y) : lowHigh f x d = lowHigh g x d := by
  cases x with
  | none => rfl
  | some y => simp only [lowHigh]; rw [h y rfl]

theorem aop_congr (o : Oper) (hr : f.round = g.round) (h : ∀ x ∈ o.op.operands.toList, f.ev x = g.ev x) : aop E f o = aop E g o := by
  obtain ⟨dst, op, ty, pos, after, guard⟩ := o
  simp only at h
  cases op with
  | move x => simp only [aop]; rw [h x (by simp [Op.operands])]
  | assign x => simp only [aop]; rw [h x (by simp [Op.operands])]
  | pick c a b => simp only [aop, aPick]; rw [h c (by simp [Op.operands]), h a (by simp [Op.operands]), h b (by simp [Op.operands])]
  | alloc t => rfl
  | box t x => simp only [aop, aBox]; rw [h x (by simp [Op.operands])]
  | build t ps =>
    simp only [aop, aBuild]
    rw [evParts_congr (f := f) (g := g) (fun x hx => h x.2 (by simp [Op.operands]; exact ⟨x.1, by simpa using hx⟩))]
  | buildSlice t n ps =>
    simp only [aop, aBuildSlice]
    rw [evParts_congr (f := f) (g := g) (fun x hx => h x.2 (by simp [Op.operands]; exact ⟨x.1, by simpa using hx⟩))]
  | load t a => simp only [aop, aLoad]; rw [h a (by simp [Op.operands])]
  | store t a x => simp only [aop, aStore]; rw [h a (by simp [Op.operands]), h x (by simp [Op.operands])]
  | nilCheck x => simp only [aop, aNil]; rw [h x (by simp [Op.operands])]
  | binOp op t x y yt => simp only [aop, aBin]; rw [h x (by simp [Op.operands]), h y (by simp [Op.operands])]
  | unOp op t x => simp only [aop]; rw [h x (by simp [Op.operands])]
  | convert a b x => simp only [aop, aConvert]; rw [h x (by simp [Op.operands])]
  | makeFunc fn a b =>
    simp only [aop, aMakeFunc]
    rw [evs_congr (f := f) (g := g) (l := a.toList) (fun x hx => h x (by simp [Op.operands]; exact .inl (by simpa using hx))), evs_congr (f := f) (g := g) (l := b.toList) (fun x hx => h x (by simp [Op.operands]; exact .inr (by simpa using hx)))]
  | makeMap t r => rfl
  | makeSlice t l c => simp only [aop, aMakeSlice]; rw [h l (by simp [Op.operands]), h c (by simp [Op.operands])]
  | slice t x lo hi mx =>
    have h0 := h x (by simp [Op.operands])
    have h1 : ∀ d, lowHigh f lo d = lowHigh g lo d := fun d => lowHigh_congr (fun y hy => h y (by subst hy; simp [Op.operands]))
    have h2 : ∀ d, lowHigh f hi d = lowHigh g hi d := fun d => lowHigh_congr (fun y hy => h y (by subst hy; simp [Op.operands]))
    have h3 : ∀ d, lowHigh f mx d = lowHigh g mx d := fun d => lowHigh_congr (fun y hy => h y (by subst hy; simp [Op.operands]))
    simp only [aop, aSlice]
    cases mx with
    | none => simp only [h0, h1, h2]
    | some m => simp only [h0, h1, h2, h3]
  | fieldAddr t x n => simp only [aop, aFieldAddr]; rw [h x (by simp [Op.operands])]
  | field t x n => simp only [aop, aField]; rw [h x (by simp [Op.operands])]
  | indexAddr t x i => simp only [aop, aIndexAddr]; rw [h x (by simp [Op.operands]), h i (by simp [Op.operands])]
  | index t x i => simp only [aop, aIndex]; rw [h x (by simp [Op.operands]), h i (by simp [Op.operands])]
  | lookup t m k ok => simp only [aop, aLookup]; rw [h m (by simp [Op.operands]), h k (by simp [Op.operands])]
  | mapUpdate t m k x => simp only [aop, aUpdate]; rw [h m (by simp [Op.operands]), h k (by simp [Op.operands]), h x (by simp [Op.operands])]
  | insert t m k x => simp only [aop, aUpdate]; rw [h m (by simp [Op.operands]), h k (by simp [Op.operands]), h x (by simp [Op.operands])]
  | range t x => simp only [aop, aRange]; rw [h x (by simp [Op.operands])]
  | next it b => cases b with
    | true => rfl
    | false => simp only [aop, aNext]; rw [h it (by simp [Op.operands])]
  | entry it => simp only [aop, aEntry]; rw [h it (by simp [Op.operands])]
  | extract t i => simp only [aop, aExtract]; rw [h t (by simp [Op.operands])]
  | call c =>
    obtain ⟨callee, args, ats⟩ := c
    have ha := evs_congr (f := f) (g := g) (l := args.toList) (fun x hx => h x (by cases callee <;> simp [Op.operands, Call.operands] <;> first | (exact .inr (by simpa using hx)) | (exact (by simpa using hx))))
    simp only [aop, callA]
    rw [ha]
    cases callee with
    | builtin b => rfl
    | value v => simp only; rw [h v (by simp [Op.operands, Call.operands])]
    | invoke _ _ => rfl
  | defer c =>
    obtain ⟨callee, args, ats⟩ := c
    have ha := evs_congr (f := f) (g := g) (l := args.toList) (fun x hx => h x (by cases callee <;> simp [Op.operands, Call.operands] <;> first | (exact .inr (by simpa using hx)) | (exact (by simpa using hx))))
    simp only [aop, deferA]
    rw [ha, hr]
    cases callee with
    | value v => simp only; rw [h v (by simp [Op.operands, Call.operands])]
    | _ => rfl
  | _ => rfl
end

section
variable {rc : Rec} {E : Env} {all : List Oper}

structure Alike (fr1 fr2 : Fr) : Prop where
  fn : fr2.fn = fr1.fn
  n : fr2.n = fr1.n
  defers : fr2.defers = fr1.defers
  round : fr2.round = fr1.round

theorem ev_alike {fr1 fr2 : Fr} {x : Operand} (h : ∀ t, x = .tmp t → fr2.tmps.get t = fr1.tmps.get t) : fr1.ev x = fr2.ev x := by
  cases x with
  | tmp t => simp only [Fr.ev]; rw [h t rfl]
  | _ => rfl

theorem put_alike {fr1 fr2 fr1' : Fr} (ha : Alike fr1 fr2) {dst : Option Tmp} {v : Value} (h : fr1.put dst v = some fr1') : ∃ fr2', fr2.put dst v = some fr2' := by
  cases dst with
  | none => exact ⟨fr2, rfl⟩
  | some d =>
    simp only [Fr.put] at h ⊢
    rw [ha.n]
    split at h
    · exact ⟨_, rfl⟩
    · cases h

theorem oper_alike {o : Oper} {fr1 fr2 fr1' : Fr} {s s' : S} (ha : Alike fr1 fr2) (ht : ∀ t ∈ readsOf all o, fr2.tmps.get t = fr1.tmps.get t) (h : evOper rc E true all o fr1 s = some (fr1', s')) :
    ∃ v fr2', fr1.put o.dst v = some fr1' ∧ fr2.put o.dst v = some fr2' ∧ evOper rc E true all o fr2 s = some (fr2', s') := by
  have hops : ∀ x ∈ o.op.operands.toList, fr1.ev x = fr2.ev x := by
    intro x hx
    refine ev_alike ?_
    rintro t rfl
    refine ht t ?_
    unfold readsOf
    rw [List.mem_append]
    exact .inl (List.mem_filterMap.2 ⟨.tmp t, hx, rfl⟩)
  have hao : aop E fr2 o = aop E fr1 o := (aop_congr o ha.round.symm hops).symm
  have hw : wantedA all fr2 o = wantedA all fr1 o := by
    unfold wantedA
    cases hg : o.guard with
    | none => rfl
    | some p =>
      obtain ⟨j, want⟩ := p
      simp only
      cases hn : nth all j with
      | none => rfl
      | some p =>
        simp only
        cases hd : p.dst with
        | none => rfl
        | some d =>
          simp only
          rw [ht d (by unfold readsOf; rw [List.mem_append]; right; simp [hg, hn, hd])]
  have fin : ∀ (v : Value) (s1 s2 : S), onFr (fr1.put o.dst v) s1 = some (fr1', s2) → ∃ fr2', fr1.put o.dst v = some fr1' ∧ fr2.put o.dst v = some fr2' ∧ onFr (fr2.put o.dst v) s1 = some (fr2', s2) := by
    intro v s1 s2 hh
    unfold onFr at hh
    split at hh
    · cases hh
    · rename_i fr hp
      cases hh
      obtain ⟨fr2', h2⟩ := put_alike ha hp
      exact ⟨fr2', hp, h2, by rw [h2]; rfl⟩
  unfold evOper at h ⊢
  rw [hw, hao]
  split at h
  · cases h
  · rename_i hwf
    obtain ⟨fr2', a, b, c⟩ := fin _ _ _ h
    exact ⟨_, fr2', a, b, c⟩
  · rename_i hwt
    simp only
    split at h
    · cases h
    · rename_i n s1 hrun
      cases n with
      | value v =>
        obtain ⟨fr2', a, b, c⟩ := fin _ _ _ h
        exact ⟨_, fr2', a, b, c⟩
      | defer d => cases h
      | enter f args =>
        simp only at h ⊢
        split at h
        · rename_i v s2 hrc
          obtain ⟨fr2', a, b, c⟩ := fin _ _ _ h
          exact ⟨_, fr2', a, b, c⟩
        · cases h
      | round l f t n x y =>
        simp only at h ⊢
        split at h
        · rename_i v s2 hrc
          obtain ⟨fr2', a, b, c⟩ := fin _ _ _ h
          exact ⟨_, fr2', a, b, c⟩
        · cases h
end

/-! ### the order that is drawn -/
inductive Order (ops : Array Oper) : (Nat → Prop) → List Nat → Prop
  | nil {D : Nat → Prop} : (∀ i, i < ops.size → D i) → Order ops D []
  | cons {D : Nat → Prop} {i : Nat} {l : List Nat} : i < ops.size → ¬ D i → (∀ o, ops[i]? = some o → ∀ e ∈ o.after.toList, bindsA e = true → D e.on) → Order ops (fun k => D k ∨ k = i) l → Order ops D (i :: l)

theorem Order.congr {ops : Array Oper} {D D' : Nat → Prop} {l : List Nat} (h : Order ops D l) (hd : ∀ k, D k ↔ D' k) : Order ops D' l := by
  have : D = D' := funext fun k => propext (hd k)
  subst this; exact h

theorem binds_eq (e : Edge) : Region.binds .any e = bindsA e := by
  unfold Region.binds bindsA
  cases e.ground <;> rfl

def todo (n : Nat) (listed : Array Bool) : List Nat := (List.range n).filter fun i => !listed.getD i true

theorem todo_set {n : Nat} {listed : Array Bool} {i : Nat} (hn : listed.size = n) (hi : i ∈ todo n listed) : (todo n (listed.setIfInBounds i true)).length + 1 = (todo n listed).length := by
  have hmem := List.mem_filter.1 hi
  have hin : i < n := by simpa using hmem.1
  have e : todo n (listed.setIfInBounds i true) = (todo n listed).erase i := by
    unfold todo
    rw [List.Nodup.erase_eq_filter (List.Pairwise.filter _ List.nodup_range), List.filter_filter]
    apply List.filter_congr
    intro k hk
    have hk : k < n := by simpa using hk
    by_cases hki : k = i
    · subst hki
      simp [Array.getD, hn, hk]
    · simp [Array.getD, hn, hk, Array.getElem_setIfInBounds, show ¬ i = k from fun h => hki h.symm, hki]
  rw [e, List.length_erase_of_mem hi]
  have : 0 < (todo n listed).length := List.length_pos_of_mem hi
  omega

theorem order_go {ops : Array Oper} (hbel : ∀ i o, ops[i]? = some o → ∀ e ∈ o.after.toList, bindsA e = true → e.on < i) : ∀ (fuel t : Nat) (listed : Array Bool), listed.size = ops.size → (todo ops.size listed).length = fuel →
    Order ops (fun k => listed.getD k false = true) (Region.linearise.go .any ops fuel t listed [])
  | 0, t, listed, hn, hl => by
    have h0 := List.eq_nil_of_length_eq_zero hl
    refine .nil ?_
    intro i hi
    cases hq : listed.getD i false with
    | true => rfl
    | false =>
      have : i ∈ todo ops.size listed := by
        refine List.mem_filter.2 ⟨by simpa using hi, ?_⟩
        simp [Array.getD, hn, hi] at hq ⊢
        exact hq
      rw [h0] at this; cases this
  | fuel + 1, t, listed, hn, hl => by
    -- the least that is left is ready
    have hex : ∃ i ∈ todo ops.size listed, ∀ j ∈ todo ops.size listed, i ≤ j := by
      have hne : todo ops.size listed ≠ [] := by intro h; rw [h] at hl; cases hl
      have : ∀ (l : List Nat), l ≠ [] → ∃ i ∈ l, ∀ j ∈ l, i ≤ j := by
        intro l
        induction l with
        | nil => intro h; exact absurd rfl h
        | cons a l ih =>
          intro _
          by_cases hl : l = []
          · subst hl; exact ⟨a, by simp, by simp⟩
          · obtain ⟨i, h1, h2⟩ := ih hl
            by_cases hai : a ≤ i
            · refine ⟨a, by simp, ?_⟩
              intro j hj
              rcases List.mem_cons.1 hj with rfl | hj
              · exact Nat.le_refl _
              · exact Nat.le_trans hai (h2 j hj)
            · refine ⟨i, by simp [h1], ?_⟩
              intro j hj
              rcases List.mem_cons.1 hj with rfl | hj
              · omega
              · exact h2 j hj
      exact this _ hne
    obtain ⟨i0, hi0, hmin⟩ := hex
    have hlisted : ∀ k, k < ops.size → k ∉ todo ops.size listed → listed.getD k false = true := by
      intro k hk hnot
      cases hq : listed.getD k false with
      | true => rfl
      | false =>
        exfalso; apply hnot
        refine List.mem_filter.2 ⟨by simpa using hk, ?_⟩
        simp [Array.getD, hn, hk] at hq ⊢
        exact hq
    have hr0 : i0 ∈ Region.ready .any ops listed := by
      have hmem := List.mem_filter.1 hi0
      have hin : i0 < ops.size := by simpa using hmem.1
      unfold Region.ready
      refine List.mem_filter.2 ⟨hmem.1, ?_⟩
      rw [Bool.and_eq_true]
      refine ⟨hmem.2, ?_⟩
      have ho : ops[i0]? = some ops[i0] := by simp [hin]
      rw [ho]
      simp only [Option.map_some, Option.getD_some, Array.all_eq_true']
      intro e he
      rw [binds_eq]
      cases hb : bindsA e with
      | false => rfl
      | true =>
        simp only [Bool.not_true, Bool.false_or]
        have hlt := hbel i0 _ ho e (by simpa using he) hb
        refine hlisted e.on (by omega) ?_
        intro hin2
        have := hmin _ hin2
        omega
    have hpos : 0 < (Region.ready .any ops listed).length := List.length_pos_of_mem hr0
    have hmod : t % (Region.ready .any ops listed).length < (Region.ready .any ops listed).length := Nat.mod_lt _ hpos
    obtain ⟨i, hi⟩ : ∃ i, (Region.ready .any ops listed)[t % (Region.ready .any ops listed).length]? = some i := ⟨_, List.getElem?_eq_getElem hmod⟩
    have hstep : Region.linearise.go .any ops (fuel + 1) t listed [] = i :: Region.linearise.go .any ops fuel (t / (Region.ready .any ops listed).length) (listed.setIfInBounds i true) [] := by
      have hi' : ((List.range ops.size).filter fun i => !listed.getD i true && ((ops[i]?).map (·.after.all fun e => !Region.binds .any e || listed.getD e.on false)).getD false)[t % ((List.range ops.size).filter fun i => !listed.getD i true && ((ops[i]?).map (·.after.all fun e => !Region.binds .any e || listed.getD e.on false)).getD false).length]? = some i := hi
      rw [Region.linearise.go]
      simp only [hi']
      rw [linearise_go_acc]
      rfl
    rw [hstep]
    have hir : i ∈ Region.ready .any ops listed := List.mem_of_getElem? hi
    unfold Region.ready at hir
    have hir := List.mem_filter.1 hir
    have hin : i < ops.size := by simpa using hir.1
    rw [Bool.and_eq_true] at hir
    have hit : i ∈ todo ops.size listed := List.mem_filter.2 ⟨hir.1, hir.2.1⟩
    refine .cons hin ?_ ?_ ?_
    · have := hir.2.1
      simp [Array.getD, hn, hin] at this ⊢
      exact this
    · intro o ho e he hb
      have h2 := hir.2.2
      rw [ho] at h2
      simp only [Option.map_some, Option.getD_some, Array.all_eq_true'] at h2
      have := h2 e (by simpa using he)
      rw [binds_eq, hb] at this
      simpa using this
    · refine Order.congr (order_go hbel fuel _ _ (by simp [hn]) (by have := todo_set hn hit; omega)) ?_
      intro k
      by_cases hki : k = i
      · subst hki
        simp [Array.getD, hn, hin]
      · simp only [hki, or_false]
        rw [getD_set_ne _ (fun h => hki h.symm)]

theorem order_schedule {ops : Array Oper} (hbel : ∀ i o, ops[i]? = some o → ∀ e ∈ o.after.toList, bindsA e = true → e.on < i) (t : Nat) : Order ops (fun _ => False) (Region.schedule true ops t) := by
  have : Region.schedule true ops t = Region.linearise .any ops t := rfl
  rw [this]
  unfold Region.linearise
  refine Order.congr (order_go hbel ops.size t (Array.replicate ops.size false) (by simp) ?_) ?_
  · unfold todo
    rw [List.filter_eq_self.2]
    · simp
    · intro i hi
      have : i < ops.size := by simpa using hi
      simp [Array.getD, this]
  · intro k
    simp [Array.getD]
end Go.AE
