/- Pieces of code by what the machine does, told in parts; ranges over maps, in whatever order. No program is named here. -/
import Derived.Test.YtgofanjbhbeniaaDoorAe34
noncomputable section
namespace Go.AE
set_option linter.unusedVariables false
set_option linter.unusedSimpArgs false

/-- a piece of code, run by the machine, comes to an end that is Q's -/
def GoW (P : Program) (q : Free) (c : Code) (fr : Fr) (s : S) (Q : Ex → Fr → S → Prop) : Prop :=
  ∀ (ρ : Ren) (w : World) (a : Act) (b : Frame), s.mark ≤ s.next → Rep P q ρ s w → ActR ρ fr a → BaseR ρ fr b → ∀ (k : List Item) (cs : List Frame),
    ∃ x fr' s', Q x fr' s' ∧ s'.mark ≤ s'.next ∧ fr'.fn = fr.fn ∧ fr'.round = fr.round ∧
      ∃ (ρ' : Ren) (a' : Act) (w' : World), Rep P q ρ' s' w' ∧ Evo ρ w ρ' w' ∧ ActR ρ' fr' a' ∧ Arr P (lone (b.atR a (.code c :: k)) cs w) b k cs x a' w'

section
variable {P : Program} {E : Env} {σ : Sums} {q : Free}

theorem gow_of (hE : EnvOK P E) (hmix : P.follows .mixedOrders = true) (hσ : Tolds P σ) {c : Code} {fr : Fr} {s : S} {Q : Ex → Fr → S → Prop} (h : GoC E σ c fr s fun x fr' s' => s'.next ≤ q.hi ∧ Q x fr' s') : GoW P q c fr s Q := by
  intro ρ w a b hm hR hA hB k cs
  obtain ⟨x, fr', s', ⟨hl, hQ⟩, n0, h0⟩ := h
  have hr := h0 n0 (Nat.le_refl _)
  have A := loc_evT E σ n0 _ _ _ _ hr hm
  obtain ⟨ρ', a', w', h1, h2, h3, h4, h5, h6⟩ := (evT_sim hE hmix hσ n0).1 q ρ c fr s x fr' s' w a b hr hm hl hR hA hB k cs
  exact ⟨x, fr', s', hQ, by rw [A.mark]; exact Nat.le_trans hm A.next, h4, h5, ρ', a', w', h1, h2, h3, h6⟩
theorem GoW.mono {c : Code} {fr : Fr} {s : S} {Q Q' : Ex → Fr → S → Prop} (h : GoW P q c fr s Q) (hq : ∀ x fr s, Q x fr s → Q' x fr s) : GoW P q c fr s Q' := by
  intro ρ w a b hm hR hA hB k cs
  obtain ⟨x, fr', s', h1, h2⟩ := h ρ w a b hm hR hA hB k cs
  exact ⟨x, fr', s', hq _ _ _ h1, h2⟩

def ThenW (P : Program) (q : Free) (b : Code) (Q : Ex → Fr → S → Prop) : Ex → Fr → S → Prop
  | .normal, fr, s => GoW P q b fr s Q
  | x, fr, s => Q x fr s
theorem gow_seq {x1 x2 : Code} {fr : Fr} {s : S} {Q : Ex → Fr → S → Prop} (h : GoW P q x1 fr s (ThenW P q x2 Q)) : GoW P q (.seq x1 x2) fr s Q := by
  intro ρ w a b hm hR hA hB k cs
  obtain ⟨x, fr1, s1, hq, hm1, e1, e2, ρ1, a1, w1, h1, h2, h3, h6⟩ := h ρ w a b hm hR hA hB (.code x2 :: k) cs
  cases x with
  | normal =>
    obtain ⟨y, fr2, s2, hq2, hm2, f1, f2, ρ2, a2, w2, g1, g2, g3, g6⟩ := hq ρ1 w1 a1 b hm1 h1 h3 ((hB.mono h2.sub).of e1 e2) k cs
    exact ⟨y, fr2, s2, hq2, hm2, f1.trans e1, f2.trans e2, ρ2, a2, w2, g1, h2.trans g2, g3, .of_steps (.head stepR_seq h6) g6⟩
  | ret => exact ⟨_, fr1, s1, hq, hm1, e1, e2, ρ1, a1, w1, h1, h2, h3, Arr.of_steps (.one stepR_seq) h6⟩
  | exit id =>
    obtain ⟨T, e, h6⟩ := h6
    exact ⟨_, fr1, s1, hq, hm1, e1, e2, ρ1, a1, w1, h1, h2, h3, T, e, .head stepR_seq h6⟩
theorem gow_cond {c : Operand} {x1 x2 : Code} {fr : Fr} {s : S} {Q : Ex → Fr → S → Prop} {t : Bool} (hc : fr.ev c = some (.bool t)) (h1 : t = true → GoW P q x1 fr s Q) (h2 : t = false → GoW P q x2 fr s Q) : GoW P q (.cond c x1 x2) fr s Q := by
  intro ρ w a b hm hR hA hB k cs
  have hs := stepR_cond (P := P) (b := b) (a := a) (k := k) (cs := cs) (w := w) (x := x1) (y := x2) ((hA.ev _ _ hc).bool_inv)
  cases t with
  | true =>
    obtain ⟨x, fr1, s1, hq, hm1, e1, e2, ρ1, a1, w1, g1, g2, g3, g6⟩ := h1 rfl ρ w a b hm hR hA hB k cs
    exact ⟨x, fr1, s1, hq, hm1, e1, e2, ρ1, a1, w1, g1, g2, g3, .of_steps (.one hs) g6⟩
  | false =>
    obtain ⟨x, fr1, s1, hq, hm1, e1, e2, ρ1, a1, w1, g1, g2, g3, g6⟩ := h2 rfl ρ w a b hm hR hA hB k cs
    exact ⟨x, fr1, s1, hq, hm1, e1, e2, ρ1, a1, w1, g1, g2, g3, .of_steps (.one hs) g6⟩
theorem gow_block {id : Nat} {c : Code} {fr : Fr} {s : S} {Q : Ex → Fr → S → Prop} (h : GoW P q c fr s (Out_ id Q)) : GoW P q (.block id c) fr s Q := by
  intro ρ w a b hm hR hA hB k cs
  obtain ⟨x, fr1, s1, hq, hm1, e1, e2, ρ1, a1, w1, h1, h2, h3, h6⟩ := h ρ w a b hm hR hA hB (.inBlock id :: k) cs
  cases x with
  | normal => exact ⟨.normal, fr1, s1, hq, hm1, e1, e2, ρ1, a1, w1, h1, h2, h3, .head stepR_block (Steps.trans h6 (.one stepR_inBlock))⟩
  | ret => exact ⟨.ret, fr1, s1, hq, hm1, e1, e2, ρ1, a1, w1, h1, h2, h3, Arr.of_steps (.one stepR_block) h6⟩
  | exit i =>
    obtain ⟨T, e, h6⟩ := h6
    by_cases hi : i = id
    · subst hi
      simp only [Out_, if_true] at hq
      have e2' : exitTo i T = some k := by rw [e]; simp [exitTo]
      exact ⟨.normal, fr1, s1, hq, hm1, e1, e2, ρ1, a1, w1, h1, h2, h3, .head stepR_block (Steps.trans h6 (.one (stepR_exit e2')))⟩
    · simp only [Out_, hi, if_false] at hq
      have e2' : exitTo i T = exitTo i k := by
        rw [e]
        have : (id == i) = false := by simp; exact fun h => hi h.symm
        simp [exitTo, this]
      exact ⟨.exit i, fr1, s1, hq, hm1, e1, e2, ρ1, a1, w1, h1, h2, h3, T, e2', .head stepR_block h6⟩
theorem gow_loop {c : Code} {fr : Fr} {s : S} {Q : Ex → Fr → S → Prop} (h : GoW P q c fr s (ThenW P q (.loop c) Q)) : GoW P q (.loop c) fr s Q := by
  intro ρ w a b hm hR hA hB k cs
  obtain ⟨x, fr1, s1, hq, hm1, e1, e2, ρ1, a1, w1, h1, h2, h3, h6⟩ := h ρ w a b hm hR hA hB (.inLoop c :: k) cs
  cases x with
  | normal =>
    obtain ⟨y, fr2, s2, hq2, hm2, f1, f2, ρ2, a2, w2, g1, g2, g3, g6⟩ := hq ρ1 w1 a1 b hm1 h1 h3 ((hB.mono h2.sub).of e1 e2) k cs
    exact ⟨y, fr2, s2, hq2, hm2, f1.trans e1, f2.trans e2, ρ2, a2, w2, g1, h2.trans g2, g3, .of_steps (.head stepR_loop h6) (Arr.inLoop g6)⟩
  | ret => exact ⟨_, fr1, s1, hq, hm1, e1, e2, ρ1, a1, w1, h1, h2, h3, Arr.of_steps (.one stepR_loop) h6⟩
  | exit id =>
    obtain ⟨T, e, h6⟩ := h6
    exact ⟨_, fr1, s1, hq, hm1, e1, e2, ρ1, a1, w1, h1, h2, h3, T, e, .head stepR_loop h6⟩
theorem gow_loop_inv {body : Code} {Q : Ex → Fr → S → Prop} (I : Nat → Fr → S → Prop) (h : ∀ k fr s, I k fr s → GoW P q body fr s (Again I k Q)) : ∀ k fr s, I k fr s → GoW P q (.loop body) fr s Q := by
  intro k
  induction k using Nat.strongRecOn with
  | _ k ih =>
    intro fr s hI
    refine gow_loop ((h k fr s hI).mono ?_)
    intro x fr s hx
    cases x with
    | normal => obtain ⟨k', hk, hI'⟩ := hx; exact ih k' hk fr s hI'
    | _ => exact hx

/-! a step of a range over a map -/
theorem ER.at {ρ : Ren} : ∀ {es es' : List MapEntry}, ER ρ es es' → ∀ (i : Nat) (e' : MapEntry), es'[i]? = some e' → ∃ e ∈ es, e.born = e'.born ∧ VR ρ e.key e'.key ∧ VR ρ e.val e'.val
  | _, _, .nil, i, e', h => by simp at h
  | _, _, .cons a b c, 0, e', h => by
    simp only [List.getElem?_cons_zero, Option.some.injEq] at h
    subst h
    exact ⟨_, List.mem_cons_self, rfl, a, b⟩
  | _, _, .cons a b c, i + 1, e', h => by
    simp only [List.getElem?_cons_succ] at h
    obtain ⟨e, h1, h2⟩ := ER.at c i e' h
    exact ⟨e, List.mem_cons_of_mem _ h1, h2⟩
theorem ER.len {ρ : Ren} : ∀ {es es' : List MapEntry}, ER ρ es es' → es.length = es'.length
  | _, _, .nil => rfl
  | _, _, .cons a b c => by simp only [List.length_cons, ER.len c]
theorem Rep.drew {ρ : Ren} {s : S} {w : World} (h : Rep P q ρ s w) (n : Nat) : Rep P q ρ s { w with drawn := n } :=
  ⟨h.live, h.apart, h.from_, h.room, h.fresh, h.blk, h.kept, h.safe, h.rows⟩

theorem next_any {ρ : Ren} {s : S} {w : World} (hR : Rep P q ρ s w) {r m since last clock : Nat} {seen : List Nat} {es : List MapEntry} {x' : Value} {sp} (hx : VR ρ (.pointer (some ⟨r, 0, sp⟩)) x')
    (ho : s.heap.get r = some (.mapIter (some m) since seen last)) (hom : s.heap.get m = some (.map es clock)) (hlt : r < s.next) (hw : Nat.ble r lastName = true)
    (hold : allOld since es = true) (hsl : since ≤ last) (hne : unseen seen es ≠ []) (ty : TypeId) :
    ∃ e ∈ unseen seen es, ∃ v' w', (Instr.next x' false ty).run P w = .ok v' w' ∧ Rep P q ρ (s.turn r (some (.mapIter (some m) since (seen ++ [e.born]) clock))) w' ∧ Evo ρ w ρ w' ∧ VR ρ (.tuple ⟨[.bool true, e.key, e.val]⟩) v' := by
  obtain ⟨a', ea, har⟩ := hx.ptr_inv
  subst ea
  obtain ⟨nm, off, b, base, ex, hρ, h3, h4⟩ := har
  cases h3
  subst h4
  obtain ⟨b1, base1, ex1, obj, e1, e2, e3⟩ := hR.live _ _ ho
  rw [hρ] at e1; cases e1
  have hgo := getObj_run (P := P) e2 e3 rfl
  have e30 := e3
  cases e3 with
  | iterS hb0 hm =>
    rename_i bm bbm eem
    subst hb0
    obtain ⟨b2, base2, ex2, obj2, f1, f2, f3⟩ := hR.live _ _ hom
    rw [hm] at f1; cases f1
    have hgm := getObj_run (P := P) f2 f3 rfl
    cases f3 with
    | map her =>
      rename_i es'
      have hold' := allOld_all since hold her
      have hun := unseen_ER seen her
      have hsup : (!(⟨seen⟩ : Array Nat).isEmpty && !(⟨es'⟩ : Array MapEntry).isEmpty && (⟨es'⟩ : Array MapEntry).all (·.born ≥ last)) = false := by
        cases es' with
        | nil => simp
        | cons y ys =>
          have := hold' y (by simp)
          have hl : ¬ (y.born ≥ last) := by omega
          simp [hl]
      have hleft : (⟨es'⟩ : Array MapEntry).filter (fun e => !(⟨seen⟩ : Array Nat).contains e.born) = ⟨es'.filter fun e => !seen.contains e.born⟩ := by
        apply Array.ext'; simp
      have ho1 : ∀ l : List MapEntry, (∀ y ∈ l, y.born < since) → (⟨l⟩ : Array MapEntry).filter (fun e => e.born < since) = ⟨l⟩ ∧ (⟨l⟩ : Array MapEntry).filter (fun e => e.born ≥ since) = ⟨[]⟩ := by
        intro l hl
        constructor
        · apply Array.ext'; simp; exact hl
        · apply Array.ext'; simp; intro y hy; exact hl y hy
      have ho2 := ho1 _ (fun y hy => hold' y (List.mem_filter.1 hy).1 : ∀ y ∈ es'.filter (fun e => !seen.contains e.born), y.born < since)
      generalize hL : es'.filter (fun e => !seen.contains e.born) = L at *
      have hlen := hun.len
      have hpos : 0 < L.length := by
        rw [← hlen]
        cases hu : unseen seen es with
        | nil => exact absurd hu hne
        | cons a b => simp
      have hLe : (⟨L⟩ : Array MapEntry).isEmpty = false := by
        cases L with
        | nil => simp at hpos
        | cons a b => rfl
      -- what is drawn
      have hdraw : ∃ i w1, i < L.length ∧ (choose (.mapNext L.length)).run P w = .ok i w1 ∧ Rep P q ρ s w1 ∧ Evo ρ w ρ w1 ∧ w1.heap = w.heap := by
        by_cases hf : L.length ≤ 1
        · exact ⟨0, w, hpos, by simp [choose, Sem.run, Question.forced, hf], hR, Evo.refl _ _, rfl⟩
        · refine ⟨(Question.mapNext L.length).cut (w.tape w.drawn (.mapNext L.length)), { w with drawn := w.drawn + 1 }, Nat.mod_lt _ hpos, by simp [choose, Sem.run, Question.forced, hf], hR.drew _, ?_, rfl⟩
          exact ⟨Ren.le.refl ρ, fun _ _ _ => rfl, Nat.le_refl _, fun n b base ex h _ => ⟨n, base, ex, h⟩, ⟨rfl, rfl, rfl⟩⟩
      obtain ⟨i, w1, hi, hch, hR1, hE1, hh1⟩ := hdraw
      obtain ⟨e', he'⟩ : ∃ e', L[i]? = some e' := ⟨_, List.getElem?_eq_getElem hi⟩
      obtain ⟨e, hmem, hborn, hk, hv⟩ := hun.at i e' he'
      have hset : (AM.set r (AObj.mapIter (some m) since (seen ++ [e.born]) clock) (AM.pure ())).run s = some ((), s.turn r (some (.mapIter (some m) since (seen ++ [e.born]) clock))) := by
        simp only [AM.run, blt_iff.2 hlt, hw, Bool.and_self, ho]
        rfl
      obtain ⟨s1, h7, g1, g2, g3⟩ := setO_sim hR1 (obj1 := .mapIter (some bm) since ((⟨seen⟩ : Array Nat).push e.born) clock) ho hρ (by rw [hh1]; exact e2) e30 rfl
        (by
          have := OR.iterS (P := P) (ρ := ρ) (base := 0) (ex := ex) (since := since) (seen := seen ++ [e.born]) (st := clock) rfl hm
          have e : ((⟨seen⟩ : Array Nat).push e.born) = ⟨seen ++ [e.born]⟩ := by apply Array.ext'; simp
          rw [e]; exact this) rfl hset
      have hs1 : s1 = s.turn r (some (.mapIter (some m) since (seen ++ [e.born]) clock)) := by
        simp only [AM.run, Option.some.injEq, Prod.mk.injEq, true_and] at h7
        exact h7
      subst hs1
      refine ⟨e, hmem, .tuple #[.bool true, e'.key, e'.val], _, ?_, g1, hE1.trans g2, .tuple (.cons (.flat rfl) (.cons hk (.cons hv .nil)))⟩
      have hcand : ((#[] : Array (Option MapEntry)) ++ ((⟨L⟩ : Array MapEntry) ++ (⟨[]⟩ : Array MapEntry)).map some)[i]? = some (some e') := by
        simp [he']
      have hsz : ((#[] : Array (Option MapEntry)) ++ ((⟨L⟩ : Array MapEntry) ++ (⟨[]⟩ : Array MapEntry)).map some).size = L.length := by simp
      simp only [Instr.next, Nat.zero_add, Sem.run_bind, hgo, Result.andThen_ok, hgm, hsup, Bool.false_eq_true, if_false, Sem.run_pure, hleft, ho2.1, ho2.2, hLe, hsz, hch, hcand, ← hborn, g3]

/-- the first operation of a region steps along a map, whichever entry comes -/
theorem gow_next (hE : EnvOK P E) (hmix : P.follows .mixedOrders = true) (hσ : Tolds P σ) {id : Nat} {ops : Array Oper} {o : Oper} {rest : List Oper} (hops : ops.toList = o :: rest) {it : Operand} (hop : o.op = .next it false) (hg : o.guard = none)
    {fr : Fr} {s : S} {Q : Ex → Fr → S → Prop} {r m since last clock : Nat} {seen : List Nat} {es : List MapEntry} {sp} (hit : fr.ev it = some (.pointer (some ⟨r, 0, sp⟩)))
    (ho : s.heap.get r = some (.mapIter (some m) since seen last)) (hom : s.heap.get m = some (.map es clock)) (hlt : r < s.next) (hw : Nat.ble r lastName = true)
    (hold : allOld since es = true) (hsl : since ≤ last) (hne : unseen seen es ≠ [])
    (h : ∀ e ∈ unseen seen es, ∃ fr1 fr' s', fr.put o.dst (.tuple ⟨[.bool true, e.key, e.val]⟩) = some fr1 ∧ (∃ n, opsLoop (evT E σ n) E ops.toList rest fr1 (s.turn r (some (.mapIter (some m) since (seen ++ [e.born]) clock))) = some (fr', s')) ∧ s'.next ≤ q.hi ∧ Q .normal fr' s') : GoW P q (.region id ops false) fr s Q := by
  intro ρ w a b hm hR hA hB k cs
  obtain ⟨e, hmem, v', w1, hrun, hR1, hE1, hv⟩ := next_any hR (hA.ev _ _ hit) ho hom hlt hw hold hsl hne o.type
  obtain ⟨fr1, fr', s', hput, ⟨n, hops2⟩, hl, hq⟩ := h e hmem
  have hoi : ops[0]? = some o := by rw [← Array.getElem?_toList, hops]; rfl
  have hwant := wanted_sim (ops := ops) hA (o := o) (bb := true) (by unfold wantedA; rw [hg])
  have hgr := stepGR_op (P := P) (b := b) (a := a) (k := k) (cs := cs) (w := w) (rest := List.range' 1 rest.length) hoi hwant
  have hex : (o.semAt b.roundOf a.eval).run P w = .ok (.value v') w1 := by
    rw [Oper.semAt_eq]
    · obtain ⟨dst, op, ty, pos, after, guard⟩ := o
      simp only at hop
      subst hop
      show ((do pure (Next.value (← Instr.next (a.eval it) false ty)) : Sem Next).run P w) = _
      simp only [Sem.run_bind, hrun, Result.andThen_ok, Sem.run_pure]
    · intro c hc
      rw [hop] at hc
      cases hc
  have hfin : ∀ (a : Act) v, (b.atR a (.inRegion ops (0 :: List.range' 1 rest.length) :: k)).finish v = b.atR (a.put o.dst v) (.inRegion ops (List.range' 1 rest.length) :: k) := by
    intro a v; rw [Frame.finish_atR, hoi]; rfl
  obtain ⟨g1, g2, g3⟩ := (hA.mono hE1.sub).put hput hv
  obtain ⟨hC, hN, _⟩ := evT_sim hE hmix hσ n
  have hsz : 1 + rest.length = ops.size := by
    have : ops.toList.length = ops.size := by simp
    rw [← this, hops]; simp; omega
  have hm1 : (s.turn r (some (.mapIter (some m) since (seen ++ [e.born]) clock))).mark ≤ (s.turn r (some (.mapIter (some m) since (seen ++ [e.born]) clock))).next := hm
  obtain ⟨ρ2, a2, w2, d1, d2, d3, d4, d5, d6⟩ := ops_sim (q := q) (b := b) hE hN (loc_evT E σ n) k cs rest 1 fr1 _ w1 ρ _ (by
      intro j hj
      rw [← Array.getElem?_toList, hops, Nat.add_comm, List.getElem?_cons_succ]) hsz hops2 hm1 hl hR1 g1 ((hB.mono hE1.sub).of g2 g3)
  have A := Loc.ops (E := E) (loc_evT E σ n) ops.toList rest fr1 _ _ _ hops2 hm1
  refine ⟨.normal, fr', s', hq, by rw [A.mark]; exact Nat.le_trans hm1 A.next, d4.trans g2, d5.trans g3, ρ2, a2, w2, d1, hE1.trans d2, d3, ?_⟩
  refine Steps.trans (.one stepR_region) (.head (step_lone_go ?_) d6)
  have hr0 : List.range ops.size = 0 :: List.range' 1 rest.length := by
    rw [← hsz, Nat.add_comm, List.range_eq_range', List.range'_succ]
  rw [hr0, hgr, ← hfin]
  simp [stepG.apply, hex]

/-- **a function's text, told in parts** -/
theorem enter_gow (hE : EnvOK P E) {f : FuncId} {fi : FI} {c : Code} (hf : E.fn.get f = some fi) (hb : fi.body = some c) {args args' : List Value} {s : S} {w : World} {ρ : Ren} {kind : CallKind} {Q : Value → S → Prop} (N : Nat) (hN : Nat.add args.length (Nat.sub fi.ntmps args.length) = N) (hN2 : Nat.ble N lastName = true)
    (h : GoW P q c ⟨f, Tr.ofList args, N, [], none⟩ s (Ret E f fi Q)) (hm : s.mark ≤ s.next) (hR : Rep P q ρ s w) (ha : LR ρ args args') (cs : List Frame) :
    ∃ v s', Q v s' ∧ ∃ ρ' v' w' fr', Rep P q ρ' s' w' ∧ Evo ρ w ρ' w' ∧ VR ρ' v v' ∧ Steps P (lone (Frame.enter P f ⟨args'⟩ kind) cs w) (lone fr' cs w') ∧ fr'.fn = f ∧ fr'.mode = .returning ∧ fr'.defers = [] ∧ fr'.kind = kind ∧
      ∃ fn, P.funcs[fr'.fn]? = some fn ∧ (results fn fr'.tmps).run P w' = .ok v' w' := by
  obtain ⟨fn, hfn, rfl⟩ := hE.fn _ _ hf
  have hbody : fn.body = some c := by
    simp only [FI.of] at hb
    split at hb
    · cases hb
    · split at hb
      · cases hb
      · rename_i e _; rw [e]; exact hb
  have hn := ble_iff.1 hN2
  subst hN
  let b : Frame := { (default : Frame) with fn := f, kind := kind, roundOf := none }
  have hlen := ha.length
  have hb0 : Frame.enter P f ⟨args'⟩ kind = b.atR ⟨⟨args'⟩ ++ Array.replicate (fn.ntmps - args'.length) undef, []⟩ [.code c] := by
    simp [Frame.enter, Frame.atR, hfn, hbody, b]
  have hA : ActR ρ ⟨f, Tr.ofList args, Nat.add args.length (Nat.sub (FI.of fn).ntmps args.length), [], none⟩ ⟨⟨args'⟩ ++ Array.replicate (fn.ntmps - args'.length) undef, []⟩ := by
    refine ⟨⟨?_, ?_⟩, .nil, hn⟩
    · simp only [Array.size_append, Array.size_replicate]
      rw [hlen]; rfl
    · intro i v hi
      have hw : args.length ≤ Tr.wide := by
        have := name_wide (n := args.length) (Nat.le_trans (Nat.le_add_right _ _) hn)
        omega
      obtain ⟨v', h1, h2⟩ := ha.get i v (Tr.ofList_get hw hi)
      refine ⟨v', ?_, h2⟩
      have hlt : i < args'.length := (List.getElem?_eq_some_iff.1 h1).1
      rw [Array.getElem?_append_left (by simpa using hlt)]
      simpa using h1
  have hB : BaseR ρ ⟨f, Tr.ofList args, Nat.add args.length (Nat.sub (FI.of fn).ntmps args.length), [], none⟩ b := ⟨rfl, rfl, fun h => absurd rfl h⟩
  obtain ⟨x, fr1, s1, hq, hm1, e1, e2, ρ1, a1, w1, h1, h2, h3, h6⟩ := h ρ w _ b hm hR hA hB [] cs
  have key : fr1.fn = f ∧ fr1.defers = [] ∧ ∃ v s', (resultsM E fr1 (FI.of fn)).run s1 = some (v, s') ∧ Q v s' := by
    cases x with
    | exit id => exact hq.elim
    | normal => exact hq
    | ret => exact hq
  obtain ⟨_, k2, v, s2, k3, k4⟩ := key
  obtain ⟨v', r1, r2, r3⟩ := results_sim hE h1 h3 k3
  have hd : a1.defers = [] := by
    have hD := h3.2.1
    rw [k2] at hD
    cases hD' : a1.defers with
    | nil => rfl
    | cons x y => rw [hD'] at hD; cases hD
  cases x with
  | exit id => exact hq.elim
  | normal =>
    refine ⟨v, s2, k4, ρ1, v', w1, { b.atR a1 [] with mode := .returning }, r3, h2, r2, ?_, rfl, rfl, hd, rfl, fn, hfn, r1⟩
    rw [hb0]
    exact Steps.trans h6 (.one (stepR_end rfl))
  | ret =>
    obtain ⟨T, h6⟩ := h6
    refine ⟨v, s2, k4, ρ1, v', w1, { b.atR a1 (.code .ret :: T) with mode := .returning }, r3, h2, r2, ?_, rfl, rfl, hd, rfl, fn, hfn, r1⟩
    rw [hb0]
    exact Steps.trans h6 (.one (stepR_ret rfl))
theorem told_gow (hE : EnvOK P E) {f : FuncId} {fi : FI} {c : Code} {am : List Value → AM Value} (hf : E.fn.get f = some fi) (hb : fi.body = some c)
    (h : ∀ args s v s', (am args).run s = some (v, s') → s.mark ≤ s.next → ∀ q : Free, s'.next ≤ q.hi → ∃ N, Nat.add args.length (Nat.sub fi.ntmps args.length) = N ∧ Nat.ble N lastName = true ∧
      GoW P q c ⟨f, Tr.ofList args, N, [], none⟩ s (Ret E f fi fun v1 s1 => v1 = v ∧ Less' s1 s')) : Told P f am := by
  intro q ρ args args' s v s' w hrun hm hl hR ha c0 cs
  obtain ⟨N, hN, hN2, hW⟩ := h args s v s' hrun hm q hl
  obtain ⟨v1, s1, ⟨rfl, hless⟩, ρ', v', w', fr', h1, h2, h3, h4, h5, h6, h7, h8, fn, h9, h10⟩ := enter_gow (kind := .normal) hE hf hb N hN hN2 hW hm hR ha (c0 :: cs)
  exact ⟨ρ', v', w', h1.less' hless, h2, h3, Steps.trans h4 (.one (step_leave_returned ⟨h6, h7, h8, fn, h9, h10⟩))⟩
/-- a statement's own call, told in parts: its arguments hold no addresses -/
theorem callsW (hP : lawful P = true) {f : FuncId} {fi : FI} {c : Code} (hf : (Env.of P).fn.get f = some fi) (hb : fi.body = some c) {args args' : List Value} (K N : Nat) (hN : Nat.add args.length (Nat.sub fi.ntmps args.length) = N) (hN2 : Nat.ble N lastName = true)
    (h : GoW P ⟨fun _ => True, 0, K, fun _ => none⟩ c ⟨f, Tr.ofList args, N, [], none⟩ s0 (Ret (Env.of P) f fi fun v _ => v = .bool true))
    (ha : LR (fun _ => none) args args') (w : World) :
    Calls P f ⟨args'⟩ w fun e w' => e = .returned (.bool true) ∧ Go.RowKit.Below w.heap.size w w' := by
  intro cs
  have hR : Rep P ⟨fun _ => True, 0, K, fun _ => none⟩ (fun _ => none) s0 w := by
    refine ⟨?_, ?_, Nat.le_refl _, fun _ _ _ => trivial, fun _ _ _ => rfl, ?_, (fun _ _ h => by cases h), (fun _ _ _ _ _ _ _ _ h => by cases h), (fun n o _ _ _ ho _ _ => by cases n <;> cases ho)⟩
    · intro n o ho; cases n <;> cases ho
    · intro n m o o' b base ex base' ex' _ ho; cases n <;> cases ho
    · intro n b base ex e; cases e
  obtain ⟨v, s', rfl, ρ', v', w', fr', h1, h2, h3, h4, h5, h6, h7, h8, h9⟩ := enter_gow (kind := .normal) (env_ok hP) hf hb N hN hN2 h (Nat.le_refl _) hR ha cs
  have hv := h3.bool_inv
  subst hv
  exact ⟨.returned (.bool true), w', fr', ⟨rfl, h2.rest.1, h2.rest.2.1, h2.rest.2.2, h2.size, fun k hk => h2.frame k hk (fun n base ex e => by cases e)⟩, h4, h5, h6, h7, h8, h9⟩

/-! pieces of text that are evaluated, one behind the other -/
def evPs (E : Env) (σ : Sums) (n : Nat) : List Code → Fr → S → Option (Fr × S)
  | [], fr, s => some (fr, s)
  | c :: l, fr, s => match evFT E σ n (.code c fr) s with
    | some (.fr .normal fr, s) => evPs E σ n l fr s
    | _ => none
def chainC : List Code → Code → Code
  | [], r => r
  | c :: l, r => .seq c (chainC l r)
theorem evPs_next (E : Env) (σ : Sums) (n : Nat) : ∀ (l : List Code) (fr : Fr) (s : S) (fr' : Fr) (s' : S), evPs E σ n l fr s = some (fr', s') → s.mark ≤ s.next → s.next ≤ s'.next ∧ s'.mark = s.mark
  | [], fr, s, fr', s', h, hm => by
    simp only [evPs, Option.some.injEq, Prod.mk.injEq] at h
    obtain ⟨_, rfl⟩ := h
    exact ⟨Nat.le_refl _, rfl⟩
  | c :: l, fr, s, fr', s', h, hm => by
    simp only [evPs, evFT_eq] at h
    split at h
    · rename_i fr1 s1 h1
      have A := loc_evT E σ n _ _ _ _ h1 hm
      have B := evPs_next E σ n l fr1 s1 fr' s' h (by rw [A.mark]; exact Nat.le_trans hm A.next)
      exact ⟨Nat.le_trans A.next B.1, B.2.trans A.mark⟩
    · cases h
theorem gow_pieces (hE : EnvOK P E) (hmix : P.follows .mixedOrders = true) (hσ : Tolds P σ) (n : Nat) {rest : Code} {Q : Ex → Fr → S → Prop} : ∀ (l : List Code) (fr : Fr) (s : S) (fr' : Fr) (s' : S), evPs E σ n l fr s = some (fr', s') → s'.next ≤ q.hi → s.mark ≤ s.next → GoW P q rest fr' s' Q → GoW P q (chainC l rest) fr s Q
  | [], fr, s, fr', s', h, hl, hm, hr => by
    simp only [evPs, Option.some.injEq, Prod.mk.injEq] at h
    obtain ⟨rfl, rfl⟩ := h
    exact hr
  | c :: l, fr, s, fr', s', h, hl, hm, hr => by
    simp only [evPs] at h
    split at h
    · rename_i fr1 s1 h1
      rw [evFT_eq] at h1
      have A := loc_evT E σ n _ _ _ _ h1 hm
      have hm1 : s1.mark ≤ s1.next := by rw [A.mark]; exact Nat.le_trans hm A.next
      have B := evPs_next E σ n l fr1 s1 fr' s' h hm1
      have ih := gow_pieces hE hmix hσ n l fr1 s1 fr' s' h hl hm1 hr
      refine gow_seq ?_
      intro ρ w a b hm hR hA hB k cs
      obtain ⟨ρ', a', w', g1, g2, g3, g4, g5, g6⟩ := (evT_sim hE hmix hσ n).1 q ρ c fr s .normal fr1 s1 w a b h1 hm (Nat.le_trans B.1 hl) hR hA hB k cs
      exact ⟨.normal, fr1, s1, ih, hm1, g4, g5, ρ', a', w', g1, g2, g3, g6⟩
    · cases h
/-- one piece -/
theorem gow_piece (hE : EnvOK P E) (hmix : P.follows .mixedOrders = true) (hσ : Tolds P σ) {n : Nat} {c : Code} {fr fr' : Fr} {s s' : S} {x : Ex} {Q : Ex → Fr → S → Prop} (h : evT E σ n (.code c fr) s = some (.fr x fr', s')) (hl : s'.next ≤ q.hi) (hq : Q x fr' s') : GoW P q c fr s Q := by
  intro ρ w a b hm hR hA hB k cs
  have A := loc_evT E σ n _ _ _ _ h hm
  obtain ⟨ρ', a', w', h1, h2, h3, h4, h5, h6⟩ := (evT_sim hE hmix hσ n).1 q ρ c fr s x fr' s' w a b h hm hl hR hA hB k cs
  exact ⟨x, fr', s', hq, by rw [A.mark]; exact Nat.le_trans hm A.next, h4, h5, ρ', a', w', h1, h2, h3, h6⟩
/-- a block's cells -/
def cellsAt (s : S) (n : Nat) : Option (Nat × TypeId × Room × Option (List Value)) := match s.heap.get n with
  | some (.cells c m e r) => some (m, e, r, rdCells c 0 m [])
  | _ => none
end
end Go.AE
