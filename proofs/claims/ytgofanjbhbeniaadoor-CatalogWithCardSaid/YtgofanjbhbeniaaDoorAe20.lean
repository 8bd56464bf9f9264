/- A region, drawn or not, on the machine. No program is named here. -/
import Derived.Test.YtgofanjbhbeniaaDoorAe19
noncomputable section
namespace Go.AE
set_option linter.unusedVariables false
set_option linter.unusedSimpArgs false

section
variable {P : Program} {E : Env} {q : Free} {ρ : Ren} {s s' : S} {w : World} {fr fr' : Fr} {rc : Rec} {a : Act} {b : Frame} {ops : Array Oper} {bef : List Nat} {st : Nat → Fr × S}

/-- which names are free while a region is under way -/
def ZD (q : Free) (ops : Array Oper) (st : Nat → Fr × S) (D : Nat → Prop) (m : Nat) : Prop :=
  (∃ k, k < ops.size ∧ ¬ D k ∧ (st k).2.next ≤ m ∧ m < (st (k + 1)).2.next) ∨ (q.Z m ∧ (m < q.lo ∨ (st ops.size).2.next ≤ m))

theorem walk_order (hE : EnvOK P E) (hN : NextSim P rc) (R : Run rc E ops bef st) (hn : (st 0).1.n ≤ lastName) (h0 : q.lo ≤ (st 0).2.next) (k : List Item) (cs : List Frame) : ∀ (l : List Nat) (D : Nat → Prop), Order ops D l → ∀ (mh : Tr AObj) (mf : Fr) (ρ : Ren) (a : Act) (w : World),
    Merged ops st D mh mf → Rep P ⟨ZD q ops st D, 0, 0, q.keep⟩ ρ ⟨mh, 0, 0, 0, 0⟩ w → ActR ρ mf a → BaseR ρ mf b →
    ∃ (D' : Nat → Prop) (mh' : Tr AObj) (mf' : Fr) (ρ' : Ren) (a' : Act) (w' : World), (∀ i, i < ops.size → D' i) ∧ Merged ops st D' mh' mf' ∧ Rep P ⟨ZD q ops st D', 0, 0, q.keep⟩ ρ' ⟨mh', 0, 0, 0, 0⟩ w' ∧ Evo ρ w ρ' w' ∧ ActR ρ' mf' a' ∧
      Steps P (lone (b.atR a (.inRegion ops l :: k)) cs w) (lone (b.atR a' (.inRegion ops [] :: k)) cs w')
  | [], D, hO, mh, mf, ρ, a, w, M, hR, hA, hB => by
    cases hO with
    | nil hall => exact ⟨D, mh, mf, ρ, a, w, hall, M, hR, Evo.refl _ _, hA, .refl _ _⟩
  | i :: l, D, hO, mh, mf, ρ, a, w, M, hR, hA, hB => by
    cases hO with
    | cons hi hD hp hO =>
      have ho := op_at hi
      obtain ⟨mf', s2, g1, g2, M'⟩ := R.more M hn (fun i m hi h => R.log hi h) hi hD ho (hp _ ho)
      have hRi : Rep P ⟨ZD q ops st D, (st i).2.next, (st (i + 1)).2.next, q.keep⟩ ρ ⟨mh, (st i).2.next, (st i).2.next, 0, 0⟩ w :=
        ⟨hR.live, hR.apart, Nat.le_refl _, fun m h1 h2 => .inl ⟨i, hi, hD, h1, h2⟩, fun m hz _ => hR.fresh m hz (.inr (Nat.zero_le _)), hR.blk, hR.kept, hR.safe, hR.rows⟩
      obtain ⟨ρ1, a1, w1, c1, c2, c3, c4, c5, c6⟩ := oper_sim hE hN R.loc ho g1 (Nat.le_refl _) (by rw [g2]; exact Nat.le_refl _) hRi hA hB l k cs
      have hR1 : Rep P ⟨ZD q ops st (fun k => D k ∨ k = i), 0, 0, q.keep⟩ ρ1 ⟨s2.heap, 0, 0, 0, 0⟩ w1 := by
        refine ⟨c1.live, c1.apart, Nat.le_refl _, fun m _ h => absurd h (Nat.not_lt_zero _), ?_, c1.blk, c1.kept, c1.safe, c1.rows⟩
        intro m hz _
        rcases hz with ⟨j, hj, hDj, h1, h2⟩ | ⟨hz, hh⟩
        · have hDj' : ¬ D j := fun h => hDj (.inl h)
          have hji : j ≠ i := fun h => hDj (.inr h)
          refine c1.fresh m (.inl ⟨j, hj, hDj', h1, h2⟩) ?_
          by_cases hlt : j < i
          · left
            exact Nat.lt_of_lt_of_le h2 (R.mono (by omega) (by omega))
          · right
            rw [g2]
            exact Nat.le_trans (R.mono (by omega) (by omega)) h1
        · refine c1.fresh m (.inr ⟨hz, hh⟩) ?_
          rcases hh with hh | hh
          · left
            exact Nat.lt_of_lt_of_le hh (Nat.le_trans h0 (R.mono (Nat.zero_le _) (by omega)))
          · right
            rw [g2]
            exact Nat.le_trans (R.mono (by omega) (Nat.le_refl _)) hh
      obtain ⟨D', mh', mf2, ρ2, a2, w2, d1, d2, d3, d4, d5, d6⟩ := walk_order hE hN R hn h0 k cs l _ hO s2.heap mf' ρ1 a1 w1 M' hR1 c3 ((hB.mono c2.sub).of c4 c5)
      exact ⟨D', mh', mf2, ρ2, a2, w2, d1, d2, d3, c2.trans d4, d5, c6.trans d6⟩

theorem merged_all (R : Run rc E ops bef st) (hn : (st 0).1.n ≤ lastName) {D : Nat → Prop} {mh : Tr AObj} {mf : Fr} (M : Merged ops st D mh mf) (hD : ∀ i, i < ops.size → D i) :
    (∀ m, mh.get m = (st ops.size).2.heap.get m) ∧ ∀ t, mf.tmps.get t = (st ops.size).1.tmps.get t := by
  constructor
  · intro m
    rcases last_of (fun j => Wr st j m) ops.size with hnone | ⟨l, hl, hwl, hlast⟩
    · rw [M.h1 m (fun i hi _ => hnone i hi)]
      exact (R.stays (i := 0) (j := ops.size) (Nat.zero_le _) (Nat.le_refl _) (fun k _ hk => hnone k hk)).symm
    · exact (M.h2 m l hl (hD l hl) hwl (fun k a b _ => hlast k a b)).trans (R.stays (i := l + 1) (j := ops.size) (by omega) (Nat.le_refl _) (fun k a b => hlast k (by omega) b)).symm
  · intro t
    rcases last_of (fun j => ∃ o', ops[j]? = some o' ∧ o'.dst = some t) ops.size with hnone | ⟨l, hl, ⟨ol, hol, hdl⟩, hlast⟩
    · rw [M.f1 t (fun i o hi _ ho hd => hnone i hi ⟨o, ho, hd⟩)]
      exact (R.fr_stays hn (i := 0) (j := ops.size) (Nat.zero_le _) (Nat.le_refl _) (fun k o _ hk ho hd => hnone k hk ⟨o, ho, hd⟩)).symm
    · exact (M.f2 t l ol hl (hD l hl) hol hdl (fun k o' a b _ ho' hd => hlast k a b ⟨o', ho', hd⟩)).trans (R.fr_stays hn (i := l + 1) (j := ops.size) (by omega) (Nat.le_refl _) (fun k o' a b ho' hd => hlast k (by omega) b ⟨o', ho', hd⟩)).symm

theorem merged_none (ops : Array Oper) (st : Nat → Fr × S) : Merged ops st (fun _ => False) (st 0).2.heap (st 0).1 where
  closed := fun _ _ h => h.elim
  h1 := fun _ _ => rfl
  h2 := fun _ _ _ h => h.elim
  alike := Alike.refl _
  f1 := fun _ _ => rfl
  f2 := fun _ _ _ _ h => h.elim

/-- **a region whose order is drawn** -/
theorem drawn_sim (hE : EnvOK P E) (hN : NextSim P rc) (hL : ∀ t, Loc (rc t)) (hmix : P.follows .mixedOrders = true) (hst : stat ops.toList = some bef) {mk rd wr : Nat}
    (h : drawnLoop rc E ops.toList mk ops.toList bef 0 [] rd wr fr s = some (fr', s')) (hl : s'.next ≤ q.hi) (hR : Rep P q ρ s w) (hA : ActR ρ fr a) (hB : BaseR ρ fr b) (id : Nat) (k : List Item) (cs : List Frame) :
    ∃ ρ' a' w', Rep P q ρ' s' w' ∧ Evo ρ w ρ' w' ∧ ActR ρ' fr' a' ∧ fr'.fn = fr.fn ∧ fr'.round = fr.round ∧ Steps P (lone (b.atR a (.code (.region id ops true) :: k)) cs w) (lone (b.atR a' k) cs w') := by
  obtain ⟨st, t0, t1, t2, t3, t4⟩ := drawn_trace ops.toList mk ops.toList bef 0 [] rd wr fr s fr' s' h
  obtain ⟨u1, u2⟩ := stat_spec hst
  have hlen : ops.toList.length = ops.size := by simp
  rw [hlen] at t1 t2 t3 t4
  have R : Run rc E ops bef st := by
    refine ⟨?_, ?_, ?_, ?_, ?_, hL⟩
    · intro i hi
      obtain ⟨o, b, e1, e2, e3, _⟩ := t4 i hi
      exact ⟨o, by simpa using e1, e3⟩
    · intro i j hi hj hc
      obtain ⟨o, b, e1, e2, e3, e4, e5⟩ := t4 i hi
      exact ⟨b, e2, by have := e5 j hj hc; rwa [Nat.zero_add] at this⟩
    · intro i o ho; exact (u1 i o (by simpa using ho)).1
    · intro i o ho; exact (u1 i o (by simpa using ho)).2
    · intro i j x y hx hy hlt hnb; exact u2 i j x y (by simpa using hx) (by simpa using hy) hlt hnb
  have hn : (st 0).1.n ≤ lastName := by rw [t0]; exact hA.2.2
  have hmono : s.next ≤ s'.next := by
    have := R.mono (i := 0) (j := ops.size) (Nat.zero_le _) (Nat.le_refl _)
    rw [t0, t3] at this; exact this
  have hR0 : Rep P ⟨ZD q ops st (fun _ => False), 0, 0, q.keep⟩ ρ ⟨(st 0).2.heap, 0, 0, 0, 0⟩ { w with drawn := w.drawn + 1 } := by
    rw [t0]
    refine ⟨hR.live, hR.apart, Nat.le_refl _, fun m _ h => absurd h (Nat.not_lt_zero _), ?_, hR.blk, hR.kept, hR.safe, hR.rows⟩
    intro m hz _
    rcases hz with ⟨j, hj, _, h1, h2⟩ | ⟨hz, hh⟩
    · have g1 : s.next ≤ m := by
        have := R.mono (i := 0) (j := j) (Nat.zero_le _) (by omega)
        rw [t0] at this; exact Nat.le_trans this h1
      have g2 : m < s'.next := by
        have := R.mono (i := j + 1) (j := ops.size) (by omega) (Nat.le_refl _)
        rw [t3] at this; exact Nat.lt_of_lt_of_le h2 this
      exact hR.fresh m (hR.room m g1 (Nat.lt_of_lt_of_le g2 hl)) (.inr g1)
    · refine hR.fresh m hz (hh.imp (fun h => h) ?_)
      intro hh
      rw [t3] at hh
      exact Nat.le_trans hmono hh
  have hA0 : ActR ρ (st 0).1 a := by rw [t0]; exact hA
  have hB0 : BaseR ρ (st 0).1 b := by rw [t0]; exact hB
  obtain ⟨D', mh', mf', ρ', a', w', d1, d2, d3, d4, d5, d6⟩ := walk_order hE hN R hn (by rw [t0]; exact hR.from_) k cs _ _ (order_schedule (fun i o ho => (u1 i o (by simpa using ho)).1) (w.tape w.drawn (.order b.fn id))) (st 0).2.heap (st 0).1 ρ a { w with drawn := w.drawn + 1 } (merged_none ops st) hR0 hA0 hB0
  obtain ⟨e1, e2⟩ := merged_all R hn d2 d1
  have hfa := R.frA (i := ops.size) (Nat.le_refl _) hn
  rw [t0, t1] at hfa
  have hal := d2.alike
  rw [t0] at hal
  refine ⟨ρ', a', w', ?_, d4.from_heap rfl, ?_, hfa.fn, hfa.round, ?_⟩
  · refine ⟨?_, ?_, Nat.le_trans hR.from_ hmono, fun m h1 h2 => hR.room m (Nat.le_trans hmono h1) h2, ?_, d3.blk, d3.kept, fun m o _ _ _ _ ho => d3.safe m o _ _ _ _ (by show mh'.get m = some o; rw [e1, t2]; exact ho), fun m o _ _ _ ho => d3.rows m o _ _ _ (by show mh'.get m = some o; rw [e1, t2]; exact ho)⟩
    · intro m o ho
      refine d3.live m o ?_
      show mh'.get m = some o
      rw [e1, t2]; exact ho
    · intro m j o o' c1 c2 c3 c4 c5 hne ho ho'
      refine d3.apart m j o o' c1 c2 c3 c4 c5 hne ?_ ?_
      · show mh'.get m = some o
        rw [e1, t2]; exact ho
      · show mh'.get j = some o'
        rw [e1, t2]; exact ho'
    · intro m hz hh
      exact d3.fresh m (.inr ⟨hz, by rw [t3]; exact hh⟩) (.inr (Nat.zero_le _))
  · obtain ⟨x1, x2, x3⟩ := d5
    refine ⟨⟨?_, ?_⟩, ?_, by rw [hfa.n]; exact hA.2.2⟩
    · rw [x1.1, hal.n, hfa.n]
    · intro i v hv
      refine x1.2 i v ?_
      rw [e2, t1]; exact hv
    · rw [hfa.defers, ← hal.defers]; exact x2
  · refine .head stepR_region_draw ?_
    rw [hmix]
    exact d6.trans (.one stepR_region_end)

/-- a region whose order isn't drawn -/
theorem ops_sim (hE : EnvOK P E) (hN : NextSim P rc) (hL : ∀ t, Loc (rc t)) (k : List Item) (cs : List Frame) : ∀ (rest : List Oper) (i : Nat) (fr : Fr) (s : S) (w : World) (ρ : Ren) (a : Act), (∀ j, j < rest.length → ops[i + j]? = rest[j]?) → i + rest.length = ops.size →
    opsLoop rc E ops.toList rest fr s = some (fr', s') → s.mark ≤ s.next → s'.next ≤ q.hi → Rep P q ρ s w → ActR ρ fr a → BaseR ρ fr b →
    ∃ ρ' a' w', Rep P q ρ' s' w' ∧ Evo ρ w ρ' w' ∧ ActR ρ' fr' a' ∧ fr'.fn = fr.fn ∧ fr'.round = fr.round ∧ Steps P (lone (b.atR a (.inRegion ops (List.range' i rest.length) :: k)) cs w) (lone (b.atR a' k) cs w')
  | [], i, fr, s, w, ρ, a, _, _, h, _, _, hR, hA, hB => by
    simp only [opsLoop, Option.some.injEq, Prod.mk.injEq] at h
    obtain ⟨rfl, rfl⟩ := h
    exact ⟨ρ, a, w, hR, Evo.refl _ _, hA, rfl, rfl, .one stepR_region_end⟩
  | o :: rest, i, fr, s, w, ρ, a, hops, hsz, h, hm, hl, hR, hA, hB => by
    simp only [opsLoop] at h
    split at h
    · rename_i fr1 s1 h1
      have hoi : ops[i]? = some o := by have := hops 0 (by simp); simpa using this
      have A := Loc.oper hL false ops.toList o fr s _ _ h1 hm
      have B := Loc.ops (E := E) hL ops.toList rest fr1 s1 _ _ h (by rw [A.mark]; exact Nat.le_trans hm A.next)
      obtain ⟨ρ1, a1, w1, c1, c2, c3, c4, c5, c6⟩ := oper_sim hE hN hL hoi h1 hm (Nat.le_trans B.next hl) hR hA hB (List.range' (i + 1) rest.length) k cs
      obtain ⟨ρ2, a2, w2, d1, d2, d3, d4, d5, d6⟩ := ops_sim hE hN hL k cs rest (i + 1) fr1 s1 w1 ρ1 a1 (by
          intro j hj
          have := hops (j + 1) (by simp; omega)
          rw [show i + 1 + j = i + (j + 1) by omega]; simpa using this) (by simp at hsz; omega) h (by rw [A.mark]; exact Nat.le_trans hm A.next) hl c1 c3 ((hB.mono c2.sub).of c4 c5)
      refine ⟨ρ2, a2, w2, d1, c2.trans d2, d3, d4.trans c4, d5.trans c5, ?_⟩
      rw [show (o :: rest).length = rest.length + 1 from rfl, List.range'_succ]
      exact c6.trans d6
    · cases h

theorem region_sim (hE : EnvOK P E) (hN : NextSim P rc) (hL : ∀ t, Loc (rc t)) (hmix : P.follows .mixedOrders = true) {d : Bool} {x : Ex} (h : evRegion rc E ops.toList d fr s = some (.fr x fr', s')) (hm : s.mark ≤ s.next) (hl : s'.next ≤ q.hi) (hR : Rep P q ρ s w) (hA : ActR ρ fr a) (hB : BaseR ρ fr b) (id : Nat) (k : List Item) (cs : List Frame) :
    x = .normal ∧ ∃ ρ' a' w', Rep P q ρ' s' w' ∧ Evo ρ w ρ' w' ∧ ActR ρ' fr' a' ∧ fr'.fn = fr.fn ∧ fr'.round = fr.round ∧ Steps P (lone (b.atR a (.code (.region id ops d) :: k)) cs w) (lone (b.atR a' k) cs w') := by
  cases d with
  | false =>
    simp only [evRegion, outFr] at h
    split at h
    · cases h
    · rename_i fr1 s1 h1
      cases h
      refine ⟨rfl, ?_⟩
      obtain ⟨ρ2, a2, w2, d1, d2, d3, d4, d5, d6⟩ := ops_sim (q := q) hE hN hL k cs ops.toList 0 fr s w ρ a (by intro j hj; simp) (by simp) h1 hm hl hR hA hB
      refine ⟨ρ2, a2, w2, d1, d2, d3, d4, d5, .head stepR_region ?_⟩
      rw [show ops.toList.length = ops.size from by simp] at d6
      rw [List.range_eq_range']
      exact d6
  | true =>
    simp only [evRegion] at h
    split at h
    · cases h
    · rename_i bef hst
      unfold outFr at h
      split at h
      · cases h
      · rename_i fr1 s1 h1
        cases h
        exact ⟨rfl, drawn_sim hE hN hL hmix hst h1 hl hR hA hB id k cs⟩
end
end Go.AE
