/- Appending and copying over the named memory do what they do in the world: every case. No program is named here. -/
import Derived.Test.YtgofanjbhbeniaaDoorAe10
noncomputable section
namespace Go.AE
set_option linter.unusedVariables false
set_option linter.unusedSimpArgs false

section
variable {P : Program} {E : Env} {q : Free} {ρ : Ren} {s s' : S} {w : World} {fr : Fr} {e : Operand → Value} {nx : ANext}

/-- what an append is handed -/
structure AppIn (P : Program) (E : Env) (t t2 elem : TypeId) (j : TI) (z : Value) (ats : Array TypeId) : Prop where
  hi : ∃ i, E.ty.get t = some i ∧ i.desc = .slice elem
  hi2 : ∃ i2, E.ty.get t2 = some i2 ∧ ∀ k, i2.desc ≠ .int k
  hj : E.ty.get elem = some j
  hz : j.zero = some z
  ha : ∃ r, ats.toList = t :: t2 :: r

theorem growA_sound (hE : EnvOK P E) (hlim : s'.next ≤ q.hi) (hR : Rep P q ρ s w) {elem : TypeId} {j : TI} (hj : E.ty.get elem = some j) {z : Value} {vs vs' : List Value} (hv : LR ρ vs vs') {need more d : Nat}
    (h : (growA elem z.cells.toList.length j.size vs need).run s = some (nx, s')) :
    ValRes P q ρ w s' nx (.ok (.slice (some ⟨w.heap.size, 0, none⟩) need (need + more)) { w with drawn := d, heap := w.heap.push (.cells (⟨vs'⟩ ++ Builtin.zeroCells z.cells more) elem) }) := by
  obtain ⟨hzs, h⟩ := run_when h
  have hzs := beq_iff.1 hzs
  obtain ⟨s1, ρ1, h, a, b, c⟩ := new_sim (rest := (Builtin.zeroCells z.cells more).toList) trivial (hR.of_heap (w1 := { w with drawn := d }) rfl) hv more (by
    intro _
    rw [cellsOf_eq hE hj, ← hzs]
    simp [zeroCells_size]) hlim h
  obtain ⟨rfl, rfl⟩ := run_val h
  have e : (⟨vs' ++ (Builtin.zeroCells z.cells more).toList⟩ : Array Value) = ⟨vs'⟩ ++ Builtin.zeroCells z.cells more := by apply Array.ext'; simp
  rw [e] at a b
  refine ⟨ρ1, _, _, _, rfl, rfl, a, b.from_heap rfl, ?_⟩
  exact .sliceL c

theorem inPlace_sound (hE : EnvOK P E) (hR : Rep P q ρ s w) {t t2 elem : TypeId} {j : TI} {z : Value} {ats : Array TypeId} (hA : AppIn P E t t2 elem j z ats) {a a' : Addr} (har : AddrR ρ a a') {len cap cap' n : Nat} {x' : Value} {new new' : List Value}
    (hnew : LR ρ new new') (hlen : new.length = n * j.size) (hs1 : 1 ≤ j.size) (hn : (Builtin.lenOf x').run P w = .ok n w) (hf : (Builtin.firstCells j.size n x').run P w = .ok ⟨new'⟩ w) (hroom : len + n ≤ cap') (ty : TypeId)
    (hvr : ∀ ρ' : Ren, ρ.le ρ' → ∀ l, VR ρ' (.slice (some a) l cap) (.slice (some a') l cap'))
    (h : (inPlace j.size a len cap n new).run s = some (nx, s')) :
    ValRes P q ρ w s' nx ((Builtin.append_ ats ty ⟨[.slice (some a') len cap', x']⟩).run P w) := by
  obtain ⟨⟨i, hi, hd⟩, ⟨i2, hi2, hd2⟩, hj, hz, r, ha⟩ := hA
  unfold inPlace at h
  split at h
  · cases hnew
    have hn0 : n = 0 := by
      simp only [List.length_nil] at hlen
      rcases Nat.mul_eq_zero.1 hlen.symm with h0 | h0
      · exact h0
      · omega
    subst hn0
    have := append_room (P := P) (w1 := w) hE hi hd hi2 hd2 hj ha (b' := some a') (len := len) hn hf hroom ty (by simp [storeCells])
    exact .here hR (hvr ρ (Ren.le.refl ρ) len) this h
  · obtain ⟨s1, w1, h, b1, b2, b3⟩ := store_sim hR (addA_R har _) hnew h
    obtain ⟨rfl, rfl⟩ := run_val h
    have := append_room (P := P) (w1 := w1) hE hi hd hi2 hd2 hj ha (b' := some a') (len := len) hn hf hroom ty b3
    exact ⟨ρ, _, _, w1, rfl, this, b1, b2, hvr ρ (Ren.le.refl ρ) _⟩

theorem appendL_sound (hE : EnvOK P E) (hlim : s'.next ≤ q.hi) (hR : Rep P q ρ s w) {t t2 elem : TypeId} {j : TI} {z : Value} {ats : Array TypeId} (hA : AppIn P E t t2 elem j z ats) {nm off b bs ex : Nat} (hρ : ρ nm = some (b, bs, ex)) {len c n : Nat} {x' : Value} {new new' : List Value}
    (hnew : LR ρ new new') (hlen : new.length = n * j.size) (hs1 : 1 ≤ j.size) (hn : ∀ w, (Builtin.lenOf x').run P w = .ok n w) (hf : ∀ w1 : World, w1.heap = w.heap → (Builtin.firstCells j.size n x').run P w1 = .ok ⟨new'⟩ w1)
    (hneed : c < len + n) (hmax : len + n ≤ maxNeed) (hbytes : j.bytes ≤ 1024) (ty : TypeId)
    (h : (appendL z.cells.toList.length j.size elem ⟨nm, off, none⟩ len c n new).run s = some (nx, s')) :
    ValRes P q ρ w s' nx ((Builtin.append_ ats ty ⟨[.slice (some ⟨b, bs + off, none⟩) len (c + ex), x']⟩).run P w) := by
  obtain ⟨⟨i, hi, hd⟩, ⟨i2, hi2, hd2⟩, hj, hz, r, ha⟩ := hA
  unfold appendL at h
  obtain ⟨o, ho, h⟩ := run_get h
  dsimp only at ho h
  obtain ⟨b1, base1, ex1, obj, g1, g2, g3⟩ := hR.live _ _ ho
  rw [hρ] at g1; cases g1
  split at h
  · rename_i d m el2
    obtain ⟨hb, h⟩ := run_when h
    obtain ⟨old, hold, h⟩ := run_opt h
    obtain ⟨_, hnw, h⟩ := run_del h
    simp only [Bool.and_eq_true, ble_iff, beq_iff] at hb
    obtain ⟨⟨⟨hm, hlc⟩, hel⟩, hone⟩ := hb
    have hm : off + c * j.size = m := hm
    subst hel
    obtain ⟨vs0, h1, h2, h3⟩ := rdCells_spec _ _ _ _ _ hold
    simp at h1; subst h1
    have h2 : old.length = len * j.size := h2
    cases g3 with
    | cells k1 k2 k3 =>
      rename_i cs
      have k2 := k2 rfl
      rw [cellsOf_eq hE hj] at k2
      have hlcs : len * j.size ≤ c * j.size := Nat.mul_le_mul hlc (Nat.le_refl _)
      -- the old cells, as the world has them
      have key : ∀ l : List Value, ∀ o2 : Nat, o2 + l.length ≤ m → (∀ i v, l[i]? = some v → d.get (o2 + i) = some v) → ∃ l', LR ρ l l' ∧ ∀ i v, l'[i]? = some v → cs[bs + (o2 + i)]? = some v := by
        intro l
        induction l with
        | nil => intro o2 _ _; exact ⟨[], .nil, fun i v e => by simp at e⟩
        | cons v l ih =>
          intro o2 hm hg
          simp at hm
          obtain ⟨l', h5, h6⟩ := ih (o2 + 1) (by omega) (fun i u e => by rw [show o2 + 1 + i = o2 + (i + 1) by omega]; exact hg (i + 1) u (by simpa using e))
          obtain ⟨v', h7, h8⟩ := k3 o2 v (by simpa using hg 0 v (by simp)) (by omega)
          refine ⟨v' :: l', .cons h8 h5, ?_⟩
          intro i u e
          cases i with
          | zero => simp at e; subst e; simpa using h7
          | succ i =>
            have := h6 i u (by simpa using e)
            rwa [show o2 + 1 + i = o2 + (i + 1) by omega] at this
      obtain ⟨old', ho1, ho2⟩ := key old off (by omega) h3
      have hold' : old'.length = len * j.size := by rw [← ho1.length]; exact h2
      have hnew' : new'.length = n * j.size := by rw [← hnew.length]; exact hlen
      have hcell : ∀ w1 : World, w1.heap = w.heap → ∀ q v, old'[q]? = some v → w1.cell? ((⟨b, bs + off, none⟩ : Addr).add q) = some v := by
        intro w1 hw1 q v e
        rw [addr_add]
        simp only [World.cell?, hw1, g2]
        have := ho2 q v e
        simpa [Nat.add_assoc] using this
      by_cases hfit : len + n ≤ c + ex
      · -- it lies where it lay
        have hst := run_storeCells_at P b (bs + off + len * j.size) el2 new' 0 cs w g2 (by
          rw [hnew']
          have : (len + n) * j.size ≤ (c + ex) * j.size := Nat.mul_le_mul hfit (Nat.le_refl _)
          rw [Nat.add_mul, Nat.add_mul] at this
          omega) (allOne_LR hnew hone)
        have hroom := append_room (P := P) (w := w) hE hi hd hi2 hd2 hj ha (b' := some ⟨b, bs + off, none⟩) (len := len) (cap' := c + ex) (hn w) (hf w rfl) hfit ty (by show (storeCells ((⟨b, bs + off, none⟩ : Addr).add (len * j.size)) new' 0).run P w = _; rw [addr_add]; exact hst)
        rw [hroom]
        obtain ⟨hzs, h⟩ := run_when h
        obtain ⟨hnl, h⟩ := run_when h
        obtain ⟨hn2, h⟩ := run_new h
        have hlt : s.next < q.hi := Nat.lt_of_lt_of_le (run_mono h : _ ≤ s'.next) hlim
        have hnl := ble_iff.1 hnl
        have hfit' : (len + n) * j.size ≤ (c + ex) * j.size := Nat.mul_le_mul hfit (Nat.le_refl _)
        rw [Nat.add_mul, Nat.add_mul] at hfit'
        have hsub : (c + ex - (len + n)) * j.size = (c * j.size + ex * j.size) - (len * j.size + n * j.size) := by
          rw [Nat.sub_mul, Nat.add_mul, Nat.add_mul]
        have hget : ∀ q, (cs.toList.take (bs + off + len * j.size + 0) ++ new' ++ cs.toList.drop (bs + off + len * j.size + 0 + new'.length))[q]? = if bs + off + len * j.size ≤ q ∧ q < bs + off + len * j.size + new'.length then new'[q - (bs + off + len * j.size)]? else cs[q]? := by
          intro q
          simp only [Nat.add_zero]
          by_cases h1 : q < bs + off + len * j.size
          · rw [if_neg (by omega), List.append_assoc, List.getElem?_append_left (by simp; omega)]
            simp [List.getElem?_take, h1]
          · rw [List.append_assoc, List.getElem?_append_right (by simp; omega)]
            have hmin : (cs.toList.take (bs + off + len * j.size)).length = bs + off + len * j.size := by simp; omega
            rw [hmin]
            by_cases h2 : q < bs + off + len * j.size + new'.length
            · rw [if_pos (by omega), List.getElem?_append_left (by omega)]
            · rw [if_neg (by omega), List.getElem?_append_right (by omega)]
              simp only [List.getElem?_drop]
              rw [show bs + off + len * j.size + new'.length + (q - (bs + off + len * j.size) - new'.length) = q by omega]
              simp
        have hsz : (cs.toList.take (bs + off + len * j.size + 0) ++ new' ++ cs.toList.drop (bs + off + len * j.size + 0 + new'.length)).length = cs.size := by
          simp; omega
        have hor2 : ∀ ρ' : Ren, ρ.le ρ' → OR P ρ' (bs + off) (c + ex - (len + n)) (.cells (Tr.ofList (old ++ new)) (old ++ new).length el2 .loose) (.cells (cs.toList.take (bs + off + len * j.size + 0) ++ new' ++ cs.toList.drop (bs + off + len * j.size + 0 + new'.length)).toArray el2 (0, 0)) := by
          intro ρ' hle
          refine .cells ?_ ?_ ?_
          · simp only [List.size_toArray, hsz, List.length_append, h2, hlen]; omega
          · intro _
            simp only [List.size_toArray, hsz, List.length_append, h2, hlen, cellsOf_eq hE hj, hsub]; omega
          · intro q v ev hq
            rw [ofList_get _ (by omega)] at ev
            simp only [List.length_append, h2, hlen] at hq
            by_cases hq1 : q < len * j.size
            · rw [List.getElem?_append_left (by omega)] at ev
              obtain ⟨v', h5, h6⟩ := ho1.get _ _ ev
              refine ⟨v', ?_, h6.mono hle⟩
              rw [List.getElem?_toArray, hget, hnew', if_neg (by omega)]
              have := ho2 q v' h5
              rwa [show bs + (off + q) = bs + off + q by omega] at this
            · rw [List.getElem?_append_right (by omega), h2] at ev
              obtain ⟨v', h5, h6⟩ := hnew.get _ _ ev
              refine ⟨v', ?_, h6.mono hle⟩
              rw [List.getElem?_toArray, hget, hnew', if_pos (by omega), show bs + off + q - (bs + off + len * j.size) = q - len * j.size by omega]
              exact h5
        have hsp := Rep.split (P := P) (s1 := ((s.seen nm).turn nm none).grow (.cells (Tr.ofList (old ++ new)) (old ++ new).length el2 .loose))
          (w1 := w.setRow b (cs.toList.take (bs + off + len * j.size + 0) ++ new' ++ cs.toList.drop (bs + off + len * j.size + 0 + new'.length)).toArray)
          (base2 := bs + off) (ex2 := c + ex - (len + n)) (o2 := .cells (Tr.ofList (old ++ new)) (old ++ new).length el2 .loose) (o1 := none) (hR.seen nm) hlt ho hρ
          (by
            intro k
            rw [grow_get hn2]
            show (if k = s.next then _ else _) = if k = s.next then _ else _
            by_cases hk : k = s.next
            · rw [if_pos hk, if_pos hk]
            · rw [if_neg hk, if_neg hk, turn_get hnw]) rfl (setRow_heap w b cs _ el2 (0, 0) g2)
          (by intro c' hc'; simp only [World.setRow, Array.getElem?_modify]; rw [if_neg (fun h => hc' h.symm)])
          (by simp [World.setRow])
          (fun k => if k = s.next then some (b, bs + off, c + ex - (len + n)) else ρ k) (fun k => rfl)
          (hor2 _ (by
            intro m x e'
            show (if m = s.next then _ else _) = _
            rw [if_neg]
            · exact e'
            · intro hm; subst hm
              rw [hR.next_free hlt] at e'; cases e'))
          (by intro q hq; cases hq)
          (by
            intro q q3 q4
            simp only [AObj.lo, AObj.hi, List.length_append, h2, hlen, cellsOf_eq hE hj, hsub] at q3 q4 ⊢
            omega)
          (by
            intro m2 o2 base2 ex2 obj2 hne eo hrd eρ eobj hor
            rw [g2] at eobj; cases eobj
            cases hor with
            | row _ _ => cases hrd
            | cells l1 l2 l3 =>
              rename_i c2 n2 room2
              have hap := hR.apart nm m2 _ _ b bs ex base2 ex2 (fun h => hne h.symm) ho eo hρ eρ
              have hh2 : base2 + n2 ≤ (AObj.cells c2 n2 el2 room2).hi P base2 ex2 := by cases room2 <;> simp [AObj.hi]
              refine .cells (by simp only [List.size_toArray, hsz]; exact l1) (by intro hl; have := l2 hl; simp only [List.size_toArray, hsz]; exact this) ?_
              intro q v ej hj'
              obtain ⟨v', h5, h6⟩ := l3 q v ej hj'
              refine ⟨v', ?_, h6⟩
              rw [List.getElem?_toArray, hget, hnew', if_neg]
              · exact h5
              · intro hin
                refine hap (base2 + q) (by show bs ≤ _; omega) ?_ (by show base2 ≤ _; omega) (Nat.lt_of_lt_of_le (by omega) hh2)
                show base2 + q < bs + m + ex * P.cellsOf el2
                rw [cellsOf_eq hE hj]
                omega)
        obtain ⟨rfl, rfl⟩ := run_val h
        refine ⟨_, _, _, _, rfl, rfl, hsp.1, hsp.2, ?_⟩
        have hx : (fun k => if k = s.next then some (b, bs + off, c + ex - (len + n)) else ρ k) s.next = some (b, bs + off, c + ex - (len + n)) := by simp
        have := VR.sliceL (ρ := fun k => if k = s.next then some (b, bs + off, c + ex - (len + n)) else ρ k) (off := 0) (len := len + n) (c := len + n) hx
        rw [show len + n + (c + ex - (len + n)) = c + ex by omega] at this
        exact this
      · -- it moves
        have hR2 := (hR.seen nm).del hnw
        obtain ⟨more, dd, hg⟩ := append_grows (P := P) (w := w) hE hi hd hi2 hd2 hj hz ha (b' := some ⟨b, bs + off, none⟩) (len := len) (cap' := c + ex) (old := ⟨old'⟩) (new := ⟨new'⟩) hn (by omega) hmax hbytes ty hf (by
          intro w1 hw1
          simp only [Builtin.firstCells]
          have := run_loadCells_list (P := P) w1 ⟨b, bs + off, none⟩ old' (hcell w1 hw1)
          rwa [hold'] at this)
        rw [hg]
        have := growA_sound (nx := nx) (s' := s') (more := more) (d := dd) hE hlim hR2 hj (ho1.append hnew) h
        have e : (⟨old'⟩ ++ ⟨new'⟩ : Array Value) = ⟨old' ++ new'⟩ := by apply Array.ext'; simp
        rw [e]
        exact this
  · cases h

theorem appendA_sound (hE : EnvOK P E) (hlim : s'.next ≤ q.hi) (hR : Rep P q ρ s w) {t t2 elem : TypeId} {j : TI} {z : Value} {ats : Array TypeId} (hA : AppIn P E t t2 elem j z ats) {base : Option Addr} {len cap n : Nat} {x x' v' : Value}
    (hx : VR ρ x x') (hv : VR ρ (.slice base len cap) v') (hn : lenA x = some n) (ty : TypeId)
    (h : (appendA z.cells.toList.length j.size j.bytes elem base len cap n x).run s = some (nx, s')) :
    ValRes P q ρ w s' nx ((Builtin.append_ ats ty ⟨[v', x']⟩).run P w) := by
  obtain ⟨hb, hh⟩ := run_when h
  simp only [Bool.and_eq_true, ble_iff] at hb
  obtain ⟨⟨hs1, hmax⟩, hbytes⟩ := hb
  have hmax : len + n ≤ maxNeed := hmax
  clear h
  obtain ⟨new, new', s1, h, hR1, hnew, hnlen, hf⟩ := firstA_sound hR hx hh
  clear hh
  have hlr := lenA_run (P := P) hn hx
  have hA0 := hA
  obtain ⟨⟨i, hi, hd⟩, ⟨i2, hi2, hd2⟩, hj, hz, r, ha⟩ := hA0
  split at h
  · -- nil
    obtain ⟨rfl, rfl, rfl⟩ := hv.sliceN_inv
    split at h
    · have hl0 : new' = [] := by
        apply List.eq_nil_of_length_eq_zero; rw [← hnew.length, hnlen]; simp
      subst hl0
      have := append_room (P := P) (w1 := w) hE hi hd hi2 hd2 hj ha (b' := none) (len := 0) (cap' := 0) (hlr w) (hf w rfl) (by omega) ty rfl
      exact .here hR1 (.flat rfl) this h
    · rename_i hn0
      have hn0 : n ≠ 0 := fun h0 => hn0 h0
      obtain ⟨more, dd, hg⟩ := append_grows (P := P) (w := w) hE hi hd hi2 hd2 hj hz ha (b' := none) (len := 0) (cap' := 0) (old := ⟨[]⟩) (new := ⟨new'⟩) hlr (by omega) (by omega) hbytes ty hf (by
        intro w1 hw1
        simp [Builtin.firstCells])
      rw [hg]
      have := growA_sound (nx := nx) (s' := s') (more := more) (d := dd) hE hlim hR1 hj hnew h
      have e : (⟨[]⟩ ++ ⟨new'⟩ : Array Value) = ⟨new'⟩ := by apply Array.ext'; simp
      rw [e, Nat.zero_add]
      exact this
  · rename_i a
    split at h
    · -- its room is known
      rename_i hO
      have hcap := ble_false hO
      rcases hv.slice_inv with ⟨a', rfl, har, _⟩ | ⟨nm, off, b, bs, ex, c2, e1, e2, e3, hρ⟩ | ⟨nm, off, a', cap', e1, e2, e3, e4⟩
      · split at h
        · rename_i hroom
          exact inPlace_sound hE hR1 hA har hnew hnlen hs1 (hlr w) (hf w rfl) (ble_iff.1 hroom) ty (fun ρ' hle l => .sliceW (har.mono hle) hcap) h
        · rename_i hroom
          have hroom := ble_false hroom
          obtain ⟨old, old', s2, h, rfl, e2, e3, e4, e5⟩ := load_sim hR1 har h
          have e3 : old.length = len * j.size := e3
          have hR2 := hR1.seen a.block
          obtain ⟨more, dd, hg⟩ := append_grows (P := P) (w := w) hE hi hd hi2 hd2 hj hz ha (b' := some a') (old := ⟨old'⟩) (new := ⟨new'⟩) hlr hroom hmax hbytes ty hf (by
            intro w1 hw1
            simp only [Builtin.firstCells]
            have := run_loadCells_list (P := P) w1 a' old' (fun q v hq => by have := e5 q v hq; simpa only [World.cell?, hw1] using this)
            rwa [← e2.length, e3] at this)
          rw [hg]
          have := growA_sound (nx := nx) (s' := s') (more := more) (d := dd) hE hlim hR2 hj (e2.append hnew) h
          have e : (⟨old'⟩ ++ ⟨new'⟩ : Array Value) = ⟨old' ++ new'⟩ := by apply Array.ext'; simp
          rw [e]
          exact this
      · omega
      · omega
    · rename_i hO
      have hcap := ble_iff.1 hO
      rcases hv.slice_inv with ⟨a', e1, har, hc⟩ | ⟨nm, off, b, bs, ex, c2, e1, e2, e3, hρ⟩ | ⟨nm, off, a', cap', e1, e2, e3, e4⟩
      · omega
      · subst e1; subst e2; subst e3
        have hc2 : Nat.sub (OPEN + c2) OPEN = c2 := by show OPEN + c2 - OPEN = c2; omega
        rw [hc2] at h
        split at h
        · rename_i hroom
          have hroom := ble_iff.1 hroom
          have hroom : len + n ≤ c2 := hroom
          exact inPlace_sound hE hR1 hA ⟨nm, off, b, bs, ex, hρ, rfl, rfl⟩ hnew hnlen hs1 (hlr w) (hf w rfl) (Nat.le_trans hroom (Nat.le_add_right _ _)) ty (fun ρ' hle l => .sliceL (hle _ _ hρ)) h
        · rename_i hroom
          exact appendL_sound hE hlim hR1 hA hρ hnew hnlen hs1 hlr hf (ble_false hroom) hmax hbytes ty h
      · subst e1; subst e2; subst e3; subst e4
        have hc2 : Nat.sub OPEN OPEN = 0 := by show OPEN - OPEN = 0; omega
        rw [hc2] at h
        split at h
        · rename_i hroom
          have hroom : 0 + n ≤ 0 := ble_iff.1 hroom
          have hn0 : n = 0 := by omega
          subst hn0
          have hl0 : new = [] := by
            apply List.eq_nil_of_length_eq_zero; rw [hnlen]; simp
          subst hl0
          cases hnew
          have := append_room (P := P) (w1 := w) hE hi hd hi2 hd2 hj ha (b' := some a') (len := 0) (cap' := cap') (hlr w) (hf w rfl) (by omega) ty (by simp [storeCells])
          exact .here hR1 .blind this h
        · cases h

theorem aCopy_sound (hE : EnvOK P E) (hR : Rep P q ρ s w) {t elem : TypeId} {i j : TI} (hi : E.ty.get t = some i) (hd : i.desc = .slice elem) (hj : E.ty.get elem = some j) {ats : Array TypeId} {r : List TypeId} (ha : ats.toList = t :: r) {base : Option Addr} {len cap n : Nat} {x x' v' : Value}
    (hx : VR ρ x x') (hv : VR ρ (.slice base len cap) v') (hn : lenA x = some n) (ty : TypeId)
    (hh : (copyA j.size base len x n).run s = some (nx, s')) :
    ValRes P q ρ w s' nx ((Builtin.copy_ ats ty ⟨[v', x']⟩).run P w) := by
  obtain ⟨vs, vs', s1, h, hR1, hvs, hlen, hf⟩ := firstA_sound hR hx hh
  clear hh
  have hlr := lenA_run (P := P) hn hx
  obtain ⟨ats⟩ := ats
  simp only at ha; subst ha
  obtain ⟨b', cap', rfl, hb⟩ := hv.slice_len
  have hmin : minN n len = Nat.min n len := minN_eq n len
  have hf := hf w rfl
  rw [hmin] at hf h hlen
  have hrun : (Builtin.copy_ (⟨t :: r⟩ : Array TypeId) ty ⟨[.slice b' len cap', x']⟩).run P w = ((match b' with | some a => storeCells a vs' 0 | none => pure ()).run P w).andThen fun _ w1 => .ok (goInt ((Nat.min n len : Nat) : Int)) w1 := by
    simp only [Builtin.copy_, List.getElem?_toArray, List.getElem?_cons_zero, List.getElem?_cons_succ, Sem.run_bind, run_under hE hi, hd, Result.andThen_ok, hlr, run_size hE hj, hf]
    cases b' <;> simp
  rw [hrun]
  split at h
  · cases hvs
    refine .here hR1 (v' := goInt ((Nat.min n len : Nat) : Int)) (.flat rfl) ?_ h
    cases b' <;> simp [storeCells]
  · rename_i a vs2 hne
    rcases hv.slice_inv with ⟨a', e1, har, _⟩ | ⟨nm, off, b, bs, ex, c2, e1, e2, e3, hρ⟩ | ⟨nm, off, a', cap2, e1, e2, e3, e4⟩
    · injection e1 with e1 _ _; subst e1
      obtain ⟨s2, w1, h, a1, a2, a3⟩ := store_sim hR1 har hvs h
      obtain ⟨rfl, rfl⟩ := run_val h
      exact ⟨ρ, _, goInt ((Nat.min n len : Nat) : Int), w1, rfl, by simp [a3], a1, a2, .flat rfl⟩
    · injection e3 with e3 _ _; subst e3
      obtain ⟨s2, w1, h, a1, a2, a3⟩ := store_sim hR1 ⟨nm, off, b, bs, ex, hρ, e1, rfl⟩ hvs h
      obtain ⟨rfl, rfl⟩ := run_val h
      exact ⟨ρ, _, goInt ((Nat.min n len : Nat) : Int), w1, rfl, by simp [a3], a1, a2, .flat rfl⟩
    · subst e1
      unfold storeA at h
      cases h
  · cases h
end
end Go.AE
