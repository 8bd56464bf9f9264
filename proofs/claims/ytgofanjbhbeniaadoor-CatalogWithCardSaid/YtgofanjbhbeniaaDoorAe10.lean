/- Appending and copying over the named memory do what they do in the world. No program is named here. -/
import Derived.Test.YtgofanjbhbeniaaDoorAe9
noncomputable section
namespace Go.AE
set_option linter.unusedVariables false
set_option linter.unusedSimpArgs false

section
variable {P : Program} {E : Env} {q : Free} {ρ : Ren} {s s' : S} {w : World} {fr : Fr} {e : Operand → Value} {nx : ANext}

theorem Rep.of_heap {w1 : World} (h : Rep P q ρ s w) (hh : w1.heap = w.heap) : Rep P q ρ s w1 :=
  ⟨by rw [hh]; exact h.live, h.apart, h.from_, h.room, h.fresh, by rw [hh]; exact h.blk, by rw [hh]; exact h.kept, h.safe, h.rows⟩
theorem Evo.from_heap {ρ' : Ren} {w1 w2 : World} (h : Evo ρ w1 ρ' w2) (hh : w1.heap = w.heap) (hst : Still w w1 := by exact ⟨rfl, rfl, rfl⟩) : Evo ρ w ρ' w2 :=
  ⟨h.sub, by rw [← hh]; exact h.frame, by rw [← hh]; exact h.size, by rw [← hh]; exact h.new, hst.trans h.rest⟩

theorem Rep.del {n : Nat} (hn : n < Tr.wide) (h : Rep P q ρ s w) : Rep P q ρ (s.turn n none) w where
  live m o e := by
    rw [turn_get hn] at e
    by_cases hm : m = n
    · rw [if_pos hm] at e; cases e
    · rw [if_neg hm] at e; exact h.live m o e
  apart m k o o' b base ex base' ex' hne em ek := by
    rw [turn_get hn] at em ek
    by_cases hm : m = n
    · rw [if_pos hm] at em; cases em
    · by_cases hk : k = n
      · rw [if_pos hk] at ek; cases ek
      · rw [if_neg hm] at em; rw [if_neg hk] at ek
        exact h.apart m k o o' b base ex base' ex' hne em ek
  from_ := h.from_
  room := h.room
  fresh := h.fresh
  blk := h.blk
  kept := h.kept
  safe m o b base ex o' e := by
    rw [turn_get hn] at e
    by_cases hm : m = n
    · rw [if_pos hm] at e; cases e
    · rw [if_neg hm] at e; exact h.safe m o b base ex o' e
  rows m o b base ex e := by
    rw [turn_get hn] at e
    by_cases hm : m = n
    · rw [if_pos hm] at e; cases e
    · rw [if_neg hm] at e; exact h.rows m o b base ex e

theorem bytesA_eq : ∀ (l : List UInt8), bytesA l = l.map fun b => Value.int .u8 (b.toNat : Int)
  | [] => rfl
  | b :: l => by simp [bytesA, bytesA_eq l]
theorem bytes_LR (l : List UInt8) : LR ρ (bytesA l) (bytesA l) := by
  induction l with
  | nil => exact .nil
  | cons b l ih => exact .cons (.flat rfl) ih

theorem lenA_run {x x' : Value} {n : Nat} (h : lenA x = some n) (hx : VR ρ x x') (w : World) : (Builtin.lenOf x').run P w = .ok n w := by
  unfold lenA at h
  split at h
  · cases h; obtain ⟨b', c', rfl, _⟩ := hx.slice_len; rfl
  · cases h; rw [hx.string_inv]; rfl
  · cases h

theorem firstA_sound {β : Type} (hR : Rep P q ρ s w) {size n : Nat} {x x' : Value} (hx : VR ρ x x') {k : List Value → AM β} {r} (h : (firstA size n x k).run s = some r) :
    ∃ vs vs' s1, (k vs).run s1 = some r ∧ Rep P q ρ s1 w ∧ LR ρ vs vs' ∧ vs.length = n * size ∧ ∀ w1 : World, w1.heap = w.heap → (Builtin.firstCells size n x').run P w1 = .ok ⟨vs'⟩ w1 := by
  unfold firstA at h
  split at h
  · rename_i a len cap
    split at h
    · obtain ⟨b', c', rfl, hb⟩ := hx.slice_len
      cases b' with
      | none => cases hb
      | some a' => exact ⟨[], [], s, h, hR, .nil, by simp, fun w1 _ => by simp [Builtin.firstCells, loadCells, loadCellsFrom]⟩
    · have hs : a.spot = none := by
        unfold loadA at h
        split at h
        · cases h
        · assumption
      obtain ⟨a', cap', rfl, har⟩ := hx.slice_addr hs
      obtain ⟨vs, vs', s1, h1, rfl, e2, e3, e4, e5⟩ := load_sim hR har h
      refine ⟨vs, vs', _, h1, hR.seen _, e2, e3, fun w1 hw1 => ?_⟩
      simp only [Builtin.firstCells]
      have := run_loadCells_list (P := P) w1 a' vs' (fun q v hq => by have := e5 q v hq; simpa only [World.cell?, hw1] using this)
      rwa [← e2.length, e3] at this
  · rename_i len cap
    split at h
    · obtain ⟨rfl, _, _⟩ := hx.sliceN_inv
      exact ⟨[], [], s, h, hR, .nil, by simp, fun w1 _ => by simp [Builtin.firstCells]⟩
    · cases h
  · rename_i b
    obtain ⟨hs1, h2⟩ := run_when h
    obtain ⟨vs, hv, h3⟩ := run_opt h2
    clear h h2
    obtain ⟨hvs, hle⟩ := takeL_eq _ _ _ hv
    have hs1 := beq_iff.1 hs1
    rw [hx.string_inv]
    refine ⟨vs, vs, s, h3, hR, by rw [hvs]; exact (bytes_LR _).take n, by rw [hvs, hs1, Nat.mul_one, List.length_take]; omega, fun w1 _ => ?_⟩
    rw [hvs]
    simp only [Builtin.firstCells, Sem.run_pure]
    congr 1
    apply Array.ext'
    rw [bytesA_eq]
    simp [ByteArray.data_extract]
  · cases h

theorem growBy_le (m B : Nat) (hB : m + (m + 768) / 4 ≤ B) : ∀ r c, c ≤ B → Builtin.growBy m r c ≤ B
  | 0, c, h => h
  | r + 1, c, h => by
    simp only [Builtin.growBy]
    split
    · exact h
    · exact growBy_le m B hB r _ (by omega)
theorem nextcap_le {m c : Nat} (h : c < m) : Builtin.nextslicecap m c ≤ 2 * m + 768 := by
  unfold Builtin.nextslicecap
  split
  · omega
  · split
    · omega
    · exact growBy_le m _ (by omega) 4 c (by omega)

theorem zeroCells_size (z : Array Value) (n : Nat) : (Builtin.zeroCells z n).size = n * z.size := by
  simp [Builtin.zeroCells]

/-- what 'append' comes to where there is room -/
theorem append_room (hE : EnvOK P E) {t t2 elem : TypeId} {i i2 j : TI} (hi : E.ty.get t = some i) (hd : i.desc = .slice elem) (hi2 : E.ty.get t2 = some i2) (hd2 : ∀ k, i2.desc ≠ .int k) (hj : E.ty.get elem = some j)
    {ats : Array TypeId} {r : List TypeId} (ha : ats.toList = t :: t2 :: r) {b' : Option Addr} {len cap' n : Nat} {x' : Value} {new : Array Value} (hn : (Builtin.lenOf x').run P w = .ok n w)
    (hf : (Builtin.firstCells j.size n x').run P w = .ok new w) (hroom : len + n ≤ cap') (ty : TypeId) {w1 : World}
    (hst : (match b' with | some a => storeCells (a.add (len * j.size)) new.toList 0 | none => pure ()).run P w = .ok () w1) :
    (Builtin.append_ ats ty ⟨[.slice b' len cap', x']⟩).run P w = .ok (.slice b' (len + n) cap') w1 := by
  obtain ⟨ats⟩ := ats
  simp only at ha; subst ha
  have hm : (match i2.desc with | .int _ => true | _ => false) = false := by
    cases hq : i2.desc <;> first | rfl | exact absurd hq (hd2 _)
  simp only [Builtin.append_, List.getElem?_toArray, List.getElem?_cons_zero, List.getElem?_cons_succ, Sem.run_bind, run_under hE hi, hd, Result.andThen_ok, run_size hE hj, run_under hE hi2, Sem.run_pure, hm]
  simp only [Bool.false_eq_true, if_false, Bool.not_false, if_true, hn, Sem.run_bind, Result.andThen_ok, hf]
  rw [if_pos hroom]
  simp only [Sem.run_bind, hf, Result.andThen_ok]
  cases b' with
  | none =>
    simp only [Sem.run_pure] at hst
    cases hst
    simp
  | some a =>
    simp only at hst
    simp [hst]

/-- what 'append' comes to where there is no room -/
theorem append_grows (hE : EnvOK P E) {t t2 elem : TypeId} {i i2 j : TI} (hi : E.ty.get t = some i) (hd : i.desc = .slice elem) (hi2 : E.ty.get t2 = some i2) (hd2 : ∀ k, i2.desc ≠ .int k) (hj : E.ty.get elem = some j) {z : Value} (hz : j.zero = some z)
    {ats : Array TypeId} {r : List TypeId} (ha : ats.toList = t :: t2 :: r) {b' : Option Addr} {len cap' n : Nat} {x' : Value} {old new : Array Value} (hn : ∀ w, (Builtin.lenOf x').run P w = .ok n w)
    (hroom : cap' < len + n) (hmax : len + n ≤ maxNeed) (hbytes : j.bytes ≤ 1024) (ty : TypeId)
    (hf : ∀ w1 : World, w1.heap = w.heap → (Builtin.firstCells j.size n x').run P w1 = .ok new w1)
    (ho : ∀ w1 : World, w1.heap = w.heap → (Builtin.firstCells j.size len (.slice b' len cap')).run P w1 = .ok old w1) :
    ∃ more d, (Builtin.append_ ats ty ⟨[.slice b' len cap', x']⟩).run P w = .ok (.slice (some ⟨w.heap.size, 0, none⟩) (len + n) (len + n + more)) { w with drawn := d, heap := w.heap.push (.cells (old ++ new ++ Builtin.zeroCells z.cells more) elem) } := by
  obtain ⟨ats⟩ := ats
  simp only at ha; subst ha
  have hm : (match i2.desc with | .int _ => true | _ => false) = false := by
    cases hq : i2.desc <;> first | rfl | exact absurd hq (hd2 _)
  obtain ⟨ti, q1, ht2, ht3, _⟩ := hE.ty _ _ hj
  have ht1 : ∀ w : World, (typeInfo elem).run P w = .ok ti w := fun w => by simp [typeInfo, q1]
  have hnc := nextcap_le hroom
  unfold maxNeed at hmax
  have hlim : ¬ (Builtin.nextslicecap (len + n) cap' * ti.bytes > 2 ^ 48) := by
    rw [ht3]
    have : Builtin.nextslicecap (len + n) cap' * j.bytes ≤ (2 * 1073741824 + 768) * 1024 := Nat.mul_le_mul (by omega) hbytes
    omega
  have hcut : ∃ more, (Question.appendCap (len + n) cap' elem).cut (w.tape w.drawn (.appendCap (len + n) cap' elem)) = len + n + more := ⟨_, rfl⟩
  obtain ⟨more, hcut⟩ := hcut
  refine ⟨more, w.drawn + 1, ?_⟩
  simp only [Builtin.append_, List.getElem?_toArray, List.getElem?_cons_zero, List.getElem?_cons_succ, Sem.run_bind, run_under hE hi, hd, Result.andThen_ok, run_size hE hj, run_under hE hi2, Sem.run_pure, hm]
  simp only [Bool.false_eq_true, if_false, Bool.not_false, if_true, hn, Sem.run_bind, Result.andThen_ok]
  rw [if_neg (by omega)]
  simp only [Sem.run_bind, ht1, Result.andThen_ok, false_or]
  rw [if_neg (by
    intro hh
    have := hh.1
    simp [IntKind.max, IntKind.signed, IntKind.bits] at this
    omega)]
  simp only [Sem.run_bind, Sem.run_pure, ht1, Result.andThen_ok]
  rw [if_neg hlim]
  simp only [Sem.run_bind, run_choose, Question.forced, Bool.false_eq_true, if_false, Result.andThen_ok, run_askRoom, hcut, ht1]
  rw [ho { w with drawn := w.drawn + 1 } rfl]
  simp only [Result.andThen_ok]
  rw [hf { w with drawn := w.drawn + 1 } rfl]
  simp only [Result.andThen_ok, run_zero hE hj _ hz, newRow, Sem.run_bind, run_newObj, Sem.run_pure, Nat.add_sub_cancel_left]
end
end Go.AE
