/- The named memory's reads, writes and new rows, held against the world's. No program is named here. -/
import Derived.Test.YtgofanjbhbeniaaDoorAe4
noncomputable section
namespace Go.AE
set_option linter.unusedVariables false
set_option linter.unusedSimpArgs false

structure EnvOK (P : Program) (E : Env) : Prop where
  ty : ∀ t i, E.ty.get t = some i → ∃ ti, P.info? t = some ti ∧ ti.size = i.size ∧ ti.bytes = i.bytes ∧ P.underlying t = some i.desc ∧
    (∀ z, i.zero = some z → ti.zero = some z ∧ still z = true) ∧ (i.guard = false → P.eqGuardType P.depth t = false ∧ P.stoodInHeld t = false)
  fn : ∀ f g, E.fn.get f = some g → ∃ fn, P.funcs[f]? = some fn ∧ g = FI.of fn
  ext : ∀ f fn v (args : List Value) (w : World), P.funcs[f]? = some fn → extA (FI.of fn).ext args = some v → ∀ args', LR (fun _ => none) args args' → (callFunc f ⟨args'⟩).run P w = .ok (.value v) w

section run
variable {P : Program} {E : Env} {t : Nat} {i : TI}
theorem run_under (hE : EnvOK P E) (h : E.ty.get t = some i) (w : World) : (underlying t).run P w = .ok i.desc w := by
  obtain ⟨ti, h1, h2, h3, h4, h5, h6⟩ := hE.ty t i h
  simp [underlying, h4]
theorem run_tinfo (hE : EnvOK P E) (h : E.ty.get t = some i) (w : World) : ∃ ti, (typeInfo t).run P w = .ok ti w ∧ ti.size = i.size ∧ ti.bytes = i.bytes := by
  obtain ⟨ti, h1, h2, h3, h4, h5, h6⟩ := hE.ty t i h
  exact ⟨ti, by simp [typeInfo, h1], h2, h3⟩
theorem run_size (hE : EnvOK P E) (h : E.ty.get t = some i) (w : World) : (sizeOf t).run P w = .ok i.size w := by
  obtain ⟨ti, h1, h2, h3, h4, h5, h6⟩ := hE.ty t i h
  simp [sizeOf, typeInfo, h1, h2]
theorem run_agg (hE : EnvOK P E) (h : E.ty.get t = some i) (w : World) : (isAgg t).run P w = .ok (isAggD i.desc) w := by
  simp only [isAgg, Sem.run_bind, run_under hE h w, Result.andThen_ok]
  cases i.desc <;> rfl
theorem run_zero (hE : EnvOK P E) (h : E.ty.get t = some i) (w : World) {z : Value} (hz : i.zero = some z) : (zeroValue t).run P w = .ok z w := by
  obtain ⟨ti, h1, h2, h3, h4, h5, h6⟩ := hE.ty t i h
  simp [zeroValue, typeInfo, h1, (h5 z hz).1]
theorem zero_still (hE : EnvOK P E) (h : E.ty.get t = some i) {z : Value} (hz : i.zero = some z) : still z = true := by
  obtain ⟨ti, h1, h2, h3, h4, h5, h6⟩ := hE.ty t i h
  exact (h5 z hz).2
theorem cellsOf_eq (hE : EnvOK P E) (h : E.ty.get t = some i) : P.cellsOf t = i.size := by
  obtain ⟨ti, h1, h2, h3, h4, h5, h6⟩ := hE.ty t i h
  simp [Program.cellsOf, h1, h2]
end run

theorem still_cells {ρ : Ren} {z : Value} (h : still z = true) : LR ρ z.cells.toList z.cells.toList := (still_VR (ρ := ρ) h).cells

section inv
variable {ρ : Ren}
theorem VR.ptr_inv {a : Addr} {v' : Value} (h : VR ρ (.pointer (some a)) v') : ∃ a', v' = .pointer (some a') ∧ AddrR ρ a a' := by
  cases h with
  | flat e => simp [AE.flat] at e
  | ptr x => exact ⟨_, rfl, x⟩
theorem VR.int_inv {k : IntKind} {n : Int} {v' : Value} (h : VR ρ (.int k n) v') : v' = .int k n := by
  cases h; rfl
theorem VR.bool_inv {b : Bool} {v' : Value} (h : VR ρ (.bool b) v') : v' = .bool b := by
  cases h; rfl
theorem VR.string_inv {b : ByteArray} {v' : Value} (h : VR ρ (.string b) v') : v' = .string b := by
  cases h; rfl
theorem VR.agg_inv {l : List Value} {v' : Value} (h : VR ρ (.agg ⟨l⟩) v') : ∃ l', v' = .agg ⟨l'⟩ ∧ LR ρ l l' := by
  cases h with
  | flat e => simp [AE.flat] at e
  | agg x => exact ⟨_, rfl, x⟩
theorem VR.tuple_inv {l : List Value} {v' : Value} (h : VR ρ (.tuple ⟨l⟩) v') : ∃ l', v' = .tuple ⟨l'⟩ ∧ LR ρ l l' := by
  cases h with
  | flat e => simp [AE.flat] at e
  | tuple x => exact ⟨_, rfl, x⟩
theorem VR.map_inv {r : Nat} {v' : Value} (h : VR ρ (.map (some r)) v') : ∃ b base ex, v' = .map (some b) ∧ ρ r = some (b, base, ex) := by
  cases h with
  | flat e => simp [AE.flat] at e
  | map x => exact ⟨_, _, _, rfl, x⟩
theorem VR.mapN_inv {v' : Value} (h : VR ρ (.map none) v') : v' = .map none := by
  cases h; rfl
theorem VR.func_inv {f : FuncId} {a b : List Value} {v' : Value} (h : VR ρ (.func (.func f) ⟨a⟩ ⟨b⟩) v') : ∃ a' b', v' = .func (.func f) ⟨a'⟩ ⟨b'⟩ ∧ LR ρ a a' ∧ LR ρ b b' := by
  cases h with
  | flat e =>
    simp only [AE.flat] at e
    split at e <;> first | (cases e; done) | skip
    all_goals first | (rename_i h1; cases h1; done) | skip
    all_goals (rename_i h1; injection h1 with h1 h2 h3; injection h2 with h2; injection h3 with h3; subst h2; subst h3; exact ⟨[], [], rfl, .nil, .nil⟩)
  | func x y => exact ⟨_, _, rfl, x, y⟩
theorem VR.yield_inv {l : Nat} {a b : Array Value} {v' : Value} (h : VR ρ (.func (.yield l) a b) v') : ∃ c base ex, v' = .func (.yield c) #[] #[] ∧ ρ l = some (c, base, ex) ∧ a = #[] ∧ b = #[] := by
  cases h with
  | flat e => simp [AE.flat] at e
  | yield x => exact ⟨_, _, _, rfl, x, rfl, rfl⟩
/-- a slice that isn't nil -/
theorem VR.slice_inv {a : Addr} {len cap : Nat} {v' : Value} (h : VR ρ (.slice (some a) len cap) v') :
    (∃ a', v' = .slice (some a') len cap ∧ AddrR ρ a a' ∧ cap < OPEN) ∨
    (∃ n off b base ex c, a = ⟨n, off, none⟩ ∧ cap = OPEN + c ∧ v' = .slice (some ⟨b, base + off, none⟩) len (c + ex) ∧ ρ n = some (b, base, ex)) ∨
    (∃ n off a' cap', a = ⟨n, off, some 0⟩ ∧ len = 0 ∧ cap = OPEN ∧ v' = .slice (some a') 0 cap') := by
  cases h with
  | flat e => simp [AE.flat] at e
  | sliceW x y => exact .inl ⟨_, rfl, x, y⟩
  | sliceL x => exact .inr (.inl ⟨_, _, _, _, _, _, rfl, rfl, rfl, x⟩)
  | blind => exact .inr (.inr ⟨_, _, _, _, rfl, rfl, rfl, rfl⟩)
theorem VR.sliceN_inv {len cap : Nat} {v' : Value} (h : VR ρ (.slice none len cap) v') : v' = .slice none 0 0 ∧ len = 0 ∧ cap = 0 := by
  cases h with
  | flat e =>
    simp only [AE.flat] at e
    split at e <;> first | (cases e; done) | skip
    all_goals first | (rename_i h1; cases h1; done) | skip
    all_goals (rename_i h1; injection h1 with h1 h2 h3; subst h2; subst h3; exact ⟨rfl, rfl, rfl⟩)
/-- a slice whose row is met -/
theorem VR.slice_len {b : Option Addr} {len cap : Nat} {v' : Value} (h : VR ρ (.slice b len cap) v') : ∃ b' cap', v' = .slice b' len cap' ∧ b'.isSome = b.isSome := by
  cases b with
  | none => obtain ⟨r, h1, h2⟩ := h.sliceN_inv; subst h1; exact ⟨none, 0, r, rfl⟩
  | some a =>
    rcases h.slice_inv with ⟨a', r, _⟩ | ⟨n, off, b, base, ex, c, _, _, r, _⟩ | ⟨n, off, a', cap', _, r0, _, r⟩
    · exact ⟨_, _, r, rfl⟩
    · exact ⟨_, _, r, rfl⟩
    · subst r0; exact ⟨_, _, r, rfl⟩
/-- a slice whose address is a place: so is the real one -/
theorem VR.slice_addr {a : Addr} {len cap : Nat} {v' : Value} (h : VR ρ (.slice (some a) len cap) v') (hs : a.spot = none) : ∃ a' cap', v' = .slice (some a') len cap' ∧ AddrR ρ a a' := by
  rcases h.slice_inv with ⟨a', r, x, _⟩ | ⟨n, off, b, base, ex, c, r1, _, r, x⟩ | ⟨n, off, a', cap', r1, _⟩
  · exact ⟨_, _, r, x⟩
  · exact ⟨_, _, r, ⟨n, off, b, base, ex, x, r1, rfl⟩⟩
  · subst r1; cases hs
end inv

section am
variable {α β : Type}
theorem run_opt {x : Option α} {k : α → AM β} {s : S} {r} (h : (opt x k).run s = some r) : ∃ a, x = some a ∧ (k a).run s = some r := by
  cases x with
  | none => cases h
  | some a => exact ⟨a, rfl, h⟩
theorem run_when {b : Bool} {k : AM β} {s : S} {r} (h : (when b k).run s = some r) : b = true ∧ k.run s = some r := by
  cases b with
  | false => cases h
  | true => exact ⟨rfl, h⟩
def S.seen (s : S) (n : Nat) : S := ⟨s.heap, s.next, s.mark, bit s.mark n s.rd, s.wr⟩
def S.turn (s : S) (n : Nat) (o : Option AObj) : S := ⟨s.heap.put n o, s.next, s.mark, s.rd, bit s.mark n s.wr⟩
def S.grow (s : S) (o : AObj) : S := ⟨s.heap.put s.next (some o), s.next + 1, s.mark, s.rd, s.wr⟩
theorem run_get {n : Nat} {k : AObj → AM β} {s : S} {r} (h : (AM.get n k).run s = some r) : ∃ o, s.heap.get n = some o ∧ (k o).run (s.seen n) = some r := by
  simp only [AM.run] at h
  split at h
  · cases h
  · split at h
    · cases h
    · rename_i o ho; exact ⟨o, ho, h⟩
theorem ble_iff {a b : Nat} : Nat.ble a b = true ↔ a ≤ b := by rw [Nat.ble_eq]
theorem blt_iff {a b : Nat} : Nat.blt a b = true ↔ a < b := by
  unfold Nat.blt; rw [Nat.ble_eq]; exact Iff.rfl
theorem beq_iff {a b : Nat} : Nat.beq a b = true ↔ a = b := ⟨Nat.eq_of_beq_eq_true, fun h => by subst h; simp⟩
theorem ble_false {a b : Nat} (h : Nat.ble a b = false) : b < a := by
  rcases Nat.lt_or_ge b a with h' | h'
  · exact h'
  · rw [Nat.ble_eq_true_of_le h'] at h; cases h
theorem beq_false {a b : Nat} (h : Nat.beq a b = false) : a ≠ b := by
  intro e; subst e; simp at h
theorem name_wide {n : Nat} (h : n ≤ lastName) : n < Tr.wide := by unfold lastName at h; unfold Tr.wide; omega
theorem run_set {n : Nat} {o : AObj} {k : AM β} {s : S} {r} (h : (AM.set n o k).run s = some r) : (∃ o', s.heap.get n = some o') ∧ n < Tr.wide ∧ k.run (s.turn n (some o)) = some r := by
  simp only [AM.run] at h
  split at h
  · cases h
  · rename_i hb
    simp only [Bool.and_eq_true] at hb
    split at h
    · cases h
    · rename_i o' ho; exact ⟨⟨o', ho⟩, name_wide (ble_iff.1 hb.2), h⟩
theorem run_del {n : Nat} {k : AM β} {s : S} {r} (h : (AM.del n k).run s = some r) : (∃ o', s.heap.get n = some o') ∧ n < Tr.wide ∧ k.run (s.turn n none) = some r := by
  simp only [AM.run] at h
  split at h
  · cases h
  · rename_i hb
    simp only [Bool.and_eq_true] at hb
    split at h
    · cases h
    · rename_i o' ho; exact ⟨⟨o', ho⟩, name_wide (ble_iff.1 hb.2), h⟩
theorem run_new {o : AObj} {k : Nat → AM β} {s : S} {r} (h : (AM.new o k).run s = some r) : s.next < Tr.wide ∧ (k s.next).run (s.grow o) = some r := by
  simp only [AM.run, force_eq] at h
  split at h
  · cases h
  · rename_i hb; exact ⟨name_wide (ble_iff.1 hb), h⟩
theorem run_mono {t : AM α} : ∀ {s : S} {r}, t.run s = some r → s.next ≤ r.2.next := by
  induction t with
  | pure a => intro s r h; simp only [AM.run, Option.some.injEq] at h; subst h; exact Nat.le_refl _
  | fail => intro s r h; cases h
  | get n k ih =>
    intro s r h
    obtain ⟨o, ho, h⟩ := run_get h
    exact ih o (s := s.seen n) h
  | set n o k ih =>
    intro s r h
    obtain ⟨_, _, h⟩ := run_set h
    exact ih (s := s.turn n (some o)) h
  | new o k ih =>
    intro s r h
    obtain ⟨_, h⟩ := run_new h
    exact Nat.le_of_succ_le (ih _ (s := s.grow o) h)
  | del n k ih =>
    intro s r h
    obtain ⟨_, _, h⟩ := run_del h
    exact ih (s := s.turn n none) h
theorem Rep.seen {P : Program} {q : Free} {ρ : Ren} {s : S} {w : World} (h : Rep P q ρ s w) (n : Nat) : Rep P q ρ (s.seen n) w := h.of_eq (fun _ => rfl) rfl
theorem turn_get {s : S} {n : Nat} (hn : n < Tr.wide) (o : Option AObj) (m : Nat) : (s.turn n o).heap.get m = if m = n then o else s.heap.get m := Tr.get_put _ _ _ _ hn
theorem grow_get {s : S} (hn : s.next < Tr.wide) (o : AObj) (m : Nat) : (s.grow o).heap.get m = if m = s.next then some o else s.heap.get m := Tr.get_put _ _ _ _ hn
end am

theorem rdCells_spec (c : Tr Value) (off : Nat) : ∀ (n : Nat) (acc r : List Value), rdCells c off n acc = some r → ∃ vs, r = vs ++ acc ∧ vs.length = n ∧ ∀ i v, vs[i]? = some v → c.get (off + i) = some v
  | 0, acc, r, h => by cases h; exact ⟨[], rfl, rfl, fun i v e => by simp at e⟩
  | n + 1, acc, r, h => by
    simp only [rdCells] at h
    split at h
    · cases h
    · rename_i v hv
      obtain ⟨vs, h1, h2, h3⟩ := rdCells_spec c off n (v :: acc) r h
      refine ⟨vs ++ [v], by simp [h1], by simp [h2], ?_⟩
      intro i u e
      by_cases hi : i < n
      · rw [List.getElem?_append_left (by omega)] at e
        exact h3 i u e
      · have : i = n := by
          have := (List.getElem?_eq_some_iff.1 e).1
          simp at this; omega
        subst this
        rw [List.getElem?_append_right (by omega), h2] at e
        simp at e; subst e
        exact hv

theorem wrCells_get (vs : List Value) : ∀ (c : Tr Value) (off : Nat), off + vs.length ≤ lastName + 1 → ∀ i, (wrCells c off vs).get i = if off ≤ i ∧ i < off + vs.length then vs[i - off]? else c.get i := by
  induction vs with
  | nil => intro c off _ i; rw [if_neg (by simp)]; rfl
  | cons v l ih =>
    intro c off h i
    simp only [wrCells]
    simp at h
    rw [ih _ _ (by simp; omega), Tr.get_put _ _ _ _ (name_wide (by omega))]
    simp only [Nat.succ_eq_add_one, List.length_cons]
    by_cases h1 : i = off
    · subst h1
      rw [if_neg (by omega), if_pos rfl, if_pos (by omega)]; simp
    · rw [if_neg h1]
      by_cases h2 : off + 1 ≤ i ∧ i < off + 1 + l.length
      · rw [if_pos h2, if_pos (by omega)]
        obtain ⟨k, hk⟩ : ∃ k, i = off + 1 + k := ⟨i - (off + 1), by omega⟩
        subst hk
        rw [show off + 1 + k - (off + 1) = k by omega, show off + 1 + k - off = k + 1 by omega]; simp
      · rw [if_neg h2, if_neg (by omega)]

theorem ofFrom_get {α : Type} (l : List α) : ∀ (i : Nat) (t : Tr α), i + l.length ≤ lastName + 1 → ∀ m, (Tr.ofFrom l i t).get m = if i ≤ m ∧ m < i + l.length then l[m - i]? else t.get m := by
  induction l with
  | nil => intro i t _ m; rw [if_neg (by simp)]; rfl
  | cons v l ih =>
    intro i t h m
    simp only [Tr.ofFrom]
    simp at h
    rw [ih _ _ (by simp; omega), Tr.get_put _ _ _ _ (name_wide (by omega))]
    simp only [Nat.succ_eq_add_one, List.length_cons]
    by_cases h1 : m = i
    · subst h1
      rw [if_neg (by omega), if_pos rfl, if_pos (by omega)]; simp
    · rw [if_neg h1]
      by_cases h2 : i + 1 ≤ m ∧ m < i + 1 + l.length
      · rw [if_pos h2, if_pos (by omega)]
        obtain ⟨k, hk⟩ : ∃ k, m = i + 1 + k := ⟨m - (i + 1), by omega⟩
        subst hk
        rw [show i + 1 + k - (i + 1) = k by omega, show i + 1 + k - i = k + 1 by omega]; simp
      · rw [if_neg h2, if_neg (by omega)]
theorem ofList_get {α : Type} (l : List α) (h : l.length ≤ lastName + 1) (m : Nat) : (Tr.ofList l).get m = l[m]? := by
  unfold Tr.ofList
  rw [ofFrom_get l 0 .nil (by omega)]
  by_cases hm : m < l.length
  · rw [if_pos (by omega)]; simp
  · rw [if_neg (by omega), List.getElem?_eq_none (by omega)]; rfl

section mem
variable {P : Program} {q : Free} {ρ : Ren} {s : S} {w : World} {β : Type}

theorem addr_add (b o i : Nat) : (⟨b, o, none⟩ : Addr).add i = ⟨b, o + i, none⟩ := by
  unfold Addr.add; split
  · subst i; rfl
  · rfl

/-- cells of a row, met -/
theorem row_met {c : Tr Value} {m base off n : Nat} {cs : Array Value} {vs : List Value} {b : Nat} {e : TypeId} {z : Nat × Nat} (e2 : w.heap[b]? = some (.cells cs e z)) (hc : ∀ i v, c.get i = some v → i < m → ∃ v', cs[base + i]? = some v' ∧ VR ρ v v')
    (hle : off + n ≤ m) (h2 : vs.length = n) (h3 : ∀ i v, vs[i]? = some v → c.get (off + i) = some v) :
    ∃ vs', LR ρ vs vs' ∧ (loadCells ⟨b, base + off, none⟩ n).run P w = .ok ⟨vs'⟩ w ∧ (∀ j v, vs'[j]? = some v → w.cell? ((⟨b, base + off, none⟩ : Addr).add j) = some v) := by
  have key : ∀ l : List Value, ∀ o2 : Nat, o2 + l.length ≤ m → (∀ i v, l[i]? = some v → c.get (o2 + i) = some v) → ∃ l', LR ρ l l' ∧ ∀ i v, l'[i]? = some v → cs[base + (o2 + i)]? = some v := by
    intro l
    induction l with
    | nil => intro o2 _ _; exact ⟨[], .nil, fun i v e => by simp at e⟩
    | cons v l ih =>
      intro o2 hm hg
      simp at hm
      obtain ⟨l', h5, h6⟩ := ih (o2 + 1) (by omega) (fun i u e => by rw [show o2 + 1 + i = o2 + (i + 1) by omega]; exact hg (i + 1) u (by simpa using e))
      obtain ⟨v', h7, h8⟩ := hc o2 v (by simpa using hg 0 v (by simp)) (by omega)
      refine ⟨v' :: l', .cons h8 h5, ?_⟩
      intro i u e
      cases i with
      | zero => simp at e; subst e; simpa using h7
      | succ i =>
        have := h6 i u (by simpa using e)
        rwa [show o2 + 1 + i = o2 + (i + 1) by omega] at this
  obtain ⟨vs', h5, h6⟩ := key vs off (by rw [h2]; exact hle) h3
  have hcells : ∀ j v, vs'[j]? = some v → w.cell? ((⟨b, base + off, none⟩ : Addr).add j) = some v := by
    intro j v e
    rw [addr_add]
    simp only [World.cell?, e2]
    have := h6 j v e
    simpa [Nat.add_assoc] using this
  refine ⟨vs', h5, ?_, hcells⟩
  have := run_loadCells_list (P := P) w ⟨b, base + off, none⟩ vs' hcells
  rw [← h5.length, h2] at this
  exact this
/-- cells that are loaded -/
theorem load_sim (hR : Rep P q ρ s w) {a a' : Addr} (ha : AddrR ρ a a') {n : Nat} {k : List Value → AM β} {r} (h : (loadA a n k).run s = some r) :
    ∃ vs vs' s1, (k vs).run s1 = some r ∧ s1 = s.seen a.block ∧ LR ρ vs vs' ∧ vs.length = n ∧ (loadCells a' n).run P w = .ok ⟨vs'⟩ w ∧
      (∀ j v, vs'[j]? = some v → w.cell? (a'.add j) = some v) := by
  obtain ⟨nm, off, b, base, ex, hρ, rfl, rfl⟩ := ha
  simp only [loadA] at h
  obtain ⟨o, ho, h⟩ := run_get h
  split at h
  · rename_i c m e r'
    obtain ⟨hle, h⟩ := run_when h
    obtain ⟨vs, hvs, h⟩ := run_opt h
    have hle := ble_iff.1 hle
    obtain ⟨vs0, h1, h2, h3⟩ := rdCells_spec _ _ _ _ _ hvs
    simp at h1; subst h1
    obtain ⟨b1, base1, ex1, obj, e1, e2, e3⟩ := hR.live _ _ ho
    rw [hρ] at e1; cases e1
    cases e3 with
    | cells hsz hl0 hc =>
      obtain ⟨vs', g1, g2, g3⟩ := row_met (P := P) e2 hc hle h2 h3
      exact ⟨vs, vs', _, h, rfl, g1, h2, g2, g3⟩
  · rename_i c m e
    obtain ⟨hle, h⟩ := run_when h
    obtain ⟨vs, hvs, h⟩ := run_opt h
    have hle := ble_iff.1 hle
    obtain ⟨vs0, h1, h2, h3⟩ := rdCells_spec _ _ _ _ _ hvs
    simp at h1; subst h1
    obtain ⟨b1, base1, ex1, obj, e1, e2, e3⟩ := hR.live _ _ ho
    rw [hρ] at e1; cases e1
    cases e3 with
    | row hsz hc =>
      obtain ⟨vs', g1, g2, g3⟩ := row_met (P := P) e2 hc hle h2 h3
      exact ⟨vs, vs', _, h, rfl, g1, h2, g2, g3⟩
  · cases h

/-- cells that are stored -/
theorem store_sim (hR : Rep P q ρ s w) {a a' : Addr} (ha : AddrR ρ a a') {vs vs' : List Value} (hv : LR ρ vs vs') {k : AM β} {r} (h : (storeA a vs k).run s = some r) :
    ∃ s1 w1, k.run s1 = some r ∧ Rep P q ρ s1 w1 ∧ Evo ρ w ρ w1 ∧ (storeCells a' vs' 0).run P w = .ok () w1 := by
  obtain ⟨nm, off, b, base, ex, hρ, rfl, rfl⟩ := ha
  simp only [storeA] at h
  obtain ⟨hone, h⟩ := run_when h
  obtain ⟨o, ho, h⟩ := run_get h
  split at h
  · rename_i c m e r'
    obtain ⟨hle, h⟩ := run_when h
    obtain ⟨hm, h⟩ := run_when h
    have hle := ble_iff.1 hle
    have hm := ble_iff.1 hm
    obtain ⟨_, hn, h⟩ := run_set h
    obtain ⟨b1, base1, ex1, obj, e1, e2, e3⟩ := hR.live _ _ ho
    rw [hρ] at e1; cases e1
    cases e3 with
    | cells hsz hloose hc =>
      rename_i cs
      have hlen := hv.length
      have hle' : off + vs.length ≤ m := hle
      have hst := run_storeCells_at P b (base + off) e vs' 0 cs w e2 (by omega) (allOne_LR hv hone)
      refine ⟨_, _, h, ?_, ?_, hst⟩
      all_goals
        have hlt : b < w.heap.size := (Array.getElem?_eq_some_iff.1 e2).1
        have hnew := setRow_heap w b cs (cs.toList.take (base + off + 0) ++ vs' ++ cs.toList.drop (base + off + 0 + vs'.length)).toArray e (0, 0) e2
        have hget : ∀ j, (cs.toList.take (base + off + 0) ++ vs' ++ cs.toList.drop (base + off + 0 + vs'.length))[j]? = if base + off ≤ j ∧ j < base + off + vs'.length then vs'[j - (base + off)]? else cs[j]? := by
          intro j
          simp only [Nat.add_zero]
          by_cases h1 : j < base + off
          · rw [if_neg (by omega), List.append_assoc, List.getElem?_append_left (by simp; omega)]
            simp [List.getElem?_take, h1]
          · rw [List.append_assoc, List.getElem?_append_right (by simp; omega)]
            have hmin : (cs.toList.take (base + off)).length = base + off := by simp; omega
            rw [hmin]
            by_cases h2 : j < base + off + vs'.length
            · rw [if_pos (by omega), List.getElem?_append_left (by omega)]
            · rw [if_neg (by omega), List.getElem?_append_right (by omega)]
              simp only [List.getElem?_drop]
              rw [show base + off + vs'.length + (j - (base + off) - vs'.length) = j by omega]
              simp
        have hres := Rep.turn (P := P) (s1 := (s.seen nm).turn nm (some (.cells (wrCells c off vs) m e r'))) (w1 := w.setRow b (cs.toList.take (base + off + 0) ++ vs' ++ cs.toList.drop (base + off + 0 + vs'.length)).toArray)
          hR ho hρ (fun k => turn_get hn _ k) rfl hnew
          (by intro c' hc'; simp only [World.setRow, Array.getElem?_modify]; rw [if_neg (fun h => hc' h.symm)])
          (by simp [World.setRow])
          (.cells (by simp; omega) (by intro hl; have := hloose hl; simp; omega) (by
            intro j v ej hj
            rw [wrCells_get _ _ _ (by omega)] at ej
            simp only [List.getElem?_toArray, hget]
            by_cases hin : off ≤ j ∧ j < off + vs.length
            · rw [if_pos hin] at ej
              obtain ⟨v', h5, h6⟩ := hv.get _ _ ej
              refine ⟨v', ?_, h6⟩
              rw [if_pos (by omega), show base + j - (base + off) = j - off by omega]
              exact h5
            · rw [if_neg hin] at ej
              obtain ⟨v', h5, h6⟩ := hc j v ej hj
              exact ⟨v', by rw [if_neg (by omega)]; exact h5, h6⟩)) rfl (by cases r' <;> exact Nat.le_refl _)
          (by
            intro m2 o2 base2 ex2 obj2 hne eo hrd eρ eobj hor
            rw [e2] at eobj; cases eobj
            cases hor with
            | row _ _ => cases hrd
            | cells g1 g2 g3 =>
              rename_i c2 n2 room2
              have hap := hR.apart nm m2 _ _ b base ex base2 ex2 (fun h => hne h.symm) ho eo hρ eρ
              have hh1 : base + m ≤ (AObj.cells c m e r').hi P base ex := by cases r' <;> simp [AObj.hi]
              have hh2 : base2 + n2 ≤ (AObj.cells c2 n2 e room2).hi P base2 ex2 := by cases room2 <;> simp [AObj.hi]
              refine .cells (by simp; omega) (by intro hl; have := g2 hl; simp; omega) ?_
              intro j v ej hj
              obtain ⟨v', h5, h6⟩ := g3 j v ej hj
              refine ⟨v', ?_, h6⟩
              simp only [List.getElem?_toArray, hget]
              rw [if_neg]
              · exact h5
              · intro hin
                exact hap (base2 + j) (by show base ≤ _; omega) (Nat.lt_of_lt_of_le (by omega) hh1) (by show base2 ≤ _; omega) (Nat.lt_of_lt_of_le (by omega) hh2))
      · exact hres.1
      · exact hres.2
  · cases h

/-- a row that is new -/
theorem new_sim (hE : True) (hR : Rep P q ρ s w) {e : TypeId} {vs vs' rest : List Value} (hv : LR ρ vs vs') {room : Room} (ex : Nat) (hrest : room = .loose → ex * P.cellsOf e ≤ rest.length) {k : Nat → AM β} {r} (hl : r.2.next ≤ q.hi)
    (h : (newA e vs room k).run s = some r) :
    ∃ s1 ρ1, (k s.next).run s1 = some r ∧ Rep P q ρ1 s1 { w with heap := w.heap.push (.cells ⟨vs' ++ rest⟩ e) } ∧ Evo ρ w ρ1 { w with heap := w.heap.push (.cells ⟨vs' ++ rest⟩ e) } ∧ ρ1 s.next = some (w.heap.size, 0, ex) := by
  simp only [newA] at h
  obtain ⟨hlen, h⟩ := run_when h
  have hlen := ble_iff.1 hlen
  obtain ⟨hn, h⟩ := run_new h
  have hlt : s.next < q.hi := Nat.lt_of_lt_of_le (run_mono (s := s.grow (.cells (Tr.ofList vs) vs.length e room)) h) hl
  have hle : ρ.le (fun m => if m = s.next then some (w.heap.size, 0, ex) else ρ m) := by
    intro m x e'
    show (if m = s.next then _ else _) = _
    rw [if_neg]
    · exact e'
    · intro hm; subst hm
      rw [hR.next_free hlt] at e'; cases e'
  have hg := Rep.grow (P := P) (s1 := s.grow (.cells (Tr.ofList vs) vs.length e room)) (w1 := { w with heap := w.heap.push (.cells ⟨vs' ++ rest⟩ e) }) (obj1 := .cells ⟨vs' ++ rest⟩ e) hR ex hlt (fun m => grow_get hn _ m) rfl rfl
    (fun m => if m = s.next then some (w.heap.size, 0, ex) else ρ m) (fun m => rfl)
    (.cells (by simp [hv.length]) (by intro hl; have := hrest hl; simp [hv.length]; omega) (by
      intro i v ei hi
      rw [ofList_get _ (by omega)] at ei
      obtain ⟨v', h5, h6⟩ := (hv.mono hle).get i v ei
      refine ⟨v', ?_, h6⟩
      simp only [Nat.zero_add, List.getElem?_toArray]
      rw [List.getElem?_append_left (by rw [← hv.length]; exact hi)]
      exact h5))
  exact ⟨_, _, h, hg.1, hg.2, by simp⟩
end mem
end Go.AE
