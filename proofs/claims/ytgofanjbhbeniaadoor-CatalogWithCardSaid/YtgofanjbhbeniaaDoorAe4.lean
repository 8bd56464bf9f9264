/- How the named memory stands to the world. No program is named here. -/
import Derived.Test.YtgofanjbhbeniaaDoorAe3
import Derived.Laws.Sem
import Derived.Laws.Cells
import Derived.Laws.CopyRow
import Derived.Laws.Entries
noncomputable section
namespace Go.AE
set_option linter.unusedVariables false
set_option linter.unusedSimpArgs false

/-- a name's block, where in it its row begins, and how much room lies behind -/
abbrev Ren := Nat → Option (Nat × Nat × Nat)

def AddrR (ρ : Ren) (a a' : Addr) : Prop := ∃ n off b base ex, ρ n = some (b, base, ex) ∧ a = ⟨n, off, none⟩ ∧ a' = ⟨b, base + off, none⟩

mutual
inductive VR (ρ : Ren) : Value → Value → Prop
  | flat {v} : flat v = true → VR ρ v v
  | ptr {a a'} : AddrR ρ a a' → VR ρ (.pointer (some a)) (.pointer (some a'))
  | sliceW {a a' len cap} : AddrR ρ a a' → cap < OPEN → VR ρ (.slice (some a) len cap) (.slice (some a') len cap)
  | sliceL {n off b base ex len c} : ρ n = some (b, base, ex) → VR ρ (.slice (some ⟨n, off, none⟩) len (OPEN + c)) (.slice (some ⟨b, base + off, none⟩) len (c + ex))
  | blind {n off a' cap} : VR ρ (.slice (some ⟨n, off, some 0⟩) 0 OPEN) (.slice (some a') 0 cap)
  | map {r b base ex} : ρ r = some (b, base, ex) → VR ρ (.map (some r)) (.map (some b))
  | func {f a b a' b'} : LR ρ a a' → LR ρ b b' → VR ρ (.func (.func f) ⟨a⟩ ⟨b⟩) (.func (.func f) ⟨a'⟩ ⟨b'⟩)
  | yield {l b base ex} : ρ l = some (b, base, ex) → VR ρ (.func (.yield l) ⟨[]⟩ ⟨[]⟩) (.func (.yield b) ⟨[]⟩ ⟨[]⟩)
  | agg {l l'} : LR ρ l l' → VR ρ (.agg ⟨l⟩) (.agg ⟨l'⟩)
  | tuple {l l'} : LR ρ l l' → VR ρ (.tuple ⟨l⟩) (.tuple ⟨l'⟩)
inductive LR (ρ : Ren) : List Value → List Value → Prop
  | nil : LR ρ [] []
  | cons {v v' l l'} : VR ρ v v' → LR ρ l l' → LR ρ (v :: l) (v' :: l')
end

def Ren.le (ρ ρ' : Ren) : Prop := ∀ n x, ρ n = some x → ρ' n = some x
theorem Ren.le.refl (ρ : Ren) : ρ.le ρ := fun _ _ h => h
theorem Ren.le.trans {a b c : Ren} (h : a.le b) (h' : b.le c) : a.le c := fun n x e => h' n x (h n x e)

theorem AddrR.mono {ρ ρ' : Ren} (h : ρ.le ρ') {a a' : Addr} (x : AddrR ρ a a') : AddrR ρ' a a' := by
  obtain ⟨n, off, b, base, ex, e, r⟩ := x
  exact ⟨n, off, b, base, ex, h _ _ e, r⟩

mutual
theorem VR.mono {ρ ρ' : Ren} (h : ρ.le ρ') {v v' : Value} : VR ρ v v' → VR ρ' v v'
  | .flat e => .flat e
  | .ptr a => .ptr (a.mono h)
  | .sliceW a c => .sliceW (a.mono h) c
  | .sliceL e => .sliceL (h _ _ e)
  | .blind => .blind
  | .map e => .map (h _ _ e)
  | .func a b => .func (LR.mono h a) (LR.mono h b)
  | .yield e => .yield (h _ _ e)
  | .agg l => .agg (LR.mono h l)
  | .tuple l => .tuple (LR.mono h l)
theorem LR.mono {ρ ρ' : Ren} (h : ρ.le ρ') {l l' : List Value} : LR ρ l l' → LR ρ' l l'
  | .nil => .nil
  | .cons a b => .cons (VR.mono h a) (LR.mono h b)
end

section lists
variable {ρ : Ren}
theorem LR.length {l l' : List Value} (h : LR ρ l l') : l.length = l'.length := by
  induction l generalizing l' with
  | nil => cases h; rfl
  | cons v l ih => cases h with | cons a b => simp [ih b]
theorem LR.append {a a' b b' : List Value} (h : LR ρ a a') (h' : LR ρ b b') : LR ρ (a ++ b) (a' ++ b') := by
  induction a generalizing a' with
  | nil => cases h; exact h'
  | cons v l ih => cases h with | cons x y => exact .cons x (ih y)
theorem LR.get {l l' : List Value} (h : LR ρ l l') (i : Nat) (v : Value) (hi : l[i]? = some v) : ∃ v', l'[i]? = some v' ∧ VR ρ v v' := by
  induction l generalizing l' i with
  | nil => simp at hi
  | cons u l ih =>
    cases h with
    | cons x y =>
      cases i with
      | zero => simp at hi; subst hi; exact ⟨_, by simp, x⟩
      | succ i => simpa using ih y i (by simpa using hi)
theorem allFlat_LR : ∀ {l : List Value}, allFlat l = true → LR ρ l l
  | [], _ => .nil
  | v :: l, h => by
    simp only [allFlat] at h
    cases hv : flat v with
    | true => rw [hv] at h; exact .cons (.flat hv) (allFlat_LR h)
    | false => rw [hv] at h; cases h
theorem still_VR {v : Value} (h : still v = true) : VR ρ v v := by
  cases v with
  | agg a => obtain ⟨l⟩ := a; exact .agg (allFlat_LR h)
  | tuple a => obtain ⟨l⟩ := a; exact .tuple (allFlat_LR h)
  | _ => exact .flat h
theorem LR.repeat {z z' : List Value} (h : LR ρ z z') : ∀ n, LR ρ (repeatL z n) (repeatL z' n)
  | 0 => .nil
  | n + 1 => h.append (LR.repeat h n)
/-- what is one cell stays one -/
theorem VR.one {v v' : Value} (h : VR ρ v v') : oneB v = v'.oneCell' := by
  cases h with
  | flat e => cases v <;> first | rfl | (simp [AE.flat] at e)
  | _ => rfl
theorem allOne_LR {l l' : List Value} (h : LR ρ l l') (ho : allOne l = true) : ∀ v ∈ l', v.oneCell' = true := by
  induction l generalizing l' with
  | nil => cases h; intro v hv; cases hv
  | cons u l ih =>
    cases h with
    | cons x y =>
      simp only [allOne] at ho
      cases hu : oneB u with
      | false => rw [hu] at ho; cases ho
      | true =>
        rw [hu] at ho
        intro v hv
        rcases List.mem_cons.1 hv with rfl | hv
        · rw [← x.one]; exact hu
        · exact ih y ho v hv
/-- a value's cells -/
theorem VR.cells {v v' : Value} (h : VR ρ v v') : LR ρ v.cells.toList v'.cells.toList := by
  cases h with
  | agg l => exact l
  | flat e => cases v <;> first | (simp [AE.flat] at e; done) | exact .cons (.flat e) .nil
  | ptr a => exact .cons (.ptr a) .nil
  | sliceW a c => exact .cons (.sliceW a c) .nil
  | sliceL a => exact .cons (.sliceL a) .nil
  | blind => exact .cons .blind .nil
  | map a => exact .cons (.map a) .nil
  | func a b => exact .cons (.func a b) .nil
  | yield a => exact .cons (.yield a) .nil
  | tuple a => exact .cons (.tuple a) .nil
end lists

/-- a frame's temporaries -/
def TR (ρ : Ren) (t : Tr Value) (n : Nat) (a : Array Value) : Prop :=
  a.size = n ∧ ∀ i v, t.get i = some v → ∃ v', a[i]? = some v' ∧ VR ρ v v'

inductive DR (ρ : Ren) : Deferred → Deferred → Prop
  | fn {f c c' a a'} : LR ρ c c' → LR ρ a a' → DR ρ ⟨.fn (.func f) ⟨c⟩, ⟨a⟩⟩ ⟨.fn (.func f) ⟨c'⟩, ⟨a'⟩⟩
  | collected {r b base ex} : ρ r = some (b, base, ex) → DR ρ ⟨.collected r, #[]⟩ ⟨.collected b, #[]⟩
inductive DsR (ρ : Ren) : List Deferred → List Deferred → Prop
  | nil : DsR ρ [] []
  | cons {d d' l l'} : DR ρ d d' → DsR ρ l l' → DsR ρ (d :: l) (d' :: l')
inductive ER (ρ : Ren) : List MapEntry → List MapEntry → Prop
  | nil : ER ρ [] []
  | cons {k k' v v' : Value} {b : Nat} {l l'} : VR ρ k k' → VR ρ v v' → ER ρ l l' → ER ρ (⟨k, v, b⟩ :: l) (⟨k', v', b⟩ :: l')

theorem TR.mono {ρ ρ' : Ren} (h : ρ.le ρ') {t n a} (x : TR ρ t n a) : TR ρ' t n a :=
  ⟨x.1, fun i v e => let ⟨v', e', r⟩ := x.2 i v e; ⟨v', e', r.mono h⟩⟩
theorem DR.mono {ρ ρ' : Ren} (h : ρ.le ρ') {d d'} (x : DR ρ d d') : DR ρ' d d' := by
  cases x with
  | fn a b => exact .fn (a.mono h) (b.mono h)
  | collected e => exact .collected (h _ _ e)
theorem DsR.mono {ρ ρ' : Ren} (h : ρ.le ρ') {d d'} (x : DsR ρ d d') : DsR ρ' d d' := by
  induction x with
  | nil => exact .nil
  | cons a _ ih => exact .cons (a.mono h) ih
theorem DsR.append {ρ : Ren} {a a' b b'} (h : DsR ρ a a') (h' : DsR ρ b b') : DsR ρ (a ++ b) (a' ++ b') := by
  induction h with
  | nil => exact h'
  | cons x _ ih => exact .cons x ih
theorem ER.mono {ρ ρ' : Ren} (h : ρ.le ρ') {d d'} (x : ER ρ d d') : ER ρ' d d' := by
  induction x with
  | nil => exact .nil
  | cons a b _ ih => exact .cons (a.mono h) (b.mono h) ih

inductive OR (P : Program) (ρ : Ren) (base ex : Nat) : AObj → Obj → Prop
  | cells {c n elem room cs} : base + n ≤ cs.size → (room = .loose → base + n + ex * P.cellsOf elem ≤ cs.size) →
      (∀ i v, c.get i = some v → i < n → ∃ v', cs[base + i]? = some v' ∧ VR ρ v v') → OR P ρ base ex (.cells c n elem room) (.cells cs elem (0, 0))
  | map {es es' clock} : ER ρ es es' → OR P ρ base ex (.map es clock) (.map ⟨es'⟩ clock)
  | iterN {since seen st} : base = 0 → OR P ρ base ex (.mapIter none since seen st) (.mapIter none since ⟨seen⟩ st)
  | iterS {m b bb ee since seen st} : base = 0 → ρ m = some (b, bb, ee) → OR P ρ base ex (.mapIter (some m) since seen st) (.mapIter (some b) since ⟨seen⟩ st)
  | loop {st p fn t n a ps as bd d b bb ee} : TR ρ t n a → ρ d = some (b, bb, ee) →
      OR P ρ base ex (.loop st p fn t n ps as bd d) (.loop { state := st, pending := p, fn := fn, tmps := a, params := ⟨ps⟩, assign := as, body := bd, defers := b })
  | deferN : OR P ρ base ex (.deferred none) (.deferred none)
  | deferS {ds ds'} : DsR ρ ds ds' → OR P ρ base ex (.deferred (some ds)) (.deferred (some ds'))
  | row {c n elem cs z} : base + n ≤ cs.size → (∀ i v, c.get i = some v → i < n → ∃ v', cs[base + i]? = some v' ∧ VR ρ v v') → OR P ρ base ex (.row c n elem) (.cells cs elem z)

theorem OR.mono {P : Program} {ρ ρ' : Ren} (h : ρ.le ρ') {base ex o o'} (x : OR P ρ base ex o o') : OR P ρ' base ex o o' := by
  cases x with
  | cells a b c => exact .cells a b fun i v e hi => let ⟨v', e', r⟩ := c i v e hi; ⟨v', e', r.mono h⟩
  | map e => exact .map (e.mono h)
  | iterN b => exact .iterN b
  | iterS b e => exact .iterS b (h _ _ e)
  | loop a b => exact .loop (a.mono h) (h _ _ b)
  | deferN => exact .deferN
  | deferS a => exact .deferS (a.mono h)
  | row a c => exact .row a fun i v e hi => let ⟨v', e', r⟩ := c i v e hi; ⟨v', e', r.mono h⟩

def AObj.lo (base : Nat) : AObj → Nat
  | .cells _ _ _ _ => base
  | .row _ _ _ => base
  | _ => 0
def AObj.hi (P : Program) (base ex : Nat) : AObj → Nat
  | .cells _ n e .loose => base + n + ex * P.cellsOf e
  | .cells _ n _ _ => base + n
  | .row _ _ _ => base
  | _ => base + 1
/-- rows that are only read -/
def AObj.isRead : AObj → Bool
  | .row _ _ _ => true
  | _ => false

/-- which names are free: those of Z below lo, and from the next one on -/
structure Free where
  Z : Nat → Prop
  lo : Nat
  hi : Nat
  keep : Nat → Option Obj

structure Rep (P : Program) (q : Free) (ρ : Ren) (s : S) (w : World) : Prop where
  live : ∀ n o, s.heap.get n = some o → ∃ b base ex obj, ρ n = some (b, base, ex) ∧ w.heap[b]? = some obj ∧ OR P ρ base ex o obj
  apart : ∀ n m o o' b base ex base' ex', n ≠ m → s.heap.get n = some o → s.heap.get m = some o' → ρ n = some (b, base, ex) → ρ m = some (b, base', ex') →
    ∀ i, o.lo base ≤ i → i < o.hi P base ex → o'.lo base' ≤ i → i < o'.hi P base' ex' → False
  from_ : q.lo ≤ s.next
  room : ∀ n, s.next ≤ n → n < q.hi → q.Z n
  fresh : ∀ n, q.Z n → (n < q.lo ∨ s.next ≤ n) → ρ n = none
  blk : ∀ n b base ex, ρ n = some (b, base, ex) → b < w.heap.size
  kept : ∀ b o, q.keep b = some o → w.heap[b]? = some o
  safe : ∀ n o b base ex o', s.heap.get n = some o → ρ n = some (b, base, ex) → q.keep b = some o' → o.isRead = true
  rows : ∀ n o b base ex, s.heap.get n = some o → ρ n = some (b, base, ex) → o.isRead = true → ∃ o', q.keep b = some o'

/-- but for its memory the world is as it was -/
def Still (w w' : World) : Prop := w'.os = w.os ∧ w'.tape = w.tape ∧ w'.output = w.output
theorem Still.refl (w : World) : Still w w := ⟨rfl, rfl, rfl⟩
theorem Still.trans {w w1 w2 : World} (h : Still w w1) (h' : Still w1 w2) : Still w w2 := ⟨h'.1.trans h.1, h'.2.1.trans h.2.1, h'.2.2.trans h.2.2⟩

/-- what may have become of the world -/
structure Evo (ρ : Ren) (w : World) (ρ' : Ren) (w' : World) : Prop where
  sub : ρ.le ρ'
  frame : ∀ b, b < w.heap.size → (∀ n base ex, ρ n ≠ some (b, base, ex)) → w'.heap[b]? = w.heap[b]?
  size : w.heap.size ≤ w'.heap.size
  new : ∀ n b base ex, ρ' n = some (b, base, ex) → b < w.heap.size → ∃ m base' ex', ρ m = some (b, base', ex')
  rest : Still w w'

theorem Evo.refl (ρ : Ren) (w : World) : Evo ρ w ρ w := ⟨Ren.le.refl ρ, fun _ _ _ => rfl, Nat.le_refl _, fun n b base ex h _ => ⟨n, base, ex, h⟩, Still.refl w⟩
theorem Evo.trans {ρ ρ1 ρ2 : Ren} {w w1 w2 : World} (h : Evo ρ w ρ1 w1) (h' : Evo ρ1 w1 ρ2 w2) : Evo ρ w ρ2 w2 where
  sub := h.sub.trans h'.sub
  frame b hb hn := by
    rw [h'.frame b (Nat.lt_of_lt_of_le hb h.size) ?_, h.frame b hb hn]
    intro n base ex e
    obtain ⟨m, x, y, e'⟩ := h.new n b base ex e hb
    exact hn m x y e'
  size := Nat.le_trans h.size h'.size
  rest := h.rest.trans h'.rest
  new n b base ex e hb := by
    obtain ⟨m, x, y, e'⟩ := h'.new n b base ex e (Nat.lt_of_lt_of_le hb h.size)
    exact h.new m b x y e' hb

theorem Rep.next_free {P : Program} {q : Free} {ρ : Ren} {s : S} {w : World} (h : Rep P q ρ s w) (hl : s.next < q.hi) : ρ s.next = none :=
  h.fresh _ (h.room _ (Nat.le_refl _) hl) (.inr (Nat.le_refl _))
theorem Rep.of_eq {P : Program} {q : Free} {ρ : Ren} {s s1 : S} {w : World} (h : Rep P q ρ s w) (hh : ∀ n, s1.heap.get n = s.heap.get n) (hn : s1.next = s.next) : Rep P q ρ s1 w where
  live n o e := h.live n o (by rw [← hh]; exact e)
  apart n m o o' b base ex base' ex' hne e e' := h.apart n m o o' b base ex base' ex' hne (by rw [← hh]; exact e) (by rw [← hh]; exact e')
  from_ := by rw [hn]; exact h.from_
  room n a b := h.room n (by rw [← hn]; exact a) b
  fresh n a b := h.fresh n a (by rw [← hn]; exact b)
  blk n b base ex e := h.blk n b base ex e
  kept := h.kept
  safe n o b base ex o' e := h.safe n o b base ex o' (by rw [← hh]; exact e)
  rows n o b base ex e := h.rows n o b base ex (by rw [← hh]; exact e)

/-- a live name's block turns -/
theorem Rep.turn {P : Program} {q : Free} {ρ : Ren} {s s1 : S} {w w1 : World} (h : Rep P q ρ s w) {n b base ex : Nat} {o o1 : AObj} {obj1 : Obj}
    (hn : s.heap.get n = some o) (hρ : ρ n = some (b, base, ex)) (hs : ∀ m, s1.heap.get m = if m = n then some o1 else s.heap.get m) (hnext : s1.next = s.next)
    (hb : w1.heap[b]? = some obj1) (ho : ∀ c, c ≠ b → w1.heap[c]? = w.heap[c]?) (hsz : w1.heap.size = w.heap.size)
    (hor : OR P ρ base ex o1 obj1) (hlo : o1.lo base = o.lo base) (hhi : o1.hi P base ex ≤ o.hi P base ex)
    (hsh : ∀ m o' base' ex' obj, m ≠ n → s.heap.get m = some o' → o'.isRead = false → ρ m = some (b, base', ex') → w.heap[b]? = some obj → OR P ρ base' ex' o' obj → OR P ρ base' ex' o' obj1)
    (hst : Still w w1 := by exact ⟨rfl, rfl, rfl⟩) (hfo : o.isRead = false := by rfl) (hf1 : o1.isRead = false := by rfl) :
    Rep P q ρ s1 w1 ∧ Evo ρ w ρ w1 := by
  have hkb : ∀ z, q.keep b ≠ some z := fun z hz => by
    have := h.safe n o b base ex z hn hρ hz
    rw [hfo] at this; cases this
  have hnr : ∀ m o' base' ex', s.heap.get m = some o' → ρ m = some (b, base', ex') → o'.isRead = false := fun m o' base' ex' e1 e2 => by
    cases hr : o'.isRead with
    | false => rfl
    | true => obtain ⟨z, hz⟩ := h.rows m o' b base' ex' e1 e2 hr; exact absurd hz (hkb z)
  refine ⟨⟨?_, ?_, by rw [hnext]; exact h.from_, fun n a b => h.room n (by rw [← hnext]; exact a) b, fun n a b => h.fresh n a (by rw [← hnext]; exact b), ?_, ?_, ?_, ?_⟩, ⟨Ren.le.refl ρ, ?_, by omega, fun m c x y e _ => ⟨m, x, y, e⟩, hst⟩⟩
  · intro m om e
    rw [hs] at e
    by_cases hm : m = n
    · subst hm
      rw [if_pos rfl] at e
      cases e
      exact ⟨b, base, ex, obj1, hρ, hb, hor⟩
    · rw [if_neg hm] at e
      obtain ⟨c, x, y, obj, e1, e2, e3⟩ := h.live m om e
      by_cases hc : c = b
      · subst hc
        exact ⟨c, x, y, obj1, e1, hb, hsh m om x y obj hm e (hnr m om x y e e1) e1 e2 e3⟩
      · exact ⟨c, x, y, obj, e1, by rw [ho c hc]; exact e2, e3⟩
  · intro m k om ok c x y x' y' hne em ek rm rk
    rw [hs] at em ek
    by_cases hm : m = n
    · by_cases hk : k = n
      · exact absurd (hm.trans hk.symm) hne
      · subst hm
        rw [if_pos rfl] at em; rw [if_neg hk] at ek
        cases em
        rw [hρ] at rm
        cases rm
        intro i h1 h2 h3 h4
        exact h.apart m k o ok b base ex x' y' hne hn ek hρ rk i (by rw [← hlo]; exact h1) (Nat.lt_of_lt_of_le h2 hhi) h3 h4
    · rw [if_neg hm] at em
      by_cases hk : k = n
      · subst hk
        rw [if_pos rfl] at ek
        cases ek
        rw [hρ] at rk
        cases rk
        intro i h1 h2 h3 h4
        exact h.apart m k om o b x y base ex hne em hn rm hρ i h1 h2 (by rw [← hlo]; exact h3) (Nat.lt_of_lt_of_le h4 hhi)
      · rw [if_neg hk] at ek
        exact h.apart m k om ok c x y x' y' hne em ek rm rk
  · intro m c x y e
    rw [hsz]
    exact h.blk m c x y e
  · intro c z hz
    rw [ho c (fun e => hkb z (e ▸ hz))]
    exact h.kept c z hz
  · intro m om c x y z e1 e2 e3
    rw [hs] at e1
    by_cases hm : m = n
    · subst hm
      rw [hρ] at e2
      cases e2
      exact absurd e3 (hkb z)
    · rw [if_neg hm] at e1
      exact h.safe m om c x y z e1 e2 e3
  · intro m om c x y e1 e2 e3
    rw [hs] at e1
    by_cases hm : m = n
    · rw [if_pos hm] at e1
      cases e1
      rw [hf1] at e3; cases e3
    · rw [if_neg hm] at e1
      exact h.rows m om c x y e1 e2 e3
  · intro c hc hno
    by_cases e : c = b
    · subst e; exact absurd hρ (hno n base ex)
    · exact ho c e

/-- one more name over one more block -/
theorem Rep.grow {P : Program} {q : Free} {ρ : Ren} {s s1 : S} {w w1 : World} (h : Rep P q ρ s w) {o1 : AObj} {obj1 : Obj} (ex : Nat) (hl : s.next < q.hi)
    (hs : ∀ m, s1.heap.get m = if m = s.next then some o1 else s.heap.get m) (hnext : s1.next = s.next + 1)
    (hw : w1.heap = w.heap.push obj1) (ρ' : Ren) (hρ' : ∀ m, ρ' m = if m = s.next then some (w.heap.size, 0, ex) else ρ m)
    (hor : OR P ρ' 0 ex o1 obj1) (hst : Still w w1 := by exact ⟨rfl, rfl, rfl⟩) (hf1 : o1.isRead = false := by rfl) : Rep P q ρ' s1 w1 ∧ Evo ρ w ρ' w1 := by
  have hle : ρ.le ρ' := by
    intro m x e
    rw [hρ', if_neg]
    · exact e
    · intro hm; subst hm
      rw [h.next_free hl] at e; cases e
  have hold : ∀ c, c < w.heap.size → w1.heap[c]? = w.heap[c]? := by
    intro c hc; rw [hw, Array.getElem?_push, if_neg (by omega)]
  refine ⟨⟨?_, ?_, by rw [hnext]; exact Nat.le_succ_of_le h.from_, fun n a b => h.room n (by rw [hnext] at a; omega) b, ?_, ?_, ?_, ?_, ?_⟩, ⟨hle, fun c hc _ => hold c hc, by rw [hw]; simp, ?_, hst⟩⟩
  · intro m om e
    rw [hs] at e
    by_cases hm : m = s.next
    · rw [if_pos hm] at e; cases e
      exact ⟨_, 0, ex, obj1, by rw [hρ', if_pos hm], by rw [hw]; simp, hor⟩
    · rw [if_neg hm] at e
      obtain ⟨c, x, y, obj, e1, e2, e3⟩ := h.live m om e
      exact ⟨c, x, y, obj, hle _ _ e1, by rw [hold c (h.blk _ _ _ _ e1)]; exact e2, e3.mono hle⟩
  · intro m k om ok c x y x' y' hne em ek rm rk
    rw [hs] at em ek
    rw [hρ'] at rm rk
    by_cases hm : m = s.next
    · by_cases hk : k = s.next
      · exact absurd (hm.trans hk.symm) hne
      · rw [if_pos hm] at rm; rw [if_neg hk] at rk
        cases rm
        exact absurd (h.blk _ _ _ _ rk) (Nat.lt_irrefl _)
    · rw [if_neg hm] at rm em
      by_cases hk : k = s.next
      · rw [if_pos hk] at rk
        cases rk
        exact absurd (h.blk _ _ _ _ rm) (Nat.lt_irrefl _)
      · rw [if_neg hk] at rk ek
        exact h.apart m k om ok c x y x' y' hne em ek rm rk
  · intro m hz hm
    rw [hnext] at hm
    rw [hρ', if_neg]
    · exact h.fresh m hz (by omega)
    · have := h.from_
      omega
  · intro m c x y e
    rw [hρ'] at e
    rw [hw]
    by_cases hm : m = s.next
    · rw [if_pos hm] at e; cases e; simp
    · rw [if_neg hm] at e
      have := h.blk _ _ _ _ e
      simp; omega
  · intro c z hz
    have h1 := h.kept c z hz
    rw [hold c (Array.getElem?_eq_some_iff.1 h1).1]
    exact h1
  · intro m om c x y z e1 e2 e3
    rw [hs] at e1
    rw [hρ'] at e2
    by_cases hm : m = s.next
    · rw [if_pos hm] at e2
      cases e2
      have h1 := h.kept _ z e3
      exact absurd (Array.getElem?_eq_some_iff.1 h1).1 (Nat.lt_irrefl _)
    · rw [if_neg hm] at e1 e2
      exact h.safe m om c x y z e1 e2 e3
  · intro m om c x y e1 e2 e3
    rw [hs] at e1
    rw [hρ'] at e2
    by_cases hm : m = s.next
    · rw [if_pos hm] at e1
      cases e1
      rw [hf1] at e3; cases e3
    · rw [if_neg hm] at e1 e2
      exact h.rows m om c x y e1 e2 e3
  · intro m c x y e hc
    rw [hρ'] at e
    by_cases hm : m = s.next
    · rw [if_pos hm] at e; cases e; exact absurd hc (Nat.lt_irrefl _)
    · rw [if_neg hm] at e; exact ⟨m, x, y, e⟩

/-- a live name's row is told anew, and one more name lies over its block -/
theorem Rep.split {P : Program} {q : Free} {ρ : Ren} {s s1 : S} {w w1 : World} (h : Rep P q ρ s w) {n b base ex base2 ex2 : Nat} {o o2 : AObj} {o1 : Option AObj} {obj1 : Obj} (hl : s.next < q.hi)
    (hn : s.heap.get n = some o) (hρ : ρ n = some (b, base, ex)) (hs : ∀ m, s1.heap.get m = if m = s.next then some o2 else if m = n then o1 else s.heap.get m) (hnext : s1.next = s.next + 1)
    (hb : w1.heap[b]? = some obj1) (ho : ∀ c, c ≠ b → w1.heap[c]? = w.heap[c]?) (hsz : w1.heap.size = w.heap.size)
    (ρ' : Ren) (hρ' : ∀ m, ρ' m = if m = s.next then some (b, base2, ex2) else ρ m)
    (hor2 : OR P ρ' base2 ex2 o2 obj1)
    (hor1 : ∀ z, o1 = some z → OR P ρ base ex z obj1 ∧ z.lo base = o.lo base ∧ z.hi P base ex ≤ o.hi P base ex ∧ ∀ i, z.lo base ≤ i → i < z.hi P base ex → o2.lo base2 ≤ i → i < o2.hi P base2 ex2 → False)
    (hin : ∀ i, o2.lo base2 ≤ i → i < o2.hi P base2 ex2 → o.lo base ≤ i ∧ i < o.hi P base ex)
    (hsh : ∀ m o' base' ex' obj, m ≠ n → s.heap.get m = some o' → o'.isRead = false → ρ m = some (b, base', ex') → w.heap[b]? = some obj → OR P ρ base' ex' o' obj → OR P ρ base' ex' o' obj1)
    (hst : Still w w1 := by exact ⟨rfl, rfl, rfl⟩) (hfo : o.isRead = false := by rfl) (hf2 : o2.isRead = false := by rfl) (hf1 : ∀ z, o1 = some z → z.isRead = false := by intro z hz; cases hz <;> rfl) :
    Rep P q ρ' s1 w1 ∧ Evo ρ w ρ' w1 := by
  have hkb : ∀ z, q.keep b ≠ some z := fun z hz => by
    have := h.safe n o b base ex z hn hρ hz
    rw [hfo] at this; cases this
  have hnr : ∀ m o' base' ex', s.heap.get m = some o' → ρ m = some (b, base', ex') → o'.isRead = false := fun m o' base' ex' e1 e2 => by
    cases hr : o'.isRead with
    | false => rfl
    | true => obtain ⟨z, hz⟩ := h.rows m o' b base' ex' e1 e2 hr; exact absurd hz (hkb z)
  have hle : ρ.le ρ' := by
    intro m x e
    rw [hρ', if_neg]
    · exact e
    · intro hm; subst hm
      rw [h.next_free hl] at e; cases e
  have hnn : n ≠ s.next := by
    intro hm; subst hm
    rw [h.next_free hl] at hρ; cases hρ
  refine ⟨⟨?_, ?_, by rw [hnext]; exact Nat.le_succ_of_le h.from_, fun n a b => h.room n (by rw [hnext] at a; omega) b, ?_, ?_, ?_, ?_, ?_⟩, ⟨hle, ?_, by omega, ?_, hst⟩⟩
  · intro m om e
    rw [hs] at e
    by_cases hm : m = s.next
    · rw [if_pos hm] at e; cases e
      exact ⟨b, base2, ex2, obj1, by rw [hρ', if_pos hm], hb, hor2⟩
    · rw [if_neg hm] at e
      by_cases hm2 : m = n
      · subst hm2
        rw [if_pos rfl] at e
        exact ⟨b, base, ex, obj1, hle _ _ hρ, hb, (hor1 _ e).1.mono hle⟩
      · rw [if_neg hm2] at e
        obtain ⟨c, x, y, obj, e1, e2, e3⟩ := h.live m om e
        by_cases hc : c = b
        · subst hc
          exact ⟨c, x, y, obj1, hle _ _ e1, hb, (hsh m om x y obj hm2 e (hnr m om x y e e1) e1 e2 e3).mono hle⟩
        · exact ⟨c, x, y, obj, hle _ _ e1, by rw [ho c hc]; exact e2, e3.mono hle⟩
  · have key : ∀ k ok x y x' y', k ≠ s.next → s1.heap.get k = some ok → ρ' k = some (b, x', y') → ρ' s.next = some (b, x, y) → ∀ i, o2.lo x ≤ i → i < o2.hi P x y → ok.lo x' ≤ i → i < ok.hi P x' y' → False := by
      intro k ok x y x' y' hk ek rk rn i h1 h2 h3 h4
      rw [hρ', if_pos rfl] at rn
      cases rn
      rw [hρ', if_neg hk] at rk
      rw [hs, if_neg hk] at ek
      by_cases hkn : k = n
      · subst hkn
        rw [if_pos rfl] at ek
        rw [hρ] at rk
        cases rk
        exact (hor1 _ ek).2.2.2 i h3 h4 h1 h2
      · rw [if_neg hkn] at ek
        obtain ⟨g1, g2⟩ := hin i h1 h2
        exact h.apart k n ok o b x' y' base ex hkn ek hn rk hρ i h3 h4 g1 g2
    intro m k om ok c x y x' y' hne em ek rm rk i h1 h2 h3 h4
    by_cases hm : m = s.next
    · have rm0 := rm
      rw [hρ', if_pos hm] at rm
      have hc : c = b := by cases rm; rfl
      subst hc
      have : om = o2 := by rw [hs, if_pos hm] at em; cases em; rfl
      subst this
      exact key k ok x y x' y' (fun hk => hne (hm.trans hk.symm)) ek rk (hm ▸ rm0) i h1 h2 h3 h4
    · by_cases hk : k = s.next
      · have rk0 := rk
        rw [hρ', if_pos hk] at rk
        have hc : c = b := by cases rk; rfl
        subst hc
        have : ok = o2 := by rw [hs, if_pos hk] at ek; cases ek; rfl
        subst this
        exact key m om x' y' x y hm em rm (hk ▸ rk0) i h3 h4 h1 h2
      · rw [hρ', if_neg hm] at rm
        rw [hρ', if_neg hk] at rk
        rw [hs, if_neg hm] at em
        rw [hs, if_neg hk] at ek
        by_cases hmn : m = n
        · by_cases hkn : k = n
          · exact hne (hmn.trans hkn.symm)
          · subst hmn
            rw [if_pos rfl] at em; rw [if_neg hkn] at ek
            rw [hρ] at rm; cases rm
            obtain ⟨_, g1, g2, _⟩ := hor1 _ em
            exact h.apart m k o ok b base ex x' y' hne hn ek hρ rk i (by rw [← g1]; exact h1) (Nat.lt_of_lt_of_le h2 g2) h3 h4
        · rw [if_neg hmn] at em
          by_cases hkn : k = n
          · subst hkn
            rw [if_pos rfl] at ek
            rw [hρ] at rk; cases rk
            obtain ⟨_, g1, g2, _⟩ := hor1 _ ek
            exact h.apart m k om o b x y base ex hne em hn rm hρ i h1 h2 (by rw [← g1]; exact h3) (Nat.lt_of_lt_of_le h4 g2)
          · rw [if_neg hkn] at ek
            exact h.apart m k om ok c x y x' y' hne em ek rm rk i h1 h2 h3 h4
  · intro m hz hm
    rw [hnext] at hm
    rw [hρ', if_neg]
    · exact h.fresh m hz (by omega)
    · have := h.from_
      omega
  · intro m c x y e
    rw [hρ'] at e
    rw [hsz]
    by_cases hm : m = s.next
    · rw [if_pos hm] at e; cases e
      exact h.blk _ _ _ _ hρ
    · rw [if_neg hm] at e
      exact h.blk _ _ _ _ e
  · intro c z hz
    rw [ho c (fun e => hkb z (e ▸ hz))]
    exact h.kept c z hz
  · intro m om c x y z e1 e2 e3
    rw [hs] at e1
    rw [hρ'] at e2
    by_cases hm : m = s.next
    · rw [if_pos hm] at e2
      cases e2
      exact absurd e3 (hkb z)
    · rw [if_neg hm] at e1 e2
      by_cases hm2 : m = n
      · subst hm2
        rw [hρ] at e2
        cases e2
        exact absurd e3 (hkb z)
      · rw [if_neg hm2] at e1
        exact h.safe m om c x y z e1 e2 e3
  · intro m om c x y e1 e2 e3
    rw [hs] at e1
    rw [hρ'] at e2
    by_cases hm : m = s.next
    · rw [if_pos hm] at e1
      cases e1
      rw [hf2] at e3; cases e3
    · rw [if_neg hm] at e1 e2
      by_cases hm2 : m = n
      · rw [if_pos hm2] at e1
        rw [hf1 om e1] at e3; cases e3
      · rw [if_neg hm2] at e1
        exact h.rows m om c x y e1 e2 e3
  · intro c hc hno
    by_cases e : c = b
    · subst e; exact absurd hρ (hno n base ex)
    · exact ho c e
  · intro m c x y e _
    rw [hρ'] at e
    by_cases hm : m = s.next
    · rw [if_pos hm] at e; cases e; exact ⟨n, base, ex, hρ⟩
    · rw [if_neg hm] at e; exact ⟨m, x, y, e⟩
end Go.AE
