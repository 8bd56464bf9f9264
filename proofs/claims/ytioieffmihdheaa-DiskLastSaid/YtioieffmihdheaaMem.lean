/- Words for memory: blocks that are known whole, what a call may turn, bytes. No program is named here. -/
import Derived.Below
import Derived.Laws.OwnMore
import Derived.Laws.Rows
import Derived.Deep.Draws
import Derived.Deep.AppendLies
import Derived.Lib.Hide
namespace Go.Proofs.Ytioieffmihdheaa
open Go.RowKit
set_option linter.unusedVariables false
set_option linter.unusedSimpArgs false

/-- a byte's cell -/
def BV (x : UInt8) : Value := .int .u8 (x.toNat : Int)

theorem BV_one (x : UInt8) : (BV x).oneCell' = true := rfl
theorem BVs_one (l : List UInt8) : ∀ u ∈ l.map BV, u.oneCell' = true := by
  intro u hu
  obtain ⟨x, _, rfl⟩ := List.mem_map.1 hu
  rfl

/-- block g is just the cells cs, none frozen -/
def Blk (w : World) (g : Nat) (t : TypeId) (cs : Array Value) : Prop := w.heap[g]? = some (.cells cs t (0, 0))

section
variable {w w' : World} {g : Nat} {t : TypeId} {cs : Array Value}
theorem Blk.lt (h : Blk w g t cs) : g < w.heap.size := by
  rcases Nat.lt_or_ge g w.heap.size with hlt | hge
  · exact hlt
  · unfold Blk at h; rw [Array.getElem?_eq_none hge] at h; cases h
theorem Blk.cell (h : Blk w g t cs) (i : Nat) : w.cell? ⟨g, i, none⟩ = cs[i]? := cell_of_row w g i cs t (0, 0) h
theorem Blk.frozen (h : Blk w g t cs) (i : Nat) : w.frozen? ⟨g, i, none⟩ = false := by
  unfold Blk at h
  simp [World.frozen?, h]
theorem Blk.new (w : World) (t : TypeId) (cs : Array Value) : Blk (w.alloc (.cells cs t)) w.heap.size t cs := heap_alloc_new w _
theorem Blk.alloc (h : Blk w g t cs) (o : Obj) : Blk (w.alloc o) g t cs := (Below.heap_alloc w o g h.lt).trans h
theorem Blk.set_ (h : Blk w g t cs) (i : Nat) (u : Value) : Blk (w.setCell ⟨g, i, none⟩ u) g t (cs.setIfInBounds i u) := by
  unfold Blk at h ⊢
  simp [World.setCell, Array.getElem?_modify, h]
theorem Blk.far (h : Blk w g t cs) {p : Addr} (hp : g ≠ p.block) (u : Value) : Blk (w.setCell p u) g t cs := (Below.heap_setCell w p u g hp).trans h
theorem Blk.ne_ {g' : Nat} {t' : TypeId} {cs' : Array Value} (h : Blk w g t cs) (h' : Blk w g' t' cs') (hne : t ≠ t') : g ≠ g' := by
  rintro rfl
  unfold Blk at h h'
  rw [h] at h'
  injection h' with h'
  injection h' with _ ht
  exact hne ht
end

/-- outside the blocks M the world w' is as w was; new blocks may have come -/
structure Kp (M : List Nat) (w w' : World) : Prop where
  os : w'.os = w.os
  tape : w'.tape = w.tape
  output : w'.output = w.output
  size : w.heap.size ≤ w'.heap.size
  block : ∀ k, k < w.heap.size → k ∉ M → w'.heap[k]? = w.heap[k]?

section
variable {M M' : List Nat} {a w w' : World}
theorem Kp.refl (M : List Nat) (w : World) : Kp M w w := ⟨rfl, rfl, rfl, Nat.le_refl _, fun _ _ _ => rfl⟩
theorem Kp.trans' {b c : World} (h : Kp M a b) (k : Kp M' b c) (hM : ∀ x ∈ M', x ∈ M ∨ a.heap.size ≤ x) : Kp M a c :=
  ⟨k.os.trans h.os, k.tape.trans h.tape, k.output.trans h.output, Nat.le_trans h.size k.size, fun i hi hn =>
    (k.block i (Nat.lt_of_lt_of_le hi h.size) (fun hm => (hM i hm).elim hn (fun h => by omega))).trans (h.block i hi hn)⟩
theorem Kp.trans {b c : World} (h : Kp M a b) (k : Kp M b c) : Kp M a c := h.trans' k fun _ hx => .inl hx
theorem Kp.mono (h : Kp M a w) (hM : ∀ x ∈ M, x ∈ M') : Kp M' a w := ⟨h.os, h.tape, h.output, h.size, fun k hk hn => h.block k hk fun hm => hn (hM k hm)⟩
theorem Kp.of_below {B : Nat} (h : Below B w w') (hB : w.heap.size ≤ B) : Kp M w w' := ⟨h.os, h.tape, h.output, h.size, fun k hk _ => h.block k (by omega)⟩
theorem Kp.below {B : Nat} (h : Kp M a w) (hM : ∀ x ∈ M, B ≤ x) (hB : B ≤ a.heap.size) : Below B a w :=
  ⟨h.os, h.tape, h.output, h.size, fun k hk => h.block k (by omega) fun hm => by have := hM k hm; omega⟩
theorem Kp.drew (h : Kp M a w) : Kp M a w.drew := ⟨h.os, h.tape, h.output, h.size, h.block⟩
theorem Kp.drewN (h : Kp M a w) (n : Nat) : Kp M a (w.drewN n) := ⟨h.os, h.tape, h.output, h.size, h.block⟩
theorem Kp.alloc (h : Kp M a w) (o : Obj) : Kp M a (w.alloc o) :=
  h.trans ⟨rfl, rfl, rfl, by simp, fun k hk _ => Below.heap_alloc _ _ _ hk⟩
theorem Kp.setCell (h : Kp M a w) {p : Addr} (hp : p.block ∈ M ∨ a.heap.size ≤ p.block) (u : Value) : Kp M a (w.setCell p u) :=
  h.trans' (M' := [p.block]) ⟨rfl, rfl, rfl, by simp [World.setCell], fun k _ hk => Below.heap_setCell _ _ _ _ (by simpa using hk)⟩ (by simpa using hp)
theorem Kp.grown {row : Option Nat} (h : Kp M a w) (hg : w.grownBy w' row) (hr : ∀ k, row = some k → k ∈ M ∨ a.heap.size ≤ k) : Kp M a w' :=
  h.trans' (M' := row.toList) ⟨hg.os, hg.tape, hg.output, hg.size, fun k hk hn => hg.block k hk (fun e => hn (by simp [← e]))⟩ (by intro x hx; exact hr x (by simpa using hx))
theorem Kp.blk {g : Nat} {t : TypeId} {cs : Array Value} (h : Kp M w w') (hb : Blk w g t cs) (hg : g ∉ M) : Blk w' g t cs := (h.block g hb.lt hg).trans hb
theorem Kp.cell (h : Kp M w w') {p : Addr} (hp : p.block < w.heap.size) (hg : p.block ∉ M) : w'.cell? p = w.cell? p := World.cell?_of_block (h.block p.block hp hg)
theorem Kp.frozen (h : Kp M w w') {p : Addr} (hp : p.block < w.heap.size) (hg : p.block ∉ M) : w'.frozen? p = w.frozen? p := World.frozen?_of_block (h.block p.block hp hg)
theorem Kp.size_le (h : Kp M w w') : w.heap.size ≤ w'.heap.size := h.size
theorem Kp.owns {base : Nat} {e : TypeId} {size : Nat} {v : Value} {n : Nat} {xs : List Value} (h : Kp M w w') (ho : w.ownsRow base e size v n xs) (hv : ∀ g, v.ownBlock = some g → g ∉ M) : w'.ownsRow base e size v n xs := by
  refine ⟨ho.1, ?_⟩
  rcases ho.2 with hn | ⟨g, cap, cur, rfl, hb, hgg, rest⟩
  · exact .inl hn
  · refine .inr ⟨g, cap, cur, rfl, hb, ?_, rest⟩
    rw [h.block g (Array.getElem?_eq_some_iff.1 hgg).1 (hv g rfl)]
    exact hgg
end

theorem Below.blk {B : Nat} {w w' : World} {g : Nat} {t : TypeId} {cs : Array Value} (h : Below B w w') (hb : Blk w g t cs) (hg : g < B) : Blk w' g t cs := (h.block g hg).trans hb
theorem Below.owns {B : Nat} {w w' : World} {base : Nat} {e : TypeId} {size : Nat} {v : Value} {n : Nat} {xs : List Value} (h : Below B w w') (ho : w.ownsRow base e size v n xs) (hv : ∀ g, v.ownBlock = some g → g < B) : w'.ownsRow base e size v n xs := by
  refine ⟨ho.1, ?_⟩
  rcases ho.2 with hn | ⟨g, cap, cur, rfl, hb, hgg, rest⟩
  · exact .inl hn
  · refine .inr ⟨g, cap, cur, rfl, hb, ?_, rest⟩
    rw [h.block g (hv g rfl)]
    exact hgg

theorem owns_rebase {w : World} {base base' : Nat} {e : TypeId} {size : Nat} {v : Value} {n : Nat} {xs : List Value} (ho : w.ownsRow base e size v n xs) (hb : base' ≤ base) : w.ownsRow base' e size v n xs := by
  refine ⟨ho.1, ?_⟩
  rcases ho.2 with hn | ⟨g, cap, cur, h1, h2, h3⟩
  · exact .inl hn
  · exact .inr ⟨g, cap, cur, h1, by omega, h3⟩
theorem owns_blk_ne {w : World} {base : Nat} {e : TypeId} {size : Nat} {v : Value} {n : Nat} {xs : List Value} {g : Nat} {t : TypeId} {cs : Array Value} (h : w.ownsRow base e size v n xs) (hg : Blk w g t cs) (hne : e ≠ t) : v.ownBlock ≠ some g := by
  rcases h.2 with ⟨rfl, _⟩ | ⟨g', cap, cur, rfl, _, hh, _⟩
  · simp [Value.ownBlock]
  · intro he
    have : g' = g := by simpa [Value.ownBlock] using he
    subst this
    exact Blk.ne_ (t := e) hh hg hne rfl
theorem owns_owns_ne {w : World} {base : Nat} {e : TypeId} {size : Nat} {v : Value} {n : Nat} {xs : List Value} {base' : Nat} {e' : TypeId} {size' : Nat} {v' : Value} {n' : Nat} {xs' : List Value}
    (h : w.ownsRow base e size v n xs) (h' : w.ownsRow base' e' size' v' n' xs') (hne : e ≠ e') : ∀ g, v.ownBlock = some g → v'.ownBlock ≠ some g := by
  intro g hg
  rcases h.2 with ⟨rfl, _⟩ | ⟨g', cap, cur, rfl, _, hh, _⟩
  · simp [Value.ownBlock] at hg
  · have : g' = g := by simpa [Value.ownBlock] using hg
    subst this
    exact owns_blk_ne h' hh (Ne.symm hne)

/-- v is a slice of its own of the bytes l, not nil, its block below n0 -/
def Bts (e : TypeId) (n0 : Nat) (w : World) (v : Value) (l : List UInt8) : Prop :=
  w.ownsRow 0 e 1 v l.length (l.map BV) ∧ ∃ g, v.ownBlock = some g ∧ g < n0

section
variable {e : TypeId} {n0 n1 : Nat} {w w' : World} {v : Value} {l : List UInt8}
theorem Bts.form (h : Bts e n0 w v l) : ∃ g c, v = .slice (some ⟨g, 0, none⟩) l.length c ∧ g < n0 ∧ l.length ≤ c ∧ c ≤ maxLen ∧ ∀ j u, (l.map BV)[j]? = some u → w.cell? ((⟨g, 0, none⟩ : Addr).add j) = some u := by
  obtain ⟨ho, g, hg, hlt⟩ := h
  have hc := ho.cells hg
  rcases ho.2 with ⟨rfl, _⟩ | ⟨g', cap, cur, rfl, _, hh, hn, hcap, _⟩
  · simp [Value.ownBlock] at hg
  · have : g' = g := by simpa [Value.ownBlock] using hg
    subst this
    exact ⟨g', cap, rfl, hlt, hn, hcap, hc⟩
theorem Bts.more (h : Bts e n0 w v l) (hn : n0 ≤ n1) : Bts e n1 w v l := ⟨h.1, by obtain ⟨g, hg, hl⟩ := h.2; exact ⟨g, hg, by omega⟩⟩
theorem Bts.below (h : Bts e n0 w v l) (hb : Below n0 w w') : Bts e n0 w' v l :=
  ⟨Below.owns hb h.1 (fun g hg => by obtain ⟨g', hg', hl⟩ := h.2; have : g' = g := by rw [hg] at hg'; exact (Option.some.inj hg').symm
                                     omega), h.2⟩
theorem Bts.kp {M : List Nat} (h : Bts e n0 w v l) (hk : Kp M w w') (hM : ∀ g, v.ownBlock = some g → g ∉ M) : Bts e n0 w' v l := ⟨hk.owns h.1 hM, h.2⟩
end

theorem bcell {W w1 : World} (hb : Below W.heap.size W w1) : (∀ b o, b < W.heap.size → w1.cell? ⟨b, o, none⟩ = W.cell? ⟨b, o, none⟩) ∧ (∀ b o, b < W.heap.size → w1.frozen? ⟨b, o, none⟩ = W.frozen? ⟨b, o, none⟩) :=
  ⟨fun b o h => hb.cell (p := ⟨b, o, none⟩) h, fun b o h => hb.frozen (p := ⟨b, o, none⟩) h⟩

end Go.Proofs.Ytioieffmihdheaa
