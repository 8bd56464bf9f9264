/- Arguments of bytes and of asks, opened. -/
import Derived.Test.YtioieffmihdheaaDL
import Derived.Deep.Slices
import Derived.Deep.Fields
import Derived.ChangeSame
import Derived.OpenShut
import Derived.ProofKit
namespace Go.Proofs.Ytioieffmihdheaa
open Go.RowKit Go.ChangeShapes Go.WideShapes Go.Deep
set_option linter.unusedVariables false
set_option linter.unusedSimpArgs false

section
variable {H : Type} {enc : TypeId × Value → H} {P : Program} {w : World} {base : Nat} {spare : Nat → Bool} {held : Bool}
theorem open_slice_fields {t e : TypeId} {fs : Array Field} {fuel : Nat} {cs : List Value} {x : DataW H × List MemPlace} (ht : P.underlying t = some (.slice e)) (he : P.underlying e = some (.struct fs))
    (hone : oneCellFields P fs = true) (hC : P.cellsOf e = fs.size) (h : DataW.trod enc P w base spare held fuel t cs = some x) :
    (cs = [.slice none 0 0] ∧ x = (.nil, [])) ∨
    ∃ (a : Addr) (len cap : Nat), cs = [.slice (some a) len cap] ∧ base ≤ a.block ∧ len ≤ cap ∧ cap ≤ maxLen ∧
      ∀ i, i < len → ∃ (ys : List (DataW H × List MemPlace)) (n : Nat), ys.length = fs.size ∧
        ∀ (j : Nat) (f : Field), fs[j]? = some f → ∃ (v : Value) (y : DataW H × List MemPlace), w.cell? (a.add (i * fs.size + j)) = some v ∧ ys[j]? = some y ∧ DataW.trod enc P w base spare held n f.type [v] = some y := by
  rcases open_slice ht h with h0 | ⟨a, len, cap, m, n, D, Pl, hcs, hb, hl, hm, hmm, hx, hi⟩
  · exact .inl h0
  · have hlm : len ≤ m := by rw [hmm]; split <;> omega
    refine .inr ⟨a, len, cap, hcs, hb, hl, hm, fun i hil => ?_⟩
    obtain ⟨cs', hc, ht'⟩ := hi i (by omega)
    rw [hC] at hc
    obtain ⟨ys, n', hn', hy, hlen, hyl, hf⟩ := DataW.trod_struct he ht'
    obtain ⟨_, hcl, hat⟩ := World.cells?_some hc
    refine ⟨ys, n', hyl, fun j f hj => ?_⟩
    obtain ⟨ho, hk⟩ := hone_of hone j f hj
    have hjl : j < fs.size := (Array.getElem?_eq_some_iff.1 hj).1
    have hcell := hat j hjl
    have hv : cs'[j]? = some (cs'[j]'(by omega)) := List.getElem?_eq_getElem (by omega)
    have h1 := hf j f hj
    rw [ho, hk] at h1
    have hone' : (cs'.drop j).take 1 = [cs'[j]'(by omega)] := by
      rw [List.drop_eq_getElem_cons (by omega)]
      rfl
    rw [hone'] at h1
    have hys : ys[j]? = some (ys[j]'(by omega)) := List.getElem?_eq_getElem (by omega)
    refine ⟨_, _, ?_, hys, h1.trans hys⟩
    rw [← Go.Deep.add_add, hcell, hv]
end

/-- bytes that came in -/
def BytesIn (w : World) (A : Option Addr) (l : List UInt8) : Prop := SameAt w l.length A l ∧ l.length ≤ 9223372036854775807 ∧ ∀ ad, A = some ad → 0 < l.length → ad.block < w.heap.size

theorem byte_of_wf {n : Int} (h : (Lit.int .u8 n).wf = true) : ∃ x : UInt8, n = (x.toNat : Int) := by
  have := bounds_u8 h
  refine ⟨UInt8.ofNat n.toNat, ?_⟩
  rw [UInt8.toNat_ofNat']
  omega

theorem bytes_of_ints (zs : List Int) (h : ∀ n ∈ zs, (Lit.int .u8 n).wf = true) : ∃ l : List UInt8, zs = l.map fun x => (x.toNat : Int) := by
  induction zs with
  | nil => exact ⟨[], rfl⟩
  | cons z zs ih =>
    obtain ⟨l, hl⟩ := ih (fun n hn => h n (List.mem_cons_of_mem _ hn))
    obtain ⟨x, hx⟩ := byte_of_wf (h z (List.mem_cons_self))
    exact ⟨x :: l, by rw [hl, hx]; rfl⟩

theorem addr_cell {w : World} {a : Addr} {n : Nat} {v : Value} (h : w.cell? (a.add n) = some v) : a = ⟨a.block, a.off, none⟩ ∨ n ≠ 0 := by
  by_cases hn : n = 0
  · subst hn
    have : a.add 0 = a := by unfold Addr.add; rw [if_pos rfl]
    rw [this] at h
    have hs := World.cell?_spot h
    left
    cases a
    simp only at hs
    rw [hs]
  · exact .inr hn

theorem open_bytes {H : Type} {enc : TypeId × Value → H} {w : World} {base : Nat} {spare : Nat → Bool} {held : Bool} {fuel : Nat} {A : Option Addr} {n c : Nat} {x : DataW H × List MemPlace}
    (h : DataW.trod enc Try.prog w base spare held fuel 34 [.slice A n c] = some x) : ∃ l : List UInt8, n = l.length ∧ BytesIn w A l ∧ (A = none → c = 0 ∧ l = []) := by
  rcases open_ints Try.underlying34 Try.underlying5 (by kernel_rfl) h with ⟨h1, _⟩ | ⟨a, len, cap, zs, h1, hb, hl, hm, hz, _, hcell, hwf⟩
  · injection h1 with h1
    injection h1 with h1 h2 h3
    subst h1 h2 h3
    exact ⟨[], rfl, ⟨⟨rfl, by simp⟩, by simp, by simp⟩, fun _ => ⟨rfl, rfl⟩⟩
  · injection h1 with h1
    injection h1 with h1 h2 h3
    subst h1 h2 h3
    obtain ⟨l, rfl⟩ := bytes_of_ints zs hwf
    have hll : n ≤ l.length := by
      have : l.length = (if spare a.block then c else n) := by simpa using hz
      rw [this]; split <;> omega
    have hlen : (l.take n).length = n := by rw [List.length_take]; omega
    have hce : ∀ k x, (l.take n)[k]? = some x → w.cell? (a.add k) = some (BV x) := by
      intro k x hx
      have hkn : k < n := by
        rcases Nat.lt_or_ge k n with h | h
        · exact h
        · rw [List.getElem?_eq_none (by omega)] at hx; cases hx
      have h1 := hcell k (by simp; omega)
      rw [List.getElem?_take, if_pos hkn] at hx
      rw [h1]
      simp [List.getD, hx, BV]
    refine ⟨l.take n, hlen.symm, ⟨⟨rfl, fun k x hx => ⟨a, rfl, hce k x hx⟩⟩, by rw [hlen]; unfold maxLen at hm; omega, ?_⟩, fun h => by cases h⟩
    intro ad had hpos
    cases had
    obtain ⟨x, hx⟩ : ∃ x, (l.take n)[0]? = some x := ⟨_, List.getElem?_eq_getElem hpos⟩
    have := World.block_lt_of_cell? w _ (hce 0 x hx)
    unfold Addr.add at this
    simpa using this

/-- an ask, as it is read -/
structure QAsk where
  kind : Int
  i : Int
  at_ : Int
  n : Int
  x : UInt8
  by_ : Nat
  ha : Option Addr
  hc : Nat
  how : List UInt8
  short : Bool

def IntOk (n : Int) : Prop := -9223372036854775808 ≤ n ∧ n ≤ 9223372036854775807

/-- an ask's cells -/
structure AskAt (w : World) (b o : Nat) (q : QAsk) : Prop where
  c0 : w.cell? ⟨b, o, none⟩ = some (.int .i64 q.kind)
  c1 : w.cell? ⟨b, o + 1, none⟩ = some (.int .i64 q.i)
  c2 : w.cell? ⟨b, o + 2, none⟩ = some (.int .i64 q.at_)
  c3 : w.cell? ⟨b, o + 3, none⟩ = some (.int .i64 q.n)
  c4 : w.cell? ⟨b, o + 4, none⟩ = some (.int .u8 (q.x.toNat : Int))
  c5 : w.cell? ⟨b, o + 5, none⟩ = some (.int .u32 (q.by_ : Int))
  c6 : w.cell? ⟨b, o + 6, none⟩ = some (.slice q.ha q.how.length q.hc)
  c7 : w.cell? ⟨b, o + 7, none⟩ = some (.bool q.short)
  wk : IntOk q.kind
  wi : IntOk q.i
  wa : IntOk q.at_
  wn : IntOk q.n
  wb : q.by_ < 4294967296
  wh : BytesIn w q.ha q.how

def Asks (w : World) (A : Option Addr) (l : List QAsk) : Prop :=
  l.length ≤ 9223372036854775807 ∧ (l = [] ∨ ∃ b off, A = some ⟨b, off, none⟩ ∧ b < w.heap.size ∧ ∀ k q, l[k]? = some q → AskAt w b (off + k * 8) q)

theorem BytesIn.below {w w' : World} {A : Option Addr} {l : List UInt8} (h : BytesIn w A l) (hb : Below w.heap.size w w') : BytesIn w' A l := by
  refine ⟨⟨rfl, fun k x hx => ?_⟩, h.2.1, fun ad had hp => by have := h.2.2 ad had hp; have := hb.size; omega⟩
  obtain ⟨ad, h1, h2⟩ := h.1.2 k x hx
  exact ⟨ad, h1, (hb.cell (World.block_lt_of_cell? w _ h2)).trans h2⟩
theorem AskAt.below {w w' : World} {b o : Nat} {q : QAsk} (h : AskAt w b o q) (hb : Below w.heap.size w w') : AskAt w' b o q :=
  have k : ∀ {j : Nat} {v : Value}, w.cell? ⟨b, j, none⟩ = some v → w'.cell? ⟨b, j, none⟩ = some v := fun hc => (hb.cell (World.block_lt_of_cell? w _ hc)).trans hc
  ⟨k h.c0, k h.c1, k h.c2, k h.c3, k h.c4, k h.c5, k h.c6, k h.c7, h.wk, h.wi, h.wa, h.wn, h.wb, h.wh.below hb⟩
theorem Asks.below {w w' : World} {A : Option Addr} {l : List QAsk} (h : Asks w A l) (hb : Below w.heap.size w w') : Asks w' A l := by
  refine ⟨h.1, ?_⟩
  rcases h.2 with h | ⟨b, off, h1, h2, h3⟩
  · exact .inl h
  · exact .inr ⟨b, off, h1, by have := hb.size; omega, fun k q hq => (h3 k q hq).below hb⟩

theorem askFields : ∃ fs : Array Field, Try.prog.underlying 46 = some (.struct fs) ∧ fs.size = 8 ∧ oneCellFields Try.prog fs = true ∧ Try.prog.cellsOf 46 = 8 ∧
    (fs[0]?).map (·.type) = some 3 ∧ (fs[1]?).map (·.type) = some 3 ∧ (fs[2]?).map (·.type) = some 3 ∧ (fs[3]?).map (·.type) = some 3 ∧ (fs[4]?).map (·.type) = some 5 ∧ (fs[5]?).map (·.type) = some 44 ∧ (fs[6]?).map (·.type) = some 34 ∧ (fs[7]?).map (·.type) = some 4 :=
  ⟨_, Try.underlying46, by kernel_rfl, by kernel_rfl, by kernel_rfl, by kernel_rfl, by kernel_rfl, by kernel_rfl, by kernel_rfl, by kernel_rfl, by kernel_rfl, by kernel_rfl, by kernel_rfl⟩

theorem wf_int {n : Int} (h : (Lit.int .i64 n).wf = true) : IntOk n := bounds_i64 h

theorem open_asks {H : Type} {enc : TypeId × Value → H} {w : World} {base : Nat} {spare : Nat → Bool} {held : Bool} {fuel : Nat} {A : Option Addr} {n c : Nat} {x : DataW H × List MemPlace}
    (h : DataW.trod enc Try.prog w base spare held fuel 42 [.slice A n c] = some x) : ∃ l : List QAsk, n = l.length ∧ Asks w A l := by
  obtain ⟨fs, hfs, hsz, hone, hC, f0, f1, f2, f3, f4, f5, f6, f7⟩ := askFields
  rcases open_slice_fields Try.underlying42 hfs hone (by rw [hC, hsz]) h with ⟨h1, _⟩ | ⟨a, len, cap, h1, hb, hl, hm, hi⟩
  · injection h1 with h1
    injection h1 with h1 h2 h3
    subst h1 h2 h3
    exact ⟨[], rfl, by simp, .inl rfl⟩
  · injection h1 with h1
    injection h1 with h1 h2 h3
    subst h1 h2 h3
    have key : ∀ i, i < n → ∃ q : QAsk, a = ⟨a.block, a.off, none⟩ ∧ a.block < w.heap.size ∧ AskAt w a.block (a.off + i * 8) q := by
      intro i hin
      obtain ⟨ys, m, hyl, hf⟩ := hi i hin
      have gf : ∀ j t, (fs[j]?).map (·.type) = some t → ∃ v y, w.cell? (a.add (i * 8 + j)) = some v ∧ DataW.trod enc Try.prog w base spare held m t [v] = some y := by
        intro j t hj
        cases hfj : fs[j]? with
        | none => rw [hfj] at hj; cases hj
        | some f =>
          rw [hfj] at hj
          simp only [Option.map_some, Option.some.injEq] at hj
          obtain ⟨v, y, h1, _, h3⟩ := hf j f hfj
          rw [hj] at h3
          rw [hsz] at h1
          exact ⟨v, y, h1, h3⟩
      obtain ⟨v0, y0, a0, t0⟩ := gf 0 _ f0
      obtain ⟨v1, y1, a1, t1⟩ := gf 1 _ f1
      obtain ⟨v2, y2, a2, t2⟩ := gf 2 _ f2
      obtain ⟨v3, y3, a3, t3⟩ := gf 3 _ f3
      obtain ⟨v4, y4, a4, t4⟩ := gf 4 _ f4
      obtain ⟨v5, y5, a5, t5⟩ := gf 5 _ f5
      obtain ⟨v6, y6, a6, t6⟩ := gf 6 _ f6
      obtain ⟨v7, y7, a7, t7⟩ := gf 7 _ f7
      obtain ⟨n0, e0, _, w0⟩ := DataW.trod_int Try.underlying3 t0
      obtain ⟨n1, e1, _, w1⟩ := DataW.trod_int Try.underlying3 t1
      obtain ⟨n2, e2, _, w2⟩ := DataW.trod_int Try.underlying3 t2
      obtain ⟨n3, e3, _, w3⟩ := DataW.trod_int Try.underlying3 t3
      obtain ⟨n4, e4, _, w4⟩ := DataW.trod_int Try.underlying5 t4
      obtain ⟨n5, e5, _, w5⟩ := DataW.trod_int Try.underlying44 t5
      obtain ⟨b7, e7, _⟩ := DataW.trod_bool Try.underlying4 t7
      have e6 : ∃ A' n' c', v6 = .slice A' n' c' := by
        rcases open_ints Try.underlying34 Try.underlying5 (by kernel_rfl) t6 with ⟨h1, _⟩ | ⟨a', len', cap', zs, h1, _⟩
        · injection h1 with h1; exact ⟨_, _, _, h1⟩
        · injection h1 with h1; exact ⟨_, _, _, h1⟩
      obtain ⟨A', n', c', rfl⟩ := e6
      obtain ⟨lb, rfl, hB, _⟩ := open_bytes t6
      injection e0 with e0
      injection e1 with e1
      injection e2 with e2
      injection e3 with e3
      injection e4 with e4
      injection e5 with e5
      injection e7 with e7
      subst e0 e1 e2 e3 e4 e5 e7
      obtain ⟨xb, rfl⟩ := byte_of_wf w4
      have w5' := bounds_u32 w5
      obtain ⟨by_, rfl⟩ := Int.eq_ofNat_of_zero_le w5'.1
      have hspot : a = ⟨a.block, a.off, none⟩ := by
        have hs := World.cell?_spot a1
        have : (a.add (i * 8 + 1)).spot = none := hs
        by_cases h0 : i = 0
        · subst h0
          rcases addr_cell (a := a) (n := 0) a0 with h | h
          · exact h
          · exact absurd rfl h
        · obtain ⟨_, _, m0, _, hf0⟩ : ∃ ys : List (DataW H × List MemPlace), ∃ m : Nat, ∃ v : Value, ∃ y : DataW H × List MemPlace, w.cell? (a.add 0) = some v := by
            obtain ⟨ys', m', _, hf'⟩ := hi 0 (by omega)
            cases hfj : fs[0]? with
            | none => rw [hfj] at f0; cases f0
            | some f =>
              obtain ⟨v, y, h1, _⟩ := hf' 0 f hfj
              exact ⟨ys', m', v, y, by simpa using h1⟩
          rcases addr_cell hf0 with h | h
          · exact h
          · exact absurd rfl h
      have hadd : ∀ j, a.add j = ⟨a.block, a.off + j, none⟩ := by
        intro j
        rw [hspot]
        unfold Addr.add
        split
        · rename_i h; subst h; rfl
        · rfl
      rw [hadd] at a0 a1 a2 a3 a4 a5 a6 a7
      refine ⟨⟨n0, n1, n2, n3, xb, by_, A', c', lb, b7⟩, hspot, (World.block_lt_of_cell? w ⟨a.block, a.off + (i * 8 + 0), none⟩ a0), a0, ?_, ?_, ?_, ?_, ?_, ?_, ?_, wf_int w0, wf_int w1, wf_int w2, wf_int w3, (show by_ < 4294967296 by omega), hB⟩
      all_goals first | exact a1 | exact a2 | exact a3 | exact a4 | exact a5 | exact a6 | exact a7
    -- one list
    have hlist : ∀ m, m ≤ n → ∃ l : List QAsk, l.length = m ∧ ∀ k q, l[k]? = some q → a = ⟨a.block, a.off, none⟩ ∧ a.block < w.heap.size ∧ AskAt w a.block (a.off + k * 8) q := by
      intro m
      induction m with
      | zero => intro _; exact ⟨[], rfl, by simp⟩
      | succ m ih =>
        intro hmn
        obtain ⟨l, hl1, hl2⟩ := ih (by omega)
        obtain ⟨q, hq⟩ := key m (by omega)
        refine ⟨l ++ [q], by simp [hl1], ?_⟩
        intro k q' hk
        by_cases hkm : k < m
        · rw [List.getElem?_append_left (by omega)] at hk
          exact hl2 k q' hk
        · rw [List.getElem?_append_right (by omega)] at hk
          obtain rfl : k = m := by
            rcases Nat.lt_or_ge m k with h | h
            · rw [List.getElem?_eq_none (by simp; omega)] at hk; cases hk
            · omega
          rw [hl1, Nat.sub_self] at hk
          simp only [List.getElem?_cons_zero, Option.some.injEq] at hk
          subst hk
          exact hq
    obtain ⟨l, hl1, hl2⟩ := hlist n (Nat.le_refl _)
    refine ⟨l, hl1.symm, by unfold maxLen at hm; omega, ?_⟩
    cases l with
    | nil => exact .inl rfl
    | cons q l =>
      obtain ⟨hs, hlt, _⟩ := hl2 0 q rfl
      exact .inr ⟨a.block, a.off, by rw [← hs], hlt, fun k q' hk => (hl2 k q' hk).2.2⟩

end Go.Proofs.Ytioieffmihdheaa
