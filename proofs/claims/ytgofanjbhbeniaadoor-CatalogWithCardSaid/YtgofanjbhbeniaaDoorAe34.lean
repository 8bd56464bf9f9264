/- Cells in memory, be they written or only read; calls whose arguments lie in memory. No program is named here. -/
import Derived.Test.YtgofanjbhbeniaaDoorAe33
noncomputable section
namespace Go.AE
set_option linter.unusedVariables false
set_option linter.unusedSimpArgs false

/-- a row of cells lies in a block -/
structure Cl (s : S) (n off : Nat) (L : List Value) : Prop where
  lt : n < s.next
  cell : ∃ c m, Has s n c m ∧ off + L.length ≤ m ∧ Row c off L
theorem Cl.keep {s s1 : S} {n off : Nat} {L : List Value} (h : Cl s n off L) (hn : s.next ≤ s1.next) (hg : s1.heap.get n = s.heap.get n) : Cl s1 n off L := by
  obtain ⟨c, m, h1, h2⟩ := h.cell
  exact ⟨by have := h.lt; omega, c, m, h1.of hg, h2⟩
theorem Cl.rd {s s1 : S} {n off : Nat} {L : List Value} (h : Cl s n off L) (hr : Rd s s1) : Cl s1 n off L := h.keep (by rw [hr.next]; exact Nat.le_refl _) (by rw [hr.heap])
theorem Cl.of {s s1 : S} {n off : Nat} {L : List Value} (h : Cl s n off L) (hh : s1.heap = s.heap) (hn : s1.next = s.next) : Cl s1 n off L := h.keep (by rw [hn]; exact Nat.le_refl _) (by rw [hh])
theorem Cl.new {s : S} {n : Nat} {L : List Value} {e : TypeId} {rm : Room} (hlt : n < s.next) (hg : s.heap.get n = some (.cells (Tr.ofList L) L.length e rm)) (hL : L.length ≤ 1000000) : Cl s n 0 L :=
  ⟨hlt, _, _, .inl ⟨_, _, hg⟩, by rw [Nat.zero_add]; exact Nat.le_refl _, row_ofList _ (by unfold Tr.wide; omega)⟩
theorem Cl.sub {s : S} {n off : Nat} {L : List Value} (h : Cl s n off L) (i k : Nat) (hk : i + k ≤ L.length) : Cl s n (off + i) ((L.drop i).take k) := by
  obtain ⟨c, m, h1, h2, h3⟩ := h.cell
  exact ⟨h.lt, c, m, h1, by rw [List.length_take, List.length_drop]; omega, h3.sub i k⟩
theorem cl_load {β : Type} {s : S} {n off : Nat} {L : List Value} (h : Cl s n off L) (k : List Value → AM β) : (loadA ⟨n, off, none⟩ L.length k).run s = (k L).run (s.seen n) := by
  obtain ⟨c, m, h1, h2, h3⟩ := h.cell
  have h4 := rd_row h3
  unfold loadA
  rcases h1 with ⟨e, rm, hg⟩ | ⟨e, hg⟩
  all_goals
    simp only [AM.run, blt_iff.2 h.lt, hg, when, show Nat.ble (Nat.add off L.length) m = true from ble_iff.2 h2, opt, h4]
    rfl
/-- cells as one value -/
theorem cl_agg {β : Type} {s : S} {n off : Nat} {L : List Value} (i : TI) (hi : isAggD i.desc = true) (hs : i.size = L.length) (h : Cl s n off L) (k : Value → AM β) : (loadT i ⟨n, off, none⟩ k).run s = (k (.agg ⟨L⟩)).run (s.seen n) := by
  unfold loadT
  rw [hi, hs]
  exact cl_load h (fun cs => k (.agg ⟨cs⟩))
/-- one cell -/
theorem cl_one {β : Type} {s : S} {n off k : Nat} {L : List Value} {v : Value} (i : TI) (hi : isAggD i.desc = false) (h : Cl s n off L) (hk : L[k]? = some v) (f : Value → AM β) : (loadT i ⟨n, off + k, none⟩ f).run s = (f v).run (s.seen n) := by
  have hlt := (List.getElem?_eq_some_iff.1 hk).1
  have h1 := h.sub k 1 (by omega)
  have e : (L.drop k).take 1 = [v] := by
    apply List.ext_getElem?
    intro j
    rw [List.getElem?_take]
    cases j with
    | zero => simpa [List.getElem?_drop] using hk
    | succ j => simp
  rw [e] at h1
  unfold loadT
  rw [hi]
  exact cl_load h1 (fun x => match x with | [v] => f v | _ => .fail)
theorem cl_of_load {β : Type} {ad : Addr} {n : Nat} {k : List Value → AM β} {s : S} {r : β × S} (h : (loadA ad n k).run s = some r) : ∃ L, L.length = n ∧ ad.spot = none ∧ Cl s ad.block ad.off L ∧ (k L).run (s.seen ad.block) = some r := by
  obtain ⟨c, m, cs, h1, h2, h3, h4, h5, h6⟩ := load_inv h
  obtain ⟨e1, e2⟩ := row_of_rd h5
  exact ⟨cs, e1, h1, ⟨h2, c, m, h3, by rw [e1]; exact h4, e2⟩, h6⟩
theorem addAn (n i k : Nat) : addA ⟨n, i, none⟩ k = ⟨n, i + k, none⟩ := by
  cases k with
  | zero => rfl
  | succ k => rfl

theorem Cl.ld {H : Tr AObj} {N mk r0 w0 n off k : Nat} {L : List Value} {v : Value} (i : TI) (hi : isAggD i.desc = false) (h : Cl ⟨H, N, mk, r0, w0⟩ n off L) (hk : L[k]? = some v) : ∀ rd wr, (loadT i ⟨n, off + k, none⟩ val).run ⟨H, N, mk, rd, wr⟩ = some (.value v, ⟨H, N, mk, bit mk n rd, wr⟩) :=
  fun rd wr => cl_one (s := ⟨H, N, mk, rd, wr⟩) i hi (h.of rfl rfl) hk val
theorem Cl.ldA {β : Type} {H : Tr AObj} {N mk r0 w0 n off : Nat} {L : List Value} (i : TI) (hi : isAggD i.desc = true) (hs : i.size = L.length) (h : Cl ⟨H, N, mk, r0, w0⟩ n off L) (f : Value → AM β) : ∀ rd wr, (loadT i ⟨n, off, none⟩ f).run ⟨H, N, mk, rd, wr⟩ = (f (.agg ⟨L⟩)).run ⟨H, N, mk, bit mk n rd, wr⟩ :=
  fun rd wr => cl_agg (s := ⟨H, N, mk, rd, wr⟩) i hi hs (h.of rfl rfl) f

/-- named memory that a world's blocks bear out, and that is only read -/
structure Inputs (P : Program) (ρ : Ren) (s : S) (w : World) : Prop where
  live : ∀ n o, s.heap.get n = some o → ∃ b base ex obj, ρ n = some (b, base, ex) ∧ w.heap[b]? = some obj ∧ OR P ρ base ex o obj ∧ ∃ c m e, o = .row c m e
  top : ∀ n x, ρ n = some x → n < s.next
  blk : ∀ n b base ex, ρ n = some (b, base, ex) → b < w.heap.size
/-- **a call whose arguments lie in memory that is only read** -/
theorem callsI {P : Program} {σ : Sums} (hP : lawful P = true) (hmix : P.follows .mixedOrders = true) (hσ : Tolds P σ) {n f : Nat} {args args' : List Value} {sI s' : S} (h : evNext (evT (Env.of P) σ n) (Env.of P) (.enter f args) sI = some (.val (.bool true), s'))
    (hm : sI.mark ≤ sI.next) {ρ : Ren} (w : World) (hI : Inputs P ρ sI w) (ha : LR ρ args args') :
    Calls P f ⟨args'⟩ w fun e w' => e = .returned (.bool true) ∧ Go.RowKit.Below w.heap.size w w' := by
  intro cs
  have hR : Rep P ⟨fun _ => True, 0, s'.next, fun b => w.heap[b]?⟩ ρ sI w := by
    refine ⟨?_, ?_, Nat.zero_le _, fun _ _ _ => trivial, ?_, hI.blk, fun _ _ e => e, ?_, ?_⟩
    · intro n o ho
      obtain ⟨b, base, ex, obj, h1, h2, h3, _⟩ := hI.live n o ho
      exact ⟨b, base, ex, obj, h1, h2, h3⟩
    · intro n m o o' b base ex base' ex' _ ho _ _ _ i h1 h2 _ _
      obtain ⟨_, _, _, _, _, _, _, c, m, e, rfl⟩ := hI.live n o ho
      exact absurd h2 (Nat.not_lt.2 h1)
    · intro n _ hn
      cases hx : ρ n with
      | none => rfl
      | some x => exact absurd (hI.top n x hx) (hn.elim (fun hn => absurd hn (Nat.not_lt_zero _)) (fun hn => Nat.not_lt.2 hn))
    · intro n o b base ex o' ho _ _
      obtain ⟨_, _, _, _, _, _, _, c, m, e, rfl⟩ := hI.live n o ho
      rfl
    · intro n o b base ex ho hr _
      obtain ⟨b1, base1, ex1, obj, h1, h2, _⟩ := hI.live n o ho
      rw [hr] at h1
      cases h1
      exact ⟨obj, h2⟩
  obtain ⟨ρ', v', w', fr', h1, h2, h3, h4, h5, h6, h7, h8, h9⟩ := (enterT (env_ok hP) hmix hσ (n := n)) _ _ f args args' sI _ s' w .normal h hm (Nat.le_refl _) hR ha cs
  have hv := h3.bool_inv
  subst hv
  refine ⟨.returned (.bool true), w', fr', ⟨rfl, h2.rest.1, h2.rest.2.1, h2.rest.2.2, h2.size, fun k hk => ?_⟩, h4, h5, h6, h7, h8, h9⟩
  have hk' : w.heap[k]? = some w.heap[k] := Array.getElem?_eq_getElem hk
  rw [hk']
  exact h1.kept k _ hk'
end Go.AE
