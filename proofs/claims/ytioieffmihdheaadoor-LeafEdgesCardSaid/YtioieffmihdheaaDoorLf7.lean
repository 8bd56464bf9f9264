/- Leaves: a leaf as a block's bytes: the parts of its walk. -/
import Derived.Test.YtioieffmihdheaaDoorLf6
noncomputable section
namespace Go.Proofs.YtioieffmihdheaaDoor.lf
open AE
set_option linter.unusedSimpArgs false
set_option linter.unusedVariables false
set_option maxRecDepth 10000

theorem bump_ok {α : Type} : ∀ (n : Nat) (k : AM α) (s : S), (∀ i, i < n → Nat.ble (s.next + i) lastName = true) → ∃ s1, (bump n k).run s = k.run s1 ∧ s1.next = s.next + n ∧ s1.mark = s.mark ∧ ∀ m, s1.heap.get m = if s.next ≤ m ∧ m < s.next + n then none else s.heap.get m
  | 0, k, s, h => ⟨s, rfl, rfl, rfl, fun m => by rw [if_neg (by omega)]⟩
  | n + 1, k, s, h => by
    have h0 : Nat.ble s.next lastName = true := h 0 (by omega)
    have h7 : ∀ i, (S.turn (s.grow (.deferred none)) s.next none).next + i = s.next + (i + 1) := fun i => by show s.next + 1 + i = _; omega
    obtain ⟨s1, e1, e2, e3, e4⟩ := bump_ok n k (S.turn (s.grow (.deferred none)) s.next none) (fun i hi => by rw [h7]; exact h (i + 1) (by omega))
    refine ⟨s1, ?_, by rw [e2]; show s.next + 1 + n = _; omega, by rw [e3]; rfl, ?_⟩
    · rw [← e1]
      have hb : Nat.blt s.next (Nat.succ s.next) = true := blt_iff.2 (Nat.lt_succ_self _)
      have hg := hg_same h0 s.heap (some (AObj.deferred none))
      simp only [bump, AM.run, force_eq, h0, hb, Bool.and_self, hg]
      rfl
    · intro m
      rw [e4 m]
      show (if s.next + 1 ≤ m ∧ m < s.next + 1 + n then none else ((s.heap.put s.next (some (.deferred none))).put s.next none).get m) = _
      by_cases hm : m = s.next
      · subst hm
        rw [if_neg (by omega), hg_same h0, if_pos (by omega)]
      · rw [hg_far h0 hm, hg_far h0 hm]
        by_cases h5 : s.next + 1 ≤ m ∧ m < s.next + 1 + n
        · rw [if_pos h5, if_pos (by omega)]
        · rw [if_neg h5, if_neg (by omega)]
theorem rightA_run {s : S} {d : LeafD} (hlen : d.load.length = 116) (h : ∀ i, i < 2 → Nat.ble (s.next + i) lastName = true) :
    ∃ s1, (rightA [.agg ⟨d.cells⟩]).run s = some (.bool (rightL d), s1) ∧ s1.next = s.next + 2 ∧ ∀ m, s1.heap.get m = if s.next ≤ m ∧ m < s.next + 2 then none else s.heap.get m := by
  obtain ⟨s1, e1, e2, e3, e4⟩ := bump_ok 2 (AM.pure (Value.bool (rightL d))) s h
  refine ⟨s1, ?_, e2, e4⟩
  show (opt (leafOf d.cells) fun d => bump 2 (.pure (Value.bool (rightL d)))).run s = _
  rw [leafOf_cells d hlen]
  exact e1
theorem LfAt.load {s : S} {n : Nat} {d : LeafD} (h : LfAt s n d) : (loadT tiLf ⟨n, 0, none⟩ AE.val).run s = some (.value (.agg ⟨d.cells⟩), s.seen n) := by
  obtain ⟨c, e, rm, h1, h2⟩ := h.cell
  have h4 := rd_row h2
  rw [d.len h.len] at h4
  unfold loadT loadA
  rw [dsLf, szLf]
  simp only [isAggD, AM.run, blt_iff.2 h.lt, h1, when, show Nat.ble (Nat.add 0 121) 121 = true from rfl, opt, h4]
  rfl

def two (x : Int) : List UInt8 := [UInt8.ofNat x.toNat, UInt8.ofNat (x.toNat >>> 8)]
def pre (d : LeafD) : Nat → List UInt8
  | 0 => []
  | i + 1 => pre d i ++ two ((three d).getD i 0)
def putL (d : LeafD) : List UInt8 := closeL ((d.load ++ pre d 3) ++ [UInt8.ofNat d.size.toNat, UInt8.ofNat d.kind.toNat])
theorem pre_len (d : LeafD) : ∀ i, (pre d i).length = 2 * i
  | 0 => rfl
  | i + 1 => by simp only [pre, List.length_append, pre_len d i, two, List.length_cons, List.length_nil]; omega
theorem putL_len (d : LeafD) (h : d.load.length = 116) : (putL d).length = 128 := by
  unfold putL
  rw [closeL_len]
  simp [pre_len, h]
def putA : List Value → AM Value
  | [.agg ⟨cs⟩] => opt (leafOf cs) fun d => match rightL d with
    | true => bump 9 (newB (putL d) fun r => bump 1 (.pure (.slice (some ⟨r, 0, none⟩) 128 128)))
    | false => bump 3 (.pure (.slice none 0 0))
  | _ => .fail

abbrev sigP : List (Nat × (List Value → AM Value)) := [(13, rightA), (17, closeA)]
theorem tolds_P : Tolds Tryd.prog (sumsOf sigP) := tolds_cons told_right (tolds_cons told_close tolds_nil)
theorem sgR : sumsOf sigP 13 = some rightA := rfl
theorem sgC : sumsOf sigP 17 = some closeA := rfl
theorem tgR : ∀ a b, targetA E (.func 13) a b = .pure (.enter 13 (b ++ a)) := tgt (fi := fiR) (c := cdR) (by kernel_rfl) (by kernel_rfl)
theorem tgC : ∀ a b, targetA E (.func 17) a b = .pure (.enter 17 (b ++ a)) := tgt (fi := fiC) (c := cdC) (by kernel_rfl) (by kernel_rfl)
noncomputable def fiP : FI := FI.of Tryd.f7
noncomputable def cdP : Code := bodyOf Tryd.f7
noncomputable def cdPl : Code := sub [1,1,1,1,0,1,0,0] cdP
theorem resP : fiP.results = [.tmp 2] := rfl

/-- the memory in the loop -/
structure PutAt (n : Nat) (d : LeafD) (s0 s : S) (i : Nat) : Prop where
  next : s.next = n + 5 + i
  lf : LfAt s n d
  ints : ∃ c e rm, s.heap.get (n + 4) = some (.cells c 3 e rm) ∧ Row c 0 [.int .i64 d.file, .int .i64 d.place, .int .i64 d.next]
  buf : ∃ c e rm, s.heap.get (n + 3) = some (.cells c 124 e rm) ∧ Row c 0 ((d.load ++ pre d i).map bv)
  old : ∀ m, (m < n ∨ n + 11 ≤ m) → s.heap.get m = s0.heap.get m
theorem PutAt.rd {n : Nat} {d : LeafD} {s0 s s' : S} {i : Nat} (h : PutAt n d s0 s i) (hr : Rd s s') : PutAt n d s0 s' i :=
  ⟨by rw [hr.next]; exact h.next, h.lf.rd hr, by rw [hr.heap]; exact h.ints, by rw [hr.heap]; exact h.buf, fun m hm => by rw [hr.heap]; exact h.old m hm⟩
theorem PutAt.get {n : Nat} {d : LeafD} {s0 s : S} {i : Nat} (h : PutAt n d s0 s i) (k : Nat) (x : Int) (hk : (three d)[k]? = some x) : (loadT tiI ⟨n + 4, k, none⟩ AE.val).run s = some (.value (.int .i64 x), s.seen (n + 4)) := by
  obtain ⟨c, e, rm, h1, h2⟩ := h.ints
  have hlt : k < 3 := (List.getElem?_eq_some_iff.1 hk).1
  refine cell_load tiI (by rw [dsI]; rfl) (by rw [h.next]; omega) h1 (by omega) ?_
  have h3 : [Value.int .i64 d.file, .int .i64 d.place, .int .i64 d.next][k]? = some (.int .i64 x) := by
    match k, hlt with
    | 0, _ => simpa [three] using hk
    | 1, _ => simpa [three] using hk
    | 2, _ => simpa [three] using hk
  have := h2 k _ h3
  rwa [Nat.zero_add] at this
/-- two bytes more -/
theorem PutAt.more {n : Nat} {d : LeafD} {s0 s s3 : S} {i : Nat} (h : PutAt n d s0 s i) (hd : d.load.length = 116) (hi : i ≤ 3) (hN : ∀ j, j < 11 → Nat.ble (n + j) lastName = true) (b : List UInt8) (hb : b.length = 2) (e : TypeId) (rm : Room)
    (e3 : s3.next = s.next + 1) (e3h : s3.heap = s.heap.put s.next (some (.cells (Tr.ofList (b.map bv)) b.length e rm))) :
    ∃ s4, (builtinA E .append #[25, 25] [.slice (some ⟨n + 3, 0, none⟩) (116 + 2 * i) 124, .slice (some ⟨s.next, 0, none⟩) 2 2]).run s3 = some (.value (.slice (some ⟨n + 3, 0, none⟩) (116 + 2 * (i + 1)) 124), s4) ∧
      s4.next = n + 5 + (i + 1) ∧ LfAt s4 n d ∧ (∃ c e rm, s4.heap.get (n + 4) = some (.cells c 3 e rm) ∧ Row c 0 [.int .i64 d.file, .int .i64 d.place, .int .i64 d.next]) ∧
      (∃ c e rm, s4.heap.get (n + 3) = some (.cells c 124 e rm) ∧ Row c 0 ((d.load ++ pre d i ++ b).map bv)) ∧ ∀ m, (m < n ∨ n + 11 ≤ m) → s4.heap.get m = s0.heap.get m := by
  have hnx := h.next
  have hNs : Nat.ble s.next lastName = true := by rw [hnx, Nat.add_assoc]; exact hN (5 + i) (by omega)
  have hN3 := hN 3 (by omega)
  have B3 : Bs s3 ⟨s.next, 0, none⟩ b := bs_new (by omega) (by rw [e3h]; exact hg_same hNs _ _) (by omega)
  obtain ⟨c, e', rm', g1, g2⟩ := h.buf
  have c3 : s3.heap.get (n + 3) = some (.cells c 124 e' rm') := by rw [e3h, hg_far hNs (by omega)]; exact g1
  obtain ⟨s4, a4, e4h, e4, e4m⟩ := append_b (len := 116 + 2 * i) (cap := 124) (c2 := 2) (n := 2) B3 hb (by omega) (by omega) c3 hN3 (by omega) (by omega) (by omega) (by omega)
  have hk : ∀ m, m ≠ n + 3 → m ≠ s.next → s4.heap.get m = s.heap.get m := fun m h1 h2 => by rw [e4h, hg_far hN3 h1, e3h, hg_far hNs h2]
  refine ⟨s4, a4, by rw [e4, e3, hnx]; omega, ⟨by rw [e4, e3]; omega, by rw [hk n (by omega) (by omega)]; exact h.lf.cell, h.lf.len⟩, by rw [hk (n + 4) (by omega) (by omega)]; exact h.ints, ?_, fun m hm => by rw [hk m (by omega) (by omega)]; exact h.old m hm⟩
  refine ⟨_, _, _, by rw [e4h]; exact hg_same hN3 _ _, ?_⟩
  have hwide : 200 ≤ Tr.wide := by unfold Tr.wide; omega
  have hpl := pre_len d i
  rw [List.map_append]
  refine row_app (row_wr_far ?_ g2 (.inl ?_)) ?_
  · rw [List.length_map]; omega
  · rw [List.length_map, List.length_append]; omega
  · rw [List.length_map, List.length_append, Nat.zero_add, hd, hpl]
    exact row_wr (by rw [List.length_map]; omega)
end Go.Proofs.YtioieffmihdheaaDoor.lf
