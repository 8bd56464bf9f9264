/- Leaves: the leaf of a block: parts. -/
import Derived.Test.YtioieffmihdheaaDoorLf10
noncomputable section
namespace Go.Proofs.YtioieffmihdheaaDoor.lf
open AE
set_option linter.unusedSimpArgs false
set_option linter.unusedVariables false
set_option maxRecDepth 10000

theorem bit_own {mark n l : Nat} (h : mark ≤ n) : bit mark n l = l := by
  unfold bit
  rw [ble_iff.2 h]
theorem bump_ok' {α : Type} : ∀ (n : Nat) (k : AM α) (s : S), s.mark ≤ s.next → (∀ i, i < n → Nat.ble (s.next + i) lastName = true) → ∃ s1, (bump n k).run s = k.run s1 ∧ s1.next = s.next + n ∧ s1.mark = s.mark ∧ s1.rd = s.rd ∧ s1.wr = s.wr ∧ ∀ m, s1.heap.get m = if s.next ≤ m ∧ m < s.next + n then none else s.heap.get m
  | 0, k, s, hm, h => ⟨s, rfl, rfl, rfl, rfl, rfl, fun m => by rw [if_neg (by omega)]⟩
  | n + 1, k, s, hm, h => by
    have h0 : Nat.ble s.next lastName = true := h 0 (by omega)
    have h7 : ∀ i, (S.turn (s.grow (.deferred none)) s.next none).next + i = s.next + (i + 1) := fun i => by show s.next + 1 + i = _; omega
    obtain ⟨s1, e1, e2, e3, er, ew, e4⟩ := bump_ok' n k (S.turn (s.grow (.deferred none)) s.next none) (by show s.mark ≤ s.next + 1; omega) (fun i hi => by rw [h7]; exact h (i + 1) (by omega))
    refine ⟨s1, ?_, by rw [e2]; show s.next + 1 + n = _; omega, by rw [e3]; rfl, by rw [er]; rfl, by rw [ew]; exact bit_own hm, ?_⟩
    · rw [← e1]
      have hb : Nat.blt s.next (Nat.succ s.next) = true := blt_iff.2 (Nat.lt_succ_self _)
      have hg := hg_same h0 s.heap (some (AObj.deferred none))
      simp only [bump, AM.run, force_eq, h0, hb, Bool.and_self, hg]
      rfl
    · intro m
      rw [e4 m]
      show (if s.next + 1 ≤ m ∧ m < s.next + 1 + n then none else ((s.heap.put s.next (some (.deferred none))).put s.next none).get m) = _
      by_cases hm : m = s.next
      · subst hm
        rw [if_neg (by omega), hg_same h0, if_pos (by omega)]
      · rw [hg_far h0 hm, hg_far h0 hm]
        by_cases h5 : s.next + 1 ≤ m ∧ m < s.next + 1 + n
        · rw [if_pos h5, if_pos (by omega)]
        · rw [if_neg h5, if_neg (by omega)]

/-- what a call of Put does -/
def putN (d : LeafD) : Nat := if rightL d = true then 11 else 3
def putV (d : LeafD) (n : Nat) : Value := if rightL d = true then .slice (some ⟨n + 9, 0, none⟩) 128 128 else .slice none 0 0
theorem putA_run {s : S} {d : LeafD} (hlen : d.load.length = 116) (hm : s.mark ≤ s.next) (hN : ∀ i, i < putN d → Nat.ble (s.next + i) lastName = true) :
    ∃ s1, (putA [.agg ⟨d.cells⟩]).run s = some (putV d s.next, s1) ∧ s1.next = s.next + putN d ∧ s1.mark = s.mark ∧ s1.rd = s.rd ∧ s1.wr = s.wr ∧
      (∀ m, (m < s.next ∨ s.next + putN d ≤ m) → s1.heap.get m = s.heap.get m) ∧ (rightL d = true → s1.heap.get (s.next + 9) = some (.cells (Tr.ofList ((putL d).map bv)) (putL d).length 5 .whole)) := by
  have e0 : (putA [.agg ⟨d.cells⟩]).run s = (match rightL d with
    | true => bump 9 (newB (putL d) fun r => bump 1 (.pure (.slice (some ⟨r, 0, none⟩) 128 128)))
    | false => bump 3 (.pure (.slice none 0 0))).run s := by
    show (opt (leafOf d.cells) fun d => match rightL d with
      | true => bump 9 (newB (putL d) fun r => bump 1 (.pure (.slice (some ⟨r, 0, none⟩) 128 128)))
      | false => bump 3 (.pure (.slice none 0 0))).run s = _
    rw [leafOf_cells d hlen]
    rfl
  rw [e0]
  unfold putN at hN ⊢
  unfold putV
  cases hR : rightL d with
  | false =>
    rw [hR] at hN
    obtain ⟨s1, a1, a2, a3, a4, a5, a6⟩ := bump_ok' 3 (AM.pure (Value.slice none 0 0)) s hm hN
    exact ⟨s1, a1, a2, a3, a4, a5, fun m h => by rw [a6 m, if_neg (by simp at h; omega)], fun h => by cases h⟩
  | true =>
    rw [hR] at hN
    simp only [if_true] at hN ⊢
    obtain ⟨s1, a1, a2, a3, a4, a5, a6⟩ := bump_ok' 9 (newB (putL d) fun r => bump 1 (.pure (.slice (some ⟨r, 0, none⟩) 128 128))) s hm (fun i hi => hN i (by omega))
    have hN9 : Nat.ble (s.next + 9) lastName = true := hN 9 (by omega)
    obtain ⟨s2, b1, b2, b3, b4, b5, b6⟩ := bump_ok' 1 (AM.pure (Value.slice (some ⟨s.next + 9, 0, none⟩) 128 128)) (s1.grow (.cells (Tr.ofList ((putL d).map bv)) (putL d).length 5 .whole)) (by show s1.mark ≤ s1.next + 1; omega)
      (fun i hi => by have : i = 0 := by omega
                      subst this
                      show Nat.ble (s1.next + 1) lastName = true
                      rw [a2]; exact hN 10 (by omega))
    have hg : ∀ m, (s1.grow (.cells (Tr.ofList ((putL d).map bv)) (putL d).length 5 .whole)).heap.get m = if m = s.next + 9 then some (.cells (Tr.ofList ((putL d).map bv)) (putL d).length 5 .whole) else s1.heap.get m := by
      intro m
      show (s1.heap.put s1.next _).get m = _
      rw [a2]
      by_cases h : m = s.next + 9
      · subst h; rw [hg_same hN9, if_pos rfl]
      · rw [hg_far hN9 h, if_neg h]
    have hnx : (s1.grow (.cells (Tr.ofList ((putL d).map bv)) (putL d).length 5 .whole)).next = s.next + 10 := by show s1.next + 1 = _; omega
    refine ⟨s2, ?_, by rw [b2, hnx], by rw [b3]; exact a3, by rw [b4]; exact a4, by rw [b5]; exact a5, ?_, ?_⟩
    · rw [a1]
      simp only [newB, AM.run, force_eq]
      rw [a2]
      show (match Nat.ble (s.next + 9) lastName with | false => none | true => _) = _
      rw [hN9]
      have hs : (⟨s1.heap.put (s.next + 9) (some (.cells (Tr.ofList ((putL d).map bv)) (putL d).length 5 .whole)), Nat.succ (s.next + 9), s1.mark, s1.rd, s1.wr⟩ : S) = s1.grow (.cells (Tr.ofList ((putL d).map bv)) (putL d).length 5 .whole) := by
        show _ = S.mk _ _ _ _ _
        rw [a2]
      simp only [hs]
      exact b1
    · intro m h
      rw [b6 m, if_neg (by rw [hnx]; omega), hg m, if_neg (by omega), a6 m, if_neg (by omega)]
    · intro _
      rw [b6 _, if_neg (by rw [hnx]; omega), hg _, if_pos rfl]

def zeroL : LeafD := ⟨0, 0, 0, 0, 0, List.replicate 116 0⟩
theorem zero_len : zeroL.load.length = 116 := by simp [zeroL]
theorem zeLf : tiLf.zero = some (.agg ⟨zeroL.cells⟩) := by kernel_rfl
/-- the leaf that a block's bytes say -/
def sayL (l : List UInt8) : LeafD := ⟨((l.getD 123 0).toNat : Int), num2 (l.getD 116 0) (l.getD 117 0), num2 (l.getD 118 0) (l.getD 119 0), num2 (l.getD 120 0) (l.getD 121 0), ((l.getD 122 0).toNat : Int), l.take 116⟩
def getOK (l : List UInt8) : Bool := rightL (sayL l) && eqBytes (putL (sayL l)) l
def getL (l : List UInt8) : LeafD := if getOK l = true then sayL l else zeroL
def getA : List Value → AM Value
  | [.slice a n cap] => match Nat.beq n 128 with
    | false => bump 2 (.pure (.tuple ⟨[.agg ⟨zeroL.cells⟩, .bool false]⟩))
    | true => match a with
      | none => .fail
      | some ad => loadA ad 128 fun cs => opt (bytesV cs) fun l => bump (3 + putN (sayL l)) (.pure (.tuple ⟨[.agg ⟨(getL l).cells⟩, .bool (getOK l)]⟩))
  | _ => .fail

theorem LfAt.cells_one {d : LeafD} : allOne d.cells = true := by
  have := bvs_one d.load
  unfold LeafD.cells
  show allOne (Value.int .i64 d.kind :: Value.int .i64 d.file :: Value.int .i64 d.place :: Value.int .i64 d.next :: Value.int .i64 d.size :: d.load.map bv) = true
  simp only [allOne, oneB, this]
/-- a leaf is stored -/
theorem LfAt.store {s : S} {n : Nat} {d d' : LeafD} (h : LfAt s n d) (hN : Nat.ble n lastName = true) (hd : d'.load.length = 116) :
    ∃ c e rm, (storeA ⟨n, 0, none⟩ d'.cells (AM.pure (ANext.value undefV))).run s = some (.value undefV, (s.seen n).turn n (some (.cells c 121 e rm))) ∧ Row c 0 d'.cells := by
  obtain ⟨c, e, rm, h1, h2⟩ := h.cell
  refine ⟨wrCells c 0 d'.cells, e, rm, ?_, row_wr (by rw [d'.len hd]; unfold Tr.wide; omega)⟩
  rw [storeA_run _ LfAt.cells_one h.lt hN h1 (by rw [d'.len hd]; omega) (by omega)]
  rfl
theorem copy_b {s : S} {N : Nat} {d : LeafD} {ad : Addr} {l : List UInt8} {c2 : Nat} (h : LfAt s N d) (hN : Nat.ble N lastName = true) (hb : Bs s ad l) (hl : l.length = 128) :
    ∃ c e rm, (builtinA E .copy #[25, 25] [.slice (some ⟨N, 5, none⟩) 116 116, .slice (some ad) 128 c2]).run s = some (.value (.int .i64 (.ofNat 116)), ((s.seen ad.block).seen N).turn N (some (.cells c 121 e rm))) ∧
      Row c 0 ({ d with load := l.take 116 } : LeafD).cells := by
  obtain ⟨c, e, rm, h1, h2⟩ := h.cell
  have htl : (l.take 116).length = 116 := by rw [List.length_take]; omega
  have hbt := hb.take 116
  refine ⟨wrCells c 5 ((l.take 116).map bv), e, rm, ?_, ?_⟩
  · have e1 : builtinA E .copy #[25, 25] [.slice (some ⟨N, 5, none⟩) 116 116, .slice (some ad) 128 c2] = copyA 1 (some ⟨N, 5, none⟩) 116 (.slice (some ad) 128 c2) 128 := by
      simp only [builtinA, tyB, dsB, opt, tyU8, szU8, lenA]
    rw [e1]
    have e2 : copyA 1 (some ⟨N, 5, none⟩) 116 (.slice (some ad) 128 c2) 128 = loadA ad 116 fun cs => match (some ⟨N, 5, none⟩ : Option Addr), cs with
      | _, [] => AE.val (.int .i64 (.ofNat 116))
      | some a, cs => storeA a cs (AE.val (.int .i64 (.ofNat 116)))
      | none, _ => .fail := rfl
    rw [e2]
    have e3 := loadA_run hbt (fun cs => match (some ⟨N, 5, none⟩ : Option Addr), cs with
      | _, [] => AE.val (.int .i64 (.ofNat 116))
      | some a, cs => storeA a cs (AE.val (.int .i64 (.ofNat 116)))
      | none, _ => .fail)
    rw [htl] at e3
    rw [e3]
    obtain ⟨x, r, hx⟩ : ∃ x r, l.take 116 = x :: r := by
      cases hh : l.take 116 with
      | nil => rw [hh] at htl; simp at htl
      | cons x r => exact ⟨x, r, rfl⟩
    rw [hx, List.map_cons]
    show (storeA ⟨N, 5, none⟩ (bv x :: r.map bv) (AE.val (.int .i64 (.ofNat 116)))).run (s.seen ad.block) = _
    rw [← List.map_cons, ← hx, storeA_run (s := s.seen ad.block) _ (bvs_one _) h.lt hN h1 (by rw [List.length_map, htl]; omega) (by omega)]
    rfl
  · have hw : 5 + ((l.take 116).map bv).length ≤ Tr.wide := by rw [List.length_map, htl]; unfold Tr.wide; omega
    show Row _ 0 ([.int .i64 d.kind, .int .i64 d.file, .int .i64 d.place, .int .i64 d.next, .int .i64 d.size] ++ (l.take 116).map bv)
    refine row_app (row_wr_far hw ?_ (.inl (by simp))) (row_wr hw)
    intro k v hk
    refine h2 k v ?_
    unfold LeafD.cells
    rw [List.getElem?_append_left (List.getElem?_eq_some_iff.1 hk).1]
    exact hk
end Go.Proofs.YtioieffmihdheaaDoor.lf
