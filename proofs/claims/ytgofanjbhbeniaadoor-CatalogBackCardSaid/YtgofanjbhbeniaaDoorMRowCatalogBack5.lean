/- Leaves: the leaf of a block: told. -/
import Derived.Test.YtgofanjbhbeniaaDoorMRowCatalogBack4
section
/- Leaves: the leaf of a block: parts. -/
noncomputable section
namespace Go.Proofs.YtgofanjbhbeniaaDoor.lf
open AE
set_option linter.unusedSimpArgs false
set_option linter.unusedVariables false
set_option maxRecDepth 10000

theorem bit_own {mark n l : Nat} (h : mark ≤ n) : bit mark n l = l := by
  unfold bit
  rw [ble_iff.2 h]
theorem bump_ok' {α : Type} : ∀ (n : Nat) (k : AM α) (s : S), s.mark ≤ s.next → (∀ i, i < n → Nat.ble (s.next + i) lastName = true) → ∃ s1, (bump n k).run s = k.run s1 ∧ s1.next = s.next + n ∧ s1.mark = s.mark ∧ s1.rd = s.rd ∧ s1.wr = s.wr ∧ ∀ m, s1.heap.get m = if s.next ≤ m ∧ m < s.next + n then none else s.heap.get m
  | 0, k, s, hm, h => ⟨s, rfl, rfl, rfl, rfl, rfl, fun m => by rw [if_neg (by omega)]⟩
  | n + 1, k, s, hm, h => by
    have h0 : Nat.ble s.next lastName = true := h 0 (by omega)
    have h7 : ∀ i, (S.turn (s.grow (.deferred none)) s.next none).next + i = s.next + (i + 1) := fun i => by show s.next + 1 + i = _; omega
    obtain ⟨s1, e1, e2, e3, er, ew, e4⟩ := bump_ok' n k (S.turn (s.grow (.deferred none)) s.next none) (by show s.mark ≤ s.next + 1; omega) (fun i hi => by rw [h7]; exact h (i + 1) (by omega))
    refine ⟨s1, ?_, by rw [e2]; show s.next + 1 + n = _; omega, by rw [e3]; rfl, by rw [er]; rfl, by rw [ew]; exact bit_own hm, ?_⟩
    · rw [← e1]
      have hb : Nat.blt s.next (Nat.succ s.next) = true := blt_iff.2 (Nat.lt_succ_self _)
      have hg := hg_same h0 s.heap (some (AObj.deferred none))
      simp only [bump, AM.run, force_eq, h0, hb, Bool.and_self, hg]
      rfl
    · intro m
      rw [e4 m]
      show (if s.next + 1 ≤ m ∧ m < s.next + 1 + n then none else ((s.heap.put s.next (some (.deferred none))).put s.next none).get m) = _
      by_cases hm : m = s.next
      · subst hm
        rw [if_neg (by omega), hg_same h0, if_pos (by omega)]
      · rw [hg_far h0 hm, hg_far h0 hm]
        by_cases h5 : s.next + 1 ≤ m ∧ m < s.next + 1 + n
        · rw [if_pos h5, if_pos (by omega)]
        · rw [if_neg h5, if_neg (by omega)]

/-- what a call of Put does -/
def putN (d : LeafD) : Nat := if rightL d = true then 11 else 3
def putV (d : LeafD) (n : Nat) : Value := if rightL d = true then .slice (some ⟨n + 9, 0, none⟩) 128 128 else .slice none 0 0
theorem putA_run {s : S} {d : LeafD} (hlen : d.load.length = 116) (hm : s.mark ≤ s.next) (hN : ∀ i, i < putN d → Nat.ble (s.next + i) lastName = true) :
    ∃ s1, (putA [.agg ⟨d.cells⟩]).run s = some (putV d s.next, s1) ∧ s1.next = s.next + putN d ∧ s1.mark = s.mark ∧ s1.rd = s.rd ∧ s1.wr = s.wr ∧
      (∀ m, (m < s.next ∨ s.next + putN d ≤ m) → s1.heap.get m = s.heap.get m) ∧ (rightL d = true → s1.heap.get (s.next + 9) = some (.cells (Tr.ofList ((putL d).map bv)) (putL d).length 5 .whole)) := by
  have e0 : (putA [.agg ⟨d.cells⟩]).run s = (match rightL d with
    | true => bump 9 (newB (putL d) fun r => bump 1 (.pure (.slice (some ⟨r, 0, none⟩) 128 128)))
    | false => bump 3 (.pure (.slice none 0 0))).run s := by
    show (opt (leafOf d.cells) fun d => match rightL d with
      | true => bump 9 (newB (putL d) fun r => bump 1 (.pure (.slice (some ⟨r, 0, none⟩) 128 128)))
      | false => bump 3 (.pure (.slice none 0 0))).run s = _
    rw [leafOf_cells d hlen]
    rfl
  rw [e0]
  unfold putN at hN ⊢
  unfold putV
  cases hR : rightL d with
  | false =>
    rw [hR] at hN
    obtain ⟨s1, a1, a2, a3, a4, a5, a6⟩ := bump_ok' 3 (AM.pure (Value.slice none 0 0)) s hm hN
    exact ⟨s1, a1, a2, a3, a4, a5, fun m h => by rw [a6 m, if_neg (by simp at h; omega)], fun h => by cases h⟩
  | true =>
    rw [hR] at hN
    simp only [if_true] at hN ⊢
    obtain ⟨s1, a1, a2, a3, a4, a5, a6⟩ := bump_ok' 9 (newB (putL d) fun r => bump 1 (.pure (.slice (some ⟨r, 0, none⟩) 128 128))) s hm (fun i hi => hN i (by omega))
    have hN9 : Nat.ble (s.next + 9) lastName = true := hN 9 (by omega)
    obtain ⟨s2, b1, b2, b3, b4, b5, b6⟩ := bump_ok' 1 (AM.pure (Value.slice (some ⟨s.next + 9, 0, none⟩) 128 128)) (s1.grow (.cells (Tr.ofList ((putL d).map bv)) (putL d).length 5 .whole)) (by show s1.mark ≤ s1.next + 1; omega)
      (fun i hi => by have : i = 0 := by omega
                      subst this
                      show Nat.ble (s1.next + 1) lastName = true
                      rw [a2]; exact hN 10 (by omega))
    have hg : ∀ m, (s1.grow (.cells (Tr.ofList ((putL d).map bv)) (putL d).length 5 .whole)).heap.get m = if m = s.next + 9 then some (.cells (Tr.ofList ((putL d).map bv)) (putL d).length 5 .whole) else s1.heap.get m := by
      intro m
      show (s1.heap.put s1.next _).get m = _
      rw [a2]
      by_cases h : m = s.next + 9
      · subst h; rw [hg_same hN9, if_pos rfl]
      · rw [hg_far hN9 h, if_neg h]
    have hnx : (s1.grow (.cells (Tr.ofList ((putL d).map bv)) (putL d).length 5 .whole)).next = s.next + 10 := by show s1.next + 1 = _; omega
    refine ⟨s2, ?_, by rw [b2, hnx], by rw [b3]; exact a3, by rw [b4]; exact a4, by rw [b5]; exact a5, ?_, ?_⟩
    · rw [a1]
      simp only [newB, AM.run, force_eq]
      rw [a2]
      show (match Nat.ble (s.next + 9) lastName with | false => none | true => _) = _
      rw [hN9]
      have hs : (⟨s1.heap.put (s.next + 9) (some (.cells (Tr.ofList ((putL d).map bv)) (putL d).length 5 .whole)), Nat.succ (s.next + 9), s1.mark, s1.rd, s1.wr⟩ : S) = s1.grow (.cells (Tr.ofList ((putL d).map bv)) (putL d).length 5 .whole) := by
        show _ = S.mk _ _ _ _ _
        rw [a2]
      simp only [hs]
      exact b1
    · intro m h
      rw [b6 m, if_neg (by rw [hnx]; omega), hg m, if_neg (by omega), a6 m, if_neg (by omega)]
    · intro _
      rw [b6 _, if_neg (by rw [hnx]; omega), hg _, if_pos rfl]

def zeroL : LeafD := ⟨0, 0, 0, 0, 0, List.replicate 116 0⟩
theorem zero_len : zeroL.load.length = 116 := by simp [zeroL]
theorem zeLf : tiLf.zero = some (.agg ⟨zeroL.cells⟩) := by kernel_rfl
/-- the leaf that a block's bytes say -/
def sayL (l : List UInt8) : LeafD := ⟨((l.getD 123 0).toNat : Int), num2 (l.getD 116 0) (l.getD 117 0), num2 (l.getD 118 0) (l.getD 119 0), num2 (l.getD 120 0) (l.getD 121 0), ((l.getD 122 0).toNat : Int), l.take 116⟩
def getOK (l : List UInt8) : Bool := rightL (sayL l) && eqBytes (putL (sayL l)) l
def getL (l : List UInt8) : LeafD := if getOK l = true then sayL l else zeroL
def getA : List Value → AM Value
  | [.slice a n cap] => match Nat.beq n 128 with
    | false => bump 2 (.pure (.tuple ⟨[.agg ⟨zeroL.cells⟩, .bool false]⟩))
    | true => match a with
      | none => .fail
      | some ad => loadA ad 128 fun cs => opt (bytesV cs) fun l => bump (3 + putN (sayL l)) (.pure (.tuple ⟨[.agg ⟨(getL l).cells⟩, .bool (getOK l)]⟩))
  | _ => .fail

theorem LfAt.cells_one {d : LeafD} : allOne d.cells = true := by
  have := bvs_one d.load
  unfold LeafD.cells
  show allOne (Value.int .i64 d.kind :: Value.int .i64 d.file :: Value.int .i64 d.place :: Value.int .i64 d.next :: Value.int .i64 d.size :: d.load.map bv) = true
  simp only [allOne, oneB, this]
/-- a leaf is stored -/
theorem LfAt.store {s : S} {n : Nat} {d d' : LeafD} (h : LfAt s n d) (hN : Nat.ble n lastName = true) (hd : d'.load.length = 116) :
    ∃ c e rm, (storeA ⟨n, 0, none⟩ d'.cells (AM.pure (ANext.value undefV))).run s = some (.value undefV, (s.seen n).turn n (some (.cells c 121 e rm))) ∧ Row c 0 d'.cells := by
  obtain ⟨c, e, rm, h1, h2⟩ := h.cell
  refine ⟨wrCells c 0 d'.cells, e, rm, ?_, row_wr (by rw [d'.len hd]; unfold Tr.wide; omega)⟩
  rw [storeA_run _ LfAt.cells_one h.lt hN h1 (by rw [d'.len hd]; omega) (by omega)]
  rfl
theorem copy_b {s : S} {N : Nat} {d : LeafD} {ad : Addr} {l : List UInt8} {c2 : Nat} (h : LfAt s N d) (hN : Nat.ble N lastName = true) (hb : Bs s ad l) (hl : l.length = 128) :
    ∃ c e rm, (builtinA E .copy #[51, 51] [.slice (some ⟨N, 5, none⟩) 116 116, .slice (some ad) 128 c2]).run s = some (.value (.int .i64 (.ofNat 116)), ((s.seen ad.block).seen N).turn N (some (.cells c 121 e rm))) ∧
      Row c 0 ({ d with load := l.take 116 } : LeafD).cells := by
  obtain ⟨c, e, rm, h1, h2⟩ := h.cell
  have htl : (l.take 116).length = 116 := by rw [List.length_take]; omega
  have hbt := hb.take 116
  refine ⟨wrCells c 5 ((l.take 116).map bv), e, rm, ?_, ?_⟩
  · have e1 : builtinA E .copy #[51, 51] [.slice (some ⟨N, 5, none⟩) 116 116, .slice (some ad) 128 c2] = copyA 1 (some ⟨N, 5, none⟩) 116 (.slice (some ad) 128 c2) 128 := by
      simp only [builtinA, tyB, dsB, opt, tyU8, szU8, lenA]
    rw [e1]
    have e2 : copyA 1 (some ⟨N, 5, none⟩) 116 (.slice (some ad) 128 c2) 128 = loadA ad 116 fun cs => match (some ⟨N, 5, none⟩ : Option Addr), cs with
      | _, [] => AE.val (.int .i64 (.ofNat 116))
      | some a, cs => storeA a cs (AE.val (.int .i64 (.ofNat 116)))
      | none, _ => .fail := rfl
    rw [e2]
    have e3 := loadA_run hbt (fun cs => match (some ⟨N, 5, none⟩ : Option Addr), cs with
      | _, [] => AE.val (.int .i64 (.ofNat 116))
      | some a, cs => storeA a cs (AE.val (.int .i64 (.ofNat 116)))
      | none, _ => .fail)
    rw [htl] at e3
    rw [e3]
    obtain ⟨x, r, hx⟩ : ∃ x r, l.take 116 = x :: r := by
      cases hh : l.take 116 with
      | nil => rw [hh] at htl; simp at htl
      | cons x r => exact ⟨x, r, rfl⟩
    rw [hx, List.map_cons]
    show (storeA ⟨N, 5, none⟩ (bv x :: r.map bv) (AE.val (.int .i64 (.ofNat 116)))).run (s.seen ad.block) = _
    rw [← List.map_cons, ← hx, storeA_run (s := s.seen ad.block) _ (bvs_one _) h.lt hN h1 (by rw [List.length_map, htl]; omega) (by omega)]
    rfl
  · have hw : 5 + ((l.take 116).map bv).length ≤ Tr.wide := by rw [List.length_map, htl]; unfold Tr.wide; omega
    show Row _ 0 ([.int .i64 d.kind, .int .i64 d.file, .int .i64 d.place, .int .i64 d.next, .int .i64 d.size] ++ (l.take 116).map bv)
    refine row_app (row_wr_far hw ?_ (.inl (by simp))) (row_wr hw)
    intro k v hk
    refine h2 k v ?_
    unfold LeafD.cells
    rw [List.getElem?_append_left (List.getElem?_eq_some_iff.1 hk).1]
    exact hk
end Go.Proofs.YtgofanjbhbeniaaDoor.lf
end
end

section
/- Leaves: the leaf of a block: told. -/
noncomputable section
namespace Go.Proofs.YtgofanjbhbeniaaDoor.lf
open AE
set_option linter.unusedSimpArgs false
set_option linter.unusedVariables false
set_option maxRecDepth 10000

abbrev sigG : List (Nat × (List Value → AM Value)) := [(36, twoA), (22, putA), (37, equalA)]
theorem tolds_G : Tolds Tryd.prog (sumsOf sigG) := tolds_cons told_two (tolds_cons told_put (tolds_cons told_equal tolds_nil))
theorem sg2 : sumsOf sigG 36 = some twoA := rfl
theorem sgP : sumsOf sigG 22 = some putA := rfl
theorem sgE : sumsOf sigG 37 = some equalA := rfl
theorem tg2 : ∀ a b, targetA E (.func 36) a b = .pure (.enter 36 (b ++ a)) := tgt (fi := fi2) (c := cd2) (by kernel_rfl) (by kernel_rfl)
theorem tgP : ∀ a b, targetA E (.func 22) a b = .pure (.enter 22 (b ++ a)) := tgt (fi := fiP) (c := cdP) (by kernel_rfl) (by kernel_rfl)
theorem tgE : ∀ a b, targetA E (.func 37) a b = .pure (.enter 37 (b ++ a)) := tgt (fi := fiE) (c := cdE) (by kernel_rfl) (by kernel_rfl)
noncomputable def fiG : FI := FI.of Tryd.f21
noncomputable def cdG : Code := bodyOf Tryd.f21
theorem resG : fiG.results = [.cell 2 30, .tmp 3] := rfl

theorem twoA_run {s : S} {p k n cap : Nat} {ad : Addr} {l : List UInt8} (H : Holds s p (.slice (some ad) n cap)) (hb : Bs s ad l) (hl : l.length = n) (h1 : 118 + k ≤ n) (h2 : k ≤ 1000) (h3 : n < 1000000) :
    (twoA [.int .i64 (.ofNat k), .pointer (some ⟨p, 0, none⟩)]).run s = some (.int .i64 (num2 (l.getD (116 + k) 0) (l.getD (117 + k) 0)), (s.seen p).seen ad.block) := by
  subst hl
  obtain ⟨c, m, q1, q2, q3⟩ := H.cell
  have hx : l[116 + k]? = some (l.getD (116 + k) 0) := by rw [List.getD_eq_getElem?_getD, List.getElem?_eq_getElem (by omega)]; rfl
  have hy : l[117 + k]? = some (l.getD (117 + k) 0) := by rw [List.getD_eq_getElem?_getD, List.getElem?_eq_getElem (by omega)]; rfl
  show (loadT tiB ⟨p, 0, none⟩ fun
    | .slice (some ad) n cap => when (Nat.ble (118 + k) n && Nat.ble k 1000 && Nat.blt n 1000000) (loadA ad n fun cs => opt (bytesV cs) fun l => opt l[116 + k]? fun x => opt l[117 + k]? fun y => .pure (Value.int .i64 (num2 x y)))
    | _ => .fail).run s = _
  unfold loadT
  rw [dsB]
  simp only [isAggD]
  have e3 := loadA_run (s := s.seen p) (hb.of rfl rfl) (fun cs => opt (bytesV cs) fun l => opt l[116 + k]? fun x => opt l[117 + k]? fun y => AM.pure (Value.int .i64 (num2 x y)))
  unfold loadA
  rcases q1 with ⟨e, rm, q1⟩ | ⟨e, q1⟩
  all_goals
    simp only [AM.run, blt_iff.2 H.lt, q1, when, show Nat.ble (Nat.add 0 1) m = true from ble_iff.2 q2, rdCells, show Nat.add 0 0 = 0 from rfl, q3, opt, ble_iff.2 h1, ble_iff.2 h2, blt_iff.2 h3, Bool.and_self]
    show (loadA ad l.length fun cs => opt (bytesV cs) fun l => opt l[116 + k]? fun x => opt l[117 + k]? fun y => AM.pure (Value.int .i64 (num2 x y))).run (s.seen p) = _
    rw [e3, bytesV_map]
    simp only [opt, hx, hy, AM.run]

theorem clash_bef (rd wr b i r w : Nat) (seen : List (Nat × Nat × Nat)) (h : Nat.testBit b i = true) : clash rd wr b (keepLog i r w seen) = clash rd wr b seen := by
  unfold keepLog
  split
  · rfl
  · show (match Nat.beq (Nat.lor (Nat.land w (Nat.lor rd wr)) (Nat.land r wr)) 0 with | true => clash rd wr b seen | false => match Nat.testBit b i with | true => clash rd wr b seen | false => true) = _
    rw [h]
    split <;> rfl
theorem land_new {lo hi n mk : Nat} (h : n < lo) : Nat.land (created lo hi) (bit mk n 0) = 0 := by
  apply Nat.eq_of_testBit_eq
  intro i
  show Nat.testBit (created lo hi &&& bit mk n 0) i = Nat.testBit 0 i
  rw [Nat.testBit_and, Nat.zero_testBit]
  unfold bit
  cases Nat.ble mk n with
  | true => simp
  | false =>
    show (Nat.testBit (created lo hi) i && Nat.testBit (0 ||| (1 <<< n)) i) = false
    rw [Nat.zero_or, Nat.one_shiftLeft, Nat.testBit_two_pow]
    by_cases hi' : n = i
    · subst hi'
      have : Nat.testBit (created lo hi) n = false := by
        unfold created
        split
        · simp
        · show Nat.testBit (((1 <<< (hi - lo)) - 1) <<< lo) n = false
          rw [Nat.testBit_shiftLeft]
          simp; omega
      rw [this]; rfl
    · simp [hi']
theorem clash_new {lo hi n mk : Nat} (h : n < lo) (b i : Nat) (seen : List (Nat × Nat × Nat)) : clash (bit mk n 0) 0 b (keepLog i 0 (created lo hi) seen) = clash (bit mk n 0) 0 b seen := by
  unfold keepLog
  split
  · rfl
  · show (match Nat.beq (Nat.lor (Nat.land (created lo hi) (Nat.lor (bit mk n 0) 0)) (Nat.land 0 0)) 0 with | true => clash (bit mk n 0) 0 b seen | false => _) = _
    rw [lor_zero', land_new h]
    try rfl

theorem places_eq : placesA E fsLf.toList = some [(0, 1), (1, 1), (2, 1), (3, 1), (4, 1), (5, 116)] := by kernel_rfl
theorem fillG (a b c e k : Int) : fillA (nthP [(0, 1), (1, 1), (2, 1), (3, 1), (4, 1), (5, 116)]) [(1, Value.int .i64 a), (2, .int .i64 b), (3, .int .i64 c), (4, .int .i64 e), (0, .int .i64 k)] zeroL.cells = some (⟨k, a, b, c, e, List.replicate 116 0⟩ : LeafD).cells := rfl
theorem sl_cells (a : Option Addr) (n c : Nat) : (Value.slice a n c).cells.toList = [.slice a n c] := rfl
theorem ptr_cells (a : Option Addr) : (Value.pointer a).cells.toList = [.pointer a] := rfl

theorem LfAt.loadK {β : Type} {s : S} {n : Nat} {d : LeafD} (h : LfAt s n d) (k : Value → AM β) : (loadT tiLf ⟨n, 0, none⟩ k).run s = (k (.agg ⟨d.cells⟩)).run (s.seen n) := by
  obtain ⟨c, e, rm, h1, h2⟩ := h.cell
  have h4 := rd_row h2
  rw [d.len h.len] at h4
  unfold loadT loadA
  rw [dsLf, szLf]
  simp only [isAggD, AM.run, blt_iff.2 h.lt, h1, when, show Nat.ble (Nat.add 0 121) 121 = true from rfl, opt, h4]
  rfl
/-- the memory of Get -/
structure GetAt (K : Nat) (s0 s : S) (ad : Addr) (cap : Nat) (l : List UInt8) : Prop where
  var : Holds s s0.next (.slice (some ad) 128 cap)
  out : LfAt s (s0.next + 1) zeroL
  bs : Bs s ad l
  old : ∀ m, (m < s0.next ∨ s0.next + K ≤ m) → s.heap.get m = s0.heap.get m
theorem GetAt.of {K : Nat} {s0 s s1 : S} {ad : Addr} {cap : Nat} {l : List UInt8} (h : GetAt K s0 s ad cap l) (hn : s.next ≤ s1.next) (had : ad.block < s0.next) (hh : ∀ m, (m < s0.next + 2 ∨ s0.next + K ≤ m) → s1.heap.get m = s.heap.get m) : GetAt K s0 s1 ad cap l :=
  ⟨h.var.keep hn (hh _ (.inl (by omega))), ⟨by have := h.out.lt; omega, by rw [hh _ (.inl (by omega))]; exact h.out.cell, h.out.len⟩, h.bs.keep hn (hh _ (.inl (by omega))), fun m hm => (hh m (by omega)).trans (h.old m hm)⟩
theorem equalA_run {s : S} {d : LeafD} {N : Nat} {ad : Addr} {l : List UInt8} {c2 : Nat} (hb : Bs s ad l) (hl : l.length = 128) (hd : d.load.length = 116) (hp : rightL d = true → N + 9 < s.next ∧ s.heap.get (N + 9) = some (.cells (Tr.ofList ((putL d).map bv)) (putL d).length 5 .whole)) :
    ∃ s1, (equalA [putV d N, .slice (some ad) 128 c2]).run s = some (.bool (rightL d && eqBytes (putL d) l), s1) ∧ s1.heap = s.heap ∧ s1.next = s.next ∧ s1.mark = s.mark ∧ s1.wr = s.wr := by
  unfold putV
  cases hR : rightL d with
  | false =>
    refine ⟨s.seen ad.block, ?_, rfl, rfl, rfl, rfl⟩
    show (loadA ad 128 fun cs => opt (bytesV cs) fun l2 => .pure (Value.bool (eqBytes [] l2))).run s = _
    rw [← hl, loadA_run hb, bytesV_map]
    cases l with
    | nil => simp at hl
    | cons x l => rfl
  | true =>
    obtain ⟨h1, h2⟩ := hp hR
    have hB := bs_new h1 h2 (by rw [putL_len d hd]; omega)
    refine ⟨(s.seen (N + 9)).seen ad.block, ?_, rfl, rfl, rfl, rfl⟩
    show (loadA ⟨N + 9, 0, none⟩ 128 fun cs => opt (bytesV cs) fun l1 => loadA ad 128 fun cs => opt (bytesV cs) fun l2 => .pure (Value.bool (eqBytes l1 l2))).run s = _
    have e1 := loadA_run hB (fun cs => opt (bytesV cs) fun l1 => loadA ad 128 fun cs => opt (bytesV cs) fun l2 => AM.pure (Value.bool (eqBytes l1 l2)))
    rw [putL_len d hd] at e1
    rw [e1, bytesV_map]
    have e2 := loadA_run (s := s.seen (N + 9)) (hb.of rfl rfl) (fun cs => opt (bytesV cs) fun l2 => AM.pure (Value.bool (eqBytes (putL d) l2)))
    rw [hl] at e2
    show (loadA ad 128 fun cs => opt (bytesV cs) fun l2 => .pure (Value.bool (eqBytes (putL d) l2))).run (s.seen (N + 9)) = _
    rw [e2, bytesV_map]
    rfl

set_option maxHeartbeats 2000000 in
theorem told_get : AE.Told Tryd.prog 21 getA := by
  refine told_go hE hmix tolds_G ?_
  intro args s v s' h hm
  unfold getA at h
  split at h
  · rename_i a n cap
    refine go_enter (fi := fiG) (c := cdG) (by kernel_rfl) (by kernel_rfl) 37 rfl rfl ?_
    have h0 : (Tr.ofList [Value.slice a n cap]).get 0 = some (.slice a n cap) := rfl
    generalize Tr.ofList [Value.slice a n cap] = t at *
    simp only [cdG, Tryd.f21, bodyOf]
    have hzb : Nat.ble zeroL.cells.length lastName = true := by rw [zeroL.len zero_len]; rfl
    have hzl : Nat.beq zeroL.cells.length 121 = true := by rw [zeroL.len zero_len]; rfl
    have i128 : (128 : Int) = Int.ofNat 128 := rfl
    have b_neq : ∀ E t (x y : Int), binA E .neq t (.int .i64 x) (.int .i64 y) = some (.bool (not (eqI x y))) := fun _ _ _ _ => rfl
    cases hn : Nat.beq n 128 with
    | false =>
      rw [hn] at h
      obtain ⟨s9, h3, hn9, hm9, hh9, hbl⟩ := bump_run 2 _ _ _ h
      cases h3
      have hN0 : Nat.ble s.next lastName = true := hbl 0 (by omega)
      have hN1 : Nat.ble (s.next + 1) lastName = true := hbl 1 (by omega)
      have hN1' : Nat.ble (Nat.succ s.next) lastName = true := hN1
      have hne : eqI (Int.ofNat n) (Int.ofNat 128) = false := eqI_f (fun e => by subst e; cases hn)
      repeat apply go_seq
      apply go_region
      case h => intro m; simp (maxSteps := 2000000) (disch := decide) only [opsLoop, evOper, wantedA, nth, aop, aPick, aBin, aIndexAddr, aFieldAddr, aLoad, aStore, aExtract, aConvert, aAlloc, aBox, aIndex, callA, builtinA, Fr.evs, opt, val, when, AM.run, outV, newA, ptr, force_eq, seen_heap, seen_next, seen_mark, seen_seen, agg_cells, int_cells, Fr.ev, Fr.put, onFr, gps, gpn, bltT, still, flat, List.append_nil, List.nil_append, List.cons_append, Nat.reduceEqDiff, ne_eq, not_false_eq_true, reduceCtorEq, Bool.and_true, Bool.true_and, Bool.and_false, Bool.false_and, Bool.not_true, Bool.not_false, Bool.and_self, h0, sl_cells, hN0, hN1', tyLf, zeLf, hzb, show Nat.ble ([Value.slice a n cap] : List Value).length lastName = true from rfl]; rfl
      generalize hs1 : S.mk _ _ _ _ _ = s1
      have e1 : s1.next = s.next + 2 := by rw [← hs1]
      have e1h : s1.heap = (s.heap.put s.next (some (.cells (Tr.ofList [Value.slice a n cap]) (List.length [Value.slice a n cap]) 51 .whole))).put (Nat.succ s.next) (some (.cells (Tr.ofList zeroL.cells) zeroL.cells.length 30 .whole)) := by rw [← hs1]
      clear hs1
      rw [show Nat.succ s.next = s.next + 1 from rfl] at e1h ⊢
      have V1 : Holds s1 s.next (.slice a n cap) := ⟨by omega, _, _, .inl ⟨_, _, by rw [e1h, hg_far hN1 (by omega)]; exact hg_same hN0 _ _⟩, Nat.le_refl 1, rfl⟩
      have O1 : LfAt s1 (s.next + 1) zeroL := ⟨by omega, ⟨_, _, _, by rw [e1h, hg_same hN1, zeroL.len zero_len], row_ofList _ (by rw [zeroL.len zero_len]; unfold Tr.wide; omega)⟩, zero_len⟩
      have lv := V1.load
      obtain ⟨c, e, rm, st, hrow⟩ := (O1.rd (Rd.seen s1 s.next)).store hN1 zero_len
      have O2 : LfAt (((s1.seen s.next).seen (s.next + 1)).turn (s.next + 1) (some (.cells c 121 e rm))) (s.next + 1) zeroL := ⟨by show s.next + 1 < s1.next; omega, ⟨c, e, rm, hg_same hN1 _ _, hrow⟩, zero_len⟩
      have lo := fun k : Value → AM Value => O2.loadK k
      repeat apply go_seq
      apply go_region
      case h => intro m; simp (maxSteps := 2000000) (disch := decide) only [opsLoop, evOper, wantedA, nth, aop, aPick, aBin, aIndexAddr, aFieldAddr, aLoad, aStore, aExtract, aConvert, aAlloc, aBox, aIndex, callA, builtinA, Fr.evs, opt, val, when, AM.run, outV, newA, ptr, force_eq, seen_heap, seen_next, seen_mark, seen_seen, agg_cells, int_cells, Fr.ev, Fr.put, onFr, gps, gpn, bltT, still, flat, List.append_nil, List.nil_append, List.cons_append, Nat.reduceEqDiff, ne_eq, not_false_eq_true, reduceCtorEq, Bool.and_true, Bool.true_and, Bool.and_false, Bool.false_and, Bool.not_true, Bool.not_false, Bool.and_self, tyB, dsB, lv, i128, b_neq, hne]; rfl
      repeat apply go_seq
      apply go_cond
      case hc => simp (disch := decide) only [opsLoop, evOper, wantedA, nth, aop, aPick, aBin, aIndexAddr, aFieldAddr, aLoad, aStore, aExtract, aConvert, aAlloc, aBox, aIndex, callA, builtinA, Fr.evs, opt, val, when, AM.run, outV, newA, ptr, force_eq, seen_heap, seen_next, seen_mark, seen_seen, agg_cells, int_cells, Fr.ev, Fr.put, onFr, gps, gpn, bltT, still, flat, List.append_nil, List.nil_append, List.cons_append, Nat.reduceEqDiff, ne_eq, not_false_eq_true, reduceCtorEq, Bool.and_true, Bool.true_and, Bool.and_false, Bool.false_and, Bool.not_true, Bool.not_false, Bool.and_self]; rfl
      case h2 => intro h; cases h
      intro _
      repeat apply go_seq
      apply go_region
      case h => intro m; simp (maxSteps := 2000000) (disch := decide) only [opsLoop, evOper, wantedA, nth, aop, aPick, aBin, aIndexAddr, aFieldAddr, aLoad, aStore, aExtract, aConvert, aAlloc, aBox, aIndex, callA, builtinA, Fr.evs, opt, val, when, AM.run, outV, newA, ptr, force_eq, seen_heap, seen_next, seen_mark, seen_seen, agg_cells, int_cells, Fr.ev, Fr.put, onFr, gps, gpn, bltT, still, flat, List.append_nil, List.nil_append, List.cons_append, Nat.reduceEqDiff, ne_eq, not_false_eq_true, reduceCtorEq, Bool.and_true, Bool.true_and, Bool.and_false, Bool.false_and, Bool.not_true, Bool.not_false, Bool.and_self, aBuild, evParts, tyLf, zeLf, dsLf, places_eq, fillA, szLf, hzl, st]; rfl
      repeat apply go_seq
      apply go_ret
      apply ret_intro rfl rfl
      case run => simp (disch := decide) only [resultsM, resultsA, resG, opsLoop, evOper, wantedA, nth, aop, aPick, aBin, aIndexAddr, aFieldAddr, aLoad, aStore, aExtract, aConvert, aAlloc, aBox, aIndex, callA, builtinA, Fr.evs, opt, val, when, AM.run, outV, newA, ptr, force_eq, seen_heap, seen_next, seen_mark, seen_seen, agg_cells, int_cells, Fr.ev, Fr.put, onFr, gps, gpn, bltT, still, flat, List.append_nil, List.nil_append, List.cons_append, Nat.reduceEqDiff, ne_eq, not_false_eq_true, reduceCtorEq, Bool.and_true, Bool.true_and, Bool.and_false, Bool.false_and, Bool.not_true, Bool.not_false, Bool.and_self, tyLf, lo]; rfl
      refine ⟨rfl, less_new (s := s) (n := 2) (by show s1.next ≤ _; omega) hn9 hh9 ?_⟩
      intro m hm2
      show (s1.heap.put (s.next + 1) _).get m = _
      rw [hg_far hN1 (by omega), e1h, hg_far hN1 (by omega), hg_far hN0 (by omega)]
    | true =>
      rw [hn] at h
      obtain rfl := beq_iff.1 hn
      cases a with
      | none => cases h
      | some ad =>
        have h2 : (loadA ad 128 fun cs => opt (bytesV cs) fun l => bump (3 + putN (sayL l)) (.pure (Value.tuple ⟨[.agg ⟨(getL l).cells⟩, .bool (getOK l)]⟩))).run s = some (v, s') := h
        clear h
        obtain ⟨l, hl, hb, h3⟩ := bs_of_load h2
        obtain ⟨s9, h4, hn9, hm9, hh9, hbl⟩ := bump_run _ _ _ _ h3
        cases h4
        clear h2 h3
        have hN0 : Nat.ble s.next lastName = true := hbl 0 (by omega)
        have hN1 : Nat.ble (s.next + 1) lastName = true := hbl 1 (by omega)
        have hN2 : Nat.ble (s.next + 2) lastName = true := hbl 2 (by omega)
        have hN0s : Nat.ble (s.seen ad.block).next lastName = true := hN0
        have hN1' : Nat.ble (Nat.succ s.next) lastName = true := hN1
        have had : ad.block < s.next := hb.lt
        have hn9 : s'.next = s.next + (3 + putN (sayL l)) := hn9
        have hh9 : ∀ m, s'.heap.get m = if s.next ≤ m ∧ m < s.next + (3 + putN (sayL l)) then none else s.heap.get m := hh9
        have hne : eqI (Int.ofNat 128) (Int.ofNat 128) = true := rfl
        repeat apply go_seq
        apply go_region
        case h => intro m; simp (maxSteps := 2000000) (disch := decide) only [opsLoop, evOper, wantedA, nth, aop, aPick, aBin, aIndexAddr, aFieldAddr, aLoad, aStore, aExtract, aConvert, aAlloc, aBox, aIndex, callA, builtinA, Fr.evs, opt, val, when, AM.run, outV, newA, ptr, force_eq, seen_heap, seen_next, seen_mark, seen_seen, agg_cells, int_cells, Fr.ev, Fr.put, onFr, gps, gpn, bltT, still, flat, List.append_nil, List.nil_append, List.cons_append, Nat.reduceEqDiff, ne_eq, not_false_eq_true, reduceCtorEq, Bool.and_true, Bool.true_and, Bool.and_false, Bool.false_and, Bool.not_true, Bool.not_false, Bool.and_self, h0, sl_cells, hN0, hN1', tyLf, zeLf, hzb, show Nat.ble ([Value.slice (some ad) 128 cap] : List Value).length lastName = true from rfl]; rfl
        generalize hs1 : S.mk _ _ _ _ _ = s1
        have e1 : s1.next = s.next + 2 := by rw [← hs1]
        have e1h : s1.heap = (s.heap.put s.next (some (.cells (Tr.ofList [Value.slice (some ad) 128 cap]) (List.length [Value.slice (some ad) 128 cap]) 51 .whole))).put (Nat.succ s.next) (some (.cells (Tr.ofList zeroL.cells) zeroL.cells.length 30 .whole)) := by rw [← hs1]
        clear hs1
        rw [show Nat.succ s.next = s.next + 1 from rfl] at e1h ⊢
        have G1 : GetAt (3 + putN (sayL l)) s s1 ad cap l := by
          refine ⟨⟨by omega, _, _, .inl ⟨_, _, by rw [e1h, hg_far hN1 (by omega)]; exact hg_same hN0 _ _⟩, Nat.le_refl 1, rfl⟩, ⟨by omega, ⟨_, _, _, by rw [e1h, hg_same hN1, zeroL.len zero_len], row_ofList _ (by rw [zeroL.len zero_len]; unfold Tr.wide; omega)⟩, zero_len⟩, hb.keep (by omega) ?_, ?_⟩
          · rw [e1h, hg_far hN1 (by omega), hg_far hN0 (by omega)]
          · intro m hm2
            rw [e1h, hg_far hN1 (by omega), hg_far hN0 (by omega)]
        have lv := G1.var.load
        repeat apply go_seq
        apply go_region
        case h => intro m; simp (maxSteps := 2000000) (disch := decide) only [opsLoop, evOper, wantedA, nth, aop, aPick, aBin, aIndexAddr, aFieldAddr, aLoad, aStore, aExtract, aConvert, aAlloc, aBox, aIndex, callA, builtinA, Fr.evs, opt, val, when, AM.run, outV, newA, ptr, force_eq, seen_heap, seen_next, seen_mark, seen_seen, agg_cells, int_cells, Fr.ev, Fr.put, onFr, gps, gpn, bltT, still, flat, List.append_nil, List.nil_append, List.cons_append, Nat.reduceEqDiff, ne_eq, not_false_eq_true, reduceCtorEq, Bool.and_true, Bool.true_and, Bool.and_false, Bool.false_and, Bool.not_true, Bool.not_false, Bool.and_self, tyB, dsB, lv, i128, b_neq, hne]; rfl
        repeat apply go_seq
        apply go_cond
        case hc => simp (disch := decide) only [opsLoop, evOper, wantedA, nth, aop, aPick, aBin, aIndexAddr, aFieldAddr, aLoad, aStore, aExtract, aConvert, aAlloc, aBox, aIndex, callA, builtinA, Fr.evs, opt, val, when, AM.run, outV, newA, ptr, force_eq, seen_heap, seen_next, seen_mark, seen_seen, agg_cells, int_cells, Fr.ev, Fr.put, onFr, gps, gpn, bltT, still, flat, List.append_nil, List.nil_append, List.cons_append, Nat.reduceEqDiff, ne_eq, not_false_eq_true, reduceCtorEq, Bool.and_true, Bool.true_and, Bool.and_false, Bool.false_and, Bool.not_true, Bool.not_false, Bool.and_self]; rfl
        case h1 => intro h; cases h
        intro _
        apply go_skip
        repeat apply go_seq
        apply go_region
        case h => intro m; simp (maxSteps := 2000000) (disch := decide) only [opsLoop, evOper, wantedA, nth, aop, aPick, aBin, aIndexAddr, aFieldAddr, aLoad, aStore, aExtract, aConvert, aAlloc, aBox, aIndex, callA, builtinA, Fr.evs, opt, val, when, AM.run, outV, newA, ptr, force_eq, seen_heap, seen_next, seen_mark, seen_seen, agg_cells, int_cells, Fr.ev, Fr.put, onFr, gps, gpn, bltT, still, flat, List.append_nil, List.nil_append, List.cons_append, Nat.reduceEqDiff, ne_eq, not_false_eq_true, reduceCtorEq, Bool.and_true, Bool.true_and, Bool.and_false, Bool.false_and, Bool.not_true, Bool.not_false, Bool.and_self, aMakeFunc]; rfl
        -- the numbers
        have S0 : GetAt (3 + putN (sayL l)) s ⟨s1.heap, s1.next, s1.next, 0, 0⟩ ad cap l := G1.of (Nat.le_refl _) had (fun m _ => rfl)
        have lv0 := S0.var.load
        have t0 := twoA_run (k := 0) S0.var S0.bs hl (by omega) (by omega) (by omega)
        have t2 := twoA_run (k := 2) S0.var S0.bs hl (by omega) (by omega) (by omega)
        have t4 := twoA_run (k := 4) S0.var S0.bs hl (by omega) (by omega) (by omega)
        have hx : l[122]? = some (l.getD 122 0) := by rw [List.getD_eq_getElem?_getD, List.getElem?_eq_getElem (by omega)]; rfl
        have hy : l[123]? = some (l.getD 123 0) := by rw [List.getD_eq_getElem?_getD, List.getElem?_eq_getElem (by omega)]; rfl
        have lx := sum.byte_load (Bs.at S0.bs hx) tiU8 dsU8
        have ly := sum.byte_load (Bs.at S0.bs hy) tiU8 dsU8
        have w1 : wrapA .i64 (Int.ofNat (l.getD 122 0).toNat) = Int.ofNat (l.getD 122 0).toNat := cv64 (by have := (l.getD 122 0).toNat_lt; omega)
        have w2 : wrapA .i64 (Int.ofNat (l.getD 123 0).toNat) = Int.ofNat (l.getD 123 0).toNat := cv64 (by have := (l.getD 123 0).toNat_lt; omega)
        have fg := fillG (num2 (l.getD 116 0) (l.getD 117 0)) (num2 (l.getD 118 0) (l.getD 119 0)) (num2 (l.getD 120 0) (l.getD 121 0)) (Int.ofNat (l.getD 122 0).toNat) (Int.ofNat (l.getD 123 0).toNat)
        generalize hdz : (⟨Int.ofNat (l.getD 123 0).toNat, num2 (l.getD 116 0) (l.getD 117 0), num2 (l.getD 118 0) (l.getD 119 0), num2 (l.getD 120 0) (l.getD 121 0), Int.ofNat (l.getD 122 0).toNat, List.replicate 116 0⟩ : LeafD) = dz at fg
        have hdl : dz.load.length = 116 := by rw [← hdz]; simp
        have hdc : Nat.beq dz.cells.length 121 = true := by rw [dz.len hdl]; rfl
        have hN2' : Nat.ble s1.next lastName = true := by rw [e1]; exact hN2
        have L4 : LfAt ⟨s1.heap.put s1.next (some (.cells (Tr.ofList zeroL.cells) zeroL.cells.length 30 .whole)), Nat.succ s1.next, Nat.succ s1.next, 0, 0⟩ s1.next zeroL :=
          ⟨Nat.lt_succ_self _, ⟨_, _, _, by rw [zeroL.len zero_len]; exact hg_same hN2' _ _, row_ofList _ (by rw [zeroL.len zero_len]; unfold Tr.wide; omega)⟩, zero_len⟩
        obtain ⟨c4, e4, rm4, st4, hrow4⟩ := L4.store hN2' hdl
        simp only [S.seen] at lv0 t0 t2 t4 lx ly
        simp only [S.seen, S.turn] at st4
        have i2 : (2 : Int) = Int.ofNat 2 := rfl
        have i4 : (4 : Int) = Int.ofNat 4 := rfl
        have i122 : (122 : Int) = Int.ofNat 122 := rfl
        have i123 : (123 : Int) = Int.ofNat 123 := rfl
        repeat apply go_seq
        apply go_drawn
        case hs => rfl
        case h => intro m; simp (maxSteps := 2000000) (disch := decide) only [opsLoop, evOper, wantedA, nth, aop, aPick, aBin, aIndexAddr, aFieldAddr, aLoad, aStore, aExtract, aConvert, aAlloc, aBox, aIndex, callA, Fr.evs, opt, val, when, AM.run, outV, newA, ptr, force_eq, seen_heap, seen_next, seen_mark, seen_seen, agg_cells, int_cells, Fr.ev, Fr.put, onFr, gps, gpn, bltT, still, flat, List.append_nil, List.nil_append, List.cons_append, Nat.reduceEqDiff, ne_eq, not_false_eq_true, reduceCtorEq, Bool.and_true, Bool.true_and, Bool.and_false, Bool.false_and, Bool.not_true, Bool.not_false, Bool.and_self, drawnLoop, keep_none, clash_nil, clash_reads, created_self, lor_zero, lor_zero', tg2, evT_told sg2, int0, i2, i4, i122, i123, t0, t2, t4, tyB, dsB, tyI, dsI, tyU8, dsU8, szU8, lv0, show Nat.blt 122 128 = true from rfl, show Nat.blt 123 128 = true from rfl, mul1, lx, ly, w1, w2, aBuild, evParts, tyLf, zeLf, dsLf, szLf, places_eq, fg, hzb, hN2', hdc, st4, clash_bef]; rfl
        generalize hs4 : S.mk _ _ _ _ _ = s4
        have f4 : s4.next = s.next + 3 := by rw [← hs4]; show s1.next + 1 = _; omega
        have f4h : s4.heap = (s1.heap.put s1.next (some (.cells (Tr.ofList zeroL.cells) zeroL.cells.length 30 .whole))).put s1.next (some (.cells c4 121 e4 rm4)) := by rw [← hs4]
        clear hs4
        rw [e1] at f4h ⊢
        have G4 : GetAt (3 + putN (sayL l)) s s4 ad cap l := G1.of (by omega) had (fun m hm => by rw [f4h, hg_far hN2 (by omega), hg_far hN2 (by omega)])
        have S5 : GetAt (3 + putN (sayL l)) s ⟨s4.heap, s4.next, s4.next, 0, 0⟩ ad cap l := G4.of (Nat.le_refl _) had (fun m _ => rfl)
        have hlt4 : s.next + 2 < s4.next := by omega
        have L5 : LfAt ⟨s4.heap, s4.next, s4.next, 0, 0⟩ (s.next + 2) dz := ⟨hlt4, ⟨c4, e4, rm4, by show s4.heap.get _ = _; rw [f4h]; exact hg_same hN2 _ _, hrow4⟩, hdl⟩
        have lv5 := S5.var.load
        obtain ⟨c5, e5, rm5, cp, hrow5⟩ := copy_b (c2 := cap) L5 hN2 S5.bs hl
        simp only [S.seen, S.turn] at lv5 cp
        repeat apply go_seq
        apply go_drawn
        case hs => rfl
        case h => intro m; simp (maxSteps := 2000000) (disch := decide) only [opsLoop, evOper, wantedA, nth, aop, aPick, aBin, aIndexAddr, aFieldAddr, aLoad, aStore, aExtract, aConvert, aAlloc, aBox, aIndex, callA, Fr.evs, opt, val, when, AM.run, outV, newA, ptr, force_eq, seen_heap, seen_next, seen_mark, seen_seen, agg_cells, int_cells, Fr.ev, Fr.put, onFr, gps, gpn, bltT, still, flat, List.append_nil, List.nil_append, List.cons_append, Nat.reduceEqDiff, ne_eq, not_false_eq_true, reduceCtorEq, Bool.and_true, Bool.true_and, Bool.and_false, Bool.false_and, Bool.not_true, Bool.not_false, Bool.and_self, drawnLoop, keep_none, clash_nil, clash_reads, created_self, lor_zero, lor_zero', tyLf, dsLf, fl5, ft5, fo5, tyA, dsA, szA, tyU8, szU8, ble1A, ad5, aSlice, lowHigh, sliceP, addIf0, show Nat.ble 0 116 = true from rfl, show Nat.ble 116 116 = true from rfl, show Nat.blt 116 OPEN = true from rfl, show Nat.sub 116 0 = 116 from rfl, tyB, dsB, lv5, cp, clash_bef]; rfl
        generalize hs5 : S.mk _ _ _ _ _ = s5
        have f5 : s5.next = s.next + 3 := by rw [← hs5]; exact f4
        have f5h : s5.heap = s4.heap.put (s.next + 2) (some (.cells c5 121 e5 rm5)) := by rw [← hs5]
        clear hs5
        have hdd : ({ dz with load := l.take 116 } : LeafD) = sayL l := by rw [← hdz]; rfl
        rw [hdd] at hrow5
        have hsl : (sayL l).load.length = 116 := by show (l.take 116).length = 116; rw [List.length_take]; omega
        have G5 : GetAt (3 + putN (sayL l)) s s5 ad cap l := G4.of (by omega) had (fun m hm => by rw [f5h, hg_far hN2 (by omega)])
        have hlt5 : s.next + 2 < s5.next := by omega
        have c5' : s5.heap.get (s.next + 2) = some (.cells c5 121 e5 rm5) := by rw [f5h]; exact hg_same hN2 _ _
        have L6 : LfAt ⟨s5.heap, s5.next, s5.next, 0, 0⟩ (s.next + 2) (sayL l) := ⟨hlt5, ⟨c5, e5, rm5, c5', hrow5⟩, hsl⟩
        have ld := L6.load
        obtain ⟨s6, pr, p2, p3, prd, pwr, p4, p5⟩ := putA_run (s := ⟨s5.heap, s5.next, s5.next, 0, 0⟩) hsl (Nat.le_refl _) (fun i hi => by
          show Nat.ble (s5.next + i) lastName = true
          rw [f5, Nat.add_assoc]
          exact hbl (3 + i) (by omega))
        have pr : (putA [.agg ⟨(sayL l).cells⟩]).run ⟨s5.heap, s5.next, s5.next, 0, 0⟩ = some (putV (sayL l) s5.next, s6) := pr
        have p2 : s6.next = s5.next + putN (sayL l) := p2
        have p4 : ∀ m, (m < s5.next ∨ s5.next + putN (sayL l) ≤ m) → s6.heap.get m = s5.heap.get m := p4
        have prd : s6.rd = 0 := prd
        have pwr : s6.wr = 0 := pwr
        have S7 : GetAt (3 + putN (sayL l)) s ⟨s6.heap, s6.next, s6.next, 0, 0⟩ ad cap l := G5.of (by show s5.next ≤ s6.next; omega) had (fun m hm => p4 m (by omega))
        have lv7 := S7.var.load
        obtain ⟨s8, er, r1, r2, r3, r4⟩ := equalA_run (c2 := cap) (N := s5.next) S7.bs hl hsl (fun hR => ⟨by show s5.next + 9 < s6.next; rw [p2]; unfold putN; rw [if_pos hR]; omega, p5 hR⟩)
        have er : (equalA [putV (sayL l) s5.next, .slice (some ad) 128 cap]).run ⟨s6.heap, s6.next, s6.next, 0, 0⟩ = some (.bool (getOK l), s8) := er
        have r1 : s8.heap = s6.heap := r1
        have r2 : s8.next = s6.next := r2
        have r4 : s8.wr = 0 := r4
        have hcn := clash_new (lo := s5.next) (hi := s6.next) (n := s.next) (mk := s6.next) (by omega)
        simp only [S.seen] at ld lv7
        repeat apply go_seq
        apply go_drawn
        case hs => rfl
        case h => intro m; simp (maxSteps := 2000000) (disch := decide) only [opsLoop, evOper, wantedA, nth, aop, aPick, aBin, aIndexAddr, aFieldAddr, aLoad, aStore, aExtract, aConvert, aAlloc, aBox, aIndex, callA, Fr.evs, opt, val, when, AM.run, outV, newA, ptr, force_eq, seen_heap, seen_next, seen_mark, seen_seen, agg_cells, int_cells, Fr.ev, Fr.put, onFr, gps, gpn, bltT, still, flat, List.append_nil, List.nil_append, List.cons_append, Nat.reduceEqDiff, ne_eq, not_false_eq_true, reduceCtorEq, Bool.and_true, Bool.true_and, Bool.and_false, Bool.false_and, Bool.not_true, Bool.not_false, Bool.and_self, drawnLoop, keep_none, clash_nil, clash_reads, created_self, lor_zero, lor_zero', tyLf, ld, tgP, evT_told sgP, pr, prd, pwr, tyB, lv7, hcn, tgE, evT_told sgE, er, r4, clash_bef, u_not]; rfl
        generalize hs9 : S.mk _ _ _ _ _ = s9
        have f9 : s9.next = s6.next := by rw [← hs9]; exact r2
        have f9h : s9.heap = s6.heap := by rw [← hs9]; exact r1
        clear hs9
        have G9 : GetAt (3 + putN (sayL l)) s s9 ad cap l := S7.of (by rw [f9]; exact Nat.le_refl _) had (fun m _ => by rw [f9h])
        have hlt9 : s.next + 2 < s9.next := by omega
        have L9 : LfAt s9 (s.next + 2) (sayL l) := ⟨hlt9, by rw [f9h, p4 _ (.inl (by omega))]; exact ⟨c5, e5, rm5, c5', hrow5⟩, hsl⟩
        have hless : ∀ s10 : S, s10.next = s9.next → (∀ m, m ≠ s.next + 1 → s10.heap.get m = s9.heap.get m) → Less' s10 s' := by
          intro s10 q1 q2
          refine less_new (s := s) (n := 3 + putN (sayL l)) (by rw [q1, hn9]; omega) hn9 hh9 ?_
          intro m hm2
          rw [q2 m (by omega)]
          exact G9.old m (by omega)
        have hlt1 : s.next + 1 < s9.next := by omega
        cases hok : getOK l with
        | false =>
          have hgl : getL l = zeroL := by unfold getL; rw [hok]; rfl
          obtain ⟨c, e, rm, st, hrow⟩ := G9.out.store hN1 zero_len
          have O2 : LfAt ((s9.seen (s.next + 1)).turn (s.next + 1) (some (.cells c 121 e rm))) (s.next + 1) zeroL := ⟨hlt1, ⟨c, e, rm, hg_same hN1 _ _, hrow⟩, zero_len⟩
          have lo := fun k : Value → AM Value => O2.loadK k
          repeat apply go_seq
          apply go_cond
          case hc => simp (disch := decide) only [opsLoop, evOper, wantedA, nth, aop, aPick, aBin, aIndexAddr, aFieldAddr, aLoad, aStore, aExtract, aConvert, aAlloc, aBox, aIndex, callA, builtinA, Fr.evs, opt, val, when, AM.run, outV, newA, ptr, force_eq, seen_heap, seen_next, seen_mark, seen_seen, agg_cells, int_cells, Fr.ev, Fr.put, onFr, gps, gpn, bltT, still, flat, List.append_nil, List.nil_append, List.cons_append, Nat.reduceEqDiff, ne_eq, not_false_eq_true, reduceCtorEq, Bool.and_true, Bool.true_and, Bool.and_false, Bool.false_and, Bool.not_true, Bool.not_false, Bool.and_self, hok]; rfl
          case h2 => intro h; cases h
          intro _
          repeat apply go_seq
          apply go_region
          case h => intro m; simp (maxSteps := 2000000) (disch := decide) only [opsLoop, evOper, wantedA, nth, aop, aPick, aBin, aIndexAddr, aFieldAddr, aLoad, aStore, aExtract, aConvert, aAlloc, aBox, aIndex, callA, builtinA, Fr.evs, opt, val, when, AM.run, outV, newA, ptr, force_eq, seen_heap, seen_next, seen_mark, seen_seen, agg_cells, int_cells, Fr.ev, Fr.put, onFr, gps, gpn, bltT, still, flat, List.append_nil, List.nil_append, List.cons_append, Nat.reduceEqDiff, ne_eq, not_false_eq_true, reduceCtorEq, Bool.and_true, Bool.true_and, Bool.and_false, Bool.false_and, Bool.not_true, Bool.not_false, Bool.and_self, aBuild, evParts, tyLf, zeLf, dsLf, places_eq, fillA, szLf, hzl, st]; rfl
          repeat apply go_seq
          apply go_ret
          apply ret_intro rfl rfl
          case run => simp (disch := decide) only [resultsM, resultsA, resG, opsLoop, evOper, wantedA, nth, aop, aPick, aBin, aIndexAddr, aFieldAddr, aLoad, aStore, aExtract, aConvert, aAlloc, aBox, aIndex, callA, builtinA, Fr.evs, opt, val, when, AM.run, outV, newA, ptr, force_eq, seen_heap, seen_next, seen_mark, seen_seen, agg_cells, int_cells, Fr.ev, Fr.put, onFr, gps, gpn, bltT, still, flat, List.append_nil, List.nil_append, List.cons_append, Nat.reduceEqDiff, ne_eq, not_false_eq_true, reduceCtorEq, Bool.and_true, Bool.true_and, Bool.and_false, Bool.false_and, Bool.not_true, Bool.not_false, Bool.and_self, tyLf, lo]; rfl
          refine ⟨by rw [hgl], hless _ rfl ?_⟩
          intro m hm2
          exact hg_far hN1 hm2 _ _
        | true =>
          have hgl : getL l = sayL l := by unfold getL; rw [hok]; rfl
          obtain ⟨c, e, rm, st, hrow⟩ := (G9.out.rd (Rd.seen s9 (s.next + 2))).store hN1 hsl
          have O2 : LfAt (((s9.seen (s.next + 2)).seen (s.next + 1)).turn (s.next + 1) (some (.cells c 121 e rm))) (s.next + 1) (sayL l) := ⟨hlt1, ⟨c, e, rm, hg_same hN1 _ _, hrow⟩, hsl⟩
          have lo := fun k : Value → AM Value => O2.loadK k
          have ld9 := L9.load
          have hsc : Nat.beq (sayL l).cells.length 121 = true := by rw [(sayL l).len hsl]; rfl
          repeat apply go_seq
          apply go_cond
          case hc => simp (disch := decide) only [opsLoop, evOper, wantedA, nth, aop, aPick, aBin, aIndexAddr, aFieldAddr, aLoad, aStore, aExtract, aConvert, aAlloc, aBox, aIndex, callA, builtinA, Fr.evs, opt, val, when, AM.run, outV, newA, ptr, force_eq, seen_heap, seen_next, seen_mark, seen_seen, agg_cells, int_cells, Fr.ev, Fr.put, onFr, gps, gpn, bltT, still, flat, List.append_nil, List.nil_append, List.cons_append, Nat.reduceEqDiff, ne_eq, not_false_eq_true, reduceCtorEq, Bool.and_true, Bool.true_and, Bool.and_false, Bool.false_and, Bool.not_true, Bool.not_false, Bool.and_self, hok]; rfl
          case h1 => intro h; cases h
          intro _
          apply go_skip
          repeat apply go_seq
          apply go_region
          case h => intro m; simp (maxSteps := 2000000) (disch := decide) only [opsLoop, evOper, wantedA, nth, aop, aPick, aBin, aIndexAddr, aFieldAddr, aLoad, aStore, aExtract, aConvert, aAlloc, aBox, aIndex, callA, builtinA, Fr.evs, opt, val, when, AM.run, outV, newA, ptr, force_eq, seen_heap, seen_next, seen_mark, seen_seen, agg_cells, int_cells, Fr.ev, Fr.put, onFr, gps, gpn, bltT, still, flat, List.append_nil, List.nil_append, List.cons_append, Nat.reduceEqDiff, ne_eq, not_false_eq_true, reduceCtorEq, Bool.and_true, Bool.true_and, Bool.and_false, Bool.false_and, Bool.not_true, Bool.not_false, Bool.and_self, tyLf, ld9, szLf, hsc, st]; rfl
          repeat apply go_seq
          apply go_ret
          apply ret_intro rfl rfl
          case run => simp (disch := decide) only [resultsM, resultsA, resG, opsLoop, evOper, wantedA, nth, aop, aPick, aBin, aIndexAddr, aFieldAddr, aLoad, aStore, aExtract, aConvert, aAlloc, aBox, aIndex, callA, builtinA, Fr.evs, opt, val, when, AM.run, outV, newA, ptr, force_eq, seen_heap, seen_next, seen_mark, seen_seen, agg_cells, int_cells, Fr.ev, Fr.put, onFr, gps, gpn, bltT, still, flat, List.append_nil, List.nil_append, List.cons_append, Nat.reduceEqDiff, ne_eq, not_false_eq_true, reduceCtorEq, Bool.and_true, Bool.true_and, Bool.and_false, Bool.false_and, Bool.not_true, Bool.not_false, Bool.and_self, tyLf, lo]; rfl
          refine ⟨by rw [hgl], hless _ rfl ?_⟩
          intro m hm2
          exact hg_far hN1 hm2 _ _
  · cases h
end Go.Proofs.YtgofanjbhbeniaaDoor.lf
end
end
