/- Leaves: rules for parts of a region; bytes that are put behind others; the sum of bytes as a list has it; bytes closed with their sum. -/
import Derived.Test.YtioieffmihdheaaDoorLf4
noncomputable section
namespace Go.Proofs.YtioieffmihdheaaDoor.lf
open AE
set_option linter.unusedSimpArgs false
set_option linter.unusedVariables false
set_option maxRecDepth 10000

/-! a region in parts -/
def GoO (σ : Sums) (all l : List Oper) (fr : Fr) (s : S) (Q : Fr → S → Prop) : Prop := ∃ fr' s', Q fr' s' ∧ ∀ m, opsLoop (evT E σ (m + 1)) E all l fr s = some (fr', s')
theorem go_ops {σ : Sums} {id : Nat} {ops : Array Oper} {fr : Fr} {s : S} {Q : Ex → Fr → S → Prop} (h : GoO σ ops.toList ops.toList fr s (fun fr s => Q .normal fr s)) : GoC E σ (.region id ops false) fr s Q := by
  obtain ⟨fr', s', hq, h⟩ := h
  exact go_region h hq
theorem opsLoop_app {rc : Rec} {all : List Oper} : ∀ (a b : List Oper) (fr : Fr) (s : S), opsLoop rc E all (a ++ b) fr s = match opsLoop rc E all a fr s with | some (fr, s) => opsLoop rc E all b fr s | none => none
  | [], b, fr, s => rfl
  | o :: a, b, fr, s => by
    simp only [List.cons_append, opsLoop]
    cases evOper rc E false all o fr s with
    | none => rfl
    | some p => exact opsLoop_app a b p.1 p.2
theorem go_take {σ : Sums} {all l : List Oper} {fr fr1 : Fr} {s s1 : S} {Q : Fr → S → Prop} (n : Nat) (h : ∀ m, opsLoop (evT E σ (m + 1)) E all (l.take n) fr s = some (fr1, s1)) (hq : GoO σ all (l.drop n) fr1 s1 Q) : GoO σ all l fr s Q := by
  obtain ⟨fr', s', hq, h2⟩ := hq
  refine ⟨fr', s', hq, fun m => ?_⟩
  have e : l = l.take n ++ l.drop n := (List.take_append_drop n l).symm
  rw [e, opsLoop_app, h m]
  exact h2 m
theorem go_done {σ : Sums} {all : List Oper} {fr : Fr} {s : S} {Q : Fr → S → Prop} (h : Q fr s) : GoO σ all [] fr s Q := ⟨fr, s, h, fun _ => rfl⟩

/-! bytes behind others -/
theorem len_b (a : Option Addr) (n c : Nat) : builtinA E .len #[25] [.slice a n c] = AE.val (.int .i64 (.ofNat n)) := by
  simp only [builtinA, tyB, opt, dsB]
theorem len_i (a : Option Addr) (n c : Nat) : builtinA E .len #[39] [.slice a n c] = AE.val (.int .i64 (.ofNat n)) := by
  simp only [builtinA, tyL, opt, dsL]
theorem bv_one (x : UInt8) : oneB (bv x) = true := rfl
theorem bvs_one : ∀ l : List UInt8, allOne (l.map bv) = true
  | [] => rfl
  | x :: l => by simp only [List.map_cons, allOne, bv_one, bvs_one l]
theorem loadA_run {β : Type} {s : S} {ad : Addr} {l : List UInt8} (h : Bs s ad l) (k : List Value → AM β) : (loadA ad l.length k).run s = (k (l.map bv)).run (s.seen ad.block) := by
  obtain ⟨c, m, e, rm, h1, h2, h3⟩ := h.cell
  have h4 := rd_row h3
  rw [List.length_map] at h4
  unfold loadA
  rw [h.spot]
  simp only [AM.run, blt_iff.2 h.lt, h1, when, show Nat.ble (Nat.add ad.off l.length) m = true from ble_iff.2 h2, opt, h4]
  rfl
theorem storeA_run {β : Type} {s : S} {N o m : Nat} {vs : List Value} {c : Tr Value} {e : TypeId} {rm : Room} (k : AM β) (h1 : allOne vs = true) (hlt : N < s.next) (hN : Nat.ble N lastName = true) (hg : s.heap.get N = some (.cells c m e rm)) (ho : o + vs.length ≤ m) (hm : m ≤ 1000000000) :
    (storeA ⟨N, o, none⟩ vs k).run s = k.run ((s.seen N).turn N (some (.cells (wrCells c o vs) m e rm))) := by
  have h6 : Nat.ble m lastName = true := ble_iff.2 (by unfold lastName; omega)
  unfold storeA
  simp only [h1, when, AM.run, blt_iff.2 hlt, hg, show Nat.ble (Nat.add o vs.length) m = true from ble_iff.2 ho, h6, hN, Bool.and_self]
  rfl
theorem append_b {s : S} {N len cap n c2 m : Nat} {ad : Addr} {l : List UInt8} {c : Tr Value} {e : TypeId} {rm : Room} (hb : Bs s ad l) (hn : l.length = n) (hn0 : 0 < n) (hlt : N < s.next) (hg : s.heap.get N = some (.cells c m e rm)) (hN : Nat.ble N lastName = true)
    (hc1 : len + n ≤ cap) (hc2 : cap ≤ m) (hm : m ≤ 1000000000) (hmax : len + n ≤ 1000000) :
    ∃ s1, (builtinA E .append #[25, 25] [.slice (some ⟨N, 0, none⟩) len cap, .slice (some ad) n c2]).run s = some (.value (.slice (some ⟨N, 0, none⟩) (len + n) cap), s1) ∧
      s1.heap = s.heap.put N (some (.cells (wrCells c len (l.map bv)) m e rm)) ∧ s1.next = s.next ∧ s1.mark = s.mark := by
  subst hn
  obtain ⟨x, l', rfl⟩ : ∃ x l', l = x :: l' := by
    cases l with
    | nil => simp at hn0
    | cons x l' => exact ⟨x, l', rfl⟩
  have h1 : Nat.ble OPEN cap = false := ble_f (by unfold OPEN; omega)
  have h2 : Nat.ble (Nat.add len (x :: l').length) cap = true := ble_iff.2 hc1
  have h3 : Nat.ble (Nat.add len (x :: l').length) maxNeed = true := ble_iff.2 (by show len + _ ≤ maxNeed; unfold maxNeed; omega)
  have h8 : addA ⟨N, 0, none⟩ (Nat.mul len 1) = ⟨N, len, none⟩ := by rw [mul1, add0]
  refine ⟨((s.seen ad.block).seen N).turn N (some (.cells (wrCells c len ((x :: l').map bv)) m e rm)), ?_, rfl, rfl, rfl⟩
  have e1 : builtinA E .append #[25, 25] [.slice (some ⟨N, 0, none⟩) len cap, .slice (some ad) (x :: l').length c2] = appendA 1 1 1 5 (some ⟨N, 0, none⟩) len cap (x :: l').length (.slice (some ad) (x :: l').length c2) := by
    simp only [builtinA, tyB, dsB, opt, tyU8, zeU8, szU8, byU8, lenA, int_cells]
    rfl
  rw [e1]
  unfold appendA
  simp only [h3, when, show Nat.ble 1 1 = true from rfl, show Nat.ble 1 1024 = true from rfl, Bool.and_self]
  have e2 : ∀ k : List Value → AM ANext, firstA 1 (x :: l').length (.slice (some ad) (x :: l').length c2) k = loadA ad (x :: l').length k := fun k => by
    show loadA ad (Nat.mul (x :: l').length 1) k = _
    rw [mul1]
  rw [e2, loadA_run hb]
  simp only [h1, h2]
  show (storeA (addA ⟨N, 0, none⟩ (Nat.mul len 1)) ((x :: l').map bv) (AE.val (.slice (some ⟨N, 0, none⟩) (Nat.add len (x :: l').length) cap))).run (s.seen ad.block) = _
  rw [h8, storeA_run (s := s.seen ad.block) _ (bvs_one _) hlt hN hg (by rw [List.length_map]; omega) hm]
  rfl

/-! the sum, over lists -/
def crcR : List UInt8 → Nat → Nat
  | [], r => r
  | x :: l, r => crcR l (crcByte r x.toNat)
theorem crcVals_map : ∀ (l : List UInt8) (r : Nat), crcVals (l.map bv) r = some (crcR l r)
  | [], r => rfl
  | x :: l, r => by
    have h : Nat.blt x.toNat 256 = true := blt_iff.2 x.toNat_lt
    simp only [List.map_cons, bv, crcVals, h, force_eq, crcR]
    exact crcVals_map l _
def crc32 (l : List UInt8) : Nat := Nat.xor 4294967295 (crcR l 4294967295)
theorem crcA_run {s : S} {ad : Addr} {l : List UInt8} (h : Bs s ad l) (h0 : 0 < l.length) (hl : l.length ≤ 1000000) (cap : Nat) : (crcA [.slice (some ad) l.length cap]).run s = some (.int .u32 (.ofNat (crc32 l)), s.seen ad.block) := by
  obtain ⟨x, l', rfl⟩ : ∃ x l', l = x :: l' := by
    cases l with
    | nil => simp at h0
    | cons x l' => exact ⟨x, l', rfl⟩
  have h1 : Nat.blt l'.length 1099511627776 = true := blt_iff.2 (by simp at hl; omega)
  show (when (Nat.blt l'.length 1099511627776) <| loadA ad (x :: l').length fun cs => opt (crcVals cs 4294967295) fun r => .pure (Value.int .u32 (.ofNat (Nat.xor 4294967295 r)))).run s = _
  simp only [h1, when]
  rw [loadA_run h, crcVals_map]
  rfl
theorem told_sum : AE.Told Tryd.prog 25 crcA :=
  told_of_sum hE hmix fun args s v s' h => sum.sum_ev ⟨⟨tiB, tyB, dsB⟩, ⟨tiU8, tyU8, dsU8, szU8⟩, ⟨tiU32, tyU32, dsU32⟩⟩ (by kernel_rfl) h
end Go.Proofs.YtioieffmihdheaaDoor.lf
