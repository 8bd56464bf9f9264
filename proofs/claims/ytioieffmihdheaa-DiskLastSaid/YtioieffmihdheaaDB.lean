/- slices.Backward over what waits; Read, of a disk. -/
import Derived.RangeFuncNested
import Derived.RangeFuncBound
import Derived.RangeFuncCalls
import Derived.RangeFuncLeaves
import Derived.RangeFuncBox
import Derived.Shelf.Abstract
import Derived.Shelf.RegionOpen
import Derived.OwnWalkIn
import Derived.TacticsInMore
import Derived.LoopNIn
import Derived.LoopIn
import Derived.Test.YtioieffmihdheaaD9
namespace Go.Proofs.Ytioieffmihdheaa
open Go.RowKit Go.Shelf
set_option linter.unusedVariables false
set_option linter.unusedSimpArgs false
attribute [local go_sem] Oper.semAt_some

/-- the numbers of n things, from the last one on -/
def downs (n : Nat) : List (Fin n) := (List.finRange n).reverse
theorem downs_len (n : Nat) : (downs n).length = n := by simp [downs]
theorem downs_at (n : Nat) {j : Nat} (h : j < n) : (downs n)[j]? = some ⟨n - 1 - j, by omega⟩ := by
  unfold downs
  rw [List.getElem?_reverse (by simpa using h)]
  rw [List.getElem?_eq_getElem (by simp; omega)]
  simp
theorem downs_take (n : Nat) {j : Nat} (h : j < n) : (downs n).take (j + 1) = (downs n).take j ++ [⟨n - 1 - j, by omega⟩] := by
  rw [List.take_add_one, downs_at n h]; rfl

/-- what Backward hands on, of a number -/
def backEnc (L : List (Nat × Value × List UInt8)) (k : Fin L.length) : Array Value := #[.int .i64 (k.val : Int), .agg #[.int .i64 (L[k].1 : Int), L[k].2.1]]

/-- what waits lies at a value -/
def WaitRow (n0 : Nat) (w : World) (wv : Value) (L : List (Nat × Value × List UInt8)) : Prop :=
  (wv = .slice none 0 0 ∧ L = []) ∨ ∃ g c, wv = .slice (some ⟨g, 0, none⟩) L.length c ∧ g < n0 ∧ ∀ k x, L[k]? = some x → w.cell? ⟨g, k * 2, none⟩ = some (.int .i64 (x.1 : Int)) ∧ w.cell? ⟨g, k * 2 + 1, none⟩ = some x.2.1
theorem WaitRow.below {n0 : Nat} {w w' : World} {wv : Value} {L : List (Nat × Value × List UInt8)} (h : WaitRow n0 w wv L) (hb : Below n0 w w') : WaitRow n0 w' wv L := by
  rcases h with h | ⟨g, c, h1, h2, h3⟩
  · exact .inl h
  · exact .inr ⟨g, c, h1, h2, fun k x hx => ⟨(hb.cell (p := ⟨g, k * 2, none⟩) h2).trans (h3 k x hx).1, (hb.cell (p := ⟨g, k * 2 + 1, none⟩) h2).trans (h3 k x hx).2⟩⟩

/-- what a round must keep -/
def KpB (n0 Bs : Nat) (W W' : World) : Prop := Below n0 W W' ∧ W'.heap[Bs]? = W.heap[Bs]?
theorem KpB.refl (n0 Bs : Nat) (W : World) : KpB n0 Bs W W := ⟨Below.refl _ _, rfl⟩
theorem KpB.trans {n0 Bs : Nat} {A B C : World} (h : KpB n0 Bs A B) (k : KpB n0 Bs B C) : KpB n0 Bs A C := ⟨h.1.trans k.1, k.2.trans h.2⟩
theorem KpB.cell {n0 Bs : Nat} {A B : World} (h : KpB n0 Bs A B) (o : Nat) : B.cell? ⟨Bs, o, none⟩ = A.cell? ⟨Bs, o, none⟩ := World.cell?_of_block h.2

set_option maxRecDepth 100000 in
set_option maxHeartbeats 2000000 in
theorem back1_in (F : Fence) (n : Nat) (hF : F.fn 51) (hro : F.round = none) (hn : 1 ≤ n) (l Bs n0 : Nat) (wv : Value) (L : List (Nat × Value × List UInt8)) (hL : L.length ≤ 1048576) (hone : ∀ x ∈ L, x.2.1.oneCell' = true) (J Jx : List (Fin L.length) → World → Prop)
    (hY : ∀ pre x W, J pre W → pre.length < L.length → YieldAt F (n - 1) Try.prog l (backEnc L x) W fun e W' =>
      (e = .returned (.bool true) ∧ J (pre ++ [x]) W' ∧ KpB n0 Bs W W') ∨ (e = .returned (.bool false) ∧ Jx (pre ++ [x]) W'))
    (W : World) (hBs : W.cell? ⟨Bs, 0, none⟩ = some wv) (hW : WaitRow n0 W wv L) (h0 : J [] W) :
    CallsIn F n Try.prog 51 #[.func (.yield l) #[] #[], .pointer (some ⟨Bs, 0, none⟩)] W fun e W' => (∃ v, e = .returned v) ∧
      ((∃ ys, ys = downs L.length ∧ J ys W') ∨ (∃ pre, (∃ j, j ≤ L.length ∧ pre = (downs L.length).take j) ∧ Jx pre W')) := by
  obtain ⟨A, c, hwv⟩ : ∃ A c, wv = .slice A L.length c := by
    rcases hW with ⟨h1, h2⟩ | ⟨g, c, h1, _⟩
    · exact ⟨none, 0, by rw [h1, h2]; rfl⟩
    · exact ⟨_, _, h1⟩
  subst hwv
  have HW := Lib.hid hW
  have HO := Lib.hid hone
  clear hW hone
  refine callsIn_of_wp Try.func51 rfl hF ?_ hro
  simp only [Try.ntmps51, List.size_toArray, List.length_cons, List.length_nil, Nat.reduceAdd, Nat.reduceSub, Array.replicate_succ, Array.replicate_zero, List.push_toArray, List.append_toArray, List.nil_append, List.cons_append]
  gi_wp2
  gi_loopw [3] (fun i wr => ∃ j : Nat, j ≤ L.length ∧ i = .int .i64 ((L.length : Int) - 1 - j) ∧ Hid (J ((downs L.length).take j) wr) ∧ Hid (KpB n0 Bs W wr))
    (fun i _ => (intOf i + 1).toNat)
  case atStart => exact ⟨0, Nat.zero_le _, by simp, by simpa using Lib.hid h0, KpB.refl _ _ _⟩
  case round =>
    obtain ⟨j, hj, rfl, hJs, hnx⟩ := hrel
    have hcB : wr.cell? ⟨Bs, 0, none⟩ = some (.slice A L.length c) := (hnx.out.cell 0).trans hBs
    by_cases hlt : j < L.length
    · obtain ⟨k, hk⟩ : ∃ k : Nat, k = L.length - 1 - j := ⟨_, rfl⟩
      have hkl : k < L.length := by omega
      have hki : (L.length : Int) - 1 - j = (k : Int) := by omega
      rw [hki]
      have hdt : (downs L.length).take (j + 1) = (downs L.length).take j ++ [⟨k, hkl⟩] := by rw [downs_take _ hlt]; congr 2; exact Fin.ext hk.symm
      obtain ⟨fn, tmps, assign, body, hy, hR⟩ := hY _ ⟨k, hkl⟩ wr hJs.out (by rw [List.length_take, downs_len]; omega)
      have hx : L[k]? = some L[k] := List.getElem?_eq_getElem hkl
      obtain ⟨g, rfl, hg, hcs⟩ : ∃ g, A = some ⟨g, 0, none⟩ ∧ g < n0 ∧ ∀ k x, L[k]? = some x → W.cell? ⟨g, k * 2, none⟩ = some (.int .i64 (x.1 : Int)) ∧ W.cell? ⟨g, k * 2 + 1, none⟩ = some x.2.1 := by
        rcases HW.out with ⟨h1, h2⟩ | ⟨g, c', h1, h2, h3⟩
        · rw [h2] at hlt; simp at hlt
        · injection h1 with h1; exact ⟨g, h1, h2, h3⟩
      obtain ⟨hc1, hc2⟩ := hcs k _ hx
      have hd1 : wr.cell? ⟨g, k * 2, none⟩ = some (.int .i64 (L[k].1 : Int)) := (hnx.out.1.cell (p := ⟨g, k * 2, none⟩) hg).trans hc1
      have hd2 : wr.cell? ⟨g, k * 2 + 1, none⟩ = some L[k].2.1 := (hnx.out.1.cell (p := ⟨g, k * 2 + 1, none⟩) hg).trans hc2
      have ho := HO.out L[k] (List.getElem_mem hkl)
      simp only [backEnc, Fin.getElem_fin] at hy
      generalize L[k] = x at hd1 hd2 ho hy
      have hk0 : (0 : Int) ≤ (k : Int) := by omega
      have hk1 : (k : Int) < (L.length : Int) := by omega
      have hk2 : ¬ ((k : Int) < 0) := by omega
      have HD := Lib.hid hdt
      have HKI := Lib.hid hki
      clear hdt hki hx hc1 hc2 hcs hk
      gi_wp2
      refine hR.mono ?_
      rintro e W3 (⟨rfl, hJ3, hk3⟩ | ⟨rfl, hJx3⟩)
      · gi_wp2
        go_roundw
        case rel => exact ⟨j + 1, by omega, by rw [← HKI.out]; congr 1; omega, by rw [HD.out]; exact hJ3, hnx.out.trans hk3⟩
        case measure => rw [← HKI.out]; simp [intOf]; omega
      · gi_wp2
        refine bodyPost_ret (results_none rfl _ _ _) rfl ?_
        exact ⟨⟨_, rfl⟩, .inr ⟨_, ⟨j + 1, by omega, HD.out.symm⟩, hJx3⟩⟩
    · obtain rfl : j = L.length := by omega
      have hm : (L.length : Int) - 1 - L.length = -1 := by omega
      rw [hm]
      have hJ2 := hJs.out
      rw [List.take_of_length_le (by rw [downs_len]; omega)] at hJ2
      have HJ := Lib.hid hJ2
      clear hm hJ2
      gi_wp2
      go_end0
      exact ⟨⟨_, rfl⟩, .inl ⟨_, rfl, HJ.out⟩⟩

theorem back_in (F : Fence) (n : Nat) (hF : F.fn 43) (hro : F.round = none) (a : Option Addr) (len cap : Nat) (w : World) :
    CallsIn F n Try.prog 43 #[.slice a len cap] w fun e w' => e = .returned (.func (.func 51) #[] #[.pointer (some ⟨w.heap.size, 0, none⟩)]) ∧ w' = w.alloc (.cells #[.slice a len cap] 67) := by
  refine callsIn_of_wp Try.func43 rfl hF ?_ hro
  simp only [Try.ntmps43, List.size_toArray, List.length_cons, List.length_nil, Nat.reduceAdd, Nat.reduceSub, Array.replicate_succ, Array.replicate_zero, List.push_toArray, List.append_toArray, List.nil_append, List.cons_append]
  gi_wp2
  go_ret
  exact ⟨rfl, rfl⟩

theorem back_stops (F : Fence) (n : Nat) (hF : F.fn 51) (hro : F.round = none) (hn : 1 ≤ n) (Bs n0 : Nat) (wv : Value) (L : List (Nat × Value × List UInt8)) (hL : L.length ≤ 1048576) (hone : ∀ x ∈ L, x.2.1.oneCell' = true) (w : World) (hBs : Bs < w.heap.size) (hn0 : n0 ≤ w.heap.size)
    (hc : w.cell? ⟨Bs, 0, none⟩ = some wv) (hI : WaitRow n0 w wv L) :
    SeqStopsK F n Try.prog 51 #[.pointer (some ⟨Bs, 0, none⟩)] (backEnc L) (KpB n0 Bs) (fun ys => ys = downs L.length) (fun pre => ∃ j, j ≤ L.length ∧ pre = (downs L.length).take j) L.length w := fun l J Jx W hW _ _ hY h0 => by
  have hb := hW.mono hn0
  exact back1_in F n hF hro hn l Bs n0 wv L hL hone J Jx hY W ((hW.cell (p := ⟨Bs, 0, none⟩) hBs).trans hc) (hI.below hb) h0

theorem DskG.waitRow {n0 : Nat} {w : World} {p bb nc : Nat} {G : List (Value × Option (List UInt8))} {wv : Value} {L : List (Nat × Value × List UInt8)} {fuse : Int} {off : Bool} {wrote : Int} (h : DskG n0 w p bb nc G wv L fuse off wrote) : WaitRow n0 w wv L := by
  rcases h.wvform with h1 | ⟨g, c, h1, _⟩
  · exact .inl h1
  · exact .inr ⟨g, c, h1, h.wlt g (by rw [h1]; rfl), fun k x hx => h.wait_cells g c h1 k x hx⟩

/-- what a Read hands back -/
def ReadPost (w : World) (o : Option (List UInt8)) (e : Ending) (w' : World) : Prop :=
  Below w.heap.size w w' ∧ match o with
  | none => e = .returned (.tuple #[.slice none 0 0, .bool false])
  | some l => ∃ g c, e = .returned (.tuple #[.slice (some ⟨g, 0, none⟩) l.length c, .bool true]) ∧ w'.ownsRow w.heap.size 5 1 (.slice (some ⟨g, 0, none⟩) l.length c) l.length (l.map BV)

set_option maxRecDepth 100000 in
set_option maxHeartbeats 800000 in
theorem read_no {n0 : Nat} {w : World} {p bb nc : Nat} {G : List (Value × Option (List UInt8))} {wv : Value} {L : List (Nat × Value × List UInt8)} {fuse : Int} {off : Bool} {wrote : Int} (h : DskG n0 w p bb nc G wv L fuse off wrote)
    (i : Int) (hb : ¬ (0 ≤ i ∧ i < G.length ∧ off = false)) :
    Calls Try.prog 21 #[.pointer (some ⟨p, 0, none⟩), .int .i64 i] w (ReadPost w none) := by
  have c0 := h.c0
  have c3 := h.c3
  have hfew := h.few
  have hpl := h.self.lt
  have hBel : Below w.heap.size w (((w.alloc (.cells #[.int .i64 i] 3)).alloc (.cells #[.slice none 0 0] 34)).alloc (.cells #[.bool false] 4)) := (((Below.refl _ w).alloc (Nat.le_refl _) _).alloc (by simp) _).alloc (by simp; omega) _
  have HB := Lib.hid hBel
  have HC := Lib.hid ((hBel.cell (p := ⟨p, 0, none⟩) hpl).trans c0)
  have hc3 := (hBel.cell (p := ⟨p, 3, none⟩) hpl).trans c3
  clear h hBel
  by_cases hi : 0 ≤ i ∧ i < G.length
  · have HR : Hid (decide (0 ≤ i ∧ i < (G.length : Int)) = true) := by show decide _ = true; simpa using hi
    obtain rfl : off = true := by
      cases off with
      | true => rfl
      | false => exact absurd ⟨hi.1, hi.2, rfl⟩ hb
    clear hb hi
    go_enter Try.func21, Try.ntmps21
    go_wp2_with (go_at_call 39; refine (has_any p bb nc G.length i _ true HC.out hfew HR.out).mono ?_; rintro e w' ⟨rfl, rfl⟩)
    refine bodyPost_ret (v := .tuple #[.slice none 0 0, .bool false]) ?_ rfl ⟨?_, rfl⟩
    · simp [results, Try.f21, go_sem]
    · exact HB.out
  · have HR : Hid (decide (0 ≤ i ∧ i < (G.length : Int)) = false) := by show decide _ = false; simpa using hi
    clear hb hi
    go_enter Try.func21, Try.ntmps21
    go_wp2_with (go_at_call 39; refine (has_any p bb nc G.length i _ false HC.out hfew HR.out).mono ?_; rintro e w' ⟨rfl, rfl⟩)
    refine bodyPost_ret (v := .tuple #[.slice none 0 0, .bool false]) ?_ rfl ⟨?_, rfl⟩
    · simp [results, Try.f21, go_sem]
    · exact HB.out

end Go.Proofs.Ytioieffmihdheaa
