/- Leaves: leaves that are the same; the leaves of the law on edges. -/
import Derived.Test.YtioieffmihdheaaDoorLf13
noncomputable section
namespace Go.Proofs.YtioieffmihdheaaDoor.lf
open AE
set_option linter.unusedSimpArgs false
set_option linter.unusedVariables false
set_option maxRecDepth 10000

theorem gdLf : tiLf.guard = false := by kernel_rfl
theorem gdA : tiA.guard = false := by kernel_rfl
theorem fs_list : fsLf.toList = [fd 0, fd 1, fd 2, fd 3, fd 4, fd 5] := by kernel_rfl
theorem nm0 : (fd 0).name = "Kind" := by kernel_rfl
theorem nm1 : (fd 1).name = "File" := by kernel_rfl
theorem nm2 : (fd 2).name = "Place" := by kernel_rfl
theorem nm3 : (fd 3).name = "Next" := by kernel_rfl
theorem nm4 : (fd 4).name = "Size" := by kernel_rfl
theorem nm5 : (fd 5).name = "Load" := by kernel_rfl
theorem takeL_all : ∀ l : List Value, takeL l.length l = some l
  | [] => rfl
  | v :: l => by simp only [List.length_cons, takeL, takeL_all l]
theorem eq8 (d : Nat) (x : UInt8) : eqV E (d + 1) 5 (bv x) (bv x) = some true := by
  simp only [eqV, tyU8, dsU8, bv, eqI_t]
  rfl
theorem eqEs_same : ∀ (l : List UInt8) (d : Nat), eqEs E (d + l.length + 2) 5 (l.map bv) (l.map bv) = some true
  | [], d => rfl
  | x :: l, d => by
    simp only [List.map_cons, List.length_cons]
    show eqEs E ((d + l.length + 2) + 1) _ _ _ = _
    simp only [eqEs]
    rw [eq8]
    exact eqEs_same l d
theorem eqInt (d : Nat) (x : Int) : eqV E (d + 1) 3 (.int .i64 x) (.int .i64 x) = some true := by
  have : eqI x x = true := by rw [eqI_eq]; simp
  simp only [eqV, tyI, dsI, this]
  rfl
theorem eqArr (l : List UInt8) (hl : l.length = 116) : eqV E 993 22 (.agg ⟨l.map bv⟩) (.agg ⟨l.map bv⟩) = some true := by
  have h1 : arrB tiA tiU8 116 (l.map bv) (l.map bv) = true := by
    unfold arrB
    rw [gdA, dsU8, szU8, List.length_map, hl]
    rfl
  have h2 := eqEs_same l 874
  rw [hl] at h2
  show eqV E (992 + 1) _ _ _ = _
  simp only [eqV, tyA, dsA, tyU8, h1]
  exact h2
theorem eqLeaf (d : LeafD) (hd : d.load.length = 116) : ∀ t, t = 24 → binA E .neq t (.agg ⟨d.cells⟩) (.agg ⟨d.cells⟩) = some (.bool false) := by
  intro t ht
  subst ht
  have h0 : partA tiI d.cells 0 = some (.int .i64 d.kind) := by unfold partA; rw [dsI]; rfl
  have h1 : partA tiI d.cells 1 = some (.int .i64 d.file) := by unfold partA; rw [dsI]; rfl
  have h2 : partA tiI d.cells 2 = some (.int .i64 d.place) := by unfold partA; rw [dsI]; rfl
  have h3 : partA tiI d.cells 3 = some (.int .i64 d.next) := by unfold partA; rw [dsI]; rfl
  have h4 : partA tiI d.cells 4 = some (.int .i64 d.size) := by unfold partA; rw [dsI]; rfl
  have h5 : partA tiA d.cells 5 = some (.agg ⟨d.load.map bv⟩) := by
    have hd5 : dropL 5 d.cells = some (d.load.map bv) := rfl
    have htk : takeL 116 (d.load.map bv) = some (d.load.map bv) := by
      have := takeL_all (d.load.map bv)
      rwa [List.length_map, hd] at this
    unfold partA
    rw [hd5, dsA, szA]
    simp only [isAggD, htk]
  have hf : eqFs E 999 fsLf.toList d.cells d.cells = some true := by
    rw [fs_list]
    show eqFs E (998 + 1) _ _ _ = _
    simp only [eqFs, nm0, nm1, nm2, nm3, nm4, nm5, ft0, ft1, ft2, ft3, ft4, ft5, fo0, fo1, fo2, fo3, fo4, fo5, tyI, tyA, h0, h1, h2, h3, h4, h5, eqInt, eqArr d.load hd]
    rfl
  have hv : eqV E 1000 24 (.agg ⟨d.cells⟩) (.agg ⟨d.cells⟩) = some true := by
    show eqV E (999 + 1) _ _ _ = _
    simp only [eqV, tyLf, dsLf, gdLf]
    exact hf
  show someB (eqV E 1000 24 (.agg ⟨d.cells⟩) (.agg ⟨d.cells⟩)) false = _
  rw [hv]
  rfl

/-! the law's leaves -/
def ldz (i : Nat) : List UInt8 := (List.range 116).map fun j => if j < i then UInt8.ofNat (j + 1) else 0
theorem ldz_len (i : Nat) : (ldz i).length = 116 := by simp [ldz]
theorem ldz_get (i j : Nat) (hj : j < 116) : (ldz i)[j]? = some (if j < i then UInt8.ofNat (j + 1) else 0) := by
  unfold ldz
  rw [List.getElem?_map, List.getElem?_range hj]
  rfl
theorem ldz_zero : ldz 0 = List.replicate 116 0 := by decide
theorem ldz_succ (i : Nat) (hi : i < 116) : (ldz i).set i (UInt8.ofNat (i + 1)) = ldz (i + 1) := by
  apply List.ext_getElem?
  intro j
  rw [List.getElem?_set, ldz_len]
  by_cases hj : j < 116
  · rw [ldz_get _ j hj, ldz_get _ j hj]
    by_cases e : i = j
    · subst e; rw [if_pos rfl, if_pos hi, if_pos (by omega)]
    · rw [if_neg e]
      by_cases h2 : j < i
      · rw [if_pos h2, if_pos (by omega)]
      · rw [if_neg h2, if_neg (by omega)]
  · rw [if_neg (by omega), List.getElem?_eq_none (by rw [ldz_len]; omega), List.getElem?_eq_none (by rw [ldz_len]; omega)]
def edge (z i : Nat) : LeafD := ⟨1, 65535, 65535, 65535, Int.ofNat z, ldz i⟩
theorem edge_right (z : Nat) (hz : z ≤ 115) : rightL (edge z z) = true := by
  have h1 : noughts ((edge z z).load.drop (edge z z).size.toNat) = true := by
    unfold noughts
    refine beq_iff.2 ((lead_all _).2 ?_)
    intro j x hx
    show x = 0
    have hx : ((ldz z).drop z)[j]? = some x := hx
    rw [List.getElem?_drop] at hx
    have hlt := (List.getElem?_eq_some_iff.1 hx).1
    rw [ldz_len] at hlt
    rw [ldz_get _ _ hlt, if_neg (by omega)] at hx
    cases hx; rfl
  have h2 : wi (Int.ofNat z) 0 116 = true := wi_iff.2 ⟨by simp, by simp; omega⟩
  unfold rightL
  rw [h1]
  show (true && true && true && true && wi (Int.ofNat z) 0 116 && true) = true
  rw [h2]; rfl
/-- what is turned of it -/
def turned (z w r : Nat) : LeafD :=
  if w = 0 then { edge z z with file := 65535 + (1 + r) } else if w = 1 then { edge z z with place := 65535 + (1 + r) } else if w = 2 then { edge z z with next := 65535 + (1 + r) }
  else if w = 3 then { edge z z with file := -(1 + r) } else if w = 4 then { edge z z with place := -(1 + r) } else if w = 5 then { edge z z with next := -(1 + r) }
  else if w = 6 then { edge z z with kind := 2 + (1 + r) } else if w = 7 then { edge z z with load := (ldz z).set z (UInt8.ofNat (1 + r)) } else { edge z z with size := 116 + (1 + r) }
theorem turned_len (z w r : Nat) : (turned z w r).load.length = 116 := by
  unfold turned
  repeat' split
  all_goals first | exact ldz_len z | (show ((ldz z).set z _).length = 116; rw [List.length_set, ldz_len])
theorem wi_f {n lo hi : Int} (h : n < lo ∨ hi < n) : wi n lo hi = false := by
  cases hh : wi n lo hi with
  | false => rfl
  | true => have := wi_iff.1 hh; omega
theorem turned_not (z w r : Nat) (hz : z ≤ 115) (hr : r ≤ 99) : rightL (turned z w r) = false := by
  unfold turned
  repeat' split
  · unfold rightL; rw [show wi ({ edge z z with file := 65535 + (1 + (r : Int)) } : LeafD).file 0 65535 = false from wi_f (.inr (by show (65535 : Int) < 65535 + (1 + (r : Int)); omega))]; rfl
  · unfold rightL; rw [show wi ({ edge z z with place := 65535 + (1 + (r : Int)) } : LeafD).place 0 65535 = false from wi_f (.inr (by show (65535 : Int) < 65535 + (1 + (r : Int)); omega))]; simp
  · unfold rightL; rw [show wi ({ edge z z with next := 65535 + (1 + (r : Int)) } : LeafD).next 0 65535 = false from wi_f (.inr (by show (65535 : Int) < 65535 + (1 + (r : Int)); omega))]; simp
  · unfold rightL; rw [show wi ({ edge z z with file := -(1 + (r : Int)) } : LeafD).file 0 65535 = false from wi_f (.inl (by show -(1 + (r : Int)) < 0; omega))]; rfl
  · unfold rightL; rw [show wi ({ edge z z with place := -(1 + (r : Int)) } : LeafD).place 0 65535 = false from wi_f (.inl (by show -(1 + (r : Int)) < 0; omega))]; simp
  · unfold rightL; rw [show wi ({ edge z z with next := -(1 + (r : Int)) } : LeafD).next 0 65535 = false from wi_f (.inl (by show -(1 + (r : Int)) < 0; omega))]; simp
  · unfold rightL; rw [show wi ({ edge z z with kind := 2 + (1 + (r : Int)) } : LeafD).kind 1 2 = false from wi_f (.inr (by show (2 : Int) < 2 + (1 + (r : Int)); omega))]; simp
  · unfold rightL
    have hn : noughts (((ldz z).set z (UInt8.ofNat (1 + r))).drop z) = false := by
      cases hh : noughts (((ldz z).set z (UInt8.ofNat (1 + r))).drop z) with
      | false => rfl
      | true =>
        have h2 := (lead_all _).1 (beq_iff.1 hh) 0 (UInt8.ofNat (1 + r)) (by rw [List.getElem?_drop, Nat.add_zero, List.getElem?_set, if_pos rfl, ldz_len, if_pos (by omega)])
        have h3 := congrArg UInt8.toNat h2
        rw [UInt8.toNat_ofNat'] at h3
        have h4 : (0 : UInt8).toNat = 0 := rfl
        omega
    have hn : noughts (({ edge z z with load := (ldz z).set z (UInt8.ofNat (1 + r)) } : LeafD).load.drop ({ edge z z with load := (ldz z).set z (UInt8.ofNat (1 + r)) } : LeafD).size.toNat) = false := hn
    rw [hn]; simp
  · unfold rightL; rw [show wi ({ edge z z with size := 116 + (1 + (r : Int)) } : LeafD).size 0 116 = false from wi_f (.inr (by show (116 : Int) < 116 + (1 + (r : Int)); omega))]; simp
end Go.Proofs.YtioieffmihdheaaDoor.lf
