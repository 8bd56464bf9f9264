/- Leaves: whether a leaf may be. -/
import Derived.Test.YtioieffmihdheaaDoorLf1
noncomputable section
namespace Go.Proofs.YtioieffmihdheaaDoor.lf
open AE
set_option linter.unusedSimpArgs false
set_option linter.unusedVariables false
set_option maxRecDepth 10000

/-- a leaf, as plain data -/
structure LeafD where
  kind : Int
  file : Int
  place : Int
  next : Int
  size : Int
  load : List UInt8
def LeafD.cells (d : LeafD) : List Value := [.int .i64 d.kind, .int .i64 d.file, .int .i64 d.place, .int .i64 d.next, .int .i64 d.size] ++ d.load.map bv
def LeafD.val (d : LeafD) : Value := .agg ⟨d.cells⟩
def leafOf : List Value → Option LeafD
  | .int .i64 a :: .int .i64 b :: .int .i64 c :: .int .i64 d :: .int .i64 e :: l => match bytesV l with
    | none => none
    | some bs => match Nat.beq bs.length 116 with
      | true => some ⟨a, b, c, d, e, bs⟩
      | false => none
  | _ => none
theorem leafOf_inv {cs : List Value} {d : LeafD} (h : leafOf cs = some d) : cs = d.cells ∧ d.load.length = 116 := by
  unfold leafOf at h
  split at h
  · rename_i a b c e f l
    split at h
    · cases h
    · rename_i bs hbs
      split at h
      · rename_i hb
        cases h
        exact ⟨by rw [bytesV_inv hbs]; rfl, beq_iff.1 hb⟩
      · cases h
  · cases h
theorem leafOf_cells (d : LeafD) (h : d.load.length = 116) : leafOf d.cells = some d := by
  simp only [LeafD.cells, List.cons_append, List.nil_append, leafOf, bytesV_map, beq_iff.2 h]
theorem LeafD.len (d : LeafD) (h : d.load.length = 116) : d.cells.length = 121 := by simp [LeafD.cells, h]

def wi (n lo hi : Int) : Bool := not (ltI n lo) && not (ltI hi n)
theorem wi_iff {n lo hi : Int} : wi n lo hi = true ↔ lo ≤ n ∧ n ≤ hi := by
  unfold wi
  rw [ltI_not, ltI_not]
  simp
def noughts (l : List UInt8) : Bool := Nat.beq (lead l) l.length
/-- may it be? -/
def rightL (d : LeafD) : Bool := wi d.file 0 65535 && wi d.place 0 65535 && wi d.next 0 65535 && wi d.kind 1 2 && wi d.size 0 116 && noughts (d.load.drop d.size.toNat)
def rightA : List Value → AM Value
  | [.agg ⟨cs⟩] => opt (leafOf cs) fun d => bump 2 (.pure (.bool (rightL d)))
  | _ => .fail

/-! a cell is read -/
theorem cell_load {s : S} {b off : Nat} {v : Value} {c : Tr Value} {m : Nat} {e : TypeId} {rm : Room} (i : TI) (hi : isAggD i.desc = false) (hlt : b < s.next) (hg : s.heap.get b = some (.cells c m e rm)) (hm : off + 1 ≤ m) (hc : c.get off = some v) :
    (loadT i ⟨b, off, none⟩ AE.val).run s = some (.value v, s.seen b) := by
  unfold loadT loadA
  rw [hi]
  simp only [AM.run, blt_iff.2 hlt, hg, when, show Nat.ble (Nat.add off 1) m = true from ble_iff.2 hm, rdCells, show Nat.add off 0 = off from rfl, hc, opt, AE.val]
  rfl

noncomputable def tiLf : TI := TI.of Tryd.prog 24
theorem tyLf : E.ty.get 24 = some tiLf := by kernel_rfl
theorem szLf : tiLf.size = 121 := by kernel_rfl
noncomputable def fsLf : Array Field := match tiLf.desc with | .struct fs => fs | _ => #[]
theorem dsLf : tiLf.desc = .struct fsLf := by kernel_rfl
noncomputable def fd (i : Nat) : Field := (fieldAt? fsLf.toList i).getD default
theorem fl0 : fieldAt? fsLf.toList 0 = some (fd 0) := by kernel_rfl
theorem fl1 : fieldAt? fsLf.toList 1 = some (fd 1) := by kernel_rfl
theorem fl2 : fieldAt? fsLf.toList 2 = some (fd 2) := by kernel_rfl
theorem fl3 : fieldAt? fsLf.toList 3 = some (fd 3) := by kernel_rfl
theorem fl4 : fieldAt? fsLf.toList 4 = some (fd 4) := by kernel_rfl
theorem fl5 : fieldAt? fsLf.toList 5 = some (fd 5) := by kernel_rfl
theorem ft0 : (fd 0).type = 3 := by kernel_rfl
theorem ft1 : (fd 1).type = 3 := by kernel_rfl
theorem ft2 : (fd 2).type = 3 := by kernel_rfl
theorem ft3 : (fd 3).type = 3 := by kernel_rfl
theorem ft4 : (fd 4).type = 3 := by kernel_rfl
theorem ft5 : (fd 5).type = 22 := by kernel_rfl
theorem fo0 : (fd 0).offset = 0 := by kernel_rfl
theorem fo1 : (fd 1).offset = 1 := by kernel_rfl
theorem fo2 : (fd 2).offset = 2 := by kernel_rfl
theorem fo3 : (fd 3).offset = 3 := by kernel_rfl
theorem fo4 : (fd 4).offset = 4 := by kernel_rfl
theorem fo5 : (fd 5).offset = 5 := by kernel_rfl
theorem ble11 : Nat.ble 1 1 = true := rfl
theorem ble1A : Nat.ble 1 116 = true := rfl
theorem ad0 (n : Nat) : addA ⟨n, 0, none⟩ 0 = ⟨n, 0, none⟩ := rfl
theorem ad1 (n : Nat) : addA ⟨n, 0, none⟩ 1 = ⟨n, 1, none⟩ := rfl
theorem ad2 (n : Nat) : addA ⟨n, 0, none⟩ 2 = ⟨n, 2, none⟩ := rfl
theorem ad3' (n : Nat) : addA ⟨n, 0, none⟩ 3 = ⟨n, 3, none⟩ := rfl
theorem ad4 (n : Nat) : addA ⟨n, 0, none⟩ 4 = ⟨n, 4, none⟩ := rfl
theorem ad5 (n : Nat) : addA ⟨n, 0, none⟩ 5 = ⟨n, 5, none⟩ := rfl

/-- the leaf d lies in the block n, whole -/
structure LfAt (s : S) (n : Nat) (d : LeafD) : Prop where
  lt : n < s.next
  cell : ∃ c e rm, s.heap.get n = some (.cells c 121 e rm) ∧ Row c 0 d.cells
  len : d.load.length = 116
theorem LfAt.rd {s s' : S} {n : Nat} {d : LeafD} (h : LfAt s n d) (hr : Rd s s') : LfAt s' n d := ⟨by rw [hr.next]; exact h.lt, by rw [hr.heap]; exact h.cell, h.len⟩
theorem LfAt.get {s : S} {n : Nat} {d : LeafD} (h : LfAt s n d) (k : Nat) (v : Value) (hk : d.cells[k]? = some v) : (loadT tiI ⟨n, k, none⟩ AE.val).run s = some (.value v, s.seen n) := by
  obtain ⟨c, e, rm, h1, h2⟩ := h.cell
  have hlt := (List.getElem?_eq_some_iff.1 hk).1
  rw [d.len h.len] at hlt
  exact cell_load tiI (by rw [dsI]; rfl) h.lt h1 (by omega) (by have := h2 k v hk; rwa [Nat.zero_add] at this)
theorem LfAt.bs {s : S} {n : Nat} {d : LeafD} (h : LfAt s n d) (k : Nat) (hk : k ≤ 116) : Bs s ⟨n, 5 + k, none⟩ (d.load.drop k) := by
  obtain ⟨c, e, rm, h1, h2⟩ := h.cell
  refine ⟨rfl, h.lt, c, 121, e, rm, h1, by simp [h.len]; omega, ?_⟩
  intro j v hj
  have h3 : d.cells[5 + k + j]? = some v := by
    unfold LeafD.cells
    rw [List.getElem?_append_right (by simp; omega)]
    rw [List.map_drop, List.getElem?_drop] at hj
    simpa [show 5 + k + j - 5 = k + j by omega] using hj
  have := h2 _ _ h3
  simpa using this
end Go.Proofs.YtioieffmihdheaaDoor.lf
