/- The disk as plain data, and what it is in memory. -/
import Derived.Test.YtioieffmihdheaaMem
import Derived.Test.YtioieffmihdheaaProg
namespace Go.Proofs.Ytioieffmihdheaa
open Go.RowKit
set_option linter.unusedVariables false
set_option linter.unusedSimpArgs false

/-- a disk as plain data: blocks (none: torn), what waits, the fuse, the power, how many writes went -/
structure PD where
  blocks : List (Option (List UInt8))
  waits : List (Nat × List UInt8)
  fuse : Int
  off : Bool
  wrote : Int

/-- a value of a block -/
def OptB (n0 : Nat) (w : World) (v : Value) : Option (List UInt8) → Prop
  | none => v = .slice none 0 0
  | some l => Bts 5 n0 w v l ∧ l.length = 128

theorem OptB.more {n0 n1 : Nat} {w : World} {v : Value} {o : Option (List UInt8)} (h : OptB n0 w v o) (hn : n0 ≤ n1) : OptB n1 w v o := by
  cases o with
  | none => exact h
  | some l => exact ⟨h.1.more hn, h.2⟩
theorem OptB.below {n0 : Nat} {w w' : World} {v : Value} {o : Option (List UInt8)} (h : OptB n0 w v o) (hb : Below n0 w w') : OptB n0 w' v o := by
  cases o with
  | none => exact h
  | some l => exact ⟨h.1.below hb, h.2⟩

/-- a disk in memory, all of it told: its block p; its blocks' row bb with the values G; what waits: wv, L -/
structure DskG (n0 : Nat) (w : World) (p bb nc : Nat) (G : List (Value × Option (List UInt8))) (wv : Value) (L : List (Nat × Value × List UInt8)) (fuse : Int) (off : Bool) (wrote : Int) : Prop where
  self : Blk w p 69 #[.slice (some ⟨bb, 0, none⟩) G.length nc, wv, .int .i64 fuse, .bool off, .int .i64 wrote]
  plt : p < n0
  row : ∃ cs, Blk w bb 34 cs ∧ G.length ≤ nc ∧ nc ≤ 65536 ∧ cs.size = nc ∧ cs.toList.take G.length = G.map (·.1)
  blt : bb < n0
  each : ∀ x ∈ G, OptB n0 w x.1 x.2
  own : w.ownsRow 0 73 2 wv L.length (L.flatMap fun x => [.int .i64 (x.1 : Int), x.2.1])
  wlt : ∀ g, wv.ownBlock = some g → g < n0
  wait : ∀ x ∈ L, x.1 < G.length ∧ Bts 5 n0 w x.2.1 x.2.2 ∧ x.2.2.length = 128
  flo : -1 ≤ fuse
  fhi : fuse ≤ 9223372036854775807
  wro : 0 ≤ wrote
  pos : 0 < G.length
  few : G.length ≤ 512

/-- what of it may be written -/
def dskM (p bb : Nat) (wv : Value) : List Nat := p :: bb :: wv.ownBlock.toList

/-- a disk in memory -/
def Dsk (n0 : Nat) (w : World) (p : Nat) (M : List Nat) (D : PD) : Prop :=
  ∃ bb nc G wv L, DskG n0 w p bb nc G wv L D.fuse D.off D.wrote ∧ D.blocks = G.map (·.2) ∧ D.waits = L.map (fun x => (x.1, x.2.2)) ∧ M = dskM p bb wv

section
variable {n0 n1 : Nat} {w w' : World} {p bb nc : Nat} {G : List (Value × Option (List UInt8))} {wv : Value} {L : List (Nat × Value × List UInt8)} {fuse : Int} {off : Bool} {wrote : Int}

theorem DskG.more (h : DskG n0 w p bb nc G wv L fuse off wrote) (hn : n0 ≤ n1) : DskG n1 w p bb nc G wv L fuse off wrote :=
  ⟨h.self, by have := h.plt; omega, h.row, by have := h.blt; omega, fun x hx => (h.each x hx).more hn, h.own, fun g hg => by have := h.wlt g hg; omega,
   fun x hx => ⟨(h.wait x hx).1, (h.wait x hx).2.1.more hn, (h.wait x hx).2.2⟩, h.flo, h.fhi, h.wro, h.pos, h.few⟩
theorem DskG.below (h : DskG n0 w p bb nc G wv L fuse off wrote) (hb : Below n0 w w') : DskG n0 w' p bb nc G wv L fuse off wrote := by
  obtain ⟨cs, h1, h2⟩ := h.row
  exact ⟨Below.blk hb h.self h.plt, h.plt, ⟨cs, Below.blk hb h1 h.blt, h2⟩, h.blt, fun x hx => (h.each x hx).below hb, Below.owns hb h.own h.wlt, h.wlt,
   fun x hx => ⟨(h.wait x hx).1, (h.wait x hx).2.1.below hb, (h.wait x hx).2.2⟩, h.flo, h.fhi, h.wro, h.pos, h.few⟩
theorem DskG.ne_pb (h : DskG n0 w p bb nc G wv L fuse off wrote) : p ≠ bb := by
  obtain ⟨cs, h1, _⟩ := h.row
  exact Blk.ne_ h.self h1 (by decide)
theorem DskG.ne_wp (h : DskG n0 w p bb nc G wv L fuse off wrote) : wv.ownBlock ≠ some p := owns_blk_ne h.own h.self (by decide)
theorem DskG.ne_wb (h : DskG n0 w p bb nc G wv L fuse off wrote) : wv.ownBlock ≠ some bb := by
  obtain ⟨cs, h1, _⟩ := h.row
  exact owns_blk_ne h.own h1 (by decide)
/-- a block of bytes is none of those that a disk writes -/
theorem DskG.bts_ne {n1 : Nat} {v : Value} {l : List UInt8} (h : DskG n0 w p bb nc G wv L fuse off wrote) (hv : Bts 5 n1 w v l) : ∀ g, v.ownBlock = some g → g ∉ dskM p bb wv := by
  intro g hg hm
  obtain ⟨cs, h1, _⟩ := h.row
  simp only [dskM, List.mem_cons, Option.mem_toList] at hm
  rcases hm with rfl | rfl | hm
  · exact owns_blk_ne hv.1 h.self (by decide) hg
  · exact owns_blk_ne hv.1 h1 (by decide) hg
  · exact owns_owns_ne hv.1 h.own (by decide) g hg hm
/-- another block of another type is none of those either -/
theorem DskG.blk_ne {g : Nat} {t : TypeId} {cs : Array Value} (h : DskG n0 w p bb nc G wv L fuse off wrote) (hg : Blk w g t cs) (h1 : t ≠ 69) (h2 : t ≠ 34) (h3 : t ≠ 73) : g ∉ dskM p bb wv := by
  intro hm
  obtain ⟨cs', h4, _⟩ := h.row
  simp only [dskM, List.mem_cons, Option.mem_toList] at hm
  rcases hm with rfl | rfl | hm
  · exact Blk.ne_ hg h.self h1 rfl
  · exact Blk.ne_ hg h4 h2 rfl
  · exact owns_blk_ne h.own hg (Ne.symm h3) hm
end

/-- a store into a block of another type leaves a disk as it is -/
theorem DskG.arr {n0 : Nat} {w : World} {p bb nc : Nat} {G : List (Value × Option (List UInt8))} {wv : Value} {L : List (Nat × Value × List UInt8)} {fuse : Int} {off : Bool} {wrote : Int} {g o : Nat} {t : TypeId} {cs : Array Value} {u : Value} (h : DskG n0 w p bb nc G wv L fuse off wrote) (hg : Blk w g t cs)
    (h1 : t ≠ 69) (h2 : t ≠ 34) (h3 : t ≠ 73) (h4 : t ≠ 5) : DskG n0 (w.setCell ⟨g, o, none⟩ u) p bb nc G wv L fuse off wrote := by
  have hk : Kp [g] w (w.setCell ⟨g, o, none⟩ u) := (Kp.refl [g] w).setCell (.inl (by simp)) u
  obtain ⟨cs', r1, r2⟩ := h.row
  have hne := h.blk_ne hg h1 h2 h3
  have hB : ∀ {v : Value} {l : List UInt8}, Bts 5 n0 w v l → Bts 5 n0 (w.setCell ⟨g, o, none⟩ u) v l := fun hv => hv.kp hk (fun g' hg' hm => by
    simp only [List.mem_singleton] at hm
    subst hm
    exact owns_blk_ne hv.1 hg (Ne.symm h4) hg')
  have hm : ∀ x ∈ dskM p bb wv, x ∉ [g] := fun x hx hx' => by simp only [List.mem_singleton] at hx'; subst hx'; exact hne hx
  refine ⟨hk.blk h.self (hm p (by simp [dskM])), h.plt, ⟨cs', hk.blk r1 (hm bb (by simp [dskM])), r2⟩, h.blt, fun x hx => ?_, hk.owns h.own (fun g' hg' => hm g' (by simp [dskM, hg'])), h.wlt, fun x hx => ⟨(h.wait x hx).1, hB (h.wait x hx).2.1, (h.wait x hx).2.2⟩, h.flo, h.fhi, h.wro, h.pos, h.few⟩
  have := h.each x hx
  match h2 : x.2 with
  | none => rw [h2] at this; exact this
  | some l => rw [h2] at this; exact ⟨hB this.1, this.2⟩

theorem Dsk.more {n0 n1 : Nat} {w : World} {p : Nat} {M : List Nat} {D : PD} (h : Dsk n0 w p M D) (hn : n0 ≤ n1) : Dsk n1 w p M D := by
  obtain ⟨bb, nc, G, wv, L, h1, h2⟩ := h
  exact ⟨bb, nc, G, wv, L, h1.more hn, h2⟩
theorem Dsk.below {n0 : Nat} {w w' : World} {p : Nat} {M : List Nat} {D : PD} (h : Dsk n0 w p M D) (hb : Below n0 w w') : Dsk n0 w' p M D := by
  obtain ⟨bb, nc, G, wv, L, h1, h2⟩ := h
  exact ⟨bb, nc, G, wv, L, h1.below hb, h2⟩
theorem Dsk.blk_ne {n0 : Nat} {w : World} {p : Nat} {M : List Nat} {D : PD} {g : Nat} {t : TypeId} {cs : Array Value} (h : Dsk n0 w p M D) (hg : Blk w g t cs) (h1 : t ≠ 69) (h2 : t ≠ 34) (h3 : t ≠ 73) : g ∉ M := by
  obtain ⟨bb, nc, G, wv, L, hD, _, _, rfl⟩ := h
  exact hD.blk_ne hg h1 h2 h3
theorem Dsk.lt {n0 : Nat} {w : World} {p : Nat} {M : List Nat} {D : PD} (h : Dsk n0 w p M D) : ∀ g ∈ M, g < n0 := by
  obtain ⟨bb, nc, G, wv, L, hD, _, _, rfl⟩ := h
  intro g hm
  simp only [dskM, List.mem_cons, Option.mem_toList] at hm
  rcases hm with rfl | rfl | hm
  · exact hD.plt
  · exact hD.blt
  · exact hD.wlt g hm

/-! ### what the calls come to, in plain words -/
def PD.goes (D : PD) : Bool × PD :=
  if D.fuse = 0 ∨ D.off = true then (false, { D with off := true }) else (true, { D with fuse := max (D.fuse - 1) (-1) })
def PD.write (D : PD) (i : Int) (b : List UInt8) : Int × PD :=
  if 0 ≤ i ∧ i < D.blocks.length ∧ b.length = 128 then
    if (D.goes).1 then (0, { (D.goes).2 with waits := D.waits ++ [(i.toNat, b)], wrote := D.wrote + 1 }) else (7, (D.goes).2)
  else (1, D)
def landAll (bs : List (Option (List UInt8))) (l : List (Nat × List UInt8)) : List (Option (List UInt8)) := l.foldl (fun bs x => bs.set x.1 (some x.2)) bs
def PD.flush (D : PD) : Int × PD :=
  if (D.goes).1 then (0, { (D.goes).2 with blocks := landAll D.blocks D.waits, waits := [] }) else (7, (D.goes).2)
def lastOf (l : List (Nat × List UInt8)) (i : Nat) : Option (List UInt8) := (l.reverse.find? (·.1 = i)).map (·.2)
def PD.read (D : PD) (i : Int) : Option (List UInt8) :=
  if 0 ≤ i ∧ i < D.blocks.length ∧ D.off = false then
    match lastOf D.waits i.toNat with
    | some b => some b
    | none => (D.blocks[i.toNat]?).getD none
  else none
/-- what a boot does to what waits -/
def bootStep (bs : List (Option (List UInt8))) (x : Nat × List UInt8) (h : UInt8) : List (Option (List UInt8)) :=
  if h.toNat % 3 = 1 then bs.set x.1 (some x.2) else if h.toNat % 3 = 2 then bs.set x.1 none else bs
def bootAll (bs : List (Option (List UInt8))) (l : List (Nat × List UInt8)) (how : List UInt8) : List (Option (List UInt8)) := (l.zip how).foldl (fun bs y => bootStep bs y.1 y.2) bs
def PD.boot (D : PD) (how : List UInt8) : PD := { blocks := bootAll D.blocks D.waits how, waits := [], fuse := -1, off := false, wrote := D.wrote }
/-- byte number k of a number -/
def byteOf (x : Nat) (k : Nat) : UInt8 := UInt8.ofNat (x / 2 ^ (8 * k))
/-- k bytes of a burst -/
def burstK (b : List UInt8) (a : Nat) (x : Nat) : Nat → List UInt8
  | 0 => b
  | k + 1 => (burstK b a x k).set (a + k) ((burstK b a x k)[a + k]?.getD 0 ^^^ byteOf x k)
def PD.burst (D : PD) (i a : Int) (x : Nat) : Bool × PD :=
  if 0 ≤ i ∧ i < D.blocks.length ∧ 0 ≤ a ∧ a ≤ 124 ∧ D.waits = [] then
    (true, { D with blocks := match (D.blocks[i.toNat]?).getD none with | none => D.blocks | some b => D.blocks.set i.toNat (some (burstK b a.toNat x 4)) })
  else (false, D)
def PD.new (n : Nat) : PD := { blocks := List.replicate n (some (List.replicate 128 0)), waits := [], fuse := -1, off := false, wrote := 0 }

end Go.Proofs.Ytioieffmihdheaa
