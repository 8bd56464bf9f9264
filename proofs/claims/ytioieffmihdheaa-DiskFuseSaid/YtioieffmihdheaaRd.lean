/- Read, of a disk that is on, at a block that is there. -/
import Derived.Test.YtioieffmihdheaaDB
namespace Go.Proofs.Ytioieffmihdheaa
open Go.RowKit Go.Shelf
set_option linter.unusedVariables false
set_option linter.unusedSimpArgs false
attribute [local go_sem] Oper.semAt_some

theorem keepsOthers_of_below {W W' : World} (h : Below W.heap.size W W') : KeepsOthers W W' :=
  ⟨h.size, fun k _ hk _ => (h.block k (Array.getElem?_eq_some_iff.1 hk).1).trans hk⟩
theorem owns_kept {W W' : World} {row : Option Nat} {base : Nat} {e : TypeId} {size : Nat} {v : Value} {n : Nat} {xs : List Value} (h : W.ownsRow base e size v n xs) (hg : W.grownBy W' row)
    (hrow : ∀ r, row = some r → ∃ o : Obj, W.heap[r]? = some o ∧ o.isCells = false) : W'.ownsRow base e size v n xs := by
  refine h.kept hg ?_
  rcases h.2 with ⟨rfl, _⟩ | ⟨g, c, cur, rfl, _, hh, _⟩
  · exact .inl rfl
  · refine .inr (fun e1 => ?_)
    obtain ⟨o, ho, hc⟩ := hrow g e1.symm
    rw [hh] at ho
    cases ho
    cases hc

/-- what is found among what waits, the last one first -/
def lastG (L : List (Nat × Value × List UInt8)) (i : Nat) : Option (List UInt8) := (L.reverse.find? (·.1 = i)).map (·.2.2)
theorem lastG_none {L : List (Nat × Value × List UInt8)} {i : Nat} (h : ∀ k : Fin L.length, L[k].1 ≠ i) : lastG L i = none := by
  unfold lastG
  rw [List.find?_eq_none.2]
  · rfl
  · intro x hx
    obtain ⟨k, hk, rfl⟩ := List.getElem_of_mem (List.mem_reverse.1 hx)
    simpa using h ⟨k, hk⟩
theorem lastG_some {L : List (Nat × Value × List UInt8)} {i : Nat} (k : Fin L.length) (hk : L[k].1 = i) (h : ∀ j : Fin L.length, k.val < j.val → L[j].1 ≠ i) : lastG L i = some L[k].2.2 := by
  unfold lastG
  have h1 : L = L.take k.val ++ L[k] :: L.drop (k.val + 1) := by
    rw [Fin.getElem_fin, ← List.drop_eq_getElem_cons k.isLt, List.take_append_drop]
  have h2 : L.reverse.find? (·.1 = i) = some L[k] := by
    conv => lhs; rw [h1]
    rw [List.reverse_append, List.reverse_cons, List.find?_append, List.find?_append]
    have h3 : (L.drop (k.val + 1)).reverse.find? (·.1 = i) = none := by
      rw [List.find?_eq_none]
      intro x hx
      obtain ⟨j, hj, rfl⟩ := List.getElem_of_mem (List.mem_reverse.1 hx)
      rw [List.getElem_drop]
      simp only [List.length_drop] at hj
      have := h ⟨k.val + 1 + j, by omega⟩ (by simp; omega)
      simpa using this
    rw [h3]
    have hk' : L[k.val].1 = i := hk
    simp [hk']
  rw [h2]
  rfl

/-- of what came, backward, the last one alone is of block i -/
theorem lastG_of_pre {L : List (Nat × Value × List UInt8)} {i j : Nat} {ini : List (Fin L.length)} {last : Fin L.length} (hj : j ≤ L.length) (he : ini ++ [last] = (downs L.length).take j) (hi : ∀ k ∈ ini, L[k].1 ≠ i) (hl : L[last].1 = i) : lastG L i = some L[last].2.2 := by
  obtain ⟨j', rfl⟩ : ∃ j', j = j' + 1 := by
    cases j with
    | zero => simp at he
    | succ j' => exact ⟨j', rfl⟩
  rw [downs_take _ (by omega)] at he
  obtain ⟨rfl, e2⟩ := List.append_inj' he rfl
  have hlast : last = ⟨L.length - 1 - j', by omega⟩ := by simpa using e2
  refine lastG_some last hl ?_
  intro k hk
  refine hi k ?_
  rw [hlast] at hk
  simp only at hk
  have hkl := k.isLt
  refine List.mem_iff_getElem?.2 ⟨L.length - 1 - k.val, ?_⟩
  rw [List.getElem?_take, if_pos (by omega), downs_at _ (by omega)]
  congr 1
  exact Fin.ext (by simp; omega)

/-- what a Read finds -/
def readO (G : List (Value × Option (List UInt8))) (L : List (Nat × Value × List UInt8)) (i : Nat) : Option (List UInt8) := match lastG L i with | some l => some l | none => (G[i]?).bind (·.2)
theorem readO_last {G : List (Value × Option (List UInt8))} {L : List (Nat × Value × List UInt8)} {i : Nat} {l : List UInt8} (h : lastG L i = some l) : readO G L i = some l := by unfold readO; rw [h]
theorem readO_none {G : List (Value × Option (List UInt8))} {L : List (Nat × Value × List UInt8)} {i : Nat} {v : Value} {o : Option (List UInt8)} (h : lastG L i = none) (hg : G[i]? = some (v, o)) : readO G L i = o := by unfold readO; rw [h, hg]; rfl

/-- Read's own boxes: the number, the two results -/
structure RBox (w : World) (i : Nat) (r0 r1 : Value) (W : World) : Prop where
  bi : Boxed W w.heap.size 3 (.int .i64 i)
  b0 : Boxed W (w.heap.size + 1) 34 r0
  b1 : Boxed W (w.heap.size + 1 + 1) 4 r1

theorem RBox.own {β : Type} (w : World) (i : Nat) (r0 r1 : β → Value) : Own (fun s W => RBox w i (r0 s) (r1 s) W) := fun s X Y row hs hg hrow =>
  ⟨boxed_own _ _ (fun _ : Unit => _) () X Y row hs.bi hg hrow, boxed_own _ _ (fun _ : Unit => _) () X Y row hs.b0 hg hrow, boxed_own _ _ (fun _ : Unit => _) () X Y row hs.b1 hg hrow⟩
theorem RBox.below {w W W' : World} {i : Nat} {r0 r1 : Value} (h : RBox w i r0 r1 W) (hb : Below W.heap.size W W') : RBox w i r0 r1 W' :=
  ⟨(hb.block _ h.bi.lt).trans h.bi, (hb.block _ h.b0.lt).trans h.b0, (hb.block _ h.b1.lt).trans h.b1⟩

/-- where the last loop round left the boxes -/
def RIx (w : World) (L : List (Nat × Value × List UInt8)) (i : Nat) (pre : List (Fin L.length)) (W : World) : Prop :=
  ∃ ini last, pre = ini ++ [last] ∧ (∀ k ∈ ini, L[k].1 ≠ i) ∧ L[last].1 = i ∧ ∃ g c, RBox w i (.slice (some ⟨g, 0, none⟩) L[last].2.2.length c) (.bool true) W ∧ W.ownsRow w.heap.size 5 1 (.slice (some ⟨g, 0, none⟩) L[last].2.2.length c) L[last].2.2.length (L[last].2.2.map BV)

set_option maxRecDepth 100000 in
set_option maxHeartbeats 3200000 in
theorem read_yes {n0 : Nat} {w : World} {p bb nc : Nat} {G : List (Value × Option (List UInt8))} {wv : Value} {L : List (Nat × Value × List UInt8)} {fuse : Int} {wrote : Int} (h : DskG n0 w p bb nc G wv L fuse false wrote) (hn : n0 ≤ w.heap.size)
    (hL : L.length ≤ 1048576) (i : Nat) (hi : i < G.length) :
    Calls Try.prog 21 #[.pointer (some ⟨p, 0, none⟩), .int .i64 i] w (ReadPost w (readO G L i)) := by
  have hq := fun (w : World) (a : Option Addr) (n c : Nat) => Lib.run_eql_slice_nil (P := Try.prog) w 34 5 a n c 0 0 Try.underlying34
  obtain ⟨A, c, hwv⟩ := h.wvslice
  subst hwv
  have hfew := h.few
  have hpl := h.self.lt
  have hone : ∀ x ∈ L, x.2.1.oneCell' = true := fun x hx => one_of_owns (h.wait x hx).2.1.1
  have hBel : Below w.heap.size w (((w.alloc (.cells #[.int .i64 i] 3)).alloc (.cells #[.slice none 0 0] 34)).alloc (.cells #[.bool false] 4)) := (((Below.refl _ w).alloc (Nat.le_refl _) _).alloc (by simp) _).alloc (by simp; omega) _
  have HB := Lib.hid hBel
  have HC := Lib.hid ((hBel.cell (p := ⟨p, 0, none⟩) hpl).trans h.c0)
  have hc3 := (hBel.cell (p := ⟨p, 3, none⟩) hpl).trans h.c3
  have hc1 := (hBel.cell (p := ⟨p, 1, none⟩) hpl).trans h.c1
  have hc0 := (hBel.cell (p := ⟨p, 0, none⟩) hpl).trans h.c0
  have hbox : RBox w i (.slice none 0 0) (.bool false) (((w.alloc (.cells #[.int .i64 i] 3)).alloc (.cells #[.slice none 0 0] 34)).alloc (.cells #[.bool false] 4)) := by
    refine ⟨((Boxed.new w _ _).alloc _).alloc _, ?_, ?_⟩
    · have := (Boxed.new (w.alloc (.cells #[.int .i64 i] 3)) 34 (.slice none 0 0)).alloc (.cells #[.bool false] 4)
      simpa using this
    · have := Boxed.new ((w.alloc (.cells #[.int .i64 i] 3)).alloc (.cells #[.slice none 0 0] 34)) 4 (.bool false)
      simpa using this
  have HX := Lib.hid hbox
  have HR : Hid (decide (0 ≤ (i : Int) ∧ (i : Int) < (G.length : Int)) = true) := by show decide _ = true; simp; omega
  have HH := Lib.hid h
  have HN := Lib.hid hn
  have HO := Lib.hid hone
  clear h hn hone hBel hbox
  refine (callsIn_wide (n := 9)).1 ?_
  refine callsIn_of_wp_marks Try.func21 rfl trivial ?_ rfl
  simp only [Try.ntmps21, List.size_toArray, List.length_cons, List.length_nil, Nat.reduceAdd, Nat.reduceSub, Array.replicate_succ, Array.replicate_zero, List.push_toArray, List.append_toArray, List.nil_append, List.cons_append]
  gi_wp2_with (first | (refine ⟨trivial, ?_⟩; gi_at_call 39; refine (callsIn_wide.2 (has_any p bb nc G.length i _ true HC.out hfew HR.out)).mono ?_; rintro e w' ⟨rfl, rfl⟩) | (refine ⟨trivial, ?_⟩; gi_at_call 43; refine (back_in Fence.wide _ trivial rfl _ _ _ _).mono ?_; rintro e w' ⟨rfl, rfl⟩))
  have hsz0 : ((((w.alloc (.cells #[.int .i64 i] 3)).alloc (.cells #[.slice none 0 0] 34)).alloc (.cells #[.bool false] 4)).alloc (.cells #[.slice A L.length c] 67)).heap.size = w.heap.size + 4 := by simp
  have hB0 : Below w.heap.size w ((((w.alloc (.cells #[.int .i64 i] 3)).alloc (.cells #[.slice none 0 0] 34)).alloc (.cells #[.bool false] 4)).alloc (.cells #[.slice A L.length c] 67)) := HB.out.alloc HB.out.size _
  have hbX : RBox w i (.slice none 0 0) (.bool false) ((((w.alloc (.cells #[.int .i64 i] 3)).alloc (.cells #[.slice none 0 0] 34)).alloc (.cells #[.bool false] 4)).alloc (.cells #[.slice A L.length c] 67)) := HX.out.below ((Below.refl _ _).alloc (Nat.le_refl _) _)
  have hbS : Boxed ((((w.alloc (.cells #[.int .i64 i] 3)).alloc (.cells #[.slice none 0 0] 34)).alloc (.cells #[.bool false] 4)).alloc (.cells #[.slice A L.length c] 67)) (w.heap.size + 1 + 1 + 1) 67 (.slice A L.length c) := by
    have := Boxed.new (((w.alloc (.cells #[.int .i64 i] 3)).alloc (.cells #[.slice none 0 0] 34)).alloc (.cells #[.bool false] 4)) 67 (.slice A L.length c)
    simpa using this
  obtain ⟨W0, hW0⟩ : ∃ W0, ((((w.alloc (.cells #[.int .i64 i] 3)).alloc (.cells #[.slice none 0 0] 34)).alloc (.cells #[.bool false] 4)).alloc (.cells #[.slice A L.length c] 67)) = W0 := ⟨_, rfl⟩
  rw [hW0] at hsz0 hB0 hbX hbS ⊢
  clear hW0 hc0 hc1 hc3
  have hWR : WaitRow w.heap.size W0 (.slice A L.length c) L := ((HH.out.more HN.out).below hB0).waitRow
  have hz0 : w.heap.size + 3 < W0.heap.size := by omega
  have HS0 := Lib.hid hsz0
  have HB0 := Lib.hid hB0
  clear hsz0 hB0
  refine wpIn_rangeFunc_ownH rfl (by omega) (gf := 51) (lb := #[.pointer (some ⟨w.heap.size + 1 + 1 + 1, 0, none⟩)]) rfl trivial (enters_of Try.func51 (by kernel_rfl) rfl)
    (back_stops Fence.wide _ trivial rfl (by omega) (w.heap.size + 1 + 1 + 1) w.heap.size _ L hL HO.out W0 (by omega) (by omega) hbS.cell hWR) (fun h k => h.trans k) (fun W l o o' hl ho hc hw => ⟨belowK_b (w := W0) (by omega) W l o o' hl ho hc hw, World.putObj_heap_other (by omega)⟩) (Below.refl _ _) (fun _ => rfl)
    (fun pre W => (RBox w i (.slice none 0 0) (.bool false) W ∧ ∀ k ∈ pre, L[k].1 ≠ i) ∧ Below w.heap.size W0 W)
    (fun c pre W => (c = .ret ∧ RIx w L i pre W) ∧ Below w.heap.size W0 W)
    (OwnFrom.and (Own.from (fun s X Y row hs hg hr => ⟨RBox.own w i (fun _ : Unit => _) (fun _ : Unit => _) () X Y row hs.1 hg hr, hs.2⟩) _) (ownFrom_below (by omega) (by omega)))
    (fun cc => OwnFrom.and (Own.from (fun s X Y row hs hg hr => by
      obtain ⟨h1, ini, last, h2, h3, h4, g, c2, h5, h6⟩ := hs
      exact ⟨h1, ini, last, h2, h3, h4, g, c2, RBox.own w i (fun _ : Unit => _) (fun _ : Unit => _) () X Y row h5 hg hr, owns_kept h6 hg hr⟩) _) (ownFrom_below (by omega) (by omega)))
    ⟨⟨hbX, by simp⟩, Below.refl _ _⟩
    (fun x a' W => ∃ Bx, w.heap.size + 3 < Bx ∧ Blk W Bx 73 #[.int .i64 (L[x].1 : Int), L[x].2.1] ∧ a' = { tmps := #[.pointer (some ⟨p, 0, none⟩), .int .i64 i, undef, .pointer (some ⟨w.heap.size, 0, none⟩), .pointer (some ⟨w.heap.size + 1, 0, none⟩), .pointer (some ⟨w.heap.size + 1 + 1, 0, none⟩), undef, .pointer (some ⟨Bx, 0, none⟩), .pointer (some ⟨p, 0, none⟩), .int .i64 i, .bool true, .bool false, .bool false, .pointer (some ⟨p, 0, none⟩), .pointer (some ⟨p, 0, none⟩), .pointer (some ⟨p, 3, none⟩), .bool false, .bool false, .pointer (some ⟨p, 0, none⟩), .pointer (some ⟨p, 0, none⟩), .pointer (some ⟨p, 1, none⟩), .slice A L.length c, .func (.func 51) #[] #[.pointer (some ⟨w.heap.size + 1 + 1 + 1, 0, none⟩)], .int .i64 (x.val : Int), .agg #[.int .i64 (L[x].1 : Int), L[x].2.1], undef, undef, undef, undef, undef, undef, undef, undef, undef, undef, undef, undef, undef, undef, undef, undef, undef, undef, undef, undef, undef, undef, undef], defers := [] })
    (fun x a' s X Y row hs hg hr => by
      obtain ⟨Bx, h1, h2, h3⟩ := hs
      exact ⟨Bx, h1, (hg.block Bx h2.lt (fun e => by obtain ⟨_, o, ho, hc⟩ := hr Bx e.symm; unfold Blk at h2; rw [h2] at ho; cases ho; cases hc)).trans h2, h3⟩)
    ?assign ?body ?done ?stop
  case assign =>
    rintro l pre x W K ⟨⟨hX, hpre⟩, hB1⟩ hK
    obtain ⟨hw1, hw2, hw3⟩ := HH.out.wait L[x] (List.getElem_mem _)
    obtain ⟨gv, cv, hv, _⟩ := hw2.form
    simp only [backEnc]
    generalize L[x] = y at hv hK
    obtain ⟨y1, y2, y3⟩ := y
    simp only at hv
    subst hv
    have HK := Lib.hid hK
    have hWs' := hB1.size
    have hWs : w.heap.size ≤ W.heap.size := by omega
    clear hK
    gi_wp2
    refine HK.out _ _ ((keepsOthers_of_below ((Below.refl _ W).alloc (Nat.le_refl _) _)).from _) ⟨(Below.refl _ W).alloc hWs _, Below.heap_alloc _ _ _ ?_⟩ ⟨⟨hX.below ((Below.refl _ W).alloc (Nat.le_refl _) _), hpre⟩, hB1.alloc hWs _⟩ ⟨W.heap.size, ?_, Blk.new W _ _, rfl⟩
    · omega
    · omega
  case body =>
    rintro l pre x a' W hl ⟨r, hr⟩ ⟨⟨hX, hpre⟩, hB1⟩ ⟨Bx, hBx, bX, rfl⟩ hlt
    obtain ⟨hw1, hw2, hw3⟩ := HH.out.wait L[x] (List.getElem_mem _)
    obtain ⟨y, hy⟩ : ∃ y, L[x] = y := ⟨_, rfl⟩
    rw [hy] at hw1 hw2 hw3 bX ⊢
    have HY := Lib.hid hy
    clear hy
    obtain ⟨gv, cv, hv, hvl, _, _, hvc⟩ := hw2.form
    have hbi := hX.bi.cell
    have hx0 := bX.cell 0
    have hx1 := bX.cell 1
    have hXl := hX.b1.lt
    have HX1 := Lib.hid hX
    have HP := Lib.hid hpre
    have HB1 := Lib.hid hB1
    have HVL := Lib.hid hvl
    have hcl : ∀ j u, (y.2.2.map BV)[j]? = some u → W.cell? ((⟨gv, 0, none⟩ : Addr).add j) = some u := by
      intro j u hu
      rw [hB1.cell (by have := HN.out; unfold Addr.add; split <;> (simp only []; omega)), HB0.out.cell (by have := HN.out; unfold Addr.add; split <;> (simp only []; omega))]
      exact hvc j u hu
    have HCL := Lib.hid hcl
    have hl0 : y.2.2.length ≤ 1048576 := by omega
    have f0 := hX.b0.frozen
    have f1 := hX.b1.frozen
    have g0 := hX.b0.cell
    have g1 := hX.b1.cell
    have hBx0 := hB1.size
    have hBx1 : w.heap.size ≤ W.heap.size := by omega
    have hr1 := (Array.getElem?_eq_some_iff.1 hr).1
    simp only [List.getElem?_toArray, List.getElem?_cons_zero, List.getElem?_cons_succ] at hx0 hx1
    clear hX hpre hw1 hw2 hw3 hvl hvc hB1 hcl
    by_cases he : y.1 = i
    · have he' : ((y.1 : Int) == (i : Int)) = true := by rw [he]; simp
      have HE := Lib.hid he
      clear he
      rw [hv] at hx1
      rw [hv]
      gi_wp2_with (refine ⟨trivial, ?_⟩; gi_at_call 41; refine (CallsIn.inRound l (callsIn_wide.2 (clone_some ⟨gv, 0, none⟩ cv _ _ hl0 HCL.out))).mono ?_; rintro e W3 ⟨g3, c3, rfl, hown3, hbel3⟩; have HO3 := Lib.hid hown3; have HB3 := Lib.hid hbel3; have hX3 := HX1.out.below hbel3; have e0 := hX3.b0.cell; have e1 := hX3.b1.cell; have e2 := hX3.b0.frozen; have e3 := hX3.b1.frozen; have HX3 := Lib.hid hX3; have hs3 := hbel3.size; clear hown3 hbel3 hX3)
      have hA : Below w.heap.size W ((W3.setCell ⟨w.heap.size + 1, 0, none⟩ (.slice (some ⟨g3, 0, none⟩) y.2.2.length c3)).setCell ⟨w.heap.size + 1 + 1, 0, none⟩ (.bool true)) := ((HB3.out.mono hBx1).setCell (p := ⟨w.heap.size + 1, 0, none⟩) (by simp) _).setCell (p := ⟨w.heap.size + 1 + 1, 0, none⟩) (by simp; omega) _
      refine ⟨((keepsOthers_of_below HB3.out).trans ((KeepsOthers.setCell _ _ _).trans (KeepsOthers.setCell _ _ _))).from _, ⟨rfl, pre, x, rfl, HP.out, by rw [HY.out]; exact HE.out, g3, c3, ?_, ?_⟩, HB1.out.trans hA⟩
      · rw [HY.out]
        exact ⟨(HX3.out.bi.other (by omega) _).other (by omega) _, (HX3.out.b0.set _).other (by omega) _, (HX3.out.b1.other (by omega) _).set _⟩
      · rw [HY.out]
        have h1 := owns_rebase HO3.out hBx1
        have hne : ∀ g, (Value.slice (some ⟨g3, 0, none⟩) y.2.2.length c3).ownBlock = some g → g ∉ [w.heap.size + 1, w.heap.size + 1 + 1] := by
          intro g hg hm
          simp only [List.mem_cons, List.not_mem_nil, or_false] at hm
          rcases hm with rfl | rfl
          · exact owns_blk_ne (t := 34) h1 HX3.out.b0 (by decide) hg
          · exact owns_blk_ne (t := 4) h1 HX3.out.b1 (by decide) hg
        exact (((Kp.refl [w.heap.size + 1, w.heap.size + 1 + 1] W3).setCell (.inl (by simp)) _).setCell (.inl (by simp)) _).owns h1 hne
    · have he' : ((y.1 : Int) == (i : Int)) = false := by simp; omega
      have HE := Lib.hid he
      clear he
      gi_wp2
      exact ⟨KeepsFrom.refl _ _, KpB.refl _ _ _, ⟨HX1.out, fun k hk => (List.mem_append.1 hk).elim (HP.out k) (fun e => by simp only [List.mem_singleton] at e; subst e; rw [HY.out]; exact HE.out)⟩, HB1.out⟩
  case done =>
    rintro D ys W hD rfl ⟨⟨hX, hne⟩, hB⟩ hK
    have hlast : lastG L i = none := lastG_none (fun k => hne k (by unfold downs; rw [List.mem_reverse]; exact List.mem_finRange k))
    have hBw := HB0.out.trans hB
    have hD1 := (HH.out.more HN.out).below hBw
    obtain ⟨⟨v, o⟩, hg⟩ : ∃ y, G[i]? = some y := ⟨_, List.getElem?_eq_getElem hi⟩
    obtain ⟨hcb, _, hv⟩ := hD1.block_cell hg
    have c0 := hD1.c0
    have hbb := hD1.blt
    have hpp := hD1.plt
    have cbi := hX.bi.cell
    have e0 := hX.b0.cell
    have e1 := hX.b1.cell
    have e2 := hX.b0.frozen
    have e3 := hX.b1.frozen
    have hWz := hBw.size
    have hWz0 := hB.size
    have hWD := (Array.getElem?_eq_some_iff.1 hK).1
    have hb1l := hX.b1.lt
    have hi0 : (0 : Int) ≤ (i : Int) := by omega
    have hi1 : (i : Int) < (G.length : Int) := by omega
    have hpH : p ≠ w.heap.size := by omega
    have hpH1 : p ≠ w.heap.size + 1 := by omega
    have hpH2 : p ≠ w.heap.size + 1 + 1 := by omega
    have hbH : bb ≠ w.heap.size := by omega
    have hbH1 : bb ≠ w.heap.size + 1 := by omega
    have hbH2 : bb ≠ w.heap.size + 1 + 1 := by omega
    have hHH2 : w.heap.size + 1 + 1 ≠ w.heap.size := by omega
    have hHH1 : w.heap.size + 1 ≠ w.heap.size := by omega
    have hpH1' := hpH1.symm
    have hpH2' := hpH2.symm
    have hbH1' := hbH1.symm
    have hbH2' := hbH2.symm
    have HXX := Lib.hid hX
    have HLA := Lib.hid hlast
    have HBW := Lib.hid hBw
    have HKK := Lib.hid hK
    have HGI := Lib.hid hg
    have HQN := Lib.hid (fun (w : World) (a : Option Addr) (n c : Nat) => run_neq_slice_nil_any (P := Try.prog) w 34 5 a n c 0 0 Try.underlying34)
    have hqn := HQN.out
    clear hX hne hB hlast hBw hD1 hK hg
    cases o with
    | none =>
      simp only [OptB] at hv
      subst hv
      simp only at hcb
      gi_wp2
      refine wpIn_wide.2 ?_
      go_region_held3 (fun w' => w'.cell? ⟨p, 0, none⟩ = some (.slice (some ⟨bb, 0, none⟩) G.length nc) ∧ w'.cell? ⟨w.heap.size, 0, none⟩ = some (.int .i64 i) ∧ w'.cell? ⟨bb, i, none⟩ = some (.slice none 0 0))
        (go_keep)
        ((first
          | (go_at_call 44; refine (bclone_nil _).mono ?_; rintro e w' ⟨rfl, rfl⟩)))
      all_goals gi_wp2
      have hXf : RBox w i (.slice none 0 0) (.bool false) ((W.setCell ⟨w.heap.size + 1, 0, none⟩ (.slice none 0 0)).setCell ⟨w.heap.size + 1 + 1, 0, none⟩ (.bool false)).drew :=
        ⟨(HXX.out.bi.other (by omega) _).other (by omega) _, (HXX.out.b0.set _).other (by omega) _, (HXX.out.b1.other (by omega) _).set _⟩
      have hKf := ((KeepsOthers.setCell W ⟨w.heap.size + 1, 0, none⟩ (.slice none 0 0)).trans (KeepsOthers.setCell _ ⟨w.heap.size + 1 + 1, 0, none⟩ (.bool false))).same D _ HKK.out rfl
      have hBf : Below w.heap.size w ((W.setCell ⟨w.heap.size + 1, 0, none⟩ (.slice none 0 0)).setCell ⟨w.heap.size + 1 + 1, 0, none⟩ (.bool false)).drew := ((HBW.out.setCell (p := ⟨w.heap.size + 1, 0, none⟩) (by simp) _).setCell (p := ⟨w.heap.size + 1 + 1, 0, none⟩) (by simp; omega) _).drew
      refine ⟨by simp, .inl ⟨_, _, rfl, run_takeDeferred hKf, ?_⟩⟩
      have hr0 := cell_kept hXf.b0.cell (grownBy_putObj' _ D (.deferred none)) (fun r e => by cases e; exact ⟨_, hKf, rfl⟩)
      have hr1 := cell_kept hXf.b1.cell (grownBy_putObj' _ D (.deferred none)) (fun r e => by cases e; exact ⟨_, hKf, rfl⟩)
      refine ⟨.tuple #[.slice none 0 0, .bool false], ?_, hBf.trans (belowK_b (w := w) (Nat.le_refl _) _ D _ _ (by omega) hKf rfl rfl), ?_⟩
      · simp [results, Try.f21, go_sem, hr0, hr1]
      · rw [readO_none HLA.out HGI.out]
    | some l =>
      obtain ⟨hvb, hvl⟩ := hv
      obtain ⟨gv, cv, hvf, hglt, _, _, hvc⟩ := hvb.form
      subst hvf
      simp only at hcb
      have hl0 : l.length ≤ 1048576 := by omega
      have HCL := Lib.hid hvc
      have HVL2 := Lib.hid hvl
      clear hvl
      have hWW : w.heap.size ≤ W.heap.size := hWz
      clear hvb hvc
      gi_wp2
      refine wpIn_wide.2 ?_
      go_region_held3 (fun w' => w'.cell? ⟨p, 0, none⟩ = some (.slice (some ⟨bb, 0, none⟩) G.length nc) ∧ w'.cell? ⟨w.heap.size, 0, none⟩ = some (.int .i64 i) ∧ w'.cell? ⟨bb, i, none⟩ = some (.slice (some ⟨gv, 0, none⟩) l.length cv))
        (first
          | go_keep
          | exact ⟨(hb3.1 p 0 (by show p < W.heap.size; omega)).trans c0, (hb3.1 w.heap.size 0 (by show w.heap.size < W.heap.size; omega)).trans cbi, (hb3.1 bb i (by show bb < W.heap.size; omega)).trans hcb⟩)
        ((first
          | (go_at_call 44; refine (bclone_some ⟨gv, 0, none⟩ cv l _ hl0 (by exact HCL.out)).mono ?_; rintro e W3 ⟨g3, c3, rfl, hown3, hbel3⟩; have HO3 := Lib.hid hown3; have HB3 := Lib.hid hbel3; have hb3 := bcell hbel3; have hX3 := HXX.out.below (Below.undrew hbel3); have HX3 := Lib.hid hX3; have e00 := hX3.b0.cell; have e11 := hX3.b1.cell; have e22 := hX3.b0.frozen; have e33 := hX3.b1.frozen; clear hown3 hbel3 hX3)))
      all_goals gi_wp2
      all_goals
        have hXf : RBox w i (.slice (some ⟨g3, 0, none⟩) l.length c3) (.bool true) ((W3.setCell ⟨w.heap.size + 1, 0, none⟩ (.slice (some ⟨g3, 0, none⟩) l.length c3)).setCell ⟨w.heap.size + 1 + 1, 0, none⟩ (.bool true)) :=
          ⟨(HX3.out.bi.other (by omega) _).other (by omega) _, (HX3.out.b0.set _).other (by omega) _, (HX3.out.b1.other (by omega) _).set _⟩
        have hK3 : W3.heap[D]? = some (.deferred (some [])) := (keepsOthers_of_below HB3.out).same D _ HKK.out rfl
        have hKf := ((KeepsOthers.setCell W3 ⟨w.heap.size + 1, 0, none⟩ (.slice (some ⟨g3, 0, none⟩) l.length c3)).trans (KeepsOthers.setCell _ ⟨w.heap.size + 1 + 1, 0, none⟩ (.bool true))).same D _ hK3 rfl
        have hBf : Below w.heap.size w ((W3.setCell ⟨w.heap.size + 1, 0, none⟩ (.slice (some ⟨g3, 0, none⟩) l.length c3)).setCell ⟨w.heap.size + 1 + 1, 0, none⟩ (.bool true)) := ((HBW.out.trans ((Below.undrew HB3.out).mono hWW)).setCell (p := ⟨w.heap.size + 1, 0, none⟩) (by simp) _).setCell (p := ⟨w.heap.size + 1 + 1, 0, none⟩) (by simp; omega) _
        have h1 := owns_rebase (base' := w.heap.size) HO3.out hWW
        have hne : ∀ g, (Value.slice (some ⟨g3, 0, none⟩) l.length c3).ownBlock = some g → g ∉ [w.heap.size + 1, w.heap.size + 1 + 1] := by
          intro g hg hm
          simp only [List.mem_cons, List.not_mem_nil, or_false] at hm
          rcases hm with rfl | rfl
          · exact owns_blk_ne (t := 34) h1 HX3.out.b0 (by decide) hg
          · exact owns_blk_ne (t := 4) h1 HX3.out.b1 (by decide) hg
        have hof := (((Kp.refl [w.heap.size + 1, w.heap.size + 1 + 1] W3).setCell (p := ⟨w.heap.size + 1, 0, none⟩) (.inl (by simp)) (.slice (some ⟨g3, 0, none⟩) l.length c3)).setCell (p := ⟨w.heap.size + 1 + 1, 0, none⟩) (.inl (by simp)) (.bool true)).owns h1 hne
        refine ⟨by simp, .inl ⟨_, _, rfl, run_takeDeferred hKf, ?_⟩⟩
        have hr0 := cell_kept hXf.b0.cell (grownBy_putObj' _ D (.deferred none)) (fun r e => by cases e; exact ⟨_, hKf, rfl⟩)
        have hr1 := cell_kept hXf.b1.cell (grownBy_putObj' _ D (.deferred none)) (fun r e => by cases e; exact ⟨_, hKf, rfl⟩)
        refine ⟨.tuple #[.slice (some ⟨g3, 0, none⟩) l.length c3, .bool true], ?_, hBf.trans (belowK_b (w := w) (Nat.le_refl _) _ D _ _ (by omega) hKf rfl rfl), ?_⟩
        · simp [results, Try.f21, go_sem, hr0, hr1]
        · rw [readO_none HLA.out HGI.out]
          exact ⟨g3, c3, rfl, owns_kept hof (grownBy_putObj' _ D (.deferred none)) (fun r e => by cases e; exact ⟨_, hKf, rfl⟩)⟩
  case stop =>
    rintro D cc pre W hD ⟨j, hj, rfl⟩ ⟨⟨rfl, ini, last, e1, e2, e3, g, c2, hX, ho⟩, hB⟩ hK
    have hlast := lastG_of_pre hj e1.symm e2 e3
    have HLA := Lib.hid hlast
    have HXX := Lib.hid hX
    have HOO := Lib.hid ho
    have HBW := Lib.hid (HB0.out.trans hB)
    have HKK := Lib.hid hK
    clear e1 e2 e3 hlast hX ho hB hK
    gi_wp2
    refine ⟨by simp, .inl ⟨_, _, rfl, run_takeDeferred HKK.out, ?_⟩⟩
    have hr0 := cell_kept HXX.out.b0.cell (grownBy_putObj' _ D (.deferred none)) (fun r e => by cases e; exact ⟨_, HKK.out, rfl⟩)
    have hr1 := cell_kept HXX.out.b1.cell (grownBy_putObj' _ D (.deferred none)) (fun r e => by cases e; exact ⟨_, HKK.out, rfl⟩)
    refine ⟨.tuple #[.slice (some ⟨g, 0, none⟩) L[last].2.2.length c2, .bool true], ?_, HBW.out.trans (belowK_b (w := w) (Nat.le_refl _) _ D _ _ (by omega) HKK.out rfl rfl), ?_⟩
    · simp [results, Try.f21, go_sem, hr0, hr1]
    · rw [readO_last HLA.out]
      exact ⟨g, c2, rfl, owns_kept HOO.out (grownBy_putObj' _ D (.deferred none)) (fun r e => by cases e; exact ⟨_, HKK.out, rfl⟩)⟩

end Go.Proofs.Ytioieffmihdheaa
