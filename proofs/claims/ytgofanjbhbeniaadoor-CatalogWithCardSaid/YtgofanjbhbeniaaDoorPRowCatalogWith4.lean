/- Catalogs made anew: the statement's first steps: what is handed in is cut. -/
import Derived.Test.YtgofanjbhbeniaaDoorPRowCatalogWith3
section
/- Catalogs come back: the statement's first steps. -/
noncomputable section
namespace Go.Proofs.YtgofanjbhbeniaaDoor.lf
open AE
set_option linter.unusedSimpArgs false
set_option linter.unusedVariables false
set_option maxRecDepth 10000

theorem tgCX : ∀ a b, targetA E (.func 17) a b = .pure (.enter 17 (b ++ a)) := tgt (fi := FI.of Tryd.f17) (c := bodyOf Tryd.f17) (by kernel_rfl) (by kernel_rfl)
theorem cxRun (s : S) : (constA (.bool true) []).run s = some (.bool true, s) := rfl

/-- a list that is handed in may be cut -/
def CutOK (a : Option Addr) (n cap : Nat) : Prop := (a = none ∧ n = 0 ∧ cap = 0) ∨ (∃ b, a = some ⟨b, 0, none⟩ ∧ ((Nat.ble OPEN cap = false ∧ n ≤ cap) ∨ ∃ c, Nat.ble OPEN cap = true ∧ Nat.sub cap OPEN = c ∧ Nat.add OPEN c = cap ∧ 0 < c ∧ n ≤ c))
theorem sub0 (k : Nat) : Nat.sub k 0 = k := rfl
def cutD (D : CatD) : CatD := { D with files := D.files.take 16 }
theorem fcs_take : ∀ (l : List FileD) (k : Nat), fcs (l.take k) = (fcs l).take (4 * k)
  | [], k => by simp [fcs]
  | f :: l, 0 => rfl
  | f :: l, k + 1 => by
    rw [show 4 * (k + 1) = 4 * k + 4 by omega]
    show f.cells ++ fcs (l.take k) = (f.cells ++ fcs l).take (4 * k + 4)
    rw [fcs_take l k]
    rfl
theorem Vx.cut {s : S} {a : Option Addr} {D : CatD} (h : Vx s a (fcs D.files)) : Vx s a (fcs (cutD D).files) := by
  show Vx s a (fcs (D.files.take 16))
  rw [fcs_take]
  cases a with
  | none =>
    have h : fcs D.files = [] := h
    show (fcs D.files).take 64 = []
    rw [h]; rfl
  | some ad =>
    obtain ⟨h1, h2⟩ := h
    refine ⟨h1, ?_⟩
    obtain ⟨hlt, c, m, k1, k2, k3⟩ := h2
    refine ⟨hlt, c, m, k1, by rw [List.length_take]; omega, ?_⟩
    have := k3.sub 0 (4 * 16)
    simpa using this
theorem clash_zero (b : Nat) : ∀ seen, clash 0 0 b seen = false
  | [] => rfl
  | (i, r, w) :: l => by
    have h1 : Nat.lor (Nat.land w (Nat.lor 0 0)) (Nat.land r 0) = 0 := by
      show (w &&& (0 ||| 0)) ||| (r &&& 0) = 0
      simp
    simp only [clash, h1]
    exact clash_zero b l
/-- ahead of the first question -/
structure BackAt (A B : CatD) (a1 a2 : Option Addr) (c1 c2 : Nat) (t : Tr Value) (s : S) : Prop where
  t2 : t.get 2 = some (.pointer (some ⟨2, 0, none⟩))
  t3 : t.get 3 = some (.pointer (some ⟨3, 0, none⟩))
  t5 : t.get 5 = some (.pointer (some ⟨4, 0, none⟩))
  t6 : t.get 6 = some (.pointer (some ⟨5, 0, none⟩))
  next : s.next = 6
  A2 : Cl s 2 0 (A.cells a1 c1)
  B3 : Cl s 3 0 (B.cells a2 c2)
  P4 : Cl s 4 0 (putD A)
  Q5 : Cl s 5 0 (putD B)
  VA : Vx s a1 (fcs A.files)
  VB : Vx s a2 (fcs B.files)
end Go.Proofs.YtgofanjbhbeniaaDoor.lf
end
end

section
/- Catalogs come back: when one of the two may not be. -/
noncomputable section
namespace Go.Proofs.YtgofanjbhbeniaaDoor.lf
open AE
set_option linter.unusedSimpArgs false
set_option linter.unusedVariables false
set_option maxRecDepth 10000

end Go.Proofs.YtgofanjbhbeniaaDoor.lf
end
end

section
/- Catalogs come back: when both may be. -/
noncomputable section
namespace Go.Proofs.YtgofanjbhbeniaaDoor.lf
open AE
set_option linter.unusedSimpArgs false
set_option linter.unusedVariables false
set_option maxRecDepth 10000

end Go.Proofs.YtgofanjbhbeniaaDoor.lf
end
end

section
/- A right catalog comes back, through its block too; two have the same leaf just if they are the same: at all catalogs. -/
noncomputable section
namespace Go.Proofs.YtgofanjbhbeniaaDoor.lf
open AE
set_option linter.unusedSimpArgs false
set_option linter.unusedVariables false
set_option maxRecDepth 10000

theorem open_facts (O c : Nat) : Nat.ble O (O + c) = true ∧ Nat.sub (O + c) O = c ∧ Nat.add O c = O + c :=
  ⟨ble_iff.2 (Nat.le_add_right _ _), Nat.add_sub_cancel_left O c, rfl⟩
/-- a catalog of the world -/
def CatIn (w : World) (D : CatD) (v : Value) : Prop :=
  (D.files = [] ∧ v = .agg ⟨D.cells none 0⟩) ∨
  ∃ b off cap cs e z, v = .agg ⟨D.cells (some ⟨b, off, none⟩) cap⟩ ∧ D.files.length ≤ cap ∧ w.heap[b]? = some (.cells cs e z) ∧ off ≤ cs.size ∧ ∀ i u, (fcs D.files)[i]? = some u → cs[off + i]? = some u
/-- a statement's own call, in memory of its own -/
theorem calls_own {f : FuncId} {fi : FI} {c : Code} (hf : E.fn.get f = some fi) (hb : fi.body = some c) {args args' : List Value} {sI : S} {ρ2 : Ren} {w : World} (K N : Nat) (hN : Nat.add args.length (Nat.sub fi.ntmps args.length) = N) (hN2 : Nat.ble N lastName = true)
    (hI : Inputs Tryd.prog ρ2 sI w) (ha : LR ρ2 args args') (hm : sI.mark ≤ sI.next) (h : GoW Tryd.prog (ownQ w K) c ⟨f, Tr.ofList args, N, [], none⟩ sI (Ret E f fi fun v _ => v = .bool true)) :
    Calls Tryd.prog f ⟨args'⟩ w fun e w' => e = .returned (.bool true) ∧ Go.RowKit.Below w.heap.size w w' := by
  intro cs
  obtain ⟨v, s2, rfl, ρ', v', w', fr', h1, h2, h3, hbel, h4, h5, h6, h7, h8, h9⟩ := own_run (kind := .normal) hE hf hb K N hN hN2 hI ha hm h cs
  have hv := h3.bool_inv
  subst hv
  exact ⟨.returned (.bool true), w', fr', ⟨rfl, hbel⟩, h4, h5, h6, h7, h8, h9⟩
theorem row_vx {l : List InRow} {k : Nat} {x : InRow} {L : List Value} (hk : (inS l).heap.get k = some (.row (Tr.ofList x.L) x.L.length x.e)) (hlt : k < l.length) (hx : x.L = L) (hw : x.L.length ≤ Tr.wide) : Vx (inS l) (some ⟨k, 0, none⟩) L := by
  subst hx
  exact ⟨rfl, ⟨hlt, _, _, .inr ⟨_, hk⟩, by rw [Nat.zero_add]; exact Nat.le_refl _, row_ofList _ hw⟩⟩
end Go.Proofs.YtgofanjbhbeniaaDoor.lf
end
end

section
/- Catalogs made anew: catalog.With, told. -/
noncomputable section
namespace Go.Proofs.YtgofanjbhbeniaaDoor.lf
open AE
set_option linter.unusedSimpArgs false
set_option linter.unusedVariables false
set_option maxRecDepth 10000

def intsOf : List Value → Option (List Int)
  | [] => some []
  | .int .i64 n :: l => match intsOf l with
    | some r => some (n :: r)
    | none => none
  | _ => none
theorem intsOf_inv : ∀ (l : List Value) (gs : List Int), intsOf l = some gs → l = icsL gs
  | [], gs, h => by cases h; rfl
  | .int .i64 n :: l, gs, h => by
    simp only [intsOf] at h
    split at h
    · rename_i r hr
      cases h
      rw [intsOf_inv l r hr]; rfl
    · cases h
theorem intsOf_ics : ∀ gs : List Int, intsOf (icsL gs) = some gs
  | [] => rfl
  | n :: l => by
    show (match intsOf (icsL l) with | some r => some (n :: r) | none => none) = _
    rw [intsOf_ics l]
theorem ics_len (gs : List Int) : (icsL gs).length = gs.length := List.length_map ..
theorem ints_ics (gs : List Int) : Ints (icsL gs) := fun v hv => by
  obtain ⟨n, _, rfl⟩ := List.mem_map.1 hv
  exact ⟨_, _, rfl⟩

/-- a catalog handed back -/
def outCV (D : CatD) (a : Option Addr) (cap : Nat) : Value := .agg ⟨D.cells a cap⟩
def out0 (D : CatD) : AM Value := match D.files.length with
  | 0 => .pure (outCV D none 0)
  | _ + 1 => .fail
def out1 (D : CatD) : AM Value := match D.files.length with
  | 0 => .fail
  | m + 1 => .new (.cells (Tr.ofList (fcs D.files)) (4 * (m + 1)) 41 .loose) fun r => .pure (outCV D (some ⟨r, 0, none⟩) (OPEN + (m + 1)))
def outA (D : CatD) : AM Value := match D.files.length with
  | 0 => .pure (outCV D none 0)
  | m + 1 => .new (.cells (Tr.ofList (fcs D.files)) (4 * (m + 1)) 41 .loose) fun r => .pure (outCV D (some ⟨r, 0, none⟩) (OPEN + (m + 1)))
def withGA (out : CatD → AM Value) : List Value → AM Value
  | [.agg ⟨[.int .i64 g, .int .i64 st, .int .i64 su, .bool en, .int .i64 f, .int .i64 t, .int .i64 b, .int .i64 fa, .slice a n cap]⟩, .slice a2 n2 c2, .slice a3 n3 c3] =>
    when (Nat.ble n 1000 && (Nat.ble n2 1000 && Nat.ble n3 1000)) (rdV a (4 * n) fun cs => opt (filesOf cs) fun fs => rdV a2 (4 * n2) fun cs2 => opt (filesOf cs2) fun ps => rdV a3 n3 fun cs3 => opt (intsOf cs3) fun gs => out (withD ⟨g, st, su, en, f, t, b, fa, fs⟩ ps gs))
  | _ => .fail
/-- what catalog.With does -/
def withA : List Value → AM Value := withGA outA

/-- rows in memory of one's own -/
theorem in_get : ∀ (l : List InRow) (j k : Nat) (x : InRow), l[k]? = some x → j + l.length ≤ 1000 → (trOf (rowsOf l j)).get (j + k) = some (.row (Tr.ofList x.L) x.L.length x.e)
  | y :: l, j, k, x, h, hj => by
    simp only [List.length_cons] at hj
    have hn : Nat.ble j lastName = true := ble_iff.2 (by unfold lastName; omega)
    show ((trOf (rowsOf l (j + 1))).put j (some (AObj.row (Tr.ofList y.L) y.L.length y.e))).get (j + k) = _
    cases k with
    | zero =>
      simp only [List.getElem?_cons_zero, Option.some.injEq] at h
      subst h
      exact hg_same hn _ _
    | succ k =>
      rw [hg_far hn (by omega), show j + (k + 1) = j + 1 + k by omega]
      exact in_get l (j + 1) k x (by simpa using h) (by omega)
theorem row_any {l : List InRow} {k : Nat} {x : InRow} {L : List Value} (hk : l[k]? = some x) (hl : l.length ≤ 1000) (hx : x.L = L) (hw : x.L.length ≤ Tr.wide) : Vx (inS l) (some ⟨k, 0, none⟩) L := by
  have := in_get l 0 k x hk (by omega)
  rw [Nat.zero_add] at this
  exact row_vx this (List.getElem?_eq_some_iff.1 hk).1 hx hw
/-- a slice that is handed in, named anew -/
theorem anew {q : Free} {ρ : Ren} {s : S} {w : World} (hR : Rep Tryd.prog q ρ s w) {a : Option Addr} {n cap : Nat} {L : List Value} {v' : Value} (hp : Ints L) (hlen : L.length ≤ 10000) (hv : Vx s a L) (h : VR ρ (.slice a n cap) v') :
    ∃ xs : List InRow, xs.length ≤ 1 ∧ (∀ x ∈ xs, x.In w) ∧ ∀ (l : List InRow) (k : Nat), l.length ≤ 1000 → (∀ (i : Nat) x, xs[i]? = some x → l[k + i]? = some x) → ∃ a', VR (renOf l) (.slice a' n cap) v' ∧ Vx (inS l) a' L := by
  cases a with
  | none =>
    obtain ⟨rfl, rfl, rfl⟩ := h.sliceN_inv
    exact ⟨[], Nat.zero_le _, fun x hx => (by cases hx), fun l k _ _ => ⟨none, .flat rfl, hv⟩⟩
  | some ad =>
    obtain ⟨hsp, hcl⟩ := hv
    obtain ⟨b, base, ex, hρ, hmk⟩ := slice_anew h hsp
    obtain ⟨e, hin⟩ := inrow_of hR hcl hρ hp.plain (by unfold Tr.wide; omega)
    refine ⟨[⟨b, base + ad.off, ex, L, e⟩], Nat.le_refl _, fun x hx => by simp only [List.mem_singleton] at hx; subst hx; exact hin, fun l k hl hx => ?_⟩
    have h0 := hx 0 _ rfl
    exact ⟨some ⟨k, 0, none⟩, hmk l k _ _ h0, row_any h0 hl rfl (by show L.length ≤ _; unfold Tr.wide; omega)⟩

theorem ret_mono {E : Env} {f : FuncId} {fi : FI} {Q Q' : Value → S → Prop} (h : ∀ v s, Q v s → Q' v s) : ∀ x fr s, Ret E f fi Q x fr s → Ret E f fi Q' x fr s
  | .exit _, fr, s, hr => hr
  | .normal, fr, s, ⟨h1, h2, v, s', h3, h4⟩ => ⟨h1, h2, v, s', h3, h _ _ h4⟩
  | .ret, fr, s, ⟨h1, h2, v, s', h3, h4⟩ => ⟨h1, h2, v, s', h3, h _ _ h4⟩
/-- With in memory of its own -/
theorem with_own {q : Free} {ρ : Ren} {s : S} {w : World} (hR : Rep Tryd.prog q ρ s w) {D : CatD} {a a2 a3 : Option Addr} {cap c2 c3 : Nat} {ps : List FileD} {gs : List Int} {args' : List Value} (h1 : D.files.length ≤ 1000) (h2 : ps.length ≤ 1000) (h3 : gs.length ≤ 1000)
    (V1 : Vx s a (fcs D.files)) (V2 : Vx s a2 (fcs ps)) (V3 : Vx s a3 (icsL gs)) (ha : LR ρ [.agg ⟨D.cells a cap⟩, .slice a2 ps.length c2, .slice a3 gs.length c3] args') (Q : Value → S → Prop) (hQ : ∀ v s, PostWith (withD D ps gs) v s → Q v s) :
    ∃ (args2 : List Value) (sI : S) (ρ2 : Ren) (K N : Nat), Nat.add args2.length (Nat.sub fiCW.ntmps args2.length) = N ∧ Nat.ble N lastName = true ∧ Inputs Tryd.prog ρ2 sI w ∧ LR ρ2 args2 args' ∧ sI.mark ≤ sI.next ∧
        GoW Tryd.prog (ownQ w K) cdCW ⟨18, Tr.ofList args2, N, [], none⟩ sI (Ret E 18 fiCW Q) := by
  cases ha with
  | cons x1 ha => cases ha with
    | cons x2 ha => cases ha with
      | cons x3 ha => cases ha with
        | nil =>
          obtain ⟨l', rfl, hl⟩ := x1.agg_inv
          obtain ⟨sv', rfl, hsv⟩ := cat_inv hl
          obtain ⟨xs1, b1, i1, m1⟩ := anew hR (ints_fcs _) (by rw [fcs_len]; omega) V1 hsv
          obtain ⟨xs2, b2, i2, m2⟩ := anew hR (ints_fcs _) (by rw [fcs_len]; omega) V2 x2
          obtain ⟨xs3, b3, i3, m3⟩ := anew hR (ints_ics _) (by rw [ics_len]; omega) V3 x3
          have hL : (xs1 ++ (xs2 ++ xs3)).length ≤ 3 := by simp only [List.length_append]; omega
          obtain ⟨a', r1, w1⟩ := m1 (xs1 ++ (xs2 ++ xs3)) 0 (by omega) (fun i x hx => by
            rw [Nat.zero_add, List.getElem?_append_left (List.getElem?_eq_some_iff.1 hx).1]; exact hx)
          obtain ⟨a2', r2, w2⟩ := m2 (xs1 ++ (xs2 ++ xs3)) xs1.length (by omega) (fun i x hx => by
            rw [List.getElem?_append_right (Nat.le_add_right _ _), Nat.add_sub_cancel_left, List.getElem?_append_left (List.getElem?_eq_some_iff.1 hx).1]; exact hx)
          obtain ⟨a3', r3, w3⟩ := m3 (xs1 ++ (xs2 ++ xs3)) (xs1.length + xs2.length) (by omega) (fun i x hx => by
            rw [List.getElem?_append_right (by omega), List.getElem?_append_right (by omega)]
            rw [show xs1.length + xs2.length + i - xs1.length - xs2.length = i by omega]; exact hx)
          refine ⟨[.agg ⟨D.cells a' cap⟩, .slice a2' ps.length c2, .slice a3' gs.length c3], inS (xs1 ++ (xs2 ++ xs3)), renOf _, 1000000, 66, rfl, rfl, inputs_of _ (by omega) (fun x hx => ?_), .cons (cat_mk r1) (.cons r2 (.cons r3 .nil)), Nat.zero_le _, ?_⟩
          · rcases List.mem_append.1 hx with hx | hx
            · exact i1 x hx
            · rcases List.mem_append.1 hx with hx | hx
              · exact i2 x hx
              · exact i3 x hx
          · have hw : ([Value.agg ⟨D.cells a' cap⟩, .slice a2' ps.length c2, .slice a3' gs.length c3] : List Value).length ≤ Tr.wide := by simp [Tr.wide]
            exact (with_gow (ownQ w 1000000) (Nat.le_refl _) D a' a2' a3' cap c2 c3 ps gs _ hL h1 h2 h3 w1 w2 w3 _ (by rw [get_ofList _ _ hw]; rfl) (by rw [get_ofList _ _ hw]; rfl) (by rw [get_ofList _ _ hw]; rfl)).mono (ret_mono hQ)
/-- what such a call reads -/
theorem with_inv {out : CatD → AM Value} {args : List Value} {s s' : S} {v : Value} (h : (withGA out args).run s = some (v, s')) :
    ∃ (D : CatD) (a a2 a3 : Option Addr) (cap c2 c3 : Nat) (ps : List FileD) (gs : List Int) (s1 : S), args = [.agg ⟨D.cells a cap⟩, .slice a2 ps.length c2, .slice a3 gs.length c3] ∧ D.files.length ≤ 1000 ∧ ps.length ≤ 1000 ∧ gs.length ≤ 1000 ∧ Vx s a (fcs D.files) ∧ Vx s a2 (fcs ps) ∧ Vx s a3 (icsL gs) ∧ Rd s s1 ∧ (out (withD D ps gs)).run s1 = some (v, s') := by
  unfold withGA at h
  split at h
  · rename_i g st su en f t b fa a n cap a2 n2 c2 a3 n3 c3
    obtain ⟨hc, h2⟩ := run_when h
    simp only [Bool.and_eq_true] at hc
    obtain ⟨k1, k2, k3⟩ := hc
    have k1 := ble_iff.1 k1
    have k2 := ble_iff.1 k2
    have k3 := ble_iff.1 k3
    obtain ⟨L, s1, hL, hv1, hr1, h3⟩ := vx_of_rd h2
    obtain ⟨fs, hfs, h4⟩ := run_opt h3
    obtain rfl := filesOf_inv L fs hfs
    obtain ⟨L2, s2, hL2, hv2, hr2, h5⟩ := vx_of_rd h4
    obtain ⟨ps, hps, h6⟩ := run_opt h5
    obtain rfl := filesOf_inv L2 ps hps
    obtain ⟨L3, s3, hL3, hv3, hr3, h7⟩ := vx_of_rd h6
    obtain ⟨gs, hgs, h8⟩ := run_opt h7
    obtain rfl := intsOf_inv L3 gs hgs
    rw [fcs_len] at hL hL2
    rw [ics_len] at hL3
    obtain rfl : n = fs.length := by omega
    obtain rfl : n2 = ps.length := by omega
    subst hL3
    have keep : ∀ {s s1 : S} {a : Option Addr} {L : List Value}, Rd s s1 → Vx s1 a L → Vx s a L := fun hr hv => vx_keep hv (by rw [hr.next]; exact Nat.le_refl _) (fun m _ => by rw [hr.heap])
    exact ⟨⟨g, st, su, en, f, t, b, fa, fs⟩, a, a2, a3, cap, c2, c3, ps, gs, s3, rfl, k1, k2, k3, hv1, keep hr1 hv2, keep (hr1.trans hr2) hv3, (hr1.trans hr2).trans hr3, h8⟩
  · cases h

theorem told_with : AE.Told Tryd.prog 18 withA := by
  have t0 : AE.Told Tryd.prog 18 (withGA out0) := by
    refine told_own hE (fi := fiCW) (c := cdCW) (by kernel_rfl) (by kernel_rfl) ?_
    intro args s v s' h hm
    obtain ⟨D, a, a2, a3, cap, c2, c3, ps, gs, s1, rfl, b1, b2, b3, V1, V2, V3, hrd, h8⟩ := with_inv h
    unfold out0 at h8
    cases hm0 : (withD D ps gs).files.length with
    | succ m => rw [hm0] at h8; cases h8
    | zero =>
      rw [hm0] at h8
      cases h8
      have hnil : (withD D ps gs).files = [] := List.eq_nil_of_length_eq_zero hm0
      have hcells : (withD D ps gs).cells none 0 = catV D (.slice none 0 0) := by
        unfold CatD.cells; rw [hm0]; rfl
      refine ⟨?_, rd_less hrd, ?_⟩
      · unfold outCV
        rw [hcells]
        refine plain_agg fun u hu => ?_
        simp only [catV, List.mem_cons, List.not_mem_nil, or_false] at hu
        rcases hu with rfl | rfl | rfl | rfl | rfl | rfl | rfl | rfl | rfl
        all_goals first | exact plain_int _ _ | exact plain_bool _ | exact plain_nilS
      · intro q ρ w args' hRep hargs
        refine with_own hRep b1 b2 b3 V1 V2 V3 hargs _ ?_
        rintro v1 s2 ⟨sv, rfl, hsv⟩
        rcases hsv with ⟨_, rfl⟩ | ⟨r, c, _, hne, _⟩
        · unfold outCV
          rw [hcells]; rfl
        · exact absurd hnil hne
  have t1 : AE.Told Tryd.prog 18 (withGA out1) := by
    refine told_own1 hE (fi := fiCW) (c := cdCW) (by kernel_rfl) (by kernel_rfl) ?_
    intro args s v s' h hm
    obtain ⟨D, a, a2, a3, cap, c2, c3, ps, gs, s1, rfl, b1, b2, b3, V1, V2, V3, hrd, h8⟩ := with_inv h
    unfold out1 at h8
    cases hm0 : (withD D ps gs).files.length with
    | zero => rw [hm0] at h8; cases h8
    | succ m =>
      rw [hm0] at h8
      dsimp only at h8
      have hble : Nat.ble s1.next lastName = true := by
        simp only [AM.run, force_eq] at h8
        cases hh : Nat.ble s1.next lastName with
        | true => rfl
        | false => rw [hh] at h8; cases h8
      obtain ⟨hw, h9⟩ := run_new h8
      cases h9
      have hnl := (newM_nd D.files ps gs).2
      have hsl : (withD D ps gs).files.length = (newM D.files ps gs).length := sortN_len _
      have e1 : s1.next = s.next := hrd.next
      refine ⟨0, Tr.ofList (fcs (withD D ps gs).files), 4 * (m + 1), 41, .loose, fun r => outCV (withD D ps gs) (some ⟨r, 0, none⟩) (OPEN + (m + 1)), by rw [e1]; rfl, by show s.next + 0 < s1.next + 1; omega, by rw [Nat.add_zero, ← e1]; exact hble, ?_, ?_, ?_, ?_⟩
      · intro i u hu hi
        rw [get_ofList _ _ (by rw [fcs_len]; unfold Tr.wide; omega)] at hu
        exact (ints_fcs _).plain u (List.mem_of_getElem? hu)
      · intro ρa ρb x y v' he hv
        obtain ⟨l2, rfl, hl2⟩ := hv.agg_inv
        obtain ⟨sv', rfl, hs⟩ := cat_inv hl2
        exact cat_mk (slice_move he hs)
      · intro k
        show (s1.grow _).heap.get k = _
        rw [grow_get hw]
        by_cases hk : k = s.next
        · rw [if_pos (by rw [e1]; exact hk), if_pos (by omega)]
        · rw [if_neg (by rw [e1]; exact hk), if_neg (by omega), if_neg (by show ¬ (s.next ≤ k ∧ k < s1.next + 1); omega), hrd.heap]
      · intro q ρ w args' hRep hargs
        refine with_own hRep b1 b2 b3 V1 V2 V3 hargs _ ?_
        rintro v1 s2 ⟨sv, rfl, hsv⟩
        rcases hsv with ⟨h0, _⟩ | ⟨r, c, g1, g2, rfl, g4, g5⟩
        · rw [h0] at hm0; cases hm0
        · rw [hm0] at g4
          refine ⟨r, c, ?_, g4, fun i u hu hi => ?_⟩
          · rw [hm0]; unfold outCV CatD.cells; rw [hm0]; rfl
          · rw [get_ofList _ _ (by rw [fcs_len]; unfold Tr.wide; omega)] at hu
            have := g5 i u hu
            rwa [Nat.zero_add] at this
  refine AE.told_two t0 t1 ?_
  intro args s v s' hr
  obtain ⟨D, a, a2, a3, cap, c2, c3, ps, gs, s1, rfl, b1, b2, b3, V1, V2, V3, hrd, h8⟩ := with_inv hr
  have key : ∀ out : CatD → AM Value, (out (withD D ps gs)).run s1 = some (v, s') → (∀ s2 : S, s2.heap = s1.heap → s2.next = s1.next → s2.mark = s1.mark → ∃ s3, (out (withD D ps gs)).run s2 = some (v, s3) ∧ s3.heap = s'.heap ∧ s3.next = s'.next) → ∃ s3, (withGA out [.agg ⟨D.cells a cap⟩, .slice a2 ps.length c2, .slice a3 gs.length c3]).run s = some (v, s3) ∧ Less' s3 s' := by
    intro out hout hsame
    obtain ⟨x1, f1, r1, _⟩ := rdV_run V1 (fun cs => opt (filesOf cs) fun fs => rdV a2 (4 * ps.length) fun cs2 => opt (filesOf cs2) fun ps => rdV a3 gs.length fun cs3 => opt (intsOf cs3) fun gs => out (withD ⟨D.gen, D.step, D.status, D.ended, D.from_, D.to_, D.budget, D.fan, fs⟩ ps gs))
    rw [fcs_len, filesOf_fcs] at f1
    obtain ⟨x2, f2, r2, _⟩ := rdV_run (s := x1) (vx_keep V2 (by rw [r1.next]; exact Nat.le_refl _) (fun m _ => by rw [r1.heap])) (fun cs2 => opt (filesOf cs2) fun ps => rdV a3 gs.length fun cs3 => opt (intsOf cs3) fun gs => out (withD ⟨D.gen, D.step, D.status, D.ended, D.from_, D.to_, D.budget, D.fan, D.files⟩ ps gs))
    rw [fcs_len, filesOf_fcs] at f2
    have r12 := r1.trans r2
    obtain ⟨x3, f3, r3, _⟩ := rdV_run (s := x2) (vx_keep V3 (by rw [r12.next]; exact Nat.le_refl _) (fun m _ => by rw [r12.heap])) (fun cs3 => opt (intsOf cs3) fun gs => out (withD ⟨D.gen, D.step, D.status, D.ended, D.from_, D.to_, D.budget, D.fan, D.files⟩ ps gs))
    rw [ics_len, intsOf_ics] at f3
    have r13 := r12.trans r3
    obtain ⟨x4, f4, h1, h2⟩ := hsame x3 (by rw [r13.heap, hrd.heap]) (by rw [r13.next, hrd.next]) (by rw [r13.mark, hrd.mark])
    refine ⟨x4, ?_, ⟨by rw [h2]; exact Nat.le_refl _, fun m o ho => ⟨o, by rw [h1]; exact ho, .refl o⟩⟩⟩
    show (when (Nat.ble D.files.length 1000 && (Nat.ble ps.length 1000 && Nat.ble gs.length 1000)) (rdV a (4 * D.files.length) fun cs => opt (filesOf cs) fun fs => rdV a2 (4 * ps.length) fun cs2 => opt (filesOf cs2) fun ps => rdV a3 gs.length fun cs3 => opt (intsOf cs3) fun gs => out (withD ⟨D.gen, D.step, D.status, D.ended, D.from_, D.to_, D.budget, D.fan, fs⟩ ps gs))).run s = _
    rw [show (Nat.ble D.files.length 1000 && (Nat.ble ps.length 1000 && Nat.ble gs.length 1000)) = true by rw [ble_iff.2 b1, ble_iff.2 b2, ble_iff.2 b3]; rfl, show ∀ k : AM Value, when true k = k from fun _ => rfl, f1]
    simp only [opt] at f2 f3 ⊢
    rw [f2, f3]
    exact f4
  unfold outA at h8
  cases hm0 : (withD D ps gs).files.length with
  | zero =>
    left
    rw [hm0] at h8
    refine key out0 (by unfold out0; rw [hm0]; exact h8) (fun s2 h1 h2 h3 => ?_)
    unfold out0
    rw [hm0]
    cases h8
    exact ⟨s2, rfl, h1, h2⟩
  | succ m =>
    right
    rw [hm0] at h8
    refine key out1 (by unfold out1; rw [hm0]; exact h8) (fun s2 h1 h2 h3 => ?_)
    unfold out1
    rw [hm0]
    dsimp only at h8 ⊢
    simp only [AM.run, force_eq] at h8 ⊢
    rw [h1, h2]
    cases hb : Nat.ble s1.next lastName with
    | false => rw [hb] at h8; cases h8
    | true =>
      rw [hb] at h8
      cases h8
      exact ⟨_, rfl, rfl, rfl⟩
end Go.Proofs.YtgofanjbhbeniaaDoor.lf
end
end

section
/- Catalogs: the file of a name: catalog.Find, told. -/
noncomputable section
namespace Go.Proofs.YtgofanjbhbeniaaDoor.lf
open AE
set_option linter.unusedSimpArgs false
set_option linter.unusedVariables false
set_option maxRecDepth 10000

/-! is a file of that name? -/
def eqNA : List Value → AM Value
  | [.agg ⟨[.int .i64 n, .int .i64 x, .int .i64 y, .int .i64 z]⟩, .pointer (some ad)] => loadA ad 1 fun
    | [.int .i64 k] => bump 1 (.pure (.bool (eqI n k)))
    | _ => .fail
  | _ => .fail
noncomputable def fiEN : FI := FI.of Tryd.f35
noncomputable def cdEN : Code := bodyOf Tryd.f35
theorem resEN : fiEN.results = [.tmp 3] := rfl
set_option maxHeartbeats 1000000 in
theorem told_eqN : AE.Told Tryd.prog 35 eqNA := by
  refine told_go hE hmix tolds_nil ?_
  intro args s v s' h hm
  unfold eqNA at h
  split at h
  · rename_i n x y z ad
    obtain ⟨L, hL, hsp, hcl, h2⟩ := cl_of_load h
    split at h2
    · rename_i k
      obtain ⟨s9, h3, hn9, hm9, hh9, hbl⟩ := bump_run 1 _ _ _ h2
      cases h3
      obtain ⟨ab, ao, asp⟩ := ad
      simp only at hsp hcl hn9 hh9 hbl
      subst hsp
      have hN0 : Nat.ble s.next lastName = true := hbl 0 (by omega)
      refine go_enter (fi := fiEN) (c := cdEN) (by kernel_rfl) (by kernel_rfl) 8 rfl rfl ?_
      simp only [cdEN, Tryd.f35, bodyOf]
      have h0 : (Tr.ofList [Value.agg ⟨[.int .i64 n, .int .i64 x, .int .i64 y, .int .i64 z]⟩, .pointer (some ⟨ab, ao, none⟩)]).get 0 = some (.agg ⟨[.int .i64 n, .int .i64 x, .int .i64 y, .int .i64 z]⟩) := rfl
      have h1 : (Tr.ofList [Value.agg ⟨[.int .i64 n, .int .i64 x, .int .i64 y, .int .i64 z]⟩, .pointer (some ⟨ab, ao, none⟩)]).get 1 = some (.pointer (some ⟨ab, ao, none⟩)) := rfl
      generalize Tr.ofList [Value.agg ⟨[.int .i64 n, .int .i64 x, .int .i64 y, .int .i64 z]⟩, .pointer (some ⟨ab, ao, none⟩)] = t at *
      repeat apply go_seq
      apply go_region
      case h => intro m; simp (maxSteps := 2000000) (disch := decide) only [opsLoop, evOper, wantedA, nth, aop, aPick, aBin, aIndexAddr, aFieldAddr, aLoad, aStore, aExtract, aConvert, aAlloc, aBox, aIndex, callA, builtinA, Fr.evs, opt, val, when, AM.run, outV, newA, ptr, force_eq, seen_heap, seen_next, seen_mark, seen_seen, agg_cells, int_cells, Fr.ev, Fr.put, onFr, gps, gpn, bltT, still, flat, List.append_nil, List.nil_append, List.cons_append, Nat.reduceEqDiff, ne_eq, not_false_eq_true, reduceCtorEq, Bool.and_true, Bool.true_and, Bool.and_false, Bool.false_and, Bool.not_true, Bool.not_false, Bool.and_self, h0, tyF, hN0, len4]; rfl
      generalize hs1 : S.mk _ _ _ _ _ = s1
      have e1 : s1.next = s.next + 1 := by rw [← hs1]
      have e1h : s1.heap = s.heap.put s.next (some (.cells (Tr.ofList [.int .i64 n, .int .i64 x, .int .i64 y, .int .i64 z]) (List.length [Value.int .i64 n, .int .i64 x, .int .i64 y, .int .i64 z]) 41 .whole)) := by rw [← hs1]
      clear hs1
      have C1 : Cl s1 s.next 0 [.int .i64 n, .int .i64 x, .int .i64 y, .int .i64 z] := Cl.new (by omega) (by rw [e1h]; exact hg_same hN0 _ _) (by simp)
      have hlt := hcl.lt
      have C2 : Cl s1 ab ao [.int .i64 k] := hcl.keep (by omega) (by rw [e1h]; exact hg_far hN0 (by omega) _ _)
      have hless : ∀ r w, Less' ⟨s1.heap, s1.next, s1.mark, r, w⟩ s' := fun r w => less_new (s := s) (n := 1) (by show s1.next ≤ _; rw [hn9]; show _ ≤ s.next + 1; omega) (by rw [hn9]; rfl) (fun m => by rw [hh9]; rfl) (fun m hm2 => by show s1.heap.get m = _; rw [e1h, hg_far hN0 (by omega)])
      obtain ⟨H, N, mk, rd, wr⟩ := s1
      simp only at hless
      have l0 := C1.ld (k := 0) tiI (by rw [dsI]; rfl) rfl
      have l1 := C2.ld (k := 0) tiI (by rw [dsI]; rfl) rfl
      simp only [Nat.zero_add, Nat.add_zero] at l0 l1
      repeat apply go_seq
      apply go_region
      case h => intro m; simp (maxSteps := 2000000) (disch := decide) only [opsLoop, evOper, wantedA, nth, aop, aPick, aBin, aIndexAddr, aFieldAddr, aLoad, aStore, aExtract, aConvert, aAlloc, aBox, aIndex, callA, builtinA, Fr.evs, opt, val, when, AM.run, outV, newA, ptr, force_eq, seen_heap, seen_next, seen_mark, seen_seen, agg_cells, int_cells, Fr.ev, Fr.put, onFr, gps, gpn, bltT, still, flat, List.append_nil, List.nil_append, List.cons_append, Nat.reduceEqDiff, ne_eq, not_false_eq_true, reduceCtorEq, Bool.and_true, Bool.true_and, Bool.and_false, Bool.false_and, Bool.not_true, Bool.not_false, Bool.and_self, h1, tyF, dsF, flF0, ftF0, foF0, tyI, szI, ble11, ad0, l0, l1, b_eql]; rfl
      repeat apply go_seq
      apply go_ret
      apply ret_intro rfl rfl
      case run => simp (disch := decide) only [resultsM, resultsA, resEN, opsLoop, evOper, wantedA, nth, aop, aPick, aBin, aIndexAddr, aFieldAddr, aLoad, aStore, aExtract, aConvert, aAlloc, aBox, aIndex, callA, builtinA, Fr.evs, opt, val, when, AM.run, outV, newA, ptr, force_eq, seen_heap, seen_next, seen_mark, seen_seen, agg_cells, int_cells, Fr.ev, Fr.put, onFr, gps, gpn, bltT, still, flat, List.append_nil, List.nil_append, List.cons_append, Nat.reduceEqDiff, ne_eq, not_false_eq_true, reduceCtorEq, Bool.and_true, Bool.true_and, Bool.and_false, Bool.false_and, Bool.not_true, Bool.not_false, Bool.and_self]; rfl
      exact ⟨rfl, hless _ _⟩
    · cases h2
  · cases h
theorem eqNA_run {s : S} {f : FileD} {b : Nat} {k : Int} (hb : Cl s b 0 [.int .i64 k]) (hN : Nat.ble s.next lastName = true) : ∃ s1, (eqNA [.agg ⟨f.cells⟩, .pointer (some ⟨b, 0, none⟩)]).run s = some (.bool (eqI f.name k), s1) ∧ s1.next = s.next + 1 ∧ s1.mark = s.mark ∧ ∀ m, m ≠ s.next → s1.heap.get m = s.heap.get m := by
  obtain ⟨s1, e1, e2, e3, e4⟩ := bump_ok 1 (AM.pure (Value.bool (eqI f.name k))) (s.seen b) (fun i hi => by cases i with
    | zero => exact hN
    | succ i => omega)
  refine ⟨s1, ?_, e2, e3, fun m hm => ?_⟩
  · show (loadA ⟨b, 0, none⟩ 1 fun | [.int .i64 k] => bump 1 (AM.pure (Value.bool (eqI f.name k))) | _ => .fail).run s = _
    have := cl_load hb (fun | [.int .i64 k] => bump 1 (AM.pure (Value.bool (eqI f.name k))) | _ => .fail)
    rw [show ([Value.int .i64 k] : List Value).length = 1 from rfl] at this
    rw [this]
    exact e1
  · rw [e4, if_neg (by show ¬ (s.next ≤ m ∧ m < s.next + 1); omega)]; rfl

/-! the place of the first file of that name -/
def posM : List FileD → Int → Option Nat
  | [], k => none
  | f :: l, k => match eqI f.name k with
    | true => some 0
    | false => (posM l k).map (· + 1)
theorem posM_at : ∀ (l : List FileD) (k : Int), match posM l k with
    | some i => l[i]? = lookM l k ∧ i < l.length
    | none => lookM l k = none
  | [], k => rfl
  | f :: l, k => by
    have ih := posM_at l k
    simp only [posM, lookM]
    cases h : eqI f.name k with
    | true => exact ⟨rfl, Nat.succ_pos _⟩
    | false =>
      cases hp : posM l k with
      | none => rw [hp] at ih; exact ih
      | some i =>
        rw [hp] at ih
        exact ⟨by simpa using ih.1, by simpa using ih.2⟩
def posI (r : Option Nat) : Int := match r with
  | some i => .ofNat i
  | none => -1
noncomputable def fiIx : FI := FI.of Tryd.f34
noncomputable def cdIx : Code := bodyOf Tryd.f34
noncomputable def cdIxl : Code := sub [1,0,1,0,0] cdIx
theorem resIx : fiIx.results = [.tmp 4] := rfl
abbrev sigIx : List (Nat × (List Value → AM Value)) := [(35, eqNA)]
theorem tolds_Ix : Tolds Tryd.prog (sumsOf sigIx) := tolds_cons told_eqN tolds_nil
theorem scEN : sumsOf sigIx 35 = some eqNA := rfl
theorem tgEN : ∀ a b, targetA E (.func 35) a b = .pure (.enter 35 (b ++ a)) := tgt (fi := fiEN) (c := cdEN) (by kernel_rfl) (by kernel_rfl)
/-- no file of that name so far -/
def InvIx (s0 : S) (a : Option Addr) (cap b : Nat) (n : Int) (fs : List FileD) (k : Nat) (fr : Fr) (s : S) : Prop :=
  ∃ (i : Nat) (t : Tr Value), k = fs.length - i ∧ i ≤ fs.length ∧ fr = ⟨34, t, 19, [], none⟩ ∧ s.next = s0.next + i ∧ (∀ m, ¬ (s0.next ≤ m ∧ m < s0.next + fs.length) → s.heap.get m = s0.heap.get m) ∧
    t.get 0 = some (.slice a fs.length cap) ∧ t.get 1 = some (.func (.func 35) ⟨[]⟩ ⟨[.pointer (some ⟨b, 0, none⟩)]⟩) ∧ t.get 7 = some (.int .i64 (.ofNat fs.length)) ∧ t.get 8 = some (.int .i64 (.ofNat i)) ∧ posM fs n = (posM (fs.drop i) n).map (· + i)
def PostIx (s0 : S) (n : Int) (fs : List FileD) (ex : Ex) (fr : Fr) (s : S) : Prop :=
  ∃ t : Tr Value, fr = ⟨34, t, 19, [], none⟩ ∧ s.next ≤ s0.next + fs.length ∧ (∀ m, ¬ (s0.next ≤ m ∧ m < s0.next + fs.length) → s.heap.get m = s0.heap.get m) ∧
    ((ex = .exit 0 ∧ posM fs n = none) ∨ (ex = .ret ∧ ∃ i, posM fs n = some i ∧ t.get 4 = some (.int .i64 (.ofNat i))))
set_option maxHeartbeats 1000000 in
theorem index_round (s0 : S) (a : Option Addr) (cap b : Nat) (n : Int) (fs : List FileD) (hl : fs.length ≤ 1000) (hN : ∀ i, i < fs.length → Nat.ble (s0.next + i) lastName = true) (hv : Vx s0 a (fcs fs)) (hb : Cl s0 b 0 [.int .i64 n]) (k : Nat) (fr : Fr) (s : S) (h : InvIx s0 a cap b n fs k fr s) :
    GoC E (sumsOf sigIx) cdIxl fr s (Again (InvIx s0 a cap b n fs) k (PostIx s0 n fs)) := by
  obtain ⟨i, t, rfl, hi, rfl, hn, hg, h0, h1, h7, h8, hpos⟩ := h
  simp only [cdIxl, cdIx, Tryd.f34, bodyOf, sub]
  by_cases hlt : i < fs.length
  · obtain ⟨f, hf⟩ : ∃ f, fs[i]? = some f := ⟨_, List.getElem?_eq_getElem hlt⟩
    cases a with
    | none =>
      have h0 : fcs fs = [] := hv
      have := fcs_len fs
      rw [h0] at this
      have h4 : (0 : Nat) = 4 * fs.length := this
      omega
    | some ad =>
      obtain ⟨ab, ao, asp⟩ := ad
      obtain ⟨hsp, hcl⟩ := hv
      simp only at hsp hcl
      subst hsp
      have hlt' : ltI (Int.ofNat i) (Int.ofNat fs.length) = true := by rw [ltI_eq]; simp; omega
      have hbl : Nat.blt i fs.length = true := blt_iff.2 hlt
      have hinc := b_incr (n := i) (by omega)
      have hdrop : fs.drop i = f :: fs.drop (i + 1) := by
        rw [List.drop_eq_getElem_cons hlt]
        congr 1
        have := List.getElem?_eq_getElem hlt
        rw [this] at hf
        exact Option.some.inj hf
      rw [hdrop] at hpos
      have hcs : Cl s ab ao (fcs fs) := hcl.keep (by omega) (hg _ (by have := hcl.lt; omega))
      have hbs : Cl s b 0 [.int .i64 n] := hb.keep (by omega) (hg _ (by have := hb.lt; omega))
      have hsub := hcs.sub (i * 4) 4 (by rw [fcs_len]; omega)
      rw [fcs_at fs i f hf] at hsub
      have hN1 : Nat.ble s.next lastName = true := by rw [hn]; exact hN i hlt
      have aa : addA ⟨ab, ao, none⟩ (Nat.mul i 4) = ⟨ab, ao + i * 4, none⟩ := addAn ab ao _
      obtain ⟨s2, r2, n2, m2, g2⟩ := eqNA_run (s := s.seen ab) (f := f) (hbs.of rfl rfl) hN1
      have n2 : s2.next = s.next + 1 := n2
      have lf := cl_agg (β := ANext) tiF (by rw [dsF]; rfl) (by rw [szF]; rfl) hsub val
      have g2' : ∀ m, ¬ (s0.next ≤ m ∧ m < s0.next + fs.length) → s2.heap.get m = s0.heap.get m := fun m hm => by rw [g2 m (by show m ≠ s.next; omega)]; exact hg m hm
      repeat apply go_seq
      apply go_region
      case h => intro m; simp (maxSteps := 2000000) (disch := decide) only [opsLoop, evOper, wantedA, nth, aop, aPick, aBin, aIndexAddr, aFieldAddr, aLoad, aStore, aExtract, aConvert, aAlloc, aBox, aIndex, callA, builtinA, Fr.evs, opt, val, when, AM.run, outV, newA, ptr, force_eq, seen_heap, seen_next, seen_mark, seen_seen, agg_cells, int_cells, Fr.ev, Fr.put, onFr, gps, gpn, bltT, still, flat, List.append_nil, List.nil_append, List.cons_append, Nat.reduceEqDiff, ne_eq, not_false_eq_true, reduceCtorEq, Bool.and_true, Bool.true_and, Bool.and_false, Bool.false_and, Bool.not_true, Bool.not_false, Bool.and_self, h7, h8, b_lss, hlt']; rfl
      repeat apply go_seq
      apply go_cond
      case hc => simp (disch := decide) only [opsLoop, evOper, wantedA, nth, aop, aPick, aBin, aIndexAddr, aFieldAddr, aLoad, aStore, aExtract, aConvert, aAlloc, aBox, aIndex, callA, builtinA, Fr.evs, opt, val, when, AM.run, outV, newA, ptr, force_eq, seen_heap, seen_next, seen_mark, seen_seen, agg_cells, int_cells, Fr.ev, Fr.put, onFr, gps, gpn, bltT, still, flat, List.append_nil, List.nil_append, List.cons_append, Nat.reduceEqDiff, ne_eq, not_false_eq_true, reduceCtorEq, Bool.and_true, Bool.true_and, Bool.and_false, Bool.false_and, Bool.not_true, Bool.not_false, Bool.and_self]; rfl
      case h2 => intro h; cases h
      intro _
      apply go_skip
      apply go_seq
      apply go_block
      repeat apply go_seq
      apply go_region
      case h => intro m; simp (maxSteps := 2000000) (disch := decide) only [opsLoop, evOper, wantedA, nth, aop, aPick, aBin, aIndexAddr, aFieldAddr, aLoad, aStore, aExtract, aConvert, aAlloc, aBox, aIndex, callA, builtinA, Fr.evs, opt, val, when, AM.run, outV, newA, ptr, force_eq, seen_heap, seen_next, seen_mark, seen_seen, agg_cells, int_cells, Fr.ev, Fr.put, onFr, gps, gpn, bltT, still, flat, List.append_nil, List.nil_append, List.cons_append, Nat.reduceEqDiff, ne_eq, not_false_eq_true, reduceCtorEq, Bool.and_true, Bool.true_and, Bool.and_false, Bool.false_and, Bool.not_true, Bool.not_false, Bool.and_self, h8]; rfl
      cases hq : eqI f.name n with
      | true =>
        rw [hq] at r2
        repeat apply go_seq
        apply go_region
        case h => intro m; simp (maxSteps := 2000000) (disch := decide) only [opsLoop, evOper, wantedA, nth, aop, aPick, aBin, aIndexAddr, aFieldAddr, aLoad, aStore, aExtract, aConvert, aAlloc, aBox, aIndex, callA, builtinA, Fr.evs, opt, val, when, AM.run, outV, newA, ptr, force_eq, seen_heap, seen_next, seen_mark, seen_seen, agg_cells, int_cells, Fr.ev, Fr.put, onFr, gps, gpn, bltT, still, flat, List.append_nil, List.nil_append, List.cons_append, Nat.reduceEqDiff, ne_eq, not_false_eq_true, reduceCtorEq, Bool.and_true, Bool.true_and, Bool.and_false, Bool.false_and, Bool.not_true, Bool.not_false, Bool.and_self, h1, h0, tyFs, dsFs, hbl, tyF, szF, dsF, aa, lf, tgEN, evT_told scEN, r2]; rfl
        repeat apply go_seq
        apply go_cond
        case hc => simp (disch := decide) only [opsLoop, evOper, wantedA, nth, aop, aPick, aBin, aIndexAddr, aFieldAddr, aLoad, aStore, aExtract, aConvert, aAlloc, aBox, aIndex, callA, builtinA, Fr.evs, opt, val, when, AM.run, outV, newA, ptr, force_eq, seen_heap, seen_next, seen_mark, seen_seen, agg_cells, int_cells, Fr.ev, Fr.put, onFr, gps, gpn, bltT, still, flat, List.append_nil, List.nil_append, List.cons_append, Nat.reduceEqDiff, ne_eq, not_false_eq_true, reduceCtorEq, Bool.and_true, Bool.true_and, Bool.and_false, Bool.false_and, Bool.not_true, Bool.not_false, Bool.and_self]; rfl
        case h2 => intro h; cases h
        intro _
        repeat apply go_seq
        apply go_region
        case h => intro m; simp (maxSteps := 2000000) (disch := decide) only [opsLoop, evOper, wantedA, nth, aop, aPick, aBin, aIndexAddr, aFieldAddr, aLoad, aStore, aExtract, aConvert, aAlloc, aBox, aIndex, callA, builtinA, Fr.evs, opt, val, when, AM.run, outV, newA, ptr, force_eq, seen_heap, seen_next, seen_mark, seen_seen, agg_cells, int_cells, Fr.ev, Fr.put, onFr, gps, gpn, bltT, still, flat, List.append_nil, List.nil_append, List.cons_append, Nat.reduceEqDiff, ne_eq, not_false_eq_true, reduceCtorEq, Bool.and_true, Bool.true_and, Bool.and_false, Bool.false_and, Bool.not_true, Bool.not_false, Bool.and_self]; rfl
        apply go_ret
        refine ⟨_, rfl, by omega, g2', .inr ⟨rfl, i, ?_, ?_⟩⟩
        · rw [hpos]; simp only [posM, hq]; simp
        · simp (disch := decide) only [gps, gpn]
      | false =>
        rw [hq] at r2
        repeat apply go_seq
        apply go_region
        case h => intro m; simp (maxSteps := 2000000) (disch := decide) only [opsLoop, evOper, wantedA, nth, aop, aPick, aBin, aIndexAddr, aFieldAddr, aLoad, aStore, aExtract, aConvert, aAlloc, aBox, aIndex, callA, builtinA, Fr.evs, opt, val, when, AM.run, outV, newA, ptr, force_eq, seen_heap, seen_next, seen_mark, seen_seen, agg_cells, int_cells, Fr.ev, Fr.put, onFr, gps, gpn, bltT, still, flat, List.append_nil, List.nil_append, List.cons_append, Nat.reduceEqDiff, ne_eq, not_false_eq_true, reduceCtorEq, Bool.and_true, Bool.true_and, Bool.and_false, Bool.false_and, Bool.not_true, Bool.not_false, Bool.and_self, h1, h0, tyFs, dsFs, hbl, tyF, szF, dsF, aa, lf, tgEN, evT_told scEN, r2]; rfl
        repeat apply go_seq
        apply go_cond
        case hc => simp (disch := decide) only [opsLoop, evOper, wantedA, nth, aop, aPick, aBin, aIndexAddr, aFieldAddr, aLoad, aStore, aExtract, aConvert, aAlloc, aBox, aIndex, callA, builtinA, Fr.evs, opt, val, when, AM.run, outV, newA, ptr, force_eq, seen_heap, seen_next, seen_mark, seen_seen, agg_cells, int_cells, Fr.ev, Fr.put, onFr, gps, gpn, bltT, still, flat, List.append_nil, List.nil_append, List.cons_append, Nat.reduceEqDiff, ne_eq, not_false_eq_true, reduceCtorEq, Bool.and_true, Bool.true_and, Bool.and_false, Bool.false_and, Bool.not_true, Bool.not_false, Bool.and_self]; rfl
        case h1 => intro h; cases h
        intro _
        apply go_skip
        repeat apply go_seq
        apply go_region
        case h => intro m; simp (maxSteps := 2000000) (disch := decide) only [opsLoop, evOper, wantedA, nth, aop, aPick, aBin, aIndexAddr, aFieldAddr, aLoad, aStore, aExtract, aConvert, aAlloc, aBox, aIndex, callA, builtinA, Fr.evs, opt, val, when, AM.run, outV, newA, ptr, force_eq, seen_heap, seen_next, seen_mark, seen_seen, agg_cells, int_cells, Fr.ev, Fr.put, onFr, gps, gpn, bltT, still, flat, List.append_nil, List.nil_append, List.cons_append, Nat.reduceEqDiff, ne_eq, not_false_eq_true, reduceCtorEq, Bool.and_true, Bool.true_and, Bool.and_false, Bool.false_and, Bool.not_true, Bool.not_false, Bool.and_self, h8, int1, hinc]; rfl
        refine ⟨fs.length - (i + 1), by omega, i + 1, _, rfl, by omega, rfl, by omega, g2', ?_, ?_, ?_, ?_, ?_⟩
        · simp (disch := decide) only [gps, gpn, h0]
        · simp (disch := decide) only [gps, gpn, h1]
        · simp (disch := decide) only [gps, gpn, h7]
        · simp (disch := decide) only [gps, gpn]
        · rw [hpos]
          simp only [posM, hq, Option.map_map]
          congr 1
          funext x
          show x + 1 + i = x + (i + 1)
          omega
  · obtain rfl : i = fs.length := by omega
    have hlt' : ltI (Int.ofNat fs.length) (Int.ofNat fs.length) = false := by rw [ltI_eq]; simp
    rw [List.drop_length] at hpos
    repeat apply go_seq
    apply go_region
    case h => intro m; simp (maxSteps := 2000000) (disch := decide) only [opsLoop, evOper, wantedA, nth, aop, aPick, aBin, aIndexAddr, aFieldAddr, aLoad, aStore, aExtract, aConvert, aAlloc, aBox, aIndex, callA, builtinA, Fr.evs, opt, val, when, AM.run, outV, newA, ptr, force_eq, seen_heap, seen_next, seen_mark, seen_seen, agg_cells, int_cells, Fr.ev, Fr.put, onFr, gps, gpn, bltT, still, flat, List.append_nil, List.nil_append, List.cons_append, Nat.reduceEqDiff, ne_eq, not_false_eq_true, reduceCtorEq, Bool.and_true, Bool.true_and, Bool.and_false, Bool.false_and, Bool.not_true, Bool.not_false, Bool.and_self, h7, h8, b_lss, hlt']; rfl
    repeat apply go_seq
    apply go_cond
    case hc => simp (disch := decide) only [opsLoop, evOper, wantedA, nth, aop, aPick, aBin, aIndexAddr, aFieldAddr, aLoad, aStore, aExtract, aConvert, aAlloc, aBox, aIndex, callA, builtinA, Fr.evs, opt, val, when, AM.run, outV, newA, ptr, force_eq, seen_heap, seen_next, seen_mark, seen_seen, agg_cells, int_cells, Fr.ev, Fr.put, onFr, gps, gpn, bltT, still, flat, List.append_nil, List.nil_append, List.cons_append, Nat.reduceEqDiff, ne_eq, not_false_eq_true, reduceCtorEq, Bool.and_true, Bool.true_and, Bool.and_false, Bool.false_and, Bool.not_true, Bool.not_false, Bool.and_self]; rfl
    case h1 => intro h; cases h
    intro _
    apply go_exit
    exact ⟨_, rfl, by omega, hg, .inl ⟨rfl, hpos⟩⟩
end Go.Proofs.YtgofanjbhbeniaaDoor.lf
end
end

section
/- Catalogs: the file of a name: slices.IndexFunc and catalog.Find, told. -/
noncomputable section
namespace Go.Proofs.YtgofanjbhbeniaaDoor.lf
open AE
set_option linter.unusedSimpArgs false
set_option linter.unusedVariables false
set_option maxRecDepth 10000

def idxA : List Value → AM Value
  | [.slice a n cap, .func (.func g) ⟨[]⟩ ⟨[.pointer (some ⟨b, 0, none⟩)]⟩] => when (Nat.beq g 35 && Nat.ble n 1000) (loadA ⟨b, 0, none⟩ 1 fun
    | [.int .i64 k] => rdV a (4 * n) fun cs => opt (filesOf cs) fun fs => bump fs.length (.pure (.int .i64 (posI (posM fs k))))
    | _ => .fail)
  | _ => .fail
set_option maxHeartbeats 1000000 in
theorem told_index : AE.Told Tryd.prog 34 idxA := by
  refine told_go hE hmix tolds_Ix ?_
  intro args s v s' h hm
  unfold idxA at h
  split at h
  · rename_i a n cap g b
    obtain ⟨hc, h1⟩ := run_when h
    simp only [Bool.and_eq_true] at hc
    obtain ⟨hg, hn⟩ := hc
    obtain rfl := beq_iff.1 hg
    have hn := ble_iff.1 hn
    obtain ⟨L, hL, _, hcl, h2⟩ := cl_of_load h1
    split at h2
    · rename_i k
      obtain ⟨L2, s1, hL2, hvx, hr1, h3⟩ := vx_of_rd h2
      obtain ⟨fs, hfs, h4⟩ := run_opt h3
      have hLf := filesOf_inv L2 fs hfs
      subst hLf
      rw [fcs_len] at hL2
      obtain rfl : n = fs.length := by omega
      obtain ⟨s9, h5, hn9, hm9, hh9, hbl⟩ := bump_run _ _ _ _ h4
      cases h5
      rw [hr1.next] at hn9 hh9 hbl
      simp only [hr1.heap] at hh9
      have hvx' : Vx s a (fcs fs) := vx_keep hvx (Nat.le_refl _) (fun m _ => rfl)
      refine go_enter (fi := fiIx) (c := cdIx) (by kernel_rfl) (by kernel_rfl) 19 rfl rfl ?_
      have hcode : cdIx = .seq (sub [0] cdIx) (.seq (.seq (sub [1,0,0] cdIx) (.block 0 (.loop cdIxl))) (sub [1,1] cdIx)) := rfl
      rw [hcode]
      simp only [cdIx, Tryd.f34, bodyOf, sub]
      have o0 : (Tr.ofList [Value.slice a fs.length cap, .func (.func 35) ⟨[]⟩ ⟨[.pointer (some ⟨b, 0, none⟩)]⟩]).get 0 = some (.slice a fs.length cap) := rfl
      have o1 : (Tr.ofList [Value.slice a fs.length cap, .func (.func 35) ⟨[]⟩ ⟨[.pointer (some ⟨b, 0, none⟩)]⟩]).get 1 = some (.func (.func 35) ⟨[]⟩ ⟨[.pointer (some ⟨b, 0, none⟩)]⟩) := rfl
      generalize Tr.ofList [Value.slice a fs.length cap, .func (.func 35) ⟨[]⟩ ⟨[.pointer (some ⟨b, 0, none⟩)]⟩] = t at *
      obtain ⟨H, N, mk, rd, wr⟩ := s
      repeat apply go_seq
      apply go_region
      case h => intro m; simp (maxSteps := 2000000) (disch := decide) only [opsLoop, evOper, wantedA, nth, aop, aPick, aBin, aIndexAddr, aFieldAddr, aLoad, aStore, aExtract, aConvert, aAlloc, aBox, aIndex, callA, builtinA, Fr.evs, opt, val, when, AM.run, outV, newA, ptr, force_eq, seen_heap, seen_next, seen_mark, seen_seen, agg_cells, int_cells, Fr.ev, Fr.put, onFr, gps, gpn, bltT, still, flat, List.append_nil, List.nil_append, List.cons_append, Nat.reduceEqDiff, ne_eq, not_false_eq_true, reduceCtorEq, Bool.and_true, Bool.true_and, Bool.and_false, Bool.false_and, Bool.not_true, Bool.not_false, Bool.and_self]; rfl
      repeat apply go_seq
      apply go_region
      case h => intro m; simp (maxSteps := 2000000) (disch := decide) only [opsLoop, evOper, wantedA, nth, aop, aPick, aBin, aIndexAddr, aFieldAddr, aLoad, aStore, aExtract, aConvert, aAlloc, aBox, aIndex, callA, builtinA, Fr.evs, opt, val, when, AM.run, outV, newA, ptr, force_eq, seen_heap, seen_next, seen_mark, seen_seen, agg_cells, int_cells, Fr.ev, Fr.put, onFr, gps, gpn, bltT, still, flat, List.append_nil, List.nil_append, List.cons_append, Nat.reduceEqDiff, ne_eq, not_false_eq_true, reduceCtorEq, Bool.and_true, Bool.true_and, Bool.and_false, Bool.false_and, Bool.not_true, Bool.not_false, Bool.and_self, o0, tyFs, dsFs]; rfl
      apply go_block
      have hdrop0 : posM fs k = (posM (fs.drop 0) k).map (· + 0) := by
        simp
      refine (go_loop_inv (body := cdIxl) (InvIx ⟨H, N, mk, rd, wr⟩ a cap b k fs) (fun j fr s1 hI => index_round ⟨H, N, mk, rd, wr⟩ a cap b k fs hn hbl hvx' hcl j fr s1 hI) (fs.length - 0) _ _ ⟨0, _, rfl, by omega, rfl, rfl, fun m _ => rfl, ?_, ?_, ?_, ?_, hdrop0⟩).mono ?_
      · simp (disch := decide) only [gps, gpn, o0]
      · simp (disch := decide) only [gps, gpn, o1]
      · simp (disch := decide) only [gps, gpn]
      · simp (disch := decide) only [gps, gpn, int0]
      rintro ex fr s3 ⟨t3, rfl, hn3, hg3, hx⟩
      have hn9' : s'.next = N + fs.length := hn9
      have hless : Less' s3 s' := less_new (s := ⟨H, N, mk, rd, wr⟩) (n := fs.length) (by rw [hn9']; exact hn3) hn9' hh9 hg3
      rcases hx with ⟨rfl, hok⟩ | ⟨rfl, i, hok, k2⟩
      · simp only [Out_, if_true]
        show GoC E _ _ _ _ _
        repeat apply go_seq
        apply go_region
        case h => intro m; simp (maxSteps := 2000000) (disch := decide) only [opsLoop, evOper, wantedA, nth, aop, aPick, aBin, aIndexAddr, aFieldAddr, aLoad, aStore, aExtract, aConvert, aAlloc, aBox, aIndex, callA, builtinA, Fr.evs, opt, val, when, AM.run, outV, newA, ptr, force_eq, seen_heap, seen_next, seen_mark, seen_seen, agg_cells, int_cells, Fr.ev, Fr.put, onFr, gps, gpn, bltT, still, flat, List.append_nil, List.nil_append, List.cons_append, Nat.reduceEqDiff, ne_eq, not_false_eq_true, reduceCtorEq, Bool.and_true, Bool.true_and, Bool.and_false, Bool.false_and, Bool.not_true, Bool.not_false, Bool.and_self]; rfl
        repeat apply go_seq
        apply go_ret
        apply ret_intro rfl rfl
        case run => simp (disch := decide) only [resultsM, resultsA, resIx, opsLoop, evOper, wantedA, nth, aop, aPick, aBin, aIndexAddr, aFieldAddr, aLoad, aStore, aExtract, aConvert, aAlloc, aBox, aIndex, callA, builtinA, Fr.evs, opt, val, when, AM.run, outV, newA, ptr, force_eq, seen_heap, seen_next, seen_mark, seen_seen, agg_cells, int_cells, Fr.ev, Fr.put, onFr, gps, gpn, bltT, still, flat, List.append_nil, List.nil_append, List.cons_append, Nat.reduceEqDiff, ne_eq, not_false_eq_true, reduceCtorEq, Bool.and_true, Bool.true_and, Bool.and_false, Bool.false_and, Bool.not_true, Bool.not_false, Bool.and_self]; rfl
        exact ⟨by rw [hok]; rfl, hless⟩
      · simp only [Out_]
        apply ret_intro rfl rfl
        case run => simp (disch := decide) only [resultsM, resultsA, resIx, opsLoop, evOper, wantedA, nth, aop, aPick, aBin, aIndexAddr, aFieldAddr, aLoad, aStore, aExtract, aConvert, aAlloc, aBox, aIndex, callA, builtinA, Fr.evs, opt, val, when, AM.run, outV, newA, ptr, force_eq, seen_heap, seen_next, seen_mark, seen_seen, agg_cells, int_cells, Fr.ev, Fr.put, onFr, gps, gpn, bltT, still, flat, List.append_nil, List.nil_append, List.cons_append, Nat.reduceEqDiff, ne_eq, not_false_eq_true, reduceCtorEq, Bool.and_true, Bool.true_and, Bool.and_false, Bool.false_and, Bool.not_true, Bool.not_false, Bool.and_self, k2]; rfl
        exact ⟨by rw [hok]; rfl, hless⟩
    · cases h2
  · cases h

def findV : Option FileD → Value
  | some f => .tuple ⟨[.agg ⟨f.cells⟩, .bool true]⟩
  | none => .tuple ⟨[.agg ⟨[.int .i64 0, .int .i64 0, .int .i64 0, .int .i64 0]⟩, .bool false]⟩
/-- what catalog.Find does -/
def findA : List Value → AM Value
  | [.agg ⟨[.int .i64 g, .int .i64 st, .int .i64 su, .bool en, .int .i64 f, .int .i64 t, .int .i64 b, .int .i64 fa, .slice a n cap]⟩, .int .i64 k] =>
    when (Nat.ble n 1000) (rdV a (4 * n) fun cs => opt (filesOf cs) fun fs => .pure (findV (lookM fs k)))
  | _ => .fail
theorem plain_find (r : Option FileD) : Plain (findV r) := by
  cases r with
  | none =>
    refine plain_tuple fun u hu => ?_
    simp only [List.mem_cons, List.not_mem_nil, or_false] at hu
    rcases hu with rfl | rfl
    · refine plain_agg fun u hu => ?_
      simp only [List.mem_cons, List.not_mem_nil, or_false] at hu
      rcases hu with rfl | rfl | rfl | rfl <;> exact plain_int _ _
    · exact plain_bool _
  | some f =>
    refine plain_tuple fun u hu => ?_
    simp only [List.mem_cons, List.not_mem_nil, or_false] at hu
    rcases hu with rfl | rfl
    · refine plain_agg fun u hu => ?_
      simp only [FileD.cells, List.mem_cons, List.not_mem_nil, or_false] at hu
      rcases hu with rfl | rfl | rfl | rfl <;> exact plain_int _ _
    · exact plain_bool _
/-- a variable is set -/
theorem newCellO {H : Tr AObj} {N NN mk : Nat} {c : Tr Value} {e : TypeId} {rm : Room} (hN : Nat.ble N lastName = true) (hlt : N < NN) (hg : H.get N = some (.cells c 4 e rm)) (L : List Value) (hL : L.length = 4) (h1 : allOne L = true) : ∀ rd wr,
    (storeA ⟨N, 0, none⟩ L (AM.pure (ANext.value undefV))).run ⟨H, NN, mk, rd, wr⟩ = some (.value undefV, ⟨H.put N (some (.cells (wrCells c 0 L) 4 e rm)), NN, mk, bit mk N rd, bit mk N wr⟩) := by
  intro rd wr
  rw [storeA_run (s := ⟨H, NN, mk, rd, wr⟩) _ h1 hlt hN hg (by omega) (by omega)]
  rfl
theorem placesF0 : placesA E fsF.toList = some [(0, 1), (1, 1), (2, 1), (3, 1)] := by kernel_rfl
noncomputable def fiFd : FI := FI.of Tryd.f20
noncomputable def cdFd : Code := bodyOf Tryd.f20
theorem resFd : fiFd.results = [.cell 4 41, .tmp 5] := rfl
abbrev sigFd : List (Nat × (List Value → AM Value)) := [(34, idxA)]
theorem tolds_Fd : Tolds Tryd.prog (sumsOf sigFd) := tolds_cons told_index tolds_nil
theorem scIx : sumsOf sigFd 34 = some idxA := rfl
theorem tgIx : ∀ a b, targetA E (.func 34) a b = .pure (.enter 34 (b ++ a)) := tgt (fi := fiIx) (c := cdIx) (by kernel_rfl) (by kernel_rfl)
theorem idxA_run {s : S} {a : Option Addr} {cap b : Nat} {fs : List FileD} {k : Int} (hl : fs.length ≤ 1000) (hv : Vx s a (fcs fs)) (hb : Cl s b 0 [.int .i64 k]) (hN : s.next ≤ 1000000) :
    ∃ s1, (idxA [.slice a fs.length cap, .func (.func 35) ⟨[]⟩ ⟨[.pointer (some ⟨b, 0, none⟩)]⟩]).run s = some (.int .i64 (posI (posM fs k)), s1) ∧ s1.next = s.next + fs.length ∧ ∀ m, m < s.next → s1.heap.get m = s.heap.get m := by
  have e1 := cl_load hb (fun | [.int .i64 k] => rdV a (4 * fs.length) fun cs => opt (filesOf cs) fun fs => bump fs.length (.pure (Value.int .i64 (posI (posM fs k)))) | _ => .fail)
  rw [show ([Value.int .i64 k] : List Value).length = 1 from rfl] at e1
  obtain ⟨s1, e2, hr, _⟩ := rdV_run (s := s.seen b) (vx_keep hv (Nat.le_refl _) (fun _ _ => rfl)) (fun cs => opt (filesOf cs) fun fs => bump fs.length (.pure (Value.int .i64 (posI (posM fs k)))))
  rw [fcs_len, filesOf_fcs] at e2
  have hn1 : s1.next = s.next := hr.next
  obtain ⟨s2, e3, n3, _, g3⟩ := bump_ok fs.length (AM.pure (Value.int .i64 (posI (posM fs k)))) s1 (fun i hi => ble_iff.2 (by unfold lastName; omega))
  refine ⟨s2, ?_, by omega, fun m hm => ?_⟩
  · show (when (Nat.beq 35 35 && Nat.ble fs.length 1000) (loadA ⟨b, 0, none⟩ 1 fun | [.int .i64 k] => rdV a (4 * fs.length) fun cs => opt (filesOf cs) fun fs => bump fs.length (.pure (Value.int .i64 (posI (posM fs k)))) | _ => .fail)).run s = _
    rw [show (Nat.beq 35 35 && Nat.ble fs.length 1000) = true by rw [ble_iff.2 hl]; rfl, show ∀ k : AM Value, when true k = k from fun _ => rfl, e1]
    simp only [opt] at e2 ⊢
    rw [e2]
    exact e3
  · rw [g3, if_neg (by omega), hr.heap]; rfl
set_option maxHeartbeats 2000000 in
theorem find_gow (q : Free) (hq : 10000 ≤ q.hi) (D : CatD) (a : Option Addr) (cap : Nat) (k : Int) (sI : S) (hn : sI.next ≤ 3) (h1 : D.files.length ≤ 1000) (V1 : Vx sI a (fcs D.files)) (t0 : Tr Value) (o0 : t0.get 0 = some (.agg ⟨catV D (.slice a D.files.length cap)⟩)) (o1 : t0.get 1 = some (.int .i64 k)) :
    GoW Tryd.prog q cdFd ⟨20, t0, 19, [], none⟩ sI (Ret E 20 fiFd fun v _ => v = findV (lookM D.files k)) := by
  obtain ⟨H, B, mk, rd, wr⟩ := sI
  simp only at hn
  have hlen9 : ∀ sv, Nat.ble (catV D sv).length lastName = true := fun sv => rfl
  have hB0 : Nat.ble B lastName = true := ble_iff.2 (by unfold lastName; omega)
  have hB1 : Nat.ble (Nat.succ B) lastName = true := ble_iff.2 (by unfold lastName; omega)
  have hB2 : Nat.ble (Nat.succ (Nat.succ B)) lastName = true := ble_iff.2 (by unfold lastName; omega)
  have W1 := vx_lt V1
  apply gow_of hE hmix tolds_Fd
  simp only [cdFd, Tryd.f20, bodyOf]
  repeat apply go_seq
  apply go_region
  case h => intro m; simp (maxSteps := 2000000) (disch := decide) only [opsLoop, evOper, wantedA, nth, aop, aPick, aBin, aIndexAddr, aFieldAddr, aLoad, aStore, aExtract, aConvert, aAlloc, aBox, aIndex, callA, builtinA, Fr.evs, opt, val, when, AM.run, outV, newA, ptr, force_eq, seen_heap, seen_next, seen_mark, seen_seen, agg_cells, int_cells, Fr.ev, Fr.put, onFr, gps, gpn, bltT, still, flat, List.append_nil, List.nil_append, List.cons_append, Nat.reduceEqDiff, ne_eq, not_false_eq_true, reduceCtorEq, Bool.and_true, Bool.true_and, Bool.and_false, Bool.false_and, Bool.not_true, Bool.not_false, Bool.and_self, o0, o1, hlen9, hB0, hB1, hB2, tyC, tyI, tyF, zeF, len4, show Nat.ble ([Value.int .i64 k] : List Value).length lastName = true from rfl]; rfl
  generalize hs3 : S.mk _ _ _ _ _ = s3
  have e3 : s3.next = B + 3 := by rw [← hs3]
  have e3h : s3.heap = ((H.put B (some (.cells (Tr.ofList (catV D (.slice a D.files.length cap))) (catV D (.slice a D.files.length cap)).length 27 .whole))).put (Nat.succ B) (some (.cells (Tr.ofList [Value.int .i64 k]) ([Value.int .i64 k] : List Value).length 3 .whole))).put (Nat.succ (Nat.succ B)) (some (.cells (Tr.ofList [Value.int .i64 0, .int .i64 0, .int .i64 0, .int .i64 0]) (List.length [Value.int .i64 0, .int .i64 0, .int .i64 0, .int .i64 0]) 41 .whole)) := by rw [← hs3]
  clear hs3
  have K0 : ∀ m, m < B → s3.heap.get m = H.get m := fun m hm => by rw [e3h, hg_far hB2 (by omega), hg_far hB1 (by omega), hg_far hB0 (by omega)]
  have C3 : Cl s3 B 0 (catV D (.slice a D.files.length cap)) := Cl.new (by omega) (by rw [e3h, hg_far hB2 (by omega), hg_far hB1 (by omega)]; exact hg_same hB0 _ _) (by simp [catV])
  have I3 : Cl s3 (B + 1) 0 [.int .i64 k] := Cl.new (by omega) (by rw [e3h, hg_far hB2 (by omega)]; exact hg_same hB1 _ _) (by simp)
  have R3 : s3.heap.get (B + 2) = some (.cells (Tr.ofList [Value.int .i64 0, .int .i64 0, .int .i64 0, .int .i64 0]) 4 41 .whole) := by rw [e3h]; exact hg_same hB2 _ _
  clear e3h
  have V3 : Vx s3 a (fcs D.files) := vx_keep V1 (by show B ≤ _; omega) K0
  have l8 := cl_one (β := ANext) (k := 8) (v := .slice a D.files.length cap) tiFs (by rw [dsFs]; rfl) C3 rfl val
  simp only [Nat.zero_add] at l8
  have ad8 : addA ⟨B, 0, none⟩ 8 = ⟨B, 8, none⟩ := rfl
  obtain ⟨s4, r4, n4, g4⟩ := idxA_run (s := s3.seen B) (cap := cap) h1 (vx_keep V3 (Nat.le_refl _) (fun _ _ => rfl)) (I3.of rfl rfl) (by show s3.next ≤ _; omega)
  have n4' : s4.next = B + 3 + D.files.length := by rw [n4]; show s3.next + _ = _; omega
  have g4' : ∀ m, m < B + 3 → s4.heap.get m = s3.heap.get m := fun m hm => g4 m (by show m < s3.next; omega)
  repeat apply go_seq
  apply go_region
  case h => intro m; simp (maxSteps := 2000000) (disch := decide) only [opsLoop, evOper, wantedA, nth, aop, aPick, aBin, aIndexAddr, aFieldAddr, aLoad, aStore, aExtract, aConvert, aAlloc, aBox, aIndex, callA, builtinA, Fr.evs, opt, val, when, AM.run, outV, newA, ptr, force_eq, seen_heap, seen_next, seen_mark, seen_seen, agg_cells, int_cells, Fr.ev, Fr.put, onFr, gps, gpn, bltT, still, flat, List.append_nil, List.nil_append, List.cons_append, Nat.reduceEqDiff, ne_eq, not_false_eq_true, reduceCtorEq, Bool.and_true, Bool.true_and, Bool.and_false, Bool.false_and, Bool.not_true, Bool.not_false, Bool.and_self, tyC, dsC, flC5, ftC5, foC5, tyFs, dsFs, szFs, ble11, ad8, l8, aMakeFunc, tgIx, evT_told scIx, r4]; rfl
  clear r4 g4 l8
  have C4 : Cl s4 B 0 (catV D (.slice a D.files.length cap)) := C3.keep (by omega) (g4' _ (by omega))
  have R4 := R3
  rw [← g4' (B + 2) (by omega)] at R4
  have V4 : Vx s4 a (fcs D.files) := by
    refine vx_keep V3 (by omega) (fun m hm => g4' m (by omega))
  clear V3 C3 I3 R3
  have hat := posM_at D.files k
  obtain ⟨H4, N4, mk4, rd4, wr4⟩ := s4
  simp only at n4' R4
  cases hp : posM D.files k with
  | none =>
    rw [hp] at hat
    have hlook : lookM D.files k = none := hat
    have st := newCellO (N := B + 2) (H := H4) (NN := N4) (mk := mk4) hB2 (by omega) R4 [.int .i64 0, .int .i64 0, .int .i64 0, .int .i64 0] rfl rfl
    repeat apply go_seq
    apply go_region
    case h => intro m; simp (maxSteps := 2000000) (disch := decide) only [opsLoop, evOper, wantedA, nth, aop, aPick, aBin, aIndexAddr, aFieldAddr, aLoad, aStore, aExtract, aConvert, aAlloc, aBox, aIndex, callA, builtinA, Fr.evs, opt, val, when, AM.run, outV, newA, ptr, force_eq, seen_heap, seen_next, seen_mark, seen_seen, agg_cells, int_cells, Fr.ev, Fr.put, onFr, gps, gpn, bltT, still, flat, List.append_nil, List.nil_append, List.cons_append, Nat.reduceEqDiff, ne_eq, not_false_eq_true, reduceCtorEq, Bool.and_true, Bool.true_and, Bool.and_false, Bool.false_and, Bool.not_true, Bool.not_false, Bool.and_self, posI, b_lss, show ltI (-1) 0 = true from rfl]; rfl
    repeat apply go_seq
    apply go_cond
    case hc => simp (disch := decide) only [opsLoop, evOper, wantedA, nth, aop, aPick, aBin, aIndexAddr, aFieldAddr, aLoad, aStore, aExtract, aConvert, aAlloc, aBox, aIndex, callA, builtinA, Fr.evs, opt, val, when, AM.run, outV, newA, ptr, force_eq, seen_heap, seen_next, seen_mark, seen_seen, agg_cells, int_cells, Fr.ev, Fr.put, onFr, gps, gpn, bltT, still, flat, List.append_nil, List.nil_append, List.cons_append, Nat.reduceEqDiff, ne_eq, not_false_eq_true, reduceCtorEq, Bool.and_true, Bool.true_and, Bool.and_false, Bool.false_and, Bool.not_true, Bool.not_false, Bool.and_self]; rfl
    case h2 => intro h; cases h
    intro _
    repeat apply go_seq
    apply go_region
    case h => intro m; simp (maxSteps := 2000000) (disch := decide) only [opsLoop, evOper, wantedA, nth, aop, aPick, aBin, aIndexAddr, aFieldAddr, aLoad, aStore, aExtract, aConvert, aAlloc, aBox, aIndex, callA, builtinA, Fr.evs, opt, val, when, AM.run, outV, newA, ptr, force_eq, seen_heap, seen_next, seen_mark, seen_seen, agg_cells, int_cells, Fr.ev, Fr.put, onFr, gps, gpn, bltT, still, flat, List.append_nil, List.nil_append, List.cons_append, Nat.reduceEqDiff, ne_eq, not_false_eq_true, reduceCtorEq, Bool.and_true, Bool.true_and, Bool.and_false, Bool.false_and, Bool.not_true, Bool.not_false, Bool.and_self, aBuild, evParts, tyF, szF, dsF, zeF, placesF0, fillA, len4, show Nat.beq ([Value.int .i64 0, .int .i64 0, .int .i64 0, .int .i64 0] : List Value).length 4 = true from rfl, st]; rfl
    generalize hs5 : S.mk _ _ _ _ _ = s5
    have e5 : s5.next = N4 := by rw [← hs5]
    have L5 : Cl s5 (B + 2) 0 [Value.int .i64 0, .int .i64 0, .int .i64 0, .int .i64 0] := ⟨by omega, _, 4, .inl ⟨_, _, by rw [← hs5]; exact hg_same hB2 _ _⟩, by simp, row_wr (by unfold Tr.wide; simp)⟩
    clear hs5 st
    have l5 := cl_agg (β := Value) tiF (by rw [dsF]; rfl) (by rw [szF]; rfl) L5
    apply go_ret
    refine ⟨by omega, ?_⟩
    apply ret_intro rfl rfl
    case run => simp (disch := decide) only [resultsM, resultsA, resFd, opsLoop, evOper, wantedA, nth, aop, aPick, aBin, aIndexAddr, aFieldAddr, aLoad, aStore, aExtract, aConvert, aAlloc, aBox, aIndex, callA, builtinA, Fr.evs, opt, val, when, AM.run, outV, newA, ptr, force_eq, seen_heap, seen_next, seen_mark, seen_seen, agg_cells, int_cells, Fr.ev, Fr.put, onFr, gps, gpn, bltT, still, flat, List.append_nil, List.nil_append, List.cons_append, Nat.reduceEqDiff, ne_eq, not_false_eq_true, reduceCtorEq, Bool.and_true, Bool.true_and, Bool.and_false, Bool.false_and, Bool.not_true, Bool.not_false, Bool.and_self, tyF, l5]; rfl
    rw [hlook]; rfl
  | some i =>
    rw [hp] at hat
    obtain ⟨hi, hlt⟩ := hat
    obtain ⟨f, hf⟩ : ∃ f, D.files[i]? = some f := ⟨_, List.getElem?_eq_getElem hlt⟩
    have hlook : lookM D.files k = some f := by rw [← hi, hf]
    cases a with
    | none =>
      have h0 : fcs D.files = [] := V4
      have := fcs_len D.files
      rw [h0] at this
      have h4 : (0 : Nat) = 4 * D.files.length := this
      omega
    | some ad =>
      obtain ⟨ab, ao, asp⟩ := ad
      obtain ⟨hsp, hcl⟩ := V4
      simp only at hsp hcl
      subst hsp
      have hsub := hcl.sub (i * 4) 4 (by rw [fcs_len]; omega)
      rw [fcs_at D.files i f hf] at hsub
      have hbl : Nat.blt i D.files.length = true := blt_iff.2 hlt
      have aa : addA ⟨ab, ao, none⟩ (Nat.mul i 4) = ⟨ab, ao + i * 4, none⟩ := addAn ab ao _
      have lf := hsub.ldA (β := ANext) tiF (by rw [dsF]; rfl) (by rw [szF]; rfl)
      have l8 := C4.ld (k := 8) (v := .slice (some ⟨ab, ao, none⟩) D.files.length cap) tiFs (by rw [dsFs]; rfl) rfl
      simp only [Nat.zero_add] at l8
      have st := newCellO (N := B + 2) (H := H4) (NN := N4) (mk := mk4) hB2 (by omega) R4 f.cells rfl rfl
      have hge : ltI (Int.ofNat i) 0 = false := by rw [ltI_eq]; simp
      repeat apply go_seq
      apply go_region
      case h => intro m; simp (maxSteps := 2000000) (disch := decide) only [opsLoop, evOper, wantedA, nth, aop, aPick, aBin, aIndexAddr, aFieldAddr, aLoad, aStore, aExtract, aConvert, aAlloc, aBox, aIndex, callA, builtinA, Fr.evs, opt, val, when, AM.run, outV, newA, ptr, force_eq, seen_heap, seen_next, seen_mark, seen_seen, agg_cells, int_cells, Fr.ev, Fr.put, onFr, gps, gpn, bltT, still, flat, List.append_nil, List.nil_append, List.cons_append, Nat.reduceEqDiff, ne_eq, not_false_eq_true, reduceCtorEq, Bool.and_true, Bool.true_and, Bool.and_false, Bool.false_and, Bool.not_true, Bool.not_false, Bool.and_self, posI, b_lss, hge]; rfl
      repeat apply go_seq
      apply go_cond
      case hc => simp (disch := decide) only [opsLoop, evOper, wantedA, nth, aop, aPick, aBin, aIndexAddr, aFieldAddr, aLoad, aStore, aExtract, aConvert, aAlloc, aBox, aIndex, callA, builtinA, Fr.evs, opt, val, when, AM.run, outV, newA, ptr, force_eq, seen_heap, seen_next, seen_mark, seen_seen, agg_cells, int_cells, Fr.ev, Fr.put, onFr, gps, gpn, bltT, still, flat, List.append_nil, List.nil_append, List.cons_append, Nat.reduceEqDiff, ne_eq, not_false_eq_true, reduceCtorEq, Bool.and_true, Bool.true_and, Bool.and_false, Bool.false_and, Bool.not_true, Bool.not_false, Bool.and_self]; rfl
      case h1 => intro h; cases h
      intro _
      apply go_skip
      repeat apply go_seq
      apply go_region
      case h => intro m; simp (maxSteps := 2000000) (disch := decide) only [opsLoop, evOper, wantedA, nth, aop, aPick, aBin, aIndexAddr, aFieldAddr, aLoad, aStore, aExtract, aConvert, aAlloc, aBox, aIndex, callA, builtinA, Fr.evs, opt, val, when, AM.run, outV, newA, ptr, force_eq, seen_heap, seen_next, seen_mark, seen_seen, agg_cells, int_cells, Fr.ev, Fr.put, onFr, gps, gpn, bltT, still, flat, List.append_nil, List.nil_append, List.cons_append, Nat.reduceEqDiff, ne_eq, not_false_eq_true, reduceCtorEq, Bool.and_true, Bool.true_and, Bool.and_false, Bool.false_and, Bool.not_true, Bool.not_false, Bool.and_self, tyC, dsC, flC5, ftC5, foC5, tyFs, dsFs, szFs, ble11, ad8, l8, hbl, tyF, szF, dsF, aa, lf, show Nat.beq f.cells.length 4 = true from rfl, st]; rfl
      generalize hs5 : S.mk _ _ _ _ _ = s5
      have e5 : s5.next = N4 := by rw [← hs5]
      have L5 : Cl s5 (B + 2) 0 f.cells := ⟨by omega, _, 4, .inl ⟨_, _, by rw [← hs5]; exact hg_same hB2 _ _⟩, by simp [FileD.cells], row_wr (by unfold Tr.wide; simp [FileD.cells])⟩
      clear hs5 st
      have l5 := cl_agg (β := Value) tiF (by rw [dsF]; rfl) (by rw [szF]; rfl) L5
      repeat apply go_seq
      apply go_ret
      refine ⟨by omega, ?_⟩
      apply ret_intro rfl rfl
      case run => simp (disch := decide) only [resultsM, resultsA, resFd, opsLoop, evOper, wantedA, nth, aop, aPick, aBin, aIndexAddr, aFieldAddr, aLoad, aStore, aExtract, aConvert, aAlloc, aBox, aIndex, callA, builtinA, Fr.evs, opt, val, when, AM.run, outV, newA, ptr, force_eq, seen_heap, seen_next, seen_mark, seen_seen, agg_cells, int_cells, Fr.ev, Fr.put, onFr, gps, gpn, bltT, still, flat, List.append_nil, List.nil_append, List.cons_append, Nat.reduceEqDiff, ne_eq, not_false_eq_true, reduceCtorEq, Bool.and_true, Bool.true_and, Bool.and_false, Bool.false_and, Bool.not_true, Bool.not_false, Bool.and_self, tyF, l5]; rfl
      rw [hlook]; rfl
theorem told_find : AE.Told Tryd.prog 20 findA := by
  refine told_own hE (fi := fiFd) (c := cdFd) (by kernel_rfl) (by kernel_rfl) ?_
  intro args s v s' h hm
  unfold findA at h
  split at h
  · rename_i g st su en fo to bu fa a n cap k
    obtain ⟨hc, h2⟩ := run_when h
    obtain ⟨L, s1, hL, hvx, hr1, h3⟩ := vx_of_rd h2
    obtain ⟨fs, hfs, h4⟩ := run_opt h3
    obtain rfl := filesOf_inv L fs hfs
    rw [fcs_len] at hL
    obtain rfl : n = fs.length := by omega
    cases h4
    have hlen := ble_iff.1 hc
    refine ⟨plain_find _, rd_less hr1, ?_⟩
    intro q ρ w args' hRep hargs
    cases hargs with
    | cons x1 ha => cases ha with
      | cons x2 ha => cases ha with
        | nil =>
          obtain ⟨l', rfl, hl⟩ := x1.agg_inv
          obtain ⟨sv', rfl, hsv⟩ := cat_inv hl
          obtain rfl := x2.int_inv
          obtain ⟨xs1, b1, i1, m1⟩ := anew hRep (ints_fcs _) (by rw [fcs_len]; omega) hvx hsv
          obtain ⟨a', r1, w1⟩ := m1 xs1 0 (by omega) (fun i x hx => by rw [Nat.zero_add]; exact hx)
          have hw : ([Value.agg ⟨CatD.cells ⟨g, st, su, en, fo, to, bu, fa, fs⟩ a' cap⟩, .int .i64 k] : List Value).length ≤ Tr.wide := by simp [Tr.wide]
          refine ⟨[.agg ⟨CatD.cells ⟨g, st, su, en, fo, to, bu, fa, fs⟩ a' cap⟩, .int .i64 k], inS xs1, renOf _, 10000, 19, rfl, rfl, inputs_of _ (by omega) i1, .cons (cat_mk r1) (.cons (.flat rfl) .nil), Nat.zero_le _, ?_⟩
          exact find_gow (ownQ w 10000) (Nat.le_refl _) ⟨g, st, su, en, fo, to, bu, fa, fs⟩ a' cap k _ (by show xs1.length ≤ 3; omega) hlen w1 _ (by rw [get_ofList _ _ hw]; rfl) (by rw [get_ofList _ _ hw]; rfl)
  · cases h
theorem findA_run {s : S} {a : Option Addr} {cap : Nat} (D : CatD) (k : Int) (hl : D.files.length ≤ 1000) (hv : Vx s a (fcs D.files)) : ∃ s1, (findA [.agg ⟨D.cells a cap⟩, .int .i64 k]).run s = some (findV (lookM D.files k), s1) ∧ Rd s s1 ∧ s1.wr = s.wr := by
  obtain ⟨s1, e1, hr, hw⟩ := rdV_run hv (fun cs => opt (filesOf cs) fun fs => .pure (findV (lookM fs k)))
  rw [fcs_len] at e1
  refine ⟨s1, ?_, hr, hw⟩
  show (when (Nat.ble D.files.length 1000) (rdV a (4 * D.files.length) fun cs => opt (filesOf cs) fun fs => .pure (findV (lookM fs k)))).run s = _
  rw [show Nat.ble D.files.length 1000 = true from ble_iff.2 hl, show ∀ k : AM Value, when true k = k from fun _ => rfl, e1, filesOf_fcs]
  rfl
end Go.Proofs.YtgofanjbhbeniaaDoor.lf
end
end

section
/- Catalogs made anew: the statement's first steps: what is handed in is cut. -/
noncomputable section
namespace Go.Proofs.YtgofanjbhbeniaaDoor.lf
open AE
set_option linter.unusedSimpArgs false
set_option linter.unusedVariables false
set_option maxRecDepth 10000

noncomputable def fiWl : FI := FI.of Tryd.f5
noncomputable def cdWl : Code := bodyOf Tryd.f5
theorem resWl : fiWl.results = [.tmp 8] := rfl
abbrev sigWl : List (Nat × (List Value → AM Value)) := [(13, lookA rightF_), (18, withA), (19, sameFA), (20, findA), (17, constA (.bool true))]
theorem tolds_Wl : Tolds Tryd.prog (sumsOf sigWl) := tolds_cons told_rightE (tolds_cons told_with (tolds_cons told_sameF (tolds_cons told_find (tolds_cons (told_of_calls rfl catalogRuns_any) tolds_nil))))
theorem wlR : sumsOf sigWl 13 = some (lookA rightF_) := rfl
theorem wlW : sumsOf sigWl 18 = some withA := rfl
theorem wlS : sumsOf sigWl 19 = some sameFA := rfl
theorem wlF : sumsOf sigWl 20 = some findA := rfl
theorem wlX : sumsOf sigWl 17 = some (constA (.bool true)) := rfl
theorem tgWR : ∀ a b, targetA E (.func 13) a b = .pure (.enter 13 (b ++ a)) := tgt (fi := fiCa) (c := cdCa) (by kernel_rfl) (by kernel_rfl)
theorem tgWW : ∀ a b, targetA E (.func 18) a b = .pure (.enter 18 (b ++ a)) := tgt (fi := fiCW) (c := cdCW) (by kernel_rfl) (by kernel_rfl)
theorem tgWS : ∀ a b, targetA E (.func 19) a b = .pure (.enter 19 (b ++ a)) := tgt (fi := FI.of Tryd.f19) (c := bodyOf Tryd.f19) (by kernel_rfl) (by kernel_rfl)
theorem tgWF : ∀ a b, targetA E (.func 20) a b = .pure (.enter 20 (b ++ a)) := tgt (fi := fiFd) (c := cdFd) (by kernel_rfl) (by kernel_rfl)

theorem slz_run {a : Option Addr} {n cap m z : Nat} (h : CutOK a n cap) (hm : m ≤ n) : ∀ s, (sliceA z a cap 0 m none).run s = some (.value (.slice a m cap), s) := by
  intro s
  have h0 : Nat.ble 0 m = true := ble_iff.2 (Nat.zero_le _)
  rcases h with ⟨rfl, rfl, rfl⟩ | ⟨b, rfl, h⟩
  · obtain rfl : m = 0 := by omega
    simp only [sliceA, show Nat.ble OPEN 0 = false from rfl, sliceE, when, show Nat.ble 0 0 = true from rfl, Bool.and_self, val, AM.run]
  · have had : addA ⟨b, 0, none⟩ (Nat.mul 0 z) = ⟨b, 0, none⟩ := by rw [show Nat.mul 0 z = 0 from Nat.zero_mul z]; rfl
    rcases h with ⟨hb, h2⟩ | ⟨c, hb, hs, hadd, h1, h2⟩
    · have h2' : Nat.ble m cap = true := ble_iff.2 (by omega)
      have had2 : addIf ⟨b, 0, none⟩ cap 0 z = ⟨b, 0, none⟩ := by
        unfold addIf
        split
        · rfl
        · exact had
      simp only [sliceA, hb, sliceE, when, h2', h0, Bool.and_self, val, AM.run, had2, sub0]
    · have hq : Nat.beq c 0 = false := by
        cases hh : Nat.beq c 0 with
        | false => rfl
        | true => have := beq_iff.1 hh; omega
      have h2' : Nat.ble m c = true := ble_iff.2 (by omega)
      have e1 : sliceA z (some ⟨b, 0, none⟩) cap 0 m none = sliceO z ⟨b, 0, none⟩ c 0 m := by
        unfold sliceA
        simp only [hb, hs]
      rw [e1]
      unfold sliceO
      simp only [when, h2', h0, Bool.and_self, hq, val, AM.run, sub0, hadd, had]
theorem min_runK (n K : Nat) : minMax false [.int .i64 (.ofNat n), .int .i64 (.ofNat K)] = some (.int .i64 (.ofNat (min n K))) := by
  show some (Value.int .i64 (match ltI (.ofNat K) (Int.ofNat n) with | true => .ofNat K | false => Int.ofNat n)) = _
  have e : ltI (.ofNat K) (Int.ofNat n) = decide (K < n) := by
    rw [ltI_eq]
    have : (Int.ofNat K : Int) < Int.ofNat n ↔ K < n := by show (K : Int) < (n : Int) ↔ _; omega
    simp only [this]
  rw [e]
  by_cases h : K < n
  · rw [decide_eq_true h, Nat.min_eq_right (by omega)]
  · rw [decide_eq_false h, Nat.min_eq_left (by omega)]
def cutW (D : CatD) : CatD := { D with files := D.files.take 14 }
theorem cutW_cells (D : CatD) (a : Option Addr) (cap : Nat) : (D.cells a cap).set 8 (.slice a (min D.files.length 14) cap) = (cutW D).cells a cap := by
  show _ = [_, _, _, _, _, _, _, _, Value.slice a (D.files.take 14).length cap]
  rw [List.length_take, Nat.min_comm]
  rfl
def zeroD : CatD := ⟨0, 0, 0, false, 0, 0, 0, 0, []⟩
/-- the catalog that is looked at -/
def theD (D : CatD) : CatD := match (cutW D).right with
  | true => cutW D
  | false => zeroD
theorem nd_rise : ∀ (l : List FileD) (last : Int), filesOK last l = true → (∀ f ∈ l, last < f.name) ∧ ND l
  | [], last, h => ⟨fun f hf => by (cases hf), List.nodup_nil⟩
  | f :: l, last, h => by
    simp only [filesOK, Bool.and_eq_true] at h
    obtain ⟨_, h2, h3⟩ := h
    rw [ltI_eq, decide_eq_true_eq] at h2
    obtain ⟨g1, g2⟩ := nd_rise l f.name h3
    refine ⟨fun g hg => ?_, ?_⟩
    · rcases List.mem_cons.1 hg with rfl | hg
      · exact h2
      · have := g1 g hg; omega
    · simp only [ND, List.map_cons, List.nodup_cons]
      refine ⟨fun hm => ?_, g2⟩
      obtain ⟨x, hx, he⟩ := List.mem_map.1 hm
      have := g1 x hx
      omega
theorem theD_nd (D : CatD) : ND (theD D).files ∧ (theD D).files.length ≤ 14 := by
  unfold theD
  cases h : (cutW D).right with
  | true =>
    have h2 := h
    unfold CatD.right at h2
    simp only [Bool.and_eq_true] at h2
    refine ⟨(nd_rise _ _ h2.2.2).2, ?_⟩
    show (D.files.take 14).length ≤ 14
    rw [List.length_take]; omega
  | false => exact ⟨List.nodup_nil, Nat.zero_le _⟩
/-- ahead of the copy of the files -/
structure WAt (D : CatD) (ps : List FileD) (gs : List Int) (name : Int) (a1 a2 a3 : Option Addr) (c1 c2 c3 : Nat) (t : Tr Value) (s : S) : Prop where
  t1 : t.get 1 = some (.slice a2 ps.length c2)
  t2 : t.get 2 = some (.slice a3 gs.length c3)
  t3 : t.get 3 = some (.int .i64 name)
  t4 : t.get 4 = some (.pointer (some ⟨3, 0, none⟩))
  next : s.next = 4
  mark : s.mark ≤ 4
  C : Cl s 3 0 (D.cells a1 c1)
  V1 : Vx s a1 (fcs D.files)
  V2 : Vx s a2 (fcs ps)
  V3 : Vx s a3 (icsL gs)
  lo1 : ∀ ad, a1 = some ad → ad.block < 3
  lo2 : ∀ ad, a2 = some ad → ad.block < 3
  lo3 : ∀ ad, a3 = some ad → ad.block < 3
theorem chWl : cdWl = .seq (sub [0] cdWl) (.seq (sub [1,0] cdWl) (.seq (.seq (sub [1,1,0,0] cdWl) (sub [1,1,0,1] cdWl)) (sub [1,1,1] cdWl))) := rfl
theorem build_zeroC (fr : Fr) : aBuild E fr 27 #[] = val (.agg ⟨zeroD.cells none 0⟩) := by
  simp only [aBuild, opt, evParts, tyC]
  first | rfl | kernel_rfl
set_option maxHeartbeats 4000000 in
theorem with_start (q : Free) (hq : 100000 ≤ q.hi) (D : CatD) (ps : List FileD) (gs : List Int) (name : Int) (a1 a2 a3 : Option Addr) (c1 c2 c3 : Nat) (sI : S) (hn : sI.next ≤ 3) (V1 : Vx sI a1 (fcs (cutW D).files)) (V2 : Vx sI a2 (fcs (ps.take 6))) (V3 : Vx sI a3 (icsL (gs.take 6)))
    (h1 : CutOK a1 D.files.length c1) (h2 : CutOK a2 ps.length c2) (h3 : CutOK a3 gs.length c3) (t0 : Tr Value) (g0 : t0.get 0 = some (.agg ⟨D.cells a1 c1⟩)) (g1 : t0.get 1 = some (.slice a2 ps.length c2)) (g2 : t0.get 2 = some (.slice a3 gs.length c3)) (g3 : t0.get 3 = some (.int .i64 name))
    (Q : Ex → Fr → S → Prop) (hrest : ∀ b1 d1 t s, WAt (theD D) (ps.take 6) (gs.take 6) name b1 a2 a3 d1 c2 c3 t s → GoW Tryd.prog q (sub [1,1,1] cdWl) ⟨5, t, 174, [], none⟩ s Q) :
    GoW Tryd.prog q cdWl ⟨5, t0, 174, [], none⟩ sI Q := by
  refine gow_less (fr2 := ⟨5, t0, 174, [], none⟩) (s2 := ⟨sI.heap, 3, 0, 0, 0⟩) ?_ ⟨hn, fun m o ho => ⟨o, ho, .refl o⟩⟩ (Nat.zero_le _) ⟨rfl, rfl, rfl, rfl, fun _ _ h => h⟩
  have V1 : Vx ⟨sI.heap, 3, 0, 0, 0⟩ a1 (fcs (cutW D).files) := V1.keep hn (fun _ _ => rfl)
  have V2 : Vx ⟨sI.heap, 3, 0, 0, 0⟩ a2 (fcs (ps.take 6)) := V2.keep hn (fun _ _ => rfl)
  have V3 : Vx ⟨sI.heap, 3, 0, 0, 0⟩ a3 (icsL (gs.take 6)) := V3.keep hn (fun _ _ => rfl)
  generalize hHI : sI.heap = HI at *
  rw [chWl]
  generalize hre : sub [1,1,1] cdWl = re at *
  simp only [cdWl, Tryd.f5, bodyOf, sub]
  have b3 : Nat.ble 3 lastName = true := rfl
  apply gow_seq
  apply gow_of hE hmix tolds_Wl
  repeat apply go_seq
  apply go_region
  case h => intro m; simp (maxSteps := 2000000) (disch := decide) only [opsLoop, evOper, wantedA, nth, aop, aPick, aBin, aIndexAddr, aFieldAddr, aLoad, aStore, aExtract, aConvert, aAlloc, aBox, aIndex, callA, builtinA, Fr.evs, opt, val, when, AM.run, outV, newA, ptr, force_eq, seen_heap, seen_next, seen_mark, seen_seen, agg_cells, int_cells, Fr.ev, Fr.put, onFr, gps, gpn, bltT, still, flat, List.append_nil, List.nil_append, List.cons_append, Nat.reduceEqDiff, ne_eq, not_false_eq_true, reduceCtorEq, Bool.and_true, Bool.true_and, Bool.and_false, Bool.false_and, Bool.not_true, Bool.not_false, Bool.and_self, g0, tyC, b3, show Nat.ble (D.cells a1 c1).length lastName = true from rfl]; rfl
  refine ⟨by show 4 ≤ q.hi; omega, ?_⟩
  show GoW _ _ _ _ _ _
  generalize hs1 : S.mk _ _ _ _ _ = s2
  have e1 : s2.next = 4 := by rw [← hs1]
  have e1m : s2.mark = 0 := by rw [← hs1]
  have e1h : s2.heap = HI.put 3 (some (.cells (Tr.ofList (D.cells a1 c1)) 9 27 .whole)) := by rw [← hs1]; rfl
  clear hs1
  have o3 : s2.heap.get 3 = some (.cells (Tr.ofList (D.cells a1 c1)) 9 27 .whole) := by rw [e1h]; exact hg_same b3 _ _
  have old : ∀ m, m < 3 → s2.heap.get m = HI.get m := fun m hm => by rw [e1h, hg_far b3 (by omega)]
  clear e1h
  obtain ⟨H, N, mk, rd, wr⟩ := s2
  simp only at e1 e1m o3 old
  subst e1
  subst e1m
  have L3 : Cl ⟨H, 4, 4, 0, 0⟩ 3 0 (D.cells a1 c1) := ⟨by show 3 < 4; omega, _, _, .inl ⟨_, _, o3⟩, by show 0 + 9 ≤ 9; omega, row_ofList _ (by show 9 ≤ _; unfold Tr.wide; omega)⟩
  have x3 := L3.ld (k := 8) tiFs (by rw [dsFs]; rfl) rfl
  simp only [Nat.zero_add] at x3
  have ad3 : addA ⟨3, 0, none⟩ 8 = ⟨3, 8, none⟩ := rfl
  have mn1 : minMax false [.int .i64 (.ofNat D.files.length), .int .i64 14] = some (.int .i64 (.ofNat (min D.files.length 14))) := min_runK _ 14
  have mn2 : minMax false [.int .i64 (.ofNat ps.length), .int .i64 6] = some (.int .i64 (.ofNat (min ps.length 6))) := min_runK _ 6
  have mn3 : minMax false [.int .i64 (.ofNat gs.length), .int .i64 6] = some (.int .i64 (.ofNat (min gs.length 6))) := min_runK _ 6
  have sc1 := slz_run (z := 4) h1 (Nat.min_le_left D.files.length 14)
  have sc2 := slz_run (z := 4) h2 (Nat.min_le_left ps.length 6)
  have sc3 := slz_run (z := 1) h3 (Nat.min_le_left gs.length 6)
  generalize hK3 : wrCells (Tr.ofList (D.cells a1 c1)) 8 [Value.slice a1 (min D.files.length 14) c1] = K3
  have st3 : ∀ rd wr, (storeA ⟨3, 8, none⟩ [.slice a1 (min D.files.length 14) c1] (AM.pure (ANext.value undefV))).run ⟨H, 4, 4, rd, wr⟩ = some (.value undefV, ⟨H.put 3 (some (.cells K3 9 27 .whole)), 4, 4, bit 4 3 rd, bit 4 3 wr⟩) := fun rd wr => by
    rw [storeA_run (s := ⟨H, 4, 4, rd, wr⟩) _ rfl (by show 3 < 4; omega) b3 o3 (by show 8 + 1 ≤ 9; omega) (by omega), hK3]
    rfl
  have rK3 : Row K3 0 ((cutW D).cells a1 c1) := by
    rw [← hK3, ← cutW_cells]
    exact row_set (row_ofList _ (by show 9 ≤ _; unfold Tr.wide; omega)) (by omega)
  have i1 : intOf? (.int .i64 (.ofNat (min D.files.length 14))) = some (min D.files.length 14) := rfl
  have i2 : intOf? (.int .i64 (.ofNat (min ps.length 6))) = some (min ps.length 6) := rfl
  have i3 : intOf? (.int .i64 (.ofNat (min gs.length 6))) = some (min gs.length 6) := rfl
  apply gow_seq
  apply gow_of hE hmix tolds_Wl
  repeat apply go_seq
  apply go_drawn
  case hs => rfl
  case h => intro m; simp (maxSteps := 2000000) (disch := decide) only [opsLoop, evOper, wantedA, nth, aop, aPick, aBin, aIndexAddr, aFieldAddr, aLoad, aStore, aExtract, aConvert, aAlloc, aBox, aIndex, callA, builtinA, Fr.evs, opt, val, when, AM.run, outV, newA, ptr, force_eq, seen_heap, seen_next, seen_mark, seen_seen, agg_cells, int_cells, Fr.ev, Fr.put, onFr, gps, gpn, bltT, still, flat, List.append_nil, List.nil_append, List.cons_append, Nat.reduceEqDiff, ne_eq, not_false_eq_true, reduceCtorEq, Bool.and_true, Bool.true_and, Bool.and_false, Bool.false_and, Bool.not_true, Bool.not_false, Bool.and_self, drawnLoop, force_eq, S.seen, keep_none, clash_nil, clash_reads, created_self, lor_zero, lor_zero', g1, g2, tyC, dsC, flC5, ftC5, foC5, tyFs, dsFs, szFs, tyIs, dsIs, tyI, szI, ble11, ad3, x3, mn1, mn2, mn3, aSlice, lowHigh, i1, i2, i3, tyF, szF, sc1, sc2, sc3, sl_cells, show Nat.beq ([Value.slice a1 (min D.files.length 14) c1] : List Value).length 1 = true from rfl, st3, clash_bef]; rfl
  refine ⟨by show 4 ≤ q.hi; omega, ?_⟩
  show GoW _ _ _ _ _ _
  generalize hs3 : S.mk _ _ _ _ _ = s3
  have e3 : s3.next = 4 := by rw [← hs3]
  have e3m : s3.mark = 0 := by rw [← hs3]
  have e3h : s3.heap = H.put 3 (some (.cells K3 9 27 .whole)) := by rw [← hs3]
  clear hs3
  have q3 : s3.heap.get 3 = some (.cells K3 9 27 .whole) := by rw [e3h]; exact hg_same b3 _ _
  have qo : ∀ m, m < 3 → s3.heap.get m = HI.get m := fun m hm => by rw [e3h, hg_far b3 (by omega)]; exact old m hm
  clear e3h
  have hps : (ps.take 6).length = min ps.length 6 := by rw [List.length_take, Nat.min_comm]
  have hgs : (gs.take 6).length = min gs.length 6 := by rw [List.length_take, Nat.min_comm]
  have W1 : Vx s3 a1 (fcs (cutW D).files) := vx_keep V1 (by show 3 ≤ _; omega) qo
  have W2 : Vx s3 a2 (fcs (ps.take 6)) := vx_keep V2 (by show 3 ≤ _; omega) qo
  have W3 : Vx s3 a3 (icsL (gs.take 6)) := vx_keep V3 (by show 3 ≤ _; omega) qo
  have M3 : Cl s3 3 0 ((cutW D).cells a1 c1) := ⟨by omega, _, _, .inl ⟨_, _, q3⟩, by show 0 + 9 ≤ 9; omega, rK3⟩
  have hl1 : (cutW D).files.length ≤ 14 := by show (D.files.take 14).length ≤ 14; rw [List.length_take]; omega
  obtain ⟨s4, p4, hr4, hw4⟩ := lookA_run (s := s3.seen 3) (a := a1) (cap := c1) rightF_ (cutW D) (by omega) (vx_keep W1 (Nat.le_refl _) (fun _ _ => rfl))
  have n4 : s4.next = 4 := hr4.next.trans e3
  have m4 : s4.mark = 0 := hr4.mark.trans e3m
  have hh4 : s4.heap = s3.heap := hr4.heap
  have y3 := cl_agg (β := ANext) tiC (by rw [dsC]; rfl) (by rw [szC]; rfl) M3 val
  apply gow_seq
  apply gow_seq
  apply gow_of hE hmix tolds_Wl
  have hRV : rightF_ (cutW D) = .bool (cutW D).right := rfl
  rw [hRV] at p4
  repeat apply go_seq
  apply go_region
  case h => intro m; simp (maxSteps := 2000000) (disch := decide) only [opsLoop, evOper, wantedA, nth, aop, aPick, aBin, aIndexAddr, aFieldAddr, aLoad, aStore, aExtract, aConvert, aAlloc, aBox, aIndex, callA, builtinA, Fr.evs, opt, val, when, AM.run, outV, newA, ptr, force_eq, seen_heap, seen_next, seen_mark, seen_seen, agg_cells, int_cells, Fr.ev, Fr.put, onFr, gps, gpn, bltT, still, flat, List.append_nil, List.nil_append, List.cons_append, Nat.reduceEqDiff, ne_eq, not_false_eq_true, reduceCtorEq, Bool.and_true, Bool.true_and, Bool.and_false, Bool.false_and, Bool.not_true, Bool.not_false, Bool.and_self, tyC, y3, tgWR, evT_told wlR, p4, u_not]; rfl
  refine ⟨by omega, ?_⟩
  show GoW _ _ _ _ _ _
  apply gow_of hE hmix tolds_Wl
  cases hr : (cutW D).right with
  | true =>
    repeat apply go_seq
    apply go_cond
    case hc => simp (disch := decide) only [opsLoop, evOper, wantedA, nth, aop, aPick, aBin, aIndexAddr, aFieldAddr, aLoad, aStore, aExtract, aConvert, aAlloc, aBox, aIndex, callA, builtinA, Fr.evs, opt, val, when, AM.run, outV, newA, ptr, force_eq, seen_heap, seen_next, seen_mark, seen_seen, agg_cells, int_cells, Fr.ev, Fr.put, onFr, gps, gpn, bltT, still, flat, List.append_nil, List.nil_append, List.cons_append, Nat.reduceEqDiff, ne_eq, not_false_eq_true, reduceCtorEq, Bool.and_true, Bool.true_and, Bool.and_false, Bool.false_and, Bool.not_true, Bool.not_false, Bool.and_self]; rfl
    case h1 => intro h; cases h
    intro _
    apply go_skip
    refine ⟨by omega, ?_⟩
    show GoW _ _ _ _ _ _
    have hD : theD D = cutW D := by unfold theD; rw [hr]
    refine hrest a1 c1 _ _ ⟨?_, ?_, ?_, ?_, n4, by omega, ?_, ?_, ?_, ?_, vx_lt V1, vx_lt V2, vx_lt V3⟩
    · simp (disch := decide) only [gps, gpn, hps]
    · simp (disch := decide) only [gps, gpn, hgs]
    · simp (disch := decide) only [gps, gpn, g3]
    · simp (disch := decide) only [gps, gpn]
    · rw [hD]; exact M3.of hh4 (by omega)
    · rw [hD]; exact vx_keep W1 (by omega) (fun m _ => by rw [hh4])
    · exact vx_keep W2 (by omega) (fun m _ => by rw [hh4])
    · exact vx_keep W3 (by omega) (fun m _ => by rw [hh4])
  | false =>
    have q4 : s4.heap.get 3 = some (.cells K3 9 27 .whole) := by rw [hh4]; exact q3
    have W2' : Vx s4 a2 (fcs (ps.take 6)) := vx_keep W2 (by omega) (fun m _ => by rw [hh4])
    have W3' : Vx s4 a3 (icsL (gs.take 6)) := vx_keep W3 (by omega) (fun m _ => by rw [hh4])
    have lt3 := vx_lt V2
    have lt4 := vx_lt V3
    clear p4 hr4 hh4 hw4
    obtain ⟨H4, N4, mk4, rd4, wr4⟩ := s4
    simp only at n4 m4 q4
    have st4 : ∀ rd wr, (storeA ⟨3, 0, none⟩ (zeroD.cells none 0) (AM.pure (ANext.value undefV))).run ⟨H4, N4, mk4, rd, wr⟩ = some (.value undefV, ⟨H4.put 3 (some (.cells (wrCells K3 0 (zeroD.cells none 0)) 9 27 .whole)), N4, mk4, bit mk4 3 rd, bit mk4 3 wr⟩) := fun rd wr => by
      rw [storeA_run (s := ⟨H4, N4, mk4, rd, wr⟩) _ rfl (by show 3 < N4; omega) b3 q4 (by show 0 + 9 ≤ 9; omega) (by omega)]
      rfl
    repeat apply go_seq
    apply go_cond
    case hc => simp (disch := decide) only [opsLoop, evOper, wantedA, nth, aop, aPick, aBin, aIndexAddr, aFieldAddr, aLoad, aStore, aExtract, aConvert, aAlloc, aBox, aIndex, callA, builtinA, Fr.evs, opt, val, when, AM.run, outV, newA, ptr, force_eq, seen_heap, seen_next, seen_mark, seen_seen, agg_cells, int_cells, Fr.ev, Fr.put, onFr, gps, gpn, bltT, still, flat, List.append_nil, List.nil_append, List.cons_append, Nat.reduceEqDiff, ne_eq, not_false_eq_true, reduceCtorEq, Bool.and_true, Bool.true_and, Bool.and_false, Bool.false_and, Bool.not_true, Bool.not_false, Bool.and_self]; rfl
    case h2 => intro h; cases h
    intro _
    repeat apply go_seq
    apply go_region
    case h => intro m; simp (maxSteps := 2000000) (disch := decide) only [opsLoop, evOper, wantedA, nth, aop, aPick, aBin, aIndexAddr, aFieldAddr, aLoad, aStore, aExtract, aConvert, aAlloc, aBox, aIndex, callA, builtinA, Fr.evs, opt, val, when, AM.run, outV, newA, ptr, force_eq, seen_heap, seen_next, seen_mark, seen_seen, agg_cells, int_cells, Fr.ev, Fr.put, onFr, gps, gpn, bltT, still, flat, List.append_nil, List.nil_append, List.cons_append, Nat.reduceEqDiff, ne_eq, not_false_eq_true, reduceCtorEq, Bool.and_true, Bool.true_and, Bool.and_false, Bool.false_and, Bool.not_true, Bool.not_false, Bool.and_self, build_zeroC, tyC, szC, show Nat.beq (zeroD.cells none 0).length 9 = true from rfl, st4]; rfl
    generalize hs5 : S.mk _ _ _ _ _ = s5
    have e5 : s5.next = 4 := by rw [← hs5]; exact n4
    have e5m : s5.mark = 0 := by rw [← hs5]; exact m4
    have e5h : s5.heap = H4.put 3 (some (.cells (wrCells K3 0 (zeroD.cells none 0)) 9 27 .whole)) := by rw [← hs5]
    clear hs5 st4
    refine ⟨by omega, ?_⟩
    show GoW _ _ _ _ _ _
    have hD : theD D = zeroD := by unfold theD; rw [hr]
    rw [hD] at hrest
    refine hrest none 0 _ _ ⟨?_, ?_, ?_, ?_, e5, by omega, ?_, rfl, ?_, ?_, (fun _ h => by cases h), vx_lt V2, vx_lt V3⟩
    · simp (disch := decide) only [gps, gpn, hps]
    · simp (disch := decide) only [gps, gpn, hgs]
    · simp (disch := decide) only [gps, gpn, g3]
    · simp (disch := decide) only [gps, gpn]
    · exact ⟨by omega, _, 9, .inl ⟨_, _, by rw [e5h]; exact hg_same b3 _ _⟩, by show 0 + 9 ≤ 9; omega, row_wr (by unfold Tr.wide; show 0 + 9 ≤ _; omega)⟩
    · cases a2 with
      | none => exact W2'
      | some ad => exact ⟨W2'.1, W2'.2.keep (by show N4 ≤ _; omega) (by rw [e5h]; have h := lt3 ad rfl; exact hg_far b3 (by have : ad.block < 3 := h; omega) _ _)⟩
    · cases a3 with
      | none => exact W3'
      | some ad => exact ⟨W3'.1, W3'.2.keep (by show N4 ≤ _; omega) (by rw [e5h]; have h := lt4 ad rfl; exact hg_far b3 (by have : ad.block < 3 := h; omega) _ _)⟩
end Go.Proofs.YtgofanjbhbeniaaDoor.lf
end
end
