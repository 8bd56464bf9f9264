/- Any catalog, any leaf, its own with a byte turned among them: catalog says what the document says: at all catalogs, leaves, places and turns. -/
import Derived.Test.YtgofanjbhbeniaaDoorPRowCatalogTells8
import Derived.Test.YtgofanjbhbeniaaDoorRows
import Derived.Test.YtgofanjbhbeniaaDoorAe24
import Derived.ChangeArms
import Derived.ChangeReads
import Derived.ChangeShapes
import Derived.RowKit
import Derived.Deep.Slices
import Derived.Deep.Fields
import Derived.ChangeSame
import Derived.OpenShut
import Derived.ProofKit
import Derived.Test.YtgofanjbhbeniaaDoorCards
import Derived.Test.YtgofanjbhbeniaaDoorTie
import Derived.WalkKit
import Derived.ShutString
import Derived.ChangeOld
import Derived.Below
import Derived.LaidMore
import Derived.Lay
import Derived.SevenTiedAt
import Derived.Stop.Joined
section
/- Chapter 6's runs, evaluated over the named memory. -/
namespace Go.Proofs.YtgofanjbhbeniaaDoor

theorem catalogRuns_lawful : AE.lawful Tryd.prog = true := by kernel_rfl
set_option maxRecDepth 100000 in
set_option maxHeartbeats 100000000 in
theorem catalogRuns_run : AE.isTrue (AE.ev (AE.Env.of Tryd.prog) 100000 (.next (.enter 17 [])) AE.s0) = true := by kernel_rfl
theorem catalogRuns_any (w0 : World) : Calls Tryd.prog 17 #[] w0 fun e w' => e = .returned (.bool true) ∧ Go.RowKit.Below w0.heap.size w0 w' :=
  AE.calls_true catalogRuns_lawful (Checked.mixed Tryd.checked) catalogRuns_run w0
end Go.Proofs.YtgofanjbhbeniaaDoor
end

section
/- Catalogs come back: the statement's first steps. -/
noncomputable section
namespace Go.Proofs.YtgofanjbhbeniaaDoor.lf
open AE
set_option linter.unusedSimpArgs false
set_option linter.unusedVariables false
set_option maxRecDepth 10000

theorem tgGC : ∀ a b, targetA E (.func 9) a b = .pure (.enter 9 (b ++ a)) := tgt (fi := fiGC) (c := cdGC) (by kernel_rfl) (by kernel_rfl)
theorem tgCs : ∀ a b, targetA E (.func 16) a b = .pure (.enter 16 (b ++ a)) := tgt (fi := fiCs) (c := cdCs) (by kernel_rfl) (by kernel_rfl)
theorem tgCX : ∀ a b, targetA E (.func 17) a b = .pure (.enter 17 (b ++ a)) := tgt (fi := FI.of Tryd.f17) (c := bodyOf Tryd.f17) (by kernel_rfl) (by kernel_rfl)
theorem cxRun (s : S) : (constA (.bool true) []).run s = some (.bool true, s) := rfl

theorem lookA_at {H : Tr AObj} {N mk rd wr : Nat} {a : Option Addr} {cap : Nat} (F : CatD → Value) (D : CatD) (hl : D.files.length ≤ 10000) (hv : Vx ⟨H, N, 0, 0, 0⟩ a (fcs D.files)) : ∃ rd', (lookA F [.agg ⟨D.cells a cap⟩]).run ⟨H, N, mk, rd, wr⟩ = some (F D, ⟨H, N, mk, rd', wr⟩) := by
  obtain ⟨s1, e1, hr, hw⟩ := lookA_run (s := ⟨H, N, mk, rd, wr⟩) (a := a) (cap := cap) F D hl (hv.keep (Nat.le_refl _) (fun _ _ => rfl))
  obtain ⟨H1, N1, mk1, rd1, wr1⟩ := s1
  have h1 : H1 = H := hr.heap
  have h2 : N1 = N := hr.next
  have h3 : mk1 = mk := hr.mark
  have h4 : wr1 = wr := hw
  subst h1; subst h2; subst h3; subst h4
  exact ⟨rd1, e1⟩
/-- a list that is handed in may be cut -/
def CutOK (a : Option Addr) (n cap : Nat) : Prop := (a = none ∧ n = 0 ∧ cap = 0) ∨ (∃ b, a = some ⟨b, 0, none⟩ ∧ ((Nat.ble OPEN cap = false ∧ n ≤ cap) ∨ ∃ c, Nat.ble OPEN cap = true ∧ Nat.sub cap OPEN = c ∧ Nat.add OPEN c = cap ∧ 0 < c ∧ n ≤ c))
theorem sub0 (k : Nat) : Nat.sub k 0 = k := rfl
theorem slc_nil (s : S) : (sliceA 4 none 0 0 0 none).run s = some (.value (.slice none 0 0), s) := by
  simp only [sliceA, show Nat.ble OPEN 0 = false from rfl, sliceE, when, show Nat.ble 0 0 = true from rfl, Bool.and_self, val, AM.run]
theorem slc_all {b cap m : Nat} (hb : Nat.ble OPEN cap = false) (h2 : Nat.ble m cap = true) (h0 : Nat.ble 0 m = true) (s : S) : (sliceA 4 (some ⟨b, 0, none⟩) cap 0 m none).run s = some (.value (.slice (some ⟨b, 0, none⟩) m cap), s) := by
  have had : addIf ⟨b, 0, none⟩ cap 0 4 = ⟨b, 0, none⟩ := by
    unfold addIf
    split <;> rfl
  simp only [sliceA, hb, sliceE, when, h2, h0, Bool.and_self, val, AM.run, had, sub0]
theorem slc_open {b cap m c : Nat} (hb : Nat.ble OPEN cap = true) (hs : Nat.sub cap OPEN = c) (hadd : Nat.add OPEN c = cap) (hq : Nat.beq c 0 = false) (h2 : Nat.ble m c = true) (h0 : Nat.ble 0 m = true) (s : S) : (sliceA 4 (some ⟨b, 0, none⟩) cap 0 m none).run s = some (.value (.slice (some ⟨b, 0, none⟩) m cap), s) := by
  have had : addA ⟨b, 0, none⟩ (Nat.mul 0 4) = ⟨b, 0, none⟩ := rfl
  have e1 : sliceA 4 (some ⟨b, 0, none⟩) cap 0 m none = sliceO 4 ⟨b, 0, none⟩ c 0 m := by
    unfold sliceA
    simp only [hb, hs]
  rw [e1]
  unfold sliceO
  simp only [when, h2, h0, Bool.and_self, hq, val, AM.run, sub0, hadd, had]
theorem slc_run {a : Option Addr} {n cap m : Nat} (h : CutOK a n cap) (hm : m ≤ n) : ∀ s, (sliceA 4 a cap 0 m none).run s = some (.value (.slice a m cap), s) := by
  intro s
  have h0 : Nat.ble 0 m = true := ble_iff.2 (Nat.zero_le _)
  rcases h with ⟨rfl, rfl, rfl⟩ | ⟨b, rfl, h⟩
  · obtain rfl : m = 0 := by omega
    exact slc_nil s
  · rcases h with ⟨hb, h2⟩ | ⟨c, hb, hs, hadd, h1, h2⟩
    · exact slc_all hb (ble_iff.2 (by omega)) h0 s
    · exact slc_open hb hs hadd (by
        cases hh : Nat.beq c 0 with
        | false => rfl
        | true => have := beq_iff.1 hh; omega) (ble_iff.2 (by omega)) h0 s
theorem min_run (n : Nat) : minMax false [.int .i64 (.ofNat n), .int .i64 16] = some (.int .i64 (.ofNat (min n 16))) := by
  show minMax.go false .i64 (.ofNat n) [.int .i64 16] = _
  show some (Value.int .i64 (match ltI 16 (Int.ofNat n) with | true => 16 | false => Int.ofNat n)) = _
  have e : ltI 16 (Int.ofNat n) = decide (16 < n) := by
    rw [ltI_eq]
    have : (16 : Int) < Int.ofNat n ↔ 16 < n := by show (16 : Int) < (n : Int) ↔ _; omega
    simp only [this]
  rw [e]
  by_cases h : 16 < n
  · rw [decide_eq_true h, Nat.min_eq_right (by omega)]; rfl
  · rw [decide_eq_false h, Nat.min_eq_left (by omega)]
def cutD (D : CatD) : CatD := { D with files := D.files.take 16 }
theorem fcs_take : ∀ (l : List FileD) (k : Nat), fcs (l.take k) = (fcs l).take (4 * k)
  | [], k => by simp [fcs]
  | f :: l, 0 => rfl
  | f :: l, k + 1 => by
    rw [show 4 * (k + 1) = 4 * k + 4 by omega]
    show f.cells ++ fcs (l.take k) = (f.cells ++ fcs l).take (4 * k + 4)
    rw [fcs_take l k]
    rfl
theorem cutD_cells (D : CatD) (a : Option Addr) (cap : Nat) : (D.cells a cap).set 8 (.slice a (min D.files.length 16) cap) = (cutD D).cells a cap := by
  show _ = [_, _, _, _, _, _, _, _, Value.slice a (D.files.take 16).length cap]
  rw [List.length_take, Nat.min_comm]
  rfl
theorem cut_len (D : CatD) : (cutD D).files.length ≤ 16 := by
  show (D.files.take 16).length ≤ 16
  rw [List.length_take]; omega
theorem clash_zero (b : Nat) : ∀ seen, clash 0 0 b seen = false
  | [] => rfl
  | (i, r, w) :: l => by
    have h1 : Nat.lor (Nat.land w (Nat.lor 0 0)) (Nat.land r 0) = 0 := by
      show (w &&& (0 ||| 0)) ||| (r &&& 0) = 0
      simp
    simp only [clash, h1]
    exact clash_zero b l
/-- ahead of the first question -/
structure BackAt (A B : CatD) (a1 a2 : Option Addr) (c1 c2 : Nat) (t : Tr Value) (s : S) : Prop where
  t2 : t.get 2 = some (.pointer (some ⟨2, 0, none⟩))
  t3 : t.get 3 = some (.pointer (some ⟨3, 0, none⟩))
  t5 : t.get 5 = some (.pointer (some ⟨4, 0, none⟩))
  t6 : t.get 6 = some (.pointer (some ⟨5, 0, none⟩))
  next : s.next = 6
  A2 : Cl s 2 0 (A.cells a1 c1)
  B3 : Cl s 3 0 (B.cells a2 c2)
  P4 : Cl s 4 0 (putD A)
  Q5 : Cl s 5 0 (putD B)
  VA : Vx s a1 (fcs A.files)
  VB : Vx s a2 (fcs B.files)
theorem putD_len (D : CatD) : (putD D).length = 121 := by
  unfold putD
  cases h : D.right with
  | true => exact putV_len D (right_len h)
  | false => exact zeroL.len zero_len
theorem putD_one (D : CatD) : allOne (putD D) = true := by
  have hi : ∀ l, Ints l → allOne l = true := by
    intro l
    induction l with
    | nil => intro _; rfl
    | cons v l ih =>
      intro h
      obtain ⟨k, n, rfl⟩ := h v (by simp)
      simp only [allOne, oneB, ih (fun u hu => h u (by simp [hu]))]
  refine hi _ ?_
  unfold putD
  split
  · exact ints_put D
  · exact ints_zeroL
end Go.Proofs.YtgofanjbhbeniaaDoor.lf
end
end

section
/- Catalogs come back: when one of the two may not be. -/
noncomputable section
namespace Go.Proofs.YtgofanjbhbeniaaDoor.lf
open AE
set_option linter.unusedSimpArgs false
set_option linter.unusedVariables false
set_option maxRecDepth 10000

end Go.Proofs.YtgofanjbhbeniaaDoor.lf
end
end

section
/- Catalogs come back: when both may be. -/
noncomputable section
namespace Go.Proofs.YtgofanjbhbeniaaDoor.lf
open AE
set_option linter.unusedSimpArgs false
set_option linter.unusedVariables false
set_option maxRecDepth 10000

theorem catsA_at {H : Tr AObj} {N mk rd wr : Nat} {a a2 : Option Addr} {cap cap2 : Nat} (D D2 : CatD) (hmk : mk ≤ N) (hN : N ≤ 90000) (hl : D.files.length ≤ 1000000) (hl2 : D2.files.length ≤ 1000000) (hv : Vx ⟨H, N, 0, 0, 0⟩ a (fcs D.files)) (hv2 : Vx ⟨H, N, 0, 0, 0⟩ a2 (fcs D2.files)) :
    ∃ H' rd', (catsA [.agg ⟨D.cells a cap⟩, .agg ⟨D2.cells a2 cap2⟩]).run ⟨H, N, mk, rd, wr⟩ = some (.bool (decide (D = D2)), ⟨H', N + 2, mk, rd', wr⟩) ∧ ∀ m, m < N → H'.get m = H.get m := by
  obtain ⟨s1, e1, r1, w1⟩ := rdV_run (s := ⟨H, N, mk, rd, wr⟩) (hv.keep (Nat.le_refl _) (fun _ _ => rfl)) (fun cs => rdV a2 (4 * D2.files.length) fun cs2 => opt (filesOf cs) fun fs => opt (filesOf cs2) fun fs2 => bump 2 (.pure (Value.bool (decide ((⟨D.gen, D.step, D.status, D.ended, D.from_, D.to_, D.budget, D.fan, fs⟩ : CatD) = ⟨D2.gen, D2.step, D2.status, D2.ended, D2.from_, D2.to_, D2.budget, D2.fan, fs2⟩)))))
  rw [fcs_len] at e1
  obtain ⟨s2, e2, r2, w2⟩ := rdV_run (s := s1) (hv2.keep (by rw [r1.next]; exact Nat.le_refl _) (fun _ _ => by rw [r1.heap])) (fun cs2 => opt (filesOf (fcs D.files)) fun fs => opt (filesOf cs2) fun fs2 => bump 2 (.pure (Value.bool (decide ((⟨D.gen, D.step, D.status, D.ended, D.from_, D.to_, D.budget, D.fan, fs⟩ : CatD) = ⟨D2.gen, D2.step, D2.status, D2.ended, D2.from_, D2.to_, D2.budget, D2.fan, fs2⟩)))))
  rw [fcs_len, filesOf_fcs, filesOf_fcs] at e2
  have hr := r1.trans r2
  have k1 : s2.next = N := hr.next
  have k2 : s2.mark = mk := hr.mark
  have k3 : s2.heap = H := hr.heap
  have k4 : s2.wr = wr := by rw [w2, w1]
  obtain ⟨s3, e3, n3, m3, q3, w3, h3⟩ := bump_ok' 2 (AM.pure (Value.bool (decide (D = D2)))) s2 (by omega) (fun i hi => bl9 (by omega))
  obtain ⟨H3, N3, mk3, rd3, wr3⟩ := s3
  simp only at n3 m3 q3 w3 h3
  have a1 : N3 = N + 2 := by omega
  have a2' : mk3 = mk := by omega
  have a3 : wr3 = wr := by omega
  subst a1; subst a2'; subst a3
  refine ⟨H3, rd3, ?_, fun m hm => by rw [h3, if_neg (by omega), k3]⟩
  show (when (Nat.ble D.files.length 1000000 && Nat.ble D2.files.length 1000000) (rdV a (4 * D.files.length) _)).run _ = _
  rw [ble_iff.2 hl, ble_iff.2 hl2, Bool.and_self, show ∀ k : AM Value, when true k = k from fun _ => rfl, e1, filesOf_fcs, e2]
  exact e3
end Go.Proofs.YtgofanjbhbeniaaDoor.lf
end
end

section
/- Catalogs and any leaf: the statement's first steps. -/
noncomputable section
namespace Go.Proofs.YtgofanjbhbeniaaDoor.lf
open AE
set_option linter.unusedSimpArgs false
set_option linter.unusedVariables false
set_option maxRecDepth 10000

noncomputable def fiTl : FI := FI.of Tryd.f3
noncomputable def cdTl : Code := bodyOf Tryd.f3
theorem resTl : fiTl.results = [.tmp 10] := rfl
theorem told_getX1 : AE.Told Tryd.prog 9 getXA := told_getX (fi := fiGC) (c := cdGC) (N := 114) (by kernel_rfl) (by kernel_rfl) rfl rfl tolds_G1 runs_G1
theorem told_getX2 : AE.Told Tryd.prog 10 getXA := told_getX (fi := fiGR) (c := cdGR) (N := 127) (by kernel_rfl) (by kernel_rfl) rfl rfl tolds_GR runs_GR
abbrev sigTl : List (Nat × (List Value → AM Value)) := [(7, lookA putF_), (8, withinBA), (9, getXA), (10, getXA), (11, rightKN), (12, rightKN), (13, lookA rightF_),
  (14, rightXN), (15, putXA), (16, catsA), (17, constA (.bool true))]
theorem tolds_Tl : Tolds Tryd.prog (sumsOf sigTl) := tolds_cons told_putE (tolds_cons told_withinB (tolds_cons told_getX1 (tolds_cons told_getX2 (tolds_cons (told_KN told_rightK) (tolds_cons (told_KN told_rightKR) (tolds_cons told_rightE (tolds_cons told_rightX (tolds_cons told_putX2 (tolds_cons told_cats (tolds_cons (told_of_calls rfl catalogRuns_any) tolds_nil))))))))))
theorem tlP : sumsOf sigTl 7 = some (lookA putF_) := rfl
theorem tlW : sumsOf sigTl 8 = some withinBA := rfl
theorem tlG : sumsOf sigTl 9 = some getXA := rfl
theorem tlG2 : sumsOf sigTl 10 = some getXA := rfl
theorem tlK : sumsOf sigTl 11 = some rightKN := rfl
theorem tlK2 : sumsOf sigTl 12 = some rightKN := rfl
theorem tlR : sumsOf sigTl 13 = some (lookA rightF_) := rfl
theorem tlR2 : sumsOf sigTl 14 = some rightXN := rfl
theorem tlP2 : sumsOf sigTl 15 = some putXA := rfl
theorem tlC : sumsOf sigTl 16 = some catsA := rfl
theorem tlX : sumsOf sigTl 17 = some (constA (.bool true)) := rfl
theorem tgG2 : ∀ a b, targetA E (.func 10) a b = .pure (.enter 10 (b ++ a)) := tgt (fi := fiGR) (c := cdGR) (by kernel_rfl) (by kernel_rfl)
theorem tgR2 : ∀ a b, targetA E (.func 14) a b = .pure (.enter 14 (b ++ a)) := tgt (fi := fiRC) (c := cdRC) (by kernel_rfl) (by kernel_rfl)
theorem tgP2 : ∀ a b, targetA E (.func 15) a b = .pure (.enter 15 (b ++ a)) := tgt (fi := fiPC) (c := cdPC) (by kernel_rfl) (by kernel_rfl)

/-- ahead of the question whose leaf it is -/
structure TlAt (A : CatD) (d : LeafD) (at_ : Int) (x : UInt8) (own : Bool) (a : Option Addr) (cap : Nat) (t : Tr Value) (s : S) : Prop where
  t2 : t.get 2 = some (.int .i64 at_)
  t3 : t.get 3 = some (bv x)
  t4 : t.get 4 = some (.bool own)
  t5 : t.get 5 = some (.pointer (some ⟨2, 0, none⟩))
  t6 : t.get 6 = some (.pointer (some ⟨3, 0, none⟩))
  t11 : t.get 11 = some (.pointer (some ⟨4, 0, none⟩))
  next : s.next = 5
  A2 : Cl s 2 0 (A.cells a cap)
  L3 : ∃ c, s.heap.get 3 = some (.cells c 121 30 .whole) ∧ Row c 0 d.cells
  P4 : Cl s 4 0 (putD A)
  VA : Vx s a (fcs A.files)
  lo : ∀ ad, a = some ad → ad.block < 2
theorem chTl : cdTl = .seq (sub [0] cdTl) (.seq (sub [1,0] cdTl) (.seq (sub [1,1,0] cdTl) (sub [1,1,1] cdTl))) := rfl
set_option maxHeartbeats 4000000 in
theorem tl_start (q : Free) (hq : 100000 ≤ q.hi) (D : CatD) (d : LeafD) (hd : d.load.length = 116) (at_ : Int) (x : UInt8) (own : Bool) (a : Option Addr) (cap : Nat) (sI : S) (hn : sI.next ≤ 2) (hV : Vx sI a (fcs (cutD D).files)) (h1 : CutOK a D.files.length cap)
    (Q : Ex → Fr → S → Prop) (hrest : ∀ t s, TlAt (cutD D) d at_ x own a cap t s → GoW Tryd.prog q (sub [1,1,1] cdTl) ⟨3, t, 80, [], none⟩ s Q) :
    GoW Tryd.prog q cdTl ⟨3, Tr.ofList [.agg ⟨D.cells a cap⟩, .agg ⟨d.cells⟩, .int .i64 at_, bv x, .bool own], 80, [], none⟩ sI Q := by
  refine gow_less (fr2 := ⟨3, Tr.ofList [.agg ⟨D.cells a cap⟩, .agg ⟨d.cells⟩, .int .i64 at_, bv x, .bool own], 80, [], none⟩) (s2 := ⟨sI.heap, 2, 0, 0, 0⟩) ?_ ⟨hn, fun m o ho => ⟨o, ho, .refl o⟩⟩ (Nat.zero_le _) ⟨rfl, rfl, rfl, rfl, fun _ _ h => h⟩
  have hV : Vx ⟨sI.heap, 2, 0, 0, 0⟩ a (fcs (cutD D).files) := hV.keep hn (fun _ _ => rfl)
  generalize hHI : sI.heap = HI at *
  rw [chTl]
  generalize hre : sub [1,1,1] cdTl = re at *
  simp only [cdTl, Tryd.f3, bodyOf, sub]
  have g0 : (Tr.ofList [Value.agg ⟨D.cells a cap⟩, .agg ⟨d.cells⟩, .int .i64 at_, bv x, .bool own]).get 0 = some (.agg ⟨D.cells a cap⟩) := rfl
  have g1 : (Tr.ofList [Value.agg ⟨D.cells a cap⟩, .agg ⟨d.cells⟩, .int .i64 at_, bv x, .bool own]).get 1 = some (.agg ⟨d.cells⟩) := rfl
  have g2 : (Tr.ofList [Value.agg ⟨D.cells a cap⟩, .agg ⟨d.cells⟩, .int .i64 at_, bv x, .bool own]).get 2 = some (.int .i64 at_) := rfl
  have g3 : (Tr.ofList [Value.agg ⟨D.cells a cap⟩, .agg ⟨d.cells⟩, .int .i64 at_, bv x, .bool own]).get 3 = some (bv x) := rfl
  have g4 : (Tr.ofList [Value.agg ⟨D.cells a cap⟩, .agg ⟨d.cells⟩, .int .i64 at_, bv x, .bool own]).get 4 = some (.bool own) := rfl
  generalize Tr.ofList [Value.agg ⟨D.cells a cap⟩, .agg ⟨d.cells⟩, .int .i64 at_, bv x, .bool own] = t at *
  have b2 : Nat.ble 2 lastName = true := rfl
  have b3 : Nat.ble 3 lastName = true := rfl
  have b4 : Nat.ble 4 lastName = true := rfl
  have hdl := d.len hd
  apply gow_seq
  apply gow_of hE hmix tolds_Tl
  repeat apply go_seq
  apply go_region
  case h => intro m; simp (maxSteps := 2000000) (disch := decide) only [opsLoop, evOper, wantedA, nth, aop, aPick, aBin, aIndexAddr, aFieldAddr, aLoad, aStore, aExtract, aConvert, aAlloc, aBox, aIndex, callA, builtinA, Fr.evs, opt, val, when, AM.run, outV, newA, ptr, force_eq, seen_heap, seen_next, seen_mark, seen_seen, agg_cells, int_cells, Fr.ev, Fr.put, onFr, gps, gpn, bltT, still, flat, List.append_nil, List.nil_append, List.cons_append, Nat.reduceEqDiff, ne_eq, not_false_eq_true, reduceCtorEq, Bool.and_true, Bool.true_and, Bool.and_false, Bool.false_and, Bool.not_true, Bool.not_false, Bool.and_self, g0, g1, tyC, b2, show Nat.ble (Nat.succ 2) lastName = true from rfl, show Nat.ble (D.cells a cap).length lastName = true from rfl, show Nat.ble d.cells.length lastName = true by rw [hdl]; rfl]; rfl
  refine ⟨by show 4 ≤ q.hi; omega, ?_⟩
  show GoW _ _ _ _ _ _
  generalize hs1 : S.mk _ _ _ _ _ = s2
  have e1 : s2.next = 4 := by rw [← hs1]
  have e1h : s2.heap = (HI.put 2 (some (.cells (Tr.ofList (D.cells a cap)) 9 27 .whole))).put 3 (some (.cells (Tr.ofList d.cells) 121 30 .whole)) := by rw [← hs1, ← hdl]; rfl
  clear hs1
  have o2 : s2.heap.get 2 = some (.cells (Tr.ofList (D.cells a cap)) 9 27 .whole) := by rw [e1h, hg_far b3 (by omega)]; exact hg_same b2 _ _
  have o3 : s2.heap.get 3 = some (.cells (Tr.ofList d.cells) 121 30 .whole) := by rw [e1h]; exact hg_same b3 _ _
  have old : ∀ m, m < 2 → s2.heap.get m = HI.get m := fun m hm => by rw [e1h, hg_far b3 (by omega), hg_far b2 (by omega)]
  clear e1h
  obtain ⟨H, N, mk, rd, wr⟩ := s2
  simp only at e1 o2 o3 old
  subst e1
  have L2 : Cl ⟨H, 4, mk, 0, 0⟩ 2 0 (D.cells a cap) := ⟨by show 2 < 4; omega, _, _, .inl ⟨_, _, o2⟩, by show 0 + 9 ≤ 9; omega, row_ofList _ (by show 9 ≤ _; unfold Tr.wide; omega)⟩
  have x2 := L2.ld (k := 8) tiFs (by rw [dsFs]; rfl) rfl
  simp only [Nat.zero_add] at x2
  have ad2 : addA ⟨2, 0, none⟩ 8 = ⟨2, 8, none⟩ := rfl
  have mn1 := min_run D.files.length
  have sc1 := slc_run h1 (Nat.min_le_left D.files.length 16)
  generalize hK2 : wrCells (Tr.ofList (D.cells a cap)) 8 [Value.slice a (min D.files.length 16) cap] = K2
  have st2 : ∀ rd wr, (storeA ⟨2, 8, none⟩ [.slice a (min D.files.length 16) cap] (AM.pure (ANext.value undefV))).run ⟨H, 4, mk, rd, wr⟩ = some (.value undefV, ⟨H.put 2 (some (.cells K2 9 27 .whole)), 4, mk, bit mk 2 rd, bit mk 2 wr⟩) := fun rd wr => by
    rw [storeA_run (s := ⟨H, 4, mk, rd, wr⟩) _ rfl (by show 2 < 4; omega) b2 o2 (by show 8 + 1 ≤ 9; omega) (by omega), hK2]
    rfl
  have rK2 : Row K2 0 ((cutD D).cells a cap) := by
    rw [← hK2, ← cutD_cells]
    exact row_set (row_ofList _ (by show 9 ≤ _; unfold Tr.wide; omega)) (by omega)
  have i16 : intOf? (.int .i64 (.ofNat (min D.files.length 16))) = some (min D.files.length 16) := rfl
  apply gow_seq
  apply gow_of hE hmix tolds_Tl
  repeat apply go_seq
  apply go_region
  case h => intro m; simp (maxSteps := 2000000) (disch := decide) only [opsLoop, evOper, wantedA, nth, aop, aPick, aBin, aIndexAddr, aFieldAddr, aLoad, aStore, aExtract, aConvert, aAlloc, aBox, aIndex, callA, builtinA, Fr.evs, opt, val, when, AM.run, outV, newA, ptr, force_eq, seen_heap, seen_next, seen_mark, seen_seen, agg_cells, int_cells, Fr.ev, Fr.put, onFr, gps, gpn, bltT, still, flat, List.append_nil, List.nil_append, List.cons_append, Nat.reduceEqDiff, ne_eq, not_false_eq_true, reduceCtorEq, Bool.and_true, Bool.true_and, Bool.and_false, Bool.false_and, Bool.not_true, Bool.not_false, Bool.and_self, tyC, dsC, flC5, ftC5, foC5, tyFs, dsFs, szFs, ble11, ad2, x2, mn1, aSlice, lowHigh, i16, tyF, szF, sc1, sl_cells, builtinA, show Nat.beq ([Value.slice a (min D.files.length 16) cap] : List Value).length 1 = true from rfl, st2]; rfl
  refine ⟨by show 4 ≤ q.hi; omega, ?_⟩
  show GoW _ _ _ _ _ _
  generalize hs3 : S.mk _ _ _ _ _ = s3
  have e3 : s3.next = 4 := by rw [← hs3]
  have e3h : s3.heap = H.put 2 (some (.cells K2 9 27 .whole)) := by rw [← hs3]
  clear hs3
  have q2 : s3.heap.get 2 = some (.cells K2 9 27 .whole) := by rw [e3h]; exact hg_same b2 _ _
  have q3 : s3.heap.get 3 = some (.cells (Tr.ofList d.cells) 121 30 .whole) := by rw [e3h, hg_far b2 (by omega)]; exact o3
  have qo : ∀ m, m < 2 → s3.heap.get m = HI.get m := fun m hm => by rw [e3h, hg_far b2 (by omega)]; exact old m hm
  clear e3h
  have low : ∀ (s' : S), 2 ≤ s'.next → (∀ m, m < 2 → s'.heap.get m = HI.get m) → Vx s' a (fcs (cutD D).files) := fun s' hn hg => Vx.keep (s := ⟨HI, 2, 0, 0, 0⟩) hV hn hg
  obtain ⟨H3, N3, mk3, rd3, wr3⟩ := s3
  simp only at e3 q2 q3 qo
  subst e3
  have M2 : Cl ⟨H3, 4, mk3, 0, 0⟩ 2 0 ((cutD D).cells a cap) := ⟨by show 2 < 4; omega, _, _, .inl ⟨_, _, q2⟩, by show 0 + 9 ≤ 9; omega, rK2⟩
  have y2 := M2.ldA (β := ANext) tiC (by rw [dsC]; rfl) (by rw [szC]; rfl)
  have hl1 := cut_len D
  obtain ⟨rp1, p1⟩ : ∃ rp : Nat → Nat → Nat, ∀ rd wr, (lookA putF_ [.agg ⟨(cutD D).cells a cap⟩]).run ⟨H3, 4, mk3, rd, wr⟩ = some (putF_ (cutD D), ⟨H3, 4, mk3, rp rd wr, wr⟩) :=
    ⟨fun rd wr => Classical.choose (lookA_at (H := H3) (N := 4) (mk := mk3) (rd := rd) (wr := wr) (a := a) (cap := cap) putF_ (cutD D) (by omega) (low ⟨H3, 4, 0, 0, 0⟩ (by show 2 ≤ 4; omega) qo)),
     fun rd wr => Classical.choose_spec (lookA_at (H := H3) (N := 4) (mk := mk3) (rd := rd) (wr := wr) (a := a) (cap := cap) putF_ (cutD D) (by omega) (low ⟨H3, 4, 0, 0, 0⟩ (by show 2 ≤ 4; omega) qo))⟩
  have hf1 : putF_ (cutD D) = .agg ⟨putD (cutD D)⟩ := rfl
  rw [hf1] at p1
  have hzb : Nat.ble zeroL.cells.length lastName = true := by rw [zeroL.len zero_len]; rfl
  have hz : zeroL.cells.length = 121 := zeroL.len zero_len
  have hpl1 : Nat.beq (putD (cutD D)).length 121 = true := by rw [putD_len]; rfl
  generalize hH5 : H3.put 4 (some (.cells (Tr.ofList zeroL.cells) zeroL.cells.length 30 .whole)) = H5
  have z4 : H5.get 4 = some (.cells (Tr.ofList zeroL.cells) 121 30 .whole) := by rw [← hH5, hg_same b4, hz]
  generalize hZ1 : wrCells (Tr.ofList zeroL.cells) 0 (putD (cutD D)) = Z1
  have st4 : ∀ rd wr, (storeA ⟨4, 0, none⟩ (putD (cutD D)) (AM.pure (ANext.value undefV))).run ⟨H5, Nat.succ 4, mk3, rd, wr⟩ = some (.value undefV, ⟨H5.put 4 (some (.cells Z1 121 30 .whole)), Nat.succ 4, mk3, bit mk3 4 rd, bit mk3 4 wr⟩) := fun rd wr => by
    rw [storeA_run (s := ⟨H5, Nat.succ 4, mk3, rd, wr⟩) _ (putD_one _) (by show 4 < 5; omega) b4 z4 (by rw [putD_len]; omega) (by omega), hZ1]
    rfl
  have hh : ∀ m, m < 4 → (H5.put 4 (some (.cells Z1 121 30 .whole))).get m = H3.get m := fun m hm => by
    rw [hg_far b4 (by omega), ← hH5, hg_far b4 (by omega)]
  apply gow_seq
  apply gow_of hE hmix tolds_Tl
  repeat apply go_seq
  apply go_region
  case h => intro m; simp (maxSteps := 2000000) (disch := decide) only [opsLoop, evOper, wantedA, nth, aop, aPick, aBin, aIndexAddr, aFieldAddr, aLoad, aStore, aExtract, aConvert, aAlloc, aBox, aIndex, callA, builtinA, Fr.evs, opt, val, when, AM.run, outV, newA, ptr, force_eq, seen_heap, seen_next, seen_mark, seen_seen, agg_cells, int_cells, Fr.ev, Fr.put, onFr, gps, gpn, bltT, still, flat, List.append_nil, List.nil_append, List.cons_append, Nat.reduceEqDiff, ne_eq, not_false_eq_true, reduceCtorEq, Bool.and_true, Bool.true_and, Bool.and_false, Bool.false_and, Bool.not_true, Bool.not_false, Bool.and_self, tyC, y2, tgPC, evT_told tlP, p1, tyLf, zeLf, hzb, b4, hH5, szLf, hpl1, st4]; rfl
  refine ⟨by show 5 ≤ q.hi; omega, ?_⟩
  show GoW _ _ _ _ _ _
  refine hrest _ _ ⟨?_, ?_, ?_, ?_, ?_, ?_, rfl, ?_, ?_, ?_, ?_, fun ad h => by subst h; exact hV.2.lt⟩
  · simp (disch := decide) only [gps, gpn, g2]
  · simp (disch := decide) only [gps, gpn, g3]
  · simp (disch := decide) only [gps, gpn, g4]
  · simp (disch := decide) only [gps, gpn]
  · simp (disch := decide) only [gps, gpn]
  · simp (disch := decide) only [gps, gpn]
  · exact M2.keep (by show 4 ≤ 5; omega) (hh 2 (by omega))
  · exact ⟨_, (hh 3 (by omega)).trans q3, row_ofList _ (by rw [hdl]; unfold Tr.wide; omega)⟩
  · refine ⟨by show 4 < 5; omega, Z1, 121, .inl ⟨30, .whole, hg_same b4 _ _⟩, by rw [putD_len]; exact Nat.le_refl 121, ?_⟩
    rw [← hZ1]; exact row_wr (by rw [putD_len]; unfold Tr.wide; omega)
  · exact low _ (by show 2 ≤ 5; omega) (fun m hm => (hh m (by omega)).trans (qo m hm))
end Go.Proofs.YtgofanjbhbeniaaDoor.lf
end
end

section
/- Catalogs and any leaf: the statement's own leaf, a byte of it turned. -/
noncomputable section
namespace Go.Proofs.YtgofanjbhbeniaaDoor.lf
open AE
set_option linter.unusedSimpArgs false
set_option linter.unusedVariables false
set_option maxRecDepth 10000

theorem b_xor8 (x : UInt8) (m : Nat) (hm : m < 256) : ∀ E t, binA E .xor t (.int .u8 (.ofNat x.toNat)) (.int .u8 (.ofNat m)) = some (bv (x ^^^ UInt8.ofNat m)) := by
  intro E t
  have hx := x.toNat_lt
  show some (Value.int .u8 (wrapA .u8 (.ofNat (Nat.xor (x.toNat % 256) (m % 256))))) = _
  rw [Nat.mod_eq_of_lt hx, Nat.mod_eq_of_lt hm, cv8]
  have : UInt8.ofNat (Nat.xor x.toNat m) = x ^^^ UInt8.ofNat m := by
    apply UInt8.toNat_inj.1
    have h2 : x.toNat ^^^ m < 256 := Nat.xor_lt_two_pow (n := 8) hx hm
    rw [UInt8.toNat_xor, UInt8.toNat_ofNat_of_lt' hm]
    exact UInt8.toNat_ofNat_of_lt' h2
  rw [this]
/-- ahead of the readers -/
structure TlB (A : CatD) (d : LeafD) (a : Option Addr) (cap : Nat) (t : Tr Value) (s : S) : Prop where
  t5 : t.get 5 = some (.pointer (some ⟨2, 0, none⟩))
  t6 : t.get 6 = some (.pointer (some ⟨3, 0, none⟩))
  t11 : t.get 11 = some (.pointer (some ⟨4, 0, none⟩))
  next : s.next = 5
  A2 : Cl s 2 0 (A.cells a cap)
  L3 : Cl s 3 0 d.cells
  P4 : Cl s 4 0 (putD A)
  VA : Vx s a (fcs A.files)
  len : d.load.length = 116
  lo : ∀ ad, a = some ad → ad.block < 2
theorem cells_byte (d : LeafD) (k : Nat) (y : UInt8) (hk : d.load[k]? = some y) : d.cells[5 + k]? = some (.int .u8 (.ofNat y.toNat)) := by
  unfold LeafD.cells
  rw [List.getElem?_append_right (by simp), show 5 + k - ([Value.int .i64 d.kind, .int .i64 d.file, .int .i64 d.place, .int .i64 d.next, .int .i64 d.size] : List Value).length = k by simp, List.getElem?_map, hk]
  rfl
theorem cells_turn (d : LeafD) (k : Nat) (z : UInt8) : d.cells.set (5 + k) (bv z) = ({ d with load := d.load.set k z } : LeafD).cells := by
  unfold LeafD.cells
  rw [List.set_append_right _ _ (by simp), show 5 + k - ([Value.int .i64 d.kind, .int .i64 d.file, .int .i64 d.place, .int .i64 d.next, .int .i64 d.size] : List Value).length = k by simp, List.map_set]
theorem chTl1 : sub [1,1,1] cdTl = .seq (sub [1,1,1,0] cdTl) (sub [1,1,1,1] cdTl) := rfl
set_option maxHeartbeats 4000000 in
theorem tl_own (q : Free) (hq : 100000 ≤ q.hi) (A : CatD) (d : LeafD) (hd : d.load.length = 116) (at_ : Int) (x : UInt8) (own : Bool) (a : Option Addr) (cap : Nat) (t : Tr Value) (s : S) (h : TlAt A d at_ x own a cap t s)
    (Q : Ex → Fr → S → Prop) (hrest : ∀ d2 t s, TlB A d2 a cap t s → GoW Tryd.prog q (sub [1,1,1,1] cdTl) ⟨3, t, 80, [], none⟩ s Q) :
    GoW Tryd.prog q (sub [1,1,1] cdTl) ⟨3, t, 80, [], none⟩ s Q := by
  obtain ⟨t2, t3, t4, t5, t6, t11, hn, A2, ⟨c3, o3, r3⟩, P4, VA, lo⟩ := h
  rw [chTl1]
  generalize hre : sub [1,1,1,1] cdTl = re at *
  simp only [cdTl, Tryd.f3, bodyOf, sub]
  obtain ⟨H, N, mk, rd, wr⟩ := s
  simp only at hn o3
  subst hn
  apply gow_seq
  apply gow_of hE hmix tolds_Tl
  cases own with
  | false =>
    repeat apply go_seq
    apply go_region
    case h => intro m; simp (maxSteps := 2000000) (disch := decide) only [opsLoop, evOper, wantedA, nth, aop, aPick, aBin, aIndexAddr, aFieldAddr, aLoad, aStore, aExtract, aConvert, aAlloc, aBox, aIndex, callA, builtinA, Fr.evs, opt, val, when, AM.run, outV, newA, ptr, force_eq, seen_heap, seen_next, seen_mark, seen_seen, agg_cells, int_cells, Fr.ev, Fr.put, onFr, gps, gpn, bltT, still, flat, List.append_nil, List.nil_append, List.cons_append, Nat.reduceEqDiff, ne_eq, not_false_eq_true, reduceCtorEq, Bool.and_true, Bool.true_and, Bool.and_false, Bool.false_and, Bool.not_true, Bool.not_false, Bool.and_self, t4]; rfl
    repeat apply go_seq
    apply go_cond
    case hc => simp (disch := decide) only [opsLoop, evOper, wantedA, nth, aop, aPick, aBin, aIndexAddr, aFieldAddr, aLoad, aStore, aExtract, aConvert, aAlloc, aBox, aIndex, callA, builtinA, Fr.evs, opt, val, when, AM.run, outV, newA, ptr, force_eq, seen_heap, seen_next, seen_mark, seen_seen, agg_cells, int_cells, Fr.ev, Fr.put, onFr, gps, gpn, bltT, still, flat, List.append_nil, List.nil_append, List.cons_append, Nat.reduceEqDiff, ne_eq, not_false_eq_true, reduceCtorEq, Bool.and_true, Bool.true_and, Bool.and_false, Bool.false_and, Bool.not_true, Bool.not_false, Bool.and_self]; rfl
    case h1 => intro h; cases h
    intro _
    apply go_skip
    refine ⟨by show 5 ≤ q.hi; omega, ?_⟩
    show GoW _ _ _ _ _ _
    refine hrest d _ _ ⟨?_, ?_, ?_, rfl, A2.of rfl rfl, ⟨by show 3 < 5; omega, c3, 121, .inl ⟨_, _, o3⟩, by rw [d.len hd]; exact Nat.le_refl 121, r3⟩, P4.of rfl rfl, VA.keep (Nat.le_refl _) (fun _ _ => rfl), hd, lo⟩
    · simp (disch := decide) only [gps, gpn, t5]
    · simp (disch := decide) only [gps, gpn, t6]
    · simp (disch := decide) only [gps, gpn, t11]
  | true =>
    have hpl := putD_len A
    have b3 : Nat.ble 3 lastName = true := rfl
    have x4 := P4.ldA (β := ANext) tiLf (by rw [dsLf]; rfl) (by rw [szLf, hpl])
    generalize hZ : wrCells c3 0 (putD A) = Z
    have hpb : Nat.beq (putD A).length 121 = true := by rw [hpl]; rfl
    have st : ∀ rd wr, (storeA ⟨3, 0, none⟩ (putD A) (AM.pure (ANext.value undefV))).run ⟨H, 5, mk, rd, wr⟩ = some (.value undefV, ⟨H.put 3 (some (.cells Z 121 30 .whole)), 5, mk, bit mk 3 rd, bit mk 3 wr⟩) := fun rd wr => by
      rw [storeA_run (s := ⟨H, 5, mk, rd, wr⟩) _ (putD_one A) (by show 3 < 5; omega) b3 o3 (by rw [hpl]; omega) (by omega), hZ]
      rfl
    have z3 : (H.put 3 (some (.cells Z 121 30 .whole))).get 3 = some (.cells Z 121 30 .whole) := hg_same b3 _ _
    have far : ∀ m, m ≠ 3 → (H.put 3 (some (.cells Z 121 30 .whole))).get m = H.get m := fun m hm => hg_far b3 hm _ _
    have rZ : Row Z 0 (pleaf A).cells := by
      rw [← hZ, ← pleaf_cells]; exact row_wr (by rw [hpl]; unfold Tr.wide; omega)
    generalize hH3 : H.put 3 (some (.cells Z 121 30 .whole)) = H3 at *
    have hlp := pleaf_len A
    have hk := wn_le at_ 115
    obtain ⟨k, hkk⟩ : ∃ k, k = wn at_ 115 := ⟨_, rfl⟩
    have w1 : ∀ s, (withinBA [.int .i64 at_, .int .i64 0, .int .i64 115]).run s = some (.int .i64 (.ofNat k), s) := fun s => by rw [hkk]; rfl
    rw [← hkk] at hk
    obtain ⟨y, hy⟩ : ∃ y, (pleaf A).load[k]? = some y := ⟨_, List.getElem?_eq_getElem (by omega)⟩
    have C3 : Cl ⟨H3, 5, mk, 0, 0⟩ 3 0 (pleaf A).cells := ⟨by show 3 < 5; omega, Z, 121, .inl ⟨_, _, z3⟩, by rw [(pleaf A).len hlp]; exact Nat.le_refl 121, rZ⟩
    have l3 := C3.ld (k := 5 + k) tiU8 (by rw [dsU8]; rfl) (cells_byte _ k y hy)
    simp only [Nat.zero_add] at l3
    have xr : ∀ E t, binA E .xor t (.int .u8 (.ofNat y.toNat)) (bv x) = some (bv (y ^^^ UInt8.ofNat x.toNat)) := b_xor8 y x.toNat x.toNat_lt
    obtain ⟨z, hz⟩ : ∃ z, z = y ^^^ UInt8.ofNat x.toNat := ⟨_, rfl⟩
    rw [← hz] at xr
    generalize hY : wrCells Z (5 + k) [bv z] = Y
    have st2 : ∀ rd wr, (storeA ⟨3, 5 + k, none⟩ [bv z] (AM.pure (ANext.value undefV))).run ⟨H3, 5, mk, rd, wr⟩ = some (.value undefV, ⟨H3.put 3 (some (.cells Y 121 30 .whole)), 5, mk, bit mk 3 rd, bit mk 3 wr⟩) := fun rd wr => by
      rw [storeA_run (s := ⟨H3, 5, mk, rd, wr⟩) _ rfl (by show 3 < 5; omega) b3 z3 (by show 5 + k + 1 ≤ 121; omega) (by omega), hY]
      rfl
    have hb : Nat.blt k 116 = true := blt_iff.2 (by omega)
    have a5 : addA ⟨3, 5, none⟩ k = ⟨3, 5 + k, none⟩ := sum.addA_eq ⟨3, 5, none⟩ k rfl
    repeat apply go_seq
    apply go_region
    case h => intro m; simp (maxSteps := 2000000) (disch := decide) only [opsLoop, evOper, wantedA, nth, aop, aPick, aBin, aIndexAddr, aFieldAddr, aLoad, aStore, aExtract, aConvert, aAlloc, aBox, aIndex, callA, builtinA, Fr.evs, opt, val, when, AM.run, outV, newA, ptr, force_eq, seen_heap, seen_next, seen_mark, seen_seen, agg_cells, int_cells, Fr.ev, Fr.put, onFr, gps, gpn, bltT, still, flat, List.append_nil, List.nil_append, List.cons_append, Nat.reduceEqDiff, ne_eq, not_false_eq_true, reduceCtorEq, Bool.and_true, Bool.true_and, Bool.and_false, Bool.false_and, Bool.not_true, Bool.not_false, Bool.and_self, t4]; rfl
    repeat apply go_seq
    apply go_cond
    case hc => simp (disch := decide) only [opsLoop, evOper, wantedA, nth, aop, aPick, aBin, aIndexAddr, aFieldAddr, aLoad, aStore, aExtract, aConvert, aAlloc, aBox, aIndex, callA, builtinA, Fr.evs, opt, val, when, AM.run, outV, newA, ptr, force_eq, seen_heap, seen_next, seen_mark, seen_seen, agg_cells, int_cells, Fr.ev, Fr.put, onFr, gps, gpn, bltT, still, flat, List.append_nil, List.nil_append, List.cons_append, Nat.reduceEqDiff, ne_eq, not_false_eq_true, reduceCtorEq, Bool.and_true, Bool.true_and, Bool.and_false, Bool.false_and, Bool.not_true, Bool.not_false, Bool.and_self]; rfl
    case h2 => intro h; cases h
    intro _
    repeat apply go_seq
    apply go_region
    case h => intro m; simp (maxSteps := 2000000) (disch := decide) only [opsLoop, evOper, wantedA, nth, aop, aPick, aBin, aIndexAddr, aFieldAddr, aLoad, aStore, aExtract, aConvert, aAlloc, aBox, aIndex, callA, builtinA, Fr.evs, opt, val, when, AM.run, outV, newA, ptr, force_eq, seen_heap, seen_next, seen_mark, seen_seen, agg_cells, int_cells, Fr.ev, Fr.put, onFr, gps, gpn, bltT, still, flat, List.append_nil, List.nil_append, List.cons_append, Nat.reduceEqDiff, ne_eq, not_false_eq_true, reduceCtorEq, Bool.and_true, Bool.true_and, Bool.and_false, Bool.false_and, Bool.not_true, Bool.not_false, Bool.and_self, t6, t11, tyLf, x4, szLf, hpb, st, hH3]; rfl
    repeat apply go_seq
    apply go_region
    case h => intro m; simp (maxSteps := 2000000) (disch := decide) only [opsLoop, evOper, wantedA, nth, aop, aPick, aBin, aIndexAddr, aFieldAddr, aLoad, aStore, aExtract, aConvert, aAlloc, aBox, aIndex, callA, builtinA, Fr.evs, opt, val, when, AM.run, outV, newA, ptr, force_eq, seen_heap, seen_next, seen_mark, seen_seen, agg_cells, int_cells, Fr.ev, Fr.put, onFr, gps, gpn, bltT, still, flat, List.append_nil, List.nil_append, List.cons_append, Nat.reduceEqDiff, ne_eq, not_false_eq_true, reduceCtorEq, Bool.and_true, Bool.true_and, Bool.and_false, Bool.false_and, Bool.not_true, Bool.not_false, Bool.and_self, t2, t3, t6, tgWB, evT_told tlW, w1, tyLf, dsLf, fl5, ft5, fo5, tyA, szA, dsA, ble1A, ad5, tyU8, szU8, dsU8, hb, mul1, a5, l3, xr, bv_cells, show Nat.beq ([bv z] : List Value).length 1 = true from rfl, st2]; rfl
    refine ⟨by show 5 ≤ q.hi; omega, ?_⟩
    show GoW _ _ _ _ _ _
    have far2 : ∀ m, m ≠ 3 → (H3.put 3 (some (.cells Y 121 30 .whole))).get m = H.get m := fun m hm => by rw [hg_far b3 hm]; exact far m hm
    refine hrest { pleaf A with load := (pleaf A).load.set k z } _ _ ⟨?_, ?_, ?_, rfl, A2.keep (Nat.le_refl _) (far2 2 (by omega)), ?_, P4.keep (Nat.le_refl _) (far2 4 (by omega)), ?_, ?_, lo⟩
    · simp (disch := decide) only [gps, gpn, t5]
    · simp (disch := decide) only [gps, gpn, t6]
    · simp (disch := decide) only [gps, gpn, t11]
    · refine ⟨by show 3 < 5; omega, Y, 121, .inl ⟨30, .whole, hg_same b3 _ _⟩, ?_, ?_⟩
      · rw [LeafD.len _ (by rw [List.length_set]; exact hlp)]; exact Nat.le_refl 121
      · rw [← hY, ← cells_turn]; exact row_set rZ (by omega)
    · cases a with
      | none => exact VA
      | some ad =>
        obtain ⟨h1, h2⟩ := VA
        refine ⟨h1, ?_⟩
        have := lo ad rfl
        exact h2.keep (Nat.le_refl _) (far2 _ (by omega))
    · rw [List.length_set]; exact hlp
end Go.Proofs.YtgofanjbhbeniaaDoor.lf
end
end

section
/- A right catalog comes back, through its block too; two have the same leaf just if they are the same: at all catalogs. -/
noncomputable section
namespace Go.Proofs.YtgofanjbhbeniaaDoor.lf
open AE
set_option linter.unusedSimpArgs false
set_option linter.unusedVariables false
set_option maxRecDepth 10000

theorem open_facts (O c : Nat) : Nat.ble O (O + c) = true ∧ Nat.sub (O + c) O = c ∧ Nat.add O c = O + c :=
  ⟨ble_iff.2 (Nat.le_add_right _ _), Nat.add_sub_cancel_left O c, rfl⟩
/-- a catalog of the world -/
def CatIn (w : World) (D : CatD) (v : Value) : Prop :=
  (D.files = [] ∧ v = .agg ⟨D.cells none 0⟩) ∨
  ∃ b off cap cs e z, v = .agg ⟨D.cells (some ⟨b, off, none⟩) cap⟩ ∧ D.files.length ≤ cap ∧ w.heap[b]? = some (.cells cs e z) ∧ off ≤ cs.size ∧ ∀ i u, (fcs D.files)[i]? = some u → cs[off + i]? = some u
theorem cut_get {D : CatD} {i : Nat} {u : Value} (h : (fcs (cutD D).files)[i]? = some u) : (fcs D.files)[i]? = some u := by
  have e : fcs (cutD D).files = (fcs D.files).take (4 * 16) := fcs_take _ _
  rw [e, List.getElem?_take] at h
  split at h
  · exact h
  · cases h
theorem cut_size (D : CatD) : (fcs (cutD D).files).length ≤ 64 := by
  rw [fcs_len]
  have := cut_len D
  omega
theorem cat_in {w : World} {D : CatD} {v : Value} (h : CatIn w D v) :
    (D.files = [] ∧ ∀ ρ : Ren, VR ρ (.agg ⟨D.cells none 0⟩) v) ∨
    ∃ (x : InRow) (cap : Nat), x.L = fcs (cutD D).files ∧ x.In w ∧ ∀ (l : List InRow) (k : Nat), l[k]? = some x → VR (renOf l) (.agg ⟨D.cells (some ⟨k, 0, none⟩) cap⟩) v ∧ CutOK (some ⟨k, 0, none⟩) D.files.length cap := by
  rcases h with ⟨h0, rfl⟩ | ⟨b, off, cap, cs, e, z, rfl, hcap, hb, hoff, hcell⟩
  · refine .inl ⟨h0, fun ρ => ?_⟩
    have : D.cells none 0 = [.int .i64 D.gen, .int .i64 D.step, .int .i64 D.status, .bool D.ended, .int .i64 D.from_, .int .i64 D.to_, .int .i64 D.budget, .int .i64 D.fan, .slice none 0 0] := by
      unfold CatD.cells; rw [h0]; rfl
    rw [this]
    exact cat_mk (.flat rfl)
  · have hsz := cut_size D
    have hend : off + (fcs (cutD D).files).length ≤ cs.size := by
      rcases Nat.eq_zero_or_pos (fcs (cutD D).files).length with h0 | h0
      · omega
      · obtain ⟨u, hu⟩ : ∃ u, (fcs (cutD D).files)[(fcs (cutD D).files).length - 1]? = some u := ⟨_, List.getElem?_eq_getElem (by omega)⟩
        have := (Array.getElem?_eq_some_iff.1 (hcell _ u (cut_get hu))).1
        omega
    have hin : InRow.In ⟨b, off, 0, fcs (cutD D).files, e⟩ w := ⟨⟨cs, z, hb, hend, fun i u hu => hcell i u (cut_get hu)⟩, (ints_fcs _).plain, by show (fcs (cutD D).files).length ≤ _; unfold Tr.wide; omega⟩
    by_cases hO : cap < OPEN
    · refine .inr ⟨⟨b, off, 0, fcs (cutD D).files, e⟩, cap, rfl, hin, fun l k hk => ⟨?_, .inr ⟨k, rfl, .inl ⟨?_, hcap⟩⟩⟩⟩
      · exact cat_mk (.sliceW ⟨k, 0, b, off, 0, by unfold renOf; rw [hk]; rfl, rfl, rfl⟩ hO)
      · cases hh : Nat.ble OPEN cap with
        | false => rfl
        | true => have := ble_iff.1 hh; omega
    · obtain ⟨f1, f2, f3⟩ := open_facts OPEN cap
      refine .inr ⟨⟨b, off, 0, fcs (cutD D).files, e⟩, OPEN + cap, rfl, hin, fun l k hk => ⟨?_, .inr ⟨k, rfl, .inr ⟨cap, f1, f2, f3, ?_, hcap⟩⟩⟩⟩
      · refine cat_mk ?_
        have := VR.sliceL (ρ := renOf l) (n := k) (off := 0) (b := b) (base := off) (ex := 0) (len := D.files.length) (c := cap) (by unfold renOf; rw [hk]; rfl)
        exact this
      · have : 0 < OPEN := by unfold OPEN; omega
        omega

/-- a statement's own call, in memory of its own -/
theorem calls_own {f : FuncId} {fi : FI} {c : Code} (hf : E.fn.get f = some fi) (hb : fi.body = some c) {args args' : List Value} {sI : S} {ρ2 : Ren} {w : World} (K N : Nat) (hN : Nat.add args.length (Nat.sub fi.ntmps args.length) = N) (hN2 : Nat.ble N lastName = true)
    (hI : Inputs Tryd.prog ρ2 sI w) (ha : LR ρ2 args args') (hm : sI.mark ≤ sI.next) (h : GoW Tryd.prog (ownQ w K) c ⟨f, Tr.ofList args, N, [], none⟩ sI (Ret E f fi fun v _ => v = .bool true)) :
    Calls Tryd.prog f ⟨args'⟩ w fun e w' => e = .returned (.bool true) ∧ Go.RowKit.Below w.heap.size w w' := by
  intro cs
  obtain ⟨v, s2, rfl, ρ', v', w', fr', h1, h2, h3, hbel, h4, h5, h6, h7, h8, h9⟩ := own_run (kind := .normal) hE hf hb K N hN hN2 hI ha hm h cs
  have hv := h3.bool_inv
  subst hv
  exact ⟨.returned (.bool true), w', fr', ⟨rfl, hbel⟩, h4, h5, h6, h7, h8, h9⟩
theorem row_vx {l : List InRow} {k : Nat} {x : InRow} {L : List Value} (hk : (inS l).heap.get k = some (.row (Tr.ofList x.L) x.L.length x.e)) (hlt : k < l.length) (hx : x.L = L) (hw : x.L.length ≤ Tr.wide) : Vx (inS l) (some ⟨k, 0, none⟩) L := by
  subst hx
  exact ⟨rfl, ⟨hlt, _, _, .inr ⟨_, hk⟩, by rw [Nat.zero_add]; exact Nat.le_refl _, row_ofList _ hw⟩⟩
theorem in_head (x : InRow) (l : List InRow) : (inS (x :: l)).heap.get 0 = some (.row (Tr.ofList x.L) x.L.length x.e) := by
  show ((trOf (rowsOf l 1)).put 0 (some (AObj.row (Tr.ofList x.L) x.L.length x.e))).get 0 = _
  exact hg_same rfl _ _
end Go.Proofs.YtgofanjbhbeniaaDoor.lf
end
end

section
/- Catalogs and any leaf: both readers; the statement's end. -/
noncomputable section
namespace Go.Proofs.YtgofanjbhbeniaaDoor.lf
open AE
set_option linter.unusedSimpArgs false
set_option linter.unusedVariables false
set_option maxRecDepth 10000

def zeroCD : CatD := ⟨0, 0, 0, false, 0, 0, 0, 0, []⟩
/-- what a leaf says -/
def resX (d : LeafD) : CatD × Bool := match decD d.cells with
  | some D => (D, true)
  | none => (zeroCD, false)
theorem resX_len (d : LeafD) : (resX d).1.files.length ≤ 14 := by
  unfold resX
  cases h : decD d.cells with
  | none => exact Nat.zero_le _
  | some D => exact right_len (decD_inv h).1
theorem getXA_run {s : S} (d : LeafD) (hl : d.load.length = 116) (hN : Nat.ble s.next lastName = true) : ∃ adr cap s1, (getXA [.agg ⟨d.cells⟩]).run s = some (.tuple ⟨[.agg ⟨(resX d).1.cells adr cap⟩, .bool (resX d).2]⟩, s1) ∧ Vx s1 adr (fcs (resX d).1.files) ∧ s.next ≤ s1.next ∧ s1.next ≤ s.next + 1 ∧ ∀ m, m < s.next → s1.heap.get m = s.heap.get m := by
  unfold resX
  unfold getXA
  dsimp only
  rw [leafOf_cells d hl]
  cases h : decD d.cells with
  | none => exact ⟨none, 0, s, rfl, rfl, Nat.le_refl _, Nat.le_succ _, fun _ _ => rfl⟩
  | some A =>
    dsimp only
    have hlen := right_len (decD_inv h).1
    cases hm : A.files.length with
    | zero =>
      refine ⟨none, 0, s, ?_, ?_, Nat.le_refl _, Nat.le_succ _, fun _ _ => rfl⟩
      · rfl
      · show fcs A.files = []
        rw [List.eq_nil_of_length_eq_zero hm]; rfl
    | succ m =>
      refine ⟨some ⟨s.next, 0, none⟩, OPEN + (m + 1), s.grow (.cells (Tr.ofList (fcs A.files)) (4 * (m + 1)) 41 .loose), ?_, ?_, Nat.le_succ _, Nat.le_refl _, fun k hk => hg_far hN (by omega) _ _⟩
      · show (AM.new (.cells (Tr.ofList (fcs A.files)) (4 * (m + 1)) 41 .loose) fun r => .pure (isCat_ A (some ⟨r, 0, none⟩) (OPEN + (m + 1)))).run s = _
        simp only [AM.run, force_eq, hN]
        rfl
      · refine ⟨rfl, ⟨Nat.lt_succ_self _, _, _, .inl ⟨_, _, hg_same hN _ _⟩, ?_, row_ofList _ (by rw [fcs_len]; unfold Tr.wide; omega)⟩⟩
        rw [fcs_len, hm, Nat.zero_add]
        exact Nat.le_refl _
theorem eql_self (A : CatD) : binA E .eql 30 (.agg ⟨putD A⟩) (.agg ⟨putD A⟩) = some (.bool true) := by
  rw [pleaf_cells]
  have := eqlLf (pleaf A) (pleaf A) (pleaf_len A) (pleaf_len A)
  rw [decide_eq_true rfl] at this
  exact this
theorem rightXN_eq {s : S} {a : Option Addr} {cap : Nat} (D : CatD) (hl : D.files.length ≤ 16) : (rightXN [.agg ⟨D.cells a cap⟩]).run s = (lookA rightF_ [.agg ⟨D.cells a cap⟩]).run s := by
  show (when (Nat.ble D.files.length 100) (rdV a (4 * D.files.length) _)).run s = (when (Nat.ble D.files.length 10000) (rdV a (4 * D.files.length) _)).run s
  rw [show Nat.ble D.files.length 100 = true from ble_iff.2 (by omega), show Nat.ble D.files.length 10000 = true from ble_iff.2 (by omega)]
  rfl
theorem putXA_eq {s : S} {a : Option Addr} {cap : Nat} (D : CatD) (hl : D.files.length ≤ 16) : (putXA [.agg ⟨D.cells a cap⟩]).run s = (lookA putF_ [.agg ⟨D.cells a cap⟩]).run s := by
  show (when (Nat.ble D.files.length 16) (rdV a (4 * D.files.length) _)).run s = (when (Nat.ble D.files.length 10000) (rdV a (4 * D.files.length) _)).run s
  rw [show Nat.ble D.files.length 16 = true from ble_iff.2 hl, show Nat.ble D.files.length 10000 = true from ble_iff.2 (by omega)]
  rfl
theorem beq_tt (b : Bool) : (b == b) = true := by cases b <;> rfl
theorem chTl2 : sub [1,1,1,1] cdTl = .seq (sub [1,1,1,1,0] cdTl) (.seq (sub [1,1,1,1,1,0] cdTl) (sub [1,1,1,1,1,1] cdTl)) := rfl
theorem cells_all (D : CatD) (a : Option Addr) (cap : Nat) : allOne (D.cells a cap) = true := by cases a <;> rfl
/-- ahead of the last region -/
structure TlC (A R : CatD) (ok : Bool) (a : Option Addr) (cap : Nat) (a1 : Option Addr) (c1 : Nat) (a2 : Option Addr) (c2 : Nat) (n1 n2 : Nat) (t : Tr Value) (s : S) : Prop where
  t5 : t.get 5 = some (.pointer (some ⟨2, 0, none⟩))
  t11 : t.get 11 = some (.pointer (some ⟨4, 0, none⟩))
  t12 : t.get 12 = some (.pointer (some ⟨n1, 0, none⟩))
  t13 : t.get 13 = some (.bool ok)
  t14 : t.get 14 = some (.pointer (some ⟨n2, 0, none⟩))
  t15 : t.get 15 = some (.bool ok)
  next : s.next ≤ 100
  A2 : Cl s 2 0 (A.cells a cap)
  P4 : Cl s 4 0 (putD A)
  D1 : Cl s n1 0 (R.cells a1 c1)
  D2 : Cl s n2 0 (R.cells a2 c2)
  VA : Vx s a (fcs A.files)
  V1 : Vx s a1 (fcs R.files)
  V2 : Vx s a2 (fcs R.files)
set_option maxHeartbeats 4000000 in
theorem tl_read (q : Free) (hq : 100000 ≤ q.hi) (A : CatD) (d : LeafD) (a : Option Addr) (cap : Nat) (t : Tr Value) (s : S) (h : TlB A d a cap t s)
    (Q : Ex → Fr → S → Prop) (hrest : ∀ a1 c1 a2 c2 n1 n2 t s, TlC A (resX d).1 (resX d).2 a cap a1 c1 a2 c2 n1 n2 t s → GoW Tryd.prog q (sub [1,1,1,1,1,1] cdTl) ⟨3, t, 80, [], none⟩ s Q) :
    GoW Tryd.prog q (sub [1,1,1,1] cdTl) ⟨3, t, 80, [], none⟩ s Q := by
  obtain ⟨t5, t6, t11, hn, A2, L3, P4, VA, hd, lo⟩ := h
  rw [chTl2]
  generalize hre : sub [1,1,1,1,1,1] cdTl = re at *
  generalize hr7 : sub [1,1,1,1,1,0] cdTl = r7
  simp only [cdTl, Tryd.f3, bodyOf, sub]
  have hdl := d.len hd
  have zeC' : tiC.zero = some (.agg ⟨zeroC⟩) := zeC
  obtain ⟨H, N, mk, rd, wr⟩ := s
  simp only at hn
  subst hn
  -- the program's reader
  have x3 := L3.ldA (β := ANext) tiLf (by rw [dsLf]; rfl) (by rw [szLf, hdl])
  obtain ⟨a1, c1, s6, gc, gV, gn, gn2, gk⟩ := getXA_run (s := (⟨H, 5, mk, rd, wr⟩ : S).seen 3) d hd rfl
  simp only [S.seen] at gc gn gn2 gk
  have bN6 : Nat.ble s6.next lastName = true := bl9 (by omega)
  obtain ⟨H6, N6, mk6, rd6, wr6⟩ := s6
  simp only at gn gn2 gk bN6
  generalize hR : (resX d).1 = R at *
  generalize hok : (resX d).2 = ok at *
  have hCo := cells_all R a1 c1
  generalize hH7 : H6.put N6 (some (.cells (Tr.ofList zeroC) zeroC.length 27 .whole)) = H7
  have zN : H7.get N6 = some (.cells (Tr.ofList zeroC) 9 27 .whole) := by rw [← hH7]; exact hg_same bN6 _ _
  generalize hY : wrCells (Tr.ofList zeroC) 0 (R.cells a1 c1) = Y
  have st6 : ∀ rd wr, (storeA ⟨N6, 0, none⟩ (R.cells a1 c1) (AM.pure (ANext.value undefV))).run ⟨H7, Nat.succ N6, mk6, rd, wr⟩ = some (.value undefV, ⟨H7.put N6 (some (.cells Y 9 27 .whole)), Nat.succ N6, mk6, bit mk6 N6 rd, bit mk6 N6 wr⟩) := fun rd wr => by
    rw [storeA_run (s := ⟨H7, Nat.succ N6, mk6, rd, wr⟩) _ hCo (Nat.lt_succ_self _) bN6 zN (by show 0 + 9 ≤ 9; omega) (by omega), hY]
    rfl
  apply gow_seq
  apply gow_of hE hmix tolds_Tl
  repeat apply go_seq
  apply go_region
  case h => intro m; simp (maxSteps := 2000000) (disch := decide) only [opsLoop, evOper, wantedA, nth, aop, aPick, aBin, aIndexAddr, aFieldAddr, aLoad, aStore, aExtract, aConvert, aAlloc, aBox, aIndex, callA, builtinA, Fr.evs, opt, val, when, AM.run, outV, newA, ptr, force_eq, seen_heap, seen_next, seen_mark, seen_seen, agg_cells, int_cells, Fr.ev, Fr.put, onFr, gps, gpn, bltT, still, flat, List.append_nil, List.nil_append, List.cons_append, Nat.reduceEqDiff, ne_eq, not_false_eq_true, reduceCtorEq, Bool.and_true, Bool.true_and, Bool.and_false, Bool.false_and, Bool.not_true, Bool.not_false, Bool.and_self, t6, tyLf, x3, tgGC, evT_told tlG, gc, aExtract, dropL, tyC, zeC', show Nat.ble zeroC.length lastName = true from rfl, bN6, hH7, szC, show Nat.beq (R.cells a1 c1).length 9 = true from rfl, st6]; rfl
  refine ⟨by show N6 + 1 ≤ q.hi; omega, ?_⟩
  show GoW _ _ _ _ _ _
  generalize hs8 : S.mk _ _ _ _ _ = s8
  have n8 : s8.next = N6 + 1 := by rw [← hs8]
  have h8 : s8.heap = H7.put N6 (some (.cells Y 9 27 .whole)) := by rw [← hs8]
  clear hs8
  have oN : Cl s8 N6 0 (R.cells a1 c1) := ⟨by omega, Y, 9, .inl ⟨27, .whole, by rw [h8]; exact hg_same bN6 _ _⟩, by show 0 + 9 ≤ 9; omega, by rw [← hY]; exact row_wr (by show 0 + 9 ≤ _; unfold Tr.wide; omega)⟩
  have k8 : ∀ m, m < N6 → s8.heap.get m = H6.get m := fun m hm => by rw [h8, hg_far bN6 (by omega), ← hH7, hg_far bN6 (by omega)]
  have k8o : ∀ m, m < 5 → s8.heap.get m = H.get m := fun m hm => (k8 m (by omega)).trans (gk m hm)
  have V8 : Vx s8 a1 (fcs R.files) := gV.keep (by show N6 ≤ _; omega) (fun m hm => k8 m hm)
  clear h8
  -- the document's
  rw [← hr7]
  simp only [cdTl, Tryd.f3, bodyOf, sub]
  have L8 : Cl s8 3 0 d.cells := L3.keep (by show 5 ≤ _; omega) (k8o 3 (by omega))
  obtain ⟨H8, N8, mk8, rd8, wr8⟩ := s8
  simp only at n8 k8 k8o
  subst n8
  have x8 := L8.ldA (β := ANext) tiLf (by rw [dsLf]; rfl) (by rw [szLf, hdl])
  obtain ⟨a2, c2, s9, gc2, gV2, gm, gm2, gk2⟩ := getXA_run (s := (⟨H8, N6 + 1, mk8, rd8, wr8⟩ : S).seen 3) d hd (bl9 (by show N6 + 1 ≤ _; omega))
  rw [hR] at gc2 gV2
  rw [hok] at gc2
  simp only [S.seen] at gc2 gm gm2 gk2
  have bN9 : Nat.ble s9.next lastName = true := bl9 (by omega)
  obtain ⟨H9, N9, mk9, rd9, wr9⟩ := s9
  simp only at gm gm2 gk2 bN9
  have hCo2 := cells_all R a2 c2
  generalize hH10 : H9.put N9 (some (.cells (Tr.ofList zeroC) zeroC.length 27 .whole)) = H10
  have zN2 : H10.get N9 = some (.cells (Tr.ofList zeroC) 9 27 .whole) := by rw [← hH10]; exact hg_same bN9 _ _
  generalize hY2 : wrCells (Tr.ofList zeroC) 0 (R.cells a2 c2) = Y2
  have st9 : ∀ rd wr, (storeA ⟨N9, 0, none⟩ (R.cells a2 c2) (AM.pure (ANext.value undefV))).run ⟨H10, Nat.succ N9, mk9, rd, wr⟩ = some (.value undefV, ⟨H10.put N9 (some (.cells Y2 9 27 .whole)), Nat.succ N9, mk9, bit mk9 N9 rd, bit mk9 N9 wr⟩) := fun rd wr => by
    rw [storeA_run (s := ⟨H10, Nat.succ N9, mk9, rd, wr⟩) _ hCo2 (Nat.lt_succ_self _) bN9 zN2 (by show 0 + 9 ≤ 9; omega) (by omega), hY2]
    rfl
  apply gow_seq
  apply gow_of hE hmix tolds_Tl
  repeat apply go_seq
  apply go_region
  case h => intro m; simp (maxSteps := 2000000) (disch := decide) only [opsLoop, evOper, wantedA, nth, aop, aPick, aBin, aIndexAddr, aFieldAddr, aLoad, aStore, aExtract, aConvert, aAlloc, aBox, aIndex, callA, builtinA, Fr.evs, opt, val, when, AM.run, outV, newA, ptr, force_eq, seen_heap, seen_next, seen_mark, seen_seen, agg_cells, int_cells, Fr.ev, Fr.put, onFr, gps, gpn, bltT, still, flat, List.append_nil, List.nil_append, List.cons_append, Nat.reduceEqDiff, ne_eq, not_false_eq_true, reduceCtorEq, Bool.and_true, Bool.true_and, Bool.and_false, Bool.false_and, Bool.not_true, Bool.not_false, Bool.and_self, t6, tyLf, x8, tgG2, evT_told tlG2, gc2, aExtract, dropL, tyC, zeC', show Nat.ble zeroC.length lastName = true from rfl, bN9, hH10, szC, show Nat.beq (R.cells a2 c2).length 9 = true from rfl, st9]; rfl
  refine ⟨by show N9 + 1 ≤ q.hi; omega, ?_⟩
  show GoW _ _ _ _ _ _
  generalize hs11 : S.mk _ _ _ _ _ = s11
  have n11 : s11.next = N9 + 1 := by rw [← hs11]
  have h11 : s11.heap = H10.put N9 (some (.cells Y2 9 27 .whole)) := by rw [← hs11]
  clear hs11
  have oN2 : Cl s11 N9 0 (R.cells a2 c2) := ⟨by omega, Y2, 9, .inl ⟨27, .whole, by rw [h11]; exact hg_same bN9 _ _⟩, by show 0 + 9 ≤ 9; omega, by rw [← hY2]; exact row_wr (by show 0 + 9 ≤ _; unfold Tr.wide; omega)⟩
  have k11 : ∀ m, m < N9 → s11.heap.get m = H9.get m := fun m hm => by rw [h11, hg_far bN9 (by omega), ← hH10, hg_far bN9 (by omega)]
  have k11o : ∀ m, m < N6 + 1 → s11.heap.get m = H8.get m := fun m hm => (k11 m (by omega)).trans (gk2 m hm)
  have kk : ∀ m, m < 5 → s11.heap.get m = H.get m := fun m hm => (k11o m (by omega)).trans (k8o m hm)
  refine hrest a1 c1 a2 c2 N6 N9 _ _ ⟨?_, ?_, ?_, ?_, ?_, ?_, by omega, A2.keep (by show 5 ≤ _; omega) (kk 2 (by omega)), P4.keep (by show 5 ≤ _; omega) (kk 4 (by omega)), oN.keep (by show N6 + 1 ≤ _; omega) (k11o N6 (by omega)), oN2, ?_, V8.keep (by show N6 + 1 ≤ _; omega) (fun m hm => k11o m hm), gV2.keep (by show N9 ≤ _; omega) (fun m hm => k11 m hm)⟩
  · simp (disch := decide) only [gps, gpn, t5]
  · simp (disch := decide) only [gps, gpn, t11]
  · simp (disch := decide) only [gps, gpn]
  · simp (disch := decide) only [gps, gpn]
  · simp (disch := decide) only [gps, gpn]
  · simp (disch := decide) only [gps, gpn]
  · cases a with
    | none => exact VA
    | some ad => exact ⟨VA.1, VA.2.keep (by show 5 ≤ _; omega) (kk _ (by have := lo ad rfl; omega))⟩
theorem chTl3 : sub [1,1,1,1,1,1] cdTl = .seq (sub [1,1,1,1,1,1,0] cdTl) (sub [1,1,1,1,1,1,1] cdTl) := rfl
set_option maxHeartbeats 8000000 in
theorem tl_end (q : Free) (hq : 100000 ≤ q.hi) (A R : CatD) (hA : A.files.length ≤ 16) (hR : R.files.length ≤ 14) (ok : Bool) (a : Option Addr) (cap : Nat) (a1 : Option Addr) (c1 : Nat) (a2 : Option Addr) (c2 : Nat) (n1 n2 : Nat) (t : Tr Value) (s : S) (h : TlC A R ok a cap a1 c1 a2 c2 n1 n2 t s) :
    GoW Tryd.prog q (sub [1,1,1,1,1,1] cdTl) ⟨3, t, 80, [], none⟩ s (Ret E 3 fiTl fun v _ => v = .bool true) := by
  obtain ⟨t5, t11, t12, t13, t14, t15, hn, A2, P4, D1, D2, VA, V1, V2⟩ := h
  rw [chTl3]
  simp only [cdTl, Tryd.f3, bodyOf, sub]
  obtain ⟨H, N, mk, rd, wr⟩ := s
  simp only at hn
  have hpl := putD_len A
  have A2' : Cl ⟨H, N, N, 0, 0⟩ 2 0 (A.cells a cap) := A2.of rfl rfl
  have P4' : Cl ⟨H, N, N, 0, 0⟩ 4 0 (putD A) := P4.of rfl rfl
  have D1' : Cl ⟨H, N, N, 0, 0⟩ n1 0 (R.cells a1 c1) := D1.of rfl rfl
  have D2' : Cl ⟨H, N, N, 0, 0⟩ n2 0 (R.cells a2 c2) := D2.of rfl rfl
  have y2 := A2'.ldA (β := ANext) tiC (by rw [dsC]; rfl) (by rw [szC]; rfl)
  have y4 := P4'.ldA (β := ANext) tiLf (by rw [dsLf]; rfl) (by rw [szLf, hpl])
  have z1 := D1'.ldA (β := ANext) tiC (by rw [dsC]; rfl) (by rw [szC]; rfl)
  have z2 := D2'.ldA (β := ANext) tiC (by rw [dsC]; rfl) (by rw [szC]; rfl)
  have l4 := (A2'.sub 4 4 (by show 8 ≤ 9; omega)).ldA (β := ANext) tiK (by rw [dsK]; rfl) (by rw [szK]; rfl)
  simp only [Nat.zero_add] at l4
  have hsubK : ((A.cells a cap).drop 4).take 4 = [.int .i64 A.from_, .int .i64 A.to_, .int .i64 A.budget, .int .i64 A.fan] := rfl
  rw [hsubK] at l4
  have ad4 : addA ⟨2, 0, none⟩ 4 = ⟨2, 4, none⟩ := rfl
  have rk := rightKN_at A.from_ A.to_ A.budget A.fan
  have kk : (rightK A.from_ A.to_ A.budget A.fan == rightK A.from_ A.to_ A.budget A.fan) = true := beq_tt _
  have VA0 : Vx ⟨H, N, 0, 0, 0⟩ a (fcs A.files) := VA.keep (Nat.le_refl _) (fun _ _ => rfl)
  obtain ⟨ra, pa⟩ := lookA_at (mk := N) (rd := 0) (wr := 0) (cap := cap) rightF_ A (by omega) VA0
  have pb := rightXN_eq (s := ⟨H, N, N, 0, 0⟩) (a := a) (cap := cap) A hA
  rw [pa] at pb
  obtain ⟨rp, pp⟩ := lookA_at (mk := N) (rd := 0) (wr := 0) (cap := cap) putF_ A (by omega) VA0
  have pq := putXA_eq (s := ⟨H, N, N, 0, 0⟩) (a := a) (cap := cap) A hA
  rw [pp] at pq
  have hf1 : putF_ A = .agg ⟨putD A⟩ := rfl
  have hf2 : rightF_ A = .bool A.right := rfl
  rw [hf2] at pa pb
  rw [hf1] at pq
  have k2 : (A.right == A.right) = true := beq_tt _
  have k3 : (ok == ok) = true := beq_tt _
  have es := eql_self A
  obtain ⟨H', rc, pc, _⟩ := catsA_at (H := H) (N := N) (mk := N) (rd := 0) (wr := 0) (a := a1) (a2 := a2) (cap := c1) (cap2 := c2) R R (Nat.le_refl _) (by omega) (by omega) (by omega) (V1.keep (Nat.le_refl _) (fun _ _ => rfl)) (V2.keep (Nat.le_refl _) (fun _ _ => rfl))
  rw [decide_eq_true rfl] at pc
  apply gow_seq
  apply gow_of hE hmix tolds_Tl
  repeat apply go_seq
  apply go_drawn
  case hs => rfl
  case h => intro m; simp (maxSteps := 2000000) (disch := decide) only [opsLoop, evOper, wantedA, nth, aop, aPick, aBin, aIndexAddr, aFieldAddr, aLoad, aStore, aExtract, aConvert, aAlloc, aBox, aIndex, callA, builtinA, Fr.evs, opt, val, when, AM.run, outV, newA, ptr, force_eq, seen_heap, seen_next, seen_mark, seen_seen, agg_cells, int_cells, Fr.ev, Fr.put, onFr, gps, gpn, bltT, still, flat, List.append_nil, List.nil_append, List.cons_append, Nat.reduceEqDiff, ne_eq, not_false_eq_true, reduceCtorEq, Bool.and_true, Bool.true_and, Bool.and_false, Bool.false_and, Bool.not_true, Bool.not_false, Bool.and_self, drawnLoop, force_eq, S.seen, keep_none, clash_nil, clash_reads, created_self, lor_zero, lor_zero', t5, t11, t12, t13, t14, t15, tyC, dsC, flC4, ftC4, foC4, tyK, szK, ad4, l4, tgK, evT_told tlK, tgKR, evT_told tlK2, rk, eqB_tt, kk, y2, tgRC, evT_told tlR, pa, tgR2, evT_told tlR2, pb, k2, tyLf, y4, tgP2, evT_told tlP2, pq, es, z1, z2, tgCs, evT_told tlC, pc, k3, tgCX, evT_told tlX, cxRun, clash_bef, clash_zero, clash_reads, show Nat.ble 1 4 = true from rfl]; rfl
  refine ⟨by show N + 2 ≤ q.hi; omega, ?_⟩
  show GoW _ _ _ _ _ _
  apply gow_of hE hmix tolds_nil
  apply go_ret
  refine ⟨by show N + 2 ≤ q.hi; omega, ?_⟩
  apply ret_intro rfl rfl
  case run => simp (disch := decide) only [resultsM, resultsA, resTl, opsLoop, evOper, wantedA, nth, aop, aPick, aBin, aIndexAddr, aFieldAddr, aLoad, aStore, aExtract, aConvert, aAlloc, aBox, aIndex, callA, builtinA, Fr.evs, opt, val, when, AM.run, outV, newA, ptr, force_eq, seen_heap, seen_next, seen_mark, seen_seen, agg_cells, int_cells, Fr.ev, Fr.put, onFr, gps, gpn, bltT, still, flat, List.append_nil, List.nil_append, List.cons_append, Nat.reduceEqDiff, ne_eq, not_false_eq_true, reduceCtorEq, Bool.and_true, Bool.true_and, Bool.and_false, Bool.false_and, Bool.not_true, Bool.not_false, Bool.and_self]; rfl
  rfl
end Go.Proofs.YtgofanjbhbeniaaDoor.lf
end
end

section
/- Any catalog, any leaf, its own with a byte turned among them: at all of them. -/
noncomputable section
namespace Go.Proofs.YtgofanjbhbeniaaDoor.lf
open AE
set_option linter.unusedSimpArgs false
set_option linter.unusedVariables false
set_option maxRecDepth 10000

theorem tells_gow (q : Free) (hq : 100000 ≤ q.hi) (D : CatD) (d : LeafD) (hd : d.load.length = 116) (at_ : Int) (x : UInt8) (own : Bool) (a : Option Addr) (cap : Nat) (sI : S) (hn : sI.next ≤ 2) (hV : Vx sI a (fcs (cutD D).files)) (h1 : CutOK a D.files.length cap) :
    GoW Tryd.prog q cdTl ⟨3, Tr.ofList [.agg ⟨D.cells a cap⟩, .agg ⟨d.cells⟩, .int .i64 at_, bv x, .bool own], 80, [], none⟩ sI (Ret E 3 fiTl fun v _ => v = .bool true) := by
  refine tl_start q hq D d hd at_ x own a cap sI hn hV h1 _ ?_
  intro t s hA
  refine tl_own q hq (cutD D) d hd at_ x own a cap t s hA _ ?_
  intro d2 t s hB
  refine tl_read q hq (cutD D) d2 a cap t s hB _ ?_
  intro a1 c1 a2 c2 n1 n2 t s hC
  exact tl_end q hq (cutD D) _ (cut_len D) (resX_len d2) _ a cap a1 c1 a2 c2 n1 n2 t s hC
theorem catalogTells_any (D : CatD) (d : LeafD) (hd : d.load.length = 116) (at_ : Int) (x : UInt8) (own : Bool) (v : Value) (w : World) (h : CatIn w D v) :
    Calls Tryd.prog 3 #[v, .agg ⟨d.cells⟩, .int .i64 at_, bv x, .bool own] w fun e w' => e = .returned (.bool true) ∧ Go.RowKit.Below w.heap.size w w' := by
  have go : ∀ (l : List InRow) (a : Option Addr) (c : Nat), l.length ≤ 2 → (∀ x ∈ l, x.In w) → Vx (inS l) a (fcs (cutD D).files) → CutOK a D.files.length c → VR (renOf l) (.agg ⟨D.cells a c⟩) v →
      Calls Tryd.prog 3 ⟨[v, .agg ⟨d.cells⟩, .int .i64 at_, bv x, .bool own]⟩ w fun e w' => e = .returned (.bool true) ∧ Go.RowKit.Below w.heap.size w w' := by
    intro l a c hl hin k1 k2 k3
    exact calls_own (fi := fiTl) (c := cdTl) (by kernel_rfl) (by kernel_rfl) 100000 80 rfl rfl (inputs_of l (by omega) hin) (.cons k3 (.cons ((plain_agg (leaf_plain d)).1 _) (.cons ((plain_int _ _).1 _) (.cons ((plain_int _ _).1 _) (.cons ((plain_bool _).1 _) .nil))))) (Nat.zero_le _) (tells_gow _ (Nat.le_refl _) D d hd at_ x own a c (inS l) hl k1 k2)
  rcases cat_in h with ⟨z1, m1⟩ | ⟨y, cy, ey, iy, my⟩
  · exact go [] none 0 (Nat.zero_le _) (fun x hx => by cases hx) (by show fcs (D.files.take 16) = []; rw [z1]; rfl) (.inl ⟨rfl, by rw [z1]; rfl, rfl⟩) (m1 _)
  · obtain ⟨my1, my2⟩ := my [y] 0 rfl
    exact go [y] (some ⟨0, 0, none⟩) cy (by simp) (fun u hu => by simp only [List.mem_singleton] at hu; subst hu; exact iy) (row_vx (x := y) (in_head y []) Nat.zero_lt_one ey iy.len) my2 my1
end Go.Proofs.YtgofanjbhbeniaaDoor.lf
end
end

section
/- A catalog that is handed in, opened: its numbers and its files. -/
noncomputable section
namespace Go.Proofs.YtgofanjbhbeniaaDoor.lf
open AE
open Go.RowKit Go.ChangeShapes Go.WideShapes Go.Deep
set_option linter.unusedSimpArgs false
set_option linter.unusedVariables false
set_option maxRecDepth 10000

section
variable {H : Type} {enc : TypeId × Value → H} {P : Program} {w : World} {base : Nat} {spare : Nat → Bool} {held : Bool}
theorem open_slice_fields {t e : TypeId} {fs : Array Field} {fuel : Nat} {cs : List Value} {x : DataW H × List MemPlace} (ht : P.underlying t = some (.slice e)) (he : P.underlying e = some (.struct fs))
    (hone : oneCellFields P fs = true) (hC : P.cellsOf e = fs.size) (h : DataW.trod enc P w base spare held fuel t cs = some x) :
    (cs = [.slice none 0 0] ∧ x = (.nil, [])) ∨
    ∃ (a : Addr) (len cap : Nat), cs = [.slice (some a) len cap] ∧ base ≤ a.block ∧ len ≤ cap ∧ cap ≤ maxLen ∧
      ∀ i, i < len → ∃ (ys : List (DataW H × List MemPlace)) (n : Nat), ys.length = fs.size ∧
        ∀ (j : Nat) (f : Field), fs[j]? = some f → ∃ (v : Value) (y : DataW H × List MemPlace), w.cell? (a.add (i * fs.size + j)) = some v ∧ ys[j]? = some y ∧ DataW.trod enc P w base spare held n f.type [v] = some y := by
  rcases open_slice ht h with h0 | ⟨a, len, cap, m, n, D, Pl, hcs, hb, hl, hm, hmm, hx, hi⟩
  · exact .inl h0
  · have hlm : len ≤ m := by rw [hmm]; split <;> omega
    refine .inr ⟨a, len, cap, hcs, hb, hl, hm, fun i hil => ?_⟩
    obtain ⟨cs', hc, ht'⟩ := hi i (by omega)
    rw [hC] at hc
    obtain ⟨ys, n', hn', hy, hlen, hyl, hf⟩ := DataW.trod_struct he ht'
    obtain ⟨_, hcl, hat⟩ := World.cells?_some hc
    refine ⟨ys, n', hyl, fun j f hj => ?_⟩
    obtain ⟨ho, hk⟩ := hone_of hone j f hj
    have hjl : j < fs.size := (Array.getElem?_eq_some_iff.1 hj).1
    have hcell := hat j hjl
    have hv : cs'[j]? = some (cs'[j]'(by omega)) := List.getElem?_eq_getElem (by omega)
    have h1 := hf j f hj
    rw [ho, hk] at h1
    have hone' : (cs'.drop j).take 1 = [cs'[j]'(by omega)] := by
      rw [List.drop_eq_getElem_cons (by omega)]
      rfl
    rw [hone'] at h1
    have hys : ys[j]? = some (ys[j]'(by omega)) := List.getElem?_eq_getElem (by omega)
    refine ⟨_, _, ?_, hys, h1.trans hys⟩
    rw [← Go.Deep.add_add, hcell, hv]
theorem rowAt_off (fits : TypeId → Bool) : ∀ (d : Nat) (e : TypeId) (cells off n : Nat), Go.rowAt P fits d e (cells / P.cellsOf e) off n = true → off ≤ cells
  | 0, e, cells, off, n, h => by simp [Go.rowAt] at h
  | d + 1, e, cells, off, n, h => by
    simp only [Go.rowAt] at h
    split at h
    · cases h
    · rename_i hs
      have hpos : 0 < P.cellsOf e := Nat.pos_of_ne_zero hs
      have hdm := Nat.div_add_mod off (P.cellsOf e)
      have hcm := Nat.div_mul_le_self cells (P.cellsOf e)
      simp only [Bool.or_eq_true, Bool.and_eq_true, beq_iff_eq, decide_eq_true_eq] at h
      rcases h with ⟨⟨h1, h2⟩, _⟩ | ⟨h1, _⟩
      · have : P.cellsOf e * (off / P.cellsOf e) ≤ cells := by
          have := Nat.mul_le_mul_right (P.cellsOf e) (show off / P.cellsOf e ≤ cells / P.cellsOf e by omega)
          rw [Nat.mul_comm] at this
          omega
        omega
      · have hlt := Nat.mod_lt off hpos
        have h3 : (off / P.cellsOf e + 1) * P.cellsOf e ≤ cells / P.cellsOf e * P.cellsOf e := Nat.mul_le_mul_right _ h1
        rw [Nat.add_mul, Nat.one_mul, Nat.mul_comm (off / P.cellsOf e)] at h3
        omega
theorem liesAt_off : ∀ (d : Nat) (e : TypeId) (cells off : Nat) (u : TypeId) (n : Nat), liesAt P d e (cells / P.cellsOf e) off u n = true → off ≤ cells
  | 0, e, cells, off, u, n, h => by simp [liesAt] at h
  | d + 1, e, cells, off, u, n, h => by
    simp only [liesAt, Bool.or_eq_true] at h
    rcases h with h | h
    · exact rowAt_off _ _ _ _ _ _ h
    · split at h
      · exact liesAt_off d e cells off _ _ h
      · cases h
theorem has_block {r : Reach} {b0 : Nat} {a : Addr} {e : TypeId} {n : Nat} (h : w.has P r b0 a e n) : a.spot = none ∧ ∃ cs el z, w.heap[a.block]? = some (.cells cs el z) ∧ a.off ≤ cs.size := by
  obtain ⟨_, h1, row, cells, h2, h3⟩ := h
  refine ⟨h1, ?_⟩
  unfold World.shape? at h2
  split at h2
  · rename_i c el z hb
    simp only [Option.some.injEq, Prod.mk.injEq] at h2
    obtain ⟨rfl, rfl⟩ := h2
    exact ⟨c, el, z, hb, liesAt_off _ _ _ _ _ _ h3⟩
  · cases h2
end
theorem undC : Tryd.prog.underlying 27 = some (.struct fsC) := by kernel_rfl
theorem undFs : Tryd.prog.underlying 25 = some (.slice 41) := by kernel_rfl
theorem undF : Tryd.prog.underlying 41 = some (.struct fsF) := by kernel_rfl
theorem undSt : Tryd.prog.underlying 22 = some (.int .i64) := by kernel_rfl
theorem undBo : Tryd.prog.underlying 4 = some .bool := by kernel_rfl
theorem undI' : Tryd.prog.underlying 3 = some (.int .i64) := by kernel_rfl
theorem celC : Tryd.prog.cellsOf 27 = 9 := by kernel_rfl
theorem ctC : Tryd.prog.cellTypes Tryd.prog.depth 27 = some [3, 3, 22, 4, 3, 3, 3, 3, 25] := by kernel_rfl
theorem oneF : oneCellFields Tryd.prog fsF = true := by kernel_rfl
theorem celF : Tryd.prog.cellsOf 41 = fsF.size := by kernel_rfl
theorem fszF : fsF.size = 4 := by kernel_rfl
theorem ftyF : ∀ j, j < 4 → (fsF[j]?).map (·.type) = some 3
  | 0, _ => by kernel_rfl
  | 1, _ => by kernel_rfl
  | 2, _ => by kernel_rfl
  | 3, _ => by kernel_rfl
  | j + 4, h => by omega
theorem fC5 : ∃ f, fsC.toList[5]? = some f ∧ f.type = 25 ∧ f.offset = 8 := ⟨fdC 5, by kernel_rfl, by kernel_rfl, by kernel_rfl⟩
theorem celFs : Tryd.prog.cellsOf 25 = 1 := by kernel_rfl
theorem mapM_at {α β : Type} {f : α → Option β} : ∀ (l : List α) (xs : List β), l.mapM f = some xs → ∀ a ∈ l, ∃ y, f a = some y
  | [], xs, _, a, ha => by simp at ha
  | b :: l, xs, h, a, ha => by
    rw [List.mapM_cons] at h
    simp only [bind, Option.bind_eq_some_iff, pure, Option.some.injEq] at h
    obtain ⟨y, hy, ys, hys, _⟩ := h
    rcases List.mem_cons.1 ha with rfl | ha
    · exact ⟨y, hy⟩
    · exact mapM_at l ys hys a ha
section
variable {H : Type} {enc : TypeId × Value → H} {w : World} {base : Nat} {sp : Nat → Bool} {held : Bool}
theorem cell_int {r : Reach} {b0 : Nat} {t : TypeId} {v : Value} (ht : Tryd.prog.underlying t = some (.int .i64)) (h : Cell.okWide Tryd.prog w r b0 t v) : ∃ n, v = .int .i64 n := by
  simp only [Cell.okWide, ht] at h
  cases v <;> simp_all [Cell.ok]
theorem cell_bool {r : Reach} {b0 : Nat} {v : Value} (h : Cell.okWide Tryd.prog w r b0 4 v) : ∃ b, v = .bool b := by
  simp only [Cell.okWide, undBo] at h
  cases v <;> simp_all [Cell.ok]
theorem cell_slice {r : Reach} {b0 : Nat} {v : Value} (h : Cell.okWide Tryd.prog w r b0 25 v) : v = .slice none 0 0 ∨ ∃ a n cap, v = .slice (some a) n cap ∧ n ≤ cap ∧ w.has Tryd.prog r b0 a 41 cap := by
  simp only [Cell.okWide, undFs] at h
  cases v with
  | slice a n cap =>
    cases a with
    | none =>
      left
      simp only [Cell.ok, undFs] at h
      split at h <;> simp_all
    | some a =>
      right
      simp only [Cell.ok, undFs] at h
      exact ⟨a, n, cap, rfl, h.1, h.2.2⟩
  | _ => simp_all [Cell.ok]
/-- the number in a cell -/
def intAt (w : World) (a : Addr) (k : Nat) : Int := match w.cell? (a.add k) with
  | some (.int _ n) => n
  | _ => 0
def fileIn (w : World) (a : Addr) (i : Nat) : FileD := ⟨intAt w a (4 * i), intAt w a (4 * i + 1), intAt w a (4 * i + 2), intAt w a (4 * i + 3)⟩
theorem fcs_range (w : World) (a : Addr) : ∀ n, fcs ((List.range n).map (fileIn w a)) = (List.range (4 * n)).map fun k => Value.int .i64 (intAt w a k)
  | 0 => rfl
  | n + 1 => by
    have happ : ∀ (l l' : List FileD), fcs (l ++ l') = fcs l ++ fcs l' := by
      intro l l'
      induction l with
      | nil => rfl
      | cons f l ih => simp only [List.cons_append, fcs, ih]
    rw [List.range_succ, List.map_append, happ, fcs_range w a n, show 4 * (n + 1) = 4 * n + 1 + 1 + 1 + 1 by omega]
    simp only [List.range_succ, List.map_append, List.map_cons, List.map_nil, List.append_assoc]
    rfl
theorem open_cat {r : Reach} {b0 : Nat} {v : Value} {d : DataW H} {ps : List MemPlace} (hval : Value.okWide Tryd.prog w r b0 27 v) (hd : DataW.Trod enc Tryd.prog w base sp held 27 v d ps) : ∃ D, CatIn w D v := by
  simp only [Value.okWide, undC] at hval
  obtain ⟨⟨cs⟩, rfl, hsz, ts, hts, _, hcell⟩ := hval
  rw [ctC] at hts
  cases hts
  rw [celC] at hsz
  have hlen : cs.length = 9 := by simpa using hsz
  obtain ⟨c0, c1, c2, c3, c4, c5, c6, c7, c8, rfl⟩ : ∃ c0 c1 c2 c3 c4 c5 c6 c7 c8, cs = [c0, c1, c2, c3, c4, c5, c6, c7, c8] := by
    match cs, hlen with
    | [c0, c1, c2, c3, c4, c5, c6, c7, c8], _ => exact ⟨_, _, _, _, _, _, _, _, _, rfl⟩
  obtain ⟨u0, e0, k0⟩ := hcell 0 c0 (by simp)
  obtain ⟨u1, e1, k1⟩ := hcell 1 c1 (by simp)
  obtain ⟨u2, e2, k2⟩ := hcell 2 c2 (by simp)
  obtain ⟨u3, e3, k3⟩ := hcell 3 c3 (by simp)
  obtain ⟨u4, e4, k4⟩ := hcell 4 c4 (by simp)
  obtain ⟨u5, e5, k5⟩ := hcell 5 c5 (by simp)
  obtain ⟨u6, e6, k6⟩ := hcell 6 c6 (by simp)
  obtain ⟨u7, e7, k7⟩ := hcell 7 c7 (by simp)
  obtain ⟨u8, e8, k8⟩ := hcell 8 c8 (by simp)
  obtain rfl := Option.some.inj (show some 3 = some u0 from e0)
  obtain rfl := Option.some.inj (show some 3 = some u1 from e1)
  obtain rfl := Option.some.inj (show some 22 = some u2 from e2)
  obtain rfl := Option.some.inj (show some 4 = some u3 from e3)
  obtain rfl := Option.some.inj (show some 3 = some u4 from e4)
  obtain rfl := Option.some.inj (show some 3 = some u5 from e5)
  obtain rfl := Option.some.inj (show some 3 = some u6 from e6)
  obtain rfl := Option.some.inj (show some 3 = some u7 from e7)
  obtain rfl := Option.some.inj (show some 25 = some u8 from e8)
  obtain ⟨n0, rfl⟩ := cell_int undI' k0
  obtain ⟨n1, rfl⟩ := cell_int undI' k1
  obtain ⟨n2, rfl⟩ := cell_int undSt k2
  obtain ⟨b3, rfl⟩ := cell_bool k3
  obtain ⟨n4, rfl⟩ := cell_int undI' k4
  obtain ⟨n5, rfl⟩ := cell_int undI' k5
  obtain ⟨n6, rfl⟩ := cell_int undI' k6
  obtain ⟨n7, rfl⟩ := cell_int undI' k7
  rcases cell_slice k8 with rfl | ⟨a, n, cap, rfl, hcap, hhas⟩
  · exact ⟨⟨n0, n1, n2, b3, n4, n5, n6, n7, []⟩, .inl ⟨rfl, rfl⟩⟩
  · obtain ⟨hsp, bs, el, z, hb, hoff⟩ := has_block hhas
    obtain ⟨ab, ao, asp⟩ := a
    simp only at hsp hb hoff
    subst hsp
    obtain ⟨fuel, hf⟩ := hd
    have htr : ∃ m y, DataW.trod enc Tryd.prog w base sp held m 25 [.slice (some ⟨ab, ao, none⟩) n cap] = some y := by
      cases fuel with
      | zero => simp [DataW.trod] at hf
      | succ m =>
        rw [DataW.trod_step] at hf
        unfold DataW.trodStep at hf
        simp only [undC, Value.cells, celC] at hf
        have hf2 := hf
        simp only [List.length_cons, List.length_nil, Nat.zero_add, Nat.reduceAdd, if_true, Option.map_eq_some_iff] at hf2
        obtain ⟨xs, hx, _⟩ := hf2
        obtain ⟨f, g1, g2, g3⟩ := fC5
        obtain ⟨y, hy⟩ := mapM_at _ _ hx f (List.mem_of_getElem? g1)
        rw [g2, g3, celFs] at hy
        exact ⟨m, y, hy⟩
    obtain ⟨m, y, htr⟩ := htr
    have hfl : ((List.range n).map (fileIn w ⟨ab, ao, none⟩)).length = n := by simp
    have key : ∀ k, k < 4 * n → ∃ x, w.cell? ((⟨ab, ao, none⟩ : Addr).add k) = some (.int .i64 x) := by
      rcases open_slice_fields undFs undF oneF celF htr with ⟨h1, _⟩ | ⟨a', n', cap', h1, _, _, _, hi⟩
      · simp at h1
      · simp only [List.cons.injEq, Value.slice.injEq, Option.some.injEq, and_true] at h1
        obtain ⟨rfl, rfl, rfl⟩ := h1
        intro k hk
        obtain ⟨ys, m', _, hj⟩ := hi (k / 4) (by omega)
        have ht := ftyF (k % 4) (Nat.mod_lt _ (by omega))
        cases hfj : fsF[k % 4]? with
        | none => rw [hfj] at ht; cases ht
        | some f =>
          rw [hfj] at ht
          obtain ⟨v, y', q1, _, q3⟩ := hj (k % 4) f hfj
          have ht2 : f.type = 3 := Option.some.inj ht
          rw [ht2] at q3
          obtain ⟨x, q4, _, _⟩ := DataW.trod_int undI' q3
          rw [fszF, show k / 4 * 4 + k % 4 = k by omega] at q1
          refine ⟨x, ?_⟩
          rw [q1]
          injection q4 with q4
          rw [q4]
    refine ⟨⟨n0, n1, n2, b3, n4, n5, n6, n7, (List.range n).map (fileIn w ⟨ab, ao, none⟩)⟩, .inr ⟨ab, ao, cap, bs, el, z, ?_, by rw [hfl]; exact hcap, hb, hoff, ?_⟩⟩
    · show _ = Value.agg ⟨[_, _, _, _, _, _, _, _, Value.slice _ ((List.range n).map (fileIn w ⟨ab, ao, none⟩)).length cap]⟩
      rw [hfl]
    · intro i u hu
      have hu : (fcs ((List.range n).map (fileIn w ⟨ab, ao, none⟩)))[i]? = some u := hu
      rw [fcs_range, List.getElem?_map] at hu
      have hi : i < 4 * n := by
        rcases Nat.lt_or_ge i (4 * n) with h | h
        · exact h
        · rw [List.getElem?_eq_none (by simpa using h)] at hu
          cases hu
      rw [List.getElem?_range hi] at hu
      obtain ⟨x, hx⟩ := key i hi
      have hint : intAt w ⟨ab, ao, none⟩ i = x := by unfold intAt; rw [hx]
      simp only [Option.map_some, Option.some.injEq] at hu
      rw [← hu, hint]
      rw [addr_add] at hx
      unfold World.cell? at hx
      simp only [hb] at hx
      exact hx
end
end Go.Proofs.YtgofanjbhbeniaaDoor.lf
end
end

section
/- Leaves: a leaf that is handed in, opened: its numbers and its bytes. -/
noncomputable section
namespace Go.Proofs.YtgofanjbhbeniaaDoor.lf
open AE
set_option linter.unusedSimpArgs false
set_option linter.unusedVariables false
set_option maxRecDepth 10000

theorem mapM_all {α β : Type} {f : α → Option β} : ∀ (l : List α) (xs : List β), l.mapM f = some xs → ∀ a ∈ l, ∃ y, f a = some y
  | [], xs, _, a, ha => by simp at ha
  | b :: l, xs, h, a, ha => by
    rw [List.mapM_cons] at h
    simp only [bind, Option.bind_eq_some_iff, pure, Option.some.injEq] at h
    obtain ⟨y, hy, ys, hys, _⟩ := h
    rcases List.mem_cons.1 ha with rfl | ha
    · exact ⟨y, hy⟩
    · exact mapM_all l ys hys a ha
theorem undLf : Tryd.prog.underlying 30 = some (.struct fsLf) := by kernel_rfl
theorem undA : Tryd.prog.underlying 28 = some (.array 116 5) := by kernel_rfl
theorem undI : Tryd.prog.underlying 3 = some (.int .i64) := by kernel_rfl
theorem undU8 : Tryd.prog.underlying 5 = some (.int .u8) := by kernel_rfl
theorem celLf : Tryd.prog.cellsOf 30 = 121 := by kernel_rfl
theorem celA : Tryd.prog.cellsOf 28 = 116 := by kernel_rfl
theorem celI : Tryd.prog.cellsOf 3 = 1 := by kernel_rfl
theorem celU8 : Tryd.prog.cellsOf 5 = 1 := by kernel_rfl
def byteOf : Value → UInt8
  | .int _ (.ofNat m) => UInt8.ofNat m
  | _ => 0
theorem wf_u8 {n : Int} (h : (Lit.int .u8 n).wf = true) : ∃ x : Nat, n = .ofNat x ∧ x < 256 := by
  have h2 : 0 ≤ n ∧ n ≤ 255 := by simpa [Lit.wf, IntKind.min, IntKind.max, IntKind.signed, IntKind.bits] using h
  exact ⟨n.toNat, (Int.toNat_of_nonneg h2.1).symm, by omega⟩
section
variable {H : Type} {enc : TypeId × Value → H} {w : World} {base : Nat} {sp : Nat → Bool} {held : Bool}
theorem one_int {fuel : Nat} {ls : List Value} {i : Nat} {y : DataW H × List MemPlace} {t : TypeId} {k : IntKind} (hu : Tryd.prog.underlying t = some (.int k)) (h : DataW.trod enc Tryd.prog w base sp held fuel t ((ls.drop i).take 1) = some y) :
    ∃ n, ls[i]? = some (.int k n) ∧ (Lit.int k n).wf = true := by
  obtain ⟨n, h1, _, h2⟩ := DataW.trod_int hu h
  refine ⟨n, ?_, h2⟩
  have := congrArg (·[0]?) h1
  simpa [List.getElem?_take, List.getElem?_drop] using this
theorem open_bytes {fuel : Nat} {ls : List Value} {y : DataW H × List MemPlace} (h : DataW.trod enc Tryd.prog w base sp held fuel 28 ls = some y) : ls = (ls.map byteOf).map bv ∧ ls.length = 116 := by
  cases fuel with
  | zero => simp [DataW.trod] at h
  | succ n =>
    rw [DataW.trod_step] at h
    unfold DataW.trodStep at h
    simp only [undA, celA, celU8, Nat.mul_one] at h
    split at h
    · rename_i hl
      simp only [Option.map_eq_some_iff] at h
      obtain ⟨xs, hx, _⟩ := h
      refine ⟨?_, hl⟩
      apply List.ext_getElem?
      intro i
      by_cases hi : i < 116
      · obtain ⟨y, hy⟩ := mapM_all _ _ hx i (List.mem_range.2 hi)
        obtain ⟨m, h1, h2⟩ := one_int undU8 hy
        rw [List.getElem?_map, List.getElem?_map, h1]
        obtain ⟨x, rfl, hx⟩ := wf_u8 h2
        show some (Value.int .u8 (.ofNat x)) = some (Value.int .u8 (.ofNat (UInt8.ofNat x).toNat))
        rw [UInt8.toNat_ofNat_of_lt' hx]
      · rw [List.getElem?_eq_none (by omega), List.getElem?_eq_none (by simp; omega)]
    · cases h
theorem open_leaf {r : Reach} {b0 : Nat} {v : Value} {d : DataW H} {ps : List MemPlace} (hval : Value.okWide Tryd.prog w r b0 30 v) (hd : DataW.Trod enc Tryd.prog w base sp held 30 v d ps) :
    ∃ l : LeafD, v = .agg ⟨l.cells⟩ ∧ l.load.length = 116 := by
  simp only [Value.okWide, undLf] at hval
  obtain ⟨⟨cs⟩, rfl, hsz, _⟩ := hval
  obtain ⟨fuel, hf⟩ := hd
  cases fuel with
  | zero => simp [DataW.trod] at hf
  | succ n =>
    rw [DataW.trod_step] at hf
    unfold DataW.trodStep at hf
    simp only [undLf, Value.cells, celLf] at hf
    split at hf
    · rename_i hl
      simp only [Option.map_eq_some_iff, fs_list] at hf
      obtain ⟨xs, hx, _⟩ := hf
      obtain ⟨y0, h0⟩ := mapM_all _ _ hx (fd 0) (by simp)
      obtain ⟨y1, h1⟩ := mapM_all _ _ hx (fd 1) (by simp)
      obtain ⟨y2, h2⟩ := mapM_all _ _ hx (fd 2) (by simp)
      obtain ⟨y3, h3⟩ := mapM_all _ _ hx (fd 3) (by simp)
      obtain ⟨y4, h4⟩ := mapM_all _ _ hx (fd 4) (by simp)
      obtain ⟨y5, h5⟩ := mapM_all _ _ hx (fd 5) (by simp)
      rw [ft0, fo0, celI] at h0
      rw [ft1, fo1, celI] at h1
      rw [ft2, fo2, celI] at h2
      rw [ft3, fo3, celI] at h3
      rw [ft4, fo4, celI] at h4
      rw [ft5, fo5, celA] at h5
      obtain ⟨n0, g0, _⟩ := one_int undI h0
      obtain ⟨n1, g1, _⟩ := one_int undI h1
      obtain ⟨n2, g2, _⟩ := one_int undI h2
      obtain ⟨n3, g3, _⟩ := one_int undI h3
      obtain ⟨n4, g4, _⟩ := one_int undI h4
      obtain ⟨g5, g6⟩ := open_bytes h5
      match cs, hl, g0, g1, g2, g3, g4, g5, g6 with
      | c0 :: c1 :: c2 :: c3 :: c4 :: ls, hl, g0, g1, g2, g3, g4, g5, g6 =>
        have hls : ls.length = 116 := by simpa using hl
        have e : (List.drop 5 (c0 :: c1 :: c2 :: c3 :: c4 :: ls)).take 116 = ls := by
          show ls.take 116 = ls
          rw [List.take_of_length_le (by omega)]
        rw [e] at g5
        simp at g0 g1 g2 g3 g4
        subst g0; subst g1; subst g2; subst g3; subst g4
        refine ⟨⟨n0, n1, n2, n3, n4, ls.map byteOf⟩, ?_, by rw [List.length_map]; exact hls⟩
        show Value.agg ⟨_⟩ = Value.agg ⟨_⟩
        unfold LeafD.cells
        rw [← g5]
        rfl
    · cases hf
end
end Go.Proofs.YtgofanjbhbeniaaDoor.lf
end
end

section
/- Any catalog, any leaf, its own with a byte turned among them: catalog says what the document says: at all catalogs, leaves, places and turns. -/
namespace Go.Proofs.YtgofanjbhbeniaaDoor.catalogTells
open Go.ChangeShapes Go.WideShapes Go.ChangeAt Go.RowKit
set_option linter.unusedVariables false

theorem own : ownKnob Tryd.prog.godebug = none := by kernel_rfl
theorem laidOut : laidOutB Tryd.prog = true := by kernel_rfl

set_option maxRecDepth 100000 in
set_option maxHeartbeats 1600000 in
theorem lifted (os : Os) (started : os.Started) (H : Type) (enc : TypeId × Value → H) :
    ReturnsInHanded {} Tryd.checked os 3 .any (fun w args => (Rows.catalogTellsSpec.pre enc Tryd.prog Tryd.f3 Rows.catalogTellsRow.domain false w args ∧ laidMetH Tryd.prog Rows.catalogTellsRow.laid w) ∧ sizedMet enc Tryd.prog Tryd.f3 (OpenSpec.ofChange Rows.catalogTellsSpec) false w args)
      (Rows.catalogTellsSpec.post enc Tryd.prog Tryd.f3 false true false false) := by
  refine returnsInHanded_of_change_and (C := Tryd.checked) (X := fun w _ => laidMetH Tryd.prog Rows.catalogTellsRow.laid w) (fun _ _ _ hh h => h.of_heap hh) own started (by kernel_rfl) Tryd.func3
    (ChangeSpec.witness_shaped (enc := enc) (C := Tryd.checked) (os := os) (X := fun w _ => laidMetH Tryd.prog Rows.catalogTellsRow.laid w) false (World.laidAll Tryd.prog os Rows.catalogTellsRow.laid) #[.agg #[.int .i64 0, .int .i64 0, .int .i64 0, .bool false, .int .i64 0, .int .i64 0, .int .i64 0, .int .i64 0, .slice none 0 0], .agg ⟨lf.zeroL.cells⟩, .int .i64 0, .int .u8 0, .bool false] 8 (World.laidAll_os _ _ _)
      (World.shaped_of_ZipB (by kernel_rfl) (by kernel_rfl)) (by kernel_rfl) (by kernel_rfl) (by kernel_rfl)
      (by rw [MakeChecks.laidMetH_plain _ _ _ (by kernel_rfl)]; exact laidMet_laidAll _ (by kernel_rfl) (by kernel_rfl))) ?_
  intro W base args ds gs before hval0 hW hc _ hL _
  have hval : ∀ (j : Nat) t v, Tryd.f3.params[j]? = some t → args[j]? = some v → Value.okWide Tryd.prog W .any base t v := hval0
  have hW' := hW
  obtain ⟨p, q, hA0, hV, rfl, hfz, hnd⟩ := hW
  have hA : DataW.TrodAll enc Tryd.prog W 0 (fun _ => true) true Tryd.f3.params.toList args.toList ds p := hA0
  rw [Tryd.params3] at hA hval
  obtain ⟨v0, vs0, d0, ds0, p0, q0, hargs, rfl, rfl, h0, r0⟩ := trodAll_cons hA
  obtain ⟨v1, vs1, d1, ds1, p1, q1, rfl, rfl, rfl, h1, r1⟩ := trodAll_cons r0
  obtain ⟨v2, vs2, d2, ds2, p2, q2, rfl, rfl, rfl, h2, r2⟩ := trodAll_cons r1
  obtain ⟨v3, vs3, d3, ds3, p3, q3, rfl, rfl, rfl, h3, r3⟩ := trodAll_cons r2
  obtain ⟨v4, vs4, d4, ds4, p4, q4, rfl, rfl, rfl, h4, r4⟩ := trodAll_cons r3
  obtain ⟨rfl, rfl, rfl⟩ := trodAll_nil r4
  obtain rfl : args = #[v0, v1, v2, v3, v4] := by cases args; simp_all
  obtain ⟨rfl, rfl⟩ := trodVars_none hV
  have k0 := h0
  have lt0 : ∀ x ∈ p0, x.block < W.heap.size := by obtain ⟨m, hm⟩ := k0; exact DataW.trod_lt m _ _ _ hm
  have k1 := h1
  have lt1 : ∀ x ∈ p1, x.block < W.heap.size := by obtain ⟨m, hm⟩ := k1; exact DataW.trod_lt m _ _ _ hm
  have k2 := h2
  have lt2 : ∀ x ∈ p2, x.block < W.heap.size := by obtain ⟨m, hm⟩ := k2; exact DataW.trod_lt m _ _ _ hm
  have k3 := h3
  have lt3 : ∀ x ∈ p3, x.block < W.heap.size := by obtain ⟨m, hm⟩ := k3; exact DataW.trod_lt m _ _ _ hm
  have k4 := h4
  have lt4 : ∀ x ∈ p4, x.block < W.heap.size := by obtain ⟨m, hm⟩ := k4; exact DataW.trod_lt m _ _ _ hm
  obtain ⟨D0, hc0⟩ := lf.open_cat (hval 0 27 v0 rfl rfl) h0
  obtain ⟨l1, rfl, ll1⟩ := lf.open_leaf (hval 1 30 v1 rfl rfl) h1
  obtain ⟨a2, rfl, rfl, rfl, w2⟩ := open_int Tryd.underlying3 (hval 2 3 v2 rfl rfl) h2
  obtain ⟨a3, rfl, rfl, rfl, w3⟩ := open_int Tryd.underlying5 (hval 3 5 v3 rfl rfl) h3
  obtain ⟨y3, rfl, hy3⟩ := lf.wf_u8 w3
  obtain ⟨x3, rfl⟩ : ∃ x : UInt8, y3 = x.toNat := ⟨UInt8.ofNat y3, (UInt8.toNat_ofNat_of_lt' hy3).symm⟩
  obtain ⟨a4, rfl, rfl, rfl⟩ := open_bool Tryd.underlying4 (hval 4 4 v4 rfl rfl) h4
  clear hA0 hval0
  refine (lf.catalogTells_any D0 l1 ll1 a2 x3 a4 v0 W hc0).mono fun e W' ⟨he, bel⟩ => ?_
  subst he
  exact ⟨_, rfl, _, _, _, [], _, [], hW', trodAll_mk1 (shut_bool Tryd.underlying4 _), (trodAll_cons_mk (Below.trod laidOut (by kernel_rfl) (of_decide_eq_true (by kernel_rfl)) k0 bel lt0) (trodAll_cons_mk (Below.trod laidOut (by kernel_rfl) (of_decide_eq_true (by kernel_rfl)) k1 bel lt1) (trodAll_cons_mk (Below.trod laidOut (by kernel_rfl) (of_decide_eq_true (by kernel_rfl)) k2 bel lt2) (trodAll_cons_mk (Below.trod laidOut (by kernel_rfl) (of_decide_eq_true (by kernel_rfl)) k3 bel lt3) (trodAll_cons_mk (Below.trod laidOut (by kernel_rfl) (of_decide_eq_true (by kernel_rfl)) k4 bel lt4) trodAll_mk0))))), rfl, bel.frame _, fun h => by cases h⟩

theorem over : Rows.catalogTellsRow.holds Tryd.pinned (OpenSpec.ofChange Rows.catalogTellsSpec) :=
  OpenClaim.holds_of_wide 3 Tryd.f3 rfl rfl rfl rfl rfl rfl rfl ⟨rfl, rfl, rfl, rfl, rfl⟩ rfl rfl rfl rfl rfl (by kernel_rfl) Tryd.func3 (by kernel_rfl)
    (of_decide_eq_true (by kernel_rfl)) (by unfold Func.isWrapper; first | (rw [if_pos (by decide +kernel)]; kernel_rfl) | (rw [if_neg (by decide +kernel)]; exact ⟨rfl, rfl⟩))
    (fun os started H enc _ => lifted os started H enc)

theorem wants0 : Tryd.pinned.checked.prog.wantsStandIn 27 = false := by kernel_rfl
theorem wants1 : Tryd.pinned.checked.prog.wantsStandIn 30 = false := by kernel_rfl
theorem wants2 : Tryd.pinned.checked.prog.wantsStandIn 3 = false := by kernel_rfl
theorem wants3 : Tryd.pinned.checked.prog.wantsStandIn 5 = false := by kernel_rfl
theorem wants4 : Tryd.pinned.checked.prog.wantsStandIn 4 = false := by kernel_rfl
/-- the statement -/
theorem proved : Rows.CatalogTellsCardSaid :=
  Claim7.holds_tied_plain_at .later [] [.data, .pinned] true (true, "334530d2b209fd268b8213391b41bfb2cf022d5de982bb0eea3455add9bf5210") false over (fun _ h => by cases h) (by kernel_rfl) (fun _ h => by cases h) catalogTells_row_tie rfl ⟨rfl, rfl⟩ (by kernel_rfl) rfl
    (fun f fn hf hfn => by
      obtain rfl : f = 3 := Option.some.inj ((show Tryd.prog.funcNamed "sheaf/sheaflaw6.CatalogTells" = some 3 by kernel_rfl).symm.trans hf) |>.symm
      obtain rfl : fn = Tryd.f3 := (Option.some.inj (Tryd.func3.symm.trans hfn)).symm
      exact ⟨by kernel_rfl, fun j t ht => by
        rw [Tryd.params3] at ht
        match j, ht with
        | 0, ht => have e : (27 : Nat) = t := Option.some.inj ht; subst e; exact wants0
        | 1, ht => have e : (30 : Nat) = t := Option.some.inj ht; subst e; exact wants1
        | 2, ht => have e : (3 : Nat) = t := Option.some.inj ht; subst e; exact wants2
        | 3, ht => have e : (5 : Nat) = t := Option.some.inj ht; subst e; exact wants3
        | 4, ht => have e : (4 : Nat) = t := Option.some.inj ht; subst e; exact wants4
        | j + 5, ht => simp at ht⟩)
    (by kernel_rfl)
#print axioms proved
end Go.Proofs.YtgofanjbhbeniaaDoor.catalogTells
end
