/- Catalogs: whether a catalog may be, as the document has it: one turn of its loop. (printed by wip/gen/tl1b.py) -/
import Derived.Test.YtgofanjbhbeniaaDoorPRowCatalogTells4
import Derived.Test.YtgofanjbhbeniaaDoorAe43
section
/- Catalogs: whether a catalog may be, as the document has it: one turn of its loop. (printed by wip/gen/tl1b.py) -/
noncomputable section
namespace Go.Proofs.YtgofanjbhbeniaaDoor.lf
open AE
set_option linter.unusedSimpArgs false
set_option linter.unusedVariables false
set_option maxRecDepth 10000

noncomputable def fiRC : FI := FI.of Tryd.f14
noncomputable def cdRC : Code := bodyOf Tryd.f14
noncomputable def cdRCl : Code := sub [1,1,0,1,0,0] cdRC
theorem resRC : fiRC.results = [.tmp 2] := rfl
theorem small_name {n : Nat} (h : n ≤ 1000) : Nat.ble n lastName = true := ble_iff.2 (Nat.le_trans h (Nat.le_of_ble_eq_true rfl))
theorem fcs_name (fs : List FileD) (i : Nat) (f : FileD) (h : fs[i]? = some f) : (fcs fs)[i * 4]? = some (.int .i64 f.name) := by
  have h1 := fcs_at fs i f h
  have h2 : (((fcs fs).drop (i * 4)).take 4)[0]? = some (.int .i64 f.name) := by rw [h1]; rfl
  rw [List.getElem?_take, if_pos (by omega), List.getElem?_drop, Nat.add_zero] at h2
  exact h2
def lastAt (fs : List FileD) : Nat → Int
  | 0 => 0
  | i + 1 => match fs[i]? with | some f => f.name | none => 0
def InvRC (B cap N0 : Nat) (a : Option Addr) (D : CatD) (k : Nat) (fr : Fr) (s : S) : Prop :=
  ∃ (i : Nat) (t : Tr Value), k = D.files.length - i ∧ i ≤ D.files.length ∧ fr = ⟨14, t, 133, [], none⟩ ∧ s.next ≤ N0 + i ∧ Cl s B 0 (D.cells a cap) ∧ Vx s a (fcs D.files) ∧
    t.get 1 = some (.pointer (some ⟨B, 0, none⟩)) ∧ t.get 62 = some (.slice a D.files.length cap) ∧ t.get 63 = some (.int .i64 (.ofNat D.files.length)) ∧ t.get 64 = some (.int .i64 (.ofNat i)) ∧ filesOK 0 D.files = filesOK (lastAt D.files i) (D.files.drop i)
def PostRC (N0 : Nat) (D : CatD) (ex : Ex) (fr : Fr) (s : S) : Prop :=
  ∃ t : Tr Value, fr = ⟨14, t, 133, [], none⟩ ∧ s.next ≤ N0 + D.files.length + 1 ∧
    ((ex = .exit 0 ∧ filesOK 0 D.files = true) ∨ (ex = .ret ∧ filesOK 0 D.files = false ∧ t.get 2 = some (.bool false)))
theorem lt65 (x : Int) : ltI x 65536 = !ltI 65535 x := by
  rw [ltI_eq, ltI_not]
  by_cases h : x < 65536
  · rw [decide_eq_true h, decide_eq_true (by omega)]
  · rw [decide_eq_false h, decide_eq_false (by omega)]
theorem sub1 (j : Nat) (h : j < 1000000) : wrapA .i64 (Int.sub (Int.ofNat (j + 1)) (Int.ofNat 1)) = Int.ofNat j := by
  have e : Int.sub (Int.ofNat (j + 1)) (Int.ofNat 1) = Int.ofNat j := by
    show ((j + 1 : Nat) : Int) - ((1 : Nat) : Int) = ((j : Nat) : Int)
    omega
  rw [e]
  exact wrap64 (by omega)
theorem i65536 : (65536 : Int) = Int.ofNat 65536 := rfl

noncomputable def opsR6 : List Oper := match sub [1,1,0,0,1,0] cdRCl with
  | .region _ ops _ => ops.toList
  | _ => []
noncomputable def part6 (a n : Nat) : List Oper := (opsR6.drop a).take n
/-- which operation gives a temp -/
def Gives (all : List Oper) (l : List (Nat × Nat)) : Prop := ∀ x ∈ l, ∃ p, nth all x.1 = some p ∧ p.dst = some x.2
theorem gives_all : Gives opsR6 [(3, 72), (8, 77), (11, 80), (24, 93), (29, 98), (34, 103), (39, 108), (44, 113), (49, 118), (54, 123)] := by
  intro x hx
  simp only [List.mem_cons, List.not_mem_nil, or_false] at hx
  rcases hx with rfl | rfl | rfl | rfl | rfl | rfl | rfl | rfl | rfl | rfl
  all_goals exact ⟨_, rfl, rfl⟩
/-- what the frame holds as the turn begins -/
structure Fr6 (t : Tr Value) (B N i : Nat) (ab ao len cap : Nat) : Prop where
  g1 : t.get 1 = some (.pointer (some ⟨B, 0, none⟩))
  g3 : t.get 3 = some (.int .i64 (.ofNat i))
  g4 : t.get 4 = some (.pointer (some ⟨N, 0, none⟩))
  g62 : t.get 62 = some (.slice (some ⟨ab, ao, none⟩) len cap)
  g63 : t.get 63 = some (.int .i64 (.ofNat len))
  g64 : t.get 64 = some (.int .i64 (.ofNat i))
/-- what memory holds as the turn begins -/
structure Mem6 (H : Tr AObj) (NN B N : Nat) (D : CatD) (f : FileD) (ab ao cap : Nat) : Prop where
  F : Cl ⟨H, NN, NN, 0, 0⟩ N 0 f.cells
  C : Cl ⟨H, NN, NN, 0, 0⟩ B 0 (D.cells (some ⟨ab, ao, none⟩) cap)
  R : Cl ⟨H, NN, NN, 0, 0⟩ ab ao (fcs D.files)

set_option maxHeartbeats 1000000 in
theorem r6_0 (all : List Oper) (hall : Gives all [(3, 72), (8, 77), (11, 80), (24, 93), (29, 98), (34, 103), (39, 108), (44, 113), (49, 118), (54, 123)]) (H : Tr AObj) (NN B N i : Nat) (D : CatD) (f : FileD) (ab ao cap : Nat) (hM : Mem6 H NN B N D f ab ao cap) (t : Tr Value) (hF : Fr6 t B N i ab ao D.files.length cap) :
    ∃ t2, RdOps E (sumsOf []) all H NN (part6 0 4) ⟨14, t, 133, [], none⟩ ⟨14, t2, 133, [], none⟩ ∧ Fr6 t2 B N i ab ao D.files.length cap ∧ t2.get 72 = some (.bool (ltI f.name 1)) := by
  obtain ⟨p3, n3, d3⟩ := hall (3, 72) (by simp)
  obtain ⟨p8, n8, d8⟩ := hall (8, 77) (by simp)
  obtain ⟨p11, n11, d11⟩ := hall (11, 80) (by simp)
  obtain ⟨p24, n24, d24⟩ := hall (24, 93) (by simp)
  obtain ⟨p29, n29, d29⟩ := hall (29, 98) (by simp)
  obtain ⟨p34, n34, d34⟩ := hall (34, 103) (by simp)
  obtain ⟨p39, n39, d39⟩ := hall (39, 108) (by simp)
  obtain ⟨p44, n44, d44⟩ := hall (44, 113) (by simp)
  obtain ⟨p49, n49, d49⟩ := hall (49, 118) (by simp)
  obtain ⟨p54, n54, d54⟩ := hall (54, 123) (by simp)
  simp only at n3 d3 n8 d8 n11 d11 n24 d24 n29 d29 n34 d34 n39 d39 n44 d44 n49 d49 n54 d54
  obtain ⟨g1, g3, g4, g62, g63, g64⟩ := hF
  have l0 := hM.F.ld (k := 0) tiI (by rw [dsI]; rfl) rfl
  have l1 := hM.F.ld (k := 1) tiI (by rw [dsI]; rfl) rfl
  have l2 := hM.F.ld (k := 2) tiI (by rw [dsI]; rfl) rfl
  have l3 := hM.F.ld (k := 3) tiI (by rw [dsI]; rfl) rfl
  have l8 := hM.C.ld (k := 8) tiFs (by rw [dsFs]; rfl) rfl
  simp only [Nat.zero_add] at l0 l1 l2 l3 l8
  have ad8 : addA ⟨B, 0, none⟩ 8 = ⟨B, 8, none⟩ := rfl
  unfold part6
  simp only [opsR6, cdRCl, cdRC, Tryd.f14, bodyOf, sub, List.drop, List.take]
  refine ⟨?t, ?h, ?f, ?o⟩
  case h =>
    repeat (apply RdOps.cons; · (apply Exists.intro; intro m; simp (maxSteps := 2000000) (disch := decide) only [opsLoop, evOper, wantedA, nth, aop, aPick, aBin, aIndexAddr, aFieldAddr, aLoad, aStore, aExtract, aConvert, aAlloc, aBox, aIndex, callA, builtinA, Fr.evs, opt, val, when, AM.run, outV, newA, ptr, force_eq, seen_heap, seen_next, seen_mark, seen_seen, agg_cells, int_cells, Fr.ev, Fr.put, onFr, gps, gpn, bltT, still, flat, List.append_nil, List.nil_append, List.cons_append, Nat.reduceEqDiff, ne_eq, not_false_eq_true, reduceCtorEq, Bool.and_true, Bool.true_and, Bool.and_false, Bool.false_and, Bool.not_true, Bool.not_false, Bool.and_self, tyF, dsF, flF0, flF1, flF2, flF3, ftF0, ftF1, ftF2, ftF3, foF0, foF1, foF2, foF3, tyC, dsC, flC5, ftC5, foC5, tyFs, dsFs, szFs, szF, tyI, szI, ble11, ad0, ad1, ad2, ad3', ad8, l0, l1, l2, l3, l8, b_lss, b_gtr, b_geq, b_eql, neB_tt, b_sub, int0, int1, i65536, g1, g3, g4, n3, d3, n8, d8, n11, d11, n24, d24, n29, d29, n34, d34, n39, d39, n44, d44, n49, d49, n54, d54]; rfl))
    exact .nil _
  case f => exact ⟨by simp (disch := decide) only [gps, gpn, g1], by simp (disch := decide) only [gps, gpn, g3], by simp (disch := decide) only [gps, gpn, g4], by simp (disch := decide) only [gps, gpn, g62], by simp (disch := decide) only [gps, gpn, g63], by simp (disch := decide) only [gps, gpn, g64]⟩
  case o => simp (disch := decide) only [gps, gpn] <;> rfl
set_option maxHeartbeats 1000000 in
theorem r6_1 (all : List Oper) (hall : Gives all [(3, 72), (8, 77), (11, 80), (24, 93), (29, 98), (34, 103), (39, 108), (44, 113), (49, 118), (54, 123)]) (H : Tr AObj) (NN B N i : Nat) (D : CatD) (f : FileD) (ab ao cap : Nat) (hM : Mem6 H NN B N D f ab ao cap) (t : Tr Value) (hF : Fr6 t B N i ab ao D.files.length cap) (r : Bool) (hr : t.get 72 = some (.bool r)) :
    ∃ t2, RdOps E (sumsOf []) all H NN (part6 4 5) ⟨14, t, 133, [], none⟩ ⟨14, t2, 133, [], none⟩ ∧ Fr6 t2 B N i ab ao D.files.length cap ∧ t2.get 77 = some (.bool (r || (ltI 255 f.name))) := by
  obtain ⟨p3, n3, d3⟩ := hall (3, 72) (by simp)
  obtain ⟨p8, n8, d8⟩ := hall (8, 77) (by simp)
  obtain ⟨p11, n11, d11⟩ := hall (11, 80) (by simp)
  obtain ⟨p24, n24, d24⟩ := hall (24, 93) (by simp)
  obtain ⟨p29, n29, d29⟩ := hall (29, 98) (by simp)
  obtain ⟨p34, n34, d34⟩ := hall (34, 103) (by simp)
  obtain ⟨p39, n39, d39⟩ := hall (39, 108) (by simp)
  obtain ⟨p44, n44, d44⟩ := hall (44, 113) (by simp)
  obtain ⟨p49, n49, d49⟩ := hall (49, 118) (by simp)
  obtain ⟨p54, n54, d54⟩ := hall (54, 123) (by simp)
  simp only at n3 d3 n8 d8 n11 d11 n24 d24 n29 d29 n34 d34 n39 d39 n44 d44 n49 d49 n54 d54
  obtain ⟨g1, g3, g4, g62, g63, g64⟩ := hF
  have l0 := hM.F.ld (k := 0) tiI (by rw [dsI]; rfl) rfl
  have l1 := hM.F.ld (k := 1) tiI (by rw [dsI]; rfl) rfl
  have l2 := hM.F.ld (k := 2) tiI (by rw [dsI]; rfl) rfl
  have l3 := hM.F.ld (k := 3) tiI (by rw [dsI]; rfl) rfl
  have l8 := hM.C.ld (k := 8) tiFs (by rw [dsFs]; rfl) rfl
  simp only [Nat.zero_add] at l0 l1 l2 l3 l8
  have ad8 : addA ⟨B, 0, none⟩ 8 = ⟨B, 8, none⟩ := rfl
  unfold part6
  simp only [opsR6, cdRCl, cdRC, Tryd.f14, bodyOf, sub, List.drop, List.take]
  cases r
  case false =>
    refine ⟨?tfalse, ?hfalse, ?ffalse, ?ofalse⟩
    case hfalse =>
      repeat (apply RdOps.cons; · (apply Exists.intro; intro m; simp (maxSteps := 2000000) (disch := decide) only [opsLoop, evOper, wantedA, nth, aop, aPick, aBin, aIndexAddr, aFieldAddr, aLoad, aStore, aExtract, aConvert, aAlloc, aBox, aIndex, callA, builtinA, Fr.evs, opt, val, when, AM.run, outV, newA, ptr, force_eq, seen_heap, seen_next, seen_mark, seen_seen, agg_cells, int_cells, Fr.ev, Fr.put, onFr, gps, gpn, bltT, still, flat, List.append_nil, List.nil_append, List.cons_append, Nat.reduceEqDiff, ne_eq, not_false_eq_true, reduceCtorEq, Bool.and_true, Bool.true_and, Bool.and_false, Bool.false_and, Bool.not_true, Bool.not_false, Bool.and_self, tyF, dsF, flF0, flF1, flF2, flF3, ftF0, ftF1, ftF2, ftF3, foF0, foF1, foF2, foF3, tyC, dsC, flC5, ftC5, foC5, tyFs, dsFs, szFs, szF, tyI, szI, ble11, ad0, ad1, ad2, ad3', ad8, l0, l1, l2, l3, l8, b_lss, b_gtr, b_geq, b_eql, neB_tt, b_sub, int0, int1, i65536, g1, g3, g4, n3, d3, n8, d8, n11, d11, n24, d24, n29, d29, n34, d34, n39, d39, n44, d44, n49, d49, n54, d54, hr]; rfl))
      exact .nil _
    case ffalse => exact ⟨by simp (disch := decide) only [gps, gpn, g1], by simp (disch := decide) only [gps, gpn, g3], by simp (disch := decide) only [gps, gpn, g4], by simp (disch := decide) only [gps, gpn, g62], by simp (disch := decide) only [gps, gpn, g63], by simp (disch := decide) only [gps, gpn, g64]⟩
    case ofalse => simp (disch := decide) only [gps, gpn, Bool.false_or, Bool.true_or] <;> rfl
  case true =>
    refine ⟨?ttrue, ?htrue, ?ftrue, ?otrue⟩
    case htrue =>
      repeat (apply RdOps.cons; · (apply Exists.intro; intro m; simp (maxSteps := 2000000) (disch := decide) only [opsLoop, evOper, wantedA, nth, aop, aPick, aBin, aIndexAddr, aFieldAddr, aLoad, aStore, aExtract, aConvert, aAlloc, aBox, aIndex, callA, builtinA, Fr.evs, opt, val, when, AM.run, outV, newA, ptr, force_eq, seen_heap, seen_next, seen_mark, seen_seen, agg_cells, int_cells, Fr.ev, Fr.put, onFr, gps, gpn, bltT, still, flat, List.append_nil, List.nil_append, List.cons_append, Nat.reduceEqDiff, ne_eq, not_false_eq_true, reduceCtorEq, Bool.and_true, Bool.true_and, Bool.and_false, Bool.false_and, Bool.not_true, Bool.not_false, Bool.and_self, tyF, dsF, flF0, flF1, flF2, flF3, ftF0, ftF1, ftF2, ftF3, foF0, foF1, foF2, foF3, tyC, dsC, flC5, ftC5, foC5, tyFs, dsFs, szFs, szF, tyI, szI, ble11, ad0, ad1, ad2, ad3', ad8, l0, l1, l2, l3, l8, b_lss, b_gtr, b_geq, b_eql, neB_tt, b_sub, int0, int1, i65536, g1, g3, g4, n3, d3, n8, d8, n11, d11, n24, d24, n29, d29, n34, d34, n39, d39, n44, d44, n49, d49, n54, d54, hr]; rfl))
      exact .nil _
    case ftrue => exact ⟨by simp (disch := decide) only [gps, gpn, g1], by simp (disch := decide) only [gps, gpn, g3], by simp (disch := decide) only [gps, gpn, g4], by simp (disch := decide) only [gps, gpn, g62], by simp (disch := decide) only [gps, gpn, g63], by simp (disch := decide) only [gps, gpn, g64]⟩
    case otrue => simp (disch := decide) only [gps, gpn, Bool.false_or, Bool.true_or] <;> rfl
set_option maxHeartbeats 1000000 in
theorem r6_3 (all : List Oper) (hall : Gives all [(3, 72), (8, 77), (11, 80), (24, 93), (29, 98), (34, 103), (39, 108), (44, 113), (49, 118), (54, 123)]) (H : Tr AObj) (NN B N i : Nat) (D : CatD) (f : FileD) (ab ao cap : Nat) (hM : Mem6 H NN B N D f ab ao cap) (t : Tr Value) (hF : Fr6 t B N i ab ao D.files.length cap) (r : Bool) (hr : t.get 93 = some (.bool r)) :
    ∃ t2, RdOps E (sumsOf []) all H NN (part6 25 5) ⟨14, t, 133, [], none⟩ ⟨14, t2, 133, [], none⟩ ∧ Fr6 t2 B N i ab ao D.files.length cap ∧ t2.get 98 = some (.bool (r || (ltI f.file 1))) := by
  obtain ⟨p3, n3, d3⟩ := hall (3, 72) (by simp)
  obtain ⟨p8, n8, d8⟩ := hall (8, 77) (by simp)
  obtain ⟨p11, n11, d11⟩ := hall (11, 80) (by simp)
  obtain ⟨p24, n24, d24⟩ := hall (24, 93) (by simp)
  obtain ⟨p29, n29, d29⟩ := hall (29, 98) (by simp)
  obtain ⟨p34, n34, d34⟩ := hall (34, 103) (by simp)
  obtain ⟨p39, n39, d39⟩ := hall (39, 108) (by simp)
  obtain ⟨p44, n44, d44⟩ := hall (44, 113) (by simp)
  obtain ⟨p49, n49, d49⟩ := hall (49, 118) (by simp)
  obtain ⟨p54, n54, d54⟩ := hall (54, 123) (by simp)
  simp only at n3 d3 n8 d8 n11 d11 n24 d24 n29 d29 n34 d34 n39 d39 n44 d44 n49 d49 n54 d54
  obtain ⟨g1, g3, g4, g62, g63, g64⟩ := hF
  have l0 := hM.F.ld (k := 0) tiI (by rw [dsI]; rfl) rfl
  have l1 := hM.F.ld (k := 1) tiI (by rw [dsI]; rfl) rfl
  have l2 := hM.F.ld (k := 2) tiI (by rw [dsI]; rfl) rfl
  have l3 := hM.F.ld (k := 3) tiI (by rw [dsI]; rfl) rfl
  have l8 := hM.C.ld (k := 8) tiFs (by rw [dsFs]; rfl) rfl
  simp only [Nat.zero_add] at l0 l1 l2 l3 l8
  have ad8 : addA ⟨B, 0, none⟩ 8 = ⟨B, 8, none⟩ := rfl
  unfold part6
  simp only [opsR6, cdRCl, cdRC, Tryd.f14, bodyOf, sub, List.drop, List.take]
  cases r
  case false =>
    refine ⟨?tfalse, ?hfalse, ?ffalse, ?ofalse⟩
    case hfalse =>
      repeat (apply RdOps.cons; · (apply Exists.intro; intro m; simp (maxSteps := 2000000) (disch := decide) only [opsLoop, evOper, wantedA, nth, aop, aPick, aBin, aIndexAddr, aFieldAddr, aLoad, aStore, aExtract, aConvert, aAlloc, aBox, aIndex, callA, builtinA, Fr.evs, opt, val, when, AM.run, outV, newA, ptr, force_eq, seen_heap, seen_next, seen_mark, seen_seen, agg_cells, int_cells, Fr.ev, Fr.put, onFr, gps, gpn, bltT, still, flat, List.append_nil, List.nil_append, List.cons_append, Nat.reduceEqDiff, ne_eq, not_false_eq_true, reduceCtorEq, Bool.and_true, Bool.true_and, Bool.and_false, Bool.false_and, Bool.not_true, Bool.not_false, Bool.and_self, tyF, dsF, flF0, flF1, flF2, flF3, ftF0, ftF1, ftF2, ftF3, foF0, foF1, foF2, foF3, tyC, dsC, flC5, ftC5, foC5, tyFs, dsFs, szFs, szF, tyI, szI, ble11, ad0, ad1, ad2, ad3', ad8, l0, l1, l2, l3, l8, b_lss, b_gtr, b_geq, b_eql, neB_tt, b_sub, int0, int1, i65536, g1, g3, g4, n3, d3, n8, d8, n11, d11, n24, d24, n29, d29, n34, d34, n39, d39, n44, d44, n49, d49, n54, d54, hr]; rfl))
      exact .nil _
    case ffalse => exact ⟨by simp (disch := decide) only [gps, gpn, g1], by simp (disch := decide) only [gps, gpn, g3], by simp (disch := decide) only [gps, gpn, g4], by simp (disch := decide) only [gps, gpn, g62], by simp (disch := decide) only [gps, gpn, g63], by simp (disch := decide) only [gps, gpn, g64]⟩
    case ofalse => simp (disch := decide) only [gps, gpn, Bool.false_or, Bool.true_or] <;> rfl
  case true =>
    refine ⟨?ttrue, ?htrue, ?ftrue, ?otrue⟩
    case htrue =>
      repeat (apply RdOps.cons; · (apply Exists.intro; intro m; simp (maxSteps := 2000000) (disch := decide) only [opsLoop, evOper, wantedA, nth, aop, aPick, aBin, aIndexAddr, aFieldAddr, aLoad, aStore, aExtract, aConvert, aAlloc, aBox, aIndex, callA, builtinA, Fr.evs, opt, val, when, AM.run, outV, newA, ptr, force_eq, seen_heap, seen_next, seen_mark, seen_seen, agg_cells, int_cells, Fr.ev, Fr.put, onFr, gps, gpn, bltT, still, flat, List.append_nil, List.nil_append, List.cons_append, Nat.reduceEqDiff, ne_eq, not_false_eq_true, reduceCtorEq, Bool.and_true, Bool.true_and, Bool.and_false, Bool.false_and, Bool.not_true, Bool.not_false, Bool.and_self, tyF, dsF, flF0, flF1, flF2, flF3, ftF0, ftF1, ftF2, ftF3, foF0, foF1, foF2, foF3, tyC, dsC, flC5, ftC5, foC5, tyFs, dsFs, szFs, szF, tyI, szI, ble11, ad0, ad1, ad2, ad3', ad8, l0, l1, l2, l3, l8, b_lss, b_gtr, b_geq, b_eql, neB_tt, b_sub, int0, int1, i65536, g1, g3, g4, n3, d3, n8, d8, n11, d11, n24, d24, n29, d29, n34, d34, n39, d39, n44, d44, n49, d49, n54, d54, hr]; rfl))
      exact .nil _
    case ftrue => exact ⟨by simp (disch := decide) only [gps, gpn, g1], by simp (disch := decide) only [gps, gpn, g3], by simp (disch := decide) only [gps, gpn, g4], by simp (disch := decide) only [gps, gpn, g62], by simp (disch := decide) only [gps, gpn, g63], by simp (disch := decide) only [gps, gpn, g64]⟩
    case otrue => simp (disch := decide) only [gps, gpn, Bool.false_or, Bool.true_or] <;> rfl
set_option maxHeartbeats 1000000 in
theorem r6_4 (all : List Oper) (hall : Gives all [(3, 72), (8, 77), (11, 80), (24, 93), (29, 98), (34, 103), (39, 108), (44, 113), (49, 118), (54, 123)]) (H : Tr AObj) (NN B N i : Nat) (D : CatD) (f : FileD) (ab ao cap : Nat) (hM : Mem6 H NN B N D f ab ao cap) (t : Tr Value) (hF : Fr6 t B N i ab ao D.files.length cap) (r : Bool) (hr : t.get 98 = some (.bool r)) :
    ∃ t2, RdOps E (sumsOf []) all H NN (part6 30 5) ⟨14, t, 133, [], none⟩ ⟨14, t2, 133, [], none⟩ ∧ Fr6 t2 B N i ab ao D.files.length cap ∧ t2.get 103 = some (.bool (r || (!ltI f.file 65536))) := by
  obtain ⟨p3, n3, d3⟩ := hall (3, 72) (by simp)
  obtain ⟨p8, n8, d8⟩ := hall (8, 77) (by simp)
  obtain ⟨p11, n11, d11⟩ := hall (11, 80) (by simp)
  obtain ⟨p24, n24, d24⟩ := hall (24, 93) (by simp)
  obtain ⟨p29, n29, d29⟩ := hall (29, 98) (by simp)
  obtain ⟨p34, n34, d34⟩ := hall (34, 103) (by simp)
  obtain ⟨p39, n39, d39⟩ := hall (39, 108) (by simp)
  obtain ⟨p44, n44, d44⟩ := hall (44, 113) (by simp)
  obtain ⟨p49, n49, d49⟩ := hall (49, 118) (by simp)
  obtain ⟨p54, n54, d54⟩ := hall (54, 123) (by simp)
  simp only at n3 d3 n8 d8 n11 d11 n24 d24 n29 d29 n34 d34 n39 d39 n44 d44 n49 d49 n54 d54
  obtain ⟨g1, g3, g4, g62, g63, g64⟩ := hF
  have l0 := hM.F.ld (k := 0) tiI (by rw [dsI]; rfl) rfl
  have l1 := hM.F.ld (k := 1) tiI (by rw [dsI]; rfl) rfl
  have l2 := hM.F.ld (k := 2) tiI (by rw [dsI]; rfl) rfl
  have l3 := hM.F.ld (k := 3) tiI (by rw [dsI]; rfl) rfl
  have l8 := hM.C.ld (k := 8) tiFs (by rw [dsFs]; rfl) rfl
  simp only [Nat.zero_add] at l0 l1 l2 l3 l8
  have ad8 : addA ⟨B, 0, none⟩ 8 = ⟨B, 8, none⟩ := rfl
  unfold part6
  simp only [opsR6, cdRCl, cdRC, Tryd.f14, bodyOf, sub, List.drop, List.take]
  cases r
  case false =>
    refine ⟨?tfalse, ?hfalse, ?ffalse, ?ofalse⟩
    case hfalse =>
      repeat (apply RdOps.cons; · (apply Exists.intro; intro m; simp (maxSteps := 2000000) (disch := decide) only [opsLoop, evOper, wantedA, nth, aop, aPick, aBin, aIndexAddr, aFieldAddr, aLoad, aStore, aExtract, aConvert, aAlloc, aBox, aIndex, callA, builtinA, Fr.evs, opt, val, when, AM.run, outV, newA, ptr, force_eq, seen_heap, seen_next, seen_mark, seen_seen, agg_cells, int_cells, Fr.ev, Fr.put, onFr, gps, gpn, bltT, still, flat, List.append_nil, List.nil_append, List.cons_append, Nat.reduceEqDiff, ne_eq, not_false_eq_true, reduceCtorEq, Bool.and_true, Bool.true_and, Bool.and_false, Bool.false_and, Bool.not_true, Bool.not_false, Bool.and_self, tyF, dsF, flF0, flF1, flF2, flF3, ftF0, ftF1, ftF2, ftF3, foF0, foF1, foF2, foF3, tyC, dsC, flC5, ftC5, foC5, tyFs, dsFs, szFs, szF, tyI, szI, ble11, ad0, ad1, ad2, ad3', ad8, l0, l1, l2, l3, l8, b_lss, b_gtr, b_geq, b_eql, neB_tt, b_sub, int0, int1, i65536, g1, g3, g4, n3, d3, n8, d8, n11, d11, n24, d24, n29, d29, n34, d34, n39, d39, n44, d44, n49, d49, n54, d54, hr]; rfl))
      exact .nil _
    case ffalse => exact ⟨by simp (disch := decide) only [gps, gpn, g1], by simp (disch := decide) only [gps, gpn, g3], by simp (disch := decide) only [gps, gpn, g4], by simp (disch := decide) only [gps, gpn, g62], by simp (disch := decide) only [gps, gpn, g63], by simp (disch := decide) only [gps, gpn, g64]⟩
    case ofalse => simp (disch := decide) only [gps, gpn, Bool.false_or, Bool.true_or] <;> rfl
  case true =>
    refine ⟨?ttrue, ?htrue, ?ftrue, ?otrue⟩
    case htrue =>
      repeat (apply RdOps.cons; · (apply Exists.intro; intro m; simp (maxSteps := 2000000) (disch := decide) only [opsLoop, evOper, wantedA, nth, aop, aPick, aBin, aIndexAddr, aFieldAddr, aLoad, aStore, aExtract, aConvert, aAlloc, aBox, aIndex, callA, builtinA, Fr.evs, opt, val, when, AM.run, outV, newA, ptr, force_eq, seen_heap, seen_next, seen_mark, seen_seen, agg_cells, int_cells, Fr.ev, Fr.put, onFr, gps, gpn, bltT, still, flat, List.append_nil, List.nil_append, List.cons_append, Nat.reduceEqDiff, ne_eq, not_false_eq_true, reduceCtorEq, Bool.and_true, Bool.true_and, Bool.and_false, Bool.false_and, Bool.not_true, Bool.not_false, Bool.and_self, tyF, dsF, flF0, flF1, flF2, flF3, ftF0, ftF1, ftF2, ftF3, foF0, foF1, foF2, foF3, tyC, dsC, flC5, ftC5, foC5, tyFs, dsFs, szFs, szF, tyI, szI, ble11, ad0, ad1, ad2, ad3', ad8, l0, l1, l2, l3, l8, b_lss, b_gtr, b_geq, b_eql, neB_tt, b_sub, int0, int1, i65536, g1, g3, g4, n3, d3, n8, d8, n11, d11, n24, d24, n29, d29, n34, d34, n39, d39, n44, d44, n49, d49, n54, d54, hr]; rfl))
      exact .nil _
    case ftrue => exact ⟨by simp (disch := decide) only [gps, gpn, g1], by simp (disch := decide) only [gps, gpn, g3], by simp (disch := decide) only [gps, gpn, g4], by simp (disch := decide) only [gps, gpn, g62], by simp (disch := decide) only [gps, gpn, g63], by simp (disch := decide) only [gps, gpn, g64]⟩
    case otrue => simp (disch := decide) only [gps, gpn, Bool.false_or, Bool.true_or] <;> rfl
set_option maxHeartbeats 1000000 in
theorem r6_5 (all : List Oper) (hall : Gives all [(3, 72), (8, 77), (11, 80), (24, 93), (29, 98), (34, 103), (39, 108), (44, 113), (49, 118), (54, 123)]) (H : Tr AObj) (NN B N i : Nat) (D : CatD) (f : FileD) (ab ao cap : Nat) (hM : Mem6 H NN B N D f ab ao cap) (t : Tr Value) (hF : Fr6 t B N i ab ao D.files.length cap) (r : Bool) (hr : t.get 103 = some (.bool r)) :
    ∃ t2, RdOps E (sumsOf []) all H NN (part6 35 5) ⟨14, t, 133, [], none⟩ ⟨14, t2, 133, [], none⟩ ∧ Fr6 t2 B N i ab ao D.files.length cap ∧ t2.get 108 = some (.bool (r || (ltI f.blocks 0))) := by
  obtain ⟨p3, n3, d3⟩ := hall (3, 72) (by simp)
  obtain ⟨p8, n8, d8⟩ := hall (8, 77) (by simp)
  obtain ⟨p11, n11, d11⟩ := hall (11, 80) (by simp)
  obtain ⟨p24, n24, d24⟩ := hall (24, 93) (by simp)
  obtain ⟨p29, n29, d29⟩ := hall (29, 98) (by simp)
  obtain ⟨p34, n34, d34⟩ := hall (34, 103) (by simp)
  obtain ⟨p39, n39, d39⟩ := hall (39, 108) (by simp)
  obtain ⟨p44, n44, d44⟩ := hall (44, 113) (by simp)
  obtain ⟨p49, n49, d49⟩ := hall (49, 118) (by simp)
  obtain ⟨p54, n54, d54⟩ := hall (54, 123) (by simp)
  simp only at n3 d3 n8 d8 n11 d11 n24 d24 n29 d29 n34 d34 n39 d39 n44 d44 n49 d49 n54 d54
  obtain ⟨g1, g3, g4, g62, g63, g64⟩ := hF
  have l0 := hM.F.ld (k := 0) tiI (by rw [dsI]; rfl) rfl
  have l1 := hM.F.ld (k := 1) tiI (by rw [dsI]; rfl) rfl
  have l2 := hM.F.ld (k := 2) tiI (by rw [dsI]; rfl) rfl
  have l3 := hM.F.ld (k := 3) tiI (by rw [dsI]; rfl) rfl
  have l8 := hM.C.ld (k := 8) tiFs (by rw [dsFs]; rfl) rfl
  simp only [Nat.zero_add] at l0 l1 l2 l3 l8
  have ad8 : addA ⟨B, 0, none⟩ 8 = ⟨B, 8, none⟩ := rfl
  unfold part6
  simp only [opsR6, cdRCl, cdRC, Tryd.f14, bodyOf, sub, List.drop, List.take]
  cases r
  case false =>
    refine ⟨?tfalse, ?hfalse, ?ffalse, ?ofalse⟩
    case hfalse =>
      repeat (apply RdOps.cons; · (apply Exists.intro; intro m; simp (maxSteps := 2000000) (disch := decide) only [opsLoop, evOper, wantedA, nth, aop, aPick, aBin, aIndexAddr, aFieldAddr, aLoad, aStore, aExtract, aConvert, aAlloc, aBox, aIndex, callA, builtinA, Fr.evs, opt, val, when, AM.run, outV, newA, ptr, force_eq, seen_heap, seen_next, seen_mark, seen_seen, agg_cells, int_cells, Fr.ev, Fr.put, onFr, gps, gpn, bltT, still, flat, List.append_nil, List.nil_append, List.cons_append, Nat.reduceEqDiff, ne_eq, not_false_eq_true, reduceCtorEq, Bool.and_true, Bool.true_and, Bool.and_false, Bool.false_and, Bool.not_true, Bool.not_false, Bool.and_self, tyF, dsF, flF0, flF1, flF2, flF3, ftF0, ftF1, ftF2, ftF3, foF0, foF1, foF2, foF3, tyC, dsC, flC5, ftC5, foC5, tyFs, dsFs, szFs, szF, tyI, szI, ble11, ad0, ad1, ad2, ad3', ad8, l0, l1, l2, l3, l8, b_lss, b_gtr, b_geq, b_eql, neB_tt, b_sub, int0, int1, i65536, g1, g3, g4, n3, d3, n8, d8, n11, d11, n24, d24, n29, d29, n34, d34, n39, d39, n44, d44, n49, d49, n54, d54, hr]; rfl))
      exact .nil _
    case ffalse => exact ⟨by simp (disch := decide) only [gps, gpn, g1], by simp (disch := decide) only [gps, gpn, g3], by simp (disch := decide) only [gps, gpn, g4], by simp (disch := decide) only [gps, gpn, g62], by simp (disch := decide) only [gps, gpn, g63], by simp (disch := decide) only [gps, gpn, g64]⟩
    case ofalse => simp (disch := decide) only [gps, gpn, Bool.false_or, Bool.true_or] <;> rfl
  case true =>
    refine ⟨?ttrue, ?htrue, ?ftrue, ?otrue⟩
    case htrue =>
      repeat (apply RdOps.cons; · (apply Exists.intro; intro m; simp (maxSteps := 2000000) (disch := decide) only [opsLoop, evOper, wantedA, nth, aop, aPick, aBin, aIndexAddr, aFieldAddr, aLoad, aStore, aExtract, aConvert, aAlloc, aBox, aIndex, callA, builtinA, Fr.evs, opt, val, when, AM.run, outV, newA, ptr, force_eq, seen_heap, seen_next, seen_mark, seen_seen, agg_cells, int_cells, Fr.ev, Fr.put, onFr, gps, gpn, bltT, still, flat, List.append_nil, List.nil_append, List.cons_append, Nat.reduceEqDiff, ne_eq, not_false_eq_true, reduceCtorEq, Bool.and_true, Bool.true_and, Bool.and_false, Bool.false_and, Bool.not_true, Bool.not_false, Bool.and_self, tyF, dsF, flF0, flF1, flF2, flF3, ftF0, ftF1, ftF2, ftF3, foF0, foF1, foF2, foF3, tyC, dsC, flC5, ftC5, foC5, tyFs, dsFs, szFs, szF, tyI, szI, ble11, ad0, ad1, ad2, ad3', ad8, l0, l1, l2, l3, l8, b_lss, b_gtr, b_geq, b_eql, neB_tt, b_sub, int0, int1, i65536, g1, g3, g4, n3, d3, n8, d8, n11, d11, n24, d24, n29, d29, n34, d34, n39, d39, n44, d44, n49, d49, n54, d54, hr]; rfl))
      exact .nil _
    case ftrue => exact ⟨by simp (disch := decide) only [gps, gpn, g1], by simp (disch := decide) only [gps, gpn, g3], by simp (disch := decide) only [gps, gpn, g4], by simp (disch := decide) only [gps, gpn, g62], by simp (disch := decide) only [gps, gpn, g63], by simp (disch := decide) only [gps, gpn, g64]⟩
    case otrue => simp (disch := decide) only [gps, gpn, Bool.false_or, Bool.true_or] <;> rfl
set_option maxHeartbeats 1000000 in
theorem r6_6 (all : List Oper) (hall : Gives all [(3, 72), (8, 77), (11, 80), (24, 93), (29, 98), (34, 103), (39, 108), (44, 113), (49, 118), (54, 123)]) (H : Tr AObj) (NN B N i : Nat) (D : CatD) (f : FileD) (ab ao cap : Nat) (hM : Mem6 H NN B N D f ab ao cap) (t : Tr Value) (hF : Fr6 t B N i ab ao D.files.length cap) (r : Bool) (hr : t.get 108 = some (.bool r)) :
    ∃ t2, RdOps E (sumsOf []) all H NN (part6 40 5) ⟨14, t, 133, [], none⟩ ⟨14, t2, 133, [], none⟩ ∧ Fr6 t2 B N i ab ao D.files.length cap ∧ t2.get 113 = some (.bool (r || (ltI 512 f.blocks))) := by
  obtain ⟨p3, n3, d3⟩ := hall (3, 72) (by simp)
  obtain ⟨p8, n8, d8⟩ := hall (8, 77) (by simp)
  obtain ⟨p11, n11, d11⟩ := hall (11, 80) (by simp)
  obtain ⟨p24, n24, d24⟩ := hall (24, 93) (by simp)
  obtain ⟨p29, n29, d29⟩ := hall (29, 98) (by simp)
  obtain ⟨p34, n34, d34⟩ := hall (34, 103) (by simp)
  obtain ⟨p39, n39, d39⟩ := hall (39, 108) (by simp)
  obtain ⟨p44, n44, d44⟩ := hall (44, 113) (by simp)
  obtain ⟨p49, n49, d49⟩ := hall (49, 118) (by simp)
  obtain ⟨p54, n54, d54⟩ := hall (54, 123) (by simp)
  simp only at n3 d3 n8 d8 n11 d11 n24 d24 n29 d29 n34 d34 n39 d39 n44 d44 n49 d49 n54 d54
  obtain ⟨g1, g3, g4, g62, g63, g64⟩ := hF
  have l0 := hM.F.ld (k := 0) tiI (by rw [dsI]; rfl) rfl
  have l1 := hM.F.ld (k := 1) tiI (by rw [dsI]; rfl) rfl
  have l2 := hM.F.ld (k := 2) tiI (by rw [dsI]; rfl) rfl
  have l3 := hM.F.ld (k := 3) tiI (by rw [dsI]; rfl) rfl
  have l8 := hM.C.ld (k := 8) tiFs (by rw [dsFs]; rfl) rfl
  simp only [Nat.zero_add] at l0 l1 l2 l3 l8
  have ad8 : addA ⟨B, 0, none⟩ 8 = ⟨B, 8, none⟩ := rfl
  unfold part6
  simp only [opsR6, cdRCl, cdRC, Tryd.f14, bodyOf, sub, List.drop, List.take]
  cases r
  case false =>
    refine ⟨?tfalse, ?hfalse, ?ffalse, ?ofalse⟩
    case hfalse =>
      repeat (apply RdOps.cons; · (apply Exists.intro; intro m; simp (maxSteps := 2000000) (disch := decide) only [opsLoop, evOper, wantedA, nth, aop, aPick, aBin, aIndexAddr, aFieldAddr, aLoad, aStore, aExtract, aConvert, aAlloc, aBox, aIndex, callA, builtinA, Fr.evs, opt, val, when, AM.run, outV, newA, ptr, force_eq, seen_heap, seen_next, seen_mark, seen_seen, agg_cells, int_cells, Fr.ev, Fr.put, onFr, gps, gpn, bltT, still, flat, List.append_nil, List.nil_append, List.cons_append, Nat.reduceEqDiff, ne_eq, not_false_eq_true, reduceCtorEq, Bool.and_true, Bool.true_and, Bool.and_false, Bool.false_and, Bool.not_true, Bool.not_false, Bool.and_self, tyF, dsF, flF0, flF1, flF2, flF3, ftF0, ftF1, ftF2, ftF3, foF0, foF1, foF2, foF3, tyC, dsC, flC5, ftC5, foC5, tyFs, dsFs, szFs, szF, tyI, szI, ble11, ad0, ad1, ad2, ad3', ad8, l0, l1, l2, l3, l8, b_lss, b_gtr, b_geq, b_eql, neB_tt, b_sub, int0, int1, i65536, g1, g3, g4, n3, d3, n8, d8, n11, d11, n24, d24, n29, d29, n34, d34, n39, d39, n44, d44, n49, d49, n54, d54, hr]; rfl))
      exact .nil _
    case ffalse => exact ⟨by simp (disch := decide) only [gps, gpn, g1], by simp (disch := decide) only [gps, gpn, g3], by simp (disch := decide) only [gps, gpn, g4], by simp (disch := decide) only [gps, gpn, g62], by simp (disch := decide) only [gps, gpn, g63], by simp (disch := decide) only [gps, gpn, g64]⟩
    case ofalse => simp (disch := decide) only [gps, gpn, Bool.false_or, Bool.true_or] <;> rfl
  case true =>
    refine ⟨?ttrue, ?htrue, ?ftrue, ?otrue⟩
    case htrue =>
      repeat (apply RdOps.cons; · (apply Exists.intro; intro m; simp (maxSteps := 2000000) (disch := decide) only [opsLoop, evOper, wantedA, nth, aop, aPick, aBin, aIndexAddr, aFieldAddr, aLoad, aStore, aExtract, aConvert, aAlloc, aBox, aIndex, callA, builtinA, Fr.evs, opt, val, when, AM.run, outV, newA, ptr, force_eq, seen_heap, seen_next, seen_mark, seen_seen, agg_cells, int_cells, Fr.ev, Fr.put, onFr, gps, gpn, bltT, still, flat, List.append_nil, List.nil_append, List.cons_append, Nat.reduceEqDiff, ne_eq, not_false_eq_true, reduceCtorEq, Bool.and_true, Bool.true_and, Bool.and_false, Bool.false_and, Bool.not_true, Bool.not_false, Bool.and_self, tyF, dsF, flF0, flF1, flF2, flF3, ftF0, ftF1, ftF2, ftF3, foF0, foF1, foF2, foF3, tyC, dsC, flC5, ftC5, foC5, tyFs, dsFs, szFs, szF, tyI, szI, ble11, ad0, ad1, ad2, ad3', ad8, l0, l1, l2, l3, l8, b_lss, b_gtr, b_geq, b_eql, neB_tt, b_sub, int0, int1, i65536, g1, g3, g4, n3, d3, n8, d8, n11, d11, n24, d24, n29, d29, n34, d34, n39, d39, n44, d44, n49, d49, n54, d54, hr]; rfl))
      exact .nil _
    case ftrue => exact ⟨by simp (disch := decide) only [gps, gpn, g1], by simp (disch := decide) only [gps, gpn, g3], by simp (disch := decide) only [gps, gpn, g4], by simp (disch := decide) only [gps, gpn, g62], by simp (disch := decide) only [gps, gpn, g63], by simp (disch := decide) only [gps, gpn, g64]⟩
    case otrue => simp (disch := decide) only [gps, gpn, Bool.false_or, Bool.true_or] <;> rfl
set_option maxHeartbeats 1000000 in
theorem r6_7 (all : List Oper) (hall : Gives all [(3, 72), (8, 77), (11, 80), (24, 93), (29, 98), (34, 103), (39, 108), (44, 113), (49, 118), (54, 123)]) (H : Tr AObj) (NN B N i : Nat) (D : CatD) (f : FileD) (ab ao cap : Nat) (hM : Mem6 H NN B N D f ab ao cap) (t : Tr Value) (hF : Fr6 t B N i ab ao D.files.length cap) (r : Bool) (hr : t.get 113 = some (.bool r)) :
    ∃ t2, RdOps E (sumsOf []) all H NN (part6 45 5) ⟨14, t, 133, [], none⟩ ⟨14, t2, 133, [], none⟩ ∧ Fr6 t2 B N i ab ao D.files.length cap ∧ t2.get 118 = some (.bool (r || (ltI f.first 0))) := by
  obtain ⟨p3, n3, d3⟩ := hall (3, 72) (by simp)
  obtain ⟨p8, n8, d8⟩ := hall (8, 77) (by simp)
  obtain ⟨p11, n11, d11⟩ := hall (11, 80) (by simp)
  obtain ⟨p24, n24, d24⟩ := hall (24, 93) (by simp)
  obtain ⟨p29, n29, d29⟩ := hall (29, 98) (by simp)
  obtain ⟨p34, n34, d34⟩ := hall (34, 103) (by simp)
  obtain ⟨p39, n39, d39⟩ := hall (39, 108) (by simp)
  obtain ⟨p44, n44, d44⟩ := hall (44, 113) (by simp)
  obtain ⟨p49, n49, d49⟩ := hall (49, 118) (by simp)
  obtain ⟨p54, n54, d54⟩ := hall (54, 123) (by simp)
  simp only at n3 d3 n8 d8 n11 d11 n24 d24 n29 d29 n34 d34 n39 d39 n44 d44 n49 d49 n54 d54
  obtain ⟨g1, g3, g4, g62, g63, g64⟩ := hF
  have l0 := hM.F.ld (k := 0) tiI (by rw [dsI]; rfl) rfl
  have l1 := hM.F.ld (k := 1) tiI (by rw [dsI]; rfl) rfl
  have l2 := hM.F.ld (k := 2) tiI (by rw [dsI]; rfl) rfl
  have l3 := hM.F.ld (k := 3) tiI (by rw [dsI]; rfl) rfl
  have l8 := hM.C.ld (k := 8) tiFs (by rw [dsFs]; rfl) rfl
  simp only [Nat.zero_add] at l0 l1 l2 l3 l8
  have ad8 : addA ⟨B, 0, none⟩ 8 = ⟨B, 8, none⟩ := rfl
  unfold part6
  simp only [opsR6, cdRCl, cdRC, Tryd.f14, bodyOf, sub, List.drop, List.take]
  cases r
  case false =>
    refine ⟨?tfalse, ?hfalse, ?ffalse, ?ofalse⟩
    case hfalse =>
      repeat (apply RdOps.cons; · (apply Exists.intro; intro m; simp (maxSteps := 2000000) (disch := decide) only [opsLoop, evOper, wantedA, nth, aop, aPick, aBin, aIndexAddr, aFieldAddr, aLoad, aStore, aExtract, aConvert, aAlloc, aBox, aIndex, callA, builtinA, Fr.evs, opt, val, when, AM.run, outV, newA, ptr, force_eq, seen_heap, seen_next, seen_mark, seen_seen, agg_cells, int_cells, Fr.ev, Fr.put, onFr, gps, gpn, bltT, still, flat, List.append_nil, List.nil_append, List.cons_append, Nat.reduceEqDiff, ne_eq, not_false_eq_true, reduceCtorEq, Bool.and_true, Bool.true_and, Bool.and_false, Bool.false_and, Bool.not_true, Bool.not_false, Bool.and_self, tyF, dsF, flF0, flF1, flF2, flF3, ftF0, ftF1, ftF2, ftF3, foF0, foF1, foF2, foF3, tyC, dsC, flC5, ftC5, foC5, tyFs, dsFs, szFs, szF, tyI, szI, ble11, ad0, ad1, ad2, ad3', ad8, l0, l1, l2, l3, l8, b_lss, b_gtr, b_geq, b_eql, neB_tt, b_sub, int0, int1, i65536, g1, g3, g4, n3, d3, n8, d8, n11, d11, n24, d24, n29, d29, n34, d34, n39, d39, n44, d44, n49, d49, n54, d54, hr]; rfl))
      exact .nil _
    case ffalse => exact ⟨by simp (disch := decide) only [gps, gpn, g1], by simp (disch := decide) only [gps, gpn, g3], by simp (disch := decide) only [gps, gpn, g4], by simp (disch := decide) only [gps, gpn, g62], by simp (disch := decide) only [gps, gpn, g63], by simp (disch := decide) only [gps, gpn, g64]⟩
    case ofalse => simp (disch := decide) only [gps, gpn, Bool.false_or, Bool.true_or] <;> rfl
  case true =>
    refine ⟨?ttrue, ?htrue, ?ftrue, ?otrue⟩
    case htrue =>
      repeat (apply RdOps.cons; · (apply Exists.intro; intro m; simp (maxSteps := 2000000) (disch := decide) only [opsLoop, evOper, wantedA, nth, aop, aPick, aBin, aIndexAddr, aFieldAddr, aLoad, aStore, aExtract, aConvert, aAlloc, aBox, aIndex, callA, builtinA, Fr.evs, opt, val, when, AM.run, outV, newA, ptr, force_eq, seen_heap, seen_next, seen_mark, seen_seen, agg_cells, int_cells, Fr.ev, Fr.put, onFr, gps, gpn, bltT, still, flat, List.append_nil, List.nil_append, List.cons_append, Nat.reduceEqDiff, ne_eq, not_false_eq_true, reduceCtorEq, Bool.and_true, Bool.true_and, Bool.and_false, Bool.false_and, Bool.not_true, Bool.not_false, Bool.and_self, tyF, dsF, flF0, flF1, flF2, flF3, ftF0, ftF1, ftF2, ftF3, foF0, foF1, foF2, foF3, tyC, dsC, flC5, ftC5, foC5, tyFs, dsFs, szFs, szF, tyI, szI, ble11, ad0, ad1, ad2, ad3', ad8, l0, l1, l2, l3, l8, b_lss, b_gtr, b_geq, b_eql, neB_tt, b_sub, int0, int1, i65536, g1, g3, g4, n3, d3, n8, d8, n11, d11, n24, d24, n29, d29, n34, d34, n39, d39, n44, d44, n49, d49, n54, d54, hr]; rfl))
      exact .nil _
    case ftrue => exact ⟨by simp (disch := decide) only [gps, gpn, g1], by simp (disch := decide) only [gps, gpn, g3], by simp (disch := decide) only [gps, gpn, g4], by simp (disch := decide) only [gps, gpn, g62], by simp (disch := decide) only [gps, gpn, g63], by simp (disch := decide) only [gps, gpn, g64]⟩
    case otrue => simp (disch := decide) only [gps, gpn, Bool.false_or, Bool.true_or] <;> rfl
set_option maxHeartbeats 1000000 in
theorem r6_8 (all : List Oper) (hall : Gives all [(3, 72), (8, 77), (11, 80), (24, 93), (29, 98), (34, 103), (39, 108), (44, 113), (49, 118), (54, 123)]) (H : Tr AObj) (NN B N i : Nat) (D : CatD) (f : FileD) (ab ao cap : Nat) (hM : Mem6 H NN B N D f ab ao cap) (t : Tr Value) (hF : Fr6 t B N i ab ao D.files.length cap) (r : Bool) (hr : t.get 118 = some (.bool r)) :
    ∃ t2, RdOps E (sumsOf []) all H NN (part6 50 5) ⟨14, t, 133, [], none⟩ ⟨14, t2, 133, [], none⟩ ∧ Fr6 t2 B N i ab ao D.files.length cap ∧ t2.get 123 = some (.bool (r || (!ltI f.first 65536))) := by
  obtain ⟨p3, n3, d3⟩ := hall (3, 72) (by simp)
  obtain ⟨p8, n8, d8⟩ := hall (8, 77) (by simp)
  obtain ⟨p11, n11, d11⟩ := hall (11, 80) (by simp)
  obtain ⟨p24, n24, d24⟩ := hall (24, 93) (by simp)
  obtain ⟨p29, n29, d29⟩ := hall (29, 98) (by simp)
  obtain ⟨p34, n34, d34⟩ := hall (34, 103) (by simp)
  obtain ⟨p39, n39, d39⟩ := hall (39, 108) (by simp)
  obtain ⟨p44, n44, d44⟩ := hall (44, 113) (by simp)
  obtain ⟨p49, n49, d49⟩ := hall (49, 118) (by simp)
  obtain ⟨p54, n54, d54⟩ := hall (54, 123) (by simp)
  simp only at n3 d3 n8 d8 n11 d11 n24 d24 n29 d29 n34 d34 n39 d39 n44 d44 n49 d49 n54 d54
  obtain ⟨g1, g3, g4, g62, g63, g64⟩ := hF
  have l0 := hM.F.ld (k := 0) tiI (by rw [dsI]; rfl) rfl
  have l1 := hM.F.ld (k := 1) tiI (by rw [dsI]; rfl) rfl
  have l2 := hM.F.ld (k := 2) tiI (by rw [dsI]; rfl) rfl
  have l3 := hM.F.ld (k := 3) tiI (by rw [dsI]; rfl) rfl
  have l8 := hM.C.ld (k := 8) tiFs (by rw [dsFs]; rfl) rfl
  simp only [Nat.zero_add] at l0 l1 l2 l3 l8
  have ad8 : addA ⟨B, 0, none⟩ 8 = ⟨B, 8, none⟩ := rfl
  unfold part6
  simp only [opsR6, cdRCl, cdRC, Tryd.f14, bodyOf, sub, List.drop, List.take]
  cases r
  case false =>
    refine ⟨?tfalse, ?hfalse, ?ffalse, ?ofalse⟩
    case hfalse =>
      repeat (apply RdOps.cons; · (apply Exists.intro; intro m; simp (maxSteps := 2000000) (disch := decide) only [opsLoop, evOper, wantedA, nth, aop, aPick, aBin, aIndexAddr, aFieldAddr, aLoad, aStore, aExtract, aConvert, aAlloc, aBox, aIndex, callA, builtinA, Fr.evs, opt, val, when, AM.run, outV, newA, ptr, force_eq, seen_heap, seen_next, seen_mark, seen_seen, agg_cells, int_cells, Fr.ev, Fr.put, onFr, gps, gpn, bltT, still, flat, List.append_nil, List.nil_append, List.cons_append, Nat.reduceEqDiff, ne_eq, not_false_eq_true, reduceCtorEq, Bool.and_true, Bool.true_and, Bool.and_false, Bool.false_and, Bool.not_true, Bool.not_false, Bool.and_self, tyF, dsF, flF0, flF1, flF2, flF3, ftF0, ftF1, ftF2, ftF3, foF0, foF1, foF2, foF3, tyC, dsC, flC5, ftC5, foC5, tyFs, dsFs, szFs, szF, tyI, szI, ble11, ad0, ad1, ad2, ad3', ad8, l0, l1, l2, l3, l8, b_lss, b_gtr, b_geq, b_eql, neB_tt, b_sub, int0, int1, i65536, g1, g3, g4, n3, d3, n8, d8, n11, d11, n24, d24, n29, d29, n34, d34, n39, d39, n44, d44, n49, d49, n54, d54, hr]; rfl))
      exact .nil _
    case ffalse => exact ⟨by simp (disch := decide) only [gps, gpn, g1], by simp (disch := decide) only [gps, gpn, g3], by simp (disch := decide) only [gps, gpn, g4], by simp (disch := decide) only [gps, gpn, g62], by simp (disch := decide) only [gps, gpn, g63], by simp (disch := decide) only [gps, gpn, g64]⟩
    case ofalse => simp (disch := decide) only [gps, gpn, Bool.false_or, Bool.true_or] <;> rfl
  case true =>
    refine ⟨?ttrue, ?htrue, ?ftrue, ?otrue⟩
    case htrue =>
      repeat (apply RdOps.cons; · (apply Exists.intro; intro m; simp (maxSteps := 2000000) (disch := decide) only [opsLoop, evOper, wantedA, nth, aop, aPick, aBin, aIndexAddr, aFieldAddr, aLoad, aStore, aExtract, aConvert, aAlloc, aBox, aIndex, callA, builtinA, Fr.evs, opt, val, when, AM.run, outV, newA, ptr, force_eq, seen_heap, seen_next, seen_mark, seen_seen, agg_cells, int_cells, Fr.ev, Fr.put, onFr, gps, gpn, bltT, still, flat, List.append_nil, List.nil_append, List.cons_append, Nat.reduceEqDiff, ne_eq, not_false_eq_true, reduceCtorEq, Bool.and_true, Bool.true_and, Bool.and_false, Bool.false_and, Bool.not_true, Bool.not_false, Bool.and_self, tyF, dsF, flF0, flF1, flF2, flF3, ftF0, ftF1, ftF2, ftF3, foF0, foF1, foF2, foF3, tyC, dsC, flC5, ftC5, foC5, tyFs, dsFs, szFs, szF, tyI, szI, ble11, ad0, ad1, ad2, ad3', ad8, l0, l1, l2, l3, l8, b_lss, b_gtr, b_geq, b_eql, neB_tt, b_sub, int0, int1, i65536, g1, g3, g4, n3, d3, n8, d8, n11, d11, n24, d24, n29, d29, n34, d34, n39, d39, n44, d44, n49, d49, n54, d54, hr]; rfl))
      exact .nil _
    case ftrue => exact ⟨by simp (disch := decide) only [gps, gpn, g1], by simp (disch := decide) only [gps, gpn, g3], by simp (disch := decide) only [gps, gpn, g4], by simp (disch := decide) only [gps, gpn, g62], by simp (disch := decide) only [gps, gpn, g63], by simp (disch := decide) only [gps, gpn, g64]⟩
    case otrue => simp (disch := decide) only [gps, gpn, Bool.false_or, Bool.true_or] <;> rfl
set_option maxHeartbeats 1000000 in
theorem r6_9 (all : List Oper) (hall : Gives all [(3, 72), (8, 77), (11, 80), (24, 93), (29, 98), (34, 103), (39, 108), (44, 113), (49, 118), (54, 123)]) (H : Tr AObj) (NN B N i : Nat) (D : CatD) (f : FileD) (ab ao cap : Nat) (hM : Mem6 H NN B N D f ab ao cap) (t : Tr Value) (hF : Fr6 t B N i ab ao D.files.length cap) (r : Bool) (hr : t.get 123 = some (.bool r)) :
    ∃ t2, RdOps E (sumsOf []) all H NN (part6 55 8) ⟨14, t, 133, [], none⟩ ⟨14, t2, 133, [], none⟩ ∧ Fr6 t2 B N i ab ao D.files.length cap ∧ t2.get 131 = some (.bool (r || (!(eqI f.blocks 0 == eqI f.first 0)))) := by
  obtain ⟨p3, n3, d3⟩ := hall (3, 72) (by simp)
  obtain ⟨p8, n8, d8⟩ := hall (8, 77) (by simp)
  obtain ⟨p11, n11, d11⟩ := hall (11, 80) (by simp)
  obtain ⟨p24, n24, d24⟩ := hall (24, 93) (by simp)
  obtain ⟨p29, n29, d29⟩ := hall (29, 98) (by simp)
  obtain ⟨p34, n34, d34⟩ := hall (34, 103) (by simp)
  obtain ⟨p39, n39, d39⟩ := hall (39, 108) (by simp)
  obtain ⟨p44, n44, d44⟩ := hall (44, 113) (by simp)
  obtain ⟨p49, n49, d49⟩ := hall (49, 118) (by simp)
  obtain ⟨p54, n54, d54⟩ := hall (54, 123) (by simp)
  simp only at n3 d3 n8 d8 n11 d11 n24 d24 n29 d29 n34 d34 n39 d39 n44 d44 n49 d49 n54 d54
  obtain ⟨g1, g3, g4, g62, g63, g64⟩ := hF
  have l0 := hM.F.ld (k := 0) tiI (by rw [dsI]; rfl) rfl
  have l1 := hM.F.ld (k := 1) tiI (by rw [dsI]; rfl) rfl
  have l2 := hM.F.ld (k := 2) tiI (by rw [dsI]; rfl) rfl
  have l3 := hM.F.ld (k := 3) tiI (by rw [dsI]; rfl) rfl
  have l8 := hM.C.ld (k := 8) tiFs (by rw [dsFs]; rfl) rfl
  simp only [Nat.zero_add] at l0 l1 l2 l3 l8
  have ad8 : addA ⟨B, 0, none⟩ 8 = ⟨B, 8, none⟩ := rfl
  unfold part6
  simp only [opsR6, cdRCl, cdRC, Tryd.f14, bodyOf, sub, List.drop, List.take]
  cases r
  case false =>
    refine ⟨?tfalse, ?hfalse, ?ffalse, ?ofalse⟩
    case hfalse =>
      repeat (apply RdOps.cons; · (apply Exists.intro; intro m; simp (maxSteps := 2000000) (disch := decide) only [opsLoop, evOper, wantedA, nth, aop, aPick, aBin, aIndexAddr, aFieldAddr, aLoad, aStore, aExtract, aConvert, aAlloc, aBox, aIndex, callA, builtinA, Fr.evs, opt, val, when, AM.run, outV, newA, ptr, force_eq, seen_heap, seen_next, seen_mark, seen_seen, agg_cells, int_cells, Fr.ev, Fr.put, onFr, gps, gpn, bltT, still, flat, List.append_nil, List.nil_append, List.cons_append, Nat.reduceEqDiff, ne_eq, not_false_eq_true, reduceCtorEq, Bool.and_true, Bool.true_and, Bool.and_false, Bool.false_and, Bool.not_true, Bool.not_false, Bool.and_self, tyF, dsF, flF0, flF1, flF2, flF3, ftF0, ftF1, ftF2, ftF3, foF0, foF1, foF2, foF3, tyC, dsC, flC5, ftC5, foC5, tyFs, dsFs, szFs, szF, tyI, szI, ble11, ad0, ad1, ad2, ad3', ad8, l0, l1, l2, l3, l8, b_lss, b_gtr, b_geq, b_eql, neB_tt, b_sub, int0, int1, i65536, g1, g3, g4, n3, d3, n8, d8, n11, d11, n24, d24, n29, d29, n34, d34, n39, d39, n44, d44, n49, d49, n54, d54, hr]; rfl))
      exact .nil _
    case ffalse => exact ⟨by simp (disch := decide) only [gps, gpn, g1], by simp (disch := decide) only [gps, gpn, g3], by simp (disch := decide) only [gps, gpn, g4], by simp (disch := decide) only [gps, gpn, g62], by simp (disch := decide) only [gps, gpn, g63], by simp (disch := decide) only [gps, gpn, g64]⟩
    case ofalse => simp (disch := decide) only [gps, gpn, Bool.false_or, Bool.true_or] <;> rfl
  case true =>
    refine ⟨?ttrue, ?htrue, ?ftrue, ?otrue⟩
    case htrue =>
      repeat (apply RdOps.cons; · (apply Exists.intro; intro m; simp (maxSteps := 2000000) (disch := decide) only [opsLoop, evOper, wantedA, nth, aop, aPick, aBin, aIndexAddr, aFieldAddr, aLoad, aStore, aExtract, aConvert, aAlloc, aBox, aIndex, callA, builtinA, Fr.evs, opt, val, when, AM.run, outV, newA, ptr, force_eq, seen_heap, seen_next, seen_mark, seen_seen, agg_cells, int_cells, Fr.ev, Fr.put, onFr, gps, gpn, bltT, still, flat, List.append_nil, List.nil_append, List.cons_append, Nat.reduceEqDiff, ne_eq, not_false_eq_true, reduceCtorEq, Bool.and_true, Bool.true_and, Bool.and_false, Bool.false_and, Bool.not_true, Bool.not_false, Bool.and_self, tyF, dsF, flF0, flF1, flF2, flF3, ftF0, ftF1, ftF2, ftF3, foF0, foF1, foF2, foF3, tyC, dsC, flC5, ftC5, foC5, tyFs, dsFs, szFs, szF, tyI, szI, ble11, ad0, ad1, ad2, ad3', ad8, l0, l1, l2, l3, l8, b_lss, b_gtr, b_geq, b_eql, neB_tt, b_sub, int0, int1, i65536, g1, g3, g4, n3, d3, n8, d8, n11, d11, n24, d24, n29, d29, n34, d34, n39, d39, n44, d44, n49, d49, n54, d54, hr]; rfl))
      exact .nil _
    case ftrue => exact ⟨by simp (disch := decide) only [gps, gpn, g1], by simp (disch := decide) only [gps, gpn, g3], by simp (disch := decide) only [gps, gpn, g4], by simp (disch := decide) only [gps, gpn, g62], by simp (disch := decide) only [gps, gpn, g63], by simp (disch := decide) only [gps, gpn, g64]⟩
    case otrue => simp (disch := decide) only [gps, gpn, Bool.false_or, Bool.true_or] <;> rfl
/-- does the name not rise? -/
def badP (fs : List FileD) (i : Nat) (f : FileD) : Bool := match i with
  | 0 => false
  | j + 1 => !ltI (lastAt fs (j + 1)) f.name

set_option maxHeartbeats 1000000 in
theorem r6_2 (all : List Oper) (hall : Gives all [(3, 72), (8, 77), (11, 80), (24, 93), (29, 98), (34, 103), (39, 108), (44, 113), (49, 118), (54, 123)]) (H : Tr AObj) (NN B N i : Nat) (D : CatD) (f : FileD) (ab ao cap : Nat) (hM : Mem6 H NN B N D f ab ao cap) (t : Tr Value) (hF : Fr6 t B N i ab ao D.files.length cap) (hi : i < D.files.length) (hl : D.files.length ≤ 900) (r : Bool) (hr : t.get 77 = some (.bool r)) :
    ∃ t2, RdOps E (sumsOf []) all H NN (part6 9 16) ⟨14, t, 133, [], none⟩ ⟨14, t2, 133, [], none⟩ ∧ Fr6 t2 B N i ab ao D.files.length cap ∧ t2.get 93 = some (.bool (r || (badP D.files i f))) := by
  obtain ⟨p3, n3, d3⟩ := hall (3, 72) (by simp)
  obtain ⟨p8, n8, d8⟩ := hall (8, 77) (by simp)
  obtain ⟨p11, n11, d11⟩ := hall (11, 80) (by simp)
  obtain ⟨p24, n24, d24⟩ := hall (24, 93) (by simp)
  obtain ⟨p29, n29, d29⟩ := hall (29, 98) (by simp)
  obtain ⟨p34, n34, d34⟩ := hall (34, 103) (by simp)
  obtain ⟨p39, n39, d39⟩ := hall (39, 108) (by simp)
  obtain ⟨p44, n44, d44⟩ := hall (44, 113) (by simp)
  obtain ⟨p49, n49, d49⟩ := hall (49, 118) (by simp)
  obtain ⟨p54, n54, d54⟩ := hall (54, 123) (by simp)
  simp only at n3 d3 n8 d8 n11 d11 n24 d24 n29 d29 n34 d34 n39 d39 n44 d44 n49 d49 n54 d54
  obtain ⟨g1, g3, g4, g62, g63, g64⟩ := hF
  have l0 := hM.F.ld (k := 0) tiI (by rw [dsI]; rfl) rfl
  have l1 := hM.F.ld (k := 1) tiI (by rw [dsI]; rfl) rfl
  have l2 := hM.F.ld (k := 2) tiI (by rw [dsI]; rfl) rfl
  have l3 := hM.F.ld (k := 3) tiI (by rw [dsI]; rfl) rfl
  have l8 := hM.C.ld (k := 8) tiFs (by rw [dsFs]; rfl) rfl
  simp only [Nat.zero_add] at l0 l1 l2 l3 l8
  have ad8 : addA ⟨B, 0, none⟩ 8 = ⟨B, 8, none⟩ := rfl
  unfold part6
  simp only [opsR6, cdRCl, cdRC, Tryd.f14, bodyOf, sub, List.drop, List.take]
  cases i with
  | zero =>
    have gt0 : ltI (Int.ofNat 0) (Int.ofNat 0) = false := rfl
    cases r
    case false =>
      refine ⟨?tzfalse, ?hzfalse, ?fzfalse, ?ozfalse⟩
      case hzfalse =>
        repeat (apply RdOps.cons; · (apply Exists.intro; intro m; simp (maxSteps := 2000000) (disch := decide) only [opsLoop, evOper, wantedA, nth, aop, aPick, aBin, aIndexAddr, aFieldAddr, aLoad, aStore, aExtract, aConvert, aAlloc, aBox, aIndex, callA, builtinA, Fr.evs, opt, val, when, AM.run, outV, newA, ptr, force_eq, seen_heap, seen_next, seen_mark, seen_seen, agg_cells, int_cells, Fr.ev, Fr.put, onFr, gps, gpn, bltT, still, flat, List.append_nil, List.nil_append, List.cons_append, Nat.reduceEqDiff, ne_eq, not_false_eq_true, reduceCtorEq, Bool.and_true, Bool.true_and, Bool.and_false, Bool.false_and, Bool.not_true, Bool.not_false, Bool.and_self, tyF, dsF, flF0, flF1, flF2, flF3, ftF0, ftF1, ftF2, ftF3, foF0, foF1, foF2, foF3, tyC, dsC, flC5, ftC5, foC5, tyFs, dsFs, szFs, szF, tyI, szI, ble11, ad0, ad1, ad2, ad3', ad8, l0, l1, l2, l3, l8, b_lss, b_gtr, b_geq, b_eql, neB_tt, b_sub, int0, int1, i65536, g1, g3, g4, n3, d3, n8, d8, n11, d11, n24, d24, n29, d29, n34, d34, n39, d39, n44, d44, n49, d49, n54, d54, hr, gt0]; rfl))
        exact .nil _
      case fzfalse => exact ⟨by simp (disch := decide) only [gps, gpn, g1], by simp (disch := decide) only [gps, gpn, g3], by simp (disch := decide) only [gps, gpn, g4], by simp (disch := decide) only [gps, gpn, g62], by simp (disch := decide) only [gps, gpn, g63], by simp (disch := decide) only [gps, gpn, g64]⟩
      case ozfalse => simp (disch := decide) only [gps, gpn, Bool.false_or, Bool.true_or, badP] <;> rfl
    case true =>
      refine ⟨?tztrue, ?hztrue, ?fztrue, ?oztrue⟩
      case hztrue =>
        repeat (apply RdOps.cons; · (apply Exists.intro; intro m; simp (maxSteps := 2000000) (disch := decide) only [opsLoop, evOper, wantedA, nth, aop, aPick, aBin, aIndexAddr, aFieldAddr, aLoad, aStore, aExtract, aConvert, aAlloc, aBox, aIndex, callA, builtinA, Fr.evs, opt, val, when, AM.run, outV, newA, ptr, force_eq, seen_heap, seen_next, seen_mark, seen_seen, agg_cells, int_cells, Fr.ev, Fr.put, onFr, gps, gpn, bltT, still, flat, List.append_nil, List.nil_append, List.cons_append, Nat.reduceEqDiff, ne_eq, not_false_eq_true, reduceCtorEq, Bool.and_true, Bool.true_and, Bool.and_false, Bool.false_and, Bool.not_true, Bool.not_false, Bool.and_self, tyF, dsF, flF0, flF1, flF2, flF3, ftF0, ftF1, ftF2, ftF3, foF0, foF1, foF2, foF3, tyC, dsC, flC5, ftC5, foC5, tyFs, dsFs, szFs, szF, tyI, szI, ble11, ad0, ad1, ad2, ad3', ad8, l0, l1, l2, l3, l8, b_lss, b_gtr, b_geq, b_eql, neB_tt, b_sub, int0, int1, i65536, g1, g3, g4, n3, d3, n8, d8, n11, d11, n24, d24, n29, d29, n34, d34, n39, d39, n44, d44, n49, d49, n54, d54, hr, gt0]; rfl))
        exact .nil _
      case fztrue => exact ⟨by simp (disch := decide) only [gps, gpn, g1], by simp (disch := decide) only [gps, gpn, g3], by simp (disch := decide) only [gps, gpn, g4], by simp (disch := decide) only [gps, gpn, g62], by simp (disch := decide) only [gps, gpn, g63], by simp (disch := decide) only [gps, gpn, g64]⟩
      case oztrue => simp (disch := decide) only [gps, gpn, Bool.false_or, Bool.true_or, badP] <;> rfl
  | succ j =>
    have gt0 : ltI (Int.ofNat 0) (Int.ofNat (j + 1)) = true := rfl
    obtain ⟨g, hg⟩ : ∃ g, D.files[j]? = some g := ⟨_, List.getElem?_eq_getElem (by omega)⟩
    have lp := hM.R.ld (k := j * 4) tiI (by rw [dsI]; rfl) (fcs_name D.files j g hg)
    have hp : lastAt D.files (j + 1) = g.name := by show (match D.files[j]? with | some f => f.name | none => 0) = _; rw [hg]
    have sb := sub1 j (by omega)
    have hbl' : Nat.blt j D.files.length = true := blt_iff.2 (by omega)
    have aa' : addA ⟨ab, ao, none⟩ (Nat.mul j 4) = ⟨ab, ao + j * 4, none⟩ := addAn ab ao _
    have aa0 : addA ⟨ab, ao + j * 4, none⟩ 0 = ⟨ab, ao + j * 4, none⟩ := rfl
    cases r
    case false =>
      refine ⟨?tsfalse, ?hsfalse, ?fsfalse, ?osfalse⟩
      case hsfalse =>
        repeat (apply RdOps.cons; · (apply Exists.intro; intro m; simp (maxSteps := 2000000) (disch := decide) only [opsLoop, evOper, wantedA, nth, aop, aPick, aBin, aIndexAddr, aFieldAddr, aLoad, aStore, aExtract, aConvert, aAlloc, aBox, aIndex, callA, builtinA, Fr.evs, opt, val, when, AM.run, outV, newA, ptr, force_eq, seen_heap, seen_next, seen_mark, seen_seen, agg_cells, int_cells, Fr.ev, Fr.put, onFr, gps, gpn, bltT, still, flat, List.append_nil, List.nil_append, List.cons_append, Nat.reduceEqDiff, ne_eq, not_false_eq_true, reduceCtorEq, Bool.and_true, Bool.true_and, Bool.and_false, Bool.false_and, Bool.not_true, Bool.not_false, Bool.and_self, tyF, dsF, flF0, flF1, flF2, flF3, ftF0, ftF1, ftF2, ftF3, foF0, foF1, foF2, foF3, tyC, dsC, flC5, ftC5, foC5, tyFs, dsFs, szFs, szF, tyI, szI, ble11, ad0, ad1, ad2, ad3', ad8, l0, l1, l2, l3, l8, b_lss, b_gtr, b_geq, b_eql, neB_tt, b_sub, int0, int1, i65536, g1, g3, g4, n3, d3, n8, d8, n11, d11, n24, d24, n29, d29, n34, d34, n39, d39, n44, d44, n49, d49, n54, d54, hr, gt0, lp, sb, hbl', aa', aa0]; rfl))
        exact .nil _
      case fsfalse => exact ⟨by simp (disch := decide) only [gps, gpn, g1], by simp (disch := decide) only [gps, gpn, g3], by simp (disch := decide) only [gps, gpn, g4], by simp (disch := decide) only [gps, gpn, g62], by simp (disch := decide) only [gps, gpn, g63], by simp (disch := decide) only [gps, gpn, g64]⟩
      case osfalse => simp (disch := decide) only [gps, gpn, Bool.false_or, Bool.true_or, badP, hp] <;> rfl
    case true =>
      refine ⟨?tstrue, ?hstrue, ?fstrue, ?ostrue⟩
      case hstrue =>
        repeat (apply RdOps.cons; · (apply Exists.intro; intro m; simp (maxSteps := 2000000) (disch := decide) only [opsLoop, evOper, wantedA, nth, aop, aPick, aBin, aIndexAddr, aFieldAddr, aLoad, aStore, aExtract, aConvert, aAlloc, aBox, aIndex, callA, builtinA, Fr.evs, opt, val, when, AM.run, outV, newA, ptr, force_eq, seen_heap, seen_next, seen_mark, seen_seen, agg_cells, int_cells, Fr.ev, Fr.put, onFr, gps, gpn, bltT, still, flat, List.append_nil, List.nil_append, List.cons_append, Nat.reduceEqDiff, ne_eq, not_false_eq_true, reduceCtorEq, Bool.and_true, Bool.true_and, Bool.and_false, Bool.false_and, Bool.not_true, Bool.not_false, Bool.and_self, tyF, dsF, flF0, flF1, flF2, flF3, ftF0, ftF1, ftF2, ftF3, foF0, foF1, foF2, foF3, tyC, dsC, flC5, ftC5, foC5, tyFs, dsFs, szFs, szF, tyI, szI, ble11, ad0, ad1, ad2, ad3', ad8, l0, l1, l2, l3, l8, b_lss, b_gtr, b_geq, b_eql, neB_tt, b_sub, int0, int1, i65536, g1, g3, g4, n3, d3, n8, d8, n11, d11, n24, d24, n29, d29, n34, d34, n39, d39, n44, d44, n49, d49, n54, d54, hr, gt0, lp, sb, hbl', aa', aa0]; rfl))
        exact .nil _
      case fstrue => exact ⟨by simp (disch := decide) only [gps, gpn, g1], by simp (disch := decide) only [gps, gpn, g3], by simp (disch := decide) only [gps, gpn, g4], by simp (disch := decide) only [gps, gpn, g62], by simp (disch := decide) only [gps, gpn, g63], by simp (disch := decide) only [gps, gpn, g64]⟩
      case ostrue => simp (disch := decide) only [gps, gpn, Bool.false_or, Bool.true_or, badP, hp] <;> rfl

theorem parts6 : opsR6 = part6 0 4 ++ (part6 4 5 ++ (part6 9 16 ++ (part6 25 5 ++ (part6 30 5 ++ (part6 35 5 ++ (part6 40 5 ++ (part6 45 5 ++ (part6 50 5 ++ part6 55 8)))))))) := by rfl
def bad6 (fs : List FileD) (i : Nat) (f : FileD) : Bool := (((((((((ltI f.name 1 || ltI 255 f.name) || badP fs i f) || ltI f.file 1) || !ltI f.file 65536) || ltI f.blocks 0) || ltI 512 f.blocks) || ltI f.first 0) || !ltI f.first 65536) || !(eqI f.blocks 0 == eqI f.first 0))
theorem all6 (H : Tr AObj) (NN B N i : Nat) (D : CatD) (f : FileD) (ab ao cap : Nat) (hM : Mem6 H NN B N D f ab ao cap) (t : Tr Value) (hF : Fr6 t B N i ab ao D.files.length cap) (hi : i < D.files.length) (hl : D.files.length ≤ 900) :
    ∃ t2, RdOps E (sumsOf []) opsR6 H NN opsR6 ⟨14, t, 133, [], none⟩ ⟨14, t2, 133, [], none⟩ ∧ Fr6 t2 B N i ab ao D.files.length cap ∧ t2.get 131 = some (.bool (bad6 D.files i f)) := by
  obtain ⟨u0, a0, b0, c0⟩ := r6_0 opsR6 gives_all H NN B N i D f ab ao cap hM t hF
  obtain ⟨u1, a1, b1, c1⟩ := r6_1 opsR6 gives_all H NN B N i D f ab ao cap hM u0 b0 _ c0
  obtain ⟨u2, a2, b2, c2⟩ := r6_2 opsR6 gives_all H NN B N i D f ab ao cap hM u1 b1 hi hl _ c1
  obtain ⟨u3, a3, b3, c3⟩ := r6_3 opsR6 gives_all H NN B N i D f ab ao cap hM u2 b2 _ c2
  obtain ⟨u4, a4, b4, c4⟩ := r6_4 opsR6 gives_all H NN B N i D f ab ao cap hM u3 b3 _ c3
  obtain ⟨u5, a5, b5, c5⟩ := r6_5 opsR6 gives_all H NN B N i D f ab ao cap hM u4 b4 _ c4
  obtain ⟨u6, a6, b6, c6⟩ := r6_6 opsR6 gives_all H NN B N i D f ab ao cap hM u5 b5 _ c5
  obtain ⟨u7, a7, b7, c7⟩ := r6_7 opsR6 gives_all H NN B N i D f ab ao cap hM u6 b6 _ c6
  obtain ⟨u8, a8, b8, c8⟩ := r6_8 opsR6 gives_all H NN B N i D f ab ao cap hM u7 b7 _ c7
  obtain ⟨u9, a9, b9, c9⟩ := r6_9 opsR6 gives_all H NN B N i D f ab ao cap hM u8 b8 _ c8
  refine ⟨u9, ?_, b9, c9⟩
  have := a0.app (a1.app (a2.app (a3.app (a4.app (a5.app (a6.app (a7.app (a8.app a9))))))))
  rw [← parts6] at this
  exact this
theorem wiF (n lo hi : Int) : wi n lo hi = !(ltI n lo || ltI hi n) := by unfold wi; cases ltI n lo <;> cases ltI hi n <;> rfl
theorem eqB_comm (a b : Bool) : (a == b) = (b == a) := by cases a <;> cases b <;> rfl
/-- the files that are left, behind one -/
theorem files_bad (fs : List FileD) (i : Nat) (f : FileD) (hf : fs[i]? = some f) : filesOK (lastAt fs i) (fs.drop i) = (!bad6 fs i f && filesOK f.name (fs.drop (i + 1))) := by
  have hdrop : fs.drop i = f :: fs.drop (i + 1) := by
    obtain ⟨h1, h2⟩ := List.getElem?_eq_some_iff.1 hf
    rw [List.drop_eq_getElem_cons h1, h2]
  have hlast : (ltI f.name 1 || !ltI (lastAt fs i) f.name) = (ltI f.name 1 || badP fs i f) := by
    cases i with
    | zero =>
      show (ltI f.name 1 || !ltI 0 f.name) = (ltI f.name 1 || false)
      rw [ltI_eq, ltI_eq]
      by_cases h : f.name < 1
      · rw [decide_eq_true h]; rfl
      · rw [decide_eq_false h, decide_eq_true (show 0 < f.name by omega)]; rfl
    | succ j => rfl
  rw [hdrop]
  show (f.right && (ltI (lastAt fs i) f.name && _)) = _
  unfold bad6 FileD.right rightF
  rw [wiF, wiF, wiF, wiF, lt65, lt65, eqB_comm (eqI f.blocks 0)]
  generalize filesOK f.name (List.drop (i + 1) fs) = rest
  generalize badP fs i f = bp at *
  generalize ltI (lastAt fs i) f.name = lt at *
  generalize ltI f.name 1 = z0 at *
  cases z0 <;> cases ltI 255 f.name <;> cases bp <;> cases lt <;> first | (simp at hlast; done) | (cases ltI f.file 1 <;> cases ltI 65535 f.file <;> cases ltI f.blocks 0 <;> cases ltI 512 f.blocks <;> first | rfl | (cases ltI f.first 0 <;> cases ltI 65535 f.first <;> cases (eqI f.first 0 == eqI f.blocks 0) <;> rfl))
theorem chB6 : sub [1,1,0,0] cdRCl = .seq (sub [1,1,0,0,0] cdRCl) (.seq (sub [1,1,0,0,1,0] cdRCl) (sub [1,1,0,0,1,1] cdRCl)) := rfl
theorem chL6 : cdRCl = .seq (sub [0] cdRCl) (.seq (sub [1,0] cdRCl) (.seq (.block 1 (sub [1,1,0,0] cdRCl)) (sub [1,1,1] cdRCl))) := rfl
noncomputable def opsA6 : Array Oper := match sub [1,1,0,0,1,0] cdRCl with
  | .region _ ops _ => ops
  | _ => #[]
noncomputable def befR6 : List Nat := (stat opsA6.toList).getD []
theorem stat6 : stat opsA6.toList = some befR6 := by kernel_rfl
theorem len6 : Nat.ble opsA6.toList.length befR6.length = true := by kernel_rfl
theorem opsA6_eq : opsA6.toList = opsR6 := rfl
theorem reg6 : sub [1,1,0,0,1,0] cdRCl = .region 6 opsA6 true := rfl
theorem go_r6 {H : Tr AObj} {NN B N i : Nat} {D : CatD} {f : FileD} {ab ao cap mk rd wr : Nat} {t : Tr Value} {Q : Ex → Fr → S → Prop} (hM : Mem6 H NN B N D f ab ao cap) (hF : Fr6 t B N i ab ao D.files.length cap) (hi : i < D.files.length) (hl : D.files.length ≤ 900)
    (hq : ∀ t2 rd', Fr6 t2 B N i ab ao D.files.length cap → t2.get 131 = some (.bool (bad6 D.files i f)) → Q .normal ⟨14, t2, 133, [], none⟩ ⟨H, NN, mk, rd', wr⟩) :
    GoC E (sumsOf []) (.region 6 opsA6 true) ⟨14, t, 133, [], none⟩ ⟨H, NN, mk, rd, wr⟩ Q := by
  obtain ⟨t2, a, b, c⟩ := all6 H NN B N i D f ab ao cap hM t hF hi hl
  exact go_drawn_reads stat6 (ble_iff.1 len6) (by rw [opsA6_eq]; exact a) (fun rd' => hq t2 rd' b c)
set_option maxHeartbeats 1000000 in
theorem rc_turn (B cap N0 : Nat) (D : CatD) (hN0 : N0 + D.files.length ≤ 900) (ab ao i : Nat) (t : Tr Value) (s : S) (hlt : i < D.files.length)
    (hn : s.next ≤ N0 + i) (C : Cl s B 0 (D.cells (some ⟨ab, ao, none⟩) cap)) (hcs : Cl s ab ao (fcs D.files)) (h1 : t.get 1 = some (.pointer (some ⟨B, 0, none⟩))) (h62 : t.get 62 = some (.slice (some ⟨ab, ao, none⟩) D.files.length cap)) (h63 : t.get 63 = some (.int .i64 (.ofNat D.files.length))) (h64 : t.get 64 = some (.int .i64 (.ofNat i)))
    (hok : filesOK 0 D.files = filesOK (lastAt D.files i) (D.files.drop i)) :
    GoC E (sumsOf []) cdRCl ⟨14, t, 133, [], none⟩ s (Again (InvRC B cap N0 (some ⟨ab, ao, none⟩) D) (D.files.length - i) (PostRC N0 D)) := by
  rw [chL6, chB6, reg6]
  generalize hops : opsA6 = ops6
  simp only [cdRCl, cdRC, Tryd.f14, bodyOf, sub]
  obtain ⟨f, hf⟩ : ∃ f, D.files[i]? = some f := ⟨_, List.getElem?_eq_getElem hlt⟩
  have hlt' : ltI (Int.ofNat i) (Int.ofNat D.files.length) = true := by rw [ltI_eq]; simp; omega
  have hbl : Nat.blt i D.files.length = true := blt_iff.2 hlt
  have hinc := b_incr (n := i) (by omega)
  have hsub := hcs.sub (i * 4) 4 (by rw [fcs_len]; omega)
  rw [fcs_at D.files i f hf] at hsub
  have hN1 : Nat.ble s.next lastName = true := small_name (by omega)
  obtain ⟨H, N, mk, rd, wr⟩ := s
  simp only at hn hN1
  have st := newCell H N mk hN1 [.int .i64 0, .int .i64 0, .int .i64 0, .int .i64 0] f.cells 41 rfl (by simp [FileD.cells]) rfl
  have lf := hsub.ldA (β := ANext) tiF (by rw [dsF]; rfl) (by rw [szF]; rfl)
  have aa : addA ⟨ab, ao, none⟩ (Nat.mul i 4) = ⟨ab, ao + i * 4, none⟩ := addAn ab ao _
  repeat apply go_seq
  apply go_region
  case h => intro m; simp (maxSteps := 2000000) (disch := decide) only [opsLoop, evOper, wantedA, nth, aop, aPick, aBin, aIndexAddr, aFieldAddr, aLoad, aStore, aExtract, aConvert, aAlloc, aBox, aIndex, callA, builtinA, Fr.evs, opt, val, when, AM.run, outV, newA, ptr, force_eq, seen_heap, seen_next, seen_mark, seen_seen, agg_cells, int_cells, Fr.ev, Fr.put, onFr, gps, gpn, bltT, still, flat, List.append_nil, List.nil_append, List.cons_append, Nat.reduceEqDiff, ne_eq, not_false_eq_true, reduceCtorEq, Bool.and_true, Bool.true_and, Bool.and_false, Bool.false_and, Bool.not_true, Bool.not_false, Bool.and_self, h63, h64, b_lss, hlt']; rfl
  repeat apply go_seq
  apply go_cond
  case hc => simp (disch := decide) only [opsLoop, evOper, wantedA, nth, aop, aPick, aBin, aIndexAddr, aFieldAddr, aLoad, aStore, aExtract, aConvert, aAlloc, aBox, aIndex, callA, builtinA, Fr.evs, opt, val, when, AM.run, outV, newA, ptr, force_eq, seen_heap, seen_next, seen_mark, seen_seen, agg_cells, int_cells, Fr.ev, Fr.put, onFr, gps, gpn, bltT, still, flat, List.append_nil, List.nil_append, List.cons_append, Nat.reduceEqDiff, ne_eq, not_false_eq_true, reduceCtorEq, Bool.and_true, Bool.true_and, Bool.and_false, Bool.false_and, Bool.not_true, Bool.not_false, Bool.and_self]; rfl
  case h2 => intro h; cases h
  intro _
  apply go_skip
  apply go_seq
  apply go_block
  repeat apply go_seq
  apply go_region
  case h => intro m; simp (maxSteps := 2000000) (disch := decide) only [opsLoop, evOper, wantedA, nth, aop, aPick, aBin, aIndexAddr, aFieldAddr, aLoad, aStore, aExtract, aConvert, aAlloc, aBox, aIndex, callA, builtinA, Fr.evs, opt, val, when, AM.run, outV, newA, ptr, force_eq, seen_heap, seen_next, seen_mark, seen_seen, agg_cells, int_cells, Fr.ev, Fr.put, onFr, gps, gpn, bltT, still, flat, List.append_nil, List.nil_append, List.cons_append, Nat.reduceEqDiff, ne_eq, not_false_eq_true, reduceCtorEq, Bool.and_true, Bool.true_and, Bool.and_false, Bool.false_and, Bool.not_true, Bool.not_false, Bool.and_self, h62, h64, tyFs, dsFs, hbl, tyF, szF, dsF, aa, lf, zeF, hN1, len4, show Nat.beq f.cells.length 4 = true from rfl, st]; rfl
  generalize hs1 : S.mk _ _ _ _ _ = s1
  have e1 : s1.next = N + 1 := by rw [← hs1]
  have e1h : s1.heap = (H.put N (some (.cells (Tr.ofList [.int .i64 0, .int .i64 0, .int .i64 0, .int .i64 0]) (List.length [Value.int .i64 0, .int .i64 0, .int .i64 0, .int .i64 0]) 41 .whole))).put N (some (.cells (wrCells (Tr.ofList [.int .i64 0, .int .i64 0, .int .i64 0, .int .i64 0]) 0 f.cells) (List.length [Value.int .i64 0, .int .i64 0, .int .i64 0, .int .i64 0]) 41 .whole)) := by rw [← hs1]
  clear hs1
  have F1 : Cl s1 N 0 f.cells := newCell_cl (by omega) (by rw [e1h]; exact hg_same hN1 _ _) rfl (by simp [FileD.cells])
  have gm : ∀ m, m ≠ N → s1.heap.get m = H.get m := fun m hm => by rw [e1h, hg_far hN1 hm, hg_far hN1 hm]
  clear e1h st lf
  have hltR : ab < N := hcs.lt
  have hltB : B < N := C.lt
  have hcs1 : Cl s1 ab ao (fcs D.files) := hcs.keep (by show N ≤ _; omega) (gm _ (by omega))
  have CB1 : Cl s1 B 0 (D.cells (some ⟨ab, ao, none⟩) cap) := C.keep (by show N ≤ _; omega) (gm _ (by omega))
  obtain ⟨H1, N1, mk1, rd1, wr1⟩ := s1
  simp only at e1 gm
  have hM : Mem6 H1 N1 B N D f ab ao cap := ⟨F1.of rfl rfl, CB1.of rfl rfl, hcs1.of rfl rfl⟩
  apply go_seq
  rw [← hops]
  refine go_r6 hM ⟨by simp (disch := decide) only [gps, gpn, h1], by simp (disch := decide) only [gps, gpn], by simp (disch := decide) only [gps, gpn], by simp (disch := decide) only [gps, gpn, h62], by simp (disch := decide) only [gps, gpn, h63], by simp (disch := decide) only [gps, gpn, h64]⟩ hlt (by omega) ?_
  intro t2 rd' hF2 ho
  obtain ⟨g1, g3, g4, g62, g63, g64⟩ := hF2
  have fb := files_bad D.files i f hf
  show GoC _ _ _ _ _ _
  cases hb : bad6 D.files i f with
  | true =>
    rw [hb] at ho
    have hfin : filesOK 0 D.files = false := by rw [hok, fb, hb]; rfl
    repeat apply go_seq
    apply go_cond
    case hc => simp (disch := decide) only [opsLoop, evOper, wantedA, nth, aop, aPick, aBin, aIndexAddr, aFieldAddr, aLoad, aStore, aExtract, aConvert, aAlloc, aBox, aIndex, callA, builtinA, Fr.evs, opt, val, when, AM.run, outV, newA, ptr, force_eq, seen_heap, seen_next, seen_mark, seen_seen, agg_cells, int_cells, Fr.ev, Fr.put, onFr, gps, gpn, bltT, still, flat, List.append_nil, List.nil_append, List.cons_append, Nat.reduceEqDiff, ne_eq, not_false_eq_true, reduceCtorEq, Bool.and_true, Bool.true_and, Bool.and_false, Bool.false_and, Bool.not_true, Bool.not_false, Bool.and_self, ho]; rfl
    case h2 => intro h; cases h
    intro _
    repeat apply go_seq
    apply go_region
    case h => intro m; simp (maxSteps := 2000000) (disch := decide) only [opsLoop, evOper, wantedA, nth, aop, aPick, aBin, aIndexAddr, aFieldAddr, aLoad, aStore, aExtract, aConvert, aAlloc, aBox, aIndex, callA, builtinA, Fr.evs, opt, val, when, AM.run, outV, newA, ptr, force_eq, seen_heap, seen_next, seen_mark, seen_seen, agg_cells, int_cells, Fr.ev, Fr.put, onFr, gps, gpn, bltT, still, flat, List.append_nil, List.nil_append, List.cons_append, Nat.reduceEqDiff, ne_eq, not_false_eq_true, reduceCtorEq, Bool.and_true, Bool.true_and, Bool.and_false, Bool.false_and, Bool.not_true, Bool.not_false, Bool.and_self]; rfl
    apply go_ret
    refine ⟨_, rfl, by show N1 ≤ _; omega, .inr ⟨rfl, hfin, ?_⟩⟩
    simp (disch := decide) only [gps, gpn]
  | false =>
    rw [hb] at ho
    have hfin : filesOK 0 D.files = filesOK f.name (D.files.drop (i + 1)) := by rw [hok, fb, hb]; rfl
    repeat apply go_seq
    apply go_cond
    case hc => simp (disch := decide) only [opsLoop, evOper, wantedA, nth, aop, aPick, aBin, aIndexAddr, aFieldAddr, aLoad, aStore, aExtract, aConvert, aAlloc, aBox, aIndex, callA, builtinA, Fr.evs, opt, val, when, AM.run, outV, newA, ptr, force_eq, seen_heap, seen_next, seen_mark, seen_seen, agg_cells, int_cells, Fr.ev, Fr.put, onFr, gps, gpn, bltT, still, flat, List.append_nil, List.nil_append, List.cons_append, Nat.reduceEqDiff, ne_eq, not_false_eq_true, reduceCtorEq, Bool.and_true, Bool.true_and, Bool.and_false, Bool.false_and, Bool.not_true, Bool.not_false, Bool.and_self, ho]; rfl
    case h1 => intro h; cases h
    intro _
    apply go_skip
    repeat apply go_seq
    apply go_region
    case h => intro m; simp (maxSteps := 2000000) (disch := decide) only [opsLoop, evOper, wantedA, nth, aop, aPick, aBin, aIndexAddr, aFieldAddr, aLoad, aStore, aExtract, aConvert, aAlloc, aBox, aIndex, callA, builtinA, Fr.evs, opt, val, when, AM.run, outV, newA, ptr, force_eq, seen_heap, seen_next, seen_mark, seen_seen, agg_cells, int_cells, Fr.ev, Fr.put, onFr, gps, gpn, bltT, still, flat, List.append_nil, List.nil_append, List.cons_append, Nat.reduceEqDiff, ne_eq, not_false_eq_true, reduceCtorEq, Bool.and_true, Bool.true_and, Bool.and_false, Bool.false_and, Bool.not_true, Bool.not_false, Bool.and_self, g64, int1, hinc]; rfl
    refine ⟨D.files.length - (i + 1), by omega, i + 1, _, rfl, by omega, rfl, by show N1 ≤ _; omega, CB1.of rfl rfl, ⟨rfl, hcs1.of rfl rfl⟩, ?_, ?_, ?_, ?_, ?_⟩
    · simp (disch := decide) only [gps, gpn, g1]
    · simp (disch := decide) only [gps, gpn, g62]
    · simp (disch := decide) only [gps, gpn, g63]
    · simp (disch := decide) only [gps, gpn]
    · rw [hfin]
      show _ = filesOK (match D.files[i]? with | some f => f.name | none => 0) _
      rw [hf]

end Go.Proofs.YtgofanjbhbeniaaDoor.lf
end
end
