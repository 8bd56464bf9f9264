/- Leaves: what the code that makes and reads them does, told shortly: numbers within bounds; bytes trimmed of noughts. -/
import Derived.Test.YtgofanjbhbeniaaDoorMRowCatalogBack0
import Derived.Test.YtgofanjbhbeniaaDoorRows
import Derived.Test.YtgofanjbhbeniaaDoorAe32
section
/- Leaves: what the code that makes and reads them does, told shortly: numbers within bounds; bytes trimmed of noughts. -/
noncomputable section
namespace Go.Proofs.YtgofanjbhbeniaaDoor.lf
open AE
set_option linter.unusedSimpArgs false
set_option linter.unusedVariables false
set_option maxRecDepth 10000

noncomputable def E : Env := Env.of Tryd.prog
theorem hP : lawful Tryd.prog = true := by kernel_rfl
theorem hmix : Tryd.prog.follows .mixedOrders = true := Checked.mixed Tryd.checked
theorem hE : EnvOK Tryd.prog E := env_ok hP

noncomputable def tiB : TI := TI.of Tryd.prog 51
theorem tyB : E.ty.get 51 = some tiB := by kernel_rfl
theorem szB : tiB.size = 1 := by kernel_rfl
theorem byB : tiB.bytes = 24 := by kernel_rfl
theorem dsB : tiB.desc = .slice 5 := by kernel_rfl
theorem zeB : tiB.zero = some (.slice none 0 0) := by kernel_rfl
noncomputable def tiU8 : TI := TI.of Tryd.prog 5
theorem tyU8 : E.ty.get 5 = some tiU8 := by kernel_rfl
theorem szU8 : tiU8.size = 1 := by kernel_rfl
theorem byU8 : tiU8.bytes = 1 := by kernel_rfl
theorem dsU8 : tiU8.desc = .int .u8 := by kernel_rfl
theorem zeU8 : tiU8.zero = some (.int .u8 0) := by kernel_rfl
noncomputable def tiI : TI := TI.of Tryd.prog 3
theorem tyI : E.ty.get 3 = some tiI := by kernel_rfl
theorem szI : tiI.size = 1 := by kernel_rfl
theorem byI : tiI.bytes = 8 := by kernel_rfl
theorem dsI : tiI.desc = .int .i64 := by kernel_rfl
theorem zeI : tiI.zero = some (.int .i64 0) := by kernel_rfl
noncomputable def tiU32 : TI := TI.of Tryd.prog 73
theorem tyU32 : E.ty.get 73 = some tiU32 := by kernel_rfl
theorem szU32 : tiU32.size = 1 := by kernel_rfl
theorem byU32 : tiU32.bytes = 4 := by kernel_rfl
theorem dsU32 : tiU32.desc = .int .u32 := by kernel_rfl
theorem zeU32 : tiU32.zero = some (.int .u32 0) := by kernel_rfl
noncomputable def tiBo : TI := TI.of Tryd.prog 4
theorem tyBo : E.ty.get 4 = some tiBo := by kernel_rfl
theorem szBo : tiBo.size = 1 := by kernel_rfl
theorem byBo : tiBo.bytes = 1 := by kernel_rfl
theorem dsBo : tiBo.desc = .bool := by kernel_rfl
theorem zeBo : tiBo.zero = some (.bool false) := by kernel_rfl
noncomputable def tiL : TI := TI.of Tryd.prog 43
theorem tyL : E.ty.get 43 = some tiL := by kernel_rfl
theorem szL : tiL.size = 1 := by kernel_rfl
theorem byL : tiL.bytes = 24 := by kernel_rfl
theorem dsL : tiL.desc = .slice 3 := by kernel_rfl
theorem zeL : tiL.zero = some (.slice none 0 0) := by kernel_rfl
noncomputable def tiA : TI := TI.of Tryd.prog 28
theorem tyA : E.ty.get 28 = some tiA := by kernel_rfl
theorem szA : tiA.size = 116 := by kernel_rfl
theorem byA : tiA.bytes = 116 := by kernel_rfl
theorem dsA : tiA.desc = .array 116 5 := by kernel_rfl
noncomputable def tiSt : TI := TI.of Tryd.prog 9
theorem tySt : E.ty.get 9 = some tiSt := by kernel_rfl
theorem szSt : tiSt.size = 1 := by kernel_rfl
theorem bySt : tiSt.bytes = 16 := by kernel_rfl
theorem dsSt : tiSt.desc = .string := by kernel_rfl

theorem seen_heap (s : S) (n : Nat) : (s.seen n).heap = s.heap := rfl
theorem seen_next (s : S) (n : Nat) : (s.seen n).next = s.next := rfl
theorem seen_mark (s : S) (n : Nat) : (s.seen n).mark = s.mark := rfl
theorem agg_cells (cs : List Value) : (Value.agg ⟨cs⟩).cells.toList = cs := rfl
theorem int_cells (k : IntKind) (n : Int) : (Value.int k n).cells.toList = [.int k n] := rfl

/-! rules for numbers -/
theorem b_geq {E t} (x y : Int) : binA E .geq t (.int .i64 x) (.int .i64 y) = some (.bool (not (ltI x y))) := rfl
theorem b_leq {E t} (x y : Int) : binA E .leq t (.int .i64 x) (.int .i64 y) = some (.bool (not (ltI y x))) := rfl
theorem b_gtr {E t} (x y : Int) : binA E .gtr t (.int .i64 x) (.int .i64 y) = some (.bool (ltI y x)) := rfl
theorem b_add {E t} (x y : Int) : binA E .add t (.int .i64 x) (.int .i64 y) = some (.int .i64 (wrapA .i64 (Int.add x y))) := rfl
theorem b_sub {E t} (x y : Int) : binA E .sub t (.int .i64 x) (.int .i64 y) = some (.int .i64 (wrapA .i64 (Int.sub x y))) := rfl
theorem b_eql {E t} (x y : Int) : binA E .eql t (.int .i64 x) (.int .i64 y) = some (.bool (eqI x y)) := rfl
theorem b_eql8 {E t} (x y : Int) : binA E .eql t (.int .u8 x) (.int .u8 y) = some (.bool (eqI x y)) := rfl
theorem u_not (b : Bool) : unA .not (.bool b) = some (.bool (not b)) := rfl

/-! within -/
def withinA : List Value → AM Value
  | [.int .i64 n, .int .i64 lo, .int .i64 hi] => .pure (.bool (not (ltI n lo) && not (ltI hi n)))
  | _ => .fail
noncomputable def fiW : FI := FI.of Tryd.f39
noncomputable def cdW : Code := bodyOf Tryd.f39
theorem resW : fiW.results = [.tmp 6] := rfl
theorem told_within : AE.Told Tryd.prog 39 withinA := by
  refine told_go hE hmix tolds_nil ?_
  intro args s v s' h hm
  unfold withinA at h
  split at h
  · rename_i n lo hi
    cases h
    refine go_enter (fi := fiW) (c := cdW) (by kernel_rfl) (by kernel_rfl) 15 rfl rfl ?_
    simp only [cdW, Tryd.f39, bodyOf]
    have h0 : (Tr.ofList [Value.int .i64 n, .int .i64 lo, .int .i64 hi]).get 0 = some (.int .i64 n) := rfl
    have h1 : (Tr.ofList [Value.int .i64 n, .int .i64 lo, .int .i64 hi]).get 1 = some (.int .i64 lo) := rfl
    have h2 : (Tr.ofList [Value.int .i64 n, .int .i64 lo, .int .i64 hi]).get 2 = some (.int .i64 hi) := rfl
    generalize Tr.ofList [Value.int .i64 n, .int .i64 lo, .int .i64 hi] = t at *
    repeat apply go_seq
    apply go_region
    case h => intro m; simp (maxSteps := 2000000) (disch := decide) only [opsLoop, evOper, wantedA, nth, aop, aPick, aBin, aIndexAddr, aFieldAddr, aLoad, aStore, aExtract, aConvert, aAlloc, aBox, aIndex, callA, builtinA, Fr.evs, opt, val, when, AM.run, outV, newA, ptr, force_eq, seen_heap, seen_next, seen_mark, seen_seen, agg_cells, int_cells, Fr.ev, Fr.put, onFr, gps, gpn, bltT, still, flat, List.append_nil, List.nil_append, List.cons_append, Nat.reduceEqDiff, ne_eq, not_false_eq_true, reduceCtorEq, Bool.and_true, Bool.true_and, Bool.and_false, Bool.false_and, Bool.not_true, Bool.not_false, Bool.and_self]; rfl
    cases hlo : ltI n lo
    all_goals
      repeat apply go_seq
      apply go_region
      case h => intro m; simp (maxSteps := 2000000) (disch := decide) only [opsLoop, evOper, wantedA, nth, aop, aPick, aBin, aIndexAddr, aFieldAddr, aLoad, aStore, aExtract, aConvert, aAlloc, aBox, aIndex, callA, builtinA, Fr.evs, opt, val, when, AM.run, outV, newA, ptr, force_eq, seen_heap, seen_next, seen_mark, seen_seen, agg_cells, int_cells, Fr.ev, Fr.put, onFr, gps, gpn, bltT, still, flat, List.append_nil, List.nil_append, List.cons_append, Nat.reduceEqDiff, ne_eq, not_false_eq_true, reduceCtorEq, Bool.and_true, Bool.true_and, Bool.and_false, Bool.false_and, Bool.not_true, Bool.not_false, Bool.and_self, h0, h1, h2, b_geq, b_leq, hlo, Bool.not_false, Bool.not_true]; rfl
      repeat apply go_seq
      apply go_ret
      apply ret_intro rfl rfl
      case run => simp (disch := decide) only [resultsM, resultsA, resW, opsLoop, evOper, wantedA, nth, aop, aPick, aBin, aIndexAddr, aFieldAddr, aLoad, aStore, aExtract, aConvert, aAlloc, aBox, aIndex, callA, builtinA, Fr.evs, opt, val, when, AM.run, outV, newA, ptr, force_eq, seen_heap, seen_next, seen_mark, seen_seen, agg_cells, int_cells, Fr.ev, Fr.put, onFr, gps, gpn, bltT, still, flat, List.append_nil, List.nil_append, List.cons_append, Nat.reduceEqDiff, ne_eq, not_false_eq_true, reduceCtorEq, Bool.and_true, Bool.true_and, Bool.and_false, Bool.false_and, Bool.not_true, Bool.not_false, Bool.and_self]; rfl
      exact ⟨by simp only [Bool.not_false, Bool.not_true, Bool.true_and, Bool.false_and], Less'.refl _⟩
  · cases h

/-! bytes that lie in memory -/
structure Bs (s : S) (ad : Addr) (l : List UInt8) : Prop where
  spot : ad.spot = none
  lt : ad.block < s.next
  cell : ∃ c m, Has s ad.block c m ∧ ad.off + l.length ≤ m ∧ Row c ad.off (l.map bv)
theorem Bs.rd {s s' : S} {ad : Addr} {l : List UInt8} (h : Bs s ad l) (hr : Rd s s') : Bs s' ad l := ⟨h.spot, by rw [hr.next]; exact h.lt, by obtain ⟨c, m, h1, h2⟩ := h.cell; exact ⟨c, m, h1.of (by rw [hr.heap]), h2⟩⟩
theorem Bs.at {s : S} {ad : Addr} {l : List UInt8} (h : Bs s ad l) {k : Nat} {x : UInt8} (hk : l[k]? = some x) : sum.At s ad k x.toNat := by
  obtain ⟨c, m, h1, h2, h3⟩ := h.cell
  have hlt := (List.getElem?_eq_some_iff.1 hk).1
  exact ⟨h.spot, h.lt, c, m, h1, by omega, h3 k (bv x) (by rw [List.getElem?_map, hk]; rfl)⟩
theorem bs_of_load {β : Type} {ad : Addr} {n : Nat} {k : List UInt8 → AM β} {s : S} {r : β × S} (h : (loadA ad n fun cs => opt (bytesV cs) k).run s = some r) : ∃ l, l.length = n ∧ Bs s ad l ∧ (k l).run (s.seen ad.block) = some r := by
  obtain ⟨c, m, cs, h1, h2, h3, h4, h5, h6⟩ := load_inv h
  obtain ⟨l, hl, h7⟩ := run_opt h6
  obtain ⟨e1, e2⟩ := row_of_rd h5
  have := bytesV_inv hl
  subst this
  have hln : l.length = n := by simpa using e1
  exact ⟨l, hln, ⟨h1, h2, c, m, h3, by rw [hln]; exact h4, e2⟩, h7⟩

theorem addA_add {ad : Addr} (h : ad.spot = none) (i j : Nat) : addA (addA ad i) j = addA ad (i + j) := by
  rw [sum.addA_eq ad i h, sum.addA_eq ad (i + j) h, sum.addA_eq _ j rfl, Nat.add_assoc]
theorem addIf_one (a : Addr) (m : Nat) : addIf a m 1 1 = if m = 1 then a else addA a 1 := by
  unfold addIf
  by_cases h : m = 1
  · subst h; rfl
  · have : Nat.beq m 1 = false := by
      cases hh : Nat.beq m 1 with
      | false => rfl
      | true => exact absurd (beq_iff.1 hh) h
    rw [this, if_neg h]; first | done | rfl
theorem ble_f {a b : Nat} (h : b < a) : Nat.ble a b = false := by
  cases hh : Nat.ble a b with
  | false => rfl
  | true => exact absurd (ble_iff.1 hh) (by omega)
theorem blt_f {a b : Nat} (h : b ≤ a) : Nat.blt a b = false := by
  cases hh : Nat.blt a b with
  | false => rfl
  | true => exact absurd (blt_iff.1 hh) (by omega)
theorem eqI_f {a b : Nat} (h : a ≠ b) : eqI (Int.ofNat a) (Int.ofNat b) = false := by rw [eqI_eq]; exact decide_eq_false (fun e => h (Int.ofNat.inj e))
theorem eqI_t (a : Nat) : eqI (Int.ofNat a) (Int.ofNat a) = true := by rw [eqI_eq]; simp

/-! noughts ahead -/
def lead : List UInt8 → Nat
  | [] => 0
  | x :: l => if x = 0 then lead l + 1 else 0
theorem lead_le : ∀ l, lead l ≤ l.length
  | [] => Nat.le_refl _
  | x :: l => by unfold lead; split; · simp; exact lead_le l
                 · simp
theorem lead_eq : ∀ (l : List UInt8) (i : Nat), i ≤ l.length → (∀ j, j < i → l[j]? = some 0) → (∀ x, l[i]? = some x → x ≠ 0) → lead l = i
  | [], i, hi, _, _ => by simp at hi; subst hi; rfl
  | x :: l, 0, _, _, h => by
    have := h x rfl
    unfold lead; rw [if_neg this]
  | x :: l, i + 1, hi, h0, h => by
    have hx : x = 0 := by have := h0 0 (by omega); simpa using this
    unfold lead
    rw [if_pos hx, lead_eq l i (by simpa using hi) (fun j hj => by have := h0 (j + 1) (by omega); simpa using this) (fun y hy => h y (by simpa using hy))]
def trimLV (ad : Addr) (cap : Nat) (l : List UInt8) : Value := if lead l = l.length then .slice none 0 0 else .slice (some (addA ad (lead l))) (l.length - lead l) (cap - lead l)
def trimLA : List Value → AM Value
  | [.slice (some ad) n cap, .int .u8 (.ofNat 0)] => when (Nat.ble n cap && Nat.blt cap OPEN) (loadA ad n fun cs => opt (bytesV cs) fun l => .pure (trimLV ad cap l))
  | _ => .fail
noncomputable def fiTL : FI := FI.of Tryd.f45
noncomputable def cdTL : Code := bodyOf Tryd.f45
noncomputable def cdTLl : Code := sub [1,0,0,0] cdTL
theorem resTL : fiTL.results = [.tmp 4] := rfl
theorem int0 : (0 : Int) = Int.ofNat 0 := rfl
theorem int1 : (1 : Int) = Int.ofNat 1 := rfl

def InvTL (ad : Addr) (cap : Nat) (l : List UInt8) (s0 : S) (k : Nat) (fr : Fr) (s : S) : Prop :=
  ∃ (i : Nat) (a : Addr) (t : Tr Value), k = l.length - i ∧ i ≤ l.length ∧ fr = ⟨45, t, 21, [], none⟩ ∧ Rd s0 s ∧ t.get 0 = some (.slice (some a) (l.length - i) (cap - i)) ∧ t.get 1 = some (.int .u8 (.ofNat 0)) ∧
    (i < l.length → a = addA ad i) ∧ (∀ j, j < i → l[j]? = some 0)
theorem trimL_round (ad : Addr) (cap : Nat) (l : List UInt8) (s0 : S) (hc : cap < OPEN) (hl : l.length ≤ cap) (hb : Bs s0 ad l) (k : Nat) (fr : Fr) (s : S) (h : InvTL ad cap l s0 k fr s) :
    GoC E (sumsOf []) cdTLl fr s (Again (InvTL ad cap l s0) k fun x fr s => x = .exit 0 ∧ ∃ (t : Tr Value) (a : Addr), fr = ⟨45, t, 21, [], none⟩ ∧ Rd s0 s ∧ t.get 0 = some (.slice (some a) (l.length - lead l) (cap - lead l)) ∧ (lead l < l.length → a = addA ad (lead l))) := by
  obtain ⟨i, a, t, rfl, hi, rfl, hr, h0, h1, ha, hz⟩ := h
  simp only [cdTLl, cdTL, Tryd.f45, bodyOf, sub]
  by_cases hlt : i < l.length
  · obtain rfl := ha hlt
    obtain ⟨n, hn⟩ : ∃ n, l.length - i = n + 1 := ⟨l.length - i - 1, by omega⟩
    obtain ⟨c, hcc⟩ : ∃ c, cap - i = c + 1 := ⟨cap - i - 1, by omega⟩
    have hnc : n ≤ c := by omega
    rw [hn, hcc] at h0
    obtain ⟨x, hx⟩ : ∃ x, l[i]? = some x := ⟨_, List.getElem?_eq_getElem hlt⟩
    have hgt : ltI (Int.ofNat 0) (Int.ofNat (n + 1)) = true := by rw [ltI_eq]; simp
    have hld := sum.byte_load (Bs.at (hb.rd hr) hx) tiU8 dsU8
    have hnn : Nat.blt 0 (n + 1) = true := rfl
    have hble : Nat.ble 1 (n + 1) = true := rfl
    have hopen : Nat.ble OPEN (c + 1) = false := ble_f (by omega)
    have hble2 : Nat.ble (n + 1) (c + 1) = true := ble_iff.2 (by omega)
    have hadd : addA (addA ad i) (Nat.mul 0 1) = addA ad i := rfl
    have hs1 : Nat.sub (n + 1) 1 = n := rfl
    have hs2 : Nat.sub (c + 1) 1 = c := rfl
    by_cases hx0 : x = 0
    · subst hx0
      have hl0 : (loadT tiU8 (addA ad i) val).run s = some (.value (.int .u8 (.ofNat 0)), s.seen ad.block) := hld
      repeat apply go_seq
      apply go_region
      case h => intro m; simp (maxSteps := 2000000) (disch := decide) only [opsLoop, evOper, wantedA, nth, aop, aPick, aBin, aIndexAddr, aFieldAddr, aLoad, aStore, aExtract, aConvert, aAlloc, aBox, aIndex, callA, builtinA, Fr.evs, opt, val, when, AM.run, outV, newA, ptr, force_eq, seen_heap, seen_next, seen_mark, seen_seen, agg_cells, int_cells, Fr.ev, Fr.put, onFr, gps, gpn, bltT, still, flat, List.append_nil, List.nil_append, List.cons_append, Nat.reduceEqDiff, ne_eq, not_false_eq_true, reduceCtorEq, Bool.and_true, Bool.true_and, Bool.and_false, Bool.false_and, Bool.not_true, Bool.not_false, Bool.and_self, h0, h1, tyB, tyU8, dsB, dsU8, szU8, b_gtr, b_eql8, int0, hgt, hnn, hadd, hl0, eqI_t]; rfl
      repeat apply go_seq
      apply go_cond
      case hc => simp (disch := decide) only [opsLoop, evOper, wantedA, nth, aop, aPick, aBin, aIndexAddr, aFieldAddr, aLoad, aStore, aExtract, aConvert, aAlloc, aBox, aIndex, callA, builtinA, Fr.evs, opt, val, when, AM.run, outV, newA, ptr, force_eq, seen_heap, seen_next, seen_mark, seen_seen, agg_cells, int_cells, Fr.ev, Fr.put, onFr, gps, gpn, bltT, still, flat, List.append_nil, List.nil_append, List.cons_append, Nat.reduceEqDiff, ne_eq, not_false_eq_true, reduceCtorEq, Bool.and_true, Bool.true_and, Bool.and_false, Bool.false_and, Bool.not_true, Bool.not_false, Bool.and_self]; rfl
      case h2 => intro h; cases h
      intro _
      apply go_skip
      apply go_block
      repeat apply go_seq
      apply go_region
      case h => intro m; simp (maxSteps := 2000000) (disch := decide) only [opsLoop, evOper, wantedA, nth, aop, aPick, aBin, aIndexAddr, aFieldAddr, aLoad, aStore, aExtract, aConvert, aAlloc, aBox, aIndex, callA, builtinA, Fr.evs, opt, val, when, AM.run, outV, newA, ptr, force_eq, seen_heap, seen_next, seen_mark, seen_seen, agg_cells, int_cells, Fr.ev, Fr.put, onFr, gps, gpn, bltT, still, flat, List.append_nil, List.nil_append, List.cons_append, Nat.reduceEqDiff, ne_eq, not_false_eq_true, reduceCtorEq, Bool.and_true, Bool.true_and, Bool.and_false, Bool.false_and, Bool.not_true, Bool.not_false, Bool.and_self, h0, h1, aSlice, lowHigh, intOf?, sliceA, sliceE, tyB, tyU8, dsB, dsU8, szU8, int1, hopen, hble, hble2, hs1, hs2]; rfl
      refine ⟨l.length - (i + 1), by omega, i + 1, addIf (addA ad i) (c + 1) 1 1, _, rfl, by omega, rfl, hr.trans (Rd.seen s ad.block), ?_, ?_, ?_, ?_⟩
      · rw [show l.length - (i + 1) = n by omega, show cap - (i + 1) = c by omega]
        simp (disch := decide) only [gps, gpn, ne_eq]
      · simp (disch := decide) only [gps, gpn, h1]
      · intro h
        rw [addIf_one, if_neg (by omega), addA_add hb.spot]
      · intro j hj
        by_cases e : j = i
        · subst e; exact hx
        · exact hz j (by omega)
    · have hne : eqI (Int.ofNat x.toNat) (Int.ofNat 0) = false := eqI_f (fun h => hx0 (UInt8.toNat_inj.1 (by simpa using h)))
      repeat apply go_seq
      apply go_region
      case h => intro m; simp (maxSteps := 2000000) (disch := decide) only [opsLoop, evOper, wantedA, nth, aop, aPick, aBin, aIndexAddr, aFieldAddr, aLoad, aStore, aExtract, aConvert, aAlloc, aBox, aIndex, callA, builtinA, Fr.evs, opt, val, when, AM.run, outV, newA, ptr, force_eq, seen_heap, seen_next, seen_mark, seen_seen, agg_cells, int_cells, Fr.ev, Fr.put, onFr, gps, gpn, bltT, still, flat, List.append_nil, List.nil_append, List.cons_append, Nat.reduceEqDiff, ne_eq, not_false_eq_true, reduceCtorEq, Bool.and_true, Bool.true_and, Bool.and_false, Bool.false_and, Bool.not_true, Bool.not_false, Bool.and_self, h0, h1, tyB, tyU8, dsB, dsU8, szU8, b_gtr, b_eql8, int0, hgt, hnn, hadd, hld, hne]; rfl
      repeat apply go_seq
      apply go_cond
      case hc => simp (disch := decide) only [opsLoop, evOper, wantedA, nth, aop, aPick, aBin, aIndexAddr, aFieldAddr, aLoad, aStore, aExtract, aConvert, aAlloc, aBox, aIndex, callA, builtinA, Fr.evs, opt, val, when, AM.run, outV, newA, ptr, force_eq, seen_heap, seen_next, seen_mark, seen_seen, agg_cells, int_cells, Fr.ev, Fr.put, onFr, gps, gpn, bltT, still, flat, List.append_nil, List.nil_append, List.cons_append, Nat.reduceEqDiff, ne_eq, not_false_eq_true, reduceCtorEq, Bool.and_true, Bool.true_and, Bool.and_false, Bool.false_and, Bool.not_true, Bool.not_false, Bool.and_self]; rfl
      case h1 => intro h; cases h
      intro _
      apply go_exit
      have hlead : lead l = i := lead_eq l i hi hz (fun y hy => by rw [hx] at hy; cases hy; exact hx0)
      refine ⟨rfl, _, addA ad i, rfl, hr.trans (Rd.seen s ad.block), ?_, fun _ => by rw [hlead]⟩
      rw [hlead, hn, hcc]
      simp (disch := decide) only [gps, gpn, h0]
  · obtain rfl : i = l.length := by omega
    rw [Nat.sub_self] at h0
    have hgt : ltI (Int.ofNat 0) (Int.ofNat 0) = false := rfl
    repeat apply go_seq
    apply go_region
    case h => intro m; simp (maxSteps := 2000000) (disch := decide) only [opsLoop, evOper, wantedA, nth, aop, aPick, aBin, aIndexAddr, aFieldAddr, aLoad, aStore, aExtract, aConvert, aAlloc, aBox, aIndex, callA, builtinA, Fr.evs, opt, val, when, AM.run, outV, newA, ptr, force_eq, seen_heap, seen_next, seen_mark, seen_seen, agg_cells, int_cells, Fr.ev, Fr.put, onFr, gps, gpn, bltT, still, flat, List.append_nil, List.nil_append, List.cons_append, Nat.reduceEqDiff, ne_eq, not_false_eq_true, reduceCtorEq, Bool.and_true, Bool.true_and, Bool.and_false, Bool.false_and, Bool.not_true, Bool.not_false, Bool.and_self, h0, h1, tyB, tyU8, dsB, dsU8, szU8, b_gtr, b_eql8, int0, hgt]; rfl
    repeat apply go_seq
    apply go_cond
    case hc => simp (disch := decide) only [opsLoop, evOper, wantedA, nth, aop, aPick, aBin, aIndexAddr, aFieldAddr, aLoad, aStore, aExtract, aConvert, aAlloc, aBox, aIndex, callA, builtinA, Fr.evs, opt, val, when, AM.run, outV, newA, ptr, force_eq, seen_heap, seen_next, seen_mark, seen_seen, agg_cells, int_cells, Fr.ev, Fr.put, onFr, gps, gpn, bltT, still, flat, List.append_nil, List.nil_append, List.cons_append, Nat.reduceEqDiff, ne_eq, not_false_eq_true, reduceCtorEq, Bool.and_true, Bool.true_and, Bool.and_false, Bool.false_and, Bool.not_true, Bool.not_false, Bool.and_self]; rfl
    case h1 => intro h; cases h
    intro _
    apply go_exit
    have hlead : lead l = l.length := lead_eq l _ (Nat.le_refl _) hz (fun y hy => by rw [List.getElem?_eq_none (Nat.le_refl _)] at hy; cases hy)
    refine ⟨rfl, _, a, rfl, hr, ?_, fun h => by omega⟩
    rw [hlead, Nat.sub_self]
    simp (disch := decide) only [gps, gpn, h0]

theorem told_trimL : AE.Told Tryd.prog 45 trimLA := by
  refine told_go hE hmix tolds_nil ?_
  intro args s v s' h hm
  unfold trimLA at h
  split at h
  · rename_i ad n cap
    obtain ⟨hc, h2⟩ := run_when h
    simp only [Bool.and_eq_true] at hc
    obtain ⟨hc1, hc2⟩ := hc
    have hle := ble_iff.1 hc1
    have hop := blt_iff.1 hc2
    obtain ⟨l, rfl, hb, h3⟩ := bs_of_load h2
    cases h3
    refine go_enter (fi := fiTL) (c := cdTL) (by kernel_rfl) (by kernel_rfl) 21 rfl rfl ?_
    have hcode : cdTL = .seq (sub [0] cdTL) (.seq (.block 0 (.loop cdTLl)) (sub [1,1] cdTL)) := rfl
    rw [hcode]
    have h0 : (Tr.ofList [Value.slice (some ad) l.length cap, .int .u8 (.ofNat 0)]).get 0 = some (.slice (some ad) l.length cap) := rfl
    have h1 : (Tr.ofList [Value.slice (some ad) l.length cap, .int .u8 (.ofNat 0)]).get 1 = some (.int .u8 (.ofNat 0)) := rfl
    generalize Tr.ofList [Value.slice (some ad) l.length cap, .int .u8 (.ofNat 0)] = t at *
    apply go_seq
    simp only [cdTL, Tryd.f45, bodyOf, sub]
    repeat apply go_seq
    apply go_region
    case h => intro m; simp (maxSteps := 2000000) (disch := decide) only [opsLoop, evOper, wantedA, nth, aop, aPick, aBin, aIndexAddr, aFieldAddr, aLoad, aStore, aExtract, aConvert, aAlloc, aBox, aIndex, callA, builtinA, Fr.evs, opt, val, when, AM.run, outV, newA, ptr, force_eq, seen_heap, seen_next, seen_mark, seen_seen, agg_cells, int_cells, Fr.ev, Fr.put, onFr, gps, gpn, bltT, still, flat, List.append_nil, List.nil_append, List.cons_append, Nat.reduceEqDiff, ne_eq, not_false_eq_true, reduceCtorEq, Bool.and_true, Bool.true_and, Bool.and_false, Bool.false_and, Bool.not_true, Bool.not_false, Bool.and_self]; rfl
    apply go_seq
    apply go_block
    refine (go_loop_inv (InvTL ad cap l s) (fun k fr s1 hI => trimL_round ad cap l s hop hle hb k fr s1 hI) (l.length - 0) _ _ ⟨0, ad, _, rfl, by omega, rfl, Rd.refl s, ?_, ?_, fun _ => rfl, fun j hj => by omega⟩).mono ?_
    · simp (disch := decide) only [gps, gpn, h0, Nat.sub_zero]
    · simp (disch := decide) only [gps, gpn, h1]
    rintro x fr s1 ⟨rfl, t1, a, rfl, hr, g0, ga⟩
    simp only [Out_, if_true]
    show GoC E _ _ _ _ _
    by_cases hall : lead l = l.length
    · have e0 : t1.get 0 = some (.slice (some a) 0 (cap - lead l)) := by rw [g0, hall, Nat.sub_self]
      have hv : trimLV ad cap l = .slice none 0 0 := if_pos hall
      repeat apply go_seq
      apply go_region
      case h => intro m; simp (maxSteps := 2000000) (disch := decide) only [opsLoop, evOper, wantedA, nth, aop, aPick, aBin, aIndexAddr, aFieldAddr, aLoad, aStore, aExtract, aConvert, aAlloc, aBox, aIndex, callA, builtinA, Fr.evs, opt, val, when, AM.run, outV, newA, ptr, force_eq, seen_heap, seen_next, seen_mark, seen_seen, agg_cells, int_cells, Fr.ev, Fr.put, onFr, gps, gpn, bltT, still, flat, List.append_nil, List.nil_append, List.cons_append, Nat.reduceEqDiff, ne_eq, not_false_eq_true, reduceCtorEq, Bool.and_true, Bool.true_and, Bool.and_false, Bool.false_and, Bool.not_true, Bool.not_false, Bool.and_self, e0, tyB, dsB, b_eql, int0, eqI_t]; rfl
      repeat apply go_seq
      apply go_cond
      case hc => simp (disch := decide) only [opsLoop, evOper, wantedA, nth, aop, aPick, aBin, aIndexAddr, aFieldAddr, aLoad, aStore, aExtract, aConvert, aAlloc, aBox, aIndex, callA, builtinA, Fr.evs, opt, val, when, AM.run, outV, newA, ptr, force_eq, seen_heap, seen_next, seen_mark, seen_seen, agg_cells, int_cells, Fr.ev, Fr.put, onFr, gps, gpn, bltT, still, flat, List.append_nil, List.nil_append, List.cons_append, Nat.reduceEqDiff, ne_eq, not_false_eq_true, reduceCtorEq, Bool.and_true, Bool.true_and, Bool.and_false, Bool.false_and, Bool.not_true, Bool.not_false, Bool.and_self]; rfl
      case h2 => intro h; cases h
      intro _
      repeat apply go_seq
      apply go_region
      case h => intro m; simp (maxSteps := 2000000) (disch := decide) only [opsLoop, evOper, wantedA, nth, aop, aPick, aBin, aIndexAddr, aFieldAddr, aLoad, aStore, aExtract, aConvert, aAlloc, aBox, aIndex, callA, builtinA, Fr.evs, opt, val, when, AM.run, outV, newA, ptr, force_eq, seen_heap, seen_next, seen_mark, seen_seen, agg_cells, int_cells, Fr.ev, Fr.put, onFr, gps, gpn, bltT, still, flat, List.append_nil, List.nil_append, List.cons_append, Nat.reduceEqDiff, ne_eq, not_false_eq_true, reduceCtorEq, Bool.and_true, Bool.true_and, Bool.and_false, Bool.false_and, Bool.not_true, Bool.not_false, Bool.and_self]; rfl
      repeat apply go_seq
      apply go_ret
      apply ret_intro rfl rfl
      case run => simp (disch := decide) only [resultsM, resultsA, resTL, opsLoop, evOper, wantedA, nth, aop, aPick, aBin, aIndexAddr, aFieldAddr, aLoad, aStore, aExtract, aConvert, aAlloc, aBox, aIndex, callA, builtinA, Fr.evs, opt, val, when, AM.run, outV, newA, ptr, force_eq, seen_heap, seen_next, seen_mark, seen_seen, agg_cells, int_cells, Fr.ev, Fr.put, onFr, gps, gpn, bltT, still, flat, List.append_nil, List.nil_append, List.cons_append, Nat.reduceEqDiff, ne_eq, not_false_eq_true, reduceCtorEq, Bool.and_true, Bool.true_and, Bool.and_false, Bool.false_and, Bool.not_true, Bool.not_false, Bool.and_self]; rfl
      exact ⟨hv.symm, hr.less (Rd.seen s ad.block)⟩
    · have hlt : lead l < l.length := by have := lead_le l; omega
      obtain rfl := ga hlt
      have hne : eqI (Int.ofNat (l.length - lead l)) (Int.ofNat 0) = false := eqI_f (by omega)
      have hv : trimLV ad cap l = .slice (some (addA ad (lead l))) (l.length - lead l) (cap - lead l) := if_neg hall
      repeat apply go_seq
      apply go_region
      case h => intro m; simp (maxSteps := 2000000) (disch := decide) only [opsLoop, evOper, wantedA, nth, aop, aPick, aBin, aIndexAddr, aFieldAddr, aLoad, aStore, aExtract, aConvert, aAlloc, aBox, aIndex, callA, builtinA, Fr.evs, opt, val, when, AM.run, outV, newA, ptr, force_eq, seen_heap, seen_next, seen_mark, seen_seen, agg_cells, int_cells, Fr.ev, Fr.put, onFr, gps, gpn, bltT, still, flat, List.append_nil, List.nil_append, List.cons_append, Nat.reduceEqDiff, ne_eq, not_false_eq_true, reduceCtorEq, Bool.and_true, Bool.true_and, Bool.and_false, Bool.false_and, Bool.not_true, Bool.not_false, Bool.and_self, g0, tyB, dsB, b_eql, int0, hne]; rfl
      repeat apply go_seq
      apply go_cond
      case hc => simp (disch := decide) only [opsLoop, evOper, wantedA, nth, aop, aPick, aBin, aIndexAddr, aFieldAddr, aLoad, aStore, aExtract, aConvert, aAlloc, aBox, aIndex, callA, builtinA, Fr.evs, opt, val, when, AM.run, outV, newA, ptr, force_eq, seen_heap, seen_next, seen_mark, seen_seen, agg_cells, int_cells, Fr.ev, Fr.put, onFr, gps, gpn, bltT, still, flat, List.append_nil, List.nil_append, List.cons_append, Nat.reduceEqDiff, ne_eq, not_false_eq_true, reduceCtorEq, Bool.and_true, Bool.true_and, Bool.and_false, Bool.false_and, Bool.not_true, Bool.not_false, Bool.and_self]; rfl
      case h1 => intro h; cases h
      intro _
      apply go_skip
      repeat apply go_seq
      apply go_region
      case h => intro m; simp (maxSteps := 2000000) (disch := decide) only [opsLoop, evOper, wantedA, nth, aop, aPick, aBin, aIndexAddr, aFieldAddr, aLoad, aStore, aExtract, aConvert, aAlloc, aBox, aIndex, callA, builtinA, Fr.evs, opt, val, when, AM.run, outV, newA, ptr, force_eq, seen_heap, seen_next, seen_mark, seen_seen, agg_cells, int_cells, Fr.ev, Fr.put, onFr, gps, gpn, bltT, still, flat, List.append_nil, List.nil_append, List.cons_append, Nat.reduceEqDiff, ne_eq, not_false_eq_true, reduceCtorEq, Bool.and_true, Bool.true_and, Bool.and_false, Bool.false_and, Bool.not_true, Bool.not_false, Bool.and_self, g0]; rfl
      repeat apply go_seq
      apply go_ret
      apply ret_intro rfl rfl
      case run => simp (disch := decide) only [resultsM, resultsA, resTL, opsLoop, evOper, wantedA, nth, aop, aPick, aBin, aIndexAddr, aFieldAddr, aLoad, aStore, aExtract, aConvert, aAlloc, aBox, aIndex, callA, builtinA, Fr.evs, opt, val, when, AM.run, outV, newA, ptr, force_eq, seen_heap, seen_next, seen_mark, seen_seen, agg_cells, int_cells, Fr.ev, Fr.put, onFr, gps, gpn, bltT, still, flat, List.append_nil, List.nil_append, List.cons_append, Nat.reduceEqDiff, ne_eq, not_false_eq_true, reduceCtorEq, Bool.and_true, Bool.true_and, Bool.and_false, Bool.false_and, Bool.not_true, Bool.not_false, Bool.and_self]; rfl
      exact ⟨hv.symm, hr.less (Rd.seen s ad.block)⟩
  · cases h

/-! noughts behind -/
def rl : List UInt8 → Nat
  | [] => 0
  | x :: l => if rl l = 0 ∧ x = 0 then 0 else rl l + 1
theorem rl_zero : ∀ l : List UInt8, (∀ (j : Nat) (x : UInt8), l[j]? = some x → x = 0) → rl l = 0
  | [], _ => rfl
  | x :: l, h => by
    unfold rl
    rw [if_pos ⟨rl_zero l (fun j y hy => h (j + 1) y (by simpa using hy)), h 0 x rfl⟩]
theorem rl_eq : ∀ (l : List UInt8) (n : Nat), (∀ (j : Nat) (x : UInt8), n ≤ j → l[j]? = some x → x = 0) → (n = 0 ∨ ∃ x, l[n - 1]? = some x ∧ x ≠ 0) → rl l = n
  | l, 0, h0, _ => rl_zero l (fun j x hx => h0 j x (Nat.zero_le _) hx)
  | [], n + 1, _, h => by rcases h with h | ⟨x, hx, _⟩; · omega
                          · simp at hx
  | x :: l, n + 1, h0, h => by
    rcases h with h | ⟨y, hy, hne⟩
    · omega
    cases n with
    | zero =>
      have hl : rl l = 0 := rl_zero l (fun j z hz => h0 (j + 1) z (by omega) (by simpa using hz))
      have hx : x = y := by simpa using hy
      subst hx
      unfold rl
      rw [hl, if_neg (fun e => hne e.2)]
    | succ n =>
      have hl : rl l = n + 1 := rl_eq l (n + 1) (fun j z hj hz => h0 (j + 1) z (by omega) (by simpa using hz)) (.inr ⟨y, by simpa using hy, hne⟩)
      unfold rl
      rw [hl, if_neg (fun e => by omega)]
theorem rl_le : ∀ l : List UInt8, rl l ≤ l.length
  | [] => Nat.le_refl _
  | x :: l => by unfold rl; have := rl_le l; split <;> simp <;> omega

def trimRA : List Value → AM Value
  | [.slice none 0 0, .int .u8 (.ofNat 0)] => .pure (.slice none 0 0)
  | [.slice (some ad) n cap, .int .u8 (.ofNat 0)] => when (Nat.ble n cap && Nat.blt cap OPEN && Nat.ble 1 cap) (loadA ad n fun cs => opt (bytesV cs) fun l => .pure (.slice (some ad) (rl l) cap))
  | _ => .fail
noncomputable def fiTR : FI := FI.of Tryd.f46
noncomputable def cdTR : Code := bodyOf Tryd.f46
noncomputable def cdTRl : Code := sub [1,0,0,0] cdTR
theorem resTR : fiTR.results = [.tmp 4] := rfl
def InvTR (ad : Addr) (cap : Nat) (l : List UInt8) (s0 : S) (k : Nat) (fr : Fr) (s : S) : Prop :=
  ∃ (n : Nat) (t : Tr Value), k = n ∧ n ≤ l.length ∧ fr = ⟨46, t, 24, [], none⟩ ∧ Rd s0 s ∧ t.get 0 = some (.slice (some ad) n cap) ∧ t.get 1 = some (.int .u8 (.ofNat 0)) ∧ (∀ (j : Nat) (x : UInt8), n ≤ j → l[j]? = some x → x = 0)
theorem b_dec {n : Nat} (h : n < OPEN) : ∀ E t, binA E .sub t (.int .i64 (.ofNat (n + 1))) (.int .i64 (.ofNat 1)) = some (.int .i64 (.ofNat n)) := by
  intro E t
  show some (Value.int .i64 (wrapA .i64 (Int.sub (.ofNat (n + 1)) (.ofNat 1)))) = _
  have : Int.sub (.ofNat (n + 1)) (.ofNat 1) = Int.ofNat n := by show ((n + 1 : Nat) : Int) - (1 : Nat) = n; omega
  rw [this, wrap64 (by unfold OPEN at h; omega)]
theorem trimR_round (ad : Addr) (cap : Nat) (l : List UInt8) (s0 : S) (hc : cap < OPEN) (hc1 : 1 ≤ cap) (hl : l.length ≤ cap) (hb : Bs s0 ad l) (k : Nat) (fr : Fr) (s : S) (h : InvTR ad cap l s0 k fr s) :
    GoC E (sumsOf []) cdTRl fr s (Again (InvTR ad cap l s0) k fun x fr s => x = .exit 0 ∧ ∃ (t : Tr Value), fr = ⟨46, t, 24, [], none⟩ ∧ Rd s0 s ∧ t.get 0 = some (.slice (some ad) (rl l) cap)) := by
  obtain ⟨n, t, hk, hi, rfl, hr, h0, h1, hz⟩ := h
  obtain rfl : n = k := hk.symm
  simp only [cdTRl, cdTR, Tryd.f46, bodyOf, sub]
  cases n with
  | zero =>
    have hgt : ltI (Int.ofNat 0) (Int.ofNat 0) = false := rfl
    repeat apply go_seq
    apply go_region
    case h => intro m; simp (maxSteps := 2000000) (disch := decide) only [opsLoop, evOper, wantedA, nth, aop, aPick, aBin, aIndexAddr, aFieldAddr, aLoad, aStore, aExtract, aConvert, aAlloc, aBox, aIndex, callA, builtinA, Fr.evs, opt, val, when, AM.run, outV, newA, ptr, force_eq, seen_heap, seen_next, seen_mark, seen_seen, agg_cells, int_cells, Fr.ev, Fr.put, onFr, gps, gpn, bltT, still, flat, List.append_nil, List.nil_append, List.cons_append, Nat.reduceEqDiff, ne_eq, not_false_eq_true, reduceCtorEq, Bool.and_true, Bool.true_and, Bool.and_false, Bool.false_and, Bool.not_true, Bool.not_false, Bool.and_self, h0, h1, tyB, tyU8, dsB, dsU8, szU8, b_gtr, b_eql8, int0, hgt]; rfl
    repeat apply go_seq
    apply go_cond
    case hc => simp (disch := decide) only [opsLoop, evOper, wantedA, nth, aop, aPick, aBin, aIndexAddr, aFieldAddr, aLoad, aStore, aExtract, aConvert, aAlloc, aBox, aIndex, callA, builtinA, Fr.evs, opt, val, when, AM.run, outV, newA, ptr, force_eq, seen_heap, seen_next, seen_mark, seen_seen, agg_cells, int_cells, Fr.ev, Fr.put, onFr, gps, gpn, bltT, still, flat, List.append_nil, List.nil_append, List.cons_append, Nat.reduceEqDiff, ne_eq, not_false_eq_true, reduceCtorEq, Bool.and_true, Bool.true_and, Bool.and_false, Bool.false_and, Bool.not_true, Bool.not_false, Bool.and_self]; rfl
    case h1 => intro h; cases h
    intro _
    apply go_exit
    refine ⟨rfl, _, rfl, hr, ?_⟩
    rw [rl_eq l 0 hz (.inl rfl)]
    simp (disch := decide) only [gps, gpn, h0]
  | succ n =>
    obtain ⟨x, hx⟩ : ∃ x, l[n]? = some x := ⟨_, List.getElem?_eq_getElem (by omega)⟩
    have hgt : ltI (Int.ofNat 0) (Int.ofNat (n + 1)) = true := by rw [ltI_eq]; simp
    have hld := sum.byte_load (Bs.at (hb.rd hr) hx) tiU8 dsU8
    have hdec := b_dec (n := n) (by omega)
    have hnn : Nat.blt n (n + 1) = true := blt_iff.2 (by omega)
    have hadd : addA ad (Nat.mul n 1) = addA ad n := by rw [show Nat.mul n 1 = n from Nat.mul_one n]
    have hopen : Nat.ble OPEN cap = false := ble_f (by omega)
    have hb0 : Nat.ble 0 n = true := rfl
    have hb1 : Nat.ble n cap = true := ble_iff.2 (by omega)
    have hif : addIf ad cap 0 1 = ad := by
      unfold addIf
      have : Nat.beq cap 0 = false := by
        cases hh : Nat.beq cap 0 with
        | false => rfl
        | true => have := beq_iff.1 hh; omega
      rw [this]; rfl
    have hs0 : Nat.sub n 0 = n := rfl
    have hs1 : Nat.sub cap 0 = cap := rfl
    by_cases hx0 : x = 0
    · subst hx0
      have hl0 : (loadT tiU8 (addA ad n) val).run s = some (.value (.int .u8 (.ofNat 0)), s.seen ad.block) := hld
      repeat apply go_seq
      apply go_region
      case h => intro m; simp (maxSteps := 2000000) (disch := decide) only [opsLoop, evOper, wantedA, nth, aop, aPick, aBin, aIndexAddr, aFieldAddr, aLoad, aStore, aExtract, aConvert, aAlloc, aBox, aIndex, callA, builtinA, Fr.evs, opt, val, when, AM.run, outV, newA, ptr, force_eq, seen_heap, seen_next, seen_mark, seen_seen, agg_cells, int_cells, Fr.ev, Fr.put, onFr, gps, gpn, bltT, still, flat, List.append_nil, List.nil_append, List.cons_append, Nat.reduceEqDiff, ne_eq, not_false_eq_true, reduceCtorEq, Bool.and_true, Bool.true_and, Bool.and_false, Bool.false_and, Bool.not_true, Bool.not_false, Bool.and_self, h0, h1, tyB, tyU8, dsB, dsU8, szU8, b_gtr, b_eql8, int0, int1, hgt, hdec, hnn, hadd, hl0, eqI_t]; rfl
      repeat apply go_seq
      apply go_cond
      case hc => simp (disch := decide) only [opsLoop, evOper, wantedA, nth, aop, aPick, aBin, aIndexAddr, aFieldAddr, aLoad, aStore, aExtract, aConvert, aAlloc, aBox, aIndex, callA, builtinA, Fr.evs, opt, val, when, AM.run, outV, newA, ptr, force_eq, seen_heap, seen_next, seen_mark, seen_seen, agg_cells, int_cells, Fr.ev, Fr.put, onFr, gps, gpn, bltT, still, flat, List.append_nil, List.nil_append, List.cons_append, Nat.reduceEqDiff, ne_eq, not_false_eq_true, reduceCtorEq, Bool.and_true, Bool.true_and, Bool.and_false, Bool.false_and, Bool.not_true, Bool.not_false, Bool.and_self]; rfl
      case h2 => intro h; cases h
      intro _
      apply go_skip
      apply go_block
      repeat apply go_seq
      apply go_region
      case h => intro m; simp (maxSteps := 2000000) (disch := decide) only [opsLoop, evOper, wantedA, nth, aop, aPick, aBin, aIndexAddr, aFieldAddr, aLoad, aStore, aExtract, aConvert, aAlloc, aBox, aIndex, callA, builtinA, Fr.evs, opt, val, when, AM.run, outV, newA, ptr, force_eq, seen_heap, seen_next, seen_mark, seen_seen, agg_cells, int_cells, Fr.ev, Fr.put, onFr, gps, gpn, bltT, still, flat, List.append_nil, List.nil_append, List.cons_append, Nat.reduceEqDiff, ne_eq, not_false_eq_true, reduceCtorEq, Bool.and_true, Bool.true_and, Bool.and_false, Bool.false_and, Bool.not_true, Bool.not_false, Bool.and_self, h0, h1, aSlice, lowHigh, intOf?, sliceA, sliceE, tyB, tyU8, dsB, dsU8, szU8, int1, hdec, hopen, hb0, hb1, hif, hs0, hs1]; rfl
      refine ⟨n, by omega, n, _, rfl, by omega, rfl, hr.trans (Rd.seen s ad.block), ?_, ?_, ?_⟩
      · simp (disch := decide) only [gps, gpn, ne_eq]
      · simp (disch := decide) only [gps, gpn, h1]
      · intro j y hj hy
        by_cases e : j = n
        · subst e; rw [hx] at hy; cases hy; rfl
        · exact hz j y (by omega) hy
    · have hne : eqI (Int.ofNat x.toNat) (Int.ofNat 0) = false := eqI_f (fun h => hx0 (UInt8.toNat_inj.1 (by simpa using h)))
      repeat apply go_seq
      apply go_region
      case h => intro m; simp (maxSteps := 2000000) (disch := decide) only [opsLoop, evOper, wantedA, nth, aop, aPick, aBin, aIndexAddr, aFieldAddr, aLoad, aStore, aExtract, aConvert, aAlloc, aBox, aIndex, callA, builtinA, Fr.evs, opt, val, when, AM.run, outV, newA, ptr, force_eq, seen_heap, seen_next, seen_mark, seen_seen, agg_cells, int_cells, Fr.ev, Fr.put, onFr, gps, gpn, bltT, still, flat, List.append_nil, List.nil_append, List.cons_append, Nat.reduceEqDiff, ne_eq, not_false_eq_true, reduceCtorEq, Bool.and_true, Bool.true_and, Bool.and_false, Bool.false_and, Bool.not_true, Bool.not_false, Bool.and_self, h0, h1, tyB, tyU8, dsB, dsU8, szU8, b_gtr, b_eql8, int0, int1, hgt, hdec, hnn, hadd, hld, hne]; rfl
      repeat apply go_seq
      apply go_cond
      case hc => simp (disch := decide) only [opsLoop, evOper, wantedA, nth, aop, aPick, aBin, aIndexAddr, aFieldAddr, aLoad, aStore, aExtract, aConvert, aAlloc, aBox, aIndex, callA, builtinA, Fr.evs, opt, val, when, AM.run, outV, newA, ptr, force_eq, seen_heap, seen_next, seen_mark, seen_seen, agg_cells, int_cells, Fr.ev, Fr.put, onFr, gps, gpn, bltT, still, flat, List.append_nil, List.nil_append, List.cons_append, Nat.reduceEqDiff, ne_eq, not_false_eq_true, reduceCtorEq, Bool.and_true, Bool.true_and, Bool.and_false, Bool.false_and, Bool.not_true, Bool.not_false, Bool.and_self]; rfl
      case h1 => intro h; cases h
      intro _
      apply go_exit
      refine ⟨rfl, _, rfl, hr.trans (Rd.seen s ad.block), ?_⟩
      rw [rl_eq l (n + 1) hz (.inr ⟨x, by simpa using hx, hx0⟩)]
      simp (disch := decide) only [gps, gpn, h0]
theorem told_trimR : AE.Told Tryd.prog 46 trimRA := by
  refine told_go hE hmix tolds_nil ?_
  intro args s v s' h hm
  have hcode : cdTR = .seq (sub [0] cdTR) (.seq (.block 0 (.loop cdTRl)) (sub [1,1] cdTR)) := rfl
  unfold trimRA at h
  split at h
  · cases h
    refine go_enter (fi := fiTR) (c := cdTR) (by kernel_rfl) (by kernel_rfl) 24 rfl rfl ?_
    have h0 : (Tr.ofList [Value.slice none 0 0, .int .u8 (.ofNat 0)]).get 0 = some (.slice none 0 0) := rfl
    generalize Tr.ofList [Value.slice none 0 0, .int .u8 (.ofNat 0)] = t at *
    rw [hcode]
    have hgt : ltI (Int.ofNat 0) (Int.ofNat 0) = false := rfl
    simp only [cdTRl, cdTR, Tryd.f46, bodyOf, sub]
    repeat apply go_seq
    apply go_region
    case h => intro m; simp (maxSteps := 2000000) (disch := decide) only [opsLoop, evOper, wantedA, nth, aop, aPick, aBin, aIndexAddr, aFieldAddr, aLoad, aStore, aExtract, aConvert, aAlloc, aBox, aIndex, callA, builtinA, Fr.evs, opt, val, when, AM.run, outV, newA, ptr, force_eq, seen_heap, seen_next, seen_mark, seen_seen, agg_cells, int_cells, Fr.ev, Fr.put, onFr, gps, gpn, bltT, still, flat, List.append_nil, List.nil_append, List.cons_append, Nat.reduceEqDiff, ne_eq, not_false_eq_true, reduceCtorEq, Bool.and_true, Bool.true_and, Bool.and_false, Bool.false_and, Bool.not_true, Bool.not_false, Bool.and_self]; rfl
    apply go_seq
    apply go_block
    apply go_loop
    repeat apply go_seq
    apply go_region
    case h => intro m; simp (maxSteps := 2000000) (disch := decide) only [opsLoop, evOper, wantedA, nth, aop, aPick, aBin, aIndexAddr, aFieldAddr, aLoad, aStore, aExtract, aConvert, aAlloc, aBox, aIndex, callA, builtinA, Fr.evs, opt, val, when, AM.run, outV, newA, ptr, force_eq, seen_heap, seen_next, seen_mark, seen_seen, agg_cells, int_cells, Fr.ev, Fr.put, onFr, gps, gpn, bltT, still, flat, List.append_nil, List.nil_append, List.cons_append, Nat.reduceEqDiff, ne_eq, not_false_eq_true, reduceCtorEq, Bool.and_true, Bool.true_and, Bool.and_false, Bool.false_and, Bool.not_true, Bool.not_false, Bool.and_self, h0, tyB, tyU8, dsB, dsU8, szU8, b_gtr, b_eql8, int0, hgt]; rfl
    repeat apply go_seq
    apply go_cond
    case hc => simp (disch := decide) only [opsLoop, evOper, wantedA, nth, aop, aPick, aBin, aIndexAddr, aFieldAddr, aLoad, aStore, aExtract, aConvert, aAlloc, aBox, aIndex, callA, builtinA, Fr.evs, opt, val, when, AM.run, outV, newA, ptr, force_eq, seen_heap, seen_next, seen_mark, seen_seen, agg_cells, int_cells, Fr.ev, Fr.put, onFr, gps, gpn, bltT, still, flat, List.append_nil, List.nil_append, List.cons_append, Nat.reduceEqDiff, ne_eq, not_false_eq_true, reduceCtorEq, Bool.and_true, Bool.true_and, Bool.and_false, Bool.false_and, Bool.not_true, Bool.not_false, Bool.and_self]; rfl
    case h1 => intro h; cases h
    intro _
    apply go_exit
    repeat apply go_seq
    apply go_region
    case h => intro m; simp (maxSteps := 2000000) (disch := decide) only [opsLoop, evOper, wantedA, nth, aop, aPick, aBin, aIndexAddr, aFieldAddr, aLoad, aStore, aExtract, aConvert, aAlloc, aBox, aIndex, callA, builtinA, Fr.evs, opt, val, when, AM.run, outV, newA, ptr, force_eq, seen_heap, seen_next, seen_mark, seen_seen, agg_cells, int_cells, Fr.ev, Fr.put, onFr, gps, gpn, bltT, still, flat, List.append_nil, List.nil_append, List.cons_append, Nat.reduceEqDiff, ne_eq, not_false_eq_true, reduceCtorEq, Bool.and_true, Bool.true_and, Bool.and_false, Bool.false_and, Bool.not_true, Bool.not_false, Bool.and_self, h0]; rfl
    repeat apply go_seq
    apply go_ret
    apply ret_intro rfl rfl
    case run => simp (disch := decide) only [resultsM, resultsA, resTR, opsLoop, evOper, wantedA, nth, aop, aPick, aBin, aIndexAddr, aFieldAddr, aLoad, aStore, aExtract, aConvert, aAlloc, aBox, aIndex, callA, builtinA, Fr.evs, opt, val, when, AM.run, outV, newA, ptr, force_eq, seen_heap, seen_next, seen_mark, seen_seen, agg_cells, int_cells, Fr.ev, Fr.put, onFr, gps, gpn, bltT, still, flat, List.append_nil, List.nil_append, List.cons_append, Nat.reduceEqDiff, ne_eq, not_false_eq_true, reduceCtorEq, Bool.and_true, Bool.true_and, Bool.and_false, Bool.false_and, Bool.not_true, Bool.not_false, Bool.and_self]; rfl
    exact ⟨rfl, Less'.refl _⟩
  · rename_i ad n cap
    obtain ⟨hc, h2⟩ := run_when h
    simp only [Bool.and_eq_true] at hc
    obtain ⟨⟨hc1, hc2⟩, hc3⟩ := hc
    have e1 := ble_iff.1 hc1
    have e2 := blt_iff.1 hc2
    have e3 := ble_iff.1 hc3
    obtain ⟨l, rfl, hb, h3⟩ := bs_of_load h2
    cases h3
    refine go_enter (fi := fiTR) (c := cdTR) (by kernel_rfl) (by kernel_rfl) 24 rfl rfl ?_
    have h0 : (Tr.ofList [Value.slice (some ad) l.length cap, .int .u8 (.ofNat 0)]).get 0 = some (.slice (some ad) l.length cap) := rfl
    have h1 : (Tr.ofList [Value.slice (some ad) l.length cap, .int .u8 (.ofNat 0)]).get 1 = some (.int .u8 (.ofNat 0)) := rfl
    generalize Tr.ofList [Value.slice (some ad) l.length cap, .int .u8 (.ofNat 0)] = t at *
    rw [hcode]
    apply go_seq
    simp only [cdTR, Tryd.f46, bodyOf, sub]
    repeat apply go_seq
    apply go_region
    case h => intro m; simp (maxSteps := 2000000) (disch := decide) only [opsLoop, evOper, wantedA, nth, aop, aPick, aBin, aIndexAddr, aFieldAddr, aLoad, aStore, aExtract, aConvert, aAlloc, aBox, aIndex, callA, builtinA, Fr.evs, opt, val, when, AM.run, outV, newA, ptr, force_eq, seen_heap, seen_next, seen_mark, seen_seen, agg_cells, int_cells, Fr.ev, Fr.put, onFr, gps, gpn, bltT, still, flat, List.append_nil, List.nil_append, List.cons_append, Nat.reduceEqDiff, ne_eq, not_false_eq_true, reduceCtorEq, Bool.and_true, Bool.true_and, Bool.and_false, Bool.false_and, Bool.not_true, Bool.not_false, Bool.and_self]; rfl
    apply go_seq
    apply go_block
    refine (go_loop_inv (InvTR ad cap l s) (fun k fr s1 hI => trimR_round ad cap l s e2 e3 e1 hb k fr s1 hI) l.length _ _ ⟨l.length, _, rfl, by omega, rfl, Rd.refl s, ?_, ?_, fun j x hj hx => by rw [List.getElem?_eq_none hj] at hx; cases hx⟩).mono ?_
    · simp (disch := decide) only [gps, gpn, h0]
    · simp (disch := decide) only [gps, gpn, h1]
    rintro x fr s1 ⟨rfl, t1, rfl, hr, g0⟩
    simp only [Out_, if_true]
    show GoC E _ _ _ _ _
    repeat apply go_seq
    apply go_region
    case h => intro m; simp (maxSteps := 2000000) (disch := decide) only [opsLoop, evOper, wantedA, nth, aop, aPick, aBin, aIndexAddr, aFieldAddr, aLoad, aStore, aExtract, aConvert, aAlloc, aBox, aIndex, callA, builtinA, Fr.evs, opt, val, when, AM.run, outV, newA, ptr, force_eq, seen_heap, seen_next, seen_mark, seen_seen, agg_cells, int_cells, Fr.ev, Fr.put, onFr, gps, gpn, bltT, still, flat, List.append_nil, List.nil_append, List.cons_append, Nat.reduceEqDiff, ne_eq, not_false_eq_true, reduceCtorEq, Bool.and_true, Bool.true_and, Bool.and_false, Bool.false_and, Bool.not_true, Bool.not_false, Bool.and_self, g0]; rfl
    repeat apply go_seq
    apply go_ret
    apply ret_intro rfl rfl
    case run => simp (disch := decide) only [resultsM, resultsA, resTR, opsLoop, evOper, wantedA, nth, aop, aPick, aBin, aIndexAddr, aFieldAddr, aLoad, aStore, aExtract, aConvert, aAlloc, aBox, aIndex, callA, builtinA, Fr.evs, opt, val, when, AM.run, outV, newA, ptr, force_eq, seen_heap, seen_next, seen_mark, seen_seen, agg_cells, int_cells, Fr.ev, Fr.put, onFr, gps, gpn, bltT, still, flat, List.append_nil, List.nil_append, List.cons_append, Nat.reduceEqDiff, ne_eq, not_false_eq_true, reduceCtorEq, Bool.and_true, Bool.true_and, Bool.and_false, Bool.false_and, Bool.not_true, Bool.not_false, Bool.and_self]; rfl
    exact ⟨rfl, hr.less (Rd.seen s ad.block)⟩
  · cases h
end Go.Proofs.YtgofanjbhbeniaaDoor.lf
end
end
