/- Each operation over the named memory does what the world's does: slices and what they are made of. No program is named here. -/
import Derived.Test.YtgofanjbhbeniaaDoorAe7
noncomputable section
namespace Go.AE
set_option linter.unusedVariables false
set_option linter.unusedSimpArgs false

section
variable {P : Program} {E : Env} {q : Free} {ρ : Ren} {s s' : S} {w : World} {fr : Fr} {e : Operand → Value} {nx : ANext}

theorem evs_LR (hev : ∀ x v, fr.ev x = some v → VR ρ v (e x)) : ∀ {l : List Operand} {vs : List Value}, fr.evs l = some vs → LR ρ vs (l.map e)
  | [], vs, h => by simp only [Fr.evs] at h; cases h; exact .nil
  | x :: l, vs, h => by
    simp only [Fr.evs] at h
    split at h
    · cases h
    · rename_i v hv
      split at h
      · cases h
      · rename_i r hr
        cases h
        exact .cons (hev _ _ hv) (evs_LR hev hr)

theorem aUn_sound (hR : Rep P q ρ s w) (hev : ∀ x v, fr.ev x = some v → VR ρ v (e x)) {op : UnOp} {x : Operand} (h : (opt (fr.ev x) fun a => opt (unA op a) val).run s = some (nx, s')) :
    ValRes P q ρ w s' nx ((Op.unary op (e x)).run P w) := by
  obtain ⟨a, ha, h1⟩ := run_opt h
  obtain ⟨v, hv, hfin⟩ := run_opt h1
  clear h h1
  have va := hev _ _ ha
  unfold unA at hv
  split at hv
  · rename_i k n
    cases hv
    rw [va.int_inv]
    refine .here hR (.flat rfl) ?_ hfin
    have : Int.sub 0 n = 0 - n := rfl
    rw [this]
    simp [Op.unary, Op.intArith, wrapA_eq]
  · rename_i k n
    rw [va.int_inv]
    split at hv
    · cases hv
    · rename_i r hr
      cases hv
      refine .here hR (.flat rfl) ?_ hfin
      have := bitsA_run (P := P) hr w
      show (Op.intBits .xor k (if k.signed then -1 else k.max) n).run P w = _
      rw [← this]
      cases k <;> rfl
  · rename_i b
    cases hv
    rw [va.bool_inv]
    exact .here hR (.flat rfl) (by simp [Op.unary]) hfin
  · cases hv

theorem bytesOf_LR : ∀ {vs vs' : List Value} {bs : List UInt8}, bytesOf vs = some bs → LR ρ vs vs' → ∀ (acc : ByteArray) (w : World),
    (forIn vs' acc (fun c s => (match c with | .int .u8 n => pure (ForInStep.yield (s.push (UInt8.ofNat n.toNat))) | _ => stuck "bytesToString: byte expected" : Sem (ForInStep ByteArray)))).run P w = .ok ⟨acc.data ++ bs.toArray⟩ w
  | [], vs', bs, h, hv, acc, w => by
    cases hv
    simp only [bytesOf] at h; cases h
    simp
  | .int k n :: l, vs', bs, h, hv, acc, w => by
    cases hv with
    | cons x y =>
      have := x.int_inv
      subst this
      cases k <;> simp only [bytesOf] at h <;> first | (cases h; done) | skip
      split at h
      · cases h
      · rename_i r hr
        cases h
        simp only [List.forIn_cons, Sem.run_bind, Sem.run_pure, Result.andThen_ok]
        rw [bytesOf_LR hr y]
        congr 1
        simp [ByteArray.push]
  | .bool _ :: _, _, _, h, _, _, _ | .float _ _ :: _, _, _, h, _, _, _ | .complex _ _ _ :: _, _, _, h, _, _, _ | .string _ :: _, _, _, h, _, _, _ | .pointer _ :: _, _, _, h, _, _, _ | .slice _ _ _ :: _, _, _, h, _, _, _
  | .map _ :: _, _, _, h, _, _, _ | .chan _ :: _, _, _, h, _, _, _ | .func _ _ _ :: _, _, _, h, _, _, _ | .nilFunc :: _, _, _, h, _, _, _ | .iface _ _ :: _, _, _, h, _, _, _ | .nilIface :: _, _, _, h, _, _, _ | .agg _ :: _, _, _, h, _, _, _ | .tuple _ :: _, _, _, h, _, _, _ => by simp [bytesOf] at h

theorem aConvert_sound (hE : EnvOK P E) (hR : Rep P q ρ s w) (hev : ∀ x v, fr.ev x = some v → VR ρ v (e x)) {t d : TypeId} {x : Operand} (h : (aConvert E fr t d x).run s = some (nx, s')) :
    ValRes P q ρ w s' nx ((convert t d (e x)).run P w) := by
  obtain ⟨j, hj, h⟩ := run_opt h
  obtain ⟨i, hi, h⟩ := run_opt h
  split at h
  · rename_i k k0 n hd hx
    rw [(hev _ _ hx).int_inv]
    refine .here hR (.flat rfl) ?_ h
    simp only [convert, Sem.run_bind, run_under hE hi, run_under hE hj, hd, Result.andThen_ok]
    cases i.desc <;> simp [Conv.intToInt, wrapA_eq]
  · rename_i a len cap hd hx
    split at h
    · rename_i el hdi
      obtain ⟨b, hb, h⟩ := run_opt h
      split at h
      · rename_i hdb _
        obtain ⟨r1, _, _⟩ := (hev _ _ hx).sliceN_inv
        rw [r1]
        refine .here hR (.flat rfl) ?_ h
        simp [convert, run_under hE hi, run_under hE hj, hd, hdi, run_under hE hb, hdb, Conv.bytesToString]
        rfl
      · rename_i a hdb _
        have hs : a.spot = none := by
          unfold loadA at h
          split at h
          · cases h
          · assumption
        obtain ⟨a', cap', ea, har⟩ := (hev _ _ hx).slice_addr hs
        obtain ⟨vs, vs', s1, h, rfl, e2, e3, e4, e5⟩ := load_sim hR har h
        obtain ⟨bs, hbs, h⟩ := run_opt h
        rw [ea]
        refine .here (hR.seen _) (.flat rfl) ?_ h
        have := bytesOf_LR (P := P) hbs e2 ByteArray.empty w
        simp only [convert, Sem.run_bind, run_under hE hi, run_under hE hj, hd, hdi, run_under hE hb, hdb, Conv.bytesToString, Result.andThen_ok, e4]
        rw [← Array.forIn_toList]
        simp only []
        refine (congrArg (fun r => Result.andThen r _) (Eq.trans ?_ this)).trans ?_
        · congr 2
        · simp
      · cases h
    · cases h
  · cases h

theorem aMakeFunc_sound (hR : Rep P q ρ s w) (hev : ∀ x v, fr.ev x = some v → VR ρ v (e x)) {fn : Fn} {a b : Array Operand} (h : (aMakeFunc fr fn a b).run s = some (nx, s')) :
    ValRes P q ρ w s' nx ((Instr.makeFunc fn (a.map e) (b.map e)).run P w) := by
  unfold aMakeFunc at h
  split at h
  · obtain ⟨x, hx, h⟩ := run_opt h
    obtain ⟨y, hy, h⟩ := run_opt h
    refine .here hR (.func (evs_LR hev hx) (evs_LR hev hy)) ?_ h
    simp only [Instr.makeFunc, Sem.run_pure]
    congr 2 <;> (apply Array.ext'; simp)
  · cases h

/-- a new block that is no row -/
theorem newO_sim {β : Type} (hR : Rep P q ρ s w) {o : AObj} {obj : Obj} (hor : ∀ ρ' : Ren, ρ.le ρ' → OR P ρ' 0 0 o obj) {k : Nat → AM β} {r} (hl : r.2.next ≤ q.hi) (h : (AM.new o k).run s = some r) (hrd : o.isRead = false := by rfl) :
    ∃ s1 ρ1, (k s.next).run s1 = some r ∧ Rep P q ρ1 s1 { w with heap := w.heap.push obj } ∧ Evo ρ w ρ1 { w with heap := w.heap.push obj } ∧ ρ1 s.next = some (w.heap.size, 0, 0) := by
  obtain ⟨hn, h⟩ := run_new h
  have hlt : s.next < q.hi := Nat.lt_of_lt_of_le (run_mono (s := s.grow o) h) hl
  have hle : ρ.le (fun m => if m = s.next then some (w.heap.size, 0, 0) else ρ m) := by
    intro m x e'
    show (if m = s.next then _ else _) = _
    rw [if_neg]
    · exact e'
    · intro hm; subst hm
      rw [hR.next_free hlt] at e'; cases e'
  have hg := Rep.grow (P := P) (s1 := s.grow o) (w1 := { w with heap := w.heap.push obj }) hR 0 hlt (fun m => grow_get hn _ m) rfl rfl
    (fun m => if m = s.next then some (w.heap.size, 0, 0) else ρ m) (fun m => rfl) (hor _ hle) (hf1 := hrd)
  exact ⟨_, _, h, hg.1, hg.2, by simp⟩

theorem aMakeMap_sound (hl : s'.next ≤ q.hi) (hR : Rep P q ρ s w) {t : TypeId} {r : Option Operand} (h : (aMakeMap t r).run s = some (nx, s')) :
    ValRes P q ρ w s' nx ((Instr.makeMap t (r.map e)).run P w) := by
  unfold aMakeMap at h
  split at h
  · obtain ⟨s1, ρ1, h, a, b, c⟩ := newO_sim hR (obj := .map #[] 0) (fun ρ' _ => .map .nil) hl h
    obtain ⟨rfl, rfl⟩ := run_val h
    exact ⟨ρ1, _, _, _, rfl, by simp [Instr.makeMap], a, b, .map c⟩
  · cases h

theorem repeatL_length (z : List Value) : ∀ n, (repeatL z n).length = n * z.length
  | 0 => by simp [repeatL]
  | n + 1 => by simp [repeatL, repeatL_length z n, Nat.succ_mul]; omega
theorem repeatL_get (z : List Value) (hz : 0 < z.length) : ∀ n i, i < n * z.length → (repeatL z n)[i]? = z[i % z.length]?
  | 0, i, h => by simp at h
  | n + 1, i, h => by
    simp only [repeatL]
    by_cases hi : i < z.length
    · rw [List.getElem?_append_left hi, Nat.mod_eq_of_lt hi]
    · rw [List.getElem?_append_right (by omega), repeatL_get z hz n (i - z.length) (by rw [Nat.succ_mul] at h; omega)]
      congr 1
      rw [← Nat.mod_eq_sub_mod (by omega)]
theorem range_repeat (z : Array Value) (hz : 0 < z.size) (n : Nat) : ((Array.range (n * z.size)).map fun i => z[i % z.size]!) = ⟨repeatL z.toList n⟩ := by
  apply Array.ext'
  apply List.ext_getElem?
  intro i
  by_cases hi : i < n * z.size
  · have h1 := repeatL_get z.toList (by simpa using hz) n i (by simpa using hi)
    have hm : i % z.size < z.size := Nat.mod_lt _ hz
    simp only [Array.length_toList] at h1
    rw [h1]
    simp [hi, hm]
  · rw [List.getElem?_eq_none (by simp; omega), List.getElem?_eq_none (by rw [repeatL_length]; simp; omega)]

theorem aMakeSlice_sound (hE : EnvOK P E) (hlim : s'.next ≤ q.hi) (hR : Rep P q ρ s w) (hev : ∀ x v, fr.ev x = some v → VR ρ v (e x)) {t : TypeId} {l c : Operand} (h : (aMakeSlice E fr t l c).run s = some (nx, s')) :
    ValRes P q ρ w s' nx ((Instr.makeSlice t (e l) (e c)).run P w) := by
  unfold aMakeSlice at h
  split at h
  · rename_i l' c' hl hc
    obtain ⟨i, hi, h⟩ := run_opt h
    split at h
    · rename_i el hd
      obtain ⟨j, hj, h⟩ := run_opt h
      obtain ⟨z, hz, h⟩ := run_opt h
      obtain ⟨hb, h⟩ := run_when h
      simp only [Bool.and_eq_true, ble_iff, beq_iff] at hb
      obtain ⟨⟨⟨⟨h1, h2⟩, h3⟩, h4⟩, h5⟩ := hb
      unfold maxNeed at h2
      obtain ⟨s1, ρ1, h, a, b, d⟩ := new_sim0 hR ((still_cells (ρ := ρ) (zero_still hE hj hz)).repeat c') hlim h
      obtain ⟨rfl, rfl⟩ := run_val h
      refine ⟨ρ1, _, _, _, rfl, ?_, a, b, .sliceW ⟨s.next, 0, w.heap.size, 0, 0, d, rfl, rfl⟩ (by unfold OPEN; omega)⟩
      obtain ⟨ti, ht1, ht2, ht3⟩ := run_tinfo hE hj w
      have hw1 : IntKind.i64.wrap (c' : Int) = c' := by rw [IntKind.wrap]; simp [IntKind.bits, IntKind.signed]; omega
      have hw2 : IntKind.i64.wrap (l' : Int) = l' := by rw [IntKind.wrap]; simp [IntKind.bits, IntKind.signed]; omega
      have hbytes : j.bytes * c' ≤ 1024 * 1073741824 := Nat.mul_le_mul h3 h2
      have ht : ¬ ((ti.bytes : Int) * (c' : Int) > 2 ^ 48) := by
        rw [ht3]
        have : ((j.bytes * c' : Nat) : Int) ≤ 1099511627776 := by omega
        rw [Int.natCast_mul] at this
        omega
      rw [(hev _ _ hl).int_inv, (hev _ _ hc).int_inv]
      have hzs : z.cells.size = j.size := by simpa using h4
      have hrep : ((Array.range (c' * j.size)).map fun i => z.cells[i % z.cells.size]!) = ⟨repeatL z.cells.toList c'⟩ := by
        rw [← hzs]; exact range_repeat _ (by omega) _
      simp only [Instr.makeSlice, Sem.run_bind, run_under hE hi, hd, Result.andThen_ok, asInt, asIntOf, Sem.run_pure, ht1, Int.ofNat_eq_natCast, hw1, hw2]
      rw [if_neg (by simp; omega)]
      simp only [Sem.run_bind, run_askRoom, Result.andThen_ok, run_size hE hj, Int.toNat_natCast, Sem.run_ite]
      by_cases hc0 : c' * j.size = 0
      · have hc0' : c' = 0 := by
          rcases Nat.mul_eq_zero.1 hc0 with h0 | h0
          · exact h0
          · omega
        subst hc0'
        have hl0 : l' = 0 := by omega
        subst hl0
        rw [if_pos hc0]
        simp [newRow, repeatL]
        have h0 : Array.range 0 = #[] := by apply Array.ext'; simp
        rw [h0, Array.map_empty]
      · rw [if_neg hc0]
        simp only [run_zero hE hj w hz, Sem.run_bind, Result.andThen_ok, Sem.run_pure, newRow, run_newObj, hrep]
    · cases h
  · cases h

theorem lowHigh_run (hev : ∀ x v, fr.ev x = some v → VR ρ v (e x)) {lo : Option Operand} {d l y : Nat} (h : lowHigh fr lo d = some l) (hle : l ≤ y) (code : BoundsCode) (w : World) :
    (match lo.map e with | some v => Instr.sliceBound v y code | none => pure d).run P w = .ok l w := by
  unfold lowHigh at h
  cases lo with
  | none => cases h; rfl
  | some x =>
    simp only at h
    split at h
    · cases h
    · rename_i v hv
      unfold intOf? at h
      split at h
      · rename_i k n
        cases h
        simp only [Option.map_some, (hev _ _ hv).int_inv]
        simp [Instr.sliceBound, asIntOf, hle]
      · cases h

theorem bounds_run (hev : ∀ x v, fr.ev x = some v → VR ρ v (e x)) {lo hi : Option Operand} {len cap cap' l h : Nat} (b : Bool) (hl : lowHigh fr lo 0 = some l) (hh : lowHigh fr hi len = some h) (h1 : l ≤ h) (h2 : h ≤ cap') (w : World) :
    (Instr.sliceBounds b len cap' (lo.map e) (hi.map e) none).run P w = .ok (l, h, cap') w := by
  have e1 := lowHigh_run (P := P) hev hl h1 (BoundsCode.sliceB) w
  have e2 := lowHigh_run (P := P) hev hh h2 (if b then .sliceAcap else .sliceAlen) w
  unfold Instr.sliceBounds
  cases lo with
  | none =>
    have hl0 : l = 0 := by simp only [lowHigh] at hl; cases hl; rfl
    subst hl0
    cases hi with
    | none =>
      have hh0 : h = len := by simp only [lowHigh] at hh; cases hh; rfl
      subst hh0
      simp
    | some ho => simp only [Option.map_some] at e2; simp [e2]
  | some l0 =>
    simp only [Option.map_some] at e1
    cases hi with
    | none =>
      have hh0 : h = len := by simp only [lowHigh] at hh; cases hh; rfl
      subst hh0
      simp [e1]
    | some ho => simp only [Option.map_some] at e2; simp [e2, e1]
theorem bounds_run3 (hev : ∀ x v, fr.ev x = some v → VR ρ v (e x)) {lo hi : Option Operand} {mo : Operand} {len cap' l h m : Nat} (b : Bool) (hl : lowHigh fr lo 0 = some l) {ho : Operand} (hho : hi = some ho) (hh : lowHigh fr hi len = some h) (hm : lowHigh fr (some mo) 0 = some m)
    (h1 : l ≤ h) (h2 : h ≤ m) (h3 : m ≤ cap') (w : World) :
    (Instr.sliceBounds b len cap' (lo.map e) (hi.map e) (some (e mo))).run P w = .ok (l, h, m) w := by
  have e1 := lowHigh_run (P := P) hev hl h1 (BoundsCode.slice3C) w
  have e2 := lowHigh_run (P := P) hev hh h2 (.slice3B) w
  have e3 := lowHigh_run (P := P) hev hm h3 (if b then .slice3Acap else .slice3Alen) w
  unfold Instr.sliceBounds
  subst hho
  simp only [Option.map_some] at e3 e2
  cases lo with
  | none =>
    have hl0 : l = 0 := by simp only [lowHigh] at hl; cases hl; rfl
    subst hl0
    simp [e3, e2]
  | some l0 =>
    simp only [Option.map_some] at e1
    simp [e3, e2, e1]

theorem addIf_R {a a' : Addr} (h : AddrR ρ a a') (m l size : Nat) : AddrR ρ (addIf a m l size) (if m = l then a' else a'.add (l * size)) := by
  unfold addIf
  cases hq : Nat.beq m l with
  | true => rw [if_pos (beq_iff.1 hq)]; exact h
  | false => rw [if_neg (beq_false hq)]; exact addA_R h _

theorem sliceP_sound (hE : EnvOK P E) (hR : Rep P q ρ s w) (hev : ∀ x v, fr.ev x = some v → VR ρ v (e x)) {t el : TypeId} {n : Nat} {i j : TI} (hi : E.ty.get t = some i) (hd : i.desc = .array n el) (hj : E.ty.get el = some j)
    {x : Operand} {a : Addr} (hx : fr.ev x = some (.pointer (some a))) {lo hi' : Option Operand} {l h' : Nat} (hl : lowHigh fr lo 0 = some l) (hh : lowHigh fr hi' n = some h')
    (h : (sliceP j.size a n l h').run s = some (nx, s')) :
    ValRes P q ρ w s' nx ((Instr.sliceAt t (e x) (lo.map e) (hi'.map e) none).run P w) := by
  obtain ⟨hb, h⟩ := run_when h
  simp only [Bool.and_eq_true, ble_iff, blt_iff] at hb
  obtain ⟨a', ea, har⟩ := (hev _ _ hx).ptr_inv
  have hbr := bounds_run (P := P) (cap := n) hev false hl hh hb.1.1 hb.1.2 w
  refine .here hR (.sliceW (addIf_R har n l j.size) (by show n - l < OPEN; omega)) ?_ h
  simp [Instr.sliceAt, run_under hE hi, hd, ea, Instr.sureAddr, hbr, run_size hE hj]

theorem slice_run (hE : EnvOK P E) {t el : TypeId} {i j : TI} (hi : E.ty.get t = some i) (hd : i.desc = .slice el) (hj : E.ty.get el = some j) {a' : Option Addr} {len cap' l h m : Nat} {lo hi' mx : Option Value}
    (hb : (Instr.sliceBounds true len cap' lo hi' mx).run P w = .ok (l, h, m) w) :
    (Instr.sliceAt t (.slice a' len cap') lo hi' mx).run P w = .ok (.slice (if m = l then a' else a'.map (·.add (l * j.size))) (h - l) (m - l)) w := by
  simp [Instr.sliceAt, Instr.slice, run_under hE hi, hd, hb, run_size hE hj]

/-- the room that a slice's cap tells is there -/
theorem VR.known_le {b : Option Addr} {len cap : Nat} {v' : Value} (h : VR ρ (.slice b len cap) v') : ∃ b' cap', v' = .slice b' len cap' ∧ known cap ≤ cap' ∧ (cap < OPEN → cap' = cap) := by
  unfold known
  cases b with
  | none =>
    obtain ⟨h1, h2, h3⟩ := h.sliceN_inv
    subst h1; subst h2; subst h3
    exact ⟨none, 0, rfl, by decide, fun _ => rfl⟩
  | some a =>
    rcases h.slice_inv with ⟨a', ea, har, hc⟩ | ⟨nm, off, b, bs, ex, c2, e1, e2, ea, hρ⟩ | ⟨nm, off, a', cap', e1, e2, e3, ea⟩
    · refine ⟨_, _, ea, ?_, fun _ => rfl⟩
      cases hq : Nat.ble OPEN cap with
      | true => exact absurd (ble_iff.1 hq) (by omega)
      | false => exact Nat.le_refl _
    · subst e2
      refine ⟨_, _, ea, ?_, fun h => by omega⟩
      rw [Nat.ble_eq_true_of_le (by omega)]
      show OPEN + c2 - OPEN ≤ _
      omega
    · subst e2; subst e3
      refine ⟨_, _, ea, ?_, fun h => by omega⟩
      rw [Nat.ble_eq_true_of_le (Nat.le_refl _)]
      show OPEN - OPEN ≤ _
      omega

theorem sliceM_sound (hE : EnvOK P E) (hR : Rep P q ρ s w) (hev : ∀ x v, fr.ev x = some v → VR ρ v (e x)) {t el : TypeId} {i j : TI} (hi : E.ty.get t = some i) (hd : i.desc = .slice el) (hj : E.ty.get el = some j)
    {x : Operand} {base : Option Addr} {len cap : Nat} (hx : fr.ev x = some (.slice base len cap)) {lo hi' : Option Operand} {ho mo : Operand} (hho : hi' = some ho) {l h' m : Nat} (hl : lowHigh fr lo 0 = some l) (hh : lowHigh fr hi' len = some h') (hm : lowHigh fr (some mo) 0 = some m)
    (h : (sliceM j.size base cap l h' m).run s = some (nx, s')) :
    ValRes P q ρ w s' nx ((Instr.sliceAt t (e x) (lo.map e) (hi'.map e) (some (e mo))).run P w) := by
  obtain ⟨hb, h⟩ := run_when h
  simp only [Bool.and_eq_true, ble_iff, blt_iff] at hb
  obtain ⟨⟨⟨h1, h2⟩, h3⟩, h4⟩ := hb
  have hvr := hev _ _ hx
  obtain ⟨b', cap', ea, hk, _⟩ := hvr.known_le
  have hbr := bounds_run3 (P := P) (cap' := cap') hev true hl hho hh hm h1 h2 (by omega) w
  rw [ea, slice_run hE hi hd hj hbr]
  cases base with
  | none =>
    obtain ⟨r1, r2, r3⟩ := hvr.sliceN_inv
    rw [ea] at r1; injection r1 with r4 r5 r6
    subst r4; subst r3; subst r6
    have hm0 : m = 0 := by omega
    have hh0 : h' = 0 := by omega
    have hl0 : l = 0 := by omega
    subst hm0; subst hh0; subst hl0
    exact .here hR (.flat rfl) rfl h
  | some a =>
    simp only at h
    split at h
    · cases h
    · rename_i hsp
      obtain ⟨a', cap2, e3, har⟩ := hvr.slice_addr hsp
      rw [ea] at e3; injection e3 with e4 _ e5
      subst e4
      refine .here hR (.sliceW (addIf_R har m l j.size) (by show m - l < OPEN; omega)) ?_ h
      by_cases hml : m = l <;> simp [hml]

theorem sliceE_sound (hE : EnvOK P E) (hR : Rep P q ρ s w) (hev : ∀ x v, fr.ev x = some v → VR ρ v (e x)) {t el : TypeId} {i j : TI} (hi : E.ty.get t = some i) (hd : i.desc = .slice el) (hj : E.ty.get el = some j)
    {x : Operand} {base : Option Addr} {len cap : Nat} (hx : fr.ev x = some (.slice base len cap)) (hcap : cap < OPEN) {lo hi' : Option Operand} {l h' : Nat} (hl : lowHigh fr lo 0 = some l) (hh : lowHigh fr hi' len = some h')
    (h : (sliceE j.size base cap l h').run s = some (nx, s')) :
    ValRes P q ρ w s' nx ((Instr.sliceAt t (e x) (lo.map e) (hi'.map e) none).run P w) := by
  obtain ⟨hb, h⟩ := run_when h
  simp only [Bool.and_eq_true, ble_iff] at hb
  obtain ⟨h1, h2⟩ := hb
  have hvr := hev _ _ hx
  obtain ⟨b', cap', ea, _, hk⟩ := hvr.known_le
  have hk := hk hcap
  subst hk
  have hbr := bounds_run (P := P) (cap := cap') hev true hl hh h1 h2 w
  rw [ea, slice_run hE hi hd hj hbr]
  cases base with
  | none =>
    obtain ⟨r1, r2, r3⟩ := hvr.sliceN_inv
    rw [ea] at r1; injection r1 with r4 r5 r6
    subst r4; subst r3
    have hh0 : h' = 0 := by omega
    have hl0 : l = 0 := by omega
    subst hh0; subst hl0
    exact .here hR (.flat rfl) rfl h
  | some a =>
    rcases hvr.slice_inv with ⟨a', e3, har, hc⟩ | ⟨nm, off, b, bs, ex, c2, e1, e2, e3, hρ⟩ | ⟨nm, off, a', cap3, e1, e2, e3, e4⟩
    · rw [ea] at e3; injection e3 with e4 _ e5
      subst e4
      refine .here hR (.sliceW (addIf_R har cap' l j.size) (by show cap' - l < OPEN; omega)) ?_ h
      by_cases hml : cap' = l <;> simp [hml]
    · omega
    · omega

theorem sliceO_sound (hE : EnvOK P E) (hlim : s'.next ≤ q.hi) (hR : Rep P q ρ s w) (hev : ∀ x v, fr.ev x = some v → VR ρ v (e x)) {t el : TypeId} {i j : TI} (hi : E.ty.get t = some i) (hd : i.desc = .slice el) (hj : E.ty.get el = some j)
    {x : Operand} {a : Addr} {len cap : Nat} (hx : fr.ev x = some (.slice (some a) len cap)) (hcap : OPEN ≤ cap) {lo hi' : Option Operand} {l h' : Nat} (hl : lowHigh fr lo 0 = some l) (hh : lowHigh fr hi' len = some h')
    (h : (sliceO j.size a (Nat.sub cap OPEN) l h').run s = some (nx, s')) :
    ValRes P q ρ w s' nx ((Instr.sliceAt t (e x) (lo.map e) (hi'.map e) none).run P w) := by
  unfold sliceO at h
  split at h
  · cases h
  · rename_i hsp
    obtain ⟨hb, h⟩ := run_when h
    simp only [Bool.and_eq_true, ble_iff] at hb
    obtain ⟨h1, h2⟩ := hb
    have hvr := hev _ _ hx
    rcases hvr.slice_inv with ⟨a', e3, har, hc⟩ | ⟨nm, off, b, bs, ex, c2, e1, e2, e3, hρ⟩ | ⟨nm, off, a', cap3, e1, e2, e3, e4⟩
    · omega
    · subst e1; subst e2
      have hc2 : Nat.sub (OPEN + c2) OPEN = c2 := by show OPEN + c2 - OPEN = c2; omega
      rw [hc2] at h h2
      have hbr := bounds_run (P := P) (cap := c2) (cap' := c2 + ex) hev true hl hh h1 (by omega) w
      rw [e3, slice_run hE hi hd hj hbr]
      split at h
      · rename_i hq
        have hne := beq_false hq
        refine .here hR (v' := .slice (some ((⟨b, bs + off, none⟩ : Addr).add (l * j.size))) (h' - l) ((c2 - l) + ex)) ?_ ?_ h
        · have hA := addA_R (ρ := ρ) (a := ⟨nm, off, none⟩) (a' := ⟨b, bs + off, none⟩) ⟨nm, off, b, bs, ex, hρ, rfl, rfl⟩ (l * j.size)
          have : addA ⟨nm, off, none⟩ (Nat.mul l j.size) = ⟨nm, off + l * j.size, none⟩ := by
            show addA ⟨nm, off, none⟩ (l * j.size) = _
            cases hlj : l * j.size with
            | zero => rfl
            | succ z => rfl
          rw [this, addr_add, Nat.add_assoc]
          exact .sliceL hρ
        · rw [if_neg (by omega)]
          simp
          omega
      · rename_i hq
        have hcl := beq_iff.1 hq
        subst hcl
        have hh' : h' = c2 := by omega
        subst hh'
        obtain ⟨o, ho, h⟩ := run_get h
        dsimp only at ho h
        obtain ⟨b1, base1, ex1, obj, g1, g2, g3⟩ := hR.live _ _ ho
        rw [hρ] at g1; cases g1
        obtain ⟨B2, hB2⟩ : ∃ B2, (ex = 0 ∧ B2 = bs + off) ∨ (ex ≠ 0 ∧ B2 = bs + off + h' * j.size) := by
          by_cases h0 : ex = 0
          · exact ⟨_, .inl ⟨h0, rfl⟩⟩
          · exact ⟨_, .inr ⟨h0, rfl⟩⟩
        split at h
        · rename_i d m el2
          obtain ⟨hm, h⟩ := run_when h
          have hm : off + h' * j.size = m := beq_iff.1 hm
          obtain ⟨_, hn1, h⟩ := run_set h
          obtain ⟨hn2, h⟩ := run_new h
          have hlt : s.next < q.hi := Nat.lt_of_lt_of_le (run_mono h : _ ≤ s'.next) hlim
          have hne : nm ≠ s.next := by
            intro he; subst he
            rw [hR.next_free hlt] at hρ; cases hρ
          cases g3 with
          | cells k1 k2 k3 =>
            rename_i cs
            have k2 := k2 rfl
            have hor2 : ∀ ρ', OR P ρ' B2 ex (.cells .nil 0 el2 .loose) (.cells cs el2 (0, 0)) := by
              intro ρ'
              refine .cells ?_ ?_ (by intro q v hv hq; omega)
              · rcases hB2 with ⟨h0, hB⟩ | ⟨h0, hB⟩ <;> omega
              · intro _
                rcases hB2 with ⟨h0, hB⟩ | ⟨h0, hB⟩
                · subst h0; omega
                · omega
            have hsp := Rep.split (P := P) (s1 := ((s.seen nm).turn nm (some (.cells d m el2 .sealed))).grow (.cells .nil 0 el2 .loose)) (w1 := w) (base2 := B2) (ex2 := ex) (o2 := .cells .nil 0 el2 .loose) (o1 := some (.cells d m el2 .sealed)) (hR.seen nm) hlt ho hρ
              (by
                intro k
                rw [grow_get hn2]
                show (if k = s.next then _ else _) = if k = s.next then _ else _
                by_cases hk : k = s.next
                · rw [if_pos hk, if_pos hk]
                · rw [if_neg hk, if_neg hk, turn_get hn1]) rfl g2 (fun _ _ => rfl) rfl
              (fun k => if k = s.next then some (b, B2, ex) else ρ k) (fun k => rfl) (hor2 _)
              (by
                intro q hq; cases hq
                refine ⟨.cells k1 (by intro h; cases h) k3, rfl, by simp [AObj.hi], ?_⟩
                intro q q1 q2 q3 q4
                simp only [AObj.lo, AObj.hi] at q1 q2 q3 q4
                rcases hB2 with ⟨h0, hB⟩ | ⟨h0, hB⟩
                · subst h0; omega
                · omega)
              (by
                intro q q3 q4
                simp only [AObj.lo, AObj.hi] at q3 q4 ⊢
                rcases hB2 with ⟨h0, hB⟩ | ⟨h0, hB⟩
                · subst h0; omega
                · omega)
              (fun m' o' x y obj _ _ _ _ hobj hor => by rw [g2] at hobj; cases hobj; exact hor)
            obtain ⟨rfl, rfl⟩ := run_val h
            refine ⟨_, _, _, w, rfl, rfl, hsp.1, hsp.2, ?_⟩
            have hx : (fun k => if k = s.next then some (b, B2, ex) else ρ k) s.next = some (b, B2, ex) := by simp
            have := VR.sliceL (ρ := fun k => if k = s.next then some (b, B2, ex) else ρ k) (off := 0) (len := 0) (c := 0) hx
            simp only [Nat.add_zero, Nat.zero_add] at this
            have e5 : (if h' + ex = h' then some (⟨b, bs + off, none⟩ : Addr) else (some (⟨b, bs + off, none⟩ : Addr)).map (·.add (h' * j.size))) = some ⟨b, B2, none⟩ := by
              rcases hB2 with ⟨h0, hB⟩ | ⟨h0, hB⟩
              · subst h0; subst hB; simp
              · rw [if_neg (by omega), hB]
                simp [addr_add]
            rw [e5, show h' - h' = 0 by omega, show h' + ex - h' = ex by omega]
            exact this
        · rename_i d m el2
          obtain ⟨hm, h⟩ := run_when h
          by_cases h0 : h' + ex = h'
          · rw [if_pos h0, show h' - h' = 0 by omega]
            exact .here (hR.seen _) .blind rfl h
          · rw [if_neg h0, show h' - h' = 0 by omega]
            exact .here (hR.seen _) .blind rfl h
        · cases h
    · subst e1; cases hsp

theorem aSlice_sound (hE : EnvOK P E) (hlim : s'.next ≤ q.hi) (hR : Rep P q ρ s w) (hev : ∀ x v, fr.ev x = some v → VR ρ v (e x)) {t : TypeId} {x : Operand} {lo hi mx : Option Operand} (h : (aSlice E fr t x lo hi mx).run s = some (nx, s')) :
    ValRes P q ρ w s' nx ((Instr.sliceAt t (e x) (lo.map e) (hi.map e) (mx.map e)).run P w) := by
  obtain ⟨i, hi', h1⟩ := run_opt h
  clear h
  split at h1
  · rename_i el base len cap hd hx
    obtain ⟨j, hj, h2⟩ := run_opt h1
    obtain ⟨l, hl, h3⟩ := run_opt h2
    obtain ⟨h', hh, h4⟩ := run_opt h3
    clear h1 h2 h3
    cases mx with
    | some mo =>
      simp only at h4
      cases hi with
      | none => cases h4
      | some ho =>
        obtain ⟨m, hm, h5⟩ := run_opt h4
        exact sliceM_sound hE hR hev hi' hd hj hx rfl hl hh hm h5
    | none =>
      simp only [sliceA] at h4
      split at h4
      · rename_i hO
        exact sliceE_sound hE hR hev hi' hd hj hx (ble_false hO) hl hh h4
      · rename_i hO
        cases base with
        | none => cases h4
        | some a => exact sliceO_sound hE hlim hR hev hi' hd hj hx (ble_iff.1 hO) hl hh h4
  · rename_i n el a hd hx
    obtain ⟨j, hj, h2⟩ := run_opt h1
    obtain ⟨l, hl, h3⟩ := run_opt h2
    obtain ⟨h', hh, h4⟩ := run_opt h3
    clear h1 h2 h3
    cases mx with
    | some mo => cases h4
    | none => exact sliceP_sound hE hR hev hi' hd hj hx hl hh h4
  · cases h1
end
end Go.AE
