/- Leaves: the leaf of a block: parts. -/
import Derived.Test.YtgofanjbhbeniaaDoorRows
import Derived.Test.YtgofanjbhbeniaaDoorAe26
import Derived.Test.YtgofanjbhbeniaaDoorAe32
section
/- The sum of bytes: what its code does over the named memory. -/
namespace Go.Proofs.YtgofanjbhbeniaaDoor.sum
open AE
set_option linter.unusedSimpArgs false
set_option maxRecDepth 10000

noncomputable def body : Code := bodyOf Tryd.f44
noncomputable def cL : Code := sub [1,1,0,1,0,0] body
noncomputable def cIn : Code := sub [1,1,0,0,1,1,1,0,0] cL
noncomputable def cX : Code := sub [1,1,0,0] cL
noncomputable def r3 : Code := sub [0] cL
noncomputable def r4 : Code := sub [0] cX
noncomputable def r5 : Code := sub [1,0] cX
noncomputable def r6 : Code := sub [1,1,0] cX
noncomputable def r11 : Code := sub [1,1,1] cL
noncomputable def r0 : Code := sub [0] body
noncomputable def r1 : Code := sub [1,0] body
noncomputable def r2 : Code := sub [1,1,0,0] body
noncomputable def r12 : Code := sub [1,1,1,0] body
abbrev FN : Nat := 44

/-- one bit -/
theorem bitStep (E : Env) (f r j : Nat) (hr : r < 4294967296) (hj : j < 8) (t : Tr Value) (s : S) (h3 : t.get 3 = some (.int .u32 (.ofNat r))) (h17 : t.get 17 = some (.int .i64 (.ofNat j))) :
    ∃ t', ev E (f + 20) (.code cIn ⟨FN, t, 30, [], none⟩) s = some (.fr .normal ⟨FN, t', 30, [], none⟩, s) ∧ t'.get 3 = some (.int .u32 (.ofNat (crcBit r))) ∧ t'.get 17 = some (.int .i64 (.ofNat (j + 1))) ∧
      t'.get 7 = t.get 7 ∧ t'.get 8 = t.get 8 ∧ t'.get 9 = t.get 9 := by
  have hj8 : ltI (Int.ofNat j) 8 = true := by rw [ltI_eq]; simp; omega
  have hinc : ∀ E t, binA E .add t (.int .i64 (.ofNat j)) (.int .i64 1) = some (.int .i64 (.ofNat (j + 1))) := fun E t => b_inc (by omega)
  unfold cIn cL body
  simp only [Tryd.f44, bodyOf, sub]
  simp (disch := decide) only [ev, evCode, evRegion, outFr, opsLoop, evOper, wantedA, aop, aBin, opt, val, AM.run, Fr.ev, Fr.put, onFr, gp, bltT, h3, h17, still, flat, hj8, hinc, b_and, b_mul, b_xor, b_shr, b_lss,
    Nat.reduceEqDiff, if_true, if_false, reduceIte, reduceCtorEq]
  refine ⟨_, rfl, ?_⟩
  simp (disch := decide) only [gp, Nat.reduceEqDiff, reduceIte, crcBit_eq hr, and_self]

def bits : Nat → Nat → Nat
  | 0, r => r
  | k + 1, r => bits k (crcBit r)
theorem bits_lt : ∀ (k r : Nat), r < 4294967296 → bits k r < 4294967296
  | 0, r, h => h
  | k + 1, r, h => bits_lt k _ (crcBit_lt h)

/-- the bits that are left -/
theorem bitLoop (E : Env) (s : S) : ∀ (k f r j : Nat), r < 4294967296 → j + k = 8 → ∀ (t : Tr Value), t.get 3 = some (.int .u32 (.ofNat r)) → t.get 17 = some (.int .i64 (.ofNat j)) →
    ∃ t', ev E (f + k + 30) (.code (.loop cIn) ⟨FN, t, 30, [], none⟩) s = some (.fr (.exit 2) ⟨FN, t', 30, [], none⟩, s) ∧ t'.get 3 = some (.int .u32 (.ofNat (bits k r))) ∧ t'.get 7 = t.get 7 ∧ t'.get 8 = t.get 8 ∧ t'.get 9 = t.get 9
  | 0, f, r, j, hr, hj, t, h3, h17 => by
    have hj8 : ltI (Int.ofNat j) 8 = false := by rw [ltI_eq]; simp; omega
    unfold cIn cL body
    simp only [Tryd.f44, bodyOf, sub]
    simp (disch := decide) only [ev, evCode, evRegion, outFr, opsLoop, evOper, wantedA, aop, aBin, opt, val, AM.run, Fr.ev, Fr.put, onFr, gp, bltT, h3, h17, still, flat, hj8, b_lss,
      Nat.reduceEqDiff, if_true, if_false, reduceIte, reduceCtorEq]
    refine ⟨_, rfl, ?_⟩
    simp (disch := decide) only [gp, Nat.reduceEqDiff, reduceIte, h3, bits, and_self]
  | k + 1, f, r, j, hr, hj, t, h3, h17 => by
    obtain ⟨t1, e1, g3, g17, g7, g8, g9⟩ := bitStep E (f + k + 10) r j hr (by omega) t s h3 h17
    obtain ⟨t2, e2, k3, k7, k8, k9⟩ := bitLoop E s k f (crcBit r) (j + 1) (crcBit_lt hr) (by omega) t1 g3 g17
    refine ⟨t2, ?_, k3, k7.trans g7, k8.trans g8, k9.trans g9⟩
    have e1' : ev E (f + k + 30) (.code cIn ⟨FN, t, 30, [], none⟩) s = some (.fr .normal ⟨FN, t1, 30, [], none⟩, s) := e1
    show evCode (ev E (f + k + 30)) E (.loop cIn) _ s = _
    simp only [evCode, e1', e2]

theorem cL_eq : cL = .seq r3 (.seq (.cond (.tmp 10) .skip (.exit 0)) (.seq (.block 1 (.seq r4 (.seq r5 (.seq r6 (.block 2 (.loop cIn)))))) r11)) := rfl
theorem r3_run (E : Env) (f i len : Nat) (t : Tr Value) (s : S) (h9 : t.get 9 = some (.int .i64 (.ofNat i))) (h8 : t.get 8 = some (.int .i64 (.ofNat len))) :
    ev E (f + 2) (.code r3 ⟨FN, t, 30, [], none⟩) s = some (.fr .normal ⟨FN, t.put 10 (some (.bool (ltI (.ofNat i) (.ofNat len)))), 30, [], none⟩, s) := by
  unfold r3 cL body
  simp only [Tryd.f44, bodyOf, sub]
  simp (disch := decide) only [ev, evCode, evRegion, outFr, opsLoop, evOper, wantedA, aop, aBin, opt, val, AM.run, Fr.ev, Fr.put, onFr, gp, bltT, h8, h9, b_lss, Nat.reduceEqDiff, reduceIte]

structure Tys (E : Env) : Prop where
  sl : ∃ i, E.ty.get 51 = some i ∧ i.desc = .slice 5
  u8 : ∃ i, E.ty.get 5 = some i ∧ i.desc = .int .u8 ∧ i.size = 1
  u32 : ∃ i, E.ty.get 73 = some i ∧ i.desc = .int .u32

/-- where a byte lies -/
structure At (s : S) (ad : Addr) (k x : Nat) : Prop where
  spot : ad.spot = none
  lt : ad.block < s.next
  cell : ∃ c m, Has s ad.block c m ∧ ad.off + k + 1 ≤ m ∧ c.get (ad.off + k) = some (.int .u8 (.ofNat x))

theorem addA_eq (ad : Addr) (k : Nat) (h : ad.spot = none) : addA ad k = ⟨ad.block, ad.off + k, none⟩ := by
  cases k with
  | zero => obtain ⟨b, o, sp⟩ := ad; simp only at h; subst h; rfl
  | succ k => rfl
theorem byte_load {s : S} {ad : Addr} {k x : Nat} (h : At s ad k x) (i8 : TI) (hi : i8.desc = .int .u8) : (loadT i8 (addA ad k) val).run s = some (.value (.int .u8 (.ofNat x)), s.seen ad.block) := by
  obtain ⟨hs, hlt, c, m, h1, h2, h3⟩ := h
  rw [addA_eq ad k hs]
  have hble : Nat.ble (Nat.add (ad.off + k) 1) m = true := ble_iff.2 h2
  have hb : Nat.blt ad.block s.next = true := blt_iff.2 hlt
  rcases h1 with ⟨e, rm, h1⟩ | ⟨e, h1⟩
  all_goals
    simp only [loadT, hi, isAggD, loadA, AM.run, hb, h1, hble, when, rdCells, Nat.add_eq, Nat.add_zero, h3, opt, val]
    rfl
theorem r4_run {E : Env} (hE : Tys E) (f i len cap : Nat) (ad : Addr) (x : Nat) (t : Tr Value) (s : S) (h9 : t.get 9 = some (.int .i64 (.ofNat i))) (h7 : t.get 7 = some (.slice (some ad) len cap)) (hi : i < len) (hat : At s ad i x) :
    ev E (f + 2) (.code r4 ⟨FN, t, 30, [], none⟩) s = some (.fr .normal ⟨FN, ((t.put 11 (some (.pointer (some (addA ad i))))).put 12 (some (.int .u8 (.ofNat x)))).put 5 (some (.int .u8 (.ofNat x))), 30, [], none⟩, s.seen ad.block) := by
  obtain ⟨isl, hsl, dsl⟩ := hE.sl
  obtain ⟨i8, h8, d8, z8⟩ := hE.u8
  have hb : Nat.blt i len = true := blt_iff.2 hi
  have hl := byte_load hat i8 d8
  unfold r4 cX cL body
  simp only [Tryd.f44, bodyOf, sub]
  simp (disch := decide) only [ev, evCode, evRegion, outFr, opsLoop, evOper, wantedA, aop, aIndexAddr, aLoad, opt, when, Fr.ev, Fr.put, onFr, gp, bltT, h7, h9, hsl, dsl, h8, z8, hb, Nat.mul_one, Nat.mul_eq, hl, Nat.reduceEqDiff, reduceIte]
  simp (disch := decide) only [val, AM.run, gp, bltT, hl, Nat.reduceEqDiff, reduceIte]

theorem xor_byte {r x : Nat} (hr : r < 4294967296) (hx : x < 256) : Nat.mod (Nat.xor (Nat.mod r 4294967296) (Nat.mod x 4294967296)) 4294967296 = Nat.xor r x ∧ Nat.xor r x < 4294967296 := by
  rw [show Nat.mod r 4294967296 = r from Nat.mod_eq_of_lt hr, show Nat.mod x 4294967296 = x from Nat.mod_eq_of_lt (by omega)]
  have : Nat.xor r x < 4294967296 := Nat.xor_lt_two_pow (n := 32) hr (by omega)
  exact ⟨Nat.mod_eq_of_lt this, this⟩
theorem r56_run {E : Env} (hE : Tys E) (r x : Nat) (hr : r < 4294967296) (hx : x < 256) (t : Tr Value) (s : S) (h3 : t.get 3 = some (.int .u32 (.ofNat r))) (h5 : t.get 5 = some (.int .u8 (.ofNat x))) :
    ∃ t1 t2, (∀ f, ev E (f + 2) (.code r5 ⟨FN, t, 30, [], none⟩) s = some (.fr .normal ⟨FN, t1, 30, [], none⟩, s)) ∧ (∀ f, ev E (f + 2) (.code r6 ⟨FN, t1, 30, [], none⟩) s = some (.fr .normal ⟨FN, t2, 30, [], none⟩, s)) ∧
      t2.get 3 = some (.int .u32 (.ofNat (Nat.xor r x))) ∧ t2.get 17 = some (.int .i64 (.ofNat 0)) ∧ t2.get 7 = t.get 7 ∧ t2.get 8 = t.get 8 ∧ t2.get 9 = t.get 9 := by
  obtain ⟨i8, h8, d8, z8⟩ := hE.u8
  obtain ⟨i32, h32, d32⟩ := hE.u32
  unfold r5 r6 cX cL body
  simp only [Tryd.f44, bodyOf, sub]
  simp (disch := decide) only [ev, evCode, evRegion, outFr, opsLoop, evOper, wantedA, aop, aConvert, aBin, opt, val, AM.run, Fr.ev, Fr.put, onFr, gp, bltT, h3, h5, h8, h32, d32, b_conv8 hx, b_xor, still, flat, Nat.reduceEqDiff, reduceIte]
  refine ⟨_, _, fun f => rfl, fun f => rfl, ?_⟩
  simp (disch := decide) only [gp, Nat.reduceEqDiff, reduceIte, (xor_byte hr hx).1, and_self, and_true, true_and]
  rfl
theorem r11_run (E : Env) (f i : Nat) (hi : i < 9223372036854775807) (t : Tr Value) (s : S) (h9 : t.get 9 = some (.int .i64 (.ofNat i))) :
    ∃ t1, ev E (f + 2) (.code r11 ⟨FN, t, 30, [], none⟩) s = some (.fr .normal ⟨FN, t1, 30, [], none⟩, s) ∧ t1.get 9 = some (.int .i64 (.ofNat (i + 1))) ∧ t1.get 3 = t.get 3 ∧ t1.get 7 = t.get 7 ∧ t1.get 8 = t.get 8 := by
  have hinc : ∀ E t, binA E .add t (.int .i64 (.ofNat i)) (.int .i64 1) = some (.int .i64 (.ofNat (i + 1))) := fun E t => b_inc hi
  unfold r11 cL body
  simp only [Tryd.f44, bodyOf, sub]
  simp (disch := decide) only [ev, evCode, evRegion, outFr, opsLoop, evOper, wantedA, aop, aBin, opt, val, AM.run, Fr.ev, Fr.put, onFr, gp, bltT, h9, hinc, still, flat, Nat.reduceEqDiff, reduceIte]
  refine ⟨_, rfl, ?_⟩
  simp (disch := decide) only [gp, Nat.reduceEqDiff, reduceIte, and_self]

/-- one byte -/
theorem byteStep {E : Env} (hE : Tys E) (f r i len cap : Nat) (ad : Addr) (x : Nat) (hr : r < 4294967296) (hx : x < 256) (hi : i < len) (hi2 : i < 9223372036854775807) (t : Tr Value) (s : S) (hat : At s ad i x)
    (h3 : t.get 3 = some (.int .u32 (.ofNat r))) (h7 : t.get 7 = some (.slice (some ad) len cap)) (h8 : t.get 8 = some (.int .i64 (.ofNat len))) (h9 : t.get 9 = some (.int .i64 (.ofNat i))) :
    ∃ t', ev E (f + 60) (.code cL ⟨FN, t, 30, [], none⟩) s = some (.fr .normal ⟨FN, t', 30, [], none⟩, s.seen ad.block) ∧ t'.get 3 = some (.int .u32 (.ofNat (bits 8 (Nat.xor r x)))) ∧
      t'.get 7 = some (.slice (some ad) len cap) ∧ t'.get 8 = some (.int .i64 (.ofNat len)) ∧ t'.get 9 = some (.int .i64 (.ofNat (i + 1))) := by
  have hlt : ltI (Int.ofNat i) (Int.ofNat len) = true := by rw [ltI_eq]; simp; omega
  have a1 := r3_run E (f + 57) i len t s h9 h8
  have a2 := r4_run hE (f + 53) i len cap ad x (t.put 10 (some (.bool (ltI (.ofNat i) (.ofNat len))))) s (by rw [gp _ _ _ _ rfl]; exact h9) (by rw [gp _ _ _ _ rfl]; exact h7) hi hat
  obtain ⟨t1, t2, b1, b2, b3, b17, b7, b8, b9⟩ := r56_run hE r x hr hx ((((t.put 10 (some (.bool (ltI (.ofNat i) (.ofNat len))))).put 11 (some (.pointer (some (addA ad i))))).put 12 (some (.int .u8 (.ofNat x)))).put 5 (some (.int .u8 (.ofNat x)))) (s.seen ad.block)
    (by simp (disch := decide) only [gp, Nat.reduceEqDiff, reduceIte]; exact h3) (by simp (disch := decide) only [gp, reduceIte])
  obtain ⟨t3, c1, c3, c7, c8, c9⟩ := bitLoop E (s.seen ad.block) 8 (f + 14) (Nat.xor r x) 0 (xor_byte hr hx).2 (by omega) t2 b3 b17
  have g7 : t3.get 7 = some (.slice (some ad) len cap) := by rw [c7, b7]; simp (disch := decide) only [gp, Nat.reduceEqDiff, reduceIte]; exact h7
  have g8 : t3.get 8 = some (.int .i64 (.ofNat len)) := by rw [c8, b8]; simp (disch := decide) only [gp, Nat.reduceEqDiff, reduceIte]; exact h8
  have g9 : t3.get 9 = some (.int .i64 (.ofNat i)) := by rw [c9, b9]; simp (disch := decide) only [gp, Nat.reduceEqDiff, reduceIte]; exact h9
  obtain ⟨t4, d1, d9, d3, d7, d8⟩ := r11_run E (f + 55) i hi2 t3 (s.seen ad.block) g9
  refine ⟨t4, ?_, by rw [d3, c3], by rw [d7, g7], by rw [d8, g8], d9⟩
  rw [cL_eq]
  have hcond : Fr.ev ⟨FN, t.put 10 (some (.bool (ltI (.ofNat i) (.ofNat len)))), 30, [], none⟩ (.tmp 10) = some (.bool true) := by
    simp (disch := decide) only [Fr.ev, gp, reduceIte, hlt]
  refine (ev_seq (f := f + 59) a1).trans ((ev_seq (f := f + 58) ((ev_cond (f := f + 57) hcond).trans ev_skip)).trans ?_)
  refine (ev_seq (f := f + 57) (ev_block (f := f + 56) ((ev_seq (f := f + 55) a2).trans ((ev_seq (f := f + 54) (b1 (f + 52))).trans ((ev_seq (f := f + 53) (b2 (f + 51))).trans (ev_block_exit (f := f + 52) c1)))))).trans d1

theorem crcByte_eq (r x : Nat) : crcByte r x = bits 8 (Nat.xor r x) := by
  simp only [crcByte, force_eq, bits]

theorem At.of_seen {s : S} {ad : Addr} {k x : Nat} (n : Nat) (h : At s ad k x) : At (s.seen n) ad k x := ⟨h.spot, h.lt, h.cell⟩

/-- the bytes that are left, the block having been read already -/
theorem byteLoop {E : Env} (hE : Tys E) (len cap : Nat) (hlen : len < 9223372036854775807) (ad : Addr) (s : S) (hs : s.seen ad.block = s) : ∀ (l : List Value) (f r i R : Nat) (t : Tr Value), i + l.length = len → r < 4294967296 →
    (∀ k x, l[k]? = some (.int .u8 (.ofNat x)) → At s ad (i + k) x) → crcVals l r = some R →
    t.get 3 = some (.int .u32 (.ofNat r)) → t.get 7 = some (.slice (some ad) len cap) → t.get 8 = some (.int .i64 (.ofNat len)) → t.get 9 = some (.int .i64 (.ofNat i)) →
    ∃ t', ev E (f + l.length + 70) (.code (.loop cL) ⟨FN, t, 30, [], none⟩) s = some (.fr (.exit 0) ⟨FN, t', 30, [], none⟩, s) ∧ t'.get 3 = some (.int .u32 (.ofNat R)) ∧ R < 4294967296
  | [], f, r, i, R, t, hi, hr, hat, hc, h3, h7, h8, h9 => by
    simp only [crcVals, Option.some.injEq] at hc
    subst hc
    have hlt : ltI (Int.ofNat i) (Int.ofNat len) = false := by rw [ltI_eq]; simp at hi ⊢; omega
    have a1 := r3_run E (f + 66) i len t s h9 h8
    have hcond : Fr.ev ⟨FN, t.put 10 (some (.bool (ltI (.ofNat i) (.ofNat len)))), 30, [], none⟩ (.tmp 10) = some (.bool false) := by
      simp (disch := decide) only [Fr.ev, gp, reduceIte, hlt]
    refine ⟨t.put 10 (some (.bool (ltI (.ofNat i) (.ofNat len)))), ?_, ?_, hr⟩
    · refine ev_loop_exit (f := f + 69) ?_
      rw [cL_eq]
      exact (ev_seq (f := f + 68) a1).trans (ev_seq_exit (f := f + 67) ((ev_cond_not (f := f + 66) hcond).trans ev_exit))
    · simp (disch := decide) only [gp, Nat.reduceEqDiff, reduceIte, h3]
  | v :: l, f, r, i, R, t, hi, hr, hat, hc, h3, h7, h8, h9 => by
    obtain ⟨x, rfl, hx, hc⟩ := crcVals_cons hc
    rw [crcByte_eq] at hc
    simp only [List.length_cons] at hi
    obtain ⟨t1, a1, a3, a7, a8, a9⟩ := byteStep hE (f + l.length + 10) r i len cap ad x hr hx (by omega) (by omega) t s (by have := hat 0 x rfl; simpa using this) h3 h7 h8 h9
    rw [hs] at a1
    have hat' : ∀ k x, l[k]? = some (.int .u8 (.ofNat x)) → At s ad (i + 1 + k) x := by
      intro k x h
      have := hat (k + 1) x (by simpa using h)
      have e : i + (k + 1) = i + 1 + k := by omega
      rw [e] at this
      exact this
    obtain ⟨t2, b1, b3, b4⟩ := byteLoop hE len cap hlen ad s hs l f _ (i + 1) R t1 (by omega) (bits_lt 8 _ (xor_byte hr hx).2) hat' hc a3 a7 a8 a9
    refine ⟨t2, ?_, b3, b4⟩
    exact (ev_loop (f := f + l.length + 70) a1).trans b1

theorem body_eq : body = .seq r0 (.seq r1 (.seq (.seq r2 (.block 0 (.loop cL))) (.seq r12 .ret))) := rfl
theorem r01_run (E : Env) (t : Tr Value) (s : S) (v : Value) (h0 : t.get 0 = some v) :
    ∃ t1 t2, (∀ f, ev E (f + 2) (.code r0 ⟨FN, t, 30, [], none⟩) s = some (.fr .normal ⟨FN, t1, 30, [], none⟩, s)) ∧ (∀ f, ev E (f + 2) (.code r1 ⟨FN, t1, 30, [], none⟩) s = some (.fr .normal ⟨FN, t2, 30, [], none⟩, s)) ∧
      t2.get 3 = some (.int .u32 (.ofNat 4294967295)) ∧ t2.get 0 = some v := by
  unfold r0 r1 body
  simp only [Tryd.f44, bodyOf, sub]
  simp (disch := decide) only [ev, evCode, evRegion, outFr, opsLoop, evOper, wantedA, aop, opt, val, AM.run, Fr.ev, Fr.put, onFr, gps, gpn, bltT, still, flat]
  refine ⟨_, _, fun f => rfl, fun f => rfl, ?_⟩
  simp (disch := decide) only [gps, gpn, h0, and_true, true_and]
  rfl
theorem r2_run {E : Env} (hE : Tys E) (a : Option Addr) (len cap : Nat) (t : Tr Value) (s : S) (h0 : t.get 0 = some (.slice a len cap)) :
    ∃ t3, (∀ f, ev E (f + 2) (.code r2 ⟨FN, t, 30, [], none⟩) s = some (.fr .normal ⟨FN, t3, 30, [], none⟩, s)) ∧
      t3.get 3 = t.get 3 ∧ t3.get 7 = some (.slice a len cap) ∧ t3.get 8 = some (.int .i64 (.ofNat len)) ∧ t3.get 9 = some (.int .i64 (.ofNat 0)) := by
  obtain ⟨isl, hsl, dsl⟩ := hE.sl
  unfold r2 body
  simp only [Tryd.f44, bodyOf, sub]
  simp (disch := decide) only [ev, evCode, evRegion, outFr, opsLoop, evOper, wantedA, aop, callA, builtinA, Fr.evs, opt, val, AM.run, Fr.ev, Fr.put, onFr, gps, gpn, bltT, h0, hsl, dsl, still, flat]
  refine ⟨_, fun f => rfl, ?_⟩
  simp (disch := decide) only [gps, gpn, h0, and_true, true_and]
  rfl
theorem start_run {E : Env} (hE : Tys E) (a : Option Addr) (len cap : Nat) (t : Tr Value) (s : S) (h0 : t.get 0 = some (.slice a len cap)) :
    ∃ t1 t2 t3, (∀ f, ev E (f + 2) (.code r0 ⟨FN, t, 30, [], none⟩) s = some (.fr .normal ⟨FN, t1, 30, [], none⟩, s)) ∧ (∀ f, ev E (f + 2) (.code r1 ⟨FN, t1, 30, [], none⟩) s = some (.fr .normal ⟨FN, t2, 30, [], none⟩, s)) ∧
      (∀ f, ev E (f + 2) (.code r2 ⟨FN, t2, 30, [], none⟩) s = some (.fr .normal ⟨FN, t3, 30, [], none⟩, s)) ∧
      t3.get 3 = some (.int .u32 (.ofNat 4294967295)) ∧ t3.get 7 = some (.slice a len cap) ∧ t3.get 8 = some (.int .i64 (.ofNat len)) ∧ t3.get 9 = some (.int .i64 (.ofNat 0)) := by
  obtain ⟨t1, t2, a1, a2, a3, a0⟩ := r01_run E t s _ h0
  obtain ⟨t3, b1, b3, b7, b8, b9⟩ := r2_run hE a len cap t2 s a0
  exact ⟨t1, t2, t3, a1, a2, b1, b3.trans a3, b7, b8, b9⟩
theorem end_run (E : Env) (r : Nat) (hr : r < 4294967296) (t : Tr Value) (s : S) (h3 : t.get 3 = some (.int .u32 (.ofNat r))) :
    ∃ t1, (∀ f, ev E (f + 2) (.code r12 ⟨FN, t, 30, [], none⟩) s = some (.fr .normal ⟨FN, t1, 30, [], none⟩, s)) ∧ t1.get 2 = some (.int .u32 (.ofNat (Nat.xor 4294967295 r))) := by
  have e : Nat.mod (Nat.xor 4294967295 (Nat.mod r 4294967296)) 4294967296 = Nat.xor 4294967295 r := by
    rw [show Nat.mod r 4294967296 = r from Nat.mod_eq_of_lt hr]
    exact Nat.mod_eq_of_lt (Nat.xor_lt_two_pow (n := 32) (by decide) hr)
  unfold r12 body
  simp only [Tryd.f44, bodyOf, sub]
  simp (disch := decide) only [ev, evCode, evRegion, outFr, opsLoop, evOper, wantedA, aop, opt, val, AM.run, Fr.ev, Fr.put, onFr, gps, gpn, bltT, h3, b_not, e, Nat.reduceEqDiff, reduceIte]
  refine ⟨_, fun f => rfl, ?_⟩
  simp (disch := decide) only [gps, gpn]

/-- the function, out of its loop -/
theorem sum_fn {E : Env} (hE : Tys E) (hfn : E.fn.get FN = some (FI.of Tryd.f44)) (a : Option Addr) (len cap R : Nat) (hR : R < 4294967296) (s s1 : S) (n : Nat)
    (hloop : ∀ t, t.get 3 = some (.int .u32 (.ofNat 4294967295)) → t.get 7 = some (.slice a len cap) → t.get 8 = some (.int .i64 (.ofNat len)) → t.get 9 = some (.int .i64 (.ofNat 0)) →
      ∃ t', ev E (n + 1) (.code (.loop cL) ⟨FN, t, 30, [], none⟩) s = some (.fr (.exit 0) ⟨FN, t', 30, [], none⟩, s1) ∧ t'.get 3 = some (.int .u32 (.ofNat R))) :
    ev E (n + 7) (.next (.enter FN [.slice a len cap])) s = some (.val (.int .u32 (.ofNat (Nat.xor 4294967295 R))), s1) := by
  have h0 : (Tr.ofList [Value.slice a len cap]).get 0 = some (.slice a len cap) := rfl
  obtain ⟨t1, t2, t3, a0, a1, a2, g3, g7, g8, g9⟩ := start_run hE a len cap _ s h0
  obtain ⟨t4, b, b3⟩ := hloop t3 g3 g7 g8 g9
  obtain ⟨t5, c, c2⟩ := end_run E R hR t4 s1 b3
  have hbody : ev E (n + 6) (.code body ⟨FN, Tr.ofList [.slice a len cap], 30, [], none⟩) s = some (.fr .ret ⟨FN, t5, 30, [], none⟩, s1) := by
    rw [body_eq]
    refine (ev_seq (f := n + 5) (a0 (n + 3))).trans ((ev_seq (f := n + 4) (a1 (n + 2))).trans ((ev_seq (f := n + 3) ((ev_seq (f := n + 2) (a2 n)).trans (ev_block_exit (f := n + 1) b))).trans ((ev_seq (f := n + 2) (c n)).trans ev_ret)))
  have hleave : ev E (n + 6) (.leave ⟨FN, t5, 30, [], none⟩) s1 = some (.val (.int .u32 (.ofNat (Nat.xor 4294967295 R))), s1) := by
    rw [ev_leave (f := n + 5)]
    simp only [evLeave, hfn]
    have hres : (FI.of Tryd.f44).results = [.tmp 2] := rfl
    simp only [resultsM, hres, resultsA, c2, opt, AM.run]
  rw [ev_next (f := n + 6)]
  have hb : (FI.of Tryd.f44).body = some body := by kernel_rfl
  have hn : (FI.of Tryd.f44).ntmps = 30 := rfl
  have hle : Nat.ble 30 lastName = true := by decide
  have hnn : Nat.add [Value.slice a len cap].length (Nat.sub 30 [Value.slice a len cap].length) = 30 := rfl
  simp only [evNext, hfn, hb, hn, evEnter, hnn]
  simp only [hle, hbody, hleave]

theorem loop_none (E : Env) (t : Tr Value) (s : S) (h8 : t.get 8 = some (.int .i64 (.ofNat 0))) (h9 : t.get 9 = some (.int .i64 (.ofNat 0))) :
    ev E 11 (.code (.loop cL) ⟨FN, t, 30, [], none⟩) s = some (.fr (.exit 0) ⟨FN, t.put 10 (some (.bool (ltI (.ofNat 0) (.ofNat 0)))), 30, [], none⟩, s) := by
  have a1 := r3_run E 7 0 0 t s h9 h8
  have hcond : Fr.ev ⟨FN, t.put 10 (some (.bool (ltI (.ofNat 0) (.ofNat 0)))), 30, [], none⟩ (.tmp 10) = some (.bool false) := by
    simp (disch := decide) only [Fr.ev, gps, gpn]
    rfl
  refine ev_loop_exit (f := 10) ?_
  rw [cL_eq]
  exact (ev_seq (f := 9) a1).trans (ev_seq_exit (f := 8) ((ev_cond_not (f := 7) hcond).trans ev_exit))

/-- **the summary is lawful** -/
theorem sum_ev {E : Env} (hE : Tys E) (hfn : E.fn.get FN = some (FI.of Tryd.f44)) {args : List Value} {s s' : S} {v : Value} (h : (crcA args).run s = some (v, s')) :
    ∃ F, ev E F (.next (.enter FN args)) s = some (.val v, s') := by
  unfold crcA at h
  split at h
  · rename_i a len cap
    split at h
    · simp only [AM.run, Option.some.injEq, Prod.mk.injEq] at h
      obtain ⟨rfl, rfl⟩ := h
      refine ⟨17, sum_fn hE hfn a 0 cap 4294967295 (by decide) s s 10 ?_⟩
      intro t h3 h7 h8 h9
      exact ⟨_, loop_none E t s h8 h9, by simp (disch := decide) only [gps, gpn, h3]⟩
    · rename_i n
      split at h
      · rename_i ad
        obtain ⟨hn, h1⟩ := run_when h
        have hn := blt_iff.1 hn
        obtain ⟨c, m, cs, hspot, hlt, ho, hm', hcs, h4⟩ := load_inv h1
        obtain ⟨R, hR, h5⟩ := run_opt h4
        simp only [AM.run, Option.some.injEq, Prod.mk.injEq] at h5
        obtain ⟨rfl, rfl⟩ := h5
        have hm' : ad.off + (n + 1) ≤ m := hm'
        obtain ⟨hl, hget⟩ := rdCells_get hcs
        cases cs with
        | nil => simp at hl
        | cons v l =>
          simp only [List.length_cons] at hl
          have hat : ∀ k x, (v :: l)[k]? = some (.int .u8 (.ofNat x)) → At s ad k x := by
            intro k x hk
            have hkl := (List.getElem?_eq_some_iff.1 hk).1
            simp only [List.length_cons] at hkl
            exact ⟨hspot, hlt, c, m, ho, by omega, hget k _ hk⟩
          have hR' : R < 4294967296 := by
            have : ∀ (l : List Value) (r R : Nat), r < 4294967296 → crcVals l r = some R → R < 4294967296 := by
              intro l
              induction l with
              | nil => intro r R hr h; simp only [crcVals, Option.some.injEq] at h; omega
              | cons v l ih =>
                intro r R hr h
                obtain ⟨x, rfl, hx, hc⟩ := crcVals_cons h
                rw [crcByte_eq] at hc
                exact ih _ _ (bits_lt 8 _ (xor_byte hr hx).2) hc
            exact this _ _ _ (by decide) hR
          refine ⟨_, sum_fn hE hfn (some ad) (n + 1) cap R hR' s (s.seen ad.block) (l.length + 70) ?_⟩
          intro t h3 h7 h8 h9
          obtain ⟨x, rfl, hx, hc⟩ := crcVals_cons hR
          rw [crcByte_eq] at hc
          obtain ⟨t1, a1, a3, a7, a8, a9⟩ := byteStep hE (l.length + 10) 4294967295 0 (n + 1) cap ad x (by decide) hx (by omega) (by omega) t s (hat 0 x rfl) h3 h7 h8 h9
          obtain ⟨t2, b1, b3, b4⟩ := byteLoop hE (n + 1) cap (by omega) ad (s.seen ad.block) (seen_seen s ad.block) l 0 _ 1 R t1 (by omega) (bits_lt 8 _ (xor_byte (by decide) hx).2)
            (fun k x h => (by have := hat (k + 1) x (by simpa using h); rw [Nat.add_comm 1 k]; exact this.of_seen _)) hc a3 a7 a8 a9
          refine ⟨t2, ?_, b3⟩
          rw [Nat.zero_add] at b1
          exact (ev_loop (f := l.length + 70) a1).trans b1
      · cases h
  · cases h

/-- the summaries that the laws are told by -/
noncomputable def sums : Sums := fun f => match Nat.beq f FN with
  | true => some crcA
  | false => none
theorem sums_ok : SumsOK (Env.of Tryd.prog) sums := by
  intro f am hf args s v s' h
  unfold sums at hf
  split at hf
  · rename_i hb
    have hb := beq_iff.1 hb
    subst hb
    cases hf
    refine sum_ev ⟨⟨TI.of Tryd.prog 51, by kernel_rfl, by kernel_rfl⟩, ⟨TI.of Tryd.prog 5, by kernel_rfl, by kernel_rfl, by kernel_rfl⟩, ⟨TI.of Tryd.prog 73, by kernel_rfl, by kernel_rfl⟩⟩ (by kernel_rfl) h
  · cases hf
#print axioms sums_ok
end Go.Proofs.YtgofanjbhbeniaaDoor.sum
end

section
/- Leaves: what the code that makes and reads them does, told shortly: numbers within bounds; bytes trimmed of noughts. -/
noncomputable section
namespace Go.Proofs.YtgofanjbhbeniaaDoor.lf
open AE
set_option linter.unusedSimpArgs false
set_option linter.unusedVariables false
set_option maxRecDepth 10000

noncomputable def E : Env := Env.of Tryd.prog
theorem hP : lawful Tryd.prog = true := by kernel_rfl
theorem hmix : Tryd.prog.follows .mixedOrders = true := Checked.mixed Tryd.checked
theorem hE : EnvOK Tryd.prog E := env_ok hP

noncomputable def tiB : TI := TI.of Tryd.prog 51
theorem tyB : E.ty.get 51 = some tiB := by kernel_rfl
theorem szB : tiB.size = 1 := by kernel_rfl
theorem byB : tiB.bytes = 24 := by kernel_rfl
theorem dsB : tiB.desc = .slice 5 := by kernel_rfl
theorem zeB : tiB.zero = some (.slice none 0 0) := by kernel_rfl
noncomputable def tiU8 : TI := TI.of Tryd.prog 5
theorem tyU8 : E.ty.get 5 = some tiU8 := by kernel_rfl
theorem szU8 : tiU8.size = 1 := by kernel_rfl
theorem byU8 : tiU8.bytes = 1 := by kernel_rfl
theorem dsU8 : tiU8.desc = .int .u8 := by kernel_rfl
theorem zeU8 : tiU8.zero = some (.int .u8 0) := by kernel_rfl
noncomputable def tiI : TI := TI.of Tryd.prog 3
theorem tyI : E.ty.get 3 = some tiI := by kernel_rfl
theorem szI : tiI.size = 1 := by kernel_rfl
theorem byI : tiI.bytes = 8 := by kernel_rfl
theorem dsI : tiI.desc = .int .i64 := by kernel_rfl
theorem zeI : tiI.zero = some (.int .i64 0) := by kernel_rfl
noncomputable def tiU32 : TI := TI.of Tryd.prog 73
theorem tyU32 : E.ty.get 73 = some tiU32 := by kernel_rfl
theorem szU32 : tiU32.size = 1 := by kernel_rfl
theorem byU32 : tiU32.bytes = 4 := by kernel_rfl
theorem dsU32 : tiU32.desc = .int .u32 := by kernel_rfl
theorem zeU32 : tiU32.zero = some (.int .u32 0) := by kernel_rfl
noncomputable def tiBo : TI := TI.of Tryd.prog 4
theorem tyBo : E.ty.get 4 = some tiBo := by kernel_rfl
theorem szBo : tiBo.size = 1 := by kernel_rfl
theorem byBo : tiBo.bytes = 1 := by kernel_rfl
theorem dsBo : tiBo.desc = .bool := by kernel_rfl
theorem zeBo : tiBo.zero = some (.bool false) := by kernel_rfl
noncomputable def tiL : TI := TI.of Tryd.prog 43
theorem tyL : E.ty.get 43 = some tiL := by kernel_rfl
theorem szL : tiL.size = 1 := by kernel_rfl
theorem byL : tiL.bytes = 24 := by kernel_rfl
theorem dsL : tiL.desc = .slice 3 := by kernel_rfl
theorem zeL : tiL.zero = some (.slice none 0 0) := by kernel_rfl
noncomputable def tiA : TI := TI.of Tryd.prog 28
theorem tyA : E.ty.get 28 = some tiA := by kernel_rfl
theorem szA : tiA.size = 116 := by kernel_rfl
theorem byA : tiA.bytes = 116 := by kernel_rfl
theorem dsA : tiA.desc = .array 116 5 := by kernel_rfl
noncomputable def tiSt : TI := TI.of Tryd.prog 9
theorem tySt : E.ty.get 9 = some tiSt := by kernel_rfl
theorem szSt : tiSt.size = 1 := by kernel_rfl
theorem bySt : tiSt.bytes = 16 := by kernel_rfl
theorem dsSt : tiSt.desc = .string := by kernel_rfl

theorem seen_heap (s : S) (n : Nat) : (s.seen n).heap = s.heap := rfl
theorem seen_next (s : S) (n : Nat) : (s.seen n).next = s.next := rfl
theorem seen_mark (s : S) (n : Nat) : (s.seen n).mark = s.mark := rfl
theorem agg_cells (cs : List Value) : (Value.agg ⟨cs⟩).cells.toList = cs := rfl
theorem int_cells (k : IntKind) (n : Int) : (Value.int k n).cells.toList = [.int k n] := rfl

/-! rules for numbers -/
theorem b_geq {E t} (x y : Int) : binA E .geq t (.int .i64 x) (.int .i64 y) = some (.bool (not (ltI x y))) := rfl
theorem b_leq {E t} (x y : Int) : binA E .leq t (.int .i64 x) (.int .i64 y) = some (.bool (not (ltI y x))) := rfl
theorem b_gtr {E t} (x y : Int) : binA E .gtr t (.int .i64 x) (.int .i64 y) = some (.bool (ltI y x)) := rfl
theorem b_add {E t} (x y : Int) : binA E .add t (.int .i64 x) (.int .i64 y) = some (.int .i64 (wrapA .i64 (Int.add x y))) := rfl
theorem b_sub {E t} (x y : Int) : binA E .sub t (.int .i64 x) (.int .i64 y) = some (.int .i64 (wrapA .i64 (Int.sub x y))) := rfl
theorem b_eql {E t} (x y : Int) : binA E .eql t (.int .i64 x) (.int .i64 y) = some (.bool (eqI x y)) := rfl
theorem b_eql8 {E t} (x y : Int) : binA E .eql t (.int .u8 x) (.int .u8 y) = some (.bool (eqI x y)) := rfl
theorem u_not (b : Bool) : unA .not (.bool b) = some (.bool (not b)) := rfl

/-! within -/
def withinA : List Value → AM Value
  | [.int .i64 n, .int .i64 lo, .int .i64 hi] => .pure (.bool (not (ltI n lo) && not (ltI hi n)))
  | _ => .fail
noncomputable def fiW : FI := FI.of Tryd.f39
noncomputable def cdW : Code := bodyOf Tryd.f39
theorem resW : fiW.results = [.tmp 6] := rfl
theorem told_within : AE.Told Tryd.prog 39 withinA := by
  refine told_go hE hmix tolds_nil ?_
  intro args s v s' h hm
  unfold withinA at h
  split at h
  · rename_i n lo hi
    cases h
    refine go_enter (fi := fiW) (c := cdW) (by kernel_rfl) (by kernel_rfl) 15 rfl rfl ?_
    simp only [cdW, Tryd.f39, bodyOf]
    have h0 : (Tr.ofList [Value.int .i64 n, .int .i64 lo, .int .i64 hi]).get 0 = some (.int .i64 n) := rfl
    have h1 : (Tr.ofList [Value.int .i64 n, .int .i64 lo, .int .i64 hi]).get 1 = some (.int .i64 lo) := rfl
    have h2 : (Tr.ofList [Value.int .i64 n, .int .i64 lo, .int .i64 hi]).get 2 = some (.int .i64 hi) := rfl
    generalize Tr.ofList [Value.int .i64 n, .int .i64 lo, .int .i64 hi] = t at *
    repeat apply go_seq
    apply go_region
    case h => intro m; simp (maxSteps := 2000000) (disch := decide) only [opsLoop, evOper, wantedA, nth, aop, aPick, aBin, aIndexAddr, aFieldAddr, aLoad, aStore, aExtract, aConvert, aAlloc, aBox, aIndex, callA, builtinA, Fr.evs, opt, val, when, AM.run, outV, newA, ptr, force_eq, seen_heap, seen_next, seen_mark, seen_seen, agg_cells, int_cells, Fr.ev, Fr.put, onFr, gps, gpn, bltT, still, flat, List.append_nil, List.nil_append, List.cons_append, Nat.reduceEqDiff, ne_eq, not_false_eq_true, reduceCtorEq, Bool.and_true, Bool.true_and, Bool.and_false, Bool.false_and, Bool.not_true, Bool.not_false, Bool.and_self]; rfl
    cases hlo : ltI n lo
    all_goals
      repeat apply go_seq
      apply go_region
      case h => intro m; simp (maxSteps := 2000000) (disch := decide) only [opsLoop, evOper, wantedA, nth, aop, aPick, aBin, aIndexAddr, aFieldAddr, aLoad, aStore, aExtract, aConvert, aAlloc, aBox, aIndex, callA, builtinA, Fr.evs, opt, val, when, AM.run, outV, newA, ptr, force_eq, seen_heap, seen_next, seen_mark, seen_seen, agg_cells, int_cells, Fr.ev, Fr.put, onFr, gps, gpn, bltT, still, flat, List.append_nil, List.nil_append, List.cons_append, Nat.reduceEqDiff, ne_eq, not_false_eq_true, reduceCtorEq, Bool.and_true, Bool.true_and, Bool.and_false, Bool.false_and, Bool.not_true, Bool.not_false, Bool.and_self, h0, h1, h2, b_geq, b_leq, hlo, Bool.not_false, Bool.not_true]; rfl
      repeat apply go_seq
      apply go_ret
      apply ret_intro rfl rfl
      case run => simp (disch := decide) only [resultsM, resultsA, resW, opsLoop, evOper, wantedA, nth, aop, aPick, aBin, aIndexAddr, aFieldAddr, aLoad, aStore, aExtract, aConvert, aAlloc, aBox, aIndex, callA, builtinA, Fr.evs, opt, val, when, AM.run, outV, newA, ptr, force_eq, seen_heap, seen_next, seen_mark, seen_seen, agg_cells, int_cells, Fr.ev, Fr.put, onFr, gps, gpn, bltT, still, flat, List.append_nil, List.nil_append, List.cons_append, Nat.reduceEqDiff, ne_eq, not_false_eq_true, reduceCtorEq, Bool.and_true, Bool.true_and, Bool.and_false, Bool.false_and, Bool.not_true, Bool.not_false, Bool.and_self]; rfl
      exact ⟨by simp only [Bool.not_false, Bool.not_true, Bool.true_and, Bool.false_and], Less'.refl _⟩
  · cases h

/-! bytes that lie in memory -/
structure Bs (s : S) (ad : Addr) (l : List UInt8) : Prop where
  spot : ad.spot = none
  lt : ad.block < s.next
  cell : ∃ c m, Has s ad.block c m ∧ ad.off + l.length ≤ m ∧ Row c ad.off (l.map bv)
theorem Bs.rd {s s' : S} {ad : Addr} {l : List UInt8} (h : Bs s ad l) (hr : Rd s s') : Bs s' ad l := ⟨h.spot, by rw [hr.next]; exact h.lt, by obtain ⟨c, m, h1, h2⟩ := h.cell; exact ⟨c, m, h1.of (by rw [hr.heap]), h2⟩⟩
theorem Bs.at {s : S} {ad : Addr} {l : List UInt8} (h : Bs s ad l) {k : Nat} {x : UInt8} (hk : l[k]? = some x) : sum.At s ad k x.toNat := by
  obtain ⟨c, m, h1, h2, h3⟩ := h.cell
  have hlt := (List.getElem?_eq_some_iff.1 hk).1
  exact ⟨h.spot, h.lt, c, m, h1, by omega, h3 k (bv x) (by rw [List.getElem?_map, hk]; rfl)⟩
theorem bs_of_load {β : Type} {ad : Addr} {n : Nat} {k : List UInt8 → AM β} {s : S} {r : β × S} (h : (loadA ad n fun cs => opt (bytesV cs) k).run s = some r) : ∃ l, l.length = n ∧ Bs s ad l ∧ (k l).run (s.seen ad.block) = some r := by
  obtain ⟨c, m, cs, h1, h2, h3, h4, h5, h6⟩ := load_inv h
  obtain ⟨l, hl, h7⟩ := run_opt h6
  obtain ⟨e1, e2⟩ := row_of_rd h5
  have := bytesV_inv hl
  subst this
  have hln : l.length = n := by simpa using e1
  exact ⟨l, hln, ⟨h1, h2, c, m, h3, by rw [hln]; exact h4, e2⟩, h7⟩

theorem addA_add {ad : Addr} (h : ad.spot = none) (i j : Nat) : addA (addA ad i) j = addA ad (i + j) := by
  rw [sum.addA_eq ad i h, sum.addA_eq ad (i + j) h, sum.addA_eq _ j rfl, Nat.add_assoc]
theorem addIf_one (a : Addr) (m : Nat) : addIf a m 1 1 = if m = 1 then a else addA a 1 := by
  unfold addIf
  by_cases h : m = 1
  · subst h; rfl
  · have : Nat.beq m 1 = false := by
      cases hh : Nat.beq m 1 with
      | false => rfl
      | true => exact absurd (beq_iff.1 hh) h
    rw [this, if_neg h]; first | done | rfl
theorem ble_f {a b : Nat} (h : b < a) : Nat.ble a b = false := by
  cases hh : Nat.ble a b with
  | false => rfl
  | true => exact absurd (ble_iff.1 hh) (by omega)
theorem blt_f {a b : Nat} (h : b ≤ a) : Nat.blt a b = false := by
  cases hh : Nat.blt a b with
  | false => rfl
  | true => exact absurd (blt_iff.1 hh) (by omega)
theorem eqI_f {a b : Nat} (h : a ≠ b) : eqI (Int.ofNat a) (Int.ofNat b) = false := by rw [eqI_eq]; exact decide_eq_false (fun e => h (Int.ofNat.inj e))
theorem eqI_t (a : Nat) : eqI (Int.ofNat a) (Int.ofNat a) = true := by rw [eqI_eq]; simp

/-! noughts ahead -/
def lead : List UInt8 → Nat
  | [] => 0
  | x :: l => if x = 0 then lead l + 1 else 0
theorem lead_le : ∀ l, lead l ≤ l.length
  | [] => Nat.le_refl _
  | x :: l => by unfold lead; split; · simp; exact lead_le l
                 · simp
theorem lead_eq : ∀ (l : List UInt8) (i : Nat), i ≤ l.length → (∀ j, j < i → l[j]? = some 0) → (∀ x, l[i]? = some x → x ≠ 0) → lead l = i
  | [], i, hi, _, _ => by simp at hi; subst hi; rfl
  | x :: l, 0, _, _, h => by
    have := h x rfl
    unfold lead; rw [if_neg this]
  | x :: l, i + 1, hi, h0, h => by
    have hx : x = 0 := by have := h0 0 (by omega); simpa using this
    unfold lead
    rw [if_pos hx, lead_eq l i (by simpa using hi) (fun j hj => by have := h0 (j + 1) (by omega); simpa using this) (fun y hy => h y (by simpa using hy))]
def trimLV (ad : Addr) (cap : Nat) (l : List UInt8) : Value := if lead l = l.length then .slice none 0 0 else .slice (some (addA ad (lead l))) (l.length - lead l) (cap - lead l)
def trimLA : List Value → AM Value
  | [.slice (some ad) n cap, .int .u8 (.ofNat 0)] => when (Nat.ble n cap && Nat.blt cap OPEN) (loadA ad n fun cs => opt (bytesV cs) fun l => .pure (trimLV ad cap l))
  | _ => .fail
noncomputable def fiTL : FI := FI.of Tryd.f45
noncomputable def cdTL : Code := bodyOf Tryd.f45
noncomputable def cdTLl : Code := sub [1,0,0,0] cdTL
theorem resTL : fiTL.results = [.tmp 4] := rfl
theorem int0 : (0 : Int) = Int.ofNat 0 := rfl
theorem int1 : (1 : Int) = Int.ofNat 1 := rfl

def InvTL (ad : Addr) (cap : Nat) (l : List UInt8) (s0 : S) (k : Nat) (fr : Fr) (s : S) : Prop :=
  ∃ (i : Nat) (a : Addr) (t : Tr Value), k = l.length - i ∧ i ≤ l.length ∧ fr = ⟨45, t, 21, [], none⟩ ∧ Rd s0 s ∧ t.get 0 = some (.slice (some a) (l.length - i) (cap - i)) ∧ t.get 1 = some (.int .u8 (.ofNat 0)) ∧
    (i < l.length → a = addA ad i) ∧ (∀ j, j < i → l[j]? = some 0)
theorem trimL_round (ad : Addr) (cap : Nat) (l : List UInt8) (s0 : S) (hc : cap < OPEN) (hl : l.length ≤ cap) (hb : Bs s0 ad l) (k : Nat) (fr : Fr) (s : S) (h : InvTL ad cap l s0 k fr s) :
    GoC E (sumsOf []) cdTLl fr s (Again (InvTL ad cap l s0) k fun x fr s => x = .exit 0 ∧ ∃ (t : Tr Value) (a : Addr), fr = ⟨45, t, 21, [], none⟩ ∧ Rd s0 s ∧ t.get 0 = some (.slice (some a) (l.length - lead l) (cap - lead l)) ∧ (lead l < l.length → a = addA ad (lead l))) := by
  obtain ⟨i, a, t, rfl, hi, rfl, hr, h0, h1, ha, hz⟩ := h
  simp only [cdTLl, cdTL, Tryd.f45, bodyOf, sub]
  by_cases hlt : i < l.length
  · obtain rfl := ha hlt
    obtain ⟨n, hn⟩ : ∃ n, l.length - i = n + 1 := ⟨l.length - i - 1, by omega⟩
    obtain ⟨c, hcc⟩ : ∃ c, cap - i = c + 1 := ⟨cap - i - 1, by omega⟩
    have hnc : n ≤ c := by omega
    rw [hn, hcc] at h0
    obtain ⟨x, hx⟩ : ∃ x, l[i]? = some x := ⟨_, List.getElem?_eq_getElem hlt⟩
    have hgt : ltI (Int.ofNat 0) (Int.ofNat (n + 1)) = true := by rw [ltI_eq]; simp
    have hld := sum.byte_load (Bs.at (hb.rd hr) hx) tiU8 dsU8
    have hnn : Nat.blt 0 (n + 1) = true := rfl
    have hble : Nat.ble 1 (n + 1) = true := rfl
    have hopen : Nat.ble OPEN (c + 1) = false := ble_f (by omega)
    have hble2 : Nat.ble (n + 1) (c + 1) = true := ble_iff.2 (by omega)
    have hadd : addA (addA ad i) (Nat.mul 0 1) = addA ad i := rfl
    have hs1 : Nat.sub (n + 1) 1 = n := rfl
    have hs2 : Nat.sub (c + 1) 1 = c := rfl
    by_cases hx0 : x = 0
    · subst hx0
      have hl0 : (loadT tiU8 (addA ad i) val).run s = some (.value (.int .u8 (.ofNat 0)), s.seen ad.block) := hld
      repeat apply go_seq
      apply go_region
      case h => intro m; simp (maxSteps := 2000000) (disch := decide) only [opsLoop, evOper, wantedA, nth, aop, aPick, aBin, aIndexAddr, aFieldAddr, aLoad, aStore, aExtract, aConvert, aAlloc, aBox, aIndex, callA, builtinA, Fr.evs, opt, val, when, AM.run, outV, newA, ptr, force_eq, seen_heap, seen_next, seen_mark, seen_seen, agg_cells, int_cells, Fr.ev, Fr.put, onFr, gps, gpn, bltT, still, flat, List.append_nil, List.nil_append, List.cons_append, Nat.reduceEqDiff, ne_eq, not_false_eq_true, reduceCtorEq, Bool.and_true, Bool.true_and, Bool.and_false, Bool.false_and, Bool.not_true, Bool.not_false, Bool.and_self, h0, h1, tyB, tyU8, dsB, dsU8, szU8, b_gtr, b_eql8, int0, hgt, hnn, hadd, hl0, eqI_t]; rfl
      repeat apply go_seq
      apply go_cond
      case hc => simp (disch := decide) only [opsLoop, evOper, wantedA, nth, aop, aPick, aBin, aIndexAddr, aFieldAddr, aLoad, aStore, aExtract, aConvert, aAlloc, aBox, aIndex, callA, builtinA, Fr.evs, opt, val, when, AM.run, outV, newA, ptr, force_eq, seen_heap, seen_next, seen_mark, seen_seen, agg_cells, int_cells, Fr.ev, Fr.put, onFr, gps, gpn, bltT, still, flat, List.append_nil, List.nil_append, List.cons_append, Nat.reduceEqDiff, ne_eq, not_false_eq_true, reduceCtorEq, Bool.and_true, Bool.true_and, Bool.and_false, Bool.false_and, Bool.not_true, Bool.not_false, Bool.and_self]; rfl
      case h2 => intro h; cases h
      intro _
      apply go_skip
      apply go_block
      repeat apply go_seq
      apply go_region
      case h => intro m; simp (maxSteps := 2000000) (disch := decide) only [opsLoop, evOper, wantedA, nth, aop, aPick, aBin, aIndexAddr, aFieldAddr, aLoad, aStore, aExtract, aConvert, aAlloc, aBox, aIndex, callA, builtinA, Fr.evs, opt, val, when, AM.run, outV, newA, ptr, force_eq, seen_heap, seen_next, seen_mark, seen_seen, agg_cells, int_cells, Fr.ev, Fr.put, onFr, gps, gpn, bltT, still, flat, List.append_nil, List.nil_append, List.cons_append, Nat.reduceEqDiff, ne_eq, not_false_eq_true, reduceCtorEq, Bool.and_true, Bool.true_and, Bool.and_false, Bool.false_and, Bool.not_true, Bool.not_false, Bool.and_self, h0, h1, aSlice, lowHigh, intOf?, sliceA, sliceE, tyB, tyU8, dsB, dsU8, szU8, int1, hopen, hble, hble2, hs1, hs2]; rfl
      refine ⟨l.length - (i + 1), by omega, i + 1, addIf (addA ad i) (c + 1) 1 1, _, rfl, by omega, rfl, hr.trans (Rd.seen s ad.block), ?_, ?_, ?_, ?_⟩
      · rw [show l.length - (i + 1) = n by omega, show cap - (i + 1) = c by omega]
        simp (disch := decide) only [gps, gpn, ne_eq]
      · simp (disch := decide) only [gps, gpn, h1]
      · intro h
        rw [addIf_one, if_neg (by omega), addA_add hb.spot]
      · intro j hj
        by_cases e : j = i
        · subst e; exact hx
        · exact hz j (by omega)
    · have hne : eqI (Int.ofNat x.toNat) (Int.ofNat 0) = false := eqI_f (fun h => hx0 (UInt8.toNat_inj.1 (by simpa using h)))
      repeat apply go_seq
      apply go_region
      case h => intro m; simp (maxSteps := 2000000) (disch := decide) only [opsLoop, evOper, wantedA, nth, aop, aPick, aBin, aIndexAddr, aFieldAddr, aLoad, aStore, aExtract, aConvert, aAlloc, aBox, aIndex, callA, builtinA, Fr.evs, opt, val, when, AM.run, outV, newA, ptr, force_eq, seen_heap, seen_next, seen_mark, seen_seen, agg_cells, int_cells, Fr.ev, Fr.put, onFr, gps, gpn, bltT, still, flat, List.append_nil, List.nil_append, List.cons_append, Nat.reduceEqDiff, ne_eq, not_false_eq_true, reduceCtorEq, Bool.and_true, Bool.true_and, Bool.and_false, Bool.false_and, Bool.not_true, Bool.not_false, Bool.and_self, h0, h1, tyB, tyU8, dsB, dsU8, szU8, b_gtr, b_eql8, int0, hgt, hnn, hadd, hld, hne]; rfl
      repeat apply go_seq
      apply go_cond
      case hc => simp (disch := decide) only [opsLoop, evOper, wantedA, nth, aop, aPick, aBin, aIndexAddr, aFieldAddr, aLoad, aStore, aExtract, aConvert, aAlloc, aBox, aIndex, callA, builtinA, Fr.evs, opt, val, when, AM.run, outV, newA, ptr, force_eq, seen_heap, seen_next, seen_mark, seen_seen, agg_cells, int_cells, Fr.ev, Fr.put, onFr, gps, gpn, bltT, still, flat, List.append_nil, List.nil_append, List.cons_append, Nat.reduceEqDiff, ne_eq, not_false_eq_true, reduceCtorEq, Bool.and_true, Bool.true_and, Bool.and_false, Bool.false_and, Bool.not_true, Bool.not_false, Bool.and_self]; rfl
      case h1 => intro h; cases h
      intro _
      apply go_exit
      have hlead : lead l = i := lead_eq l i hi hz (fun y hy => by rw [hx] at hy; cases hy; exact hx0)
      refine ⟨rfl, _, addA ad i, rfl, hr.trans (Rd.seen s ad.block), ?_, fun _ => by rw [hlead]⟩
      rw [hlead, hn, hcc]
      simp (disch := decide) only [gps, gpn, h0]
  · obtain rfl : i = l.length := by omega
    rw [Nat.sub_self] at h0
    have hgt : ltI (Int.ofNat 0) (Int.ofNat 0) = false := rfl
    repeat apply go_seq
    apply go_region
    case h => intro m; simp (maxSteps := 2000000) (disch := decide) only [opsLoop, evOper, wantedA, nth, aop, aPick, aBin, aIndexAddr, aFieldAddr, aLoad, aStore, aExtract, aConvert, aAlloc, aBox, aIndex, callA, builtinA, Fr.evs, opt, val, when, AM.run, outV, newA, ptr, force_eq, seen_heap, seen_next, seen_mark, seen_seen, agg_cells, int_cells, Fr.ev, Fr.put, onFr, gps, gpn, bltT, still, flat, List.append_nil, List.nil_append, List.cons_append, Nat.reduceEqDiff, ne_eq, not_false_eq_true, reduceCtorEq, Bool.and_true, Bool.true_and, Bool.and_false, Bool.false_and, Bool.not_true, Bool.not_false, Bool.and_self, h0, h1, tyB, tyU8, dsB, dsU8, szU8, b_gtr, b_eql8, int0, hgt]; rfl
    repeat apply go_seq
    apply go_cond
    case hc => simp (disch := decide) only [opsLoop, evOper, wantedA, nth, aop, aPick, aBin, aIndexAddr, aFieldAddr, aLoad, aStore, aExtract, aConvert, aAlloc, aBox, aIndex, callA, builtinA, Fr.evs, opt, val, when, AM.run, outV, newA, ptr, force_eq, seen_heap, seen_next, seen_mark, seen_seen, agg_cells, int_cells, Fr.ev, Fr.put, onFr, gps, gpn, bltT, still, flat, List.append_nil, List.nil_append, List.cons_append, Nat.reduceEqDiff, ne_eq, not_false_eq_true, reduceCtorEq, Bool.and_true, Bool.true_and, Bool.and_false, Bool.false_and, Bool.not_true, Bool.not_false, Bool.and_self]; rfl
    case h1 => intro h; cases h
    intro _
    apply go_exit
    have hlead : lead l = l.length := lead_eq l _ (Nat.le_refl _) hz (fun y hy => by rw [List.getElem?_eq_none (Nat.le_refl _)] at hy; cases hy)
    refine ⟨rfl, _, a, rfl, hr, ?_, fun h => by omega⟩
    rw [hlead, Nat.sub_self]
    simp (disch := decide) only [gps, gpn, h0]

theorem told_trimL : AE.Told Tryd.prog 45 trimLA := by
  refine told_go hE hmix tolds_nil ?_
  intro args s v s' h hm
  unfold trimLA at h
  split at h
  · rename_i ad n cap
    obtain ⟨hc, h2⟩ := run_when h
    simp only [Bool.and_eq_true] at hc
    obtain ⟨hc1, hc2⟩ := hc
    have hle := ble_iff.1 hc1
    have hop := blt_iff.1 hc2
    obtain ⟨l, rfl, hb, h3⟩ := bs_of_load h2
    cases h3
    refine go_enter (fi := fiTL) (c := cdTL) (by kernel_rfl) (by kernel_rfl) 21 rfl rfl ?_
    have hcode : cdTL = .seq (sub [0] cdTL) (.seq (.block 0 (.loop cdTLl)) (sub [1,1] cdTL)) := rfl
    rw [hcode]
    have h0 : (Tr.ofList [Value.slice (some ad) l.length cap, .int .u8 (.ofNat 0)]).get 0 = some (.slice (some ad) l.length cap) := rfl
    have h1 : (Tr.ofList [Value.slice (some ad) l.length cap, .int .u8 (.ofNat 0)]).get 1 = some (.int .u8 (.ofNat 0)) := rfl
    generalize Tr.ofList [Value.slice (some ad) l.length cap, .int .u8 (.ofNat 0)] = t at *
    apply go_seq
    simp only [cdTL, Tryd.f45, bodyOf, sub]
    repeat apply go_seq
    apply go_region
    case h => intro m; simp (maxSteps := 2000000) (disch := decide) only [opsLoop, evOper, wantedA, nth, aop, aPick, aBin, aIndexAddr, aFieldAddr, aLoad, aStore, aExtract, aConvert, aAlloc, aBox, aIndex, callA, builtinA, Fr.evs, opt, val, when, AM.run, outV, newA, ptr, force_eq, seen_heap, seen_next, seen_mark, seen_seen, agg_cells, int_cells, Fr.ev, Fr.put, onFr, gps, gpn, bltT, still, flat, List.append_nil, List.nil_append, List.cons_append, Nat.reduceEqDiff, ne_eq, not_false_eq_true, reduceCtorEq, Bool.and_true, Bool.true_and, Bool.and_false, Bool.false_and, Bool.not_true, Bool.not_false, Bool.and_self]; rfl
    apply go_seq
    apply go_block
    refine (go_loop_inv (InvTL ad cap l s) (fun k fr s1 hI => trimL_round ad cap l s hop hle hb k fr s1 hI) (l.length - 0) _ _ ⟨0, ad, _, rfl, by omega, rfl, Rd.refl s, ?_, ?_, fun _ => rfl, fun j hj => by omega⟩).mono ?_
    · simp (disch := decide) only [gps, gpn, h0, Nat.sub_zero]
    · simp (disch := decide) only [gps, gpn, h1]
    rintro x fr s1 ⟨rfl, t1, a, rfl, hr, g0, ga⟩
    simp only [Out_, if_true]
    show GoC E _ _ _ _ _
    by_cases hall : lead l = l.length
    · have e0 : t1.get 0 = some (.slice (some a) 0 (cap - lead l)) := by rw [g0, hall, Nat.sub_self]
      have hv : trimLV ad cap l = .slice none 0 0 := if_pos hall
      repeat apply go_seq
      apply go_region
      case h => intro m; simp (maxSteps := 2000000) (disch := decide) only [opsLoop, evOper, wantedA, nth, aop, aPick, aBin, aIndexAddr, aFieldAddr, aLoad, aStore, aExtract, aConvert, aAlloc, aBox, aIndex, callA, builtinA, Fr.evs, opt, val, when, AM.run, outV, newA, ptr, force_eq, seen_heap, seen_next, seen_mark, seen_seen, agg_cells, int_cells, Fr.ev, Fr.put, onFr, gps, gpn, bltT, still, flat, List.append_nil, List.nil_append, List.cons_append, Nat.reduceEqDiff, ne_eq, not_false_eq_true, reduceCtorEq, Bool.and_true, Bool.true_and, Bool.and_false, Bool.false_and, Bool.not_true, Bool.not_false, Bool.and_self, e0, tyB, dsB, b_eql, int0, eqI_t]; rfl
      repeat apply go_seq
      apply go_cond
      case hc => simp (disch := decide) only [opsLoop, evOper, wantedA, nth, aop, aPick, aBin, aIndexAddr, aFieldAddr, aLoad, aStore, aExtract, aConvert, aAlloc, aBox, aIndex, callA, builtinA, Fr.evs, opt, val, when, AM.run, outV, newA, ptr, force_eq, seen_heap, seen_next, seen_mark, seen_seen, agg_cells, int_cells, Fr.ev, Fr.put, onFr, gps, gpn, bltT, still, flat, List.append_nil, List.nil_append, List.cons_append, Nat.reduceEqDiff, ne_eq, not_false_eq_true, reduceCtorEq, Bool.and_true, Bool.true_and, Bool.and_false, Bool.false_and, Bool.not_true, Bool.not_false, Bool.and_self]; rfl
      case h2 => intro h; cases h
      intro _
      repeat apply go_seq
      apply go_region
      case h => intro m; simp (maxSteps := 2000000) (disch := decide) only [opsLoop, evOper, wantedA, nth, aop, aPick, aBin, aIndexAddr, aFieldAddr, aLoad, aStore, aExtract, aConvert, aAlloc, aBox, aIndex, callA, builtinA, Fr.evs, opt, val, when, AM.run, outV, newA, ptr, force_eq, seen_heap, seen_next, seen_mark, seen_seen, agg_cells, int_cells, Fr.ev, Fr.put, onFr, gps, gpn, bltT, still, flat, List.append_nil, List.nil_append, List.cons_append, Nat.reduceEqDiff, ne_eq, not_false_eq_true, reduceCtorEq, Bool.and_true, Bool.true_and, Bool.and_false, Bool.false_and, Bool.not_true, Bool.not_false, Bool.and_self]; rfl
      repeat apply go_seq
      apply go_ret
      apply ret_intro rfl rfl
      case run => simp (disch := decide) only [resultsM, resultsA, resTL, opsLoop, evOper, wantedA, nth, aop, aPick, aBin, aIndexAddr, aFieldAddr, aLoad, aStore, aExtract, aConvert, aAlloc, aBox, aIndex, callA, builtinA, Fr.evs, opt, val, when, AM.run, outV, newA, ptr, force_eq, seen_heap, seen_next, seen_mark, seen_seen, agg_cells, int_cells, Fr.ev, Fr.put, onFr, gps, gpn, bltT, still, flat, List.append_nil, List.nil_append, List.cons_append, Nat.reduceEqDiff, ne_eq, not_false_eq_true, reduceCtorEq, Bool.and_true, Bool.true_and, Bool.and_false, Bool.false_and, Bool.not_true, Bool.not_false, Bool.and_self]; rfl
      exact ⟨hv.symm, hr.less (Rd.seen s ad.block)⟩
    · have hlt : lead l < l.length := by have := lead_le l; omega
      obtain rfl := ga hlt
      have hne : eqI (Int.ofNat (l.length - lead l)) (Int.ofNat 0) = false := eqI_f (by omega)
      have hv : trimLV ad cap l = .slice (some (addA ad (lead l))) (l.length - lead l) (cap - lead l) := if_neg hall
      repeat apply go_seq
      apply go_region
      case h => intro m; simp (maxSteps := 2000000) (disch := decide) only [opsLoop, evOper, wantedA, nth, aop, aPick, aBin, aIndexAddr, aFieldAddr, aLoad, aStore, aExtract, aConvert, aAlloc, aBox, aIndex, callA, builtinA, Fr.evs, opt, val, when, AM.run, outV, newA, ptr, force_eq, seen_heap, seen_next, seen_mark, seen_seen, agg_cells, int_cells, Fr.ev, Fr.put, onFr, gps, gpn, bltT, still, flat, List.append_nil, List.nil_append, List.cons_append, Nat.reduceEqDiff, ne_eq, not_false_eq_true, reduceCtorEq, Bool.and_true, Bool.true_and, Bool.and_false, Bool.false_and, Bool.not_true, Bool.not_false, Bool.and_self, g0, tyB, dsB, b_eql, int0, hne]; rfl
      repeat apply go_seq
      apply go_cond
      case hc => simp (disch := decide) only [opsLoop, evOper, wantedA, nth, aop, aPick, aBin, aIndexAddr, aFieldAddr, aLoad, aStore, aExtract, aConvert, aAlloc, aBox, aIndex, callA, builtinA, Fr.evs, opt, val, when, AM.run, outV, newA, ptr, force_eq, seen_heap, seen_next, seen_mark, seen_seen, agg_cells, int_cells, Fr.ev, Fr.put, onFr, gps, gpn, bltT, still, flat, List.append_nil, List.nil_append, List.cons_append, Nat.reduceEqDiff, ne_eq, not_false_eq_true, reduceCtorEq, Bool.and_true, Bool.true_and, Bool.and_false, Bool.false_and, Bool.not_true, Bool.not_false, Bool.and_self]; rfl
      case h1 => intro h; cases h
      intro _
      apply go_skip
      repeat apply go_seq
      apply go_region
      case h => intro m; simp (maxSteps := 2000000) (disch := decide) only [opsLoop, evOper, wantedA, nth, aop, aPick, aBin, aIndexAddr, aFieldAddr, aLoad, aStore, aExtract, aConvert, aAlloc, aBox, aIndex, callA, builtinA, Fr.evs, opt, val, when, AM.run, outV, newA, ptr, force_eq, seen_heap, seen_next, seen_mark, seen_seen, agg_cells, int_cells, Fr.ev, Fr.put, onFr, gps, gpn, bltT, still, flat, List.append_nil, List.nil_append, List.cons_append, Nat.reduceEqDiff, ne_eq, not_false_eq_true, reduceCtorEq, Bool.and_true, Bool.true_and, Bool.and_false, Bool.false_and, Bool.not_true, Bool.not_false, Bool.and_self, g0]; rfl
      repeat apply go_seq
      apply go_ret
      apply ret_intro rfl rfl
      case run => simp (disch := decide) only [resultsM, resultsA, resTL, opsLoop, evOper, wantedA, nth, aop, aPick, aBin, aIndexAddr, aFieldAddr, aLoad, aStore, aExtract, aConvert, aAlloc, aBox, aIndex, callA, builtinA, Fr.evs, opt, val, when, AM.run, outV, newA, ptr, force_eq, seen_heap, seen_next, seen_mark, seen_seen, agg_cells, int_cells, Fr.ev, Fr.put, onFr, gps, gpn, bltT, still, flat, List.append_nil, List.nil_append, List.cons_append, Nat.reduceEqDiff, ne_eq, not_false_eq_true, reduceCtorEq, Bool.and_true, Bool.true_and, Bool.and_false, Bool.false_and, Bool.not_true, Bool.not_false, Bool.and_self]; rfl
      exact ⟨hv.symm, hr.less (Rd.seen s ad.block)⟩
  · cases h

/-! noughts behind -/
def rl : List UInt8 → Nat
  | [] => 0
  | x :: l => if rl l = 0 ∧ x = 0 then 0 else rl l + 1
theorem rl_zero : ∀ l : List UInt8, (∀ (j : Nat) (x : UInt8), l[j]? = some x → x = 0) → rl l = 0
  | [], _ => rfl
  | x :: l, h => by
    unfold rl
    rw [if_pos ⟨rl_zero l (fun j y hy => h (j + 1) y (by simpa using hy)), h 0 x rfl⟩]
theorem rl_eq : ∀ (l : List UInt8) (n : Nat), (∀ (j : Nat) (x : UInt8), n ≤ j → l[j]? = some x → x = 0) → (n = 0 ∨ ∃ x, l[n - 1]? = some x ∧ x ≠ 0) → rl l = n
  | l, 0, h0, _ => rl_zero l (fun j x hx => h0 j x (Nat.zero_le _) hx)
  | [], n + 1, _, h => by rcases h with h | ⟨x, hx, _⟩; · omega
                          · simp at hx
  | x :: l, n + 1, h0, h => by
    rcases h with h | ⟨y, hy, hne⟩
    · omega
    cases n with
    | zero =>
      have hl : rl l = 0 := rl_zero l (fun j z hz => h0 (j + 1) z (by omega) (by simpa using hz))
      have hx : x = y := by simpa using hy
      subst hx
      unfold rl
      rw [hl, if_neg (fun e => hne e.2)]
    | succ n =>
      have hl : rl l = n + 1 := rl_eq l (n + 1) (fun j z hj hz => h0 (j + 1) z (by omega) (by simpa using hz)) (.inr ⟨y, by simpa using hy, hne⟩)
      unfold rl
      rw [hl, if_neg (fun e => by omega)]
theorem rl_le : ∀ l : List UInt8, rl l ≤ l.length
  | [] => Nat.le_refl _
  | x :: l => by unfold rl; have := rl_le l; split <;> simp <;> omega

def trimRA : List Value → AM Value
  | [.slice none 0 0, .int .u8 (.ofNat 0)] => .pure (.slice none 0 0)
  | [.slice (some ad) n cap, .int .u8 (.ofNat 0)] => when (Nat.ble n cap && Nat.blt cap OPEN && Nat.ble 1 cap) (loadA ad n fun cs => opt (bytesV cs) fun l => .pure (.slice (some ad) (rl l) cap))
  | _ => .fail
noncomputable def fiTR : FI := FI.of Tryd.f46
noncomputable def cdTR : Code := bodyOf Tryd.f46
noncomputable def cdTRl : Code := sub [1,0,0,0] cdTR
theorem resTR : fiTR.results = [.tmp 4] := rfl
def InvTR (ad : Addr) (cap : Nat) (l : List UInt8) (s0 : S) (k : Nat) (fr : Fr) (s : S) : Prop :=
  ∃ (n : Nat) (t : Tr Value), k = n ∧ n ≤ l.length ∧ fr = ⟨46, t, 24, [], none⟩ ∧ Rd s0 s ∧ t.get 0 = some (.slice (some ad) n cap) ∧ t.get 1 = some (.int .u8 (.ofNat 0)) ∧ (∀ (j : Nat) (x : UInt8), n ≤ j → l[j]? = some x → x = 0)
theorem b_dec {n : Nat} (h : n < OPEN) : ∀ E t, binA E .sub t (.int .i64 (.ofNat (n + 1))) (.int .i64 (.ofNat 1)) = some (.int .i64 (.ofNat n)) := by
  intro E t
  show some (Value.int .i64 (wrapA .i64 (Int.sub (.ofNat (n + 1)) (.ofNat 1)))) = _
  have : Int.sub (.ofNat (n + 1)) (.ofNat 1) = Int.ofNat n := by show ((n + 1 : Nat) : Int) - (1 : Nat) = n; omega
  rw [this, wrap64 (by unfold OPEN at h; omega)]
theorem trimR_round (ad : Addr) (cap : Nat) (l : List UInt8) (s0 : S) (hc : cap < OPEN) (hc1 : 1 ≤ cap) (hl : l.length ≤ cap) (hb : Bs s0 ad l) (k : Nat) (fr : Fr) (s : S) (h : InvTR ad cap l s0 k fr s) :
    GoC E (sumsOf []) cdTRl fr s (Again (InvTR ad cap l s0) k fun x fr s => x = .exit 0 ∧ ∃ (t : Tr Value), fr = ⟨46, t, 24, [], none⟩ ∧ Rd s0 s ∧ t.get 0 = some (.slice (some ad) (rl l) cap)) := by
  obtain ⟨n, t, hk, hi, rfl, hr, h0, h1, hz⟩ := h
  obtain rfl : n = k := hk.symm
  simp only [cdTRl, cdTR, Tryd.f46, bodyOf, sub]
  cases n with
  | zero =>
    have hgt : ltI (Int.ofNat 0) (Int.ofNat 0) = false := rfl
    repeat apply go_seq
    apply go_region
    case h => intro m; simp (maxSteps := 2000000) (disch := decide) only [opsLoop, evOper, wantedA, nth, aop, aPick, aBin, aIndexAddr, aFieldAddr, aLoad, aStore, aExtract, aConvert, aAlloc, aBox, aIndex, callA, builtinA, Fr.evs, opt, val, when, AM.run, outV, newA, ptr, force_eq, seen_heap, seen_next, seen_mark, seen_seen, agg_cells, int_cells, Fr.ev, Fr.put, onFr, gps, gpn, bltT, still, flat, List.append_nil, List.nil_append, List.cons_append, Nat.reduceEqDiff, ne_eq, not_false_eq_true, reduceCtorEq, Bool.and_true, Bool.true_and, Bool.and_false, Bool.false_and, Bool.not_true, Bool.not_false, Bool.and_self, h0, h1, tyB, tyU8, dsB, dsU8, szU8, b_gtr, b_eql8, int0, hgt]; rfl
    repeat apply go_seq
    apply go_cond
    case hc => simp (disch := decide) only [opsLoop, evOper, wantedA, nth, aop, aPick, aBin, aIndexAddr, aFieldAddr, aLoad, aStore, aExtract, aConvert, aAlloc, aBox, aIndex, callA, builtinA, Fr.evs, opt, val, when, AM.run, outV, newA, ptr, force_eq, seen_heap, seen_next, seen_mark, seen_seen, agg_cells, int_cells, Fr.ev, Fr.put, onFr, gps, gpn, bltT, still, flat, List.append_nil, List.nil_append, List.cons_append, Nat.reduceEqDiff, ne_eq, not_false_eq_true, reduceCtorEq, Bool.and_true, Bool.true_and, Bool.and_false, Bool.false_and, Bool.not_true, Bool.not_false, Bool.and_self]; rfl
    case h1 => intro h; cases h
    intro _
    apply go_exit
    refine ⟨rfl, _, rfl, hr, ?_⟩
    rw [rl_eq l 0 hz (.inl rfl)]
    simp (disch := decide) only [gps, gpn, h0]
  | succ n =>
    obtain ⟨x, hx⟩ : ∃ x, l[n]? = some x := ⟨_, List.getElem?_eq_getElem (by omega)⟩
    have hgt : ltI (Int.ofNat 0) (Int.ofNat (n + 1)) = true := by rw [ltI_eq]; simp
    have hld := sum.byte_load (Bs.at (hb.rd hr) hx) tiU8 dsU8
    have hdec := b_dec (n := n) (by omega)
    have hnn : Nat.blt n (n + 1) = true := blt_iff.2 (by omega)
    have hadd : addA ad (Nat.mul n 1) = addA ad n := by rw [show Nat.mul n 1 = n from Nat.mul_one n]
    have hopen : Nat.ble OPEN cap = false := ble_f (by omega)
    have hb0 : Nat.ble 0 n = true := rfl
    have hb1 : Nat.ble n cap = true := ble_iff.2 (by omega)
    have hif : addIf ad cap 0 1 = ad := by
      unfold addIf
      have : Nat.beq cap 0 = false := by
        cases hh : Nat.beq cap 0 with
        | false => rfl
        | true => have := beq_iff.1 hh; omega
      rw [this]; rfl
    have hs0 : Nat.sub n 0 = n := rfl
    have hs1 : Nat.sub cap 0 = cap := rfl
    by_cases hx0 : x = 0
    · subst hx0
      have hl0 : (loadT tiU8 (addA ad n) val).run s = some (.value (.int .u8 (.ofNat 0)), s.seen ad.block) := hld
      repeat apply go_seq
      apply go_region
      case h => intro m; simp (maxSteps := 2000000) (disch := decide) only [opsLoop, evOper, wantedA, nth, aop, aPick, aBin, aIndexAddr, aFieldAddr, aLoad, aStore, aExtract, aConvert, aAlloc, aBox, aIndex, callA, builtinA, Fr.evs, opt, val, when, AM.run, outV, newA, ptr, force_eq, seen_heap, seen_next, seen_mark, seen_seen, agg_cells, int_cells, Fr.ev, Fr.put, onFr, gps, gpn, bltT, still, flat, List.append_nil, List.nil_append, List.cons_append, Nat.reduceEqDiff, ne_eq, not_false_eq_true, reduceCtorEq, Bool.and_true, Bool.true_and, Bool.and_false, Bool.false_and, Bool.not_true, Bool.not_false, Bool.and_self, h0, h1, tyB, tyU8, dsB, dsU8, szU8, b_gtr, b_eql8, int0, int1, hgt, hdec, hnn, hadd, hl0, eqI_t]; rfl
      repeat apply go_seq
      apply go_cond
      case hc => simp (disch := decide) only [opsLoop, evOper, wantedA, nth, aop, aPick, aBin, aIndexAddr, aFieldAddr, aLoad, aStore, aExtract, aConvert, aAlloc, aBox, aIndex, callA, builtinA, Fr.evs, opt, val, when, AM.run, outV, newA, ptr, force_eq, seen_heap, seen_next, seen_mark, seen_seen, agg_cells, int_cells, Fr.ev, Fr.put, onFr, gps, gpn, bltT, still, flat, List.append_nil, List.nil_append, List.cons_append, Nat.reduceEqDiff, ne_eq, not_false_eq_true, reduceCtorEq, Bool.and_true, Bool.true_and, Bool.and_false, Bool.false_and, Bool.not_true, Bool.not_false, Bool.and_self]; rfl
      case h2 => intro h; cases h
      intro _
      apply go_skip
      apply go_block
      repeat apply go_seq
      apply go_region
      case h => intro m; simp (maxSteps := 2000000) (disch := decide) only [opsLoop, evOper, wantedA, nth, aop, aPick, aBin, aIndexAddr, aFieldAddr, aLoad, aStore, aExtract, aConvert, aAlloc, aBox, aIndex, callA, builtinA, Fr.evs, opt, val, when, AM.run, outV, newA, ptr, force_eq, seen_heap, seen_next, seen_mark, seen_seen, agg_cells, int_cells, Fr.ev, Fr.put, onFr, gps, gpn, bltT, still, flat, List.append_nil, List.nil_append, List.cons_append, Nat.reduceEqDiff, ne_eq, not_false_eq_true, reduceCtorEq, Bool.and_true, Bool.true_and, Bool.and_false, Bool.false_and, Bool.not_true, Bool.not_false, Bool.and_self, h0, h1, aSlice, lowHigh, intOf?, sliceA, sliceE, tyB, tyU8, dsB, dsU8, szU8, int1, hdec, hopen, hb0, hb1, hif, hs0, hs1]; rfl
      refine ⟨n, by omega, n, _, rfl, by omega, rfl, hr.trans (Rd.seen s ad.block), ?_, ?_, ?_⟩
      · simp (disch := decide) only [gps, gpn, ne_eq]
      · simp (disch := decide) only [gps, gpn, h1]
      · intro j y hj hy
        by_cases e : j = n
        · subst e; rw [hx] at hy; cases hy; rfl
        · exact hz j y (by omega) hy
    · have hne : eqI (Int.ofNat x.toNat) (Int.ofNat 0) = false := eqI_f (fun h => hx0 (UInt8.toNat_inj.1 (by simpa using h)))
      repeat apply go_seq
      apply go_region
      case h => intro m; simp (maxSteps := 2000000) (disch := decide) only [opsLoop, evOper, wantedA, nth, aop, aPick, aBin, aIndexAddr, aFieldAddr, aLoad, aStore, aExtract, aConvert, aAlloc, aBox, aIndex, callA, builtinA, Fr.evs, opt, val, when, AM.run, outV, newA, ptr, force_eq, seen_heap, seen_next, seen_mark, seen_seen, agg_cells, int_cells, Fr.ev, Fr.put, onFr, gps, gpn, bltT, still, flat, List.append_nil, List.nil_append, List.cons_append, Nat.reduceEqDiff, ne_eq, not_false_eq_true, reduceCtorEq, Bool.and_true, Bool.true_and, Bool.and_false, Bool.false_and, Bool.not_true, Bool.not_false, Bool.and_self, h0, h1, tyB, tyU8, dsB, dsU8, szU8, b_gtr, b_eql8, int0, int1, hgt, hdec, hnn, hadd, hld, hne]; rfl
      repeat apply go_seq
      apply go_cond
      case hc => simp (disch := decide) only [opsLoop, evOper, wantedA, nth, aop, aPick, aBin, aIndexAddr, aFieldAddr, aLoad, aStore, aExtract, aConvert, aAlloc, aBox, aIndex, callA, builtinA, Fr.evs, opt, val, when, AM.run, outV, newA, ptr, force_eq, seen_heap, seen_next, seen_mark, seen_seen, agg_cells, int_cells, Fr.ev, Fr.put, onFr, gps, gpn, bltT, still, flat, List.append_nil, List.nil_append, List.cons_append, Nat.reduceEqDiff, ne_eq, not_false_eq_true, reduceCtorEq, Bool.and_true, Bool.true_and, Bool.and_false, Bool.false_and, Bool.not_true, Bool.not_false, Bool.and_self]; rfl
      case h1 => intro h; cases h
      intro _
      apply go_exit
      refine ⟨rfl, _, rfl, hr.trans (Rd.seen s ad.block), ?_⟩
      rw [rl_eq l (n + 1) hz (.inr ⟨x, by simpa using hx, hx0⟩)]
      simp (disch := decide) only [gps, gpn, h0]
theorem told_trimR : AE.Told Tryd.prog 46 trimRA := by
  refine told_go hE hmix tolds_nil ?_
  intro args s v s' h hm
  have hcode : cdTR = .seq (sub [0] cdTR) (.seq (.block 0 (.loop cdTRl)) (sub [1,1] cdTR)) := rfl
  unfold trimRA at h
  split at h
  · cases h
    refine go_enter (fi := fiTR) (c := cdTR) (by kernel_rfl) (by kernel_rfl) 24 rfl rfl ?_
    have h0 : (Tr.ofList [Value.slice none 0 0, .int .u8 (.ofNat 0)]).get 0 = some (.slice none 0 0) := rfl
    generalize Tr.ofList [Value.slice none 0 0, .int .u8 (.ofNat 0)] = t at *
    rw [hcode]
    have hgt : ltI (Int.ofNat 0) (Int.ofNat 0) = false := rfl
    simp only [cdTRl, cdTR, Tryd.f46, bodyOf, sub]
    repeat apply go_seq
    apply go_region
    case h => intro m; simp (maxSteps := 2000000) (disch := decide) only [opsLoop, evOper, wantedA, nth, aop, aPick, aBin, aIndexAddr, aFieldAddr, aLoad, aStore, aExtract, aConvert, aAlloc, aBox, aIndex, callA, builtinA, Fr.evs, opt, val, when, AM.run, outV, newA, ptr, force_eq, seen_heap, seen_next, seen_mark, seen_seen, agg_cells, int_cells, Fr.ev, Fr.put, onFr, gps, gpn, bltT, still, flat, List.append_nil, List.nil_append, List.cons_append, Nat.reduceEqDiff, ne_eq, not_false_eq_true, reduceCtorEq, Bool.and_true, Bool.true_and, Bool.and_false, Bool.false_and, Bool.not_true, Bool.not_false, Bool.and_self]; rfl
    apply go_seq
    apply go_block
    apply go_loop
    repeat apply go_seq
    apply go_region
    case h => intro m; simp (maxSteps := 2000000) (disch := decide) only [opsLoop, evOper, wantedA, nth, aop, aPick, aBin, aIndexAddr, aFieldAddr, aLoad, aStore, aExtract, aConvert, aAlloc, aBox, aIndex, callA, builtinA, Fr.evs, opt, val, when, AM.run, outV, newA, ptr, force_eq, seen_heap, seen_next, seen_mark, seen_seen, agg_cells, int_cells, Fr.ev, Fr.put, onFr, gps, gpn, bltT, still, flat, List.append_nil, List.nil_append, List.cons_append, Nat.reduceEqDiff, ne_eq, not_false_eq_true, reduceCtorEq, Bool.and_true, Bool.true_and, Bool.and_false, Bool.false_and, Bool.not_true, Bool.not_false, Bool.and_self, h0, tyB, tyU8, dsB, dsU8, szU8, b_gtr, b_eql8, int0, hgt]; rfl
    repeat apply go_seq
    apply go_cond
    case hc => simp (disch := decide) only [opsLoop, evOper, wantedA, nth, aop, aPick, aBin, aIndexAddr, aFieldAddr, aLoad, aStore, aExtract, aConvert, aAlloc, aBox, aIndex, callA, builtinA, Fr.evs, opt, val, when, AM.run, outV, newA, ptr, force_eq, seen_heap, seen_next, seen_mark, seen_seen, agg_cells, int_cells, Fr.ev, Fr.put, onFr, gps, gpn, bltT, still, flat, List.append_nil, List.nil_append, List.cons_append, Nat.reduceEqDiff, ne_eq, not_false_eq_true, reduceCtorEq, Bool.and_true, Bool.true_and, Bool.and_false, Bool.false_and, Bool.not_true, Bool.not_false, Bool.and_self]; rfl
    case h1 => intro h; cases h
    intro _
    apply go_exit
    repeat apply go_seq
    apply go_region
    case h => intro m; simp (maxSteps := 2000000) (disch := decide) only [opsLoop, evOper, wantedA, nth, aop, aPick, aBin, aIndexAddr, aFieldAddr, aLoad, aStore, aExtract, aConvert, aAlloc, aBox, aIndex, callA, builtinA, Fr.evs, opt, val, when, AM.run, outV, newA, ptr, force_eq, seen_heap, seen_next, seen_mark, seen_seen, agg_cells, int_cells, Fr.ev, Fr.put, onFr, gps, gpn, bltT, still, flat, List.append_nil, List.nil_append, List.cons_append, Nat.reduceEqDiff, ne_eq, not_false_eq_true, reduceCtorEq, Bool.and_true, Bool.true_and, Bool.and_false, Bool.false_and, Bool.not_true, Bool.not_false, Bool.and_self, h0]; rfl
    repeat apply go_seq
    apply go_ret
    apply ret_intro rfl rfl
    case run => simp (disch := decide) only [resultsM, resultsA, resTR, opsLoop, evOper, wantedA, nth, aop, aPick, aBin, aIndexAddr, aFieldAddr, aLoad, aStore, aExtract, aConvert, aAlloc, aBox, aIndex, callA, builtinA, Fr.evs, opt, val, when, AM.run, outV, newA, ptr, force_eq, seen_heap, seen_next, seen_mark, seen_seen, agg_cells, int_cells, Fr.ev, Fr.put, onFr, gps, gpn, bltT, still, flat, List.append_nil, List.nil_append, List.cons_append, Nat.reduceEqDiff, ne_eq, not_false_eq_true, reduceCtorEq, Bool.and_true, Bool.true_and, Bool.and_false, Bool.false_and, Bool.not_true, Bool.not_false, Bool.and_self]; rfl
    exact ⟨rfl, Less'.refl _⟩
  · rename_i ad n cap
    obtain ⟨hc, h2⟩ := run_when h
    simp only [Bool.and_eq_true] at hc
    obtain ⟨⟨hc1, hc2⟩, hc3⟩ := hc
    have e1 := ble_iff.1 hc1
    have e2 := blt_iff.1 hc2
    have e3 := ble_iff.1 hc3
    obtain ⟨l, rfl, hb, h3⟩ := bs_of_load h2
    cases h3
    refine go_enter (fi := fiTR) (c := cdTR) (by kernel_rfl) (by kernel_rfl) 24 rfl rfl ?_
    have h0 : (Tr.ofList [Value.slice (some ad) l.length cap, .int .u8 (.ofNat 0)]).get 0 = some (.slice (some ad) l.length cap) := rfl
    have h1 : (Tr.ofList [Value.slice (some ad) l.length cap, .int .u8 (.ofNat 0)]).get 1 = some (.int .u8 (.ofNat 0)) := rfl
    generalize Tr.ofList [Value.slice (some ad) l.length cap, .int .u8 (.ofNat 0)] = t at *
    rw [hcode]
    apply go_seq
    simp only [cdTR, Tryd.f46, bodyOf, sub]
    repeat apply go_seq
    apply go_region
    case h => intro m; simp (maxSteps := 2000000) (disch := decide) only [opsLoop, evOper, wantedA, nth, aop, aPick, aBin, aIndexAddr, aFieldAddr, aLoad, aStore, aExtract, aConvert, aAlloc, aBox, aIndex, callA, builtinA, Fr.evs, opt, val, when, AM.run, outV, newA, ptr, force_eq, seen_heap, seen_next, seen_mark, seen_seen, agg_cells, int_cells, Fr.ev, Fr.put, onFr, gps, gpn, bltT, still, flat, List.append_nil, List.nil_append, List.cons_append, Nat.reduceEqDiff, ne_eq, not_false_eq_true, reduceCtorEq, Bool.and_true, Bool.true_and, Bool.and_false, Bool.false_and, Bool.not_true, Bool.not_false, Bool.and_self]; rfl
    apply go_seq
    apply go_block
    refine (go_loop_inv (InvTR ad cap l s) (fun k fr s1 hI => trimR_round ad cap l s e2 e3 e1 hb k fr s1 hI) l.length _ _ ⟨l.length, _, rfl, by omega, rfl, Rd.refl s, ?_, ?_, fun j x hj hx => by rw [List.getElem?_eq_none hj] at hx; cases hx⟩).mono ?_
    · simp (disch := decide) only [gps, gpn, h0]
    · simp (disch := decide) only [gps, gpn, h1]
    rintro x fr s1 ⟨rfl, t1, rfl, hr, g0⟩
    simp only [Out_, if_true]
    show GoC E _ _ _ _ _
    repeat apply go_seq
    apply go_region
    case h => intro m; simp (maxSteps := 2000000) (disch := decide) only [opsLoop, evOper, wantedA, nth, aop, aPick, aBin, aIndexAddr, aFieldAddr, aLoad, aStore, aExtract, aConvert, aAlloc, aBox, aIndex, callA, builtinA, Fr.evs, opt, val, when, AM.run, outV, newA, ptr, force_eq, seen_heap, seen_next, seen_mark, seen_seen, agg_cells, int_cells, Fr.ev, Fr.put, onFr, gps, gpn, bltT, still, flat, List.append_nil, List.nil_append, List.cons_append, Nat.reduceEqDiff, ne_eq, not_false_eq_true, reduceCtorEq, Bool.and_true, Bool.true_and, Bool.and_false, Bool.false_and, Bool.not_true, Bool.not_false, Bool.and_self, g0]; rfl
    repeat apply go_seq
    apply go_ret
    apply ret_intro rfl rfl
    case run => simp (disch := decide) only [resultsM, resultsA, resTR, opsLoop, evOper, wantedA, nth, aop, aPick, aBin, aIndexAddr, aFieldAddr, aLoad, aStore, aExtract, aConvert, aAlloc, aBox, aIndex, callA, builtinA, Fr.evs, opt, val, when, AM.run, outV, newA, ptr, force_eq, seen_heap, seen_next, seen_mark, seen_seen, agg_cells, int_cells, Fr.ev, Fr.put, onFr, gps, gpn, bltT, still, flat, List.append_nil, List.nil_append, List.cons_append, Nat.reduceEqDiff, ne_eq, not_false_eq_true, reduceCtorEq, Bool.and_true, Bool.true_and, Bool.and_false, Bool.false_and, Bool.not_true, Bool.not_false, Bool.and_self]; rfl
    exact ⟨rfl, hr.less (Rd.seen s ad.block)⟩
  · cases h
end Go.Proofs.YtgofanjbhbeniaaDoor.lf
end
end

section
/- Leaves: what the code that makes and reads them does, told shortly: a cut set of one byte; whether a leaf may be. -/
noncomputable section
namespace Go.Proofs.YtgofanjbhbeniaaDoor.lf
open AE
set_option linter.unusedSimpArgs false
set_option linter.unusedVariables false
set_option maxRecDepth 10000

/-! drawn orders of reads -/
theorem clash_reads (rd b i r : Nat) (seen : List (Nat × Nat × Nat)) : clash rd 0 b (keepLog i r 0 seen) = clash rd 0 b seen := by
  unfold keepLog
  split
  · rfl
  · show (match Nat.beq (Nat.lor (Nat.land 0 (Nat.lor rd 0)) (Nat.land r 0)) 0 with | true => clash rd 0 b seen | false => _) = _
    have h1 : Nat.land 0 (Nat.lor rd 0) = 0 := Nat.zero_and _
    have h2 : Nat.land r 0 = 0 := Nat.and_zero _
    rw [h1, h2]
theorem created_self (n : Nat) : created n n = 0 := by
  unfold created
  rw [beq_iff.2 rfl]
theorem clash_nil (rd wr b : Nat) : clash rd wr b [] = false := rfl
theorem keep_none (i : Nat) (seen : List (Nat × Nat × Nat)) : keepLog i 0 0 seen = seen := rfl
theorem lor_zero (n : Nat) : Nat.lor 0 n = n := Nat.zero_or _
theorem lor_zero' (n : Nat) : Nat.lor n 0 = n := Nat.or_zero _

def Z : ByteArray := ⟨⟨[0]⟩⟩
theorem zsize : Z.size = 1 := rfl
theorem zbyte : byteAt Z.data.toList 0 = some (.int .u8 (.ofNat 0)) := rfl

def trimV (ad : Addr) (cap : Nat) (l : List UInt8) : Value := trimLV ad cap (l.take (rl l))
def trimA : List Value → AM Value
  | [.slice a n cap, .string ⟨⟨[x]⟩⟩] => when (Nat.beq x.toNat 0) (match n with
    | 0 => .pure (.slice none 0 0)
    | n + 1 => match a with
      | none => .fail
      | some ad => when (Nat.ble (n + 1) cap && Nat.blt cap OPEN) (loadA ad (n + 1) fun cs => opt (bytesV cs) fun l => .pure (trimV ad cap l)))
  | _ => .fail
abbrev sigT : List (Nat × (List Value → AM Value)) := [(45, trimLA), (46, trimRA)]
theorem tolds_T : Tolds Tryd.prog (sumsOf sigT) := tolds_cons told_trimL (tolds_cons told_trimR tolds_nil)
theorem tgt {f : FuncId} {fi : FI} {c : Code} (hf : E.fn.get f = some fi) (hb : fi.body = some c) : ∀ a b, targetA E (.func f) a b = .pure (.enter f (b ++ a)) := by
  intro a b
  simp only [targetA, hf, opt, hb]
theorem tgTL : ∀ a b, targetA E (.func 45) a b = .pure (.enter 45 (b ++ a)) := tgt (fi := fiTL) (c := cdTL) (by kernel_rfl) (by kernel_rfl)
theorem tgTR : ∀ a b, targetA E (.func 46) a b = .pure (.enter 46 (b ++ a)) := tgt (fi := fiTR) (c := cdTR) (by kernel_rfl) (by kernel_rfl)
theorem sgTL : sumsOf sigT 45 = some trimLA := rfl
theorem sgTR : sumsOf sigT 46 = some trimRA := rfl

theorem Bs.load {s : S} {ad : Addr} {l : List UInt8} (h : Bs s ad l) {β : Type} (k : List UInt8 → AM β) : (loadA ad l.length fun cs => opt (bytesV cs) k).run s = (k l).run (s.seen ad.block) := by
  obtain ⟨c, m, h1, h2, h3⟩ := h.cell
  have h4 := rd_row h3
  rw [List.length_map] at h4
  unfold loadA
  rw [h.spot]
  rcases h1 with ⟨e, rm, h1⟩ | ⟨e, h1⟩
  all_goals
    simp only [AM.run, blt_iff.2 h.lt, h1, when, ble_iff.2 h2, show Nat.ble (Nat.add ad.off l.length) m = true from ble_iff.2 h2, opt, h4, bytesV_map]
    rfl
theorem Bs.take {s : S} {ad : Addr} {l : List UInt8} (h : Bs s ad l) (n : Nat) : Bs s ad (l.take n) := by
  obtain ⟨c, m, h1, h2, h3⟩ := h.cell
  refine ⟨h.spot, h.lt, c, m, h1, by rw [List.length_take]; omega, ?_⟩
  have := h3.sub 0 n
  simpa using this
theorem Bs.of {s s' : S} {ad : Addr} {l : List UInt8} (h : Bs s ad l) (hh : s'.heap = s.heap) (hn : s'.next = s.next) : Bs s' ad l := ⟨h.spot, by rw [hn]; exact h.lt, by obtain ⟨c, m, h1, h2⟩ := h.cell; exact ⟨c, m, h1.of (by rw [hh]), h2⟩⟩
theorem trimRA_run {s : S} {ad : Addr} {l : List UInt8} {cap : Nat} (h : Bs s ad l) (h1 : l.length ≤ cap) (h2 : cap < OPEN) (h3 : 1 ≤ cap) :
    (trimRA [.slice (some ad) l.length cap, .int .u8 (.ofNat 0)]).run s = some (.slice (some ad) (rl l) cap, s.seen ad.block) := by
  simp only [trimRA, when, ble_iff.2 h1, blt_iff.2 h2, ble_iff.2 h3, Bool.and_self, Bs.load h, AM.run]
theorem trimLA_run {s : S} {ad : Addr} {l : List UInt8} {cap : Nat} (h : Bs s ad l) (h1 : l.length ≤ cap) (h2 : cap < OPEN) :
    (trimLA [.slice (some ad) l.length cap, .int .u8 (.ofNat 0)]).run s = some (trimLV ad cap l, s.seen ad.block) := by
  simp only [trimLA, when, ble_iff.2 h1, blt_iff.2 h2, Bool.and_self, Bs.load h, AM.run]

noncomputable def fiT : FI := FI.of Tryd.f40
noncomputable def cdT : Code := bodyOf Tryd.f40
theorem resT : fiT.results = [.tmp 4] := rfl
theorem told_trim : AE.Told Tryd.prog 40 trimA := by
  refine told_go hE hmix tolds_T ?_
  intro args s v s' h hm
  unfold trimA at h
  split at h
  · rename_i a n cap x
    obtain ⟨hx, h2⟩ := run_when h
    obtain rfl : x = 0 := UInt8.toNat_inj.1 (by simpa using beq_iff.1 hx)
    clear h
    refine go_enter (fi := fiT) (c := cdT) (by kernel_rfl) (by kernel_rfl) 42 rfl rfl ?_
    have h0 : (Tr.ofList [Value.slice a n cap, .string ⟨⟨[0]⟩⟩]).get 0 = some (.slice a n cap) := rfl
    have h1 : (Tr.ofList [Value.slice a n cap, .string ⟨⟨[0]⟩⟩]).get 1 = some (.string Z) := rfl
    generalize Tr.ofList [Value.slice a n cap, .string ⟨⟨[0]⟩⟩] = t at *
    simp only [cdT, Tryd.f40, bodyOf]
    cases n with
    | zero =>
      have h3 : (AM.pure (Value.slice none 0 0)).run s = some (v, s') := h2
      cases h3
      have h0' : t.get 0 = some (.slice a 0 cap) := h0
      repeat apply go_seq
      apply go_region
      case h => intro m; simp (maxSteps := 2000000) (disch := decide) only [opsLoop, evOper, wantedA, nth, aop, aPick, aBin, aIndexAddr, aFieldAddr, aLoad, aStore, aExtract, aConvert, aAlloc, aBox, aIndex, callA, builtinA, Fr.evs, opt, val, when, AM.run, outV, newA, ptr, force_eq, seen_heap, seen_next, seen_mark, seen_seen, agg_cells, int_cells, Fr.ev, Fr.put, onFr, gps, gpn, bltT, still, flat, List.append_nil, List.nil_append, List.cons_append, Nat.reduceEqDiff, ne_eq, not_false_eq_true, reduceCtorEq, Bool.and_true, Bool.true_and, Bool.and_false, Bool.false_and, Bool.not_true, Bool.not_false, Bool.and_self]; rfl
      repeat apply go_seq
      apply go_region
      case h => intro m; simp (maxSteps := 2000000) (disch := decide) only [opsLoop, evOper, wantedA, nth, aop, aPick, aBin, aIndexAddr, aFieldAddr, aLoad, aStore, aExtract, aConvert, aAlloc, aBox, aIndex, callA, builtinA, Fr.evs, opt, val, when, AM.run, outV, newA, ptr, force_eq, seen_heap, seen_next, seen_mark, seen_seen, agg_cells, int_cells, Fr.ev, Fr.put, onFr, gps, gpn, bltT, still, flat, List.append_nil, List.nil_append, List.cons_append, Nat.reduceEqDiff, ne_eq, not_false_eq_true, reduceCtorEq, Bool.and_true, Bool.true_and, Bool.and_false, Bool.false_and, Bool.not_true, Bool.not_false, Bool.and_self, h0', tyB, dsB, b_eql, int0, eqI_t]; rfl
      repeat apply go_seq
      apply go_cond
      case hc => simp (disch := decide) only [opsLoop, evOper, wantedA, nth, aop, aPick, aBin, aIndexAddr, aFieldAddr, aLoad, aStore, aExtract, aConvert, aAlloc, aBox, aIndex, callA, builtinA, Fr.evs, opt, val, when, AM.run, outV, newA, ptr, force_eq, seen_heap, seen_next, seen_mark, seen_seen, agg_cells, int_cells, Fr.ev, Fr.put, onFr, gps, gpn, bltT, still, flat, List.append_nil, List.nil_append, List.cons_append, Nat.reduceEqDiff, ne_eq, not_false_eq_true, reduceCtorEq, Bool.and_true, Bool.true_and, Bool.and_false, Bool.false_and, Bool.not_true, Bool.not_false, Bool.and_self]; rfl
      case h2 => intro h; cases h
      intro _
      repeat apply go_seq
      apply go_region
      case h => intro m; simp (maxSteps := 2000000) (disch := decide) only [opsLoop, evOper, wantedA, nth, aop, aPick, aBin, aIndexAddr, aFieldAddr, aLoad, aStore, aExtract, aConvert, aAlloc, aBox, aIndex, callA, builtinA, Fr.evs, opt, val, when, AM.run, outV, newA, ptr, force_eq, seen_heap, seen_next, seen_mark, seen_seen, agg_cells, int_cells, Fr.ev, Fr.put, onFr, gps, gpn, bltT, still, flat, List.append_nil, List.nil_append, List.cons_append, Nat.reduceEqDiff, ne_eq, not_false_eq_true, reduceCtorEq, Bool.and_true, Bool.true_and, Bool.and_false, Bool.false_and, Bool.not_true, Bool.not_false, Bool.and_self]; rfl
      repeat apply go_seq
      apply go_ret
      apply ret_intro rfl rfl
      case run => simp (disch := decide) only [resultsM, resultsA, resT, opsLoop, evOper, wantedA, nth, aop, aPick, aBin, aIndexAddr, aFieldAddr, aLoad, aStore, aExtract, aConvert, aAlloc, aBox, aIndex, callA, builtinA, Fr.evs, opt, val, when, AM.run, outV, newA, ptr, force_eq, seen_heap, seen_next, seen_mark, seen_seen, agg_cells, int_cells, Fr.ev, Fr.put, onFr, gps, gpn, bltT, still, flat, List.append_nil, List.nil_append, List.cons_append, Nat.reduceEqDiff, ne_eq, not_false_eq_true, reduceCtorEq, Bool.and_true, Bool.true_and, Bool.and_false, Bool.false_and, Bool.not_true, Bool.not_false, Bool.and_self]; rfl
      exact ⟨rfl, Less'.refl _⟩
    | succ n =>
      cases a with
      | none => cases h2
      | some ad =>
        have h3 : (when (Nat.ble (n + 1) cap && Nat.blt cap OPEN) (loadA ad (n + 1) fun cs => opt (bytesV cs) fun l => .pure (trimV ad cap l))).run s = some (v, s') := h2
        clear h2
        obtain ⟨hc, h4⟩ := run_when h3
        simp only [Bool.and_eq_true] at hc
        have hle := ble_iff.1 hc.1
        have hop := blt_iff.1 hc.2
        obtain ⟨l, hl, hb, h5⟩ := bs_of_load h4
        cases h5
        have hne : eqI (Int.ofNat (n + 1)) (Int.ofNat 0) = false := eqI_f (by omega)
        have hstr : ∀ E t, binA E .eql t (.string Z) (.string ⟨#[]⟩) = some (.bool false) := fun E t => rfl
        have hlss : ∀ E t, binA E .lss t (.int .u8 (.ofNat 0)) (.int .u8 128) = some (.bool true) := fun E t => rfl
        have hz1 : eqI (Int.ofNat 1) (Int.ofNat 1) = true := rfl
        repeat apply go_seq
        apply go_region
        case h => intro m; simp (maxSteps := 2000000) (disch := decide) only [opsLoop, evOper, wantedA, nth, aop, aPick, aBin, aIndexAddr, aFieldAddr, aLoad, aStore, aExtract, aConvert, aAlloc, aBox, aIndex, callA, builtinA, Fr.evs, opt, val, when, AM.run, outV, newA, ptr, force_eq, seen_heap, seen_next, seen_mark, seen_seen, agg_cells, int_cells, Fr.ev, Fr.put, onFr, gps, gpn, bltT, still, flat, List.append_nil, List.nil_append, List.cons_append, Nat.reduceEqDiff, ne_eq, not_false_eq_true, reduceCtorEq, Bool.and_true, Bool.true_and, Bool.and_false, Bool.false_and, Bool.not_true, Bool.not_false, Bool.and_self]; rfl
        repeat apply go_seq
        apply go_region
        case h => intro m; simp (maxSteps := 2000000) (disch := decide) only [opsLoop, evOper, wantedA, nth, aop, aPick, aBin, aIndexAddr, aFieldAddr, aLoad, aStore, aExtract, aConvert, aAlloc, aBox, aIndex, callA, builtinA, Fr.evs, opt, val, when, AM.run, outV, newA, ptr, force_eq, seen_heap, seen_next, seen_mark, seen_seen, agg_cells, int_cells, Fr.ev, Fr.put, onFr, gps, gpn, bltT, still, flat, List.append_nil, List.nil_append, List.cons_append, Nat.reduceEqDiff, ne_eq, not_false_eq_true, reduceCtorEq, Bool.and_true, Bool.true_and, Bool.and_false, Bool.false_and, Bool.not_true, Bool.not_false, Bool.and_self, h0, tyB, dsB, b_eql, int0, hne]; rfl
        repeat apply go_seq
        apply go_cond
        case hc => simp (disch := decide) only [opsLoop, evOper, wantedA, nth, aop, aPick, aBin, aIndexAddr, aFieldAddr, aLoad, aStore, aExtract, aConvert, aAlloc, aBox, aIndex, callA, builtinA, Fr.evs, opt, val, when, AM.run, outV, newA, ptr, force_eq, seen_heap, seen_next, seen_mark, seen_seen, agg_cells, int_cells, Fr.ev, Fr.put, onFr, gps, gpn, bltT, still, flat, List.append_nil, List.nil_append, List.cons_append, Nat.reduceEqDiff, ne_eq, not_false_eq_true, reduceCtorEq, Bool.and_true, Bool.true_and, Bool.and_false, Bool.false_and, Bool.not_true, Bool.not_false, Bool.and_self]; rfl
        case h1 => intro h; cases h
        intro _
        apply go_skip
        repeat apply go_seq
        apply go_region
        case h => intro m; simp (maxSteps := 2000000) (disch := decide) only [opsLoop, evOper, wantedA, nth, aop, aPick, aBin, aIndexAddr, aFieldAddr, aLoad, aStore, aExtract, aConvert, aAlloc, aBox, aIndex, callA, builtinA, Fr.evs, opt, val, when, AM.run, outV, newA, ptr, force_eq, seen_heap, seen_next, seen_mark, seen_seen, agg_cells, int_cells, Fr.ev, Fr.put, onFr, gps, gpn, bltT, still, flat, List.append_nil, List.nil_append, List.cons_append, Nat.reduceEqDiff, ne_eq, not_false_eq_true, reduceCtorEq, Bool.and_true, Bool.true_and, Bool.and_false, Bool.false_and, Bool.not_true, Bool.not_false, Bool.and_self, h0, h1, hstr]; rfl
        repeat apply go_seq
        apply go_cond
        case hc => simp (disch := decide) only [opsLoop, evOper, wantedA, nth, aop, aPick, aBin, aIndexAddr, aFieldAddr, aLoad, aStore, aExtract, aConvert, aAlloc, aBox, aIndex, callA, builtinA, Fr.evs, opt, val, when, AM.run, outV, newA, ptr, force_eq, seen_heap, seen_next, seen_mark, seen_seen, agg_cells, int_cells, Fr.ev, Fr.put, onFr, gps, gpn, bltT, still, flat, List.append_nil, List.nil_append, List.cons_append, Nat.reduceEqDiff, ne_eq, not_false_eq_true, reduceCtorEq, Bool.and_true, Bool.true_and, Bool.and_false, Bool.false_and, Bool.not_true, Bool.not_false, Bool.and_self]; rfl
        case h1 => intro h; cases h
        intro _
        apply go_skip
        repeat apply go_seq
        apply go_region
        case h => intro m; simp (maxSteps := 2000000) (disch := decide) only [opsLoop, evOper, wantedA, nth, aop, aPick, aBin, aIndexAddr, aFieldAddr, aLoad, aStore, aExtract, aConvert, aAlloc, aBox, aIndex, callA, builtinA, Fr.evs, opt, val, when, AM.run, outV, newA, ptr, force_eq, seen_heap, seen_next, seen_mark, seen_seen, agg_cells, int_cells, Fr.ev, Fr.put, onFr, gps, gpn, bltT, still, flat, List.append_nil, List.nil_append, List.cons_append, Nat.reduceEqDiff, ne_eq, not_false_eq_true, reduceCtorEq, Bool.and_true, Bool.true_and, Bool.and_false, Bool.false_and, Bool.not_true, Bool.not_false, Bool.and_self, h0, h1, tySt, dsSt, zsize, zbyte, b_eql, int1, hz1, int0, hlss]; rfl
        repeat apply go_seq
        apply go_cond
        case hc => simp (disch := decide) only [opsLoop, evOper, wantedA, nth, aop, aPick, aBin, aIndexAddr, aFieldAddr, aLoad, aStore, aExtract, aConvert, aAlloc, aBox, aIndex, callA, builtinA, Fr.evs, opt, val, when, AM.run, outV, newA, ptr, force_eq, seen_heap, seen_next, seen_mark, seen_seen, agg_cells, int_cells, Fr.ev, Fr.put, onFr, gps, gpn, bltT, still, flat, List.append_nil, List.nil_append, List.cons_append, Nat.reduceEqDiff, ne_eq, not_false_eq_true, reduceCtorEq, Bool.and_true, Bool.true_and, Bool.and_false, Bool.false_and, Bool.not_true, Bool.not_false, Bool.and_self]; rfl
        case h2 => intro h; cases h
        intro _
        have htk : (l.take (rl l)).length = rl l := by rw [List.length_take]; have := rl_le l; omega
        have hR := trimRA_run (cap := cap) (hb.of (s' := ⟨s.heap, s.next, s.next, 0, 0⟩) rfl rfl) (by omega) hop (by omega)
        have hL := trimLA_run (cap := cap) ((hb.take (rl l)).of (s' := ⟨s.heap, s.next, s.next, 0, 0⟩) rfl rfl) (by rw [htk]; have := rl_le l; omega) hop
        rw [hl] at hR
        rw [htk] at hL
        simp only [S.seen] at hR hL
        repeat apply go_seq
        apply go_drawn
        case hs => rfl
        case h => intro m; simp (maxSteps := 2000000) (disch := decide) only [opsLoop, evOper, wantedA, nth, aop, aPick, aBin, aIndexAddr, aFieldAddr, aLoad, aStore, aExtract, aConvert, aAlloc, aBox, aIndex, callA, builtinA, Fr.evs, opt, val, when, AM.run, outV, newA, ptr, force_eq, seen_heap, seen_next, seen_mark, seen_seen, agg_cells, int_cells, Fr.ev, Fr.put, onFr, gps, gpn, bltT, still, flat, List.append_nil, List.nil_append, List.cons_append, Nat.reduceEqDiff, ne_eq, not_false_eq_true, reduceCtorEq, Bool.and_true, Bool.true_and, Bool.and_false, Bool.false_and, Bool.not_true, Bool.not_false, Bool.and_self, drawnLoop, force_eq, S.seen, keep_none, clash_nil, clash_reads, created_self, lor_zero, lor_zero', h0, h1, tySt, dsSt, zbyte, int0, tgTL, tgTR, evT_told sgTR, evT_told sgTL, hR, hL]; rfl
        repeat apply go_seq
        apply go_ret
        apply ret_intro rfl rfl
        case run => simp (disch := decide) only [resultsM, resultsA, resT, opsLoop, evOper, wantedA, nth, aop, aPick, aBin, aIndexAddr, aFieldAddr, aLoad, aStore, aExtract, aConvert, aAlloc, aBox, aIndex, callA, builtinA, Fr.evs, opt, val, when, AM.run, outV, newA, ptr, force_eq, seen_heap, seen_next, seen_mark, seen_seen, agg_cells, int_cells, Fr.ev, Fr.put, onFr, gps, gpn, bltT, still, flat, List.append_nil, List.nil_append, List.cons_append, Nat.reduceEqDiff, ne_eq, not_false_eq_true, reduceCtorEq, Bool.and_true, Bool.true_and, Bool.and_false, Bool.false_and, Bool.not_true, Bool.not_false, Bool.and_self]; rfl
        exact ⟨rfl, Rd.less (s := s) ⟨rfl, rfl, rfl⟩ (Rd.seen s ad.block)⟩
  · cases h
end Go.Proofs.YtgofanjbhbeniaaDoor.lf
end
end

section
/- Leaves: whether a leaf may be. -/
noncomputable section
namespace Go.Proofs.YtgofanjbhbeniaaDoor.lf
open AE
set_option linter.unusedSimpArgs false
set_option linter.unusedVariables false
set_option maxRecDepth 10000

/-- a leaf, as plain data -/
structure LeafD where
  kind : Int
  file : Int
  place : Int
  next : Int
  size : Int
  load : List UInt8
def LeafD.cells (d : LeafD) : List Value := [.int .i64 d.kind, .int .i64 d.file, .int .i64 d.place, .int .i64 d.next, .int .i64 d.size] ++ d.load.map bv
def LeafD.val (d : LeafD) : Value := .agg ⟨d.cells⟩
def leafOf : List Value → Option LeafD
  | .int .i64 a :: .int .i64 b :: .int .i64 c :: .int .i64 d :: .int .i64 e :: l => match bytesV l with
    | none => none
    | some bs => match Nat.beq bs.length 116 with
      | true => some ⟨a, b, c, d, e, bs⟩
      | false => none
  | _ => none
theorem leafOf_inv {cs : List Value} {d : LeafD} (h : leafOf cs = some d) : cs = d.cells ∧ d.load.length = 116 := by
  unfold leafOf at h
  split at h
  · rename_i a b c e f l
    split at h
    · cases h
    · rename_i bs hbs
      split at h
      · rename_i hb
        cases h
        exact ⟨by rw [bytesV_inv hbs]; rfl, beq_iff.1 hb⟩
      · cases h
  · cases h
theorem leafOf_cells (d : LeafD) (h : d.load.length = 116) : leafOf d.cells = some d := by
  simp only [LeafD.cells, List.cons_append, List.nil_append, leafOf, bytesV_map, beq_iff.2 h]
theorem LeafD.len (d : LeafD) (h : d.load.length = 116) : d.cells.length = 121 := by simp [LeafD.cells, h]

def wi (n lo hi : Int) : Bool := not (ltI n lo) && not (ltI hi n)
theorem wi_iff {n lo hi : Int} : wi n lo hi = true ↔ lo ≤ n ∧ n ≤ hi := by
  unfold wi
  rw [ltI_not, ltI_not]
  simp
def noughts (l : List UInt8) : Bool := Nat.beq (lead l) l.length
/-- may it be? -/
def rightL (d : LeafD) : Bool := wi d.file 0 65535 && wi d.place 0 65535 && wi d.next 0 65535 && wi d.kind 1 2 && wi d.size 0 116 && noughts (d.load.drop d.size.toNat)
def rightA : List Value → AM Value
  | [.agg ⟨cs⟩] => opt (leafOf cs) fun d => bump 2 (.pure (.bool (rightL d)))
  | _ => .fail

/-! a cell is read -/
theorem cell_load {s : S} {b off : Nat} {v : Value} {c : Tr Value} {m : Nat} {e : TypeId} {rm : Room} (i : TI) (hi : isAggD i.desc = false) (hlt : b < s.next) (hg : s.heap.get b = some (.cells c m e rm)) (hm : off + 1 ≤ m) (hc : c.get off = some v) :
    (loadT i ⟨b, off, none⟩ AE.val).run s = some (.value v, s.seen b) := by
  unfold loadT loadA
  rw [hi]
  simp only [AM.run, blt_iff.2 hlt, hg, when, show Nat.ble (Nat.add off 1) m = true from ble_iff.2 hm, rdCells, show Nat.add off 0 = off from rfl, hc, opt, AE.val]
  rfl

theorem has_load {s : S} {b off : Nat} {v : Value} {c : Tr Value} {m : Nat} (i : TI) (hi : isAggD i.desc = false) (hlt : b < s.next) (hg : Has s b c m) (hm : off + 1 ≤ m) (hc : c.get off = some v) :
    (loadT i ⟨b, off, none⟩ AE.val).run s = some (.value v, s.seen b) := by
  unfold loadT loadA
  rw [hi]
  rcases hg with ⟨e, rm, hg⟩ | ⟨e, hg⟩
  all_goals
    simp only [AM.run, blt_iff.2 hlt, hg, when, show Nat.ble (Nat.add off 1) m = true from ble_iff.2 hm, rdCells, show Nat.add off 0 = off from rfl, hc, opt, AE.val]
    rfl
noncomputable def tiLf : TI := TI.of Tryd.prog 30
theorem tyLf : E.ty.get 30 = some tiLf := by kernel_rfl
theorem szLf : tiLf.size = 121 := by kernel_rfl
noncomputable def fsLf : Array Field := match tiLf.desc with | .struct fs => fs | _ => #[]
theorem dsLf : tiLf.desc = .struct fsLf := by kernel_rfl
noncomputable def fd (i : Nat) : Field := (fieldAt? fsLf.toList i).getD default
theorem fl0 : fieldAt? fsLf.toList 0 = some (fd 0) := by kernel_rfl
theorem fl1 : fieldAt? fsLf.toList 1 = some (fd 1) := by kernel_rfl
theorem fl2 : fieldAt? fsLf.toList 2 = some (fd 2) := by kernel_rfl
theorem fl3 : fieldAt? fsLf.toList 3 = some (fd 3) := by kernel_rfl
theorem fl4 : fieldAt? fsLf.toList 4 = some (fd 4) := by kernel_rfl
theorem fl5 : fieldAt? fsLf.toList 5 = some (fd 5) := by kernel_rfl
theorem ft0 : (fd 0).type = 3 := by kernel_rfl
theorem ft1 : (fd 1).type = 3 := by kernel_rfl
theorem ft2 : (fd 2).type = 3 := by kernel_rfl
theorem ft3 : (fd 3).type = 3 := by kernel_rfl
theorem ft4 : (fd 4).type = 3 := by kernel_rfl
theorem ft5 : (fd 5).type = 28 := by kernel_rfl
theorem fo0 : (fd 0).offset = 0 := by kernel_rfl
theorem fo1 : (fd 1).offset = 1 := by kernel_rfl
theorem fo2 : (fd 2).offset = 2 := by kernel_rfl
theorem fo3 : (fd 3).offset = 3 := by kernel_rfl
theorem fo4 : (fd 4).offset = 4 := by kernel_rfl
theorem fo5 : (fd 5).offset = 5 := by kernel_rfl
theorem ble11 : Nat.ble 1 1 = true := rfl
theorem ble1A : Nat.ble 1 116 = true := rfl
theorem ad0 (n : Nat) : addA ⟨n, 0, none⟩ 0 = ⟨n, 0, none⟩ := rfl
theorem ad1 (n : Nat) : addA ⟨n, 0, none⟩ 1 = ⟨n, 1, none⟩ := rfl
theorem ad2 (n : Nat) : addA ⟨n, 0, none⟩ 2 = ⟨n, 2, none⟩ := rfl
theorem ad3' (n : Nat) : addA ⟨n, 0, none⟩ 3 = ⟨n, 3, none⟩ := rfl
theorem ad4 (n : Nat) : addA ⟨n, 0, none⟩ 4 = ⟨n, 4, none⟩ := rfl
theorem ad5 (n : Nat) : addA ⟨n, 0, none⟩ 5 = ⟨n, 5, none⟩ := rfl

/-- the leaf d lies in the block n, whole -/
structure LfAt (s : S) (n : Nat) (d : LeafD) : Prop where
  lt : n < s.next
  cell : ∃ c e rm, s.heap.get n = some (.cells c 121 e rm) ∧ Row c 0 d.cells
  len : d.load.length = 116
theorem LfAt.rd {s s' : S} {n : Nat} {d : LeafD} (h : LfAt s n d) (hr : Rd s s') : LfAt s' n d := ⟨by rw [hr.next]; exact h.lt, by rw [hr.heap]; exact h.cell, h.len⟩
theorem LfAt.get {s : S} {n : Nat} {d : LeafD} (h : LfAt s n d) (k : Nat) (v : Value) (hk : d.cells[k]? = some v) : (loadT tiI ⟨n, k, none⟩ AE.val).run s = some (.value v, s.seen n) := by
  obtain ⟨c, e, rm, h1, h2⟩ := h.cell
  have hlt := (List.getElem?_eq_some_iff.1 hk).1
  rw [d.len h.len] at hlt
  exact cell_load tiI (by rw [dsI]; rfl) h.lt h1 (by omega) (by have := h2 k v hk; rwa [Nat.zero_add] at this)
theorem LfAt.bs {s : S} {n : Nat} {d : LeafD} (h : LfAt s n d) (k : Nat) (hk : k ≤ 116) : Bs s ⟨n, 5 + k, none⟩ (d.load.drop k) := by
  obtain ⟨c, e, rm, h1, h2⟩ := h.cell
  refine ⟨rfl, h.lt, c, 121, .inl ⟨e, rm, h1⟩, by simp [h.len]; omega, ?_⟩
  intro j v hj
  have h3 : d.cells[5 + k + j]? = some v := by
    unfold LeafD.cells
    rw [List.getElem?_append_right (by simp; omega)]
    rw [List.map_drop, List.getElem?_drop] at hj
    simpa [show 5 + k + j - 5 = k + j by omega] using hj
  have := h2 _ _ h3
  simpa using this
end Go.Proofs.YtgofanjbhbeniaaDoor.lf
end
end

section
/- Leaves: whether a leaf may be: the walk. -/
noncomputable section
namespace Go.Proofs.YtgofanjbhbeniaaDoor.lf
open AE
set_option linter.unusedSimpArgs false
set_option linter.unusedVariables false
set_option maxRecDepth 10000

abbrev sigR : List (Nat × (List Value → AM Value)) := [(39, withinA), (40, trimA)]
theorem tolds_R : Tolds Tryd.prog (sumsOf sigR) := tolds_cons told_within (tolds_cons told_trim tolds_nil)
theorem sgW : sumsOf sigR 39 = some withinA := rfl
theorem sgT : sumsOf sigR 40 = some trimA := rfl
theorem tgW : ∀ a b, targetA E (.func 39) a b = .pure (.enter 39 (b ++ a)) := tgt (fi := fiW) (c := cdW) (by kernel_rfl) (by kernel_rfl)
theorem tgT : ∀ a b, targetA E (.func 40) a b = .pure (.enter 40 (b ++ a)) := tgt (fi := fiT) (c := cdT) (by kernel_rfl) (by kernel_rfl)
theorem withinA_run (n lo hi : Int) (s : S) : (withinA [.int .i64 n, .int .i64 lo, .int .i64 hi]).run s = some (.bool (wi n lo hi), s) := rfl
theorem add0 (b i : Nat) : addA ⟨b, 0, none⟩ i = ⟨b, i, none⟩ := by
  cases i with
  | zero => rfl
  | succ k => show (⟨b, Nat.add 0 (Nat.succ k), none⟩ : Addr) = _; rw [show Nat.add 0 (Nat.succ k) = k + 1 from Nat.zero_add _]
theorem mul1 (i : Nat) : Nat.mul i 1 = i := Nat.mul_one i
theorem b_incr {n : Nat} (h : n < 9223372036854775807) : ∀ E t, binA E .add t (.int .i64 (.ofNat n)) (.int .i64 (.ofNat 1)) = some (.int .i64 (.ofNat (n + 1))) := fun E t => b_inc h

noncomputable def fiR : FI := FI.of Tryd.f24
noncomputable def cdR : Code := bodyOf Tryd.f24
noncomputable def cdRl : Code := sub [1,0,1,0,0] cdR
theorem resR : fiR.results = [.tmp 2] := rfl

def three (d : LeafD) : List Int := [d.file, d.place, d.next]
structure R3 (s : S) (n : Nat) (d : LeafD) : Prop where
  lf : LfAt s n d
  lt : n + 1 < s.next
  cell : ∃ c e rm, s.heap.get (n + 1) = some (.cells c 3 e rm) ∧ Row c 0 [.int .i64 d.file, .int .i64 d.place, .int .i64 d.next]
theorem R3.rd {s s' : S} {n : Nat} {d : LeafD} (h : R3 s n d) (hr : Rd s s') : R3 s' n d := ⟨h.lf.rd hr, by rw [hr.next]; exact h.lt, by rw [hr.heap]; exact h.cell⟩
theorem R3.get {s : S} {n : Nat} {d : LeafD} (h : R3 s n d) (k : Nat) (x : Int) (hk : (three d)[k]? = some x) : (loadT tiI ⟨n + 1, k, none⟩ AE.val).run s = some (.value (.int .i64 x), s.seen (n + 1)) := by
  obtain ⟨c, e, rm, h1, h2⟩ := h.cell
  have hlt : k < 3 := (List.getElem?_eq_some_iff.1 hk).1
  refine cell_load tiI (by rw [dsI]; rfl) h.lt h1 (by omega) ?_
  have h3 : [Value.int .i64 d.file, .int .i64 d.place, .int .i64 d.next][k]? = some (.int .i64 x) := by
    match k, hlt with
    | 0, _ => simpa [three] using hk
    | 1, _ => simpa [three] using hk
    | 2, _ => simpa [three] using hk
  have := h2 k _ h3
  rwa [Nat.zero_add] at this

def InvR (d : LeafD) (n : Nat) (s0 : S) (k : Nat) (fr : Fr) (s : S) : Prop :=
  ∃ (i : Nat) (t : Tr Value), k = 3 - i ∧ i ≤ 3 ∧ fr = ⟨24, t, 38, [], none⟩ ∧ Rd s0 s ∧ t.get 1 = some (.pointer (some ⟨n, 0, none⟩)) ∧ t.get 11 = some (.slice (some ⟨n + 1, 0, none⟩) 3 3) ∧
    t.get 12 = some (.int .i64 (.ofNat 3)) ∧ t.get 13 = some (.int .i64 (.ofNat i)) ∧ (∀ (j : Nat) (x : Int), j < i → (three d)[j]? = some x → wi x 0 65535 = true)
def PostR (d : LeafD) (n : Nat) (s0 : S) (x : Ex) (fr : Fr) (s : S) : Prop :=
  ∃ t : Tr Value, fr = ⟨24, t, 38, [], none⟩ ∧ Rd s0 s ∧ ((x = .exit 0 ∧ t.get 1 = some (.pointer (some ⟨n, 0, none⟩)) ∧ ∀ (j : Nat) (x : Int), (three d)[j]? = some x → wi x 0 65535 = true) ∨
    (x = .ret ∧ t.get 2 = some (.bool false) ∧ ∃ (j : Nat) (x : Int), (three d)[j]? = some x ∧ wi x 0 65535 = false))
theorem right_round (d : LeafD) (n : Nat) (s0 : S) (h3 : R3 s0 n d) (k : Nat) (fr : Fr) (s : S) (h : InvR d n s0 k fr s) : GoC E (sumsOf sigR) cdRl fr s (Again (InvR d n s0) k (PostR d n s0)) := by
  obtain ⟨i, t, hk, hi, rfl, hr, g1, g11, g12, g13, hall⟩ := h
  simp only [cdRl, cdR, Tryd.f24, bodyOf, sub]
  by_cases hlt : i < 3
  · obtain ⟨x, hx⟩ : ∃ x, (three d)[i]? = some x := ⟨_, List.getElem?_eq_getElem (by simpa [three] using hlt)⟩
    have hlt' : ltI (Int.ofNat i) (Int.ofNat 3) = true := by rw [ltI_eq]; simp; omega
    have hb : Nat.blt i 3 = true := blt_iff.2 hlt
    have hld := (h3.rd hr).get i x hx
    have hinc := b_incr (n := i) (by omega)
    repeat apply go_seq
    apply go_region
    case h => intro m; simp (maxSteps := 2000000) (disch := decide) only [opsLoop, evOper, wantedA, nth, aop, aPick, aBin, aIndexAddr, aFieldAddr, aLoad, aStore, aExtract, aConvert, aAlloc, aBox, aIndex, callA, builtinA, Fr.evs, opt, val, when, AM.run, outV, newA, ptr, force_eq, seen_heap, seen_next, seen_mark, seen_seen, agg_cells, int_cells, Fr.ev, Fr.put, onFr, gps, gpn, bltT, still, flat, List.append_nil, List.nil_append, List.cons_append, Nat.reduceEqDiff, ne_eq, not_false_eq_true, reduceCtorEq, Bool.and_true, Bool.true_and, Bool.and_false, Bool.false_and, Bool.not_true, Bool.not_false, Bool.and_self, g12, g13, b_lss, hlt']; rfl
    repeat apply go_seq
    apply go_cond
    case hc => simp (disch := decide) only [opsLoop, evOper, wantedA, nth, aop, aPick, aBin, aIndexAddr, aFieldAddr, aLoad, aStore, aExtract, aConvert, aAlloc, aBox, aIndex, callA, builtinA, Fr.evs, opt, val, when, AM.run, outV, newA, ptr, force_eq, seen_heap, seen_next, seen_mark, seen_seen, agg_cells, int_cells, Fr.ev, Fr.put, onFr, gps, gpn, bltT, still, flat, List.append_nil, List.nil_append, List.cons_append, Nat.reduceEqDiff, ne_eq, not_false_eq_true, reduceCtorEq, Bool.and_true, Bool.true_and, Bool.and_false, Bool.false_and, Bool.not_true, Bool.not_false, Bool.and_self]; rfl
    case h2 => intro h; cases h
    intro _
    apply go_skip
    apply go_seq
    apply go_block
    repeat apply go_seq
    apply go_region
    case h => intro m; simp (maxSteps := 2000000) (disch := decide) only [opsLoop, evOper, wantedA, nth, aop, aPick, aBin, aIndexAddr, aFieldAddr, aLoad, aStore, aExtract, aConvert, aAlloc, aBox, aIndex, callA, builtinA, Fr.evs, opt, val, when, AM.run, outV, newA, ptr, force_eq, seen_heap, seen_next, seen_mark, seen_seen, agg_cells, int_cells, Fr.ev, Fr.put, onFr, gps, gpn, bltT, still, flat, List.append_nil, List.nil_append, List.cons_append, Nat.reduceEqDiff, ne_eq, not_false_eq_true, reduceCtorEq, Bool.and_true, Bool.true_and, Bool.and_false, Bool.false_and, Bool.not_true, Bool.not_false, Bool.and_self, g11, g13, tyL, dsL, tyI, szI, hb, mul1, add0, hld]; rfl
    cases hw : wi x 0 65535
    · repeat apply go_seq
      apply go_region
      case h => intro m; simp (maxSteps := 2000000) (disch := decide) only [opsLoop, evOper, wantedA, nth, aop, aPick, aBin, aIndexAddr, aFieldAddr, aLoad, aStore, aExtract, aConvert, aAlloc, aBox, aIndex, callA, builtinA, Fr.evs, opt, val, when, AM.run, outV, newA, ptr, force_eq, seen_heap, seen_next, seen_mark, seen_seen, agg_cells, int_cells, Fr.ev, Fr.put, onFr, gps, gpn, bltT, still, flat, List.append_nil, List.nil_append, List.cons_append, Nat.reduceEqDiff, ne_eq, not_false_eq_true, reduceCtorEq, Bool.and_true, Bool.true_and, Bool.and_false, Bool.false_and, Bool.not_true, Bool.not_false, Bool.and_self, tgW, evT_told sgW, withinA_run, hw, u_not]; rfl
      repeat apply go_seq
      apply go_cond
      case hc => simp (disch := decide) only [opsLoop, evOper, wantedA, nth, aop, aPick, aBin, aIndexAddr, aFieldAddr, aLoad, aStore, aExtract, aConvert, aAlloc, aBox, aIndex, callA, builtinA, Fr.evs, opt, val, when, AM.run, outV, newA, ptr, force_eq, seen_heap, seen_next, seen_mark, seen_seen, agg_cells, int_cells, Fr.ev, Fr.put, onFr, gps, gpn, bltT, still, flat, List.append_nil, List.nil_append, List.cons_append, Nat.reduceEqDiff, ne_eq, not_false_eq_true, reduceCtorEq, Bool.and_true, Bool.true_and, Bool.and_false, Bool.false_and, Bool.not_true, Bool.not_false, Bool.and_self]; rfl
      case h2 => intro h; cases h
      intro _
      repeat apply go_seq
      apply go_region
      case h => intro m; simp (maxSteps := 2000000) (disch := decide) only [opsLoop, evOper, wantedA, nth, aop, aPick, aBin, aIndexAddr, aFieldAddr, aLoad, aStore, aExtract, aConvert, aAlloc, aBox, aIndex, callA, builtinA, Fr.evs, opt, val, when, AM.run, outV, newA, ptr, force_eq, seen_heap, seen_next, seen_mark, seen_seen, agg_cells, int_cells, Fr.ev, Fr.put, onFr, gps, gpn, bltT, still, flat, List.append_nil, List.nil_append, List.cons_append, Nat.reduceEqDiff, ne_eq, not_false_eq_true, reduceCtorEq, Bool.and_true, Bool.true_and, Bool.and_false, Bool.false_and, Bool.not_true, Bool.not_false, Bool.and_self]; rfl
      apply go_ret
      refine ⟨_, rfl, hr.trans (Rd.seen s (n + 1)), .inr ⟨rfl, ?_, i, x, hx, hw⟩⟩
      simp (disch := decide) only [gps, gpn]
    · repeat apply go_seq
      apply go_region
      case h => intro m; simp (maxSteps := 2000000) (disch := decide) only [opsLoop, evOper, wantedA, nth, aop, aPick, aBin, aIndexAddr, aFieldAddr, aLoad, aStore, aExtract, aConvert, aAlloc, aBox, aIndex, callA, builtinA, Fr.evs, opt, val, when, AM.run, outV, newA, ptr, force_eq, seen_heap, seen_next, seen_mark, seen_seen, agg_cells, int_cells, Fr.ev, Fr.put, onFr, gps, gpn, bltT, still, flat, List.append_nil, List.nil_append, List.cons_append, Nat.reduceEqDiff, ne_eq, not_false_eq_true, reduceCtorEq, Bool.and_true, Bool.true_and, Bool.and_false, Bool.false_and, Bool.not_true, Bool.not_false, Bool.and_self, tgW, evT_told sgW, withinA_run, hw, u_not]; rfl
      repeat apply go_seq
      apply go_cond
      case hc => simp (disch := decide) only [opsLoop, evOper, wantedA, nth, aop, aPick, aBin, aIndexAddr, aFieldAddr, aLoad, aStore, aExtract, aConvert, aAlloc, aBox, aIndex, callA, builtinA, Fr.evs, opt, val, when, AM.run, outV, newA, ptr, force_eq, seen_heap, seen_next, seen_mark, seen_seen, agg_cells, int_cells, Fr.ev, Fr.put, onFr, gps, gpn, bltT, still, flat, List.append_nil, List.nil_append, List.cons_append, Nat.reduceEqDiff, ne_eq, not_false_eq_true, reduceCtorEq, Bool.and_true, Bool.true_and, Bool.and_false, Bool.false_and, Bool.not_true, Bool.not_false, Bool.and_self]; rfl
      case h1 => intro h; cases h
      intro _
      apply go_skip
      repeat apply go_seq
      apply go_region
      case h => intro m; simp (maxSteps := 2000000) (disch := decide) only [opsLoop, evOper, wantedA, nth, aop, aPick, aBin, aIndexAddr, aFieldAddr, aLoad, aStore, aExtract, aConvert, aAlloc, aBox, aIndex, callA, builtinA, Fr.evs, opt, val, when, AM.run, outV, newA, ptr, force_eq, seen_heap, seen_next, seen_mark, seen_seen, agg_cells, int_cells, Fr.ev, Fr.put, onFr, gps, gpn, bltT, still, flat, List.append_nil, List.nil_append, List.cons_append, Nat.reduceEqDiff, ne_eq, not_false_eq_true, reduceCtorEq, Bool.and_true, Bool.true_and, Bool.and_false, Bool.false_and, Bool.not_true, Bool.not_false, Bool.and_self, g13, int1, hinc]; rfl
      refine ⟨3 - (i + 1), by omega, i + 1, _, rfl, by omega, rfl, hr.trans (Rd.seen s (n + 1)), ?_, ?_, ?_, ?_, ?_⟩
      · simp (disch := decide) only [gps, gpn, g1]
      · simp (disch := decide) only [gps, gpn, g11]
      · simp (disch := decide) only [gps, gpn, g12]
      · simp (disch := decide) only [gps, gpn, g13]
      · intro j y hj hy
        by_cases e : j = i
        · subst e; rw [hx] at hy; cases hy; exact hw
        · exact hall j y (by omega) hy
  · obtain rfl : i = 3 := by omega
    have hlt' : ltI (Int.ofNat 3) (Int.ofNat 3) = false := rfl
    repeat apply go_seq
    apply go_region
    case h => intro m; simp (maxSteps := 2000000) (disch := decide) only [opsLoop, evOper, wantedA, nth, aop, aPick, aBin, aIndexAddr, aFieldAddr, aLoad, aStore, aExtract, aConvert, aAlloc, aBox, aIndex, callA, builtinA, Fr.evs, opt, val, when, AM.run, outV, newA, ptr, force_eq, seen_heap, seen_next, seen_mark, seen_seen, agg_cells, int_cells, Fr.ev, Fr.put, onFr, gps, gpn, bltT, still, flat, List.append_nil, List.nil_append, List.cons_append, Nat.reduceEqDiff, ne_eq, not_false_eq_true, reduceCtorEq, Bool.and_true, Bool.true_and, Bool.and_false, Bool.false_and, Bool.not_true, Bool.not_false, Bool.and_self, g12, g13, b_lss, hlt']; rfl
    repeat apply go_seq
    apply go_cond
    case hc => simp (disch := decide) only [opsLoop, evOper, wantedA, nth, aop, aPick, aBin, aIndexAddr, aFieldAddr, aLoad, aStore, aExtract, aConvert, aAlloc, aBox, aIndex, callA, builtinA, Fr.evs, opt, val, when, AM.run, outV, newA, ptr, force_eq, seen_heap, seen_next, seen_mark, seen_seen, agg_cells, int_cells, Fr.ev, Fr.put, onFr, gps, gpn, bltT, still, flat, List.append_nil, List.nil_append, List.cons_append, Nat.reduceEqDiff, ne_eq, not_false_eq_true, reduceCtorEq, Bool.and_true, Bool.true_and, Bool.and_false, Bool.false_and, Bool.not_true, Bool.not_false, Bool.and_self]; rfl
    case h1 => intro h; cases h
    intro _
    apply go_exit
    refine ⟨_, rfl, hr, .inl ⟨rfl, ?_, fun j x hx => hall j x (by have := (List.getElem?_eq_some_iff.1 hx).1; simpa [three] using this) hx⟩⟩
    simp (disch := decide) only [gps, gpn, g1]

/-! names that are taken and let go -/
theorem bump_run {α : Type} : ∀ (n : Nat) (k : AM α) (s : S) (r : α × S), (bump n k).run s = some r → ∃ s1, k.run s1 = some r ∧ s1.next = s.next + n ∧ s1.mark = s.mark ∧ (∀ m, s1.heap.get m = if s.next ≤ m ∧ m < s.next + n then none else s.heap.get m) ∧ (∀ i, i < n → Nat.ble (s.next + i) lastName = true)
  | 0, k, s, r, h => ⟨s, h, rfl, rfl, fun m => by rw [if_neg (by omega)], fun i hi => by omega⟩
  | n + 1, k, s, r, h => by
    obtain ⟨h1, h2⟩ := run_new h
    have hb : Nat.ble s.next lastName = true := by
      simp only [bump, AM.run, force_eq] at h
      cases hh : Nat.ble s.next lastName with
      | true => rfl
      | false => rw [hh] at h; cases h
    obtain ⟨_, _, h3⟩ := run_del h2
    obtain ⟨s1, e1, e2, e3, e4, e5⟩ := bump_run n k _ r h3
    refine ⟨s1, e1, by rw [e2]; show s.next + 1 + n = _; omega, by rw [e3]; rfl, ?_, ?_⟩
    · intro m
      rw [e4 m]
      show (if s.next + 1 ≤ m ∧ m < s.next + 1 + n then none else ((s.heap.put s.next (some (.deferred none))).put s.next none).get m) = _
      rw [Tr.get_put _ _ _ _ h1, Tr.get_put _ _ _ _ h1]
      by_cases hm : m = s.next
      · rw [if_neg (by omega), if_pos hm, if_pos (by omega)]
      · rw [if_neg hm, if_neg hm]
        by_cases h5 : s.next + 1 ≤ m ∧ m < s.next + 1 + n
        · rw [if_pos h5, if_pos (by omega)]
        · rw [if_neg h5, if_neg (by omega)]
    · intro i hi
      cases i with
      | zero => exact hb
      | succ i =>
        have h6 := e5 i (by omega)
        have h7 : (S.turn (s.grow (.deferred none)) s.next none).next + i = s.next + (i + 1) := by show s.next + 1 + i = _; omega
        rw [h7] at h6
        exact h6
theorem hg_same {α : Type} {n : Nat} (h : Nat.ble n lastName = true) (t : Tr α) (x : Option α) : (t.put n x).get n = x := by
  have := ble_iff.1 h
  rw [Tr.get_put _ _ _ _ (by unfold lastName at this; unfold Tr.wide; omega), if_pos rfl]
theorem hg_far {α : Type} {n m : Nat} (h : Nat.ble n lastName = true) (hne : m ≠ n) (t : Tr α) (x : Option α) : (t.put n x).get m = t.get m := by
  have := ble_iff.1 h
  rw [Tr.get_put _ _ _ _ (by unfold lastName at this; unfold Tr.wide; omega), if_neg hne]

/-! all noughts, or not -/
theorem lead_all (l : List UInt8) : lead l = l.length ↔ ∀ (j : Nat) (x : UInt8), l[j]? = some x → x = 0 := by
  induction l with
  | nil => simp [lead]
  | cons y l ih =>
    unfold lead
    constructor
    · intro h
      by_cases hy : y = 0
      · rw [if_pos hy] at h
        have h2 := ih.1 (by simpa using h)
        intro j x hx
        cases j with
        | zero => simp at hx; subst hx; exact hy
        | succ j => exact h2 j x (by simpa using hx)
      · rw [if_neg hy] at h; simp at h
    · intro h
      have hy : y = 0 := h 0 y rfl
      rw [if_pos hy, ih.2 (fun j x hx => h (j + 1) x (by simpa using hx))]
      simp
theorem rl_pos (l : List UInt8) (h : rl l = 0) : ∀ (j : Nat) (x : UInt8), l[j]? = some x → x = 0 := by
  induction l with
  | nil => intro j x hx; simp at hx
  | cons y l ih =>
    unfold rl at h
    split at h
    · rename_i hc
      intro j x hx
      cases j with
      | zero => simp at hx; subst hx; exact hc.2
      | succ j => exact ih hc.1 j x (by simpa using hx)
    · omega
theorem rl_last : ∀ (l : List UInt8) (n : Nat), rl l = n + 1 → ∃ x, l[n]? = some x ∧ x ≠ 0
  | [], n, h => by simp [rl] at h
  | y :: l, n, h => by
    unfold rl at h
    split at h
    · omega
    · rename_i hc
      cases hr : rl l with
      | zero =>
        have : n = 0 := by omega
        subst this
        exact ⟨y, rfl, fun e => hc ⟨hr, e⟩⟩
      | succ k =>
        have : n = k + 1 := by omega
        subst this
        obtain ⟨x, h1, h2⟩ := rl_last l k hr
        exact ⟨x, by simpa using h1, h2⟩
theorem trim_len (ad : Addr) (cap : Nat) (l : List UInt8) : ∃ a n c, trimV ad cap l = .slice a n c ∧ eqI (Int.ofNat n) (Int.ofNat 0) = noughts l := by
  unfold trimV trimLV
  by_cases hn : lead l = l.length
  · have hz := (lead_all l).1 hn
    have h0 : rl l = 0 := rl_zero l hz
    rw [h0, List.take_zero]
    refine ⟨none, 0, 0, rfl, ?_⟩
    unfold noughts
    rw [beq_iff.2 hn]
    rfl
  · have hk : noughts l = false := by
      unfold noughts
      cases hb : Nat.beq (lead l) l.length with
      | false => rfl
      | true => exact absurd (beq_iff.1 hb) hn
    cases hr : rl l with
    | zero => exact absurd ((lead_all l).2 (rl_pos l hr)) hn
    | succ k =>
      obtain ⟨x, hx, hx0⟩ := rl_last l k hr
      have hne : lead (l.take (k + 1)) ≠ (l.take (k + 1)).length := by
        intro e
        refine hx0 ((lead_all _).1 e k x ?_)
        rw [List.getElem?_take, if_pos (by omega)]
        exact hx
      have hle := lead_le (l.take (k + 1))
      rw [if_neg hne]
      exact ⟨_, _, _, rfl, by rw [hk]; exact eqI_f (by omega)⟩

theorem rightL_three {d : LeafD} {j : Nat} {x : Int} (h : (three d)[j]? = some x) (hw : wi x 0 65535 = false) : rightL d = false := by
  have hlt : j < 3 := (List.getElem?_eq_some_iff.1 h).1
  unfold rightL
  match j, hlt with
  | 0, _ => simp [three] at h; subst h; rw [hw]; rfl
  | 1, _ => simp [three] at h; subst h; rw [hw]; simp
  | 2, _ => simp [three] at h; subst h; rw [hw]; simp
end Go.Proofs.YtgofanjbhbeniaaDoor.lf
end
end

section
/- Leaves: whether a leaf may be: told. -/
noncomputable section
namespace Go.Proofs.YtgofanjbhbeniaaDoor.lf
open AE
set_option linter.unusedSimpArgs false
set_option linter.unusedVariables false
set_option maxRecDepth 10000

theorem fill3 (x y z : Int) : fillA (placeA 1) [(0, Value.int .i64 x), (1, .int .i64 y), (2, .int .i64 z)] (repeatL [Value.int .i64 (Int.ofNat 0)] 3) = some [.int .i64 x, .int .i64 y, .int .i64 z] := rfl
theorem trim_call {s : S} {n : Nat} {d : LeafD} (h : LfAt s n d) (k : Nat) (hk : k ≤ 116) : ∃ a m c s', (trimA [.slice (some (addIf ⟨n, 5, none⟩ 116 k 1)) (Nat.sub 116 k) (Nat.sub 116 k), .string ⟨#[0]⟩]).run s = some (.slice a m c, s') ∧ Rd s s' ∧ eqI (Int.ofNat m) (Int.ofNat 0) = noughts (d.load.drop k) := by
  by_cases he : k = 116
  · subst he
    refine ⟨none, 0, 0, s, rfl, Rd.refl s, ?_⟩
    rw [List.drop_eq_nil_of_le (by rw [h.len]; omega)]
    rfl
  · obtain ⟨j, hj⟩ : ∃ j, Nat.sub 116 k = j + 1 := ⟨115 - k, by show 116 - k = _; omega⟩
    have hb := h.bs k hk
    have hlen : (d.load.drop k).length = j + 1 := by rw [List.length_drop, h.len]; exact hj
    have ha : addIf ⟨n, 5, none⟩ 116 k 1 = ⟨n, 5 + k, none⟩ := by
      unfold addIf
      have : Nat.beq 116 k = false := by
        cases hh : Nat.beq 116 k with
        | false => rfl
        | true => have := beq_iff.1 hh; omega
      rw [this, mul1]
      exact sum.addA_eq ⟨n, 5, none⟩ k rfl
    obtain ⟨a, m, c, e1, e2⟩ := trim_len ⟨n, 5 + k, none⟩ (j + 1) (d.load.drop k)
    refine ⟨a, m, c, s.seen n, ?_, Rd.seen s n, e2⟩
    rw [ha, hj, ← e1]
    show (when (Nat.beq (UInt8.toNat 0) 0) (when (Nat.ble (j + 1) (j + 1) && Nat.blt (j + 1) OPEN) (loadA ⟨n, 5 + k, none⟩ (j + 1) fun cs => opt (bytesV cs) fun l => .pure (trimV ⟨n, 5 + k, none⟩ (j + 1) l)))).run s = _
    have h116 : j + 1 ≤ 116 := by rw [← hj]; exact Nat.sub_le _ _
    have h2 : Nat.blt (j + 1) OPEN = true := blt_iff.2 (by unfold OPEN; omega)
    rw [← hlen]
    rw [← hlen] at h2
    simp only [when, show Nat.beq (UInt8.toNat 0) 0 = true from rfl, ble_iff.2 (Nat.le_refl _), h2, Bool.and_self, Bs.load hb, AM.run]

theorem less_new {s s1 s2 : S} {n : Nat} (h1 : s1.next ≤ s2.next) (h2 : s2.next = s.next + n) (hh : ∀ m, s2.heap.get m = if s.next ≤ m ∧ m < s.next + n then none else s.heap.get m) (hf : ∀ m, ¬ (s.next ≤ m ∧ m < s.next + n) → s1.heap.get m = s.heap.get m) : Less' s1 s2 := by
  refine ⟨h1, fun m o e => ?_⟩
  rw [hh] at e
  split at e
  · cases e
  · rename_i hm
    exact ⟨o, (hf m hm).trans e, .refl o⟩

set_option maxHeartbeats 400000 in
theorem told_right : AE.Told Tryd.prog 24 rightA := by
  refine told_go hE hmix tolds_R ?_
  intro args s v s' h hm
  unfold rightA at h
  split at h
  · rename_i cs
    obtain ⟨d, hd, h2⟩ := run_opt h
    obtain ⟨rfl, hlen⟩ := leafOf_inv hd
    obtain ⟨s9, h3, hn9, hm9, hh9, hbl⟩ := bump_run 2 _ _ _ h2
    cases h3
    clear h h2 hd
    have hN0 : Nat.ble s.next lastName = true := hbl 0 (by omega)
    have hN1 : Nat.ble (s.next + 1) lastName = true := hbl 1 (by omega)
    refine go_enter (fi := fiR) (c := cdR) (by kernel_rfl) (by kernel_rfl) 38 rfl rfl ?_
    have h0 : (Tr.ofList [Value.agg ⟨d.cells⟩]).get 0 = some (.agg ⟨d.cells⟩) := rfl
    generalize Tr.ofList [Value.agg ⟨d.cells⟩] = t at *
    have hcode : cdR = .seq (sub [0] cdR) (.seq (.seq (sub [1,0,0] cdR) (.block 0 (.loop cdRl))) (sub [1,1] cdR)) := rfl
    rw [hcode]
    have hcl : d.cells.length = 121 := d.len hlen
    have hcb : Nat.ble d.cells.length lastName = true := by rw [hcl]; rfl
    apply go_seq
    simp only [cdR, Tryd.f24, bodyOf, sub]
    repeat apply go_seq
    apply go_region
    case h => intro m; simp (maxSteps := 2000000) (disch := decide) only [opsLoop, evOper, wantedA, nth, aop, aPick, aBin, aIndexAddr, aFieldAddr, aLoad, aStore, aExtract, aConvert, aAlloc, aBox, aIndex, callA, builtinA, Fr.evs, opt, val, when, AM.run, outV, newA, ptr, force_eq, seen_heap, seen_next, seen_mark, seen_seen, agg_cells, int_cells, Fr.ev, Fr.put, onFr, gps, gpn, bltT, still, flat, List.append_nil, List.nil_append, List.cons_append, Nat.reduceEqDiff, ne_eq, not_false_eq_true, reduceCtorEq, Bool.and_true, Bool.true_and, Bool.and_false, Bool.false_and, Bool.not_true, Bool.not_false, Bool.and_self, h0, hcb, hN0]; rfl
    generalize hs1 : (S.mk (s.heap.put s.next (some (.cells (Tr.ofList d.cells) d.cells.length 30 .whole))) (Nat.succ s.next) s.mark s.rd s.wr) = s1
    have e1 : s1.next = s.next + 1 := by rw [← hs1]
    have e1h : s1.heap = s.heap.put s.next (some (.cells (Tr.ofList d.cells) d.cells.length 30 .whole)) := by rw [← hs1]
    have L1 : LfAt s1 s.next d := by
      refine ⟨by omega, ⟨_, _, _, by rw [e1h, hg_same hN0, hcl], row_ofList _ (by rw [hcl]; unfold Tr.wide; omega)⟩, hlen⟩
    clear hs1
    have l1 := L1.get 1 (.int .i64 d.file) rfl
    have l2 := (L1.rd (Rd.seen s1 s.next)).get 2 (.int .i64 d.place) rfl
    have l3 := (L1.rd (Rd.seen s1 s.next)).get 3 (.int .i64 d.next) rfl
    rw [seen_seen] at l2 l3
    have hN1' : Nat.ble s1.next lastName = true := by rw [e1]; exact hN1
    apply go_seq
    apply go_seq
    repeat apply go_seq
    apply go_region
    case h => intro m; simp (maxSteps := 2000000) (disch := decide) only [opsLoop, evOper, wantedA, nth, aop, aPick, aBin, aIndexAddr, aFieldAddr, aLoad, aStore, aExtract, aConvert, aAlloc, aBox, aIndex, callA, builtinA, Fr.evs, opt, val, when, AM.run, outV, newA, ptr, force_eq, seen_heap, seen_next, seen_mark, seen_seen, agg_cells, int_cells, Fr.ev, Fr.put, onFr, gps, gpn, bltT, still, flat, List.append_nil, List.nil_append, List.cons_append, Nat.reduceEqDiff, ne_eq, not_false_eq_true, reduceCtorEq, Bool.and_true, Bool.true_and, Bool.and_false, Bool.false_and, Bool.not_true, Bool.not_false, Bool.and_self, tyLf, dsLf, fl1, fl2, fl3, ft1, ft2, ft3, fo1, fo2, fo3, tyI, szI, zeI, dsL, tyL, ble11, ad1, ad2, ad3', l1, l2, l3, aBuildSlice, evParts, int0, fill3, hN1', show Nat.ble (Nat.mul 3 1) 1048576 = true from rfl, show Nat.beq ([Value.int .i64 (Int.ofNat 0)] : List Value).length 1 = true from rfl, show Nat.ble ([Value.int .i64 d.file, .int .i64 d.place, .int .i64 d.next] : List Value).length lastName = true from rfl]; rfl
    generalize hs2 : S.mk _ _ _ _ _ = s2
    have e2 : s2.next = s.next + 2 := by rw [← hs2]; show s1.next + 1 = _; omega
    have e2h : s2.heap = s1.heap.put s1.next (some (.cells (Tr.ofList [Value.int .i64 d.file, .int .i64 d.place, .int .i64 d.next]) (List.length [Value.int .i64 d.file, .int .i64 d.place, .int .i64 d.next]) 3 .whole)) := by rw [← hs2]
    have hl3 : List.length [Value.int .i64 d.file, .int .i64 d.place, .int .i64 d.next] = 3 := rfl
    rw [hl3] at e2h
    have h3w : ([Value.int .i64 d.file, .int .i64 d.place, .int .i64 d.next] : List Value).length ≤ Tr.wide := by show 3 ≤ Tr.wide; unfold Tr.wide; omega
    have c2 : s2.heap.get (s.next + 1) = some (.cells (Tr.ofList [.int .i64 d.file, .int .i64 d.place, .int .i64 d.next]) 3 3 .whole) := by rw [e2h, e1]; exact hg_same hN1 _ _
    have hlt2 : s.next < s2.next := by omega
    have hlt3 : s.next + 1 < s2.next := by omega
    have hrow := row_ofList [Value.int .i64 d.file, .int .i64 d.place, .int .i64 d.next] h3w
    have hc0 : ∃ c e rm, s2.heap.get s.next = some (.cells c 121 e rm) ∧ Row c 0 d.cells := by
      obtain ⟨c, e, rm, g1, g2⟩ := L1.cell
      exact ⟨c, e, rm, by rw [e2h, e1, hg_far hN1 (by omega)]; exact g1, g2⟩
    have R2 : R3 s2 s.next d := ⟨⟨hlt2, hc0, hlen⟩, hlt3, ⟨_, _, _, c2, hrow⟩⟩
    have hless : ∀ s5, Rd s2 s5 → Less' s5 s' := by
      intro s5 hr
      refine less_new (s := s) (n := 2) (by rw [hr.next, e2, hn9]; exact Nat.le_refl _) hn9 hh9 ?_
      intro m hmm
      rw [hr.heap, e2h, e1, hg_far hN1 (by omega), e1h, hg_far hN0 (by omega)]
    clear hs2
    apply go_block
    refine (go_loop_inv (InvR d s.next s2) (fun k fr s1 hI => right_round d s.next s2 R2 k fr s1 hI) (3 - 0) _ _ ⟨0, _, rfl, by omega, rfl, Rd.refl s2, ?_, ?_, ?_, ?_, fun j x hj => by omega⟩).mono ?_
    · simp (disch := decide) only [gps, gpn, h0]
    · rw [← e1]; simp (disch := decide) only [gps, gpn]
    · simp (disch := decide) only [gps, gpn]
    · simp (disch := decide) only [gps, gpn, int0]
    rintro x fr s3 ⟨t3, rfl, hr, ⟨rfl, g1, hall⟩ | ⟨rfl, g2, j, y, hy, hw⟩⟩
    · simp only [Out_, if_true]
      show GoC E _ _ _ _ _
      have w0 := hall 0 d.file rfl
      have w1 := hall 1 d.place rfl
      have w2 := hall 2 d.next rfl
      have L3 := R2.lf.rd hr
      have l0 := L3.get 0 (.int .i64 d.kind) rfl
      have l4 := (L3.rd (Rd.seen s3 s.next)).get 4 (.int .i64 d.size) rfl
      rw [seen_seen] at l4
      have hrs := hr.trans (Rd.seen s3 s.next)
      cases hk : wi d.kind 1 2
      · repeat apply go_seq
        apply go_region
        case h => intro m; simp (maxSteps := 2000000) (disch := decide) only [opsLoop, evOper, wantedA, nth, aop, aPick, aBin, aIndexAddr, aFieldAddr, aLoad, aStore, aExtract, aConvert, aAlloc, aBox, aIndex, callA, builtinA, Fr.evs, opt, val, when, AM.run, outV, newA, ptr, force_eq, seen_heap, seen_next, seen_mark, seen_seen, agg_cells, int_cells, Fr.ev, Fr.put, onFr, gps, gpn, bltT, still, flat, List.append_nil, List.nil_append, List.cons_append, Nat.reduceEqDiff, ne_eq, not_false_eq_true, reduceCtorEq, Bool.and_true, Bool.true_and, Bool.and_false, Bool.false_and, Bool.not_true, Bool.not_false, Bool.and_self, g1, tyLf, dsLf, fl0, fl4, ft0, ft4, fo0, fo4, tyI, szI, ble11, ad0, ad4, l0, l4, tgW, evT_told sgW, withinA_run, hk, u_not]; rfl
        repeat apply go_seq
        apply go_cond
        case hc => simp (disch := decide) only [opsLoop, evOper, wantedA, nth, aop, aPick, aBin, aIndexAddr, aFieldAddr, aLoad, aStore, aExtract, aConvert, aAlloc, aBox, aIndex, callA, builtinA, Fr.evs, opt, val, when, AM.run, outV, newA, ptr, force_eq, seen_heap, seen_next, seen_mark, seen_seen, agg_cells, int_cells, Fr.ev, Fr.put, onFr, gps, gpn, bltT, still, flat, List.append_nil, List.nil_append, List.cons_append, Nat.reduceEqDiff, ne_eq, not_false_eq_true, reduceCtorEq, Bool.and_true, Bool.true_and, Bool.and_false, Bool.false_and, Bool.not_true, Bool.not_false, Bool.and_self]; rfl
        case h2 => intro h; cases h
        intro _
        repeat apply go_seq
        apply go_region
        case h => intro m; simp (maxSteps := 2000000) (disch := decide) only [opsLoop, evOper, wantedA, nth, aop, aPick, aBin, aIndexAddr, aFieldAddr, aLoad, aStore, aExtract, aConvert, aAlloc, aBox, aIndex, callA, builtinA, Fr.evs, opt, val, when, AM.run, outV, newA, ptr, force_eq, seen_heap, seen_next, seen_mark, seen_seen, agg_cells, int_cells, Fr.ev, Fr.put, onFr, gps, gpn, bltT, still, flat, List.append_nil, List.nil_append, List.cons_append, Nat.reduceEqDiff, ne_eq, not_false_eq_true, reduceCtorEq, Bool.and_true, Bool.true_and, Bool.and_false, Bool.false_and, Bool.not_true, Bool.not_false, Bool.and_self]; rfl
        repeat apply go_seq
        apply go_ret
        apply ret_intro rfl rfl
        case run => simp (disch := decide) only [resultsM, resultsA, resR, opsLoop, evOper, wantedA, nth, aop, aPick, aBin, aIndexAddr, aFieldAddr, aLoad, aStore, aExtract, aConvert, aAlloc, aBox, aIndex, callA, builtinA, Fr.evs, opt, val, when, AM.run, outV, newA, ptr, force_eq, seen_heap, seen_next, seen_mark, seen_seen, agg_cells, int_cells, Fr.ev, Fr.put, onFr, gps, gpn, bltT, still, flat, List.append_nil, List.nil_append, List.cons_append, Nat.reduceEqDiff, ne_eq, not_false_eq_true, reduceCtorEq, Bool.and_true, Bool.true_and, Bool.and_false, Bool.false_and, Bool.not_true, Bool.not_false, Bool.and_self]; rfl
        exact ⟨by unfold rightL; rw [hk]; simp, hless _ hrs⟩
      · cases hz : wi d.size 0 116
        · repeat apply go_seq
          apply go_region
          case h => intro m; simp (maxSteps := 2000000) (disch := decide) only [opsLoop, evOper, wantedA, nth, aop, aPick, aBin, aIndexAddr, aFieldAddr, aLoad, aStore, aExtract, aConvert, aAlloc, aBox, aIndex, callA, builtinA, Fr.evs, opt, val, when, AM.run, outV, newA, ptr, force_eq, seen_heap, seen_next, seen_mark, seen_seen, agg_cells, int_cells, Fr.ev, Fr.put, onFr, gps, gpn, bltT, still, flat, List.append_nil, List.nil_append, List.cons_append, Nat.reduceEqDiff, ne_eq, not_false_eq_true, reduceCtorEq, Bool.and_true, Bool.true_and, Bool.and_false, Bool.false_and, Bool.not_true, Bool.not_false, Bool.and_self, g1, tyLf, dsLf, fl0, fl4, ft0, ft4, fo0, fo4, tyI, szI, ble11, ad0, ad4, l0, l4, tgW, evT_told sgW, withinA_run, hk, hz, u_not]; rfl
          repeat apply go_seq
          apply go_cond
          case hc => simp (disch := decide) only [opsLoop, evOper, wantedA, nth, aop, aPick, aBin, aIndexAddr, aFieldAddr, aLoad, aStore, aExtract, aConvert, aAlloc, aBox, aIndex, callA, builtinA, Fr.evs, opt, val, when, AM.run, outV, newA, ptr, force_eq, seen_heap, seen_next, seen_mark, seen_seen, agg_cells, int_cells, Fr.ev, Fr.put, onFr, gps, gpn, bltT, still, flat, List.append_nil, List.nil_append, List.cons_append, Nat.reduceEqDiff, ne_eq, not_false_eq_true, reduceCtorEq, Bool.and_true, Bool.true_and, Bool.and_false, Bool.false_and, Bool.not_true, Bool.not_false, Bool.and_self]; rfl
          case h2 => intro h; cases h
          intro _
          repeat apply go_seq
          apply go_region
          case h => intro m; simp (maxSteps := 2000000) (disch := decide) only [opsLoop, evOper, wantedA, nth, aop, aPick, aBin, aIndexAddr, aFieldAddr, aLoad, aStore, aExtract, aConvert, aAlloc, aBox, aIndex, callA, builtinA, Fr.evs, opt, val, when, AM.run, outV, newA, ptr, force_eq, seen_heap, seen_next, seen_mark, seen_seen, agg_cells, int_cells, Fr.ev, Fr.put, onFr, gps, gpn, bltT, still, flat, List.append_nil, List.nil_append, List.cons_append, Nat.reduceEqDiff, ne_eq, not_false_eq_true, reduceCtorEq, Bool.and_true, Bool.true_and, Bool.and_false, Bool.false_and, Bool.not_true, Bool.not_false, Bool.and_self]; rfl
          repeat apply go_seq
          apply go_ret
          apply ret_intro rfl rfl
          case run => simp (disch := decide) only [resultsM, resultsA, resR, opsLoop, evOper, wantedA, nth, aop, aPick, aBin, aIndexAddr, aFieldAddr, aLoad, aStore, aExtract, aConvert, aAlloc, aBox, aIndex, callA, builtinA, Fr.evs, opt, val, when, AM.run, outV, newA, ptr, force_eq, seen_heap, seen_next, seen_mark, seen_seen, agg_cells, int_cells, Fr.ev, Fr.put, onFr, gps, gpn, bltT, still, flat, List.append_nil, List.nil_append, List.cons_append, Nat.reduceEqDiff, ne_eq, not_false_eq_true, reduceCtorEq, Bool.and_true, Bool.true_and, Bool.and_false, Bool.false_and, Bool.not_true, Bool.not_false, Bool.and_self]; rfl
          exact ⟨by unfold rightL; rw [hz]; simp, hless _ hrs⟩
        · obtain ⟨z, hz2⟩ := Int.eq_ofNat_of_zero_le (wi_iff.1 hz).1
          have hz3 : z ≤ 116 := by have := (wi_iff.1 hz).2; omega
          have hz4 : d.size = Int.ofNat z := hz2
          obtain ⟨a, m, c, s4, q1, q2, q3⟩ := trim_call (L3.rd (Rd.seen s3 s.next)) z hz3
          rw [hz4] at l4
          have hsz : Nat.ble z 116 = true := ble_iff.2 hz3
          repeat apply go_seq
          apply go_region
          case h => intro m; simp (maxSteps := 2000000) (disch := decide) only [opsLoop, evOper, wantedA, nth, aop, aPick, aBin, aIndexAddr, aFieldAddr, aLoad, aStore, aExtract, aConvert, aAlloc, aBox, aIndex, callA, builtinA, Fr.evs, opt, val, when, AM.run, outV, newA, ptr, force_eq, seen_heap, seen_next, seen_mark, seen_seen, agg_cells, int_cells, Fr.ev, Fr.put, onFr, gps, gpn, bltT, still, flat, List.append_nil, List.nil_append, List.cons_append, Nat.reduceEqDiff, ne_eq, not_false_eq_true, reduceCtorEq, Bool.and_true, Bool.true_and, Bool.and_false, Bool.false_and, Bool.not_true, Bool.not_false, Bool.and_self, g1, tyLf, dsLf, fl0, fl4, ft0, ft4, fo0, fo4, tyI, szI, ble11, ad0, ad4, l0, l4, tgW, evT_told sgW, withinA_run, hk, hz4 ▸ hz, u_not]; rfl
          repeat apply go_seq
          apply go_cond
          case hc => simp (disch := decide) only [opsLoop, evOper, wantedA, nth, aop, aPick, aBin, aIndexAddr, aFieldAddr, aLoad, aStore, aExtract, aConvert, aAlloc, aBox, aIndex, callA, builtinA, Fr.evs, opt, val, when, AM.run, outV, newA, ptr, force_eq, seen_heap, seen_next, seen_mark, seen_seen, agg_cells, int_cells, Fr.ev, Fr.put, onFr, gps, gpn, bltT, still, flat, List.append_nil, List.nil_append, List.cons_append, Nat.reduceEqDiff, ne_eq, not_false_eq_true, reduceCtorEq, Bool.and_true, Bool.true_and, Bool.and_false, Bool.false_and, Bool.not_true, Bool.not_false, Bool.and_self]; rfl
          case h1 => intro h; cases h
          intro _
          apply go_skip
          have f5 : Nat.ble z 116 = true := ble_iff.2 hz3
          have f6 : Nat.ble 116 116 = true := rfl
          have f7 : Nat.blt 116 OPEN = true := rfl
          have hv : rightL d = noughts (d.load.drop z) := by
            unfold rightL
            rw [w0, w1, w2, hk, hz, hz4]
            simp
          repeat apply go_seq
          apply go_region
          case h => intro m; simp (maxSteps := 2000000) (disch := decide) only [opsLoop, evOper, wantedA, nth, aop, aPick, aBin, aIndexAddr, aFieldAddr, aLoad, aStore, aExtract, aConvert, aAlloc, aBox, aIndex, callA, builtinA, Fr.evs, opt, val, when, AM.run, outV, newA, ptr, force_eq, seen_heap, seen_next, seen_mark, seen_seen, agg_cells, int_cells, Fr.ev, Fr.put, onFr, gps, gpn, bltT, still, flat, List.append_nil, List.nil_append, List.cons_append, Nat.reduceEqDiff, ne_eq, not_false_eq_true, reduceCtorEq, Bool.and_true, Bool.true_and, Bool.and_false, Bool.false_and, Bool.not_true, Bool.not_false, Bool.and_self, g1, tyLf, dsLf, fl4, fl5, ft4, ft5, fo4, fo5, tyI, szI, tyA, dsA, szA, tyU8, szU8, tyB, dsB, ble11, ble1A, ad4, ad5, l4, aSlice, lowHigh, intOf?, sliceP, f5, f6, f7, tgT, evT_told sgT, q1, b_eql, int0, q3]; rfl
          repeat apply go_seq
          apply go_ret
          apply ret_intro rfl rfl
          case run => simp (disch := decide) only [resultsM, resultsA, resR, opsLoop, evOper, wantedA, nth, aop, aPick, aBin, aIndexAddr, aFieldAddr, aLoad, aStore, aExtract, aConvert, aAlloc, aBox, aIndex, callA, builtinA, Fr.evs, opt, val, when, AM.run, outV, newA, ptr, force_eq, seen_heap, seen_next, seen_mark, seen_seen, agg_cells, int_cells, Fr.ev, Fr.put, onFr, gps, gpn, bltT, still, flat, List.append_nil, List.nil_append, List.cons_append, Nat.reduceEqDiff, ne_eq, not_false_eq_true, reduceCtorEq, Bool.and_true, Bool.true_and, Bool.and_false, Bool.false_and, Bool.not_true, Bool.not_false, Bool.and_self]; rfl
          exact ⟨by rw [hv], hless _ (hrs.trans q2)⟩
    · simp only [Out_, Then]
      apply ret_intro rfl rfl
      case run => simp (disch := decide) only [resultsM, resultsA, resR, opsLoop, evOper, wantedA, nth, aop, aPick, aBin, aIndexAddr, aFieldAddr, aLoad, aStore, aExtract, aConvert, aAlloc, aBox, aIndex, callA, builtinA, Fr.evs, opt, val, when, AM.run, outV, newA, ptr, force_eq, seen_heap, seen_next, seen_mark, seen_seen, agg_cells, int_cells, Fr.ev, Fr.put, onFr, gps, gpn, bltT, still, flat, List.append_nil, List.nil_append, List.cons_append, Nat.reduceEqDiff, ne_eq, not_false_eq_true, reduceCtorEq, Bool.and_true, Bool.true_and, Bool.and_false, Bool.false_and, Bool.not_true, Bool.not_false, Bool.and_self, g2]; rfl
      exact ⟨by rw [rightL_three hy hw], hless _ hr⟩
  · cases h
end Go.Proofs.YtgofanjbhbeniaaDoor.lf
end
end

section
/- Leaves: rules for parts of a region; bytes that are put behind others; the sum of bytes as a list has it; bytes closed with their sum. -/
noncomputable section
namespace Go.Proofs.YtgofanjbhbeniaaDoor.lf
open AE
set_option linter.unusedSimpArgs false
set_option linter.unusedVariables false
set_option maxRecDepth 10000

/-! a region in parts -/
def GoO (σ : Sums) (all l : List Oper) (fr : Fr) (s : S) (Q : Fr → S → Prop) : Prop := ∃ fr' s', Q fr' s' ∧ ∀ m, opsLoop (evT E σ (m + 1)) E all l fr s = some (fr', s')
theorem go_ops {σ : Sums} {id : Nat} {ops : Array Oper} {fr : Fr} {s : S} {Q : Ex → Fr → S → Prop} (h : GoO σ ops.toList ops.toList fr s (fun fr s => Q .normal fr s)) : GoC E σ (.region id ops false) fr s Q := by
  obtain ⟨fr', s', hq, h⟩ := h
  exact go_region h hq
theorem opsLoop_app {rc : Rec} {all : List Oper} : ∀ (a b : List Oper) (fr : Fr) (s : S), opsLoop rc E all (a ++ b) fr s = match opsLoop rc E all a fr s with | some (fr, s) => opsLoop rc E all b fr s | none => none
  | [], b, fr, s => rfl
  | o :: a, b, fr, s => by
    simp only [List.cons_append, opsLoop]
    cases evOper rc E false all o fr s with
    | none => rfl
    | some p => exact opsLoop_app a b p.1 p.2
theorem go_take {σ : Sums} {all l : List Oper} {fr fr1 : Fr} {s s1 : S} {Q : Fr → S → Prop} (n : Nat) (h : ∀ m, opsLoop (evT E σ (m + 1)) E all (l.take n) fr s = some (fr1, s1)) (hq : GoO σ all (l.drop n) fr1 s1 Q) : GoO σ all l fr s Q := by
  obtain ⟨fr', s', hq, h2⟩ := hq
  refine ⟨fr', s', hq, fun m => ?_⟩
  have e : l = l.take n ++ l.drop n := (List.take_append_drop n l).symm
  rw [e, opsLoop_app, h m]
  exact h2 m
theorem go_done {σ : Sums} {all : List Oper} {fr : Fr} {s : S} {Q : Fr → S → Prop} (h : Q fr s) : GoO σ all [] fr s Q := ⟨fr, s, h, fun _ => rfl⟩

/-! bytes behind others -/
theorem len_b (a : Option Addr) (n c : Nat) : builtinA E .len #[51] [.slice a n c] = AE.val (.int .i64 (.ofNat n)) := by
  simp only [builtinA, tyB, opt, dsB]
theorem len_i (a : Option Addr) (n c : Nat) : builtinA E .len #[43] [.slice a n c] = AE.val (.int .i64 (.ofNat n)) := by
  simp only [builtinA, tyL, opt, dsL]
theorem bv_one (x : UInt8) : oneB (bv x) = true := rfl
theorem bvs_one : ∀ l : List UInt8, allOne (l.map bv) = true
  | [] => rfl
  | x :: l => by simp only [List.map_cons, allOne, bv_one, bvs_one l]
theorem loadA_run {β : Type} {s : S} {ad : Addr} {l : List UInt8} (h : Bs s ad l) (k : List Value → AM β) : (loadA ad l.length k).run s = (k (l.map bv)).run (s.seen ad.block) := by
  obtain ⟨c, m, h1, h2, h3⟩ := h.cell
  have h4 := rd_row h3
  rw [List.length_map] at h4
  unfold loadA
  rw [h.spot]
  rcases h1 with ⟨e, rm, h1⟩ | ⟨e, h1⟩
  all_goals
    simp only [AM.run, blt_iff.2 h.lt, h1, when, show Nat.ble (Nat.add ad.off l.length) m = true from ble_iff.2 h2, opt, h4]
    rfl
theorem storeA_run {β : Type} {s : S} {N o m : Nat} {vs : List Value} {c : Tr Value} {e : TypeId} {rm : Room} (k : AM β) (h1 : allOne vs = true) (hlt : N < s.next) (hN : Nat.ble N lastName = true) (hg : s.heap.get N = some (.cells c m e rm)) (ho : o + vs.length ≤ m) (hm : m ≤ 1000000000) :
    (storeA ⟨N, o, none⟩ vs k).run s = k.run ((s.seen N).turn N (some (.cells (wrCells c o vs) m e rm))) := by
  have h6 : Nat.ble m lastName = true := ble_iff.2 (by unfold lastName; omega)
  unfold storeA
  simp only [h1, when, AM.run, blt_iff.2 hlt, hg, show Nat.ble (Nat.add o vs.length) m = true from ble_iff.2 ho, h6, hN, Bool.and_self]
  rfl
theorem append_b {s : S} {N len cap n c2 m : Nat} {ad : Addr} {l : List UInt8} {c : Tr Value} {e : TypeId} {rm : Room} (hb : Bs s ad l) (hn : l.length = n) (hn0 : 0 < n) (hlt : N < s.next) (hg : s.heap.get N = some (.cells c m e rm)) (hN : Nat.ble N lastName = true)
    (hc1 : len + n ≤ cap) (hc2 : cap ≤ m) (hm : m ≤ 1000000000) (hmax : len + n ≤ 1000000) :
    ∃ s1, (builtinA E .append #[51, 51] [.slice (some ⟨N, 0, none⟩) len cap, .slice (some ad) n c2]).run s = some (.value (.slice (some ⟨N, 0, none⟩) (len + n) cap), s1) ∧
      s1.heap = s.heap.put N (some (.cells (wrCells c len (l.map bv)) m e rm)) ∧ s1.next = s.next ∧ s1.mark = s.mark := by
  subst hn
  obtain ⟨x, l', rfl⟩ : ∃ x l', l = x :: l' := by
    cases l with
    | nil => simp at hn0
    | cons x l' => exact ⟨x, l', rfl⟩
  have h1 : Nat.ble OPEN cap = false := ble_f (by unfold OPEN; omega)
  have h2 : Nat.ble (Nat.add len (x :: l').length) cap = true := ble_iff.2 hc1
  have h3 : Nat.ble (Nat.add len (x :: l').length) maxNeed = true := ble_iff.2 (by show len + _ ≤ maxNeed; unfold maxNeed; omega)
  have h8 : addA ⟨N, 0, none⟩ (Nat.mul len 1) = ⟨N, len, none⟩ := by rw [mul1, add0]
  refine ⟨((s.seen ad.block).seen N).turn N (some (.cells (wrCells c len ((x :: l').map bv)) m e rm)), ?_, rfl, rfl, rfl⟩
  have e1 : builtinA E .append #[51, 51] [.slice (some ⟨N, 0, none⟩) len cap, .slice (some ad) (x :: l').length c2] = appendA 1 1 1 5 (some ⟨N, 0, none⟩) len cap (x :: l').length (.slice (some ad) (x :: l').length c2) := by
    simp only [builtinA, tyB, dsB, opt, tyU8, zeU8, szU8, byU8, lenA, int_cells]
    rfl
  rw [e1]
  unfold appendA
  simp only [h3, when, show Nat.ble 1 1 = true from rfl, show Nat.ble 1 1024 = true from rfl, Bool.and_self]
  have e2 : ∀ k : List Value → AM ANext, firstA 1 (x :: l').length (.slice (some ad) (x :: l').length c2) k = loadA ad (x :: l').length k := fun k => by
    show loadA ad (Nat.mul (x :: l').length 1) k = _
    rw [mul1]
  rw [e2, loadA_run hb]
  simp only [h1, h2]
  show (storeA (addA ⟨N, 0, none⟩ (Nat.mul len 1)) ((x :: l').map bv) (AE.val (.slice (some ⟨N, 0, none⟩) (Nat.add len (x :: l').length) cap))).run (s.seen ad.block) = _
  rw [h8, storeA_run (s := s.seen ad.block) _ (bvs_one _) hlt hN hg (by rw [List.length_map]; omega) hm]
  rfl

/-! the sum, over lists -/
def crcR : List UInt8 → Nat → Nat
  | [], r => r
  | x :: l, r => crcR l (crcByte r x.toNat)
theorem crcVals_map : ∀ (l : List UInt8) (r : Nat), crcVals (l.map bv) r = some (crcR l r)
  | [], r => rfl
  | x :: l, r => by
    have h : Nat.blt x.toNat 256 = true := blt_iff.2 x.toNat_lt
    simp only [List.map_cons, bv, crcVals, h, force_eq, crcR]
    exact crcVals_map l _
def crc32 (l : List UInt8) : Nat := Nat.xor 4294967295 (crcR l 4294967295)
theorem crcA_run {s : S} {ad : Addr} {l : List UInt8} (h : Bs s ad l) (h0 : 0 < l.length) (hl : l.length ≤ 1000000) (cap : Nat) : (crcA [.slice (some ad) l.length cap]).run s = some (.int .u32 (.ofNat (crc32 l)), s.seen ad.block) := by
  obtain ⟨x, l', rfl⟩ : ∃ x l', l = x :: l' := by
    cases l with
    | nil => simp at h0
    | cons x l' => exact ⟨x, l', rfl⟩
  have h1 : Nat.blt l'.length 1099511627776 = true := blt_iff.2 (by simp at hl; omega)
  show (when (Nat.blt l'.length 1099511627776) <| loadA ad (x :: l').length fun cs => opt (crcVals cs 4294967295) fun r => .pure (Value.int .u32 (.ofNat (Nat.xor 4294967295 r)))).run s = _
  simp only [h1, when]
  rw [loadA_run h, crcVals_map]
  rfl
theorem told_sum : AE.Told Tryd.prog 44 crcA :=
  told_of_sum hE hmix fun args s v s' h => sum.sum_ev ⟨⟨tiB, tyB, dsB⟩, ⟨tiU8, tyU8, dsU8, szU8⟩, ⟨tiU32, tyU32, dsU32⟩⟩ (by kernel_rfl) h
end Go.Proofs.YtgofanjbhbeniaaDoor.lf
end
end

section
/- Leaves: bytes closed with their sum: told. -/
noncomputable section
namespace Go.Proofs.YtgofanjbhbeniaaDoor.lf
open AE
set_option linter.unusedSimpArgs false
set_option linter.unusedVariables false
set_option maxRecDepth 10000

theorem b_shrN (c k : Nat) (hk : k ≤ 32) : ∀ E t, binA E .shr t (.int .u32 (.ofNat c)) (.int .u64 (.ofNat k)) = some (.int .u32 (.ofNat (c >>> k))) := by
  intro E t
  show some (Value.int .u32 (Int.fdiv (.ofNat c) (pow2 (minN k 32)))) = _
  have h : minN k 32 = k := by rw [minN_eq]; omega
  rw [h]
  have h2 : Int.fdiv (.ofNat c) (pow2 k) = Int.ofNat (c >>> k) := by
    rw [Nat.shiftRight_eq_div_pow]
    unfold pow2
    show Int.fdiv ((c : Nat) : Int) ((2 ^ k : Nat) : Int) = ((c / 2 ^ k : Nat) : Int)
    rw [Int.fdiv_eq_ediv_of_nonneg _ (Int.natCast_nonneg _)]
    rfl
  rw [h2]
theorem cv8 (c : Nat) : Value.int .u8 (wrapA .u8 (.ofNat c)) = bv (UInt8.ofNat c) := by
  unfold bv
  rw [UInt8.toNat_ofNat']
  rfl
theorem bv_cells (x : UInt8) : (bv x).cells.toList = [bv x] := rfl
theorem fill4 (a b c d : UInt8) : fillA (placeA 1) [(0, bv a), (1, bv b), (2, bv c), (3, bv d)] (repeatL [Value.int .u8 (Int.ofNat 0)] 4) = some [bv a, bv b, bv c, bv d] := rfl
theorem fill2 (a b : UInt8) : fillA (placeA 1) [(0, bv a), (1, bv b)] (repeatL [Value.int .u8 (Int.ofNat 0)] 2) = some [bv a, bv b] := rfl
theorem repeat_len (v : Value) : ∀ n, (repeatL [v] n).length = n
  | 0 => rfl
  | n + 1 => by simp only [repeatL, List.cons_append, List.nil_append, List.length_cons, repeat_len v n]

def sum4 (c : Nat) : List UInt8 := [UInt8.ofNat c, UInt8.ofNat (c >>> 8), UInt8.ofNat (c >>> 16), UInt8.ofNat (c >>> 24)]
def closeL (l : List UInt8) : List UInt8 := l ++ sum4 (crc32 l)
theorem closeL_len (l : List UInt8) : (closeL l).length = l.length + 4 := by simp [closeL, sum4]
/-- bytes, new in memory -/
def newB (l : List UInt8) (k : Nat → AM Value) : AM Value := .new (.cells (Tr.ofList (l.map bv)) l.length 5 .whole) k
def closeA : List Value → AM Value
  | [.slice (some ad) n cap] => when (Nat.ble 1 n && Nat.ble n 1000) (loadA ad n fun cs => opt (bytesV cs) fun l => newB (closeL l) fun r => bump 1 (.pure (.slice (some ⟨r, 0, none⟩) (n + 4) (n + 4))))
  | _ => .fail
abbrev sigC : List (Nat × (List Value → AM Value)) := [(44, crcA)]
theorem tolds_C : Tolds Tryd.prog (sumsOf sigC) := tolds_cons told_sum tolds_nil
theorem sgS : sumsOf sigC 44 = some crcA := rfl
noncomputable def fiS : FI := FI.of Tryd.f44
noncomputable def cdS : Code := bodyOf Tryd.f44
theorem tgS : ∀ a b, targetA E (.func 44) a b = .pure (.enter 44 (b ++ a)) := tgt (fi := fiS) (c := cdS) (by kernel_rfl) (by kernel_rfl)
noncomputable def fiC : FI := FI.of Tryd.f38
noncomputable def cdC : Code := bodyOf Tryd.f38
theorem resC : fiC.results = [.tmp 2] := rfl

/-- what a new object leaves -/
theorem new_run {β : Type} {o : AObj} {k : Nat → AM β} {s : S} {r : β × S} (h : (AM.new o k).run s = some r) : Nat.ble s.next lastName = true ∧ (k s.next).run (s.grow o) = some r := by
  refine ⟨?_, (run_new h).2⟩
  simp only [AM.run, force_eq] at h
  cases hh : Nat.ble s.next lastName with
  | true => rfl
  | false => rw [hh] at h; cases h

theorem Bs.keep {s s1 : S} {ad : Addr} {l : List UInt8} (h : Bs s ad l) (hn : s.next ≤ s1.next) (hg : s1.heap.get ad.block = s.heap.get ad.block) : Bs s1 ad l :=
  ⟨h.spot, by have := h.lt; omega, by obtain ⟨c, m, h1, h2⟩ := h.cell; exact ⟨c, m, h1.of hg, h2⟩⟩
theorem sub_row {c : Tr Value} {L : List Value} (h : Row c 0 L) (hl : L.length ≤ Tr.wide) : ∀ i v, (Tr.ofList L).get i = some v → c.get i = some v := by
  intro i v hi
  rw [get_ofList L i hl] at hi
  have := h i v hi
  rwa [Nat.zero_add] at this
theorem bs_new {s : S} {n : Nat} {l : List UInt8} {e : TypeId} {rm : Room} (hlt : n < s.next) (hg : s.heap.get n = some (.cells (Tr.ofList (l.map bv)) l.length e rm)) (hl : l.length ≤ 1000000) : Bs s ⟨n, 0, none⟩ l :=
  ⟨rfl, hlt, _, _, .inl ⟨_, _, hg⟩, by show 0 + l.length ≤ l.length; omega, row_ofList _ (by rw [List.length_map]; unfold Tr.wide; omega)⟩

set_option maxHeartbeats 400000 in
theorem told_close : AE.Told Tryd.prog 38 closeA := by
  refine told_go hE hmix tolds_C ?_
  intro args s v s' h hm
  unfold closeA at h
  split at h
  · rename_i ad n cap
    obtain ⟨hc, h2⟩ := run_when h
    simp only [Bool.and_eq_true] at hc
    have hn1 := ble_iff.1 hc.1
    have hn2 := ble_iff.1 hc.2
    obtain ⟨l, rfl, hb, h3⟩ := bs_of_load h2
    obtain ⟨hN0, h4⟩ := new_run h3
    obtain ⟨s9, h5, hn9, hm9, hh9, hbl⟩ := bump_run 1 _ _ _ h4
    have hN1 : Nat.ble (s.next + 1) lastName = true := hbl 0 (by omega)
    cases h5
    clear h h2 h3 h4
    have hN0 : Nat.ble s.next lastName = true := hN0
    have hn9 : s'.next = s.next + 2 := hn9
    have hh9 : ∀ m, s'.heap.get m = if s.next + 1 ≤ m ∧ m < s.next + 2 then none else (s.heap.put s.next (some (.cells (Tr.ofList ((closeL l).map bv)) (closeL l).length 5 .whole))).get m := hh9
    refine go_enter (fi := fiC) (c := cdC) (by kernel_rfl) (by kernel_rfl) 27 rfl rfl ?_
    have h0 : (Tr.ofList [Value.slice (some ad) l.length cap]).get 0 = some (.slice (some ad) l.length cap) := rfl
    generalize Tr.ofList [Value.slice (some ad) l.length cap] = t at *
    simp only [cdC, Tryd.f38, bodyOf]
    have hcrc := crcA_run hb (by omega) (by omega) cap
    have hadd : ∀ E t, binA E .add t (.int .i64 (.ofNat l.length)) (.int .i64 (.ofNat 4)) = some (.int .i64 (.ofNat (l.length + 4))) := by
      intro E t
      show some (Value.int .i64 (wrapA .i64 (.ofNat (l.length + 4)))) = _
      rw [wrap64 (by omega)]
    have k1 : Nat.ble 0 (l.length + 4) = true := rfl
    have k2 : Nat.ble (l.length + 4) maxNeed = true := ble_iff.2 (by unfold maxNeed; omega)
    have k3 : Nat.ble (repeatL [Value.int .u8 (Int.ofNat 0)] (l.length + 4)).length lastName = true := by rw [repeat_len]; exact ble_iff.2 (by unfold lastName; omega)
    have int4 : (4 : Int) = Int.ofNat 4 := rfl
    repeat apply go_seq
    apply go_region
    case h => intro m; simp (maxSteps := 2000000) (disch := decide) only [opsLoop, evOper, wantedA, nth, aop, aPick, aBin, aIndexAddr, aFieldAddr, aLoad, aStore, aExtract, aConvert, aAlloc, aBox, aIndex, callA, builtinA, Fr.evs, opt, val, when, AM.run, outV, newA, ptr, force_eq, seen_heap, seen_next, seen_mark, seen_seen, agg_cells, int_cells, Fr.ev, Fr.put, onFr, gps, gpn, bltT, still, flat, List.append_nil, List.nil_append, List.cons_append, Nat.reduceEqDiff, ne_eq, not_false_eq_true, reduceCtorEq, Bool.and_true, Bool.true_and, Bool.and_false, Bool.false_and, Bool.not_true, Bool.not_false, Bool.and_self]; rfl
    repeat apply go_seq
    apply go_region
    case h => intro m; simp (maxSteps := 2000000) (disch := decide) only [opsLoop, evOper, wantedA, nth, aop, aPick, aBin, aIndexAddr, aFieldAddr, aLoad, aStore, aExtract, aConvert, aAlloc, aBox, aIndex, callA, builtinA, Fr.evs, opt, val, when, AM.run, outV, newA, ptr, force_eq, seen_heap, seen_next, seen_mark, seen_seen, agg_cells, int_cells, Fr.ev, Fr.put, onFr, gps, gpn, bltT, still, flat, List.append_nil, List.nil_append, List.cons_append, Nat.reduceEqDiff, ne_eq, not_false_eq_true, reduceCtorEq, Bool.and_true, Bool.true_and, Bool.and_false, Bool.false_and, Bool.not_true, Bool.not_false, Bool.and_self, h0, tgS, evT_told sgS, hcrc]; rfl
    repeat apply go_seq
    apply go_region
    case h => intro m; simp (disch := decide) only [opsLoop, evOper, wantedA, nth, aop, aPick, aBin, aIndexAddr, aFieldAddr, aLoad, aStore, aExtract, aConvert, aAlloc, aBox, aIndex, callA, Fr.evs, opt, val, when, AM.run, outV, newA, ptr, force_eq, seen_heap, seen_next, seen_mark, seen_seen, agg_cells, int_cells, Fr.ev, Fr.put, onFr, gps, gpn, bltT, still, flat, List.append_nil, List.nil_append, List.cons_append, Nat.reduceEqDiff, ne_eq, not_false_eq_true, reduceCtorEq, Bool.and_true, Bool.true_and, Bool.and_false, Bool.false_and, Bool.not_true, Bool.not_false, Bool.and_self, h0, len_b, int0, int4, hadd, aMakeSlice, tyB, dsB, tyU8, zeU8, szU8, byU8, k1, k2, k3, hN0, show Nat.ble 1 1024 = true from rfl, show Nat.ble 1 1 = true from rfl, show Nat.beq ([Value.int .u8 (Int.ofNat 0)] : List Value).length 1 = true from rfl]; rfl
    generalize hs1 : S.mk _ _ _ _ _ = s1
    have e1 : s1.next = s.next + 1 := by rw [← hs1]
    have e1h : s1.heap = s.heap.put s.next (some (.cells (Tr.ofList (repeatL [Value.int .u8 (Int.ofNat 0)] (l.length + 4))) (repeatL [Value.int .u8 (Int.ofNat 0)] (l.length + 4)).length 5 .whole)) := by rw [← hs1]
    rw [repeat_len] at e1h
    clear hs1
    have hbl := hb.lt
    have hne : ad.block ≠ s.next := by omega
    have B1 : Bs s1 ad l := hb.keep (by omega) (by rw [e1h, hg_far hN0 hne])
    have c1 : s1.heap.get s.next = some (.cells (Tr.ofList (repeatL [Value.int .u8 (Int.ofNat 0)] (l.length + 4))) (l.length + 4) 5 .whole) := by rw [e1h]; exact hg_same hN0 _ _
    obtain ⟨s2, a2, e2h, e2, e2m⟩ := append_b (len := 0) (cap := l.length + 4) (c2 := cap) B1 rfl (by omega) (by omega) c1 hN0 (by omega) (by omega) (by omega) (by omega)
    rw [Nat.zero_add] at a2
    repeat apply go_seq
    apply go_ops
    apply go_take 3
    case h => intro m; simp (disch := decide) only [List.take, opsLoop, evOper, wantedA, nth, aop, aPick, aBin, aIndexAddr, aFieldAddr, aLoad, aStore, aExtract, aConvert, aAlloc, aBox, aIndex, callA, Fr.evs, opt, val, when, AM.run, outV, newA, ptr, force_eq, seen_heap, seen_next, seen_mark, seen_seen, agg_cells, int_cells, Fr.ev, Fr.put, onFr, gps, gpn, bltT, still, flat, List.append_nil, List.nil_append, List.cons_append, Nat.reduceEqDiff, ne_eq, not_false_eq_true, reduceCtorEq, Bool.and_true, Bool.true_and, Bool.and_false, Bool.false_and, Bool.not_true, Bool.not_false, Bool.and_self, h0, a2]; rfl
    simp only [List.drop]
    have g8 := b_shrN (crc32 l) 8 (by omega)
    have g16 := b_shrN (crc32 l) 16 (by omega)
    have g24 := b_shrN (crc32 l) 24 (by omega)
    have f4 := fill4 (UInt8.ofNat (crc32 l)) (UInt8.ofNat (crc32 l >>> 8)) (UInt8.ofNat (crc32 l >>> 16)) (UInt8.ofNat (crc32 l >>> 24))
    have hN1' : Nat.ble s2.next lastName = true := by rw [e2, e1]; exact hN1
    have i8 : (8 : Int) = Int.ofNat 8 := rfl
    have i16 : (16 : Int) = Int.ofNat 16 := rfl
    have i24 : (24 : Int) = Int.ofNat 24 := rfl
    apply go_take 12
    case h => intro m; simp (disch := decide) only [List.take, opsLoop, evOper, wantedA, nth, aop, aPick, aBin, aIndexAddr, aFieldAddr, aLoad, aStore, aExtract, aConvert, aAlloc, aBox, aIndex, callA, Fr.evs, opt, val, when, AM.run, outV, newA, ptr, force_eq, seen_heap, seen_next, seen_mark, seen_seen, agg_cells, int_cells, Fr.ev, Fr.put, onFr, gps, gpn, bltT, still, flat, List.append_nil, List.nil_append, List.cons_append, Nat.reduceEqDiff, ne_eq, not_false_eq_true, reduceCtorEq, Bool.and_true, Bool.true_and, Bool.and_false, Bool.false_and, Bool.not_true, Bool.not_false, Bool.and_self, tyU8, tyU32, dsU8, dsU32, i8, i16, i24, g8, g16, g24, cv8, aBuildSlice, evParts, tyB, dsB, zeU8, szU8, byU8, int0, f4, hN1', show Nat.ble (Nat.mul 4 1) 1048576 = true from rfl, show Nat.beq ([Value.int .u8 (Int.ofNat 0)] : List Value).length 1 = true from rfl, show Nat.ble 1 1 = true from rfl, show ∀ a b c d : Value, Nat.ble ([a, b, c, d] : List Value).length lastName = true from fun _ _ _ _ => rfl]; rfl
    simp only [List.drop]
    generalize hs3 : S.mk _ _ _ _ _ = s3
    have e3 : s3.next = s.next + 2 := by rw [← hs3]; show s2.next + 1 = _; omega
    have e3h : s3.heap = s2.heap.put s2.next (some (.cells (Tr.ofList [bv (UInt8.ofNat (crc32 l)), bv (UInt8.ofNat (crc32 l >>> 8)), bv (UInt8.ofNat (crc32 l >>> 16)), bv (UInt8.ofNat (crc32 l >>> 24))]) (List.length [bv (UInt8.ofNat (crc32 l)), bv (UInt8.ofNat (crc32 l >>> 8)), bv (UInt8.ofNat (crc32 l >>> 16)), bv (UInt8.ofNat (crc32 l >>> 24))]) 5 .whole)) := by rw [← hs3]
    have hL4 : [bv (UInt8.ofNat (crc32 l)), bv (UInt8.ofNat (crc32 l >>> 8)), bv (UInt8.ofNat (crc32 l >>> 16)), bv (UInt8.ofNat (crc32 l >>> 24))] = (sum4 (crc32 l)).map bv := rfl
    rw [hL4, List.length_map] at e3h
    clear hs3
    have h21 : s2.next = s.next + 1 := by omega
    rw [h21] at e3h
    have c2 : s2.heap.get s.next = some (.cells (wrCells (Tr.ofList (repeatL [Value.int .u8 (Int.ofNat 0)] (l.length + 4))) 0 (l.map bv)) (l.length + 4) 5 .whole) := by rw [e2h]; exact hg_same hN0 _ _
    have c3 : s3.heap.get s.next = some (.cells (wrCells (Tr.ofList (repeatL [Value.int .u8 (Int.ofNat 0)] (l.length + 4))) 0 (l.map bv)) (l.length + 4) 5 .whole) := by
      rw [e3h, hg_far hN1 (by omega)]; exact c2
    have B3 : Bs s3 ⟨s.next + 1, 0, none⟩ (sum4 (crc32 l)) := bs_new (by omega) (by rw [e3h]; exact hg_same hN1 _ _) (by simp [sum4])
    obtain ⟨s4, a4, e4h, e4, e4m⟩ := append_b (len := l.length) (cap := l.length + 4) (c2 := 4) (n := 4) B3 rfl (by omega) (by omega) c3 hN0 (by omega) (by omega) (by omega) (by omega)
    rw [← h21] at a4
    apply go_take 2
    case h => intro m; simp (disch := decide) only [List.take, opsLoop, evOper, wantedA, nth, aop, aPick, aBin, aIndexAddr, aFieldAddr, aLoad, aStore, aExtract, aConvert, aAlloc, aBox, aIndex, callA, Fr.evs, opt, val, when, AM.run, outV, newA, ptr, force_eq, seen_heap, seen_next, seen_mark, seen_seen, agg_cells, int_cells, Fr.ev, Fr.put, onFr, gps, gpn, bltT, still, flat, List.append_nil, List.nil_append, List.cons_append, Nat.reduceEqDiff, ne_eq, not_false_eq_true, reduceCtorEq, Bool.and_true, Bool.true_and, Bool.and_false, Bool.false_and, Bool.not_true, Bool.not_false, Bool.and_self, a4]; rfl
    simp only [List.drop]
    apply go_done
    repeat apply go_seq
    apply go_ret
    apply ret_intro rfl rfl
    case run => simp (disch := decide) only [resultsM, resultsA, resC, opsLoop, evOper, wantedA, nth, aop, aPick, aBin, aIndexAddr, aFieldAddr, aLoad, aStore, aExtract, aConvert, aAlloc, aBox, aIndex, callA, builtinA, Fr.evs, opt, val, when, AM.run, outV, newA, ptr, force_eq, seen_heap, seen_next, seen_mark, seen_seen, agg_cells, int_cells, Fr.ev, Fr.put, onFr, gps, gpn, bltT, still, flat, List.append_nil, List.nil_append, List.cons_append, Nat.reduceEqDiff, ne_eq, not_false_eq_true, reduceCtorEq, Bool.and_true, Bool.true_and, Bool.and_false, Bool.false_and, Bool.not_true, Bool.not_false, Bool.and_self]; rfl
    refine ⟨rfl, by rw [e4, e3, hn9]; exact Nat.le_refl _, ?_⟩
    intro m o ho
    rw [hh9] at ho
    by_cases h1 : s.next + 1 ≤ m ∧ m < s.next + 2
    · rw [if_pos h1] at ho; cases ho
    · rw [if_neg h1] at ho
      by_cases h2 : m = s.next
      · subst h2
        rw [hg_same hN0] at ho
        cases ho
        have hw : Row (wrCells (wrCells (Tr.ofList (repeatL [Value.int .u8 (Int.ofNat 0)] (l.length + 4))) 0 (l.map bv)) l.length ((sum4 (crc32 l)).map bv)) 0 ((closeL l).map bv) := by
          have hwide : l.length + 4 ≤ Tr.wide := by unfold Tr.wide; omega
          unfold closeL
          rw [List.map_append]
          refine row_app (row_wr_far ?_ (row_wr ?_) (.inl ?_)) ?_
          · rw [List.length_map]; exact hwide
          · rw [List.length_map]; omega
          · rw [List.length_map]; omega
          · rw [List.length_map, Nat.zero_add]
            exact row_wr (by rw [List.length_map]; exact hwide)
        refine ⟨_, by rw [e4h]; exact hg_same hN0 _ _, ?_⟩
        rw [closeL_len]
        exact .cells fun i v hi _ => sub_row hw (by rw [List.length_map, closeL_len]; unfold Tr.wide; omega) i v hi
      · rw [hg_far hN0 h2] at ho
        refine ⟨o, ?_, .refl o⟩
        rw [e4h, hg_far hN0 h2, e3h, hg_far hN1 (by omega), e2h, hg_far hN0 h2, e1h, hg_far hN0 h2]
        exact ho
  · cases h
end Go.Proofs.YtgofanjbhbeniaaDoor.lf
end
end

section
/- Leaves: a leaf as a block's bytes: the parts of its walk. -/
noncomputable section
namespace Go.Proofs.YtgofanjbhbeniaaDoor.lf
open AE
set_option linter.unusedSimpArgs false
set_option linter.unusedVariables false
set_option maxRecDepth 10000

theorem bump_ok {α : Type} : ∀ (n : Nat) (k : AM α) (s : S), (∀ i, i < n → Nat.ble (s.next + i) lastName = true) → ∃ s1, (bump n k).run s = k.run s1 ∧ s1.next = s.next + n ∧ s1.mark = s.mark ∧ ∀ m, s1.heap.get m = if s.next ≤ m ∧ m < s.next + n then none else s.heap.get m
  | 0, k, s, h => ⟨s, rfl, rfl, rfl, fun m => by rw [if_neg (by omega)]⟩
  | n + 1, k, s, h => by
    have h0 : Nat.ble s.next lastName = true := h 0 (by omega)
    have h7 : ∀ i, (S.turn (s.grow (.deferred none)) s.next none).next + i = s.next + (i + 1) := fun i => by show s.next + 1 + i = _; omega
    obtain ⟨s1, e1, e2, e3, e4⟩ := bump_ok n k (S.turn (s.grow (.deferred none)) s.next none) (fun i hi => by rw [h7]; exact h (i + 1) (by omega))
    refine ⟨s1, ?_, by rw [e2]; show s.next + 1 + n = _; omega, by rw [e3]; rfl, ?_⟩
    · rw [← e1]
      have hb : Nat.blt s.next (Nat.succ s.next) = true := blt_iff.2 (Nat.lt_succ_self _)
      have hg := hg_same h0 s.heap (some (AObj.deferred none))
      simp only [bump, AM.run, force_eq, h0, hb, Bool.and_self, hg]
      rfl
    · intro m
      rw [e4 m]
      show (if s.next + 1 ≤ m ∧ m < s.next + 1 + n then none else ((s.heap.put s.next (some (.deferred none))).put s.next none).get m) = _
      by_cases hm : m = s.next
      · subst hm
        rw [if_neg (by omega), hg_same h0, if_pos (by omega)]
      · rw [hg_far h0 hm, hg_far h0 hm]
        by_cases h5 : s.next + 1 ≤ m ∧ m < s.next + 1 + n
        · rw [if_pos h5, if_pos (by omega)]
        · rw [if_neg h5, if_neg (by omega)]
theorem rightA_run {s : S} {d : LeafD} (hlen : d.load.length = 116) (h : ∀ i, i < 2 → Nat.ble (s.next + i) lastName = true) :
    ∃ s1, (rightA [.agg ⟨d.cells⟩]).run s = some (.bool (rightL d), s1) ∧ s1.next = s.next + 2 ∧ ∀ m, s1.heap.get m = if s.next ≤ m ∧ m < s.next + 2 then none else s.heap.get m := by
  obtain ⟨s1, e1, e2, e3, e4⟩ := bump_ok 2 (AM.pure (Value.bool (rightL d))) s h
  refine ⟨s1, ?_, e2, e4⟩
  show (opt (leafOf d.cells) fun d => bump 2 (.pure (Value.bool (rightL d)))).run s = _
  rw [leafOf_cells d hlen]
  exact e1
theorem LfAt.load {s : S} {n : Nat} {d : LeafD} (h : LfAt s n d) : (loadT tiLf ⟨n, 0, none⟩ AE.val).run s = some (.value (.agg ⟨d.cells⟩), s.seen n) := by
  obtain ⟨c, e, rm, h1, h2⟩ := h.cell
  have h4 := rd_row h2
  rw [d.len h.len] at h4
  unfold loadT loadA
  rw [dsLf, szLf]
  simp only [isAggD, AM.run, blt_iff.2 h.lt, h1, when, show Nat.ble (Nat.add 0 121) 121 = true from rfl, opt, h4]
  rfl

def two (x : Int) : List UInt8 := [UInt8.ofNat x.toNat, UInt8.ofNat (x.toNat >>> 8)]
def pre (d : LeafD) : Nat → List UInt8
  | 0 => []
  | i + 1 => pre d i ++ two ((three d).getD i 0)
def putL (d : LeafD) : List UInt8 := closeL ((d.load ++ pre d 3) ++ [UInt8.ofNat d.size.toNat, UInt8.ofNat d.kind.toNat])
theorem pre_len (d : LeafD) : ∀ i, (pre d i).length = 2 * i
  | 0 => rfl
  | i + 1 => by simp only [pre, List.length_append, pre_len d i, two, List.length_cons, List.length_nil]; omega
theorem putL_len (d : LeafD) (h : d.load.length = 116) : (putL d).length = 128 := by
  unfold putL
  rw [closeL_len]
  simp [pre_len, h]
def putA : List Value → AM Value
  | [.agg ⟨cs⟩] => opt (leafOf cs) fun d => match rightL d with
    | true => bump 9 (newB (putL d) fun r => bump 1 (.pure (.slice (some ⟨r, 0, none⟩) 128 128)))
    | false => bump 3 (.pure (.slice none 0 0))
  | _ => .fail

abbrev sigP : List (Nat × (List Value → AM Value)) := [(24, rightA), (38, closeA)]
theorem tolds_P : Tolds Tryd.prog (sumsOf sigP) := tolds_cons told_right (tolds_cons told_close tolds_nil)
theorem sgR : sumsOf sigP 24 = some rightA := rfl
theorem sgC : sumsOf sigP 38 = some closeA := rfl
theorem tgR : ∀ a b, targetA E (.func 24) a b = .pure (.enter 24 (b ++ a)) := tgt (fi := fiR) (c := cdR) (by kernel_rfl) (by kernel_rfl)
theorem tgC : ∀ a b, targetA E (.func 38) a b = .pure (.enter 38 (b ++ a)) := tgt (fi := fiC) (c := cdC) (by kernel_rfl) (by kernel_rfl)
noncomputable def fiP : FI := FI.of Tryd.f22
noncomputable def cdP : Code := bodyOf Tryd.f22
noncomputable def cdPl : Code := sub [1,1,1,1,0,1,0,0] cdP
theorem resP : fiP.results = [.tmp 2] := rfl

/-- the memory in the loop -/
structure PutAt (n : Nat) (d : LeafD) (s0 s : S) (i : Nat) : Prop where
  next : s.next = n + 5 + i
  lf : LfAt s n d
  ints : ∃ c e rm, s.heap.get (n + 4) = some (.cells c 3 e rm) ∧ Row c 0 [.int .i64 d.file, .int .i64 d.place, .int .i64 d.next]
  buf : ∃ c e rm, s.heap.get (n + 3) = some (.cells c 124 e rm) ∧ Row c 0 ((d.load ++ pre d i).map bv)
  old : ∀ m, (m < n ∨ n + 11 ≤ m) → s.heap.get m = s0.heap.get m
theorem PutAt.rd {n : Nat} {d : LeafD} {s0 s s' : S} {i : Nat} (h : PutAt n d s0 s i) (hr : Rd s s') : PutAt n d s0 s' i :=
  ⟨by rw [hr.next]; exact h.next, h.lf.rd hr, by rw [hr.heap]; exact h.ints, by rw [hr.heap]; exact h.buf, fun m hm => by rw [hr.heap]; exact h.old m hm⟩
theorem PutAt.get {n : Nat} {d : LeafD} {s0 s : S} {i : Nat} (h : PutAt n d s0 s i) (k : Nat) (x : Int) (hk : (three d)[k]? = some x) : (loadT tiI ⟨n + 4, k, none⟩ AE.val).run s = some (.value (.int .i64 x), s.seen (n + 4)) := by
  obtain ⟨c, e, rm, h1, h2⟩ := h.ints
  have hlt : k < 3 := (List.getElem?_eq_some_iff.1 hk).1
  refine cell_load tiI (by rw [dsI]; rfl) (by rw [h.next]; omega) h1 (by omega) ?_
  have h3 : [Value.int .i64 d.file, .int .i64 d.place, .int .i64 d.next][k]? = some (.int .i64 x) := by
    match k, hlt with
    | 0, _ => simpa [three] using hk
    | 1, _ => simpa [three] using hk
    | 2, _ => simpa [three] using hk
  have := h2 k _ h3
  rwa [Nat.zero_add] at this
/-- two bytes more -/
theorem PutAt.more {n : Nat} {d : LeafD} {s0 s s3 : S} {i : Nat} (h : PutAt n d s0 s i) (hd : d.load.length = 116) (hi : i ≤ 3) (hN : ∀ j, j < 11 → Nat.ble (n + j) lastName = true) (b : List UInt8) (hb : b.length = 2) (e : TypeId) (rm : Room)
    (e3 : s3.next = s.next + 1) (e3h : s3.heap = s.heap.put s.next (some (.cells (Tr.ofList (b.map bv)) b.length e rm))) :
    ∃ s4, (builtinA E .append #[51, 51] [.slice (some ⟨n + 3, 0, none⟩) (116 + 2 * i) 124, .slice (some ⟨s.next, 0, none⟩) 2 2]).run s3 = some (.value (.slice (some ⟨n + 3, 0, none⟩) (116 + 2 * (i + 1)) 124), s4) ∧
      s4.next = n + 5 + (i + 1) ∧ LfAt s4 n d ∧ (∃ c e rm, s4.heap.get (n + 4) = some (.cells c 3 e rm) ∧ Row c 0 [.int .i64 d.file, .int .i64 d.place, .int .i64 d.next]) ∧
      (∃ c e rm, s4.heap.get (n + 3) = some (.cells c 124 e rm) ∧ Row c 0 ((d.load ++ pre d i ++ b).map bv)) ∧ ∀ m, (m < n ∨ n + 11 ≤ m) → s4.heap.get m = s0.heap.get m := by
  have hnx := h.next
  have hNs : Nat.ble s.next lastName = true := by rw [hnx, Nat.add_assoc]; exact hN (5 + i) (by omega)
  have hN3 := hN 3 (by omega)
  have B3 : Bs s3 ⟨s.next, 0, none⟩ b := bs_new (by omega) (by rw [e3h]; exact hg_same hNs _ _) (by omega)
  obtain ⟨c, e', rm', g1, g2⟩ := h.buf
  have c3 : s3.heap.get (n + 3) = some (.cells c 124 e' rm') := by rw [e3h, hg_far hNs (by omega)]; exact g1
  obtain ⟨s4, a4, e4h, e4, e4m⟩ := append_b (len := 116 + 2 * i) (cap := 124) (c2 := 2) (n := 2) B3 hb (by omega) (by omega) c3 hN3 (by omega) (by omega) (by omega) (by omega)
  have hk : ∀ m, m ≠ n + 3 → m ≠ s.next → s4.heap.get m = s.heap.get m := fun m h1 h2 => by rw [e4h, hg_far hN3 h1, e3h, hg_far hNs h2]
  refine ⟨s4, a4, by rw [e4, e3, hnx]; omega, ⟨by rw [e4, e3]; omega, by rw [hk n (by omega) (by omega)]; exact h.lf.cell, h.lf.len⟩, by rw [hk (n + 4) (by omega) (by omega)]; exact h.ints, ?_, fun m hm => by rw [hk m (by omega) (by omega)]; exact h.old m hm⟩
  refine ⟨_, _, _, by rw [e4h]; exact hg_same hN3 _ _, ?_⟩
  have hwide : 200 ≤ Tr.wide := by unfold Tr.wide; omega
  have hpl := pre_len d i
  rw [List.map_append]
  refine row_app (row_wr_far ?_ g2 (.inl ?_)) ?_
  · rw [List.length_map]; omega
  · rw [List.length_map, List.length_append]; omega
  · rw [List.length_map, List.length_append, Nat.zero_add, hd, hpl]
    exact row_wr (by rw [List.length_map]; omega)
end Go.Proofs.YtgofanjbhbeniaaDoor.lf
end
end

section
/- Leaves: a leaf as a block's bytes: told. -/
noncomputable section
namespace Go.Proofs.YtgofanjbhbeniaaDoor.lf
open AE
set_option linter.unusedSimpArgs false
set_option linter.unusedVariables false
set_option maxRecDepth 10000

theorem b_shrI (c k : Nat) (hk : k ≤ 64) : ∀ E t, binA E .shr t (.int .i64 (.ofNat c)) (.int .u64 (.ofNat k)) = some (.int .i64 (.ofNat (c >>> k))) := by
  intro E t
  show some (Value.int .i64 (Int.fdiv (.ofNat c) (pow2 (minN k 64)))) = _
  have h : minN k 64 = k := by rw [minN_eq]; omega
  rw [h]
  have h2 : Int.fdiv (.ofNat c) (pow2 k) = Int.ofNat (c >>> k) := by
    rw [Nat.shiftRight_eq_div_pow]
    unfold pow2
    show Int.fdiv ((c : Nat) : Int) ((2 ^ k : Nat) : Int) = ((c / 2 ^ k : Nat) : Int)
    rw [Int.fdiv_eq_ediv_of_nonneg _ (Int.natCast_nonneg _)]
    rfl
  rw [h2]
def InvP (d : LeafD) (n : Nat) (s0 : S) (k : Nat) (fr : Fr) (s : S) : Prop :=
  ∃ (i : Nat) (t : Tr Value), k = 3 - i ∧ i ≤ 3 ∧ fr = ⟨22, t, 45, [], none⟩ ∧ PutAt n d s0 s i ∧ t.get 1 = some (.pointer (some ⟨n, 0, none⟩)) ∧ t.get 3 = some (.slice (some ⟨n + 3, 0, none⟩) (116 + 2 * i) 124) ∧
    t.get 20 = some (.slice (some ⟨n + 4, 0, none⟩) 3 3) ∧ t.get 21 = some (.int .i64 (.ofNat 3)) ∧ t.get 22 = some (.int .i64 (.ofNat i))
def PostP (d : LeafD) (n : Nat) (s0 : S) (x : Ex) (fr : Fr) (s : S) : Prop :=
  x = .exit 0 ∧ ∃ t : Tr Value, fr = ⟨22, t, 45, [], none⟩ ∧ PutAt n d s0 s 3 ∧ t.get 1 = some (.pointer (some ⟨n, 0, none⟩)) ∧ t.get 3 = some (.slice (some ⟨n + 3, 0, none⟩) 122 124)
set_option maxHeartbeats 400000 in
theorem put_round (d : LeafD) (n : Nat) (s0 : S) (hd : d.load.length = 116) (hN : ∀ j, j < 11 → Nat.ble (n + j) lastName = true) (hx : ∀ (j : Nat) (x : Int), (three d)[j]? = some x → 0 ≤ x ∧ x ≤ 65535) (k : Nat) (fr : Fr) (s : S) (h : InvP d n s0 k fr s) :
    GoC E (sumsOf sigP) cdPl fr s (Again (InvP d n s0) k (PostP d n s0)) := by
  obtain ⟨i, t, hk, hi, rfl, hp, g1, g3, g20, g21, g22⟩ := h
  simp only [cdPl, cdP, Tryd.f22, bodyOf, sub]
  by_cases hlt : i < 3
  · obtain ⟨x, hxi⟩ : ∃ x, (three d)[i]? = some x := ⟨_, List.getElem?_eq_getElem (by simpa [three] using hlt)⟩
    have hx2 := hx i x hxi
    have hlt' : ltI (Int.ofNat i) (Int.ofNat 3) = true := by rw [ltI_eq]; simp; omega
    have hb : Nat.blt i 3 = true := blt_iff.2 hlt
    have hld := hp.get i x hxi
    have hinc := b_incr (n := i) (by omega)
    obtain ⟨z, hz⟩ : ∃ z : Nat, x = Int.ofNat z := ⟨x.toNat, (Int.toNat_of_nonneg hx2.1).symm⟩
    have hgd : (three d).getD i 0 = x := by rw [List.getD_eq_getElem?_getD, hxi]; rfl
    repeat apply go_seq
    apply go_region
    case h => intro m; simp (maxSteps := 2000000) (disch := decide) only [opsLoop, evOper, wantedA, nth, aop, aPick, aBin, aIndexAddr, aFieldAddr, aLoad, aStore, aExtract, aConvert, aAlloc, aBox, aIndex, callA, builtinA, Fr.evs, opt, val, when, AM.run, outV, newA, ptr, force_eq, seen_heap, seen_next, seen_mark, seen_seen, agg_cells, int_cells, Fr.ev, Fr.put, onFr, gps, gpn, bltT, still, flat, List.append_nil, List.nil_append, List.cons_append, Nat.reduceEqDiff, ne_eq, not_false_eq_true, reduceCtorEq, Bool.and_true, Bool.true_and, Bool.and_false, Bool.false_and, Bool.not_true, Bool.not_false, Bool.and_self, g21, g22, b_lss, hlt']; rfl
    repeat apply go_seq
    apply go_cond
    case hc => simp (disch := decide) only [opsLoop, evOper, wantedA, nth, aop, aPick, aBin, aIndexAddr, aFieldAddr, aLoad, aStore, aExtract, aConvert, aAlloc, aBox, aIndex, callA, builtinA, Fr.evs, opt, val, when, AM.run, outV, newA, ptr, force_eq, seen_heap, seen_next, seen_mark, seen_seen, agg_cells, int_cells, Fr.ev, Fr.put, onFr, gps, gpn, bltT, still, flat, List.append_nil, List.nil_append, List.cons_append, Nat.reduceEqDiff, ne_eq, not_false_eq_true, reduceCtorEq, Bool.and_true, Bool.true_and, Bool.and_false, Bool.false_and, Bool.not_true, Bool.not_false, Bool.and_self]; rfl
    case h2 => intro h; cases h
    intro _
    apply go_skip
    apply go_seq
    apply go_block
    repeat apply go_seq
    apply go_region
    case h => intro m; simp (maxSteps := 2000000) (disch := decide) only [opsLoop, evOper, wantedA, nth, aop, aPick, aBin, aIndexAddr, aFieldAddr, aLoad, aStore, aExtract, aConvert, aAlloc, aBox, aIndex, callA, builtinA, Fr.evs, opt, val, when, AM.run, outV, newA, ptr, force_eq, seen_heap, seen_next, seen_mark, seen_seen, agg_cells, int_cells, Fr.ev, Fr.put, onFr, gps, gpn, bltT, still, flat, List.append_nil, List.nil_append, List.cons_append, Nat.reduceEqDiff, ne_eq, not_false_eq_true, reduceCtorEq, Bool.and_true, Bool.true_and, Bool.and_false, Bool.false_and, Bool.not_true, Bool.not_false, Bool.and_self, g20, g22, tyL, dsL, tyI, szI, hb, mul1, add0, hld]; rfl
    subst hz
    have hp1 := hp.rd (Rd.seen s (n + 4))
    generalize hs1 : s.seen (n + 4) = s1
    rw [hs1] at hp1
    have hnx := hp1.next
    have hN1 : Nat.ble s1.next lastName = true := by rw [hnx, Nat.add_assoc]; exact hN (5 + i) (by omega)
    have g8 := b_shrI z 8 (by omega)
    have i8 : (8 : Int) = Int.ofNat 8 := rfl
    have f2 := fill2 (UInt8.ofNat z) (UInt8.ofNat (z >>> 8))
    repeat apply go_seq
    apply go_ops
    apply go_take 7
    case h => intro m; simp (disch := decide) only [List.take, opsLoop, evOper, wantedA, nth, aop, aPick, aBin, aIndexAddr, aFieldAddr, aLoad, aStore, aExtract, aConvert, aAlloc, aBox, aIndex, callA, Fr.evs, opt, val, when, AM.run, outV, newA, ptr, force_eq, seen_heap, seen_next, seen_mark, seen_seen, agg_cells, int_cells, Fr.ev, Fr.put, onFr, gps, gpn, bltT, still, flat, List.append_nil, List.nil_append, List.cons_append, Nat.reduceEqDiff, ne_eq, not_false_eq_true, reduceCtorEq, Bool.and_true, Bool.true_and, Bool.and_false, Bool.false_and, Bool.not_true, Bool.not_false, Bool.and_self, g3, tyU8, tyI, dsU8, dsI, i8, g8, cv8, aBuildSlice, evParts, tyB, dsB, zeU8, szU8, byU8, int0, f2, hN1, show Nat.ble (Nat.mul 2 1) 1048576 = true from rfl, show Nat.beq ([Value.int .u8 (Int.ofNat 0)] : List Value).length 1 = true from rfl, show Nat.ble 1 1 = true from rfl, show ∀ a b : Value, Nat.ble ([a, b] : List Value).length lastName = true from fun _ _ => rfl]; rfl
    simp only [List.drop]
    generalize hs3 : S.mk _ _ _ _ _ = s3
    have e3 : s3.next = s1.next + 1 := by rw [← hs3]
    have e3h : s3.heap = s1.heap.put s1.next (some (.cells (Tr.ofList [bv (UInt8.ofNat z), bv (UInt8.ofNat (z >>> 8))]) (List.length [bv (UInt8.ofNat z), bv (UInt8.ofNat (z >>> 8))]) 5 .whole)) := by rw [← hs3]
    have hL2 : [bv (UInt8.ofNat z), bv (UInt8.ofNat (z >>> 8))] = (two (Int.ofNat z)).map bv := rfl
    rw [hL2, List.length_map] at e3h
    clear hs3
    obtain ⟨s4, a4, m1, m2, m3, m4, m5⟩ := hp1.more hd hi hN (two (Int.ofNat z)) rfl _ _ e3 e3h
    apply go_take 2
    case h => intro m; simp (disch := decide) only [List.take, opsLoop, evOper, wantedA, nth, aop, aPick, aBin, aIndexAddr, aFieldAddr, aLoad, aStore, aExtract, aConvert, aAlloc, aBox, aIndex, callA, Fr.evs, opt, val, when, AM.run, outV, newA, ptr, force_eq, seen_heap, seen_next, seen_mark, seen_seen, agg_cells, int_cells, Fr.ev, Fr.put, onFr, gps, gpn, bltT, still, flat, List.append_nil, List.nil_append, List.cons_append, Nat.reduceEqDiff, ne_eq, not_false_eq_true, reduceCtorEq, Bool.and_true, Bool.true_and, Bool.and_false, Bool.false_and, Bool.not_true, Bool.not_false, Bool.and_self, a4]; rfl
    simp only [List.drop]
    apply go_done
    repeat apply go_seq
    apply go_region
    case h => intro m; simp (maxSteps := 2000000) (disch := decide) only [opsLoop, evOper, wantedA, nth, aop, aPick, aBin, aIndexAddr, aFieldAddr, aLoad, aStore, aExtract, aConvert, aAlloc, aBox, aIndex, callA, builtinA, Fr.evs, opt, val, when, AM.run, outV, newA, ptr, force_eq, seen_heap, seen_next, seen_mark, seen_seen, agg_cells, int_cells, Fr.ev, Fr.put, onFr, gps, gpn, bltT, still, flat, List.append_nil, List.nil_append, List.cons_append, Nat.reduceEqDiff, ne_eq, not_false_eq_true, reduceCtorEq, Bool.and_true, Bool.true_and, Bool.and_false, Bool.false_and, Bool.not_true, Bool.not_false, Bool.and_self, g22, int1, hinc]; rfl
    refine ⟨3 - (i + 1), by omega, i + 1, _, rfl, by omega, rfl, ⟨m1, m2, m3, ?_, m5⟩, ?_, ?_, ?_, ?_, ?_⟩
    · show ∃ c e rm, _ ∧ Row c 0 ((d.load ++ (pre d i ++ two ((three d).getD i 0))).map bv)
      rw [hgd, ← List.append_assoc]
      exact m4
    · simp (disch := decide) only [gps, gpn, g1]
    · simp (disch := decide) only [gps, gpn]
    · simp (disch := decide) only [gps, gpn, g20]
    · simp (disch := decide) only [gps, gpn, g21]
    · simp (disch := decide) only [gps, gpn, g22]
  · obtain rfl : i = 3 := by omega
    have hlt' : ltI (Int.ofNat 3) (Int.ofNat 3) = false := rfl
    repeat apply go_seq
    apply go_region
    case h => intro m; simp (maxSteps := 2000000) (disch := decide) only [opsLoop, evOper, wantedA, nth, aop, aPick, aBin, aIndexAddr, aFieldAddr, aLoad, aStore, aExtract, aConvert, aAlloc, aBox, aIndex, callA, builtinA, Fr.evs, opt, val, when, AM.run, outV, newA, ptr, force_eq, seen_heap, seen_next, seen_mark, seen_seen, agg_cells, int_cells, Fr.ev, Fr.put, onFr, gps, gpn, bltT, still, flat, List.append_nil, List.nil_append, List.cons_append, Nat.reduceEqDiff, ne_eq, not_false_eq_true, reduceCtorEq, Bool.and_true, Bool.true_and, Bool.and_false, Bool.false_and, Bool.not_true, Bool.not_false, Bool.and_self, g21, g22, b_lss, hlt']; rfl
    repeat apply go_seq
    apply go_cond
    case hc => simp (disch := decide) only [opsLoop, evOper, wantedA, nth, aop, aPick, aBin, aIndexAddr, aFieldAddr, aLoad, aStore, aExtract, aConvert, aAlloc, aBox, aIndex, callA, builtinA, Fr.evs, opt, val, when, AM.run, outV, newA, ptr, force_eq, seen_heap, seen_next, seen_mark, seen_seen, agg_cells, int_cells, Fr.ev, Fr.put, onFr, gps, gpn, bltT, still, flat, List.append_nil, List.nil_append, List.cons_append, Nat.reduceEqDiff, ne_eq, not_false_eq_true, reduceCtorEq, Bool.and_true, Bool.true_and, Bool.and_false, Bool.false_and, Bool.not_true, Bool.not_false, Bool.and_self]; rfl
    case h1 => intro h; cases h
    intro _
    apply go_exit
    refine ⟨rfl, _, rfl, hp, ?_, ?_⟩
    · simp (disch := decide) only [gps, gpn, g1]
    · simp (disch := decide) only [gps, gpn, g3]
end Go.Proofs.YtgofanjbhbeniaaDoor.lf
end
end

section
/- Leaves: a leaf as a block's bytes: told, whole. -/
noncomputable section
namespace Go.Proofs.YtgofanjbhbeniaaDoor.lf
open AE
set_option linter.unusedSimpArgs false
set_option linter.unusedVariables false
set_option maxRecDepth 10000

theorem closeA_run {s : S} {ad : Addr} {l : List UInt8} (h : Bs s ad l) (h1 : 1 ≤ l.length) (h2 : l.length ≤ 1000) (cap : Nat) (hN : ∀ i, i < 2 → Nat.ble (s.next + i) lastName = true) :
    ∃ s1, (closeA [.slice (some ad) l.length cap]).run s = some (.slice (some ⟨s.next, 0, none⟩) (l.length + 4) (l.length + 4), s1) ∧ s1.next = s.next + 2 ∧
      ∀ m, s1.heap.get m = if m = s.next + 1 then none else if m = s.next then some (.cells (Tr.ofList ((closeL l).map bv)) (closeL l).length 5 .whole) else s.heap.get m := by
  have hN0 := hN 0 (by omega)
  rw [Nat.add_zero] at hN0
  obtain ⟨s1, e1, e2, e3, e4⟩ := bump_ok 1 (AM.pure (Value.slice (some ⟨s.next, 0, none⟩) (l.length + 4) (l.length + 4))) ((s.seen ad.block).grow (.cells (Tr.ofList ((closeL l).map bv)) (closeL l).length 5 .whole))
    (fun i hi => by have : i = 0 := by omega
                    subst this; exact hN 1 (by omega))
  refine ⟨s1, ?_, e2, ?_⟩
  · show (when (Nat.ble 1 l.length && Nat.ble l.length 1000) (loadA ad l.length fun cs => opt (bytesV cs) fun l' => newB (closeL l') fun r => bump 1 (.pure (.slice (some ⟨r, 0, none⟩) (l.length + 4) (l.length + 4))))).run s = _
    simp only [ble_iff.2 h1, ble_iff.2 h2, Bool.and_self, when]
    rw [loadA_run h]
    simp only [bytesV_map, opt, newB, AM.run, force_eq]
    show (match Nat.ble s.next lastName with | false => none | true => _) = _
    rw [hN0]
    exact e1
  · intro m
    rw [e4 m]
    show (if s.next + 1 ≤ m ∧ m < s.next + 1 + 1 then none else (s.heap.put s.next (some (.cells (Tr.ofList ((closeL l).map bv)) (closeL l).length 5 .whole))).get m) = _
    by_cases h3 : m = s.next + 1
    · rw [if_pos (by omega), if_pos h3]
    · rw [if_neg (by omega), if_neg h3]
      by_cases h4 : m = s.next
      · subst h4
        rw [if_pos rfl, hg_same hN0]
      · rw [if_neg h4, hg_far hN0 h4]

theorem rightL_inv {d : LeafD} (h : rightL d = true) : (∀ (j : Nat) (x : Int), (three d)[j]? = some x → 0 ≤ x ∧ x ≤ 65535) ∧ (1 ≤ d.kind ∧ d.kind ≤ 2) ∧ (0 ≤ d.size ∧ d.size ≤ 116) := by
  unfold rightL at h
  simp only [Bool.and_eq_true] at h
  obtain ⟨⟨⟨⟨⟨h1, h2⟩, h3⟩, h4⟩, h5⟩, _⟩ := h
  refine ⟨?_, wi_iff.1 h4, wi_iff.1 h5⟩
  intro j x hj
  have hlt : j < 3 := (List.getElem?_eq_some_iff.1 hj).1
  match j, hlt with
  | 0, _ => simp [three] at hj; subst hj; exact wi_iff.1 h1
  | 1, _ => simp [three] at hj; subst hj; exact wi_iff.1 h2
  | 2, _ => simp [three] at hj; subst hj; exact wi_iff.1 h3

theorem addIf0 (n k : Nat) : addIf ⟨n, k, none⟩ 116 0 1 = ⟨n, k, none⟩ := rfl

set_option maxHeartbeats 1000000 in
theorem told_put : AE.Told Tryd.prog 22 putA := by
  refine told_go hE hmix tolds_P ?_
  intro args s v s' h hm
  unfold putA at h
  split at h
  · rename_i cs
    obtain ⟨d, hd, h2⟩ := run_opt h
    obtain ⟨rfl, hlen⟩ := leafOf_inv hd
    clear h hd
    refine go_enter (fi := fiP) (c := cdP) (by kernel_rfl) (by kernel_rfl) 45 rfl rfl ?_
    have h0 : (Tr.ofList [Value.agg ⟨d.cells⟩]).get 0 = some (.agg ⟨d.cells⟩) := rfl
    generalize Tr.ofList [Value.agg ⟨d.cells⟩] = t at *
    have hcl : d.cells.length = 121 := d.len hlen
    have hcb : Nat.ble d.cells.length lastName = true := by rw [hcl]; rfl
    have hcode : cdP = .seq (sub [0] cdP) (.seq (sub [1,0] cdP) (.seq (sub [1,1,0] cdP) (.seq (sub [1,1,1,0] cdP) (sub [1,1,1,1] cdP)))) := rfl
    -- the names that are there
    have hN3 : ∀ i, i < 3 → Nat.ble (s.next + i) lastName = true := by
      cases hR : rightL d with
      | true =>
        rw [hR] at h2
        obtain ⟨_, _, _, _, _, hbl⟩ := bump_run 9 _ _ _ h2
        exact fun i hi => hbl i (by omega)
      | false =>
        rw [hR] at h2
        obtain ⟨_, _, _, _, _, hbl⟩ := bump_run 3 _ _ _ h2
        exact hbl
    have hN0 : Nat.ble s.next lastName = true := hN3 0 (by omega)
    simp only [cdP, Tryd.f22, bodyOf]
    repeat apply go_seq
    apply go_region
    case h => intro m; simp (maxSteps := 2000000) (disch := decide) only [opsLoop, evOper, wantedA, nth, aop, aPick, aBin, aIndexAddr, aFieldAddr, aLoad, aStore, aExtract, aConvert, aAlloc, aBox, aIndex, callA, builtinA, Fr.evs, opt, val, when, AM.run, outV, newA, ptr, force_eq, seen_heap, seen_next, seen_mark, seen_seen, agg_cells, int_cells, Fr.ev, Fr.put, onFr, gps, gpn, bltT, still, flat, List.append_nil, List.nil_append, List.cons_append, Nat.reduceEqDiff, ne_eq, not_false_eq_true, reduceCtorEq, Bool.and_true, Bool.true_and, Bool.and_false, Bool.false_and, Bool.not_true, Bool.not_false, Bool.and_self, h0, hcb, hN0]; rfl
    generalize hs1 : (S.mk (s.heap.put s.next (some (.cells (Tr.ofList d.cells) d.cells.length 30 .whole))) (Nat.succ s.next) s.mark s.rd s.wr) = s1
    have e1 : s1.next = s.next + 1 := by rw [← hs1]
    have e1h : s1.heap = s.heap.put s.next (some (.cells (Tr.ofList d.cells) d.cells.length 30 .whole)) := by rw [← hs1]
    clear hs1
    have L1 : LfAt s1 s.next d := ⟨by omega, ⟨_, _, _, by rw [e1h, hg_same hN0, hcl], row_ofList _ (by rw [hcl]; unfold Tr.wide; omega)⟩, hlen⟩
    have l1 := L1.load
    obtain ⟨s2, r2, e2, e2h⟩ := rightA_run (s := s1.seen s.next) hlen (fun i hi => by
      have : (s1.seen s.next).next + i = s.next + (i + 1) := by show s1.next + i = _; omega
      rw [this]; exact hN3 (i + 1) (by omega))
    have e2 : s2.next = s.next + 3 := by rw [e2]; show s1.next + 2 = _; omega
    have e2h : ∀ m, s2.heap.get m = if s.next + 1 ≤ m ∧ m < s.next + 3 then none else s1.heap.get m := by
      intro m
      rw [e2h m]
      have : (s1.seen s.next).next = s.next + 1 := e1
      rw [this]
      rfl
    cases hR : rightL d with
    | false =>
      rw [hR] at h2 r2
      repeat apply go_seq
      apply go_region
      case h => intro m; simp (maxSteps := 2000000) (disch := decide) only [opsLoop, evOper, wantedA, nth, aop, aPick, aBin, aIndexAddr, aFieldAddr, aLoad, aStore, aExtract, aConvert, aAlloc, aBox, aIndex, callA, builtinA, Fr.evs, opt, val, when, AM.run, outV, newA, ptr, force_eq, seen_heap, seen_next, seen_mark, seen_seen, agg_cells, int_cells, Fr.ev, Fr.put, onFr, gps, gpn, bltT, still, flat, List.append_nil, List.nil_append, List.cons_append, Nat.reduceEqDiff, ne_eq, not_false_eq_true, reduceCtorEq, Bool.and_true, Bool.true_and, Bool.and_false, Bool.false_and, Bool.not_true, Bool.not_false, Bool.and_self, tyLf, l1, tgR, evT_told sgR, r2, u_not]; rfl
      repeat apply go_seq
      apply go_cond
      case hc => simp (disch := decide) only [opsLoop, evOper, wantedA, nth, aop, aPick, aBin, aIndexAddr, aFieldAddr, aLoad, aStore, aExtract, aConvert, aAlloc, aBox, aIndex, callA, builtinA, Fr.evs, opt, val, when, AM.run, outV, newA, ptr, force_eq, seen_heap, seen_next, seen_mark, seen_seen, agg_cells, int_cells, Fr.ev, Fr.put, onFr, gps, gpn, bltT, still, flat, List.append_nil, List.nil_append, List.cons_append, Nat.reduceEqDiff, ne_eq, not_false_eq_true, reduceCtorEq, Bool.and_true, Bool.true_and, Bool.and_false, Bool.false_and, Bool.not_true, Bool.not_false, Bool.and_self]; rfl
      case h2 => intro h; cases h
      intro _
      repeat apply go_seq
      apply go_region
      case h => intro m; simp (maxSteps := 2000000) (disch := decide) only [opsLoop, evOper, wantedA, nth, aop, aPick, aBin, aIndexAddr, aFieldAddr, aLoad, aStore, aExtract, aConvert, aAlloc, aBox, aIndex, callA, builtinA, Fr.evs, opt, val, when, AM.run, outV, newA, ptr, force_eq, seen_heap, seen_next, seen_mark, seen_seen, agg_cells, int_cells, Fr.ev, Fr.put, onFr, gps, gpn, bltT, still, flat, List.append_nil, List.nil_append, List.cons_append, Nat.reduceEqDiff, ne_eq, not_false_eq_true, reduceCtorEq, Bool.and_true, Bool.true_and, Bool.and_false, Bool.false_and, Bool.not_true, Bool.not_false, Bool.and_self]; rfl
      repeat apply go_seq
      apply go_ret
      apply ret_intro rfl rfl
      case run => simp (disch := decide) only [resultsM, resultsA, resP, opsLoop, evOper, wantedA, nth, aop, aPick, aBin, aIndexAddr, aFieldAddr, aLoad, aStore, aExtract, aConvert, aAlloc, aBox, aIndex, callA, builtinA, Fr.evs, opt, val, when, AM.run, outV, newA, ptr, force_eq, seen_heap, seen_next, seen_mark, seen_seen, agg_cells, int_cells, Fr.ev, Fr.put, onFr, gps, gpn, bltT, still, flat, List.append_nil, List.nil_append, List.cons_append, Nat.reduceEqDiff, ne_eq, not_false_eq_true, reduceCtorEq, Bool.and_true, Bool.true_and, Bool.and_false, Bool.false_and, Bool.not_true, Bool.not_false, Bool.and_self]; rfl
      obtain ⟨s9, h3, hn9, hm9, hh9, _⟩ := bump_run 3 _ _ _ h2
      cases h3
      refine ⟨rfl, less_new (s := s) (n := 3) (by rw [e2, hn9]; exact Nat.le_refl _) hn9 hh9 ?_⟩
      intro m hm2
      rw [e2h, if_neg (by omega), e1h, hg_far hN0 (by omega)]
    | true =>
      rw [hR] at h2 r2
      repeat apply go_seq
      apply go_region
      case h => intro m; simp (maxSteps := 2000000) (disch := decide) only [opsLoop, evOper, wantedA, nth, aop, aPick, aBin, aIndexAddr, aFieldAddr, aLoad, aStore, aExtract, aConvert, aAlloc, aBox, aIndex, callA, builtinA, Fr.evs, opt, val, when, AM.run, outV, newA, ptr, force_eq, seen_heap, seen_next, seen_mark, seen_seen, agg_cells, int_cells, Fr.ev, Fr.put, onFr, gps, gpn, bltT, still, flat, List.append_nil, List.nil_append, List.cons_append, Nat.reduceEqDiff, ne_eq, not_false_eq_true, reduceCtorEq, Bool.and_true, Bool.true_and, Bool.and_false, Bool.false_and, Bool.not_true, Bool.not_false, Bool.and_self, tyLf, l1, tgR, evT_told sgR, r2, u_not]; rfl
      repeat apply go_seq
      apply go_cond
      case hc => simp (disch := decide) only [opsLoop, evOper, wantedA, nth, aop, aPick, aBin, aIndexAddr, aFieldAddr, aLoad, aStore, aExtract, aConvert, aAlloc, aBox, aIndex, callA, builtinA, Fr.evs, opt, val, when, AM.run, outV, newA, ptr, force_eq, seen_heap, seen_next, seen_mark, seen_seen, agg_cells, int_cells, Fr.ev, Fr.put, onFr, gps, gpn, bltT, still, flat, List.append_nil, List.nil_append, List.cons_append, Nat.reduceEqDiff, ne_eq, not_false_eq_true, reduceCtorEq, Bool.and_true, Bool.true_and, Bool.and_false, Bool.false_and, Bool.not_true, Bool.not_false, Bool.and_self]; rfl
      case h1 => intro h; cases h
      intro _
      apply go_skip
      obtain ⟨s8, h3, hn8, hm8, hh8, hb9⟩ := bump_run 9 _ _ _ h2
      obtain ⟨hb10, h4⟩ := new_run h3
      obtain ⟨s9, h5, hn9, hm9, hh9, hb11⟩ := bump_run 1 _ _ _ h4
      cases h5
      have hN : ∀ j, j < 11 → Nat.ble (s.next + j) lastName = true := by
        intro j hj
        by_cases h9 : j < 9
        · exact hb9 j h9
        · by_cases h10 : j = 9
          · subst h10; rw [← hn8]; exact hb10
          · have : j = 10 := by omega
            subst this
            have := hb11 0 (by omega)
            have e : (s8.grow (.cells (Tr.ofList ((putL d).map bv)) (putL d).length 5 .whole)).next + 0 = s.next + 10 := by show s8.next + 1 = _; omega
            rw [e] at this
            exact this
      have hh : ∀ m, s'.heap.get m = if m = s.next + 9 then some (.cells (Tr.ofList ((putL d).map bv)) (putL d).length 5 .whole) else if s.next ≤ m ∧ m < s.next + 11 then none else s.heap.get m := by
        intro m
        rw [hh9 m]
        have e : (s8.grow (.cells (Tr.ofList ((putL d).map bv)) (putL d).length 5 .whole)).next = s.next + 10 := by show s8.next + 1 = _; omega
        rw [e]
        show (if s.next + 10 ≤ m ∧ m < s.next + 10 + 1 then none else (s8.heap.put s8.next (some (.cells (Tr.ofList ((putL d).map bv)) (putL d).length 5 .whole))).get m) = _
        rw [hn8]
        have hN9 := hN 9 (by omega)
        by_cases h9 : m = s.next + 9
        · subst h9
          rw [if_neg (by omega), if_pos rfl, hg_same hN9]
        · rw [if_neg h9]
          by_cases h10 : m = s.next + 10
          · rw [if_pos (by omega), if_pos (by omega)]
          · rw [if_neg (by omega), hg_far hN9 h9, hh8 m]
            by_cases h11 : s.next ≤ m ∧ m < s.next + 9
            · rw [if_pos h11, if_pos (by omega)]
            · rw [if_neg h11, if_neg (by omega)]
      have hn11 : s'.next = s.next + 11 := by rw [hn9]; show s8.next + 1 + 1 = _; omega
      clear h2 h3 h4 hh9 hh8 hb9 hb10 hb11 hm9 hm8
      have hN3' : Nat.ble s2.next lastName = true := by rw [e2]; exact hN 3 (by omega)
      have z124 : (124 : Int) = Int.ofNat 124 := rfl
      have k3 : Nat.ble (repeatL [Value.int .u8 (Int.ofNat 0)] 124).length lastName = true := by rw [repeat_len]; rfl
      repeat apply go_seq
      apply go_region
      case h => intro m; simp (maxSteps := 2000000) (disch := decide) only [opsLoop, evOper, wantedA, nth, aop, aPick, aBin, aIndexAddr, aFieldAddr, aLoad, aStore, aExtract, aConvert, aAlloc, aBox, aIndex, callA, builtinA, Fr.evs, opt, val, when, AM.run, outV, newA, ptr, force_eq, seen_heap, seen_next, seen_mark, seen_seen, agg_cells, int_cells, Fr.ev, Fr.put, onFr, gps, gpn, bltT, still, flat, List.append_nil, List.nil_append, List.cons_append, Nat.reduceEqDiff, ne_eq, not_false_eq_true, reduceCtorEq, Bool.and_true, Bool.true_and, Bool.and_false, Bool.false_and, Bool.not_true, Bool.not_false, Bool.and_self, int0, z124, aMakeSlice, tyB, dsB, tyU8, zeU8, szU8, byU8, k3, hN3', show Nat.ble 0 124 = true from rfl, show Nat.ble 124 maxNeed = true from rfl, show Nat.ble 1 1024 = true from rfl, show Nat.ble 1 1 = true from rfl, show Nat.beq ([Value.int .u8 (Int.ofNat 0)] : List Value).length 1 = true from rfl]; rfl
      generalize hs3 : S.mk _ _ _ _ _ = s3
      have e3 : s3.next = s.next + 4 := by rw [← hs3]; show s2.next + 1 = _; omega
      have e3h : s3.heap = s2.heap.put s2.next (some (.cells (Tr.ofList (repeatL [Value.int .u8 (Int.ofNat 0)] 124)) (repeatL [Value.int .u8 (Int.ofNat 0)] 124).length 5 .whole)) := by rw [← hs3]
      clear hs3
      rw [repeat_len, e2] at e3h
      rw [e2]
      have hN3 := hN 3 (by omega)
      have L3 : LfAt s3 s.next d := by
        refine ⟨by omega, ?_, hlen⟩
        obtain ⟨c, e, rm, q1, q2⟩ := L1.cell
        exact ⟨c, e, rm, by rw [e3h, hg_far hN3 (by omega), e2h, if_neg (by omega)]; exact q1, q2⟩
      have B3 := L3.bs 0 (by omega)
      rw [List.drop_zero] at B3
      have c3 : s3.heap.get (s.next + 3) = some (.cells (Tr.ofList (repeatL [Value.int .u8 (Int.ofNat 0)] 124)) 124 5 .whole) := by rw [e3h]; exact hg_same hN3 _ _
      obtain ⟨s4, a4, e4h, e4, _⟩ := append_b (len := 0) (cap := 124) (c2 := 116) B3 hlen (by omega) (by omega) c3 hN3 (by omega) (by omega) (by omega) (by omega)
      rw [Nat.zero_add] at a4
      repeat apply go_seq
      apply go_region
      case h => intro m; simp (disch := decide) only [opsLoop, evOper, wantedA, nth, aop, aPick, aBin, aIndexAddr, aFieldAddr, aLoad, aStore, aExtract, aConvert, aAlloc, aBox, aIndex, callA, Fr.evs, opt, val, when, AM.run, outV, newA, ptr, force_eq, seen_heap, seen_next, seen_mark, seen_seen, agg_cells, int_cells, Fr.ev, Fr.put, onFr, gps, gpn, bltT, still, flat, List.append_nil, List.nil_append, List.cons_append, Nat.reduceEqDiff, ne_eq, not_false_eq_true, reduceCtorEq, Bool.and_true, Bool.true_and, Bool.and_false, Bool.false_and, Bool.not_true, Bool.not_false, Bool.and_self, tyLf, dsLf, fl5, ft5, fo5, tyA, dsA, szA, tyU8, szU8, ble1A, ad5, aSlice, lowHigh, sliceP, addIf0, show Nat.ble 0 116 = true from rfl, show Nat.ble 116 116 = true from rfl, show Nat.blt 116 OPEN = true from rfl, show Nat.sub 116 0 = 116 from rfl, a4]; rfl
      have L4 : LfAt s4 s.next d := by
        refine ⟨by omega, ?_, hlen⟩
        obtain ⟨c, e, rm, q1, q2⟩ := L3.cell
        exact ⟨c, e, rm, by rw [e4h, hg_far hN3 (by omega)]; exact q1, q2⟩
      have l1 := L4.get 1 (.int .i64 d.file) rfl
      have l2 := (L4.rd (Rd.seen s4 s.next)).get 2 (.int .i64 d.place) rfl
      have l3 := (L4.rd (Rd.seen s4 s.next)).get 3 (.int .i64 d.next) rfl
      rw [seen_seen] at l2 l3
      have hN4 := hN 4 (by omega)
      have hN4' : Nat.ble s4.next lastName = true := by rw [e4, e3]; exact hN4
      apply go_seq
      apply go_seq
      repeat apply go_seq
      apply go_region
      case h => intro m; simp (disch := decide) only [opsLoop, evOper, wantedA, nth, aop, aPick, aBin, aIndexAddr, aFieldAddr, aLoad, aStore, aExtract, aConvert, aAlloc, aBox, aIndex, callA, Fr.evs, opt, val, when, AM.run, outV, newA, ptr, force_eq, seen_heap, seen_next, seen_mark, seen_seen, agg_cells, int_cells, Fr.ev, Fr.put, onFr, gps, gpn, bltT, still, flat, List.append_nil, List.nil_append, List.cons_append, Nat.reduceEqDiff, ne_eq, not_false_eq_true, reduceCtorEq, Bool.and_true, Bool.true_and, Bool.and_false, Bool.false_and, Bool.not_true, Bool.not_false, Bool.and_self, tyLf, dsLf, fl1, fl2, fl3, ft1, ft2, ft3, fo1, fo2, fo3, tyI, szI, zeI, dsL, tyL, ble11, ad1, ad2, ad3', l1, l2, l3, aBuildSlice, evParts, int0, fill3, hN4', len_i, show Nat.ble (Nat.mul 3 1) 1048576 = true from rfl, show Nat.beq ([Value.int .i64 (Int.ofNat 0)] : List Value).length 1 = true from rfl, show Nat.ble ([Value.int .i64 d.file, .int .i64 d.place, .int .i64 d.next] : List Value).length lastName = true from rfl]; rfl
      generalize hs5 : S.mk _ _ _ _ _ = s5
      have e5 : s5.next = s.next + 5 := by rw [← hs5]; show s4.next + 1 = _; omega
      have e5h : s5.heap = s4.heap.put s4.next (some (.cells (Tr.ofList [.int .i64 d.file, .int .i64 d.place, .int .i64 d.next]) (List.length [Value.int .i64 d.file, .int .i64 d.place, .int .i64 d.next]) 3 .whole)) := by rw [← hs5]
      clear hs5
      have hl3 : List.length [Value.int .i64 d.file, .int .i64 d.place, .int .i64 d.next] = 3 := rfl
      have h44 : s4.next = s.next + 4 := by omega
      rw [hl3, h44] at e5h
      rw [h44]
      have h3w : ([Value.int .i64 d.file, .int .i64 d.place, .int .i64 d.next] : List Value).length ≤ Tr.wide := by rw [hl3]; unfold Tr.wide; omega
      have P5 : PutAt s.next d s s5 0 := by
        refine ⟨e5, ⟨by omega, ?_, hlen⟩, ⟨_, _, _, by rw [e5h]; exact hg_same hN4 _ _, row_ofList _ h3w⟩, ⟨_, _, _, by rw [e5h, hg_far hN4 (by omega), e4h]; exact hg_same hN3 _ _, ?_⟩, ?_⟩
        · obtain ⟨c, e, rm, q1, q2⟩ := L4.cell
          exact ⟨c, e, rm, by rw [e5h, hg_far hN4 (by omega)]; exact q1, q2⟩
        · show Row _ 0 ((d.load ++ []).map bv)
          rw [List.append_nil]
          exact row_wr (by rw [List.length_map, hlen]; unfold Tr.wide; omega)
        · intro m hm2
          rw [e5h, hg_far hN4 (by omega), e4h, hg_far hN3 (by omega), e3h, hg_far hN3 (by omega), e2h, if_neg (by omega), e1h, hg_far hN0 (by omega)]
      obtain ⟨hx3, hkd, hsz⟩ := rightL_inv hR
      apply go_block
      refine (go_loop_inv (body := cdPl) (InvP d s.next s) (fun k fr s1 hI => put_round d s.next s hlen hN hx3 k fr s1 hI) (3 - 0) _ _ ⟨0, _, rfl, by omega, rfl, P5, ?_, ?_, ?_, ?_, ?_⟩).mono ?_
      · simp (disch := decide) only [gps, gpn, h0]
      · simp (disch := decide) only [gps, gpn]
      · simp (disch := decide) only [gps, gpn]
      · simp (disch := decide) only [gps, gpn]
      · simp (disch := decide) only [gps, gpn]
      rintro x fr s6 ⟨rfl, t6, rfl, P6, g1, g3⟩
      simp only [Out_, if_true]
      show GoC E _ _ _ _ _
      obtain ⟨zs, hzs⟩ : ∃ z : Nat, d.size = Int.ofNat z := ⟨d.size.toNat, (Int.toNat_of_nonneg hsz.1).symm⟩
      obtain ⟨zk, hzk⟩ : ∃ z : Nat, d.kind = Int.ofNat z := ⟨d.kind.toNat, (Int.toNat_of_nonneg (by omega)).symm⟩
      have l4 := P6.lf.get 4 (.int .i64 d.size) rfl
      have l0 := (P6.lf.rd (Rd.seen s6 s.next)).get 0 (.int .i64 d.kind) rfl
      rw [seen_seen] at l0
      rw [hzs] at l4
      rw [hzk] at l0
      have P6' := P6.rd (Rd.seen s6 s.next)
      have f2 := fill2 (UInt8.ofNat zs) (UInt8.ofNat zk)
      have hN8 := hN 8 (by omega)
      have hN8' : Nat.ble s6.next lastName = true := by rw [P6.next]; exact hN8
      repeat apply go_seq
      apply go_ops
      apply go_take 8
      case h => intro m; simp (disch := decide) only [List.take, opsLoop, evOper, wantedA, nth, aop, aPick, aBin, aIndexAddr, aFieldAddr, aLoad, aStore, aExtract, aConvert, aAlloc, aBox, aIndex, callA, Fr.evs, opt, val, when, AM.run, outV, newA, ptr, force_eq, seen_heap, seen_next, seen_mark, seen_seen, agg_cells, int_cells, Fr.ev, Fr.put, onFr, gps, gpn, bltT, still, flat, List.append_nil, List.nil_append, List.cons_append, Nat.reduceEqDiff, ne_eq, not_false_eq_true, reduceCtorEq, Bool.and_true, Bool.true_and, Bool.and_false, Bool.false_and, Bool.not_true, Bool.not_false, Bool.and_self, g1, g3, tyLf, dsLf, fl4, fl0, ft4, ft0, fo4, fo0, tyI, szI, ble11, ad4, ad0, l4, l0, tyU8, dsU8, dsI, cv8, aBuildSlice, evParts, tyB, dsB, zeU8, szU8, byU8, int0, f2, hN8', show Nat.ble (Nat.mul 2 1) 1048576 = true from rfl, show Nat.beq ([Value.int .u8 (Int.ofNat 0)] : List Value).length 1 = true from rfl, show Nat.ble 1 1 = true from rfl, show ∀ a b : Value, Nat.ble ([a, b] : List Value).length lastName = true from fun _ _ => rfl]; rfl
      simp only [List.drop]
      generalize hs7 : S.mk _ _ _ _ _ = s7
      have e7 : s7.next = (s6.seen s.next).next + 1 := by rw [← hs7]; rfl
      have e7h : s7.heap = (s6.seen s.next).heap.put (s6.seen s.next).next (some (.cells (Tr.ofList [bv (UInt8.ofNat zs), bv (UInt8.ofNat zk)]) (List.length [bv (UInt8.ofNat zs), bv (UInt8.ofNat zk)]) 5 .whole)) := by rw [← hs7, seen_heap, seen_next]
      clear hs7
      have hL2 : [bv (UInt8.ofNat zs), bv (UInt8.ofNat zk)] = [UInt8.ofNat zs, UInt8.ofNat zk].map bv := rfl
      rw [hL2, List.length_map] at e7h
      obtain ⟨s10, a10, m1, m2, m3, ⟨cb, eb, rb, m4, m5⟩, m6⟩ := P6'.more hlen (by omega) hN [UInt8.ofNat zs, UInt8.ofNat zk] rfl _ _ e7 e7h
      rw [seen_next] at a10
      have hLL : (d.load ++ pre d 3 ++ [UInt8.ofNat zs, UInt8.ofNat zk]).length = 124 := by simp [pre_len, hlen]
      have B10 : Bs s10 ⟨s.next + 3, 0, none⟩ (d.load ++ pre d 3 ++ [UInt8.ofNat zs, UInt8.ofNat zk]) := ⟨rfl, by rw [m1]; show s.next + 3 < _; omega, _, _, .inl ⟨_, _, m4⟩, by rw [hLL]; exact Nat.le_refl _, m5⟩
      obtain ⟨s11, r11, m7, m8⟩ := closeA_run B10 (by omega) (by omega) 124 (fun i hi => by rw [m1, show s.next + 5 + (3 + 1) + i = s.next + (9 + i) by omega]; exact hN (9 + i) (by omega))
      rw [hLL] at r11
      apply go_take 3
      case h => intro m; simp (disch := decide) only [List.take, opsLoop, evOper, wantedA, nth, aop, aPick, aBin, aIndexAddr, aFieldAddr, aLoad, aStore, aExtract, aConvert, aAlloc, aBox, aIndex, callA, Fr.evs, opt, val, when, AM.run, outV, newA, ptr, force_eq, seen_heap, seen_next, seen_mark, seen_seen, agg_cells, int_cells, Fr.ev, Fr.put, onFr, gps, gpn, bltT, still, flat, List.append_nil, List.nil_append, List.cons_append, Nat.reduceEqDiff, ne_eq, not_false_eq_true, reduceCtorEq, Bool.and_true, Bool.true_and, Bool.and_false, Bool.false_and, Bool.not_true, Bool.not_false, Bool.and_self, a10, tgC, evT_told sgC, r11]; rfl
      simp only [List.drop]
      apply go_done
      repeat apply go_seq
      apply go_ret
      apply ret_intro rfl rfl
      case run => simp (disch := decide) only [resultsM, resultsA, resP, opsLoop, evOper, wantedA, nth, aop, aPick, aBin, aIndexAddr, aFieldAddr, aLoad, aStore, aExtract, aConvert, aAlloc, aBox, aIndex, callA, builtinA, Fr.evs, opt, val, when, AM.run, outV, newA, ptr, force_eq, seen_heap, seen_next, seen_mark, seen_seen, agg_cells, int_cells, Fr.ev, Fr.put, onFr, gps, gpn, bltT, still, flat, List.append_nil, List.nil_append, List.cons_append, Nat.reduceEqDiff, ne_eq, not_false_eq_true, reduceCtorEq, Bool.and_true, Bool.true_and, Bool.and_false, Bool.false_and, Bool.not_true, Bool.not_false, Bool.and_self]; rfl
      have hput : closeL (d.load ++ pre d 3 ++ [UInt8.ofNat zs, UInt8.ofNat zk]) = putL d := by
        unfold putL
        rw [hzs, hzk]
        rfl
      rw [hput, m1] at m8
      refine ⟨by rw [m1, hn8, show s.next + 5 + (3 + 1) = s.next + 9 by omega], by rw [m7, m1, hn11]; omega, ?_⟩
      intro m o ho
      rw [hh] at ho
      refine ⟨o, ?_, .refl o⟩
      rw [m8]
      by_cases h9 : m = s.next + 9
      · rw [if_pos h9] at ho
        rw [if_neg (by omega), if_pos (by omega)]
        exact ho
      · rw [if_neg h9] at ho
        by_cases h10 : s.next ≤ m ∧ m < s.next + 11
        · rw [if_pos h10] at ho; cases ho
        · rw [if_neg h10] at ho
          rw [if_neg (by omega), if_neg (by omega), m6 m (by omega)]
          exact ho
  · cases h
end Go.Proofs.YtgofanjbhbeniaaDoor.lf
end
end

section
/- Leaves: bytes that are the same; a number of two bytes. -/
noncomputable section
namespace Go.Proofs.YtgofanjbhbeniaaDoor.lf
open AE
set_option linter.unusedSimpArgs false
set_option linter.unusedVariables false
set_option maxRecDepth 10000

theorem bytesOf_map : ∀ l : List UInt8, bytesOf (l.map bv) = some l
  | [] => rfl
  | x :: l => by
    simp only [List.map_cons, bv, bytesOf]
    have := bytesOf_map l
    rw [this]
    show some (UInt8.ofNat (Int.toNat (Int.ofNat x.toNat)) :: l) = _
    rw [show Int.toNat (Int.ofNat x.toNat) = x.toNat from rfl, UInt8.ofNat_toNat]
theorem eqBytes_iff : ∀ a b : List UInt8, eqBytes a b = decide (a = b)
  | [], [] => by simp [eqBytes]
  | [], _ :: _ => by simp [eqBytes]
  | _ :: _, [] => by simp [eqBytes]
  | x :: a, y :: b => by
    simp only [eqBytes]
    cases h : Nat.beq x.toNat y.toNat with
    | true =>
      have : x = y := UInt8.toNat_inj.1 (beq_iff.1 h)
      subst this
      simp only [eqBytes_iff a b]
      simp
    | false =>
      have : x ≠ y := fun e => by subst e; rw [beq_iff.2 rfl] at h; cases h
      simp [this]

def equalA : List Value → AM Value
  | [.slice (some ad) n c, .slice (some ad2) n2 c2] => loadA ad n fun cs => opt (bytesV cs) fun l => loadA ad2 n2 fun cs => opt (bytesV cs) fun l2 => .pure (.bool (eqBytes l l2))
  | [.slice none 0 0, .slice (some ad2) n2 c2] => loadA ad2 n2 fun cs => opt (bytesV cs) fun l2 => .pure (.bool (eqBytes [] l2))
  | _ => .fail
noncomputable def fiE : FI := FI.of Tryd.f37
noncomputable def cdE : Code := bodyOf Tryd.f37
theorem resE : fiE.results = [.tmp 4] := rfl
theorem b_str {E t} (a b : List UInt8) : binA E .eql t (.string ⟨⟨a⟩⟩) (.string ⟨⟨b⟩⟩) = some (.bool (eqBytes a b)) := rfl
theorem told_equal : AE.Told Tryd.prog 37 equalA := by
  refine told_go hE hmix tolds_nil ?_
  intro args s v s' h hm
  unfold equalA at h
  split at h
  · rename_i ad n c ad2 n2 c2
    obtain ⟨l, rfl, hb, h2⟩ := bs_of_load h
    obtain ⟨l2, rfl, hb2, h3⟩ := bs_of_load h2
    cases h3
    refine go_enter (fi := fiE) (c := cdE) (by kernel_rfl) (by kernel_rfl) 10 rfl rfl ?_
    have h0 : (Tr.ofList [Value.slice (some ad) l.length c, .slice (some ad2) l2.length c2]).get 0 = some (.slice (some ad) l.length c) := rfl
    have h1 : (Tr.ofList [Value.slice (some ad) l.length c, .slice (some ad2) l2.length c2]).get 1 = some (.slice (some ad2) l2.length c2) := rfl
    generalize Tr.ofList [Value.slice (some ad) l.length c, .slice (some ad2) l2.length c2] = t at *
    simp only [cdE, Tryd.f37, bodyOf]
    have q1 : ∀ k : List Value → AM ANext, (loadA ad l.length k).run s = (k (l.map bv)).run (s.seen ad.block) := fun k => loadA_run hb k
    have q2 : ∀ k : List Value → AM ANext, (loadA ad2 l2.length k).run (s.seen ad.block) = (k (l2.map bv)).run ((s.seen ad.block).seen ad2.block) := fun k => loadA_run hb2 k
    repeat apply go_seq
    apply go_region
    case h => intro m; simp (maxSteps := 2000000) (disch := decide) only [opsLoop, evOper, wantedA, nth, aop, aPick, aBin, aIndexAddr, aFieldAddr, aLoad, aStore, aExtract, aConvert, aAlloc, aBox, aIndex, callA, builtinA, Fr.evs, opt, val, when, AM.run, outV, newA, ptr, force_eq, seen_heap, seen_next, seen_mark, seen_seen, agg_cells, int_cells, Fr.ev, Fr.put, onFr, gps, gpn, bltT, still, flat, List.append_nil, List.nil_append, List.cons_append, Nat.reduceEqDiff, ne_eq, not_false_eq_true, reduceCtorEq, Bool.and_true, Bool.true_and, Bool.and_false, Bool.false_and, Bool.not_true, Bool.not_false, Bool.and_self]; rfl
    repeat apply go_seq
    apply go_region
    case h => intro m; simp (maxSteps := 2000000) (disch := decide) only [opsLoop, evOper, wantedA, nth, aop, aPick, aBin, aIndexAddr, aFieldAddr, aLoad, aStore, aExtract, aConvert, aAlloc, aBox, aIndex, callA, builtinA, Fr.evs, opt, val, when, AM.run, outV, newA, ptr, force_eq, seen_heap, seen_next, seen_mark, seen_seen, agg_cells, int_cells, Fr.ev, Fr.put, onFr, gps, gpn, bltT, still, flat, List.append_nil, List.nil_append, List.cons_append, Nat.reduceEqDiff, ne_eq, not_false_eq_true, reduceCtorEq, Bool.and_true, Bool.true_and, Bool.and_false, Bool.false_and, Bool.not_true, Bool.not_false, Bool.and_self, h0, h1, tySt, dsSt, tyB, dsB, tyU8, dsU8, q1, q2, bytesOf_map, b_str]; rfl
    repeat apply go_seq
    apply go_ret
    apply ret_intro rfl rfl
    case run => simp (disch := decide) only [resultsM, resultsA, resE, opsLoop, evOper, wantedA, nth, aop, aPick, aBin, aIndexAddr, aFieldAddr, aLoad, aStore, aExtract, aConvert, aAlloc, aBox, aIndex, callA, builtinA, Fr.evs, opt, val, when, AM.run, outV, newA, ptr, force_eq, seen_heap, seen_next, seen_mark, seen_seen, agg_cells, int_cells, Fr.ev, Fr.put, onFr, gps, gpn, bltT, still, flat, List.append_nil, List.nil_append, List.cons_append, Nat.reduceEqDiff, ne_eq, not_false_eq_true, reduceCtorEq, Bool.and_true, Bool.true_and, Bool.and_false, Bool.false_and, Bool.not_true, Bool.not_false, Bool.and_self]; rfl
    exact ⟨rfl, Less'.refl _⟩
  · rename_i ad2 n2 c2
    obtain ⟨l2, rfl, hb2, h3⟩ := bs_of_load h
    cases h3
    refine go_enter (fi := fiE) (c := cdE) (by kernel_rfl) (by kernel_rfl) 10 rfl rfl ?_
    have h0 : (Tr.ofList [Value.slice none 0 0, .slice (some ad2) l2.length c2]).get 0 = some (.slice none 0 0) := rfl
    have h1 : (Tr.ofList [Value.slice none 0 0, .slice (some ad2) l2.length c2]).get 1 = some (.slice (some ad2) l2.length c2) := rfl
    generalize Tr.ofList [Value.slice none 0 0, .slice (some ad2) l2.length c2] = t at *
    simp only [cdE, Tryd.f37, bodyOf]
    have q2 : ∀ k : List Value → AM ANext, (loadA ad2 l2.length k).run s = (k (l2.map bv)).run (s.seen ad2.block) := fun k => loadA_run hb2 k
    repeat apply go_seq
    apply go_region
    case h => intro m; simp (maxSteps := 2000000) (disch := decide) only [opsLoop, evOper, wantedA, nth, aop, aPick, aBin, aIndexAddr, aFieldAddr, aLoad, aStore, aExtract, aConvert, aAlloc, aBox, aIndex, callA, builtinA, Fr.evs, opt, val, when, AM.run, outV, newA, ptr, force_eq, seen_heap, seen_next, seen_mark, seen_seen, agg_cells, int_cells, Fr.ev, Fr.put, onFr, gps, gpn, bltT, still, flat, List.append_nil, List.nil_append, List.cons_append, Nat.reduceEqDiff, ne_eq, not_false_eq_true, reduceCtorEq, Bool.and_true, Bool.true_and, Bool.and_false, Bool.false_and, Bool.not_true, Bool.not_false, Bool.and_self]; rfl
    repeat apply go_seq
    apply go_region
    case h => intro m; simp (maxSteps := 2000000) (disch := decide) only [opsLoop, evOper, wantedA, nth, aop, aPick, aBin, aIndexAddr, aFieldAddr, aLoad, aStore, aExtract, aConvert, aAlloc, aBox, aIndex, callA, builtinA, Fr.evs, opt, val, when, AM.run, outV, newA, ptr, force_eq, seen_heap, seen_next, seen_mark, seen_seen, agg_cells, int_cells, Fr.ev, Fr.put, onFr, gps, gpn, bltT, still, flat, List.append_nil, List.nil_append, List.cons_append, Nat.reduceEqDiff, ne_eq, not_false_eq_true, reduceCtorEq, Bool.and_true, Bool.true_and, Bool.and_false, Bool.false_and, Bool.not_true, Bool.not_false, Bool.and_self, h0, h1, tySt, dsSt, tyB, dsB, tyU8, dsU8, q2, bytesOf_map, b_str]; rfl
    repeat apply go_seq
    apply go_ret
    apply ret_intro rfl rfl
    case run => simp (disch := decide) only [resultsM, resultsA, resE, opsLoop, evOper, wantedA, nth, aop, aPick, aBin, aIndexAddr, aFieldAddr, aLoad, aStore, aExtract, aConvert, aAlloc, aBox, aIndex, callA, builtinA, Fr.evs, opt, val, when, AM.run, outV, newA, ptr, force_eq, seen_heap, seen_next, seen_mark, seen_seen, agg_cells, int_cells, Fr.ev, Fr.put, onFr, gps, gpn, bltT, still, flat, List.append_nil, List.nil_append, List.cons_append, Nat.reduceEqDiff, ne_eq, not_false_eq_true, reduceCtorEq, Bool.and_true, Bool.true_and, Bool.and_false, Bool.false_and, Bool.not_true, Bool.not_false, Bool.and_self]; rfl
    exact ⟨rfl, Less'.refl _⟩
  · cases h

/-! a number of two bytes, in a slice that a variable holds -/
def num2 (x y : UInt8) : Int := wrapA .i64 (.ofNat (Nat.lor (x.toNat % 18446744073709551616) (y.toNat * 256 % 18446744073709551616)))
/-- the variable p holds the slice v -/
structure Holds (s : S) (p : Nat) (v : Value) : Prop where
  lt : p < s.next
  cell : ∃ c m, Has s p c m ∧ 1 ≤ m ∧ c.get 0 = some v
theorem Holds.load {s : S} {p : Nat} {v : Value} (h : Holds s p v) : (loadT tiB ⟨p, 0, none⟩ AE.val).run s = some (.value v, s.seen p) := by
  obtain ⟨c, m, h1, h2, h3⟩ := h.cell
  exact has_load tiB (by rw [dsB]; rfl) h.lt h1 h2 h3
theorem Holds.rd {s s' : S} {p : Nat} {v : Value} (h : Holds s p v) (hr : Rd s s') : Holds s' p v := ⟨by rw [hr.next]; exact h.lt, by obtain ⟨c, m, h1, h2⟩ := h.cell; exact ⟨c, m, h1.of (by rw [hr.heap]), h2⟩⟩
theorem Holds.keep {s s' : S} {p : Nat} {v : Value} (h : Holds s p v) (hn : s.next ≤ s'.next) (hg : s'.heap.get p = s.heap.get p) : Holds s' p v := ⟨by have := h.lt; omega, by obtain ⟨c, m, h1, h2⟩ := h.cell; exact ⟨c, m, h1.of hg, h2⟩⟩
def twoA : List Value → AM Value
  | [.int .i64 (.ofNat k), .pointer (some ⟨p, 0, none⟩)] => loadT tiB ⟨p, 0, none⟩ fun
    | .slice (some ad) n cap => when (Nat.ble (118 + k) n && Nat.ble k 1000 && Nat.blt n 1000000) (loadA ad n fun cs => opt (bytesV cs) fun l => opt l[116 + k]? fun x => opt l[117 + k]? fun y => .pure (.int .i64 (num2 x y)))
    | _ => .fail
  | _ => .fail
noncomputable def fi2 : FI := FI.of Tryd.f36
noncomputable def cd2 : Code := bodyOf Tryd.f36
theorem res2 : fi2.results = [.tmp 3] := rfl
theorem b_plus {a b : Nat} (h : a + b < 9223372036854775808) : ∀ E t, binA E .add t (.int .i64 (.ofNat a)) (.int .i64 (.ofNat b)) = some (.int .i64 (.ofNat (a + b))) := by
  intro E t
  show some (Value.int .i64 (wrapA .i64 (.ofNat (a + b)))) = _
  rw [wrap64 h]
theorem cv64 {x : Nat} (h : x < 9223372036854775808) : wrapA .i64 (.ofNat x) = .ofNat x := wrap64 h
set_option maxHeartbeats 2000000 in
theorem told_two : AE.Told Tryd.prog 36 twoA := by
  refine told_go hE hmix tolds_nil ?_
  intro args s v s' h hm
  unfold twoA at h
  split at h
  · rename_i k p
    -- the slice that the variable holds
    have key : ∃ ad n cap l x y, Holds s p (.slice (some ad) n cap) ∧ l.length = n ∧ Bs s ad l ∧ 118 + k ≤ n ∧ k ≤ 1000 ∧ n < 1000000 ∧ l[116 + k]? = some x ∧ l[117 + k]? = some y ∧ v = .int .i64 (num2 x y) ∧ s' = (s.seen p).seen ad.block := by
      unfold loadT at h
      rw [dsB] at h
      simp only [isAggD] at h
      obtain ⟨c, m, cs, _, hlt, ho, hm1, hcs, h4⟩ := load_inv h
      split at h4
      · rename_i u
        split at h4
        · rename_i ad n cap
          obtain ⟨hc, h5⟩ := run_when h4
          simp only [Bool.and_eq_true] at hc
          obtain ⟨l, hl, hb, h6⟩ := bs_of_load h5
          obtain ⟨x, hx, h7⟩ := run_opt h6
          obtain ⟨y, hy, h8⟩ := run_opt h7
          cases h8
          have hc0 := (rdCells_get hcs).2 0 _ rfl
          exact ⟨ad, n, cap, l, x, y, ⟨hlt, c, m, ho, by simpa using hm1, by simpa using hc0⟩, hl, hb.of rfl rfl, ble_iff.1 hc.1.1, ble_iff.1 hc.1.2, blt_iff.1 hc.2, hx, hy, rfl, rfl⟩
        · cases h4
      · cases h4
    obtain ⟨ad, n, cap, l, x, y, H, rfl, hb, h1, h2, h3, hx, hy, rfl, rfl⟩ := key
    clear h
    refine go_enter (fi := fi2) (c := cd2) (by kernel_rfl) (by kernel_rfl) 19 rfl rfl ?_
    have h0 : (Tr.ofList [Value.int .i64 (.ofNat k), .pointer (some ⟨p, 0, none⟩)]).get 0 = some (.int .i64 (.ofNat k)) := rfl
    have h1' : (Tr.ofList [Value.int .i64 (.ofNat k), .pointer (some ⟨p, 0, none⟩)]).get 1 = some (.pointer (some ⟨p, 0, none⟩)) := rfl
    generalize Tr.ofList [Value.int .i64 (.ofNat k), .pointer (some ⟨p, 0, none⟩)] = t at *
    simp only [cd2, Tryd.f36, bodyOf]
    have q0 := (H.rd (s' := ⟨s.heap, s.next, s.mark, s.rd, s.wr⟩) ⟨rfl, rfl, rfl⟩)
    have H0 : Holds ⟨s.heap, s.next, s.next, 0, 0⟩ p (.slice (some ad) l.length cap) := ⟨H.lt, H.cell⟩
    have B0 : Bs ⟨s.heap, s.next, s.next, 0, 0⟩ ad l := hb.of rfl rfl
    have l1 := H0.load
    have lx := sum.byte_load (Bs.at B0 hx) tiU8 dsU8
    have ly := sum.byte_load (Bs.at B0 hy) tiU8 dsU8
    simp only [S.seen] at l1 lx ly
    have p1 := b_plus (a := 116) (b := k) (by omega)
    have p2 := b_plus (a := 116 + k) (b := 1) (by omega)
    rw [show 116 + k + 1 = 117 + k by omega] at p2
    have n1 : Nat.blt (116 + k) l.length = true := blt_iff.2 (by omega)
    have n2 : Nat.blt (117 + k) l.length = true := blt_iff.2 (by omega)
    have i116 : (116 : Int) = Int.ofNat 116 := rfl
    have hx8 := x.toNat_lt
    have hy8 := y.toNat_lt
    have w1 : wrapA .i64 (Int.ofNat x.toNat) = Int.ofNat x.toNat := cv64 (by omega)
    have w2 : wrapA .i64 (Int.ofNat y.toNat) = Int.ofNat y.toNat := cv64 (by omega)
    have s1 : ∀ E t, binA E .shl t (.int .i64 (.ofNat y.toNat)) (.int .u64 8) = some (.int .i64 (.ofNat (y.toNat * 256))) := by
      intro E t
      show some (Value.int .i64 (wrapA .i64 (Int.ofNat (y.toNat * 256)))) = _
      rw [cv64 (by omega)]
    have o1 : ∀ E t, binA E .or t (.int .i64 (.ofNat x.toNat)) (.int .i64 (.ofNat (y.toNat * 256))) = some (.int .i64 (num2 x y)) := fun E t => rfl
    repeat apply go_seq
    apply go_region
    case h => intro m; simp (maxSteps := 2000000) (disch := decide) only [opsLoop, evOper, wantedA, nth, aop, aPick, aBin, aIndexAddr, aFieldAddr, aLoad, aStore, aExtract, aConvert, aAlloc, aBox, aIndex, callA, builtinA, Fr.evs, opt, val, when, AM.run, outV, newA, ptr, force_eq, seen_heap, seen_next, seen_mark, seen_seen, agg_cells, int_cells, Fr.ev, Fr.put, onFr, gps, gpn, bltT, still, flat, List.append_nil, List.nil_append, List.cons_append, Nat.reduceEqDiff, ne_eq, not_false_eq_true, reduceCtorEq, Bool.and_true, Bool.true_and, Bool.and_false, Bool.false_and, Bool.not_true, Bool.not_false, Bool.and_self]; rfl
    repeat apply go_seq
    apply go_drawn
    case hs => rfl
    case h => intro m; simp (maxSteps := 2000000) (disch := decide) only [opsLoop, evOper, wantedA, nth, aop, aPick, aBin, aIndexAddr, aFieldAddr, aLoad, aStore, aExtract, aConvert, aAlloc, aBox, aIndex, callA, builtinA, Fr.evs, opt, val, when, AM.run, outV, newA, ptr, force_eq, seen_heap, seen_next, seen_mark, seen_seen, agg_cells, int_cells, Fr.ev, Fr.put, onFr, gps, gpn, bltT, still, flat, List.append_nil, List.nil_append, List.cons_append, Nat.reduceEqDiff, ne_eq, not_false_eq_true, reduceCtorEq, Bool.and_true, Bool.true_and, Bool.and_false, Bool.false_and, Bool.not_true, Bool.not_false, Bool.and_self, drawnLoop, force_eq, S.seen, keep_none, clash_nil, clash_reads, created_self, lor_zero, lor_zero', h0, h1', tyB, dsB, tyU8, szU8, dsU8, tyI, dsI, l1, i116, int1, p1, p2, n1, n2, mul1, lx, ly, w1, w2, s1, o1]; rfl
    repeat apply go_seq
    apply go_ret
    apply ret_intro rfl rfl
    case run => simp (disch := decide) only [resultsM, resultsA, res2, opsLoop, evOper, wantedA, nth, aop, aPick, aBin, aIndexAddr, aFieldAddr, aLoad, aStore, aExtract, aConvert, aAlloc, aBox, aIndex, callA, builtinA, Fr.evs, opt, val, when, AM.run, outV, newA, ptr, force_eq, seen_heap, seen_next, seen_mark, seen_seen, agg_cells, int_cells, Fr.ev, Fr.put, onFr, gps, gpn, bltT, still, flat, List.append_nil, List.nil_append, List.cons_append, Nat.reduceEqDiff, ne_eq, not_false_eq_true, reduceCtorEq, Bool.and_true, Bool.true_and, Bool.and_false, Bool.false_and, Bool.not_true, Bool.not_false, Bool.and_self]; rfl
    exact ⟨rfl, Rd.less (s := s) ⟨rfl, rfl, rfl⟩ ⟨rfl, rfl, rfl⟩⟩
  · cases h
end Go.Proofs.YtgofanjbhbeniaaDoor.lf
end
end

section
/- Leaves: the leaf of a block: parts. -/
noncomputable section
namespace Go.Proofs.YtgofanjbhbeniaaDoor.lf
open AE
set_option linter.unusedSimpArgs false
set_option linter.unusedVariables false
set_option maxRecDepth 10000

theorem bit_own {mark n l : Nat} (h : mark ≤ n) : bit mark n l = l := by
  unfold bit
  rw [ble_iff.2 h]
theorem bump_ok' {α : Type} : ∀ (n : Nat) (k : AM α) (s : S), s.mark ≤ s.next → (∀ i, i < n → Nat.ble (s.next + i) lastName = true) → ∃ s1, (bump n k).run s = k.run s1 ∧ s1.next = s.next + n ∧ s1.mark = s.mark ∧ s1.rd = s.rd ∧ s1.wr = s.wr ∧ ∀ m, s1.heap.get m = if s.next ≤ m ∧ m < s.next + n then none else s.heap.get m
  | 0, k, s, hm, h => ⟨s, rfl, rfl, rfl, rfl, rfl, fun m => by rw [if_neg (by omega)]⟩
  | n + 1, k, s, hm, h => by
    have h0 : Nat.ble s.next lastName = true := h 0 (by omega)
    have h7 : ∀ i, (S.turn (s.grow (.deferred none)) s.next none).next + i = s.next + (i + 1) := fun i => by show s.next + 1 + i = _; omega
    obtain ⟨s1, e1, e2, e3, er, ew, e4⟩ := bump_ok' n k (S.turn (s.grow (.deferred none)) s.next none) (by show s.mark ≤ s.next + 1; omega) (fun i hi => by rw [h7]; exact h (i + 1) (by omega))
    refine ⟨s1, ?_, by rw [e2]; show s.next + 1 + n = _; omega, by rw [e3]; rfl, by rw [er]; rfl, by rw [ew]; exact bit_own hm, ?_⟩
    · rw [← e1]
      have hb : Nat.blt s.next (Nat.succ s.next) = true := blt_iff.2 (Nat.lt_succ_self _)
      have hg := hg_same h0 s.heap (some (AObj.deferred none))
      simp only [bump, AM.run, force_eq, h0, hb, Bool.and_self, hg]
      rfl
    · intro m
      rw [e4 m]
      show (if s.next + 1 ≤ m ∧ m < s.next + 1 + n then none else ((s.heap.put s.next (some (.deferred none))).put s.next none).get m) = _
      by_cases hm : m = s.next
      · subst hm
        rw [if_neg (by omega), hg_same h0, if_pos (by omega)]
      · rw [hg_far h0 hm, hg_far h0 hm]
        by_cases h5 : s.next + 1 ≤ m ∧ m < s.next + 1 + n
        · rw [if_pos h5, if_pos (by omega)]
        · rw [if_neg h5, if_neg (by omega)]

/-- what a call of Put does -/
def putN (d : LeafD) : Nat := if rightL d = true then 11 else 3
def putV (d : LeafD) (n : Nat) : Value := if rightL d = true then .slice (some ⟨n + 9, 0, none⟩) 128 128 else .slice none 0 0
theorem putA_run {s : S} {d : LeafD} (hlen : d.load.length = 116) (hm : s.mark ≤ s.next) (hN : ∀ i, i < putN d → Nat.ble (s.next + i) lastName = true) :
    ∃ s1, (putA [.agg ⟨d.cells⟩]).run s = some (putV d s.next, s1) ∧ s1.next = s.next + putN d ∧ s1.mark = s.mark ∧ s1.rd = s.rd ∧ s1.wr = s.wr ∧
      (∀ m, (m < s.next ∨ s.next + putN d ≤ m) → s1.heap.get m = s.heap.get m) ∧ (rightL d = true → s1.heap.get (s.next + 9) = some (.cells (Tr.ofList ((putL d).map bv)) (putL d).length 5 .whole)) := by
  have e0 : (putA [.agg ⟨d.cells⟩]).run s = (match rightL d with
    | true => bump 9 (newB (putL d) fun r => bump 1 (.pure (.slice (some ⟨r, 0, none⟩) 128 128)))
    | false => bump 3 (.pure (.slice none 0 0))).run s := by
    show (opt (leafOf d.cells) fun d => match rightL d with
      | true => bump 9 (newB (putL d) fun r => bump 1 (.pure (.slice (some ⟨r, 0, none⟩) 128 128)))
      | false => bump 3 (.pure (.slice none 0 0))).run s = _
    rw [leafOf_cells d hlen]
    rfl
  rw [e0]
  unfold putN at hN ⊢
  unfold putV
  cases hR : rightL d with
  | false =>
    rw [hR] at hN
    obtain ⟨s1, a1, a2, a3, a4, a5, a6⟩ := bump_ok' 3 (AM.pure (Value.slice none 0 0)) s hm hN
    exact ⟨s1, a1, a2, a3, a4, a5, fun m h => by rw [a6 m, if_neg (by simp at h; omega)], fun h => by cases h⟩
  | true =>
    rw [hR] at hN
    simp only [if_true] at hN ⊢
    obtain ⟨s1, a1, a2, a3, a4, a5, a6⟩ := bump_ok' 9 (newB (putL d) fun r => bump 1 (.pure (.slice (some ⟨r, 0, none⟩) 128 128))) s hm (fun i hi => hN i (by omega))
    have hN9 : Nat.ble (s.next + 9) lastName = true := hN 9 (by omega)
    obtain ⟨s2, b1, b2, b3, b4, b5, b6⟩ := bump_ok' 1 (AM.pure (Value.slice (some ⟨s.next + 9, 0, none⟩) 128 128)) (s1.grow (.cells (Tr.ofList ((putL d).map bv)) (putL d).length 5 .whole)) (by show s1.mark ≤ s1.next + 1; omega)
      (fun i hi => by have : i = 0 := by omega
                      subst this
                      show Nat.ble (s1.next + 1) lastName = true
                      rw [a2]; exact hN 10 (by omega))
    have hg : ∀ m, (s1.grow (.cells (Tr.ofList ((putL d).map bv)) (putL d).length 5 .whole)).heap.get m = if m = s.next + 9 then some (.cells (Tr.ofList ((putL d).map bv)) (putL d).length 5 .whole) else s1.heap.get m := by
      intro m
      show (s1.heap.put s1.next _).get m = _
      rw [a2]
      by_cases h : m = s.next + 9
      · subst h; rw [hg_same hN9, if_pos rfl]
      · rw [hg_far hN9 h, if_neg h]
    have hnx : (s1.grow (.cells (Tr.ofList ((putL d).map bv)) (putL d).length 5 .whole)).next = s.next + 10 := by show s1.next + 1 = _; omega
    refine ⟨s2, ?_, by rw [b2, hnx], by rw [b3]; exact a3, by rw [b4]; exact a4, by rw [b5]; exact a5, ?_, ?_⟩
    · rw [a1]
      simp only [newB, AM.run, force_eq]
      rw [a2]
      show (match Nat.ble (s.next + 9) lastName with | false => none | true => _) = _
      rw [hN9]
      have hs : (⟨s1.heap.put (s.next + 9) (some (.cells (Tr.ofList ((putL d).map bv)) (putL d).length 5 .whole)), Nat.succ (s.next + 9), s1.mark, s1.rd, s1.wr⟩ : S) = s1.grow (.cells (Tr.ofList ((putL d).map bv)) (putL d).length 5 .whole) := by
        show _ = S.mk _ _ _ _ _
        rw [a2]
      simp only [hs]
      exact b1
    · intro m h
      rw [b6 m, if_neg (by rw [hnx]; omega), hg m, if_neg (by omega), a6 m, if_neg (by omega)]
    · intro _
      rw [b6 _, if_neg (by rw [hnx]; omega), hg _, if_pos rfl]

def zeroL : LeafD := ⟨0, 0, 0, 0, 0, List.replicate 116 0⟩
theorem zero_len : zeroL.load.length = 116 := by simp [zeroL]
theorem zeLf : tiLf.zero = some (.agg ⟨zeroL.cells⟩) := by kernel_rfl
/-- the leaf that a block's bytes say -/
def sayL (l : List UInt8) : LeafD := ⟨((l.getD 123 0).toNat : Int), num2 (l.getD 116 0) (l.getD 117 0), num2 (l.getD 118 0) (l.getD 119 0), num2 (l.getD 120 0) (l.getD 121 0), ((l.getD 122 0).toNat : Int), l.take 116⟩
def getOK (l : List UInt8) : Bool := rightL (sayL l) && eqBytes (putL (sayL l)) l
def getL (l : List UInt8) : LeafD := if getOK l = true then sayL l else zeroL
def getA : List Value → AM Value
  | [.slice a n cap] => match Nat.beq n 128 with
    | false => bump 2 (.pure (.tuple ⟨[.agg ⟨zeroL.cells⟩, .bool false]⟩))
    | true => match a with
      | none => .fail
      | some ad => loadA ad 128 fun cs => opt (bytesV cs) fun l => bump (3 + putN (sayL l)) (.pure (.tuple ⟨[.agg ⟨(getL l).cells⟩, .bool (getOK l)]⟩))
  | _ => .fail

theorem LfAt.cells_one {d : LeafD} : allOne d.cells = true := by
  have := bvs_one d.load
  unfold LeafD.cells
  show allOne (Value.int .i64 d.kind :: Value.int .i64 d.file :: Value.int .i64 d.place :: Value.int .i64 d.next :: Value.int .i64 d.size :: d.load.map bv) = true
  simp only [allOne, oneB, this]
/-- a leaf is stored -/
theorem LfAt.store {s : S} {n : Nat} {d d' : LeafD} (h : LfAt s n d) (hN : Nat.ble n lastName = true) (hd : d'.load.length = 116) :
    ∃ c e rm, (storeA ⟨n, 0, none⟩ d'.cells (AM.pure (ANext.value undefV))).run s = some (.value undefV, (s.seen n).turn n (some (.cells c 121 e rm))) ∧ Row c 0 d'.cells := by
  obtain ⟨c, e, rm, h1, h2⟩ := h.cell
  refine ⟨wrCells c 0 d'.cells, e, rm, ?_, row_wr (by rw [d'.len hd]; unfold Tr.wide; omega)⟩
  rw [storeA_run _ LfAt.cells_one h.lt hN h1 (by rw [d'.len hd]; omega) (by omega)]
  rfl
theorem copy_b {s : S} {N : Nat} {d : LeafD} {ad : Addr} {l : List UInt8} {c2 : Nat} (h : LfAt s N d) (hN : Nat.ble N lastName = true) (hb : Bs s ad l) (hl : l.length = 128) :
    ∃ c e rm, (builtinA E .copy #[51, 51] [.slice (some ⟨N, 5, none⟩) 116 116, .slice (some ad) 128 c2]).run s = some (.value (.int .i64 (.ofNat 116)), ((s.seen ad.block).seen N).turn N (some (.cells c 121 e rm))) ∧
      Row c 0 ({ d with load := l.take 116 } : LeafD).cells := by
  obtain ⟨c, e, rm, h1, h2⟩ := h.cell
  have htl : (l.take 116).length = 116 := by rw [List.length_take]; omega
  have hbt := hb.take 116
  refine ⟨wrCells c 5 ((l.take 116).map bv), e, rm, ?_, ?_⟩
  · have e1 : builtinA E .copy #[51, 51] [.slice (some ⟨N, 5, none⟩) 116 116, .slice (some ad) 128 c2] = copyA 1 (some ⟨N, 5, none⟩) 116 (.slice (some ad) 128 c2) 128 := by
      simp only [builtinA, tyB, dsB, opt, tyU8, szU8, lenA]
    rw [e1]
    have e2 : copyA 1 (some ⟨N, 5, none⟩) 116 (.slice (some ad) 128 c2) 128 = loadA ad 116 fun cs => match (some ⟨N, 5, none⟩ : Option Addr), cs with
      | _, [] => AE.val (.int .i64 (.ofNat 116))
      | some a, cs => storeA a cs (AE.val (.int .i64 (.ofNat 116)))
      | none, _ => .fail := rfl
    rw [e2]
    have e3 := loadA_run hbt (fun cs => match (some ⟨N, 5, none⟩ : Option Addr), cs with
      | _, [] => AE.val (.int .i64 (.ofNat 116))
      | some a, cs => storeA a cs (AE.val (.int .i64 (.ofNat 116)))
      | none, _ => .fail)
    rw [htl] at e3
    rw [e3]
    obtain ⟨x, r, hx⟩ : ∃ x r, l.take 116 = x :: r := by
      cases hh : l.take 116 with
      | nil => rw [hh] at htl; simp at htl
      | cons x r => exact ⟨x, r, rfl⟩
    rw [hx, List.map_cons]
    show (storeA ⟨N, 5, none⟩ (bv x :: r.map bv) (AE.val (.int .i64 (.ofNat 116)))).run (s.seen ad.block) = _
    rw [← List.map_cons, ← hx, storeA_run (s := s.seen ad.block) _ (bvs_one _) h.lt hN h1 (by rw [List.length_map, htl]; omega) (by omega)]
    rfl
  · have hw : 5 + ((l.take 116).map bv).length ≤ Tr.wide := by rw [List.length_map, htl]; unfold Tr.wide; omega
    show Row _ 0 ([.int .i64 d.kind, .int .i64 d.file, .int .i64 d.place, .int .i64 d.next, .int .i64 d.size] ++ (l.take 116).map bv)
    refine row_app (row_wr_far hw ?_ (.inl (by simp))) (row_wr hw)
    intro k v hk
    refine h2 k v ?_
    unfold LeafD.cells
    rw [List.getElem?_append_left (List.getElem?_eq_some_iff.1 hk).1]
    exact hk
end Go.Proofs.YtgofanjbhbeniaaDoor.lf
end
end
