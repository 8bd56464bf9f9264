/- Leaves: what the code that makes and reads them does, told shortly: a cut set of one byte; whether a leaf may be. -/
import Derived.Test.YtgofanjbhbeniaaDoorRows
import Derived.Test.YtgofanjbhbeniaaDoorAe26
import Derived.Test.YtgofanjbhbeniaaDoorAe32
section
/- The sum of bytes: what its code does over the named memory. -/
namespace Go.Proofs.YtgofanjbhbeniaaDoor.sum
open AE
set_option linter.unusedSimpArgs false
set_option maxRecDepth 10000

noncomputable def body : Code := bodyOf Tryd.f44
noncomputable def cL : Code := sub [1,1,0,1,0,0] body
noncomputable def cIn : Code := sub [1,1,0,0,1,1,1,0,0] cL
noncomputable def cX : Code := sub [1,1,0,0] cL
noncomputable def r3 : Code := sub [0] cL
noncomputable def r4 : Code := sub [0] cX
noncomputable def r5 : Code := sub [1,0] cX
noncomputable def r6 : Code := sub [1,1,0] cX
noncomputable def r11 : Code := sub [1,1,1] cL
noncomputable def r0 : Code := sub [0] body
noncomputable def r1 : Code := sub [1,0] body
noncomputable def r2 : Code := sub [1,1,0,0] body
noncomputable def r12 : Code := sub [1,1,1,0] body
abbrev FN : Nat := 44

/-- one bit -/
theorem bitStep (E : Env) (f r j : Nat) (hr : r < 4294967296) (hj : j < 8) (t : Tr Value) (s : S) (h3 : t.get 3 = some (.int .u32 (.ofNat r))) (h17 : t.get 17 = some (.int .i64 (.ofNat j))) :
    ∃ t', ev E (f + 20) (.code cIn ⟨FN, t, 30, [], none⟩) s = some (.fr .normal ⟨FN, t', 30, [], none⟩, s) ∧ t'.get 3 = some (.int .u32 (.ofNat (crcBit r))) ∧ t'.get 17 = some (.int .i64 (.ofNat (j + 1))) ∧
      t'.get 7 = t.get 7 ∧ t'.get 8 = t.get 8 ∧ t'.get 9 = t.get 9 := by
  have hj8 : ltI (Int.ofNat j) 8 = true := by rw [ltI_eq]; simp; omega
  have hinc : ∀ E t, binA E .add t (.int .i64 (.ofNat j)) (.int .i64 1) = some (.int .i64 (.ofNat (j + 1))) := fun E t => b_inc (by omega)
  unfold cIn cL body
  simp only [Tryd.f44, bodyOf, sub]
  simp (disch := decide) only [ev, evCode, evRegion, outFr, opsLoop, evOper, wantedA, aop, aBin, opt, val, AM.run, Fr.ev, Fr.put, onFr, gp, bltT, h3, h17, still, flat, hj8, hinc, b_and, b_mul, b_xor, b_shr, b_lss,
    Nat.reduceEqDiff, if_true, if_false, reduceIte, reduceCtorEq]
  refine ⟨_, rfl, ?_⟩
  simp (disch := decide) only [gp, Nat.reduceEqDiff, reduceIte, crcBit_eq hr, and_self]

def bits : Nat → Nat → Nat
  | 0, r => r
  | k + 1, r => bits k (crcBit r)
theorem bits_lt : ∀ (k r : Nat), r < 4294967296 → bits k r < 4294967296
  | 0, r, h => h
  | k + 1, r, h => bits_lt k _ (crcBit_lt h)

/-- the bits that are left -/
theorem bitLoop (E : Env) (s : S) : ∀ (k f r j : Nat), r < 4294967296 → j + k = 8 → ∀ (t : Tr Value), t.get 3 = some (.int .u32 (.ofNat r)) → t.get 17 = some (.int .i64 (.ofNat j)) →
    ∃ t', ev E (f + k + 30) (.code (.loop cIn) ⟨FN, t, 30, [], none⟩) s = some (.fr (.exit 2) ⟨FN, t', 30, [], none⟩, s) ∧ t'.get 3 = some (.int .u32 (.ofNat (bits k r))) ∧ t'.get 7 = t.get 7 ∧ t'.get 8 = t.get 8 ∧ t'.get 9 = t.get 9
  | 0, f, r, j, hr, hj, t, h3, h17 => by
    have hj8 : ltI (Int.ofNat j) 8 = false := by rw [ltI_eq]; simp; omega
    unfold cIn cL body
    simp only [Tryd.f44, bodyOf, sub]
    simp (disch := decide) only [ev, evCode, evRegion, outFr, opsLoop, evOper, wantedA, aop, aBin, opt, val, AM.run, Fr.ev, Fr.put, onFr, gp, bltT, h3, h17, still, flat, hj8, b_lss,
      Nat.reduceEqDiff, if_true, if_false, reduceIte, reduceCtorEq]
    refine ⟨_, rfl, ?_⟩
    simp (disch := decide) only [gp, Nat.reduceEqDiff, reduceIte, h3, bits, and_self]
  | k + 1, f, r, j, hr, hj, t, h3, h17 => by
    obtain ⟨t1, e1, g3, g17, g7, g8, g9⟩ := bitStep E (f + k + 10) r j hr (by omega) t s h3 h17
    obtain ⟨t2, e2, k3, k7, k8, k9⟩ := bitLoop E s k f (crcBit r) (j + 1) (crcBit_lt hr) (by omega) t1 g3 g17
    refine ⟨t2, ?_, k3, k7.trans g7, k8.trans g8, k9.trans g9⟩
    have e1' : ev E (f + k + 30) (.code cIn ⟨FN, t, 30, [], none⟩) s = some (.fr .normal ⟨FN, t1, 30, [], none⟩, s) := e1
    show evCode (ev E (f + k + 30)) E (.loop cIn) _ s = _
    simp only [evCode, e1', e2]

theorem cL_eq : cL = .seq r3 (.seq (.cond (.tmp 10) .skip (.exit 0)) (.seq (.block 1 (.seq r4 (.seq r5 (.seq r6 (.block 2 (.loop cIn)))))) r11)) := rfl
theorem r3_run (E : Env) (f i len : Nat) (t : Tr Value) (s : S) (h9 : t.get 9 = some (.int .i64 (.ofNat i))) (h8 : t.get 8 = some (.int .i64 (.ofNat len))) :
    ev E (f + 2) (.code r3 ⟨FN, t, 30, [], none⟩) s = some (.fr .normal ⟨FN, t.put 10 (some (.bool (ltI (.ofNat i) (.ofNat len)))), 30, [], none⟩, s) := by
  unfold r3 cL body
  simp only [Tryd.f44, bodyOf, sub]
  simp (disch := decide) only [ev, evCode, evRegion, outFr, opsLoop, evOper, wantedA, aop, aBin, opt, val, AM.run, Fr.ev, Fr.put, onFr, gp, bltT, h8, h9, b_lss, Nat.reduceEqDiff, reduceIte]

structure Tys (E : Env) : Prop where
  sl : ∃ i, E.ty.get 51 = some i ∧ i.desc = .slice 5
  u8 : ∃ i, E.ty.get 5 = some i ∧ i.desc = .int .u8 ∧ i.size = 1
  u32 : ∃ i, E.ty.get 73 = some i ∧ i.desc = .int .u32

/-- where a byte lies -/
structure At (s : S) (ad : Addr) (k x : Nat) : Prop where
  spot : ad.spot = none
  lt : ad.block < s.next
  cell : ∃ c m, Has s ad.block c m ∧ ad.off + k + 1 ≤ m ∧ c.get (ad.off + k) = some (.int .u8 (.ofNat x))

theorem addA_eq (ad : Addr) (k : Nat) (h : ad.spot = none) : addA ad k = ⟨ad.block, ad.off + k, none⟩ := by
  cases k with
  | zero => obtain ⟨b, o, sp⟩ := ad; simp only at h; subst h; rfl
  | succ k => rfl
theorem byte_load {s : S} {ad : Addr} {k x : Nat} (h : At s ad k x) (i8 : TI) (hi : i8.desc = .int .u8) : (loadT i8 (addA ad k) val).run s = some (.value (.int .u8 (.ofNat x)), s.seen ad.block) := by
  obtain ⟨hs, hlt, c, m, h1, h2, h3⟩ := h
  rw [addA_eq ad k hs]
  have hble : Nat.ble (Nat.add (ad.off + k) 1) m = true := ble_iff.2 h2
  have hb : Nat.blt ad.block s.next = true := blt_iff.2 hlt
  rcases h1 with ⟨e, rm, h1⟩ | ⟨e, h1⟩
  all_goals
    simp only [loadT, hi, isAggD, loadA, AM.run, hb, h1, hble, when, rdCells, Nat.add_eq, Nat.add_zero, h3, opt, val]
    rfl
theorem r4_run {E : Env} (hE : Tys E) (f i len cap : Nat) (ad : Addr) (x : Nat) (t : Tr Value) (s : S) (h9 : t.get 9 = some (.int .i64 (.ofNat i))) (h7 : t.get 7 = some (.slice (some ad) len cap)) (hi : i < len) (hat : At s ad i x) :
    ev E (f + 2) (.code r4 ⟨FN, t, 30, [], none⟩) s = some (.fr .normal ⟨FN, ((t.put 11 (some (.pointer (some (addA ad i))))).put 12 (some (.int .u8 (.ofNat x)))).put 5 (some (.int .u8 (.ofNat x))), 30, [], none⟩, s.seen ad.block) := by
  obtain ⟨isl, hsl, dsl⟩ := hE.sl
  obtain ⟨i8, h8, d8, z8⟩ := hE.u8
  have hb : Nat.blt i len = true := blt_iff.2 hi
  have hl := byte_load hat i8 d8
  unfold r4 cX cL body
  simp only [Tryd.f44, bodyOf, sub]
  simp (disch := decide) only [ev, evCode, evRegion, outFr, opsLoop, evOper, wantedA, aop, aIndexAddr, aLoad, opt, when, Fr.ev, Fr.put, onFr, gp, bltT, h7, h9, hsl, dsl, h8, z8, hb, Nat.mul_one, Nat.mul_eq, hl, Nat.reduceEqDiff, reduceIte]
  simp (disch := decide) only [val, AM.run, gp, bltT, hl, Nat.reduceEqDiff, reduceIte]

theorem xor_byte {r x : Nat} (hr : r < 4294967296) (hx : x < 256) : Nat.mod (Nat.xor (Nat.mod r 4294967296) (Nat.mod x 4294967296)) 4294967296 = Nat.xor r x ∧ Nat.xor r x < 4294967296 := by
  rw [show Nat.mod r 4294967296 = r from Nat.mod_eq_of_lt hr, show Nat.mod x 4294967296 = x from Nat.mod_eq_of_lt (by omega)]
  have : Nat.xor r x < 4294967296 := Nat.xor_lt_two_pow (n := 32) hr (by omega)
  exact ⟨Nat.mod_eq_of_lt this, this⟩
theorem r56_run {E : Env} (hE : Tys E) (r x : Nat) (hr : r < 4294967296) (hx : x < 256) (t : Tr Value) (s : S) (h3 : t.get 3 = some (.int .u32 (.ofNat r))) (h5 : t.get 5 = some (.int .u8 (.ofNat x))) :
    ∃ t1 t2, (∀ f, ev E (f + 2) (.code r5 ⟨FN, t, 30, [], none⟩) s = some (.fr .normal ⟨FN, t1, 30, [], none⟩, s)) ∧ (∀ f, ev E (f + 2) (.code r6 ⟨FN, t1, 30, [], none⟩) s = some (.fr .normal ⟨FN, t2, 30, [], none⟩, s)) ∧
      t2.get 3 = some (.int .u32 (.ofNat (Nat.xor r x))) ∧ t2.get 17 = some (.int .i64 (.ofNat 0)) ∧ t2.get 7 = t.get 7 ∧ t2.get 8 = t.get 8 ∧ t2.get 9 = t.get 9 := by
  obtain ⟨i8, h8, d8, z8⟩ := hE.u8
  obtain ⟨i32, h32, d32⟩ := hE.u32
  unfold r5 r6 cX cL body
  simp only [Tryd.f44, bodyOf, sub]
  simp (disch := decide) only [ev, evCode, evRegion, outFr, opsLoop, evOper, wantedA, aop, aConvert, aBin, opt, val, AM.run, Fr.ev, Fr.put, onFr, gp, bltT, h3, h5, h8, h32, d32, b_conv8 hx, b_xor, still, flat, Nat.reduceEqDiff, reduceIte]
  refine ⟨_, _, fun f => rfl, fun f => rfl, ?_⟩
  simp (disch := decide) only [gp, Nat.reduceEqDiff, reduceIte, (xor_byte hr hx).1, and_self, and_true, true_and]
  rfl
theorem r11_run (E : Env) (f i : Nat) (hi : i < 9223372036854775807) (t : Tr Value) (s : S) (h9 : t.get 9 = some (.int .i64 (.ofNat i))) :
    ∃ t1, ev E (f + 2) (.code r11 ⟨FN, t, 30, [], none⟩) s = some (.fr .normal ⟨FN, t1, 30, [], none⟩, s) ∧ t1.get 9 = some (.int .i64 (.ofNat (i + 1))) ∧ t1.get 3 = t.get 3 ∧ t1.get 7 = t.get 7 ∧ t1.get 8 = t.get 8 := by
  have hinc : ∀ E t, binA E .add t (.int .i64 (.ofNat i)) (.int .i64 1) = some (.int .i64 (.ofNat (i + 1))) := fun E t => b_inc hi
  unfold r11 cL body
  simp only [Tryd.f44, bodyOf, sub]
  simp (disch := decide) only [ev, evCode, evRegion, outFr, opsLoop, evOper, wantedA, aop, aBin, opt, val, AM.run, Fr.ev, Fr.put, onFr, gp, bltT, h9, hinc, still, flat, Nat.reduceEqDiff, reduceIte]
  refine ⟨_, rfl, ?_⟩
  simp (disch := decide) only [gp, Nat.reduceEqDiff, reduceIte, and_self]

/-- one byte -/
theorem byteStep {E : Env} (hE : Tys E) (f r i len cap : Nat) (ad : Addr) (x : Nat) (hr : r < 4294967296) (hx : x < 256) (hi : i < len) (hi2 : i < 9223372036854775807) (t : Tr Value) (s : S) (hat : At s ad i x)
    (h3 : t.get 3 = some (.int .u32 (.ofNat r))) (h7 : t.get 7 = some (.slice (some ad) len cap)) (h8 : t.get 8 = some (.int .i64 (.ofNat len))) (h9 : t.get 9 = some (.int .i64 (.ofNat i))) :
    ∃ t', ev E (f + 60) (.code cL ⟨FN, t, 30, [], none⟩) s = some (.fr .normal ⟨FN, t', 30, [], none⟩, s.seen ad.block) ∧ t'.get 3 = some (.int .u32 (.ofNat (bits 8 (Nat.xor r x)))) ∧
      t'.get 7 = some (.slice (some ad) len cap) ∧ t'.get 8 = some (.int .i64 (.ofNat len)) ∧ t'.get 9 = some (.int .i64 (.ofNat (i + 1))) := by
  have hlt : ltI (Int.ofNat i) (Int.ofNat len) = true := by rw [ltI_eq]; simp; omega
  have a1 := r3_run E (f + 57) i len t s h9 h8
  have a2 := r4_run hE (f + 53) i len cap ad x (t.put 10 (some (.bool (ltI (.ofNat i) (.ofNat len))))) s (by rw [gp _ _ _ _ rfl]; exact h9) (by rw [gp _ _ _ _ rfl]; exact h7) hi hat
  obtain ⟨t1, t2, b1, b2, b3, b17, b7, b8, b9⟩ := r56_run hE r x hr hx ((((t.put 10 (some (.bool (ltI (.ofNat i) (.ofNat len))))).put 11 (some (.pointer (some (addA ad i))))).put 12 (some (.int .u8 (.ofNat x)))).put 5 (some (.int .u8 (.ofNat x)))) (s.seen ad.block)
    (by simp (disch := decide) only [gp, Nat.reduceEqDiff, reduceIte]; exact h3) (by simp (disch := decide) only [gp, reduceIte])
  obtain ⟨t3, c1, c3, c7, c8, c9⟩ := bitLoop E (s.seen ad.block) 8 (f + 14) (Nat.xor r x) 0 (xor_byte hr hx).2 (by omega) t2 b3 b17
  have g7 : t3.get 7 = some (.slice (some ad) len cap) := by rw [c7, b7]; simp (disch := decide) only [gp, Nat.reduceEqDiff, reduceIte]; exact h7
  have g8 : t3.get 8 = some (.int .i64 (.ofNat len)) := by rw [c8, b8]; simp (disch := decide) only [gp, Nat.reduceEqDiff, reduceIte]; exact h8
  have g9 : t3.get 9 = some (.int .i64 (.ofNat i)) := by rw [c9, b9]; simp (disch := decide) only [gp, Nat.reduceEqDiff, reduceIte]; exact h9
  obtain ⟨t4, d1, d9, d3, d7, d8⟩ := r11_run E (f + 55) i hi2 t3 (s.seen ad.block) g9
  refine ⟨t4, ?_, by rw [d3, c3], by rw [d7, g7], by rw [d8, g8], d9⟩
  rw [cL_eq]
  have hcond : Fr.ev ⟨FN, t.put 10 (some (.bool (ltI (.ofNat i) (.ofNat len)))), 30, [], none⟩ (.tmp 10) = some (.bool true) := by
    simp (disch := decide) only [Fr.ev, gp, reduceIte, hlt]
  refine (ev_seq (f := f + 59) a1).trans ((ev_seq (f := f + 58) ((ev_cond (f := f + 57) hcond).trans ev_skip)).trans ?_)
  refine (ev_seq (f := f + 57) (ev_block (f := f + 56) ((ev_seq (f := f + 55) a2).trans ((ev_seq (f := f + 54) (b1 (f + 52))).trans ((ev_seq (f := f + 53) (b2 (f + 51))).trans (ev_block_exit (f := f + 52) c1)))))).trans d1

theorem crcByte_eq (r x : Nat) : crcByte r x = bits 8 (Nat.xor r x) := by
  simp only [crcByte, force_eq, bits]

theorem At.of_seen {s : S} {ad : Addr} {k x : Nat} (n : Nat) (h : At s ad k x) : At (s.seen n) ad k x := ⟨h.spot, h.lt, h.cell⟩

/-- the bytes that are left, the block having been read already -/
theorem byteLoop {E : Env} (hE : Tys E) (len cap : Nat) (hlen : len < 9223372036854775807) (ad : Addr) (s : S) (hs : s.seen ad.block = s) : ∀ (l : List Value) (f r i R : Nat) (t : Tr Value), i + l.length = len → r < 4294967296 →
    (∀ k x, l[k]? = some (.int .u8 (.ofNat x)) → At s ad (i + k) x) → crcVals l r = some R →
    t.get 3 = some (.int .u32 (.ofNat r)) → t.get 7 = some (.slice (some ad) len cap) → t.get 8 = some (.int .i64 (.ofNat len)) → t.get 9 = some (.int .i64 (.ofNat i)) →
    ∃ t', ev E (f + l.length + 70) (.code (.loop cL) ⟨FN, t, 30, [], none⟩) s = some (.fr (.exit 0) ⟨FN, t', 30, [], none⟩, s) ∧ t'.get 3 = some (.int .u32 (.ofNat R)) ∧ R < 4294967296
  | [], f, r, i, R, t, hi, hr, hat, hc, h3, h7, h8, h9 => by
    simp only [crcVals, Option.some.injEq] at hc
    subst hc
    have hlt : ltI (Int.ofNat i) (Int.ofNat len) = false := by rw [ltI_eq]; simp at hi ⊢; omega
    have a1 := r3_run E (f + 66) i len t s h9 h8
    have hcond : Fr.ev ⟨FN, t.put 10 (some (.bool (ltI (.ofNat i) (.ofNat len)))), 30, [], none⟩ (.tmp 10) = some (.bool false) := by
      simp (disch := decide) only [Fr.ev, gp, reduceIte, hlt]
    refine ⟨t.put 10 (some (.bool (ltI (.ofNat i) (.ofNat len)))), ?_, ?_, hr⟩
    · refine ev_loop_exit (f := f + 69) ?_
      rw [cL_eq]
      exact (ev_seq (f := f + 68) a1).trans (ev_seq_exit (f := f + 67) ((ev_cond_not (f := f + 66) hcond).trans ev_exit))
    · simp (disch := decide) only [gp, Nat.reduceEqDiff, reduceIte, h3]
  | v :: l, f, r, i, R, t, hi, hr, hat, hc, h3, h7, h8, h9 => by
    obtain ⟨x, rfl, hx, hc⟩ := crcVals_cons hc
    rw [crcByte_eq] at hc
    simp only [List.length_cons] at hi
    obtain ⟨t1, a1, a3, a7, a8, a9⟩ := byteStep hE (f + l.length + 10) r i len cap ad x hr hx (by omega) (by omega) t s (by have := hat 0 x rfl; simpa using this) h3 h7 h8 h9
    rw [hs] at a1
    have hat' : ∀ k x, l[k]? = some (.int .u8 (.ofNat x)) → At s ad (i + 1 + k) x := by
      intro k x h
      have := hat (k + 1) x (by simpa using h)
      have e : i + (k + 1) = i + 1 + k := by omega
      rw [e] at this
      exact this
    obtain ⟨t2, b1, b3, b4⟩ := byteLoop hE len cap hlen ad s hs l f _ (i + 1) R t1 (by omega) (bits_lt 8 _ (xor_byte hr hx).2) hat' hc a3 a7 a8 a9
    refine ⟨t2, ?_, b3, b4⟩
    exact (ev_loop (f := f + l.length + 70) a1).trans b1

theorem body_eq : body = .seq r0 (.seq r1 (.seq (.seq r2 (.block 0 (.loop cL))) (.seq r12 .ret))) := rfl
theorem r01_run (E : Env) (t : Tr Value) (s : S) (v : Value) (h0 : t.get 0 = some v) :
    ∃ t1 t2, (∀ f, ev E (f + 2) (.code r0 ⟨FN, t, 30, [], none⟩) s = some (.fr .normal ⟨FN, t1, 30, [], none⟩, s)) ∧ (∀ f, ev E (f + 2) (.code r1 ⟨FN, t1, 30, [], none⟩) s = some (.fr .normal ⟨FN, t2, 30, [], none⟩, s)) ∧
      t2.get 3 = some (.int .u32 (.ofNat 4294967295)) ∧ t2.get 0 = some v := by
  unfold r0 r1 body
  simp only [Tryd.f44, bodyOf, sub]
  simp (disch := decide) only [ev, evCode, evRegion, outFr, opsLoop, evOper, wantedA, aop, opt, val, AM.run, Fr.ev, Fr.put, onFr, gps, gpn, bltT, still, flat]
  refine ⟨_, _, fun f => rfl, fun f => rfl, ?_⟩
  simp (disch := decide) only [gps, gpn, h0, and_true, true_and]
  rfl
theorem r2_run {E : Env} (hE : Tys E) (a : Option Addr) (len cap : Nat) (t : Tr Value) (s : S) (h0 : t.get 0 = some (.slice a len cap)) :
    ∃ t3, (∀ f, ev E (f + 2) (.code r2 ⟨FN, t, 30, [], none⟩) s = some (.fr .normal ⟨FN, t3, 30, [], none⟩, s)) ∧
      t3.get 3 = t.get 3 ∧ t3.get 7 = some (.slice a len cap) ∧ t3.get 8 = some (.int .i64 (.ofNat len)) ∧ t3.get 9 = some (.int .i64 (.ofNat 0)) := by
  obtain ⟨isl, hsl, dsl⟩ := hE.sl
  unfold r2 body
  simp only [Tryd.f44, bodyOf, sub]
  simp (disch := decide) only [ev, evCode, evRegion, outFr, opsLoop, evOper, wantedA, aop, callA, builtinA, Fr.evs, opt, val, AM.run, Fr.ev, Fr.put, onFr, gps, gpn, bltT, h0, hsl, dsl, still, flat]
  refine ⟨_, fun f => rfl, ?_⟩
  simp (disch := decide) only [gps, gpn, h0, and_true, true_and]
  rfl
theorem start_run {E : Env} (hE : Tys E) (a : Option Addr) (len cap : Nat) (t : Tr Value) (s : S) (h0 : t.get 0 = some (.slice a len cap)) :
    ∃ t1 t2 t3, (∀ f, ev E (f + 2) (.code r0 ⟨FN, t, 30, [], none⟩) s = some (.fr .normal ⟨FN, t1, 30, [], none⟩, s)) ∧ (∀ f, ev E (f + 2) (.code r1 ⟨FN, t1, 30, [], none⟩) s = some (.fr .normal ⟨FN, t2, 30, [], none⟩, s)) ∧
      (∀ f, ev E (f + 2) (.code r2 ⟨FN, t2, 30, [], none⟩) s = some (.fr .normal ⟨FN, t3, 30, [], none⟩, s)) ∧
      t3.get 3 = some (.int .u32 (.ofNat 4294967295)) ∧ t3.get 7 = some (.slice a len cap) ∧ t3.get 8 = some (.int .i64 (.ofNat len)) ∧ t3.get 9 = some (.int .i64 (.ofNat 0)) := by
  obtain ⟨t1, t2, a1, a2, a3, a0⟩ := r01_run E t s _ h0
  obtain ⟨t3, b1, b3, b7, b8, b9⟩ := r2_run hE a len cap t2 s a0
  exact ⟨t1, t2, t3, a1, a2, b1, b3.trans a3, b7, b8, b9⟩
theorem end_run (E : Env) (r : Nat) (hr : r < 4294967296) (t : Tr Value) (s : S) (h3 : t.get 3 = some (.int .u32 (.ofNat r))) :
    ∃ t1, (∀ f, ev E (f + 2) (.code r12 ⟨FN, t, 30, [], none⟩) s = some (.fr .normal ⟨FN, t1, 30, [], none⟩, s)) ∧ t1.get 2 = some (.int .u32 (.ofNat (Nat.xor 4294967295 r))) := by
  have e : Nat.mod (Nat.xor 4294967295 (Nat.mod r 4294967296)) 4294967296 = Nat.xor 4294967295 r := by
    rw [show Nat.mod r 4294967296 = r from Nat.mod_eq_of_lt hr]
    exact Nat.mod_eq_of_lt (Nat.xor_lt_two_pow (n := 32) (by decide) hr)
  unfold r12 body
  simp only [Tryd.f44, bodyOf, sub]
  simp (disch := decide) only [ev, evCode, evRegion, outFr, opsLoop, evOper, wantedA, aop, opt, val, AM.run, Fr.ev, Fr.put, onFr, gps, gpn, bltT, h3, b_not, e, Nat.reduceEqDiff, reduceIte]
  refine ⟨_, fun f => rfl, ?_⟩
  simp (disch := decide) only [gps, gpn]

/-- the function, out of its loop -/
theorem sum_fn {E : Env} (hE : Tys E) (hfn : E.fn.get FN = some (FI.of Tryd.f44)) (a : Option Addr) (len cap R : Nat) (hR : R < 4294967296) (s s1 : S) (n : Nat)
    (hloop : ∀ t, t.get 3 = some (.int .u32 (.ofNat 4294967295)) → t.get 7 = some (.slice a len cap) → t.get 8 = some (.int .i64 (.ofNat len)) → t.get 9 = some (.int .i64 (.ofNat 0)) →
      ∃ t', ev E (n + 1) (.code (.loop cL) ⟨FN, t, 30, [], none⟩) s = some (.fr (.exit 0) ⟨FN, t', 30, [], none⟩, s1) ∧ t'.get 3 = some (.int .u32 (.ofNat R))) :
    ev E (n + 7) (.next (.enter FN [.slice a len cap])) s = some (.val (.int .u32 (.ofNat (Nat.xor 4294967295 R))), s1) := by
  have h0 : (Tr.ofList [Value.slice a len cap]).get 0 = some (.slice a len cap) := rfl
  obtain ⟨t1, t2, t3, a0, a1, a2, g3, g7, g8, g9⟩ := start_run hE a len cap _ s h0
  obtain ⟨t4, b, b3⟩ := hloop t3 g3 g7 g8 g9
  obtain ⟨t5, c, c2⟩ := end_run E R hR t4 s1 b3
  have hbody : ev E (n + 6) (.code body ⟨FN, Tr.ofList [.slice a len cap], 30, [], none⟩) s = some (.fr .ret ⟨FN, t5, 30, [], none⟩, s1) := by
    rw [body_eq]
    refine (ev_seq (f := n + 5) (a0 (n + 3))).trans ((ev_seq (f := n + 4) (a1 (n + 2))).trans ((ev_seq (f := n + 3) ((ev_seq (f := n + 2) (a2 n)).trans (ev_block_exit (f := n + 1) b))).trans ((ev_seq (f := n + 2) (c n)).trans ev_ret)))
  have hleave : ev E (n + 6) (.leave ⟨FN, t5, 30, [], none⟩) s1 = some (.val (.int .u32 (.ofNat (Nat.xor 4294967295 R))), s1) := by
    rw [ev_leave (f := n + 5)]
    simp only [evLeave, hfn]
    have hres : (FI.of Tryd.f44).results = [.tmp 2] := rfl
    simp only [resultsM, hres, resultsA, c2, opt, AM.run]
  rw [ev_next (f := n + 6)]
  have hb : (FI.of Tryd.f44).body = some body := by kernel_rfl
  have hn : (FI.of Tryd.f44).ntmps = 30 := rfl
  have hle : Nat.ble 30 lastName = true := by decide
  have hnn : Nat.add [Value.slice a len cap].length (Nat.sub 30 [Value.slice a len cap].length) = 30 := rfl
  simp only [evNext, hfn, hb, hn, evEnter, hnn]
  simp only [hle, hbody, hleave]

theorem loop_none (E : Env) (t : Tr Value) (s : S) (h8 : t.get 8 = some (.int .i64 (.ofNat 0))) (h9 : t.get 9 = some (.int .i64 (.ofNat 0))) :
    ev E 11 (.code (.loop cL) ⟨FN, t, 30, [], none⟩) s = some (.fr (.exit 0) ⟨FN, t.put 10 (some (.bool (ltI (.ofNat 0) (.ofNat 0)))), 30, [], none⟩, s) := by
  have a1 := r3_run E 7 0 0 t s h9 h8
  have hcond : Fr.ev ⟨FN, t.put 10 (some (.bool (ltI (.ofNat 0) (.ofNat 0)))), 30, [], none⟩ (.tmp 10) = some (.bool false) := by
    simp (disch := decide) only [Fr.ev, gps, gpn]
    rfl
  refine ev_loop_exit (f := 10) ?_
  rw [cL_eq]
  exact (ev_seq (f := 9) a1).trans (ev_seq_exit (f := 8) ((ev_cond_not (f := 7) hcond).trans ev_exit))

/-- **the summary is lawful** -/
theorem sum_ev {E : Env} (hE : Tys E) (hfn : E.fn.get FN = some (FI.of Tryd.f44)) {args : List Value} {s s' : S} {v : Value} (h : (crcA args).run s = some (v, s')) :
    ∃ F, ev E F (.next (.enter FN args)) s = some (.val v, s') := by
  unfold crcA at h
  split at h
  · rename_i a len cap
    split at h
    · simp only [AM.run, Option.some.injEq, Prod.mk.injEq] at h
      obtain ⟨rfl, rfl⟩ := h
      refine ⟨17, sum_fn hE hfn a 0 cap 4294967295 (by decide) s s 10 ?_⟩
      intro t h3 h7 h8 h9
      exact ⟨_, loop_none E t s h8 h9, by simp (disch := decide) only [gps, gpn, h3]⟩
    · rename_i n
      split at h
      · rename_i ad
        obtain ⟨hn, h1⟩ := run_when h
        have hn := blt_iff.1 hn
        obtain ⟨c, m, cs, hspot, hlt, ho, hm', hcs, h4⟩ := load_inv h1
        obtain ⟨R, hR, h5⟩ := run_opt h4
        simp only [AM.run, Option.some.injEq, Prod.mk.injEq] at h5
        obtain ⟨rfl, rfl⟩ := h5
        have hm' : ad.off + (n + 1) ≤ m := hm'
        obtain ⟨hl, hget⟩ := rdCells_get hcs
        cases cs with
        | nil => simp at hl
        | cons v l =>
          simp only [List.length_cons] at hl
          have hat : ∀ k x, (v :: l)[k]? = some (.int .u8 (.ofNat x)) → At s ad k x := by
            intro k x hk
            have hkl := (List.getElem?_eq_some_iff.1 hk).1
            simp only [List.length_cons] at hkl
            exact ⟨hspot, hlt, c, m, ho, by omega, hget k _ hk⟩
          have hR' : R < 4294967296 := by
            have : ∀ (l : List Value) (r R : Nat), r < 4294967296 → crcVals l r = some R → R < 4294967296 := by
              intro l
              induction l with
              | nil => intro r R hr h; simp only [crcVals, Option.some.injEq] at h; omega
              | cons v l ih =>
                intro r R hr h
                obtain ⟨x, rfl, hx, hc⟩ := crcVals_cons h
                rw [crcByte_eq] at hc
                exact ih _ _ (bits_lt 8 _ (xor_byte hr hx).2) hc
            exact this _ _ _ (by decide) hR
          refine ⟨_, sum_fn hE hfn (some ad) (n + 1) cap R hR' s (s.seen ad.block) (l.length + 70) ?_⟩
          intro t h3 h7 h8 h9
          obtain ⟨x, rfl, hx, hc⟩ := crcVals_cons hR
          rw [crcByte_eq] at hc
          obtain ⟨t1, a1, a3, a7, a8, a9⟩ := byteStep hE (l.length + 10) 4294967295 0 (n + 1) cap ad x (by decide) hx (by omega) (by omega) t s (hat 0 x rfl) h3 h7 h8 h9
          obtain ⟨t2, b1, b3, b4⟩ := byteLoop hE (n + 1) cap (by omega) ad (s.seen ad.block) (seen_seen s ad.block) l 0 _ 1 R t1 (by omega) (bits_lt 8 _ (xor_byte (by decide) hx).2)
            (fun k x h => (by have := hat (k + 1) x (by simpa using h); rw [Nat.add_comm 1 k]; exact this.of_seen _)) hc a3 a7 a8 a9
          refine ⟨t2, ?_, b3⟩
          rw [Nat.zero_add] at b1
          exact (ev_loop (f := l.length + 70) a1).trans b1
      · cases h
  · cases h

/-- the summaries that the laws are told by -/
noncomputable def sums : Sums := fun f => match Nat.beq f FN with
  | true => some crcA
  | false => none
theorem sums_ok : SumsOK (Env.of Tryd.prog) sums := by
  intro f am hf args s v s' h
  unfold sums at hf
  split at hf
  · rename_i hb
    have hb := beq_iff.1 hb
    subst hb
    cases hf
    refine sum_ev ⟨⟨TI.of Tryd.prog 51, by kernel_rfl, by kernel_rfl⟩, ⟨TI.of Tryd.prog 5, by kernel_rfl, by kernel_rfl, by kernel_rfl⟩, ⟨TI.of Tryd.prog 73, by kernel_rfl, by kernel_rfl⟩⟩ (by kernel_rfl) h
  · cases hf
#print axioms sums_ok
end Go.Proofs.YtgofanjbhbeniaaDoor.sum
end

section
/- Leaves: what the code that makes and reads them does, told shortly: numbers within bounds; bytes trimmed of noughts. -/
noncomputable section
namespace Go.Proofs.YtgofanjbhbeniaaDoor.lf
open AE
set_option linter.unusedSimpArgs false
set_option linter.unusedVariables false
set_option maxRecDepth 10000

noncomputable def E : Env := Env.of Tryd.prog
theorem hP : lawful Tryd.prog = true := by kernel_rfl
theorem hmix : Tryd.prog.follows .mixedOrders = true := Checked.mixed Tryd.checked
theorem hE : EnvOK Tryd.prog E := env_ok hP

noncomputable def tiB : TI := TI.of Tryd.prog 51
theorem tyB : E.ty.get 51 = some tiB := by kernel_rfl
theorem dsB : tiB.desc = .slice 5 := by kernel_rfl
noncomputable def tiU8 : TI := TI.of Tryd.prog 5
theorem tyU8 : E.ty.get 5 = some tiU8 := by kernel_rfl
theorem szU8 : tiU8.size = 1 := by kernel_rfl
theorem dsU8 : tiU8.desc = .int .u8 := by kernel_rfl
noncomputable def tiI : TI := TI.of Tryd.prog 3
theorem tyI : E.ty.get 3 = some tiI := by kernel_rfl
theorem szI : tiI.size = 1 := by kernel_rfl
theorem dsI : tiI.desc = .int .i64 := by kernel_rfl
theorem zeI : tiI.zero = some (.int .i64 0) := by kernel_rfl
noncomputable def tiBo : TI := TI.of Tryd.prog 4
theorem tyBo : E.ty.get 4 = some tiBo := by kernel_rfl
theorem szBo : tiBo.size = 1 := by kernel_rfl
theorem dsBo : tiBo.desc = .bool := by kernel_rfl
noncomputable def tiL : TI := TI.of Tryd.prog 43
theorem tyL : E.ty.get 43 = some tiL := by kernel_rfl
theorem dsL : tiL.desc = .slice 3 := by kernel_rfl
noncomputable def tiA : TI := TI.of Tryd.prog 28
theorem tyA : E.ty.get 28 = some tiA := by kernel_rfl
theorem szA : tiA.size = 116 := by kernel_rfl
theorem dsA : tiA.desc = .array 116 5 := by kernel_rfl
noncomputable def tiSt : TI := TI.of Tryd.prog 9
theorem tySt : E.ty.get 9 = some tiSt := by kernel_rfl
theorem dsSt : tiSt.desc = .string := by kernel_rfl

theorem seen_heap (s : S) (n : Nat) : (s.seen n).heap = s.heap := rfl
theorem seen_next (s : S) (n : Nat) : (s.seen n).next = s.next := rfl
theorem seen_mark (s : S) (n : Nat) : (s.seen n).mark = s.mark := rfl
theorem agg_cells (cs : List Value) : (Value.agg ⟨cs⟩).cells.toList = cs := rfl
theorem int_cells (k : IntKind) (n : Int) : (Value.int k n).cells.toList = [.int k n] := rfl

/-! rules for numbers -/
theorem b_geq {E t} (x y : Int) : binA E .geq t (.int .i64 x) (.int .i64 y) = some (.bool (not (ltI x y))) := rfl
theorem b_leq {E t} (x y : Int) : binA E .leq t (.int .i64 x) (.int .i64 y) = some (.bool (not (ltI y x))) := rfl
theorem b_gtr {E t} (x y : Int) : binA E .gtr t (.int .i64 x) (.int .i64 y) = some (.bool (ltI y x)) := rfl
theorem b_sub {E t} (x y : Int) : binA E .sub t (.int .i64 x) (.int .i64 y) = some (.int .i64 (wrapA .i64 (Int.sub x y))) := rfl
theorem b_eql {E t} (x y : Int) : binA E .eql t (.int .i64 x) (.int .i64 y) = some (.bool (eqI x y)) := rfl
theorem b_eql8 {E t} (x y : Int) : binA E .eql t (.int .u8 x) (.int .u8 y) = some (.bool (eqI x y)) := rfl
theorem u_not (b : Bool) : unA .not (.bool b) = some (.bool (not b)) := rfl

/-! within -/
def withinA : List Value → AM Value
  | [.int .i64 n, .int .i64 lo, .int .i64 hi] => .pure (.bool (not (ltI n lo) && not (ltI hi n)))
  | _ => .fail
noncomputable def fiW : FI := FI.of Tryd.f39
noncomputable def cdW : Code := bodyOf Tryd.f39
theorem resW : fiW.results = [.tmp 6] := rfl
theorem told_within : AE.Told Tryd.prog 39 withinA := by
  refine told_go hE hmix tolds_nil ?_
  intro args s v s' h hm
  unfold withinA at h
  split at h
  · rename_i n lo hi
    cases h
    refine go_enter (fi := fiW) (c := cdW) (by kernel_rfl) (by kernel_rfl) 15 rfl rfl ?_
    simp only [cdW, Tryd.f39, bodyOf]
    have h0 : (Tr.ofList [Value.int .i64 n, .int .i64 lo, .int .i64 hi]).get 0 = some (.int .i64 n) := rfl
    have h1 : (Tr.ofList [Value.int .i64 n, .int .i64 lo, .int .i64 hi]).get 1 = some (.int .i64 lo) := rfl
    have h2 : (Tr.ofList [Value.int .i64 n, .int .i64 lo, .int .i64 hi]).get 2 = some (.int .i64 hi) := rfl
    generalize Tr.ofList [Value.int .i64 n, .int .i64 lo, .int .i64 hi] = t at *
    repeat apply go_seq
    apply go_region
    case h => intro m; simp (maxSteps := 2000000) (disch := decide) only [opsLoop, evOper, wantedA, nth, aop, aPick, aBin, aIndexAddr, aFieldAddr, aLoad, aStore, aExtract, aConvert, aAlloc, aBox, aIndex, callA, builtinA, Fr.evs, opt, val, when, AM.run, outV, newA, ptr, force_eq, seen_heap, seen_next, seen_mark, seen_seen, agg_cells, int_cells, Fr.ev, Fr.put, onFr, gps, gpn, bltT, still, flat, List.append_nil, List.nil_append, List.cons_append, Nat.reduceEqDiff, ne_eq, not_false_eq_true, reduceCtorEq, Bool.and_true, Bool.true_and, Bool.and_false, Bool.false_and, Bool.not_true, Bool.not_false, Bool.and_self]; rfl
    cases hlo : ltI n lo
    all_goals
      repeat apply go_seq
      apply go_region
      case h => intro m; simp (maxSteps := 2000000) (disch := decide) only [opsLoop, evOper, wantedA, nth, aop, aPick, aBin, aIndexAddr, aFieldAddr, aLoad, aStore, aExtract, aConvert, aAlloc, aBox, aIndex, callA, builtinA, Fr.evs, opt, val, when, AM.run, outV, newA, ptr, force_eq, seen_heap, seen_next, seen_mark, seen_seen, agg_cells, int_cells, Fr.ev, Fr.put, onFr, gps, gpn, bltT, still, flat, List.append_nil, List.nil_append, List.cons_append, Nat.reduceEqDiff, ne_eq, not_false_eq_true, reduceCtorEq, Bool.and_true, Bool.true_and, Bool.and_false, Bool.false_and, Bool.not_true, Bool.not_false, Bool.and_self, h0, h1, h2, b_geq, b_leq, hlo, Bool.not_false, Bool.not_true]; rfl
      repeat apply go_seq
      apply go_ret
      apply ret_intro rfl rfl
      case run => simp (disch := decide) only [resultsM, resultsA, resW, opsLoop, evOper, wantedA, nth, aop, aPick, aBin, aIndexAddr, aFieldAddr, aLoad, aStore, aExtract, aConvert, aAlloc, aBox, aIndex, callA, builtinA, Fr.evs, opt, val, when, AM.run, outV, newA, ptr, force_eq, seen_heap, seen_next, seen_mark, seen_seen, agg_cells, int_cells, Fr.ev, Fr.put, onFr, gps, gpn, bltT, still, flat, List.append_nil, List.nil_append, List.cons_append, Nat.reduceEqDiff, ne_eq, not_false_eq_true, reduceCtorEq, Bool.and_true, Bool.true_and, Bool.and_false, Bool.false_and, Bool.not_true, Bool.not_false, Bool.and_self]; rfl
      exact ⟨by simp only [Bool.not_false, Bool.not_true, Bool.true_and, Bool.false_and], Less'.refl _⟩
  · cases h

/-! bytes that lie in memory -/
structure Bs (s : S) (ad : Addr) (l : List UInt8) : Prop where
  spot : ad.spot = none
  lt : ad.block < s.next
  cell : ∃ c m, Has s ad.block c m ∧ ad.off + l.length ≤ m ∧ Row c ad.off (l.map bv)
theorem Bs.rd {s s' : S} {ad : Addr} {l : List UInt8} (h : Bs s ad l) (hr : Rd s s') : Bs s' ad l := ⟨h.spot, by rw [hr.next]; exact h.lt, by obtain ⟨c, m, h1, h2⟩ := h.cell; exact ⟨c, m, h1.of (by rw [hr.heap]), h2⟩⟩
theorem Bs.at {s : S} {ad : Addr} {l : List UInt8} (h : Bs s ad l) {k : Nat} {x : UInt8} (hk : l[k]? = some x) : sum.At s ad k x.toNat := by
  obtain ⟨c, m, h1, h2, h3⟩ := h.cell
  have hlt := (List.getElem?_eq_some_iff.1 hk).1
  exact ⟨h.spot, h.lt, c, m, h1, by omega, h3 k (bv x) (by rw [List.getElem?_map, hk]; rfl)⟩
theorem bs_of_load {β : Type} {ad : Addr} {n : Nat} {k : List UInt8 → AM β} {s : S} {r : β × S} (h : (loadA ad n fun cs => opt (bytesV cs) k).run s = some r) : ∃ l, l.length = n ∧ Bs s ad l ∧ (k l).run (s.seen ad.block) = some r := by
  obtain ⟨c, m, cs, h1, h2, h3, h4, h5, h6⟩ := load_inv h
  obtain ⟨l, hl, h7⟩ := run_opt h6
  obtain ⟨e1, e2⟩ := row_of_rd h5
  have := bytesV_inv hl
  subst this
  have hln : l.length = n := by simpa using e1
  exact ⟨l, hln, ⟨h1, h2, c, m, h3, by rw [hln]; exact h4, e2⟩, h7⟩

theorem addA_add {ad : Addr} (h : ad.spot = none) (i j : Nat) : addA (addA ad i) j = addA ad (i + j) := by
  rw [sum.addA_eq ad i h, sum.addA_eq ad (i + j) h, sum.addA_eq _ j rfl, Nat.add_assoc]
theorem addIf_one (a : Addr) (m : Nat) : addIf a m 1 1 = if m = 1 then a else addA a 1 := by
  unfold addIf
  by_cases h : m = 1
  · subst h; rfl
  · have : Nat.beq m 1 = false := by
      cases hh : Nat.beq m 1 with
      | false => rfl
      | true => exact absurd (beq_iff.1 hh) h
    rw [this, if_neg h]; first | done | rfl
theorem ble_f {a b : Nat} (h : b < a) : Nat.ble a b = false := by
  cases hh : Nat.ble a b with
  | false => rfl
  | true => exact absurd (ble_iff.1 hh) (by omega)
theorem eqI_f {a b : Nat} (h : a ≠ b) : eqI (Int.ofNat a) (Int.ofNat b) = false := by rw [eqI_eq]; exact decide_eq_false (fun e => h (Int.ofNat.inj e))
theorem eqI_t (a : Nat) : eqI (Int.ofNat a) (Int.ofNat a) = true := by rw [eqI_eq]; simp

/-! noughts ahead -/
def lead : List UInt8 → Nat
  | [] => 0
  | x :: l => if x = 0 then lead l + 1 else 0
theorem lead_le : ∀ l, lead l ≤ l.length
  | [] => Nat.le_refl _
  | x :: l => by unfold lead; split; · simp; exact lead_le l
                 · simp
theorem lead_eq : ∀ (l : List UInt8) (i : Nat), i ≤ l.length → (∀ j, j < i → l[j]? = some 0) → (∀ x, l[i]? = some x → x ≠ 0) → lead l = i
  | [], i, hi, _, _ => by simp at hi; subst hi; rfl
  | x :: l, 0, _, _, h => by
    have := h x rfl
    unfold lead; rw [if_neg this]
  | x :: l, i + 1, hi, h0, h => by
    have hx : x = 0 := by have := h0 0 (by omega); simpa using this
    unfold lead
    rw [if_pos hx, lead_eq l i (by simpa using hi) (fun j hj => by have := h0 (j + 1) (by omega); simpa using this) (fun y hy => h y (by simpa using hy))]
def trimLV (ad : Addr) (cap : Nat) (l : List UInt8) : Value := if lead l = l.length then .slice none 0 0 else .slice (some (addA ad (lead l))) (l.length - lead l) (cap - lead l)
def trimLA : List Value → AM Value
  | [.slice (some ad) n cap, .int .u8 (.ofNat 0)] => when (Nat.ble n cap && Nat.blt cap OPEN) (loadA ad n fun cs => opt (bytesV cs) fun l => .pure (trimLV ad cap l))
  | _ => .fail
noncomputable def fiTL : FI := FI.of Tryd.f45
noncomputable def cdTL : Code := bodyOf Tryd.f45
noncomputable def cdTLl : Code := sub [1,0,0,0] cdTL
theorem resTL : fiTL.results = [.tmp 4] := rfl
theorem int0 : (0 : Int) = Int.ofNat 0 := rfl
theorem int1 : (1 : Int) = Int.ofNat 1 := rfl

def InvTL (ad : Addr) (cap : Nat) (l : List UInt8) (s0 : S) (k : Nat) (fr : Fr) (s : S) : Prop :=
  ∃ (i : Nat) (a : Addr) (t : Tr Value), k = l.length - i ∧ i ≤ l.length ∧ fr = ⟨45, t, 21, [], none⟩ ∧ Rd s0 s ∧ t.get 0 = some (.slice (some a) (l.length - i) (cap - i)) ∧ t.get 1 = some (.int .u8 (.ofNat 0)) ∧
    (i < l.length → a = addA ad i) ∧ (∀ j, j < i → l[j]? = some 0)
theorem trimL_round (ad : Addr) (cap : Nat) (l : List UInt8) (s0 : S) (hc : cap < OPEN) (hl : l.length ≤ cap) (hb : Bs s0 ad l) (k : Nat) (fr : Fr) (s : S) (h : InvTL ad cap l s0 k fr s) :
    GoC E (sumsOf []) cdTLl fr s (Again (InvTL ad cap l s0) k fun x fr s => x = .exit 0 ∧ ∃ (t : Tr Value) (a : Addr), fr = ⟨45, t, 21, [], none⟩ ∧ Rd s0 s ∧ t.get 0 = some (.slice (some a) (l.length - lead l) (cap - lead l)) ∧ (lead l < l.length → a = addA ad (lead l))) := by
  obtain ⟨i, a, t, rfl, hi, rfl, hr, h0, h1, ha, hz⟩ := h
  simp only [cdTLl, cdTL, Tryd.f45, bodyOf, sub]
  by_cases hlt : i < l.length
  · obtain rfl := ha hlt
    obtain ⟨n, hn⟩ : ∃ n, l.length - i = n + 1 := ⟨l.length - i - 1, by omega⟩
    obtain ⟨c, hcc⟩ : ∃ c, cap - i = c + 1 := ⟨cap - i - 1, by omega⟩
    have hnc : n ≤ c := by omega
    rw [hn, hcc] at h0
    obtain ⟨x, hx⟩ : ∃ x, l[i]? = some x := ⟨_, List.getElem?_eq_getElem hlt⟩
    have hgt : ltI (Int.ofNat 0) (Int.ofNat (n + 1)) = true := by rw [ltI_eq]; simp
    have hld := sum.byte_load (Bs.at (hb.rd hr) hx) tiU8 dsU8
    have hnn : Nat.blt 0 (n + 1) = true := rfl
    have hble : Nat.ble 1 (n + 1) = true := rfl
    have hopen : Nat.ble OPEN (c + 1) = false := ble_f (by omega)
    have hble2 : Nat.ble (n + 1) (c + 1) = true := ble_iff.2 (by omega)
    have hadd : addA (addA ad i) (Nat.mul 0 1) = addA ad i := rfl
    have hs1 : Nat.sub (n + 1) 1 = n := rfl
    have hs2 : Nat.sub (c + 1) 1 = c := rfl
    by_cases hx0 : x = 0
    · subst hx0
      have hl0 : (loadT tiU8 (addA ad i) val).run s = some (.value (.int .u8 (.ofNat 0)), s.seen ad.block) := hld
      repeat apply go_seq
      apply go_region
      case h => intro m; simp (maxSteps := 2000000) (disch := decide) only [opsLoop, evOper, wantedA, nth, aop, aPick, aBin, aIndexAddr, aFieldAddr, aLoad, aStore, aExtract, aConvert, aAlloc, aBox, aIndex, callA, builtinA, Fr.evs, opt, val, when, AM.run, outV, newA, ptr, force_eq, seen_heap, seen_next, seen_mark, seen_seen, agg_cells, int_cells, Fr.ev, Fr.put, onFr, gps, gpn, bltT, still, flat, List.append_nil, List.nil_append, List.cons_append, Nat.reduceEqDiff, ne_eq, not_false_eq_true, reduceCtorEq, Bool.and_true, Bool.true_and, Bool.and_false, Bool.false_and, Bool.not_true, Bool.not_false, Bool.and_self, h0, h1, tyB, tyU8, dsB, dsU8, szU8, b_gtr, b_eql8, int0, hgt, hnn, hadd, hl0, eqI_t]; rfl
      repeat apply go_seq
      apply go_cond
      case hc => simp (disch := decide) only [opsLoop, evOper, wantedA, nth, aop, aPick, aBin, aIndexAddr, aFieldAddr, aLoad, aStore, aExtract, aConvert, aAlloc, aBox, aIndex, callA, builtinA, Fr.evs, opt, val, when, AM.run, outV, newA, ptr, force_eq, seen_heap, seen_next, seen_mark, seen_seen, agg_cells, int_cells, Fr.ev, Fr.put, onFr, gps, gpn, bltT, still, flat, List.append_nil, List.nil_append, List.cons_append, Nat.reduceEqDiff, ne_eq, not_false_eq_true, reduceCtorEq, Bool.and_true, Bool.true_and, Bool.and_false, Bool.false_and, Bool.not_true, Bool.not_false, Bool.and_self]; rfl
      case h2 => intro h; cases h
      intro _
      apply go_skip
      apply go_block
      repeat apply go_seq
      apply go_region
      case h => intro m; simp (maxSteps := 2000000) (disch := decide) only [opsLoop, evOper, wantedA, nth, aop, aPick, aBin, aIndexAddr, aFieldAddr, aLoad, aStore, aExtract, aConvert, aAlloc, aBox, aIndex, callA, builtinA, Fr.evs, opt, val, when, AM.run, outV, newA, ptr, force_eq, seen_heap, seen_next, seen_mark, seen_seen, agg_cells, int_cells, Fr.ev, Fr.put, onFr, gps, gpn, bltT, still, flat, List.append_nil, List.nil_append, List.cons_append, Nat.reduceEqDiff, ne_eq, not_false_eq_true, reduceCtorEq, Bool.and_true, Bool.true_and, Bool.and_false, Bool.false_and, Bool.not_true, Bool.not_false, Bool.and_self, h0, h1, aSlice, lowHigh, intOf?, sliceA, sliceE, tyB, tyU8, dsB, dsU8, szU8, int1, hopen, hble, hble2, hs1, hs2]; rfl
      refine ⟨l.length - (i + 1), by omega, i + 1, addIf (addA ad i) (c + 1) 1 1, _, rfl, by omega, rfl, hr.trans (Rd.seen s ad.block), ?_, ?_, ?_, ?_⟩
      · rw [show l.length - (i + 1) = n by omega, show cap - (i + 1) = c by omega]
        simp (disch := decide) only [gps, gpn, ne_eq]
      · simp (disch := decide) only [gps, gpn, h1]
      · intro h
        rw [addIf_one, if_neg (by omega), addA_add hb.spot]
      · intro j hj
        by_cases e : j = i
        · subst e; exact hx
        · exact hz j (by omega)
    · have hne : eqI (Int.ofNat x.toNat) (Int.ofNat 0) = false := eqI_f (fun h => hx0 (UInt8.toNat_inj.1 (by simpa using h)))
      repeat apply go_seq
      apply go_region
      case h => intro m; simp (maxSteps := 2000000) (disch := decide) only [opsLoop, evOper, wantedA, nth, aop, aPick, aBin, aIndexAddr, aFieldAddr, aLoad, aStore, aExtract, aConvert, aAlloc, aBox, aIndex, callA, builtinA, Fr.evs, opt, val, when, AM.run, outV, newA, ptr, force_eq, seen_heap, seen_next, seen_mark, seen_seen, agg_cells, int_cells, Fr.ev, Fr.put, onFr, gps, gpn, bltT, still, flat, List.append_nil, List.nil_append, List.cons_append, Nat.reduceEqDiff, ne_eq, not_false_eq_true, reduceCtorEq, Bool.and_true, Bool.true_and, Bool.and_false, Bool.false_and, Bool.not_true, Bool.not_false, Bool.and_self, h0, h1, tyB, tyU8, dsB, dsU8, szU8, b_gtr, b_eql8, int0, hgt, hnn, hadd, hld, hne]; rfl
      repeat apply go_seq
      apply go_cond
      case hc => simp (disch := decide) only [opsLoop, evOper, wantedA, nth, aop, aPick, aBin, aIndexAddr, aFieldAddr, aLoad, aStore, aExtract, aConvert, aAlloc, aBox, aIndex, callA, builtinA, Fr.evs, opt, val, when, AM.run, outV, newA, ptr, force_eq, seen_heap, seen_next, seen_mark, seen_seen, agg_cells, int_cells, Fr.ev, Fr.put, onFr, gps, gpn, bltT, still, flat, List.append_nil, List.nil_append, List.cons_append, Nat.reduceEqDiff, ne_eq, not_false_eq_true, reduceCtorEq, Bool.and_true, Bool.true_and, Bool.and_false, Bool.false_and, Bool.not_true, Bool.not_false, Bool.and_self]; rfl
      case h1 => intro h; cases h
      intro _
      apply go_exit
      have hlead : lead l = i := lead_eq l i hi hz (fun y hy => by rw [hx] at hy; cases hy; exact hx0)
      refine ⟨rfl, _, addA ad i, rfl, hr.trans (Rd.seen s ad.block), ?_, fun _ => by rw [hlead]⟩
      rw [hlead, hn, hcc]
      simp (disch := decide) only [gps, gpn, h0]
  · obtain rfl : i = l.length := by omega
    rw [Nat.sub_self] at h0
    have hgt : ltI (Int.ofNat 0) (Int.ofNat 0) = false := rfl
    repeat apply go_seq
    apply go_region
    case h => intro m; simp (maxSteps := 2000000) (disch := decide) only [opsLoop, evOper, wantedA, nth, aop, aPick, aBin, aIndexAddr, aFieldAddr, aLoad, aStore, aExtract, aConvert, aAlloc, aBox, aIndex, callA, builtinA, Fr.evs, opt, val, when, AM.run, outV, newA, ptr, force_eq, seen_heap, seen_next, seen_mark, seen_seen, agg_cells, int_cells, Fr.ev, Fr.put, onFr, gps, gpn, bltT, still, flat, List.append_nil, List.nil_append, List.cons_append, Nat.reduceEqDiff, ne_eq, not_false_eq_true, reduceCtorEq, Bool.and_true, Bool.true_and, Bool.and_false, Bool.false_and, Bool.not_true, Bool.not_false, Bool.and_self, h0, h1, tyB, tyU8, dsB, dsU8, szU8, b_gtr, b_eql8, int0, hgt]; rfl
    repeat apply go_seq
    apply go_cond
    case hc => simp (disch := decide) only [opsLoop, evOper, wantedA, nth, aop, aPick, aBin, aIndexAddr, aFieldAddr, aLoad, aStore, aExtract, aConvert, aAlloc, aBox, aIndex, callA, builtinA, Fr.evs, opt, val, when, AM.run, outV, newA, ptr, force_eq, seen_heap, seen_next, seen_mark, seen_seen, agg_cells, int_cells, Fr.ev, Fr.put, onFr, gps, gpn, bltT, still, flat, List.append_nil, List.nil_append, List.cons_append, Nat.reduceEqDiff, ne_eq, not_false_eq_true, reduceCtorEq, Bool.and_true, Bool.true_and, Bool.and_false, Bool.false_and, Bool.not_true, Bool.not_false, Bool.and_self]; rfl
    case h1 => intro h; cases h
    intro _
    apply go_exit
    have hlead : lead l = l.length := lead_eq l _ (Nat.le_refl _) hz (fun y hy => by rw [List.getElem?_eq_none (Nat.le_refl _)] at hy; cases hy)
    refine ⟨rfl, _, a, rfl, hr, ?_, fun h => by omega⟩
    rw [hlead, Nat.sub_self]
    simp (disch := decide) only [gps, gpn, h0]

theorem told_trimL : AE.Told Tryd.prog 45 trimLA := by
  refine told_go hE hmix tolds_nil ?_
  intro args s v s' h hm
  unfold trimLA at h
  split at h
  · rename_i ad n cap
    obtain ⟨hc, h2⟩ := run_when h
    simp only [Bool.and_eq_true] at hc
    obtain ⟨hc1, hc2⟩ := hc
    have hle := ble_iff.1 hc1
    have hop := blt_iff.1 hc2
    obtain ⟨l, rfl, hb, h3⟩ := bs_of_load h2
    cases h3
    refine go_enter (fi := fiTL) (c := cdTL) (by kernel_rfl) (by kernel_rfl) 21 rfl rfl ?_
    have hcode : cdTL = .seq (sub [0] cdTL) (.seq (.block 0 (.loop cdTLl)) (sub [1,1] cdTL)) := rfl
    rw [hcode]
    have h0 : (Tr.ofList [Value.slice (some ad) l.length cap, .int .u8 (.ofNat 0)]).get 0 = some (.slice (some ad) l.length cap) := rfl
    have h1 : (Tr.ofList [Value.slice (some ad) l.length cap, .int .u8 (.ofNat 0)]).get 1 = some (.int .u8 (.ofNat 0)) := rfl
    generalize Tr.ofList [Value.slice (some ad) l.length cap, .int .u8 (.ofNat 0)] = t at *
    apply go_seq
    simp only [cdTL, Tryd.f45, bodyOf, sub]
    repeat apply go_seq
    apply go_region
    case h => intro m; simp (maxSteps := 2000000) (disch := decide) only [opsLoop, evOper, wantedA, nth, aop, aPick, aBin, aIndexAddr, aFieldAddr, aLoad, aStore, aExtract, aConvert, aAlloc, aBox, aIndex, callA, builtinA, Fr.evs, opt, val, when, AM.run, outV, newA, ptr, force_eq, seen_heap, seen_next, seen_mark, seen_seen, agg_cells, int_cells, Fr.ev, Fr.put, onFr, gps, gpn, bltT, still, flat, List.append_nil, List.nil_append, List.cons_append, Nat.reduceEqDiff, ne_eq, not_false_eq_true, reduceCtorEq, Bool.and_true, Bool.true_and, Bool.and_false, Bool.false_and, Bool.not_true, Bool.not_false, Bool.and_self]; rfl
    apply go_seq
    apply go_block
    refine (go_loop_inv (InvTL ad cap l s) (fun k fr s1 hI => trimL_round ad cap l s hop hle hb k fr s1 hI) (l.length - 0) _ _ ⟨0, ad, _, rfl, by omega, rfl, Rd.refl s, ?_, ?_, fun _ => rfl, fun j hj => by omega⟩).mono ?_
    · simp (disch := decide) only [gps, gpn, h0, Nat.sub_zero]
    · simp (disch := decide) only [gps, gpn, h1]
    rintro x fr s1 ⟨rfl, t1, a, rfl, hr, g0, ga⟩
    simp only [Out_, if_true]
    show GoC E _ _ _ _ _
    by_cases hall : lead l = l.length
    · have e0 : t1.get 0 = some (.slice (some a) 0 (cap - lead l)) := by rw [g0, hall, Nat.sub_self]
      have hv : trimLV ad cap l = .slice none 0 0 := if_pos hall
      repeat apply go_seq
      apply go_region
      case h => intro m; simp (maxSteps := 2000000) (disch := decide) only [opsLoop, evOper, wantedA, nth, aop, aPick, aBin, aIndexAddr, aFieldAddr, aLoad, aStore, aExtract, aConvert, aAlloc, aBox, aIndex, callA, builtinA, Fr.evs, opt, val, when, AM.run, outV, newA, ptr, force_eq, seen_heap, seen_next, seen_mark, seen_seen, agg_cells, int_cells, Fr.ev, Fr.put, onFr, gps, gpn, bltT, still, flat, List.append_nil, List.nil_append, List.cons_append, Nat.reduceEqDiff, ne_eq, not_false_eq_true, reduceCtorEq, Bool.and_true, Bool.true_and, Bool.and_false, Bool.false_and, Bool.not_true, Bool.not_false, Bool.and_self, e0, tyB, dsB, b_eql, int0, eqI_t]; rfl
      repeat apply go_seq
      apply go_cond
      case hc => simp (disch := decide) only [opsLoop, evOper, wantedA, nth, aop, aPick, aBin, aIndexAddr, aFieldAddr, aLoad, aStore, aExtract, aConvert, aAlloc, aBox, aIndex, callA, builtinA, Fr.evs, opt, val, when, AM.run, outV, newA, ptr, force_eq, seen_heap, seen_next, seen_mark, seen_seen, agg_cells, int_cells, Fr.ev, Fr.put, onFr, gps, gpn, bltT, still, flat, List.append_nil, List.nil_append, List.cons_append, Nat.reduceEqDiff, ne_eq, not_false_eq_true, reduceCtorEq, Bool.and_true, Bool.true_and, Bool.and_false, Bool.false_and, Bool.not_true, Bool.not_false, Bool.and_self]; rfl
      case h2 => intro h; cases h
      intro _
      repeat apply go_seq
      apply go_region
      case h => intro m; simp (maxSteps := 2000000) (disch := decide) only [opsLoop, evOper, wantedA, nth, aop, aPick, aBin, aIndexAddr, aFieldAddr, aLoad, aStore, aExtract, aConvert, aAlloc, aBox, aIndex, callA, builtinA, Fr.evs, opt, val, when, AM.run, outV, newA, ptr, force_eq, seen_heap, seen_next, seen_mark, seen_seen, agg_cells, int_cells, Fr.ev, Fr.put, onFr, gps, gpn, bltT, still, flat, List.append_nil, List.nil_append, List.cons_append, Nat.reduceEqDiff, ne_eq, not_false_eq_true, reduceCtorEq, Bool.and_true, Bool.true_and, Bool.and_false, Bool.false_and, Bool.not_true, Bool.not_false, Bool.and_self]; rfl
      repeat apply go_seq
      apply go_ret
      apply ret_intro rfl rfl
      case run => simp (disch := decide) only [resultsM, resultsA, resTL, opsLoop, evOper, wantedA, nth, aop, aPick, aBin, aIndexAddr, aFieldAddr, aLoad, aStore, aExtract, aConvert, aAlloc, aBox, aIndex, callA, builtinA, Fr.evs, opt, val, when, AM.run, outV, newA, ptr, force_eq, seen_heap, seen_next, seen_mark, seen_seen, agg_cells, int_cells, Fr.ev, Fr.put, onFr, gps, gpn, bltT, still, flat, List.append_nil, List.nil_append, List.cons_append, Nat.reduceEqDiff, ne_eq, not_false_eq_true, reduceCtorEq, Bool.and_true, Bool.true_and, Bool.and_false, Bool.false_and, Bool.not_true, Bool.not_false, Bool.and_self]; rfl
      exact ⟨hv.symm, hr.less (Rd.seen s ad.block)⟩
    · have hlt : lead l < l.length := by have := lead_le l; omega
      obtain rfl := ga hlt
      have hne : eqI (Int.ofNat (l.length - lead l)) (Int.ofNat 0) = false := eqI_f (by omega)
      have hv : trimLV ad cap l = .slice (some (addA ad (lead l))) (l.length - lead l) (cap - lead l) := if_neg hall
      repeat apply go_seq
      apply go_region
      case h => intro m; simp (maxSteps := 2000000) (disch := decide) only [opsLoop, evOper, wantedA, nth, aop, aPick, aBin, aIndexAddr, aFieldAddr, aLoad, aStore, aExtract, aConvert, aAlloc, aBox, aIndex, callA, builtinA, Fr.evs, opt, val, when, AM.run, outV, newA, ptr, force_eq, seen_heap, seen_next, seen_mark, seen_seen, agg_cells, int_cells, Fr.ev, Fr.put, onFr, gps, gpn, bltT, still, flat, List.append_nil, List.nil_append, List.cons_append, Nat.reduceEqDiff, ne_eq, not_false_eq_true, reduceCtorEq, Bool.and_true, Bool.true_and, Bool.and_false, Bool.false_and, Bool.not_true, Bool.not_false, Bool.and_self, g0, tyB, dsB, b_eql, int0, hne]; rfl
      repeat apply go_seq
      apply go_cond
      case hc => simp (disch := decide) only [opsLoop, evOper, wantedA, nth, aop, aPick, aBin, aIndexAddr, aFieldAddr, aLoad, aStore, aExtract, aConvert, aAlloc, aBox, aIndex, callA, builtinA, Fr.evs, opt, val, when, AM.run, outV, newA, ptr, force_eq, seen_heap, seen_next, seen_mark, seen_seen, agg_cells, int_cells, Fr.ev, Fr.put, onFr, gps, gpn, bltT, still, flat, List.append_nil, List.nil_append, List.cons_append, Nat.reduceEqDiff, ne_eq, not_false_eq_true, reduceCtorEq, Bool.and_true, Bool.true_and, Bool.and_false, Bool.false_and, Bool.not_true, Bool.not_false, Bool.and_self]; rfl
      case h1 => intro h; cases h
      intro _
      apply go_skip
      repeat apply go_seq
      apply go_region
      case h => intro m; simp (maxSteps := 2000000) (disch := decide) only [opsLoop, evOper, wantedA, nth, aop, aPick, aBin, aIndexAddr, aFieldAddr, aLoad, aStore, aExtract, aConvert, aAlloc, aBox, aIndex, callA, builtinA, Fr.evs, opt, val, when, AM.run, outV, newA, ptr, force_eq, seen_heap, seen_next, seen_mark, seen_seen, agg_cells, int_cells, Fr.ev, Fr.put, onFr, gps, gpn, bltT, still, flat, List.append_nil, List.nil_append, List.cons_append, Nat.reduceEqDiff, ne_eq, not_false_eq_true, reduceCtorEq, Bool.and_true, Bool.true_and, Bool.and_false, Bool.false_and, Bool.not_true, Bool.not_false, Bool.and_self, g0]; rfl
      repeat apply go_seq
      apply go_ret
      apply ret_intro rfl rfl
      case run => simp (disch := decide) only [resultsM, resultsA, resTL, opsLoop, evOper, wantedA, nth, aop, aPick, aBin, aIndexAddr, aFieldAddr, aLoad, aStore, aExtract, aConvert, aAlloc, aBox, aIndex, callA, builtinA, Fr.evs, opt, val, when, AM.run, outV, newA, ptr, force_eq, seen_heap, seen_next, seen_mark, seen_seen, agg_cells, int_cells, Fr.ev, Fr.put, onFr, gps, gpn, bltT, still, flat, List.append_nil, List.nil_append, List.cons_append, Nat.reduceEqDiff, ne_eq, not_false_eq_true, reduceCtorEq, Bool.and_true, Bool.true_and, Bool.and_false, Bool.false_and, Bool.not_true, Bool.not_false, Bool.and_self]; rfl
      exact ⟨hv.symm, hr.less (Rd.seen s ad.block)⟩
  · cases h

/-! noughts behind -/
def rl : List UInt8 → Nat
  | [] => 0
  | x :: l => if rl l = 0 ∧ x = 0 then 0 else rl l + 1
theorem rl_zero : ∀ l : List UInt8, (∀ (j : Nat) (x : UInt8), l[j]? = some x → x = 0) → rl l = 0
  | [], _ => rfl
  | x :: l, h => by
    unfold rl
    rw [if_pos ⟨rl_zero l (fun j y hy => h (j + 1) y (by simpa using hy)), h 0 x rfl⟩]
theorem rl_eq : ∀ (l : List UInt8) (n : Nat), (∀ (j : Nat) (x : UInt8), n ≤ j → l[j]? = some x → x = 0) → (n = 0 ∨ ∃ x, l[n - 1]? = some x ∧ x ≠ 0) → rl l = n
  | l, 0, h0, _ => rl_zero l (fun j x hx => h0 j x (Nat.zero_le _) hx)
  | [], n + 1, _, h => by rcases h with h | ⟨x, hx, _⟩; · omega
                          · simp at hx
  | x :: l, n + 1, h0, h => by
    rcases h with h | ⟨y, hy, hne⟩
    · omega
    cases n with
    | zero =>
      have hl : rl l = 0 := rl_zero l (fun j z hz => h0 (j + 1) z (by omega) (by simpa using hz))
      have hx : x = y := by simpa using hy
      subst hx
      unfold rl
      rw [hl, if_neg (fun e => hne e.2)]
    | succ n =>
      have hl : rl l = n + 1 := rl_eq l (n + 1) (fun j z hj hz => h0 (j + 1) z (by omega) (by simpa using hz)) (.inr ⟨y, by simpa using hy, hne⟩)
      unfold rl
      rw [hl, if_neg (fun e => by omega)]
theorem rl_le : ∀ l : List UInt8, rl l ≤ l.length
  | [] => Nat.le_refl _
  | x :: l => by unfold rl; have := rl_le l; split <;> simp <;> omega

def trimRA : List Value → AM Value
  | [.slice none 0 0, .int .u8 (.ofNat 0)] => .pure (.slice none 0 0)
  | [.slice (some ad) n cap, .int .u8 (.ofNat 0)] => when (Nat.ble n cap && Nat.blt cap OPEN && Nat.ble 1 cap) (loadA ad n fun cs => opt (bytesV cs) fun l => .pure (.slice (some ad) (rl l) cap))
  | _ => .fail
noncomputable def fiTR : FI := FI.of Tryd.f46
noncomputable def cdTR : Code := bodyOf Tryd.f46
noncomputable def cdTRl : Code := sub [1,0,0,0] cdTR
theorem resTR : fiTR.results = [.tmp 4] := rfl
def InvTR (ad : Addr) (cap : Nat) (l : List UInt8) (s0 : S) (k : Nat) (fr : Fr) (s : S) : Prop :=
  ∃ (n : Nat) (t : Tr Value), k = n ∧ n ≤ l.length ∧ fr = ⟨46, t, 24, [], none⟩ ∧ Rd s0 s ∧ t.get 0 = some (.slice (some ad) n cap) ∧ t.get 1 = some (.int .u8 (.ofNat 0)) ∧ (∀ (j : Nat) (x : UInt8), n ≤ j → l[j]? = some x → x = 0)
theorem b_dec {n : Nat} (h : n < OPEN) : ∀ E t, binA E .sub t (.int .i64 (.ofNat (n + 1))) (.int .i64 (.ofNat 1)) = some (.int .i64 (.ofNat n)) := by
  intro E t
  show some (Value.int .i64 (wrapA .i64 (Int.sub (.ofNat (n + 1)) (.ofNat 1)))) = _
  have : Int.sub (.ofNat (n + 1)) (.ofNat 1) = Int.ofNat n := by show ((n + 1 : Nat) : Int) - (1 : Nat) = n; omega
  rw [this, wrap64 (by unfold OPEN at h; omega)]
theorem trimR_round (ad : Addr) (cap : Nat) (l : List UInt8) (s0 : S) (hc : cap < OPEN) (hc1 : 1 ≤ cap) (hl : l.length ≤ cap) (hb : Bs s0 ad l) (k : Nat) (fr : Fr) (s : S) (h : InvTR ad cap l s0 k fr s) :
    GoC E (sumsOf []) cdTRl fr s (Again (InvTR ad cap l s0) k fun x fr s => x = .exit 0 ∧ ∃ (t : Tr Value), fr = ⟨46, t, 24, [], none⟩ ∧ Rd s0 s ∧ t.get 0 = some (.slice (some ad) (rl l) cap)) := by
  obtain ⟨n, t, hk, hi, rfl, hr, h0, h1, hz⟩ := h
  obtain rfl : n = k := hk.symm
  simp only [cdTRl, cdTR, Tryd.f46, bodyOf, sub]
  cases n with
  | zero =>
    have hgt : ltI (Int.ofNat 0) (Int.ofNat 0) = false := rfl
    repeat apply go_seq
    apply go_region
    case h => intro m; simp (maxSteps := 2000000) (disch := decide) only [opsLoop, evOper, wantedA, nth, aop, aPick, aBin, aIndexAddr, aFieldAddr, aLoad, aStore, aExtract, aConvert, aAlloc, aBox, aIndex, callA, builtinA, Fr.evs, opt, val, when, AM.run, outV, newA, ptr, force_eq, seen_heap, seen_next, seen_mark, seen_seen, agg_cells, int_cells, Fr.ev, Fr.put, onFr, gps, gpn, bltT, still, flat, List.append_nil, List.nil_append, List.cons_append, Nat.reduceEqDiff, ne_eq, not_false_eq_true, reduceCtorEq, Bool.and_true, Bool.true_and, Bool.and_false, Bool.false_and, Bool.not_true, Bool.not_false, Bool.and_self, h0, h1, tyB, tyU8, dsB, dsU8, szU8, b_gtr, b_eql8, int0, hgt]; rfl
    repeat apply go_seq
    apply go_cond
    case hc => simp (disch := decide) only [opsLoop, evOper, wantedA, nth, aop, aPick, aBin, aIndexAddr, aFieldAddr, aLoad, aStore, aExtract, aConvert, aAlloc, aBox, aIndex, callA, builtinA, Fr.evs, opt, val, when, AM.run, outV, newA, ptr, force_eq, seen_heap, seen_next, seen_mark, seen_seen, agg_cells, int_cells, Fr.ev, Fr.put, onFr, gps, gpn, bltT, still, flat, List.append_nil, List.nil_append, List.cons_append, Nat.reduceEqDiff, ne_eq, not_false_eq_true, reduceCtorEq, Bool.and_true, Bool.true_and, Bool.and_false, Bool.false_and, Bool.not_true, Bool.not_false, Bool.and_self]; rfl
    case h1 => intro h; cases h
    intro _
    apply go_exit
    refine ⟨rfl, _, rfl, hr, ?_⟩
    rw [rl_eq l 0 hz (.inl rfl)]
    simp (disch := decide) only [gps, gpn, h0]
  | succ n =>
    obtain ⟨x, hx⟩ : ∃ x, l[n]? = some x := ⟨_, List.getElem?_eq_getElem (by omega)⟩
    have hgt : ltI (Int.ofNat 0) (Int.ofNat (n + 1)) = true := by rw [ltI_eq]; simp
    have hld := sum.byte_load (Bs.at (hb.rd hr) hx) tiU8 dsU8
    have hdec := b_dec (n := n) (by omega)
    have hnn : Nat.blt n (n + 1) = true := blt_iff.2 (by omega)
    have hadd : addA ad (Nat.mul n 1) = addA ad n := by rw [show Nat.mul n 1 = n from Nat.mul_one n]
    have hopen : Nat.ble OPEN cap = false := ble_f (by omega)
    have hb0 : Nat.ble 0 n = true := rfl
    have hb1 : Nat.ble n cap = true := ble_iff.2 (by omega)
    have hif : addIf ad cap 0 1 = ad := by
      unfold addIf
      have : Nat.beq cap 0 = false := by
        cases hh : Nat.beq cap 0 with
        | false => rfl
        | true => have := beq_iff.1 hh; omega
      rw [this]; rfl
    have hs0 : Nat.sub n 0 = n := rfl
    have hs1 : Nat.sub cap 0 = cap := rfl
    by_cases hx0 : x = 0
    · subst hx0
      have hl0 : (loadT tiU8 (addA ad n) val).run s = some (.value (.int .u8 (.ofNat 0)), s.seen ad.block) := hld
      repeat apply go_seq
      apply go_region
      case h => intro m; simp (maxSteps := 2000000) (disch := decide) only [opsLoop, evOper, wantedA, nth, aop, aPick, aBin, aIndexAddr, aFieldAddr, aLoad, aStore, aExtract, aConvert, aAlloc, aBox, aIndex, callA, builtinA, Fr.evs, opt, val, when, AM.run, outV, newA, ptr, force_eq, seen_heap, seen_next, seen_mark, seen_seen, agg_cells, int_cells, Fr.ev, Fr.put, onFr, gps, gpn, bltT, still, flat, List.append_nil, List.nil_append, List.cons_append, Nat.reduceEqDiff, ne_eq, not_false_eq_true, reduceCtorEq, Bool.and_true, Bool.true_and, Bool.and_false, Bool.false_and, Bool.not_true, Bool.not_false, Bool.and_self, h0, h1, tyB, tyU8, dsB, dsU8, szU8, b_gtr, b_eql8, int0, int1, hgt, hdec, hnn, hadd, hl0, eqI_t]; rfl
      repeat apply go_seq
      apply go_cond
      case hc => simp (disch := decide) only [opsLoop, evOper, wantedA, nth, aop, aPick, aBin, aIndexAddr, aFieldAddr, aLoad, aStore, aExtract, aConvert, aAlloc, aBox, aIndex, callA, builtinA, Fr.evs, opt, val, when, AM.run, outV, newA, ptr, force_eq, seen_heap, seen_next, seen_mark, seen_seen, agg_cells, int_cells, Fr.ev, Fr.put, onFr, gps, gpn, bltT, still, flat, List.append_nil, List.nil_append, List.cons_append, Nat.reduceEqDiff, ne_eq, not_false_eq_true, reduceCtorEq, Bool.and_true, Bool.true_and, Bool.and_false, Bool.false_and, Bool.not_true, Bool.not_false, Bool.and_self]; rfl
      case h2 => intro h; cases h
      intro _
      apply go_skip
      apply go_block
      repeat apply go_seq
      apply go_region
      case h => intro m; simp (maxSteps := 2000000) (disch := decide) only [opsLoop, evOper, wantedA, nth, aop, aPick, aBin, aIndexAddr, aFieldAddr, aLoad, aStore, aExtract, aConvert, aAlloc, aBox, aIndex, callA, builtinA, Fr.evs, opt, val, when, AM.run, outV, newA, ptr, force_eq, seen_heap, seen_next, seen_mark, seen_seen, agg_cells, int_cells, Fr.ev, Fr.put, onFr, gps, gpn, bltT, still, flat, List.append_nil, List.nil_append, List.cons_append, Nat.reduceEqDiff, ne_eq, not_false_eq_true, reduceCtorEq, Bool.and_true, Bool.true_and, Bool.and_false, Bool.false_and, Bool.not_true, Bool.not_false, Bool.and_self, h0, h1, aSlice, lowHigh, intOf?, sliceA, sliceE, tyB, tyU8, dsB, dsU8, szU8, int1, hdec, hopen, hb0, hb1, hif, hs0, hs1]; rfl
      refine ⟨n, by omega, n, _, rfl, by omega, rfl, hr.trans (Rd.seen s ad.block), ?_, ?_, ?_⟩
      · simp (disch := decide) only [gps, gpn, ne_eq]
      · simp (disch := decide) only [gps, gpn, h1]
      · intro j y hj hy
        by_cases e : j = n
        · subst e; rw [hx] at hy; cases hy; rfl
        · exact hz j y (by omega) hy
    · have hne : eqI (Int.ofNat x.toNat) (Int.ofNat 0) = false := eqI_f (fun h => hx0 (UInt8.toNat_inj.1 (by simpa using h)))
      repeat apply go_seq
      apply go_region
      case h => intro m; simp (maxSteps := 2000000) (disch := decide) only [opsLoop, evOper, wantedA, nth, aop, aPick, aBin, aIndexAddr, aFieldAddr, aLoad, aStore, aExtract, aConvert, aAlloc, aBox, aIndex, callA, builtinA, Fr.evs, opt, val, when, AM.run, outV, newA, ptr, force_eq, seen_heap, seen_next, seen_mark, seen_seen, agg_cells, int_cells, Fr.ev, Fr.put, onFr, gps, gpn, bltT, still, flat, List.append_nil, List.nil_append, List.cons_append, Nat.reduceEqDiff, ne_eq, not_false_eq_true, reduceCtorEq, Bool.and_true, Bool.true_and, Bool.and_false, Bool.false_and, Bool.not_true, Bool.not_false, Bool.and_self, h0, h1, tyB, tyU8, dsB, dsU8, szU8, b_gtr, b_eql8, int0, int1, hgt, hdec, hnn, hadd, hld, hne]; rfl
      repeat apply go_seq
      apply go_cond
      case hc => simp (disch := decide) only [opsLoop, evOper, wantedA, nth, aop, aPick, aBin, aIndexAddr, aFieldAddr, aLoad, aStore, aExtract, aConvert, aAlloc, aBox, aIndex, callA, builtinA, Fr.evs, opt, val, when, AM.run, outV, newA, ptr, force_eq, seen_heap, seen_next, seen_mark, seen_seen, agg_cells, int_cells, Fr.ev, Fr.put, onFr, gps, gpn, bltT, still, flat, List.append_nil, List.nil_append, List.cons_append, Nat.reduceEqDiff, ne_eq, not_false_eq_true, reduceCtorEq, Bool.and_true, Bool.true_and, Bool.and_false, Bool.false_and, Bool.not_true, Bool.not_false, Bool.and_self]; rfl
      case h1 => intro h; cases h
      intro _
      apply go_exit
      refine ⟨rfl, _, rfl, hr.trans (Rd.seen s ad.block), ?_⟩
      rw [rl_eq l (n + 1) hz (.inr ⟨x, by simpa using hx, hx0⟩)]
      simp (disch := decide) only [gps, gpn, h0]
theorem told_trimR : AE.Told Tryd.prog 46 trimRA := by
  refine told_go hE hmix tolds_nil ?_
  intro args s v s' h hm
  have hcode : cdTR = .seq (sub [0] cdTR) (.seq (.block 0 (.loop cdTRl)) (sub [1,1] cdTR)) := rfl
  unfold trimRA at h
  split at h
  · cases h
    refine go_enter (fi := fiTR) (c := cdTR) (by kernel_rfl) (by kernel_rfl) 24 rfl rfl ?_
    have h0 : (Tr.ofList [Value.slice none 0 0, .int .u8 (.ofNat 0)]).get 0 = some (.slice none 0 0) := rfl
    generalize Tr.ofList [Value.slice none 0 0, .int .u8 (.ofNat 0)] = t at *
    rw [hcode]
    have hgt : ltI (Int.ofNat 0) (Int.ofNat 0) = false := rfl
    simp only [cdTRl, cdTR, Tryd.f46, bodyOf, sub]
    repeat apply go_seq
    apply go_region
    case h => intro m; simp (maxSteps := 2000000) (disch := decide) only [opsLoop, evOper, wantedA, nth, aop, aPick, aBin, aIndexAddr, aFieldAddr, aLoad, aStore, aExtract, aConvert, aAlloc, aBox, aIndex, callA, builtinA, Fr.evs, opt, val, when, AM.run, outV, newA, ptr, force_eq, seen_heap, seen_next, seen_mark, seen_seen, agg_cells, int_cells, Fr.ev, Fr.put, onFr, gps, gpn, bltT, still, flat, List.append_nil, List.nil_append, List.cons_append, Nat.reduceEqDiff, ne_eq, not_false_eq_true, reduceCtorEq, Bool.and_true, Bool.true_and, Bool.and_false, Bool.false_and, Bool.not_true, Bool.not_false, Bool.and_self]; rfl
    apply go_seq
    apply go_block
    apply go_loop
    repeat apply go_seq
    apply go_region
    case h => intro m; simp (maxSteps := 2000000) (disch := decide) only [opsLoop, evOper, wantedA, nth, aop, aPick, aBin, aIndexAddr, aFieldAddr, aLoad, aStore, aExtract, aConvert, aAlloc, aBox, aIndex, callA, builtinA, Fr.evs, opt, val, when, AM.run, outV, newA, ptr, force_eq, seen_heap, seen_next, seen_mark, seen_seen, agg_cells, int_cells, Fr.ev, Fr.put, onFr, gps, gpn, bltT, still, flat, List.append_nil, List.nil_append, List.cons_append, Nat.reduceEqDiff, ne_eq, not_false_eq_true, reduceCtorEq, Bool.and_true, Bool.true_and, Bool.and_false, Bool.false_and, Bool.not_true, Bool.not_false, Bool.and_self, h0, tyB, tyU8, dsB, dsU8, szU8, b_gtr, b_eql8, int0, hgt]; rfl
    repeat apply go_seq
    apply go_cond
    case hc => simp (disch := decide) only [opsLoop, evOper, wantedA, nth, aop, aPick, aBin, aIndexAddr, aFieldAddr, aLoad, aStore, aExtract, aConvert, aAlloc, aBox, aIndex, callA, builtinA, Fr.evs, opt, val, when, AM.run, outV, newA, ptr, force_eq, seen_heap, seen_next, seen_mark, seen_seen, agg_cells, int_cells, Fr.ev, Fr.put, onFr, gps, gpn, bltT, still, flat, List.append_nil, List.nil_append, List.cons_append, Nat.reduceEqDiff, ne_eq, not_false_eq_true, reduceCtorEq, Bool.and_true, Bool.true_and, Bool.and_false, Bool.false_and, Bool.not_true, Bool.not_false, Bool.and_self]; rfl
    case h1 => intro h; cases h
    intro _
    apply go_exit
    repeat apply go_seq
    apply go_region
    case h => intro m; simp (maxSteps := 2000000) (disch := decide) only [opsLoop, evOper, wantedA, nth, aop, aPick, aBin, aIndexAddr, aFieldAddr, aLoad, aStore, aExtract, aConvert, aAlloc, aBox, aIndex, callA, builtinA, Fr.evs, opt, val, when, AM.run, outV, newA, ptr, force_eq, seen_heap, seen_next, seen_mark, seen_seen, agg_cells, int_cells, Fr.ev, Fr.put, onFr, gps, gpn, bltT, still, flat, List.append_nil, List.nil_append, List.cons_append, Nat.reduceEqDiff, ne_eq, not_false_eq_true, reduceCtorEq, Bool.and_true, Bool.true_and, Bool.and_false, Bool.false_and, Bool.not_true, Bool.not_false, Bool.and_self, h0]; rfl
    repeat apply go_seq
    apply go_ret
    apply ret_intro rfl rfl
    case run => simp (disch := decide) only [resultsM, resultsA, resTR, opsLoop, evOper, wantedA, nth, aop, aPick, aBin, aIndexAddr, aFieldAddr, aLoad, aStore, aExtract, aConvert, aAlloc, aBox, aIndex, callA, builtinA, Fr.evs, opt, val, when, AM.run, outV, newA, ptr, force_eq, seen_heap, seen_next, seen_mark, seen_seen, agg_cells, int_cells, Fr.ev, Fr.put, onFr, gps, gpn, bltT, still, flat, List.append_nil, List.nil_append, List.cons_append, Nat.reduceEqDiff, ne_eq, not_false_eq_true, reduceCtorEq, Bool.and_true, Bool.true_and, Bool.and_false, Bool.false_and, Bool.not_true, Bool.not_false, Bool.and_self]; rfl
    exact ⟨rfl, Less'.refl _⟩
  · rename_i ad n cap
    obtain ⟨hc, h2⟩ := run_when h
    simp only [Bool.and_eq_true] at hc
    obtain ⟨⟨hc1, hc2⟩, hc3⟩ := hc
    have e1 := ble_iff.1 hc1
    have e2 := blt_iff.1 hc2
    have e3 := ble_iff.1 hc3
    obtain ⟨l, rfl, hb, h3⟩ := bs_of_load h2
    cases h3
    refine go_enter (fi := fiTR) (c := cdTR) (by kernel_rfl) (by kernel_rfl) 24 rfl rfl ?_
    have h0 : (Tr.ofList [Value.slice (some ad) l.length cap, .int .u8 (.ofNat 0)]).get 0 = some (.slice (some ad) l.length cap) := rfl
    have h1 : (Tr.ofList [Value.slice (some ad) l.length cap, .int .u8 (.ofNat 0)]).get 1 = some (.int .u8 (.ofNat 0)) := rfl
    generalize Tr.ofList [Value.slice (some ad) l.length cap, .int .u8 (.ofNat 0)] = t at *
    rw [hcode]
    apply go_seq
    simp only [cdTR, Tryd.f46, bodyOf, sub]
    repeat apply go_seq
    apply go_region
    case h => intro m; simp (maxSteps := 2000000) (disch := decide) only [opsLoop, evOper, wantedA, nth, aop, aPick, aBin, aIndexAddr, aFieldAddr, aLoad, aStore, aExtract, aConvert, aAlloc, aBox, aIndex, callA, builtinA, Fr.evs, opt, val, when, AM.run, outV, newA, ptr, force_eq, seen_heap, seen_next, seen_mark, seen_seen, agg_cells, int_cells, Fr.ev, Fr.put, onFr, gps, gpn, bltT, still, flat, List.append_nil, List.nil_append, List.cons_append, Nat.reduceEqDiff, ne_eq, not_false_eq_true, reduceCtorEq, Bool.and_true, Bool.true_and, Bool.and_false, Bool.false_and, Bool.not_true, Bool.not_false, Bool.and_self]; rfl
    apply go_seq
    apply go_block
    refine (go_loop_inv (InvTR ad cap l s) (fun k fr s1 hI => trimR_round ad cap l s e2 e3 e1 hb k fr s1 hI) l.length _ _ ⟨l.length, _, rfl, by omega, rfl, Rd.refl s, ?_, ?_, fun j x hj hx => by rw [List.getElem?_eq_none hj] at hx; cases hx⟩).mono ?_
    · simp (disch := decide) only [gps, gpn, h0]
    · simp (disch := decide) only [gps, gpn, h1]
    rintro x fr s1 ⟨rfl, t1, rfl, hr, g0⟩
    simp only [Out_, if_true]
    show GoC E _ _ _ _ _
    repeat apply go_seq
    apply go_region
    case h => intro m; simp (maxSteps := 2000000) (disch := decide) only [opsLoop, evOper, wantedA, nth, aop, aPick, aBin, aIndexAddr, aFieldAddr, aLoad, aStore, aExtract, aConvert, aAlloc, aBox, aIndex, callA, builtinA, Fr.evs, opt, val, when, AM.run, outV, newA, ptr, force_eq, seen_heap, seen_next, seen_mark, seen_seen, agg_cells, int_cells, Fr.ev, Fr.put, onFr, gps, gpn, bltT, still, flat, List.append_nil, List.nil_append, List.cons_append, Nat.reduceEqDiff, ne_eq, not_false_eq_true, reduceCtorEq, Bool.and_true, Bool.true_and, Bool.and_false, Bool.false_and, Bool.not_true, Bool.not_false, Bool.and_self, g0]; rfl
    repeat apply go_seq
    apply go_ret
    apply ret_intro rfl rfl
    case run => simp (disch := decide) only [resultsM, resultsA, resTR, opsLoop, evOper, wantedA, nth, aop, aPick, aBin, aIndexAddr, aFieldAddr, aLoad, aStore, aExtract, aConvert, aAlloc, aBox, aIndex, callA, builtinA, Fr.evs, opt, val, when, AM.run, outV, newA, ptr, force_eq, seen_heap, seen_next, seen_mark, seen_seen, agg_cells, int_cells, Fr.ev, Fr.put, onFr, gps, gpn, bltT, still, flat, List.append_nil, List.nil_append, List.cons_append, Nat.reduceEqDiff, ne_eq, not_false_eq_true, reduceCtorEq, Bool.and_true, Bool.true_and, Bool.and_false, Bool.false_and, Bool.not_true, Bool.not_false, Bool.and_self]; rfl
    exact ⟨rfl, hr.less (Rd.seen s ad.block)⟩
  · cases h
end Go.Proofs.YtgofanjbhbeniaaDoor.lf
end
end

section
/- Leaves: what the code that makes and reads them does, told shortly: a cut set of one byte; whether a leaf may be. -/
noncomputable section
namespace Go.Proofs.YtgofanjbhbeniaaDoor.lf
open AE
set_option linter.unusedSimpArgs false
set_option linter.unusedVariables false
set_option maxRecDepth 10000

/-! drawn orders of reads -/
theorem clash_reads (rd b i r : Nat) (seen : List (Nat × Nat × Nat)) : clash rd 0 b (keepLog i r 0 seen) = clash rd 0 b seen := by
  unfold keepLog
  split
  · rfl
  · show (match Nat.beq (Nat.lor (Nat.land 0 (Nat.lor rd 0)) (Nat.land r 0)) 0 with | true => clash rd 0 b seen | false => _) = _
    have h1 : Nat.land 0 (Nat.lor rd 0) = 0 := Nat.zero_and _
    have h2 : Nat.land r 0 = 0 := Nat.and_zero _
    rw [h1, h2]
theorem created_self (n : Nat) : created n n = 0 := by
  unfold created
  rw [beq_iff.2 rfl]
theorem clash_nil (rd wr b : Nat) : clash rd wr b [] = false := rfl
theorem keep_none (i : Nat) (seen : List (Nat × Nat × Nat)) : keepLog i 0 0 seen = seen := rfl
theorem lor_zero (n : Nat) : Nat.lor 0 n = n := Nat.zero_or _
theorem lor_zero' (n : Nat) : Nat.lor n 0 = n := Nat.or_zero _

def Z : ByteArray := ⟨⟨[0]⟩⟩
theorem zsize : Z.size = 1 := rfl
theorem zbyte : byteAt Z.data.toList 0 = some (.int .u8 (.ofNat 0)) := rfl

def trimV (ad : Addr) (cap : Nat) (l : List UInt8) : Value := trimLV ad cap (l.take (rl l))
def trimA : List Value → AM Value
  | [.slice a n cap, .string ⟨⟨[x]⟩⟩] => when (Nat.beq x.toNat 0) (match n with
    | 0 => .pure (.slice none 0 0)
    | n + 1 => match a with
      | none => .fail
      | some ad => when (Nat.ble (n + 1) cap && Nat.blt cap OPEN) (loadA ad (n + 1) fun cs => opt (bytesV cs) fun l => .pure (trimV ad cap l)))
  | _ => .fail
abbrev sigT : List (Nat × (List Value → AM Value)) := [(45, trimLA), (46, trimRA)]
theorem tolds_T : Tolds Tryd.prog (sumsOf sigT) := tolds_cons told_trimL (tolds_cons told_trimR tolds_nil)
theorem tgt {f : FuncId} {fi : FI} {c : Code} (hf : E.fn.get f = some fi) (hb : fi.body = some c) : ∀ a b, targetA E (.func f) a b = .pure (.enter f (b ++ a)) := by
  intro a b
  simp only [targetA, hf, opt, hb]
theorem tgTL : ∀ a b, targetA E (.func 45) a b = .pure (.enter 45 (b ++ a)) := tgt (fi := fiTL) (c := cdTL) (by kernel_rfl) (by kernel_rfl)
theorem tgTR : ∀ a b, targetA E (.func 46) a b = .pure (.enter 46 (b ++ a)) := tgt (fi := fiTR) (c := cdTR) (by kernel_rfl) (by kernel_rfl)
theorem sgTL : sumsOf sigT 45 = some trimLA := rfl
theorem sgTR : sumsOf sigT 46 = some trimRA := rfl

theorem Bs.load {s : S} {ad : Addr} {l : List UInt8} (h : Bs s ad l) {β : Type} (k : List UInt8 → AM β) : (loadA ad l.length fun cs => opt (bytesV cs) k).run s = (k l).run (s.seen ad.block) := by
  obtain ⟨c, m, h1, h2, h3⟩ := h.cell
  have h4 := rd_row h3
  rw [List.length_map] at h4
  unfold loadA
  rw [h.spot]
  rcases h1 with ⟨e, rm, h1⟩ | ⟨e, h1⟩
  all_goals
    simp only [AM.run, blt_iff.2 h.lt, h1, when, ble_iff.2 h2, show Nat.ble (Nat.add ad.off l.length) m = true from ble_iff.2 h2, opt, h4, bytesV_map]
    rfl
theorem Bs.take {s : S} {ad : Addr} {l : List UInt8} (h : Bs s ad l) (n : Nat) : Bs s ad (l.take n) := by
  obtain ⟨c, m, h1, h2, h3⟩ := h.cell
  refine ⟨h.spot, h.lt, c, m, h1, by rw [List.length_take]; omega, ?_⟩
  have := h3.sub 0 n
  simpa using this
theorem Bs.of {s s' : S} {ad : Addr} {l : List UInt8} (h : Bs s ad l) (hh : s'.heap = s.heap) (hn : s'.next = s.next) : Bs s' ad l := ⟨h.spot, by rw [hn]; exact h.lt, by obtain ⟨c, m, h1, h2⟩ := h.cell; exact ⟨c, m, h1.of (by rw [hh]), h2⟩⟩
theorem trimRA_run {s : S} {ad : Addr} {l : List UInt8} {cap : Nat} (h : Bs s ad l) (h1 : l.length ≤ cap) (h2 : cap < OPEN) (h3 : 1 ≤ cap) :
    (trimRA [.slice (some ad) l.length cap, .int .u8 (.ofNat 0)]).run s = some (.slice (some ad) (rl l) cap, s.seen ad.block) := by
  simp only [trimRA, when, ble_iff.2 h1, blt_iff.2 h2, ble_iff.2 h3, Bool.and_self, Bs.load h, AM.run]
theorem trimLA_run {s : S} {ad : Addr} {l : List UInt8} {cap : Nat} (h : Bs s ad l) (h1 : l.length ≤ cap) (h2 : cap < OPEN) :
    (trimLA [.slice (some ad) l.length cap, .int .u8 (.ofNat 0)]).run s = some (trimLV ad cap l, s.seen ad.block) := by
  simp only [trimLA, when, ble_iff.2 h1, blt_iff.2 h2, Bool.and_self, Bs.load h, AM.run]

noncomputable def fiT : FI := FI.of Tryd.f40
noncomputable def cdT : Code := bodyOf Tryd.f40
theorem resT : fiT.results = [.tmp 4] := rfl
theorem told_trim : AE.Told Tryd.prog 40 trimA := by
  refine told_go hE hmix tolds_T ?_
  intro args s v s' h hm
  unfold trimA at h
  split at h
  · rename_i a n cap x
    obtain ⟨hx, h2⟩ := run_when h
    obtain rfl : x = 0 := UInt8.toNat_inj.1 (by simpa using beq_iff.1 hx)
    clear h
    refine go_enter (fi := fiT) (c := cdT) (by kernel_rfl) (by kernel_rfl) 42 rfl rfl ?_
    have h0 : (Tr.ofList [Value.slice a n cap, .string ⟨⟨[0]⟩⟩]).get 0 = some (.slice a n cap) := rfl
    have h1 : (Tr.ofList [Value.slice a n cap, .string ⟨⟨[0]⟩⟩]).get 1 = some (.string Z) := rfl
    generalize Tr.ofList [Value.slice a n cap, .string ⟨⟨[0]⟩⟩] = t at *
    simp only [cdT, Tryd.f40, bodyOf]
    cases n with
    | zero =>
      have h3 : (AM.pure (Value.slice none 0 0)).run s = some (v, s') := h2
      cases h3
      have h0' : t.get 0 = some (.slice a 0 cap) := h0
      repeat apply go_seq
      apply go_region
      case h => intro m; simp (maxSteps := 2000000) (disch := decide) only [opsLoop, evOper, wantedA, nth, aop, aPick, aBin, aIndexAddr, aFieldAddr, aLoad, aStore, aExtract, aConvert, aAlloc, aBox, aIndex, callA, builtinA, Fr.evs, opt, val, when, AM.run, outV, newA, ptr, force_eq, seen_heap, seen_next, seen_mark, seen_seen, agg_cells, int_cells, Fr.ev, Fr.put, onFr, gps, gpn, bltT, still, flat, List.append_nil, List.nil_append, List.cons_append, Nat.reduceEqDiff, ne_eq, not_false_eq_true, reduceCtorEq, Bool.and_true, Bool.true_and, Bool.and_false, Bool.false_and, Bool.not_true, Bool.not_false, Bool.and_self]; rfl
      repeat apply go_seq
      apply go_region
      case h => intro m; simp (maxSteps := 2000000) (disch := decide) only [opsLoop, evOper, wantedA, nth, aop, aPick, aBin, aIndexAddr, aFieldAddr, aLoad, aStore, aExtract, aConvert, aAlloc, aBox, aIndex, callA, builtinA, Fr.evs, opt, val, when, AM.run, outV, newA, ptr, force_eq, seen_heap, seen_next, seen_mark, seen_seen, agg_cells, int_cells, Fr.ev, Fr.put, onFr, gps, gpn, bltT, still, flat, List.append_nil, List.nil_append, List.cons_append, Nat.reduceEqDiff, ne_eq, not_false_eq_true, reduceCtorEq, Bool.and_true, Bool.true_and, Bool.and_false, Bool.false_and, Bool.not_true, Bool.not_false, Bool.and_self, h0', tyB, dsB, b_eql, int0, eqI_t]; rfl
      repeat apply go_seq
      apply go_cond
      case hc => simp (disch := decide) only [opsLoop, evOper, wantedA, nth, aop, aPick, aBin, aIndexAddr, aFieldAddr, aLoad, aStore, aExtract, aConvert, aAlloc, aBox, aIndex, callA, builtinA, Fr.evs, opt, val, when, AM.run, outV, newA, ptr, force_eq, seen_heap, seen_next, seen_mark, seen_seen, agg_cells, int_cells, Fr.ev, Fr.put, onFr, gps, gpn, bltT, still, flat, List.append_nil, List.nil_append, List.cons_append, Nat.reduceEqDiff, ne_eq, not_false_eq_true, reduceCtorEq, Bool.and_true, Bool.true_and, Bool.and_false, Bool.false_and, Bool.not_true, Bool.not_false, Bool.and_self]; rfl
      case h2 => intro h; cases h
      intro _
      repeat apply go_seq
      apply go_region
      case h => intro m; simp (maxSteps := 2000000) (disch := decide) only [opsLoop, evOper, wantedA, nth, aop, aPick, aBin, aIndexAddr, aFieldAddr, aLoad, aStore, aExtract, aConvert, aAlloc, aBox, aIndex, callA, builtinA, Fr.evs, opt, val, when, AM.run, outV, newA, ptr, force_eq, seen_heap, seen_next, seen_mark, seen_seen, agg_cells, int_cells, Fr.ev, Fr.put, onFr, gps, gpn, bltT, still, flat, List.append_nil, List.nil_append, List.cons_append, Nat.reduceEqDiff, ne_eq, not_false_eq_true, reduceCtorEq, Bool.and_true, Bool.true_and, Bool.and_false, Bool.false_and, Bool.not_true, Bool.not_false, Bool.and_self]; rfl
      repeat apply go_seq
      apply go_ret
      apply ret_intro rfl rfl
      case run => simp (disch := decide) only [resultsM, resultsA, resT, opsLoop, evOper, wantedA, nth, aop, aPick, aBin, aIndexAddr, aFieldAddr, aLoad, aStore, aExtract, aConvert, aAlloc, aBox, aIndex, callA, builtinA, Fr.evs, opt, val, when, AM.run, outV, newA, ptr, force_eq, seen_heap, seen_next, seen_mark, seen_seen, agg_cells, int_cells, Fr.ev, Fr.put, onFr, gps, gpn, bltT, still, flat, List.append_nil, List.nil_append, List.cons_append, Nat.reduceEqDiff, ne_eq, not_false_eq_true, reduceCtorEq, Bool.and_true, Bool.true_and, Bool.and_false, Bool.false_and, Bool.not_true, Bool.not_false, Bool.and_self]; rfl
      exact ⟨rfl, Less'.refl _⟩
    | succ n =>
      cases a with
      | none => cases h2
      | some ad =>
        have h3 : (when (Nat.ble (n + 1) cap && Nat.blt cap OPEN) (loadA ad (n + 1) fun cs => opt (bytesV cs) fun l => .pure (trimV ad cap l))).run s = some (v, s') := h2
        clear h2
        obtain ⟨hc, h4⟩ := run_when h3
        simp only [Bool.and_eq_true] at hc
        have hle := ble_iff.1 hc.1
        have hop := blt_iff.1 hc.2
        obtain ⟨l, hl, hb, h5⟩ := bs_of_load h4
        cases h5
        have hne : eqI (Int.ofNat (n + 1)) (Int.ofNat 0) = false := eqI_f (by omega)
        have hstr : ∀ E t, binA E .eql t (.string Z) (.string ⟨#[]⟩) = some (.bool false) := fun E t => rfl
        have hlss : ∀ E t, binA E .lss t (.int .u8 (.ofNat 0)) (.int .u8 128) = some (.bool true) := fun E t => rfl
        have hz1 : eqI (Int.ofNat 1) (Int.ofNat 1) = true := rfl
        repeat apply go_seq
        apply go_region
        case h => intro m; simp (maxSteps := 2000000) (disch := decide) only [opsLoop, evOper, wantedA, nth, aop, aPick, aBin, aIndexAddr, aFieldAddr, aLoad, aStore, aExtract, aConvert, aAlloc, aBox, aIndex, callA, builtinA, Fr.evs, opt, val, when, AM.run, outV, newA, ptr, force_eq, seen_heap, seen_next, seen_mark, seen_seen, agg_cells, int_cells, Fr.ev, Fr.put, onFr, gps, gpn, bltT, still, flat, List.append_nil, List.nil_append, List.cons_append, Nat.reduceEqDiff, ne_eq, not_false_eq_true, reduceCtorEq, Bool.and_true, Bool.true_and, Bool.and_false, Bool.false_and, Bool.not_true, Bool.not_false, Bool.and_self]; rfl
        repeat apply go_seq
        apply go_region
        case h => intro m; simp (maxSteps := 2000000) (disch := decide) only [opsLoop, evOper, wantedA, nth, aop, aPick, aBin, aIndexAddr, aFieldAddr, aLoad, aStore, aExtract, aConvert, aAlloc, aBox, aIndex, callA, builtinA, Fr.evs, opt, val, when, AM.run, outV, newA, ptr, force_eq, seen_heap, seen_next, seen_mark, seen_seen, agg_cells, int_cells, Fr.ev, Fr.put, onFr, gps, gpn, bltT, still, flat, List.append_nil, List.nil_append, List.cons_append, Nat.reduceEqDiff, ne_eq, not_false_eq_true, reduceCtorEq, Bool.and_true, Bool.true_and, Bool.and_false, Bool.false_and, Bool.not_true, Bool.not_false, Bool.and_self, h0, tyB, dsB, b_eql, int0, hne]; rfl
        repeat apply go_seq
        apply go_cond
        case hc => simp (disch := decide) only [opsLoop, evOper, wantedA, nth, aop, aPick, aBin, aIndexAddr, aFieldAddr, aLoad, aStore, aExtract, aConvert, aAlloc, aBox, aIndex, callA, builtinA, Fr.evs, opt, val, when, AM.run, outV, newA, ptr, force_eq, seen_heap, seen_next, seen_mark, seen_seen, agg_cells, int_cells, Fr.ev, Fr.put, onFr, gps, gpn, bltT, still, flat, List.append_nil, List.nil_append, List.cons_append, Nat.reduceEqDiff, ne_eq, not_false_eq_true, reduceCtorEq, Bool.and_true, Bool.true_and, Bool.and_false, Bool.false_and, Bool.not_true, Bool.not_false, Bool.and_self]; rfl
        case h1 => intro h; cases h
        intro _
        apply go_skip
        repeat apply go_seq
        apply go_region
        case h => intro m; simp (maxSteps := 2000000) (disch := decide) only [opsLoop, evOper, wantedA, nth, aop, aPick, aBin, aIndexAddr, aFieldAddr, aLoad, aStore, aExtract, aConvert, aAlloc, aBox, aIndex, callA, builtinA, Fr.evs, opt, val, when, AM.run, outV, newA, ptr, force_eq, seen_heap, seen_next, seen_mark, seen_seen, agg_cells, int_cells, Fr.ev, Fr.put, onFr, gps, gpn, bltT, still, flat, List.append_nil, List.nil_append, List.cons_append, Nat.reduceEqDiff, ne_eq, not_false_eq_true, reduceCtorEq, Bool.and_true, Bool.true_and, Bool.and_false, Bool.false_and, Bool.not_true, Bool.not_false, Bool.and_self, h0, h1, hstr]; rfl
        repeat apply go_seq
        apply go_cond
        case hc => simp (disch := decide) only [opsLoop, evOper, wantedA, nth, aop, aPick, aBin, aIndexAddr, aFieldAddr, aLoad, aStore, aExtract, aConvert, aAlloc, aBox, aIndex, callA, builtinA, Fr.evs, opt, val, when, AM.run, outV, newA, ptr, force_eq, seen_heap, seen_next, seen_mark, seen_seen, agg_cells, int_cells, Fr.ev, Fr.put, onFr, gps, gpn, bltT, still, flat, List.append_nil, List.nil_append, List.cons_append, Nat.reduceEqDiff, ne_eq, not_false_eq_true, reduceCtorEq, Bool.and_true, Bool.true_and, Bool.and_false, Bool.false_and, Bool.not_true, Bool.not_false, Bool.and_self]; rfl
        case h1 => intro h; cases h
        intro _
        apply go_skip
        repeat apply go_seq
        apply go_region
        case h => intro m; simp (maxSteps := 2000000) (disch := decide) only [opsLoop, evOper, wantedA, nth, aop, aPick, aBin, aIndexAddr, aFieldAddr, aLoad, aStore, aExtract, aConvert, aAlloc, aBox, aIndex, callA, builtinA, Fr.evs, opt, val, when, AM.run, outV, newA, ptr, force_eq, seen_heap, seen_next, seen_mark, seen_seen, agg_cells, int_cells, Fr.ev, Fr.put, onFr, gps, gpn, bltT, still, flat, List.append_nil, List.nil_append, List.cons_append, Nat.reduceEqDiff, ne_eq, not_false_eq_true, reduceCtorEq, Bool.and_true, Bool.true_and, Bool.and_false, Bool.false_and, Bool.not_true, Bool.not_false, Bool.and_self, h0, h1, tySt, dsSt, zsize, zbyte, b_eql, int1, hz1, int0, hlss]; rfl
        repeat apply go_seq
        apply go_cond
        case hc => simp (disch := decide) only [opsLoop, evOper, wantedA, nth, aop, aPick, aBin, aIndexAddr, aFieldAddr, aLoad, aStore, aExtract, aConvert, aAlloc, aBox, aIndex, callA, builtinA, Fr.evs, opt, val, when, AM.run, outV, newA, ptr, force_eq, seen_heap, seen_next, seen_mark, seen_seen, agg_cells, int_cells, Fr.ev, Fr.put, onFr, gps, gpn, bltT, still, flat, List.append_nil, List.nil_append, List.cons_append, Nat.reduceEqDiff, ne_eq, not_false_eq_true, reduceCtorEq, Bool.and_true, Bool.true_and, Bool.and_false, Bool.false_and, Bool.not_true, Bool.not_false, Bool.and_self]; rfl
        case h2 => intro h; cases h
        intro _
        have htk : (l.take (rl l)).length = rl l := by rw [List.length_take]; have := rl_le l; omega
        have hR := trimRA_run (cap := cap) (hb.of (s' := ⟨s.heap, s.next, s.next, 0, 0⟩) rfl rfl) (by omega) hop (by omega)
        have hL := trimLA_run (cap := cap) ((hb.take (rl l)).of (s' := ⟨s.heap, s.next, s.next, 0, 0⟩) rfl rfl) (by rw [htk]; have := rl_le l; omega) hop
        rw [hl] at hR
        rw [htk] at hL
        simp only [S.seen] at hR hL
        repeat apply go_seq
        apply go_drawn
        case hs => rfl
        case h => intro m; simp (maxSteps := 2000000) (disch := decide) only [opsLoop, evOper, wantedA, nth, aop, aPick, aBin, aIndexAddr, aFieldAddr, aLoad, aStore, aExtract, aConvert, aAlloc, aBox, aIndex, callA, builtinA, Fr.evs, opt, val, when, AM.run, outV, newA, ptr, force_eq, seen_heap, seen_next, seen_mark, seen_seen, agg_cells, int_cells, Fr.ev, Fr.put, onFr, gps, gpn, bltT, still, flat, List.append_nil, List.nil_append, List.cons_append, Nat.reduceEqDiff, ne_eq, not_false_eq_true, reduceCtorEq, Bool.and_true, Bool.true_and, Bool.and_false, Bool.false_and, Bool.not_true, Bool.not_false, Bool.and_self, drawnLoop, force_eq, S.seen, keep_none, clash_nil, clash_reads, created_self, lor_zero, lor_zero', h0, h1, tySt, dsSt, zbyte, int0, tgTL, tgTR, evT_told sgTR, evT_told sgTL, hR, hL]; rfl
        repeat apply go_seq
        apply go_ret
        apply ret_intro rfl rfl
        case run => simp (disch := decide) only [resultsM, resultsA, resT, opsLoop, evOper, wantedA, nth, aop, aPick, aBin, aIndexAddr, aFieldAddr, aLoad, aStore, aExtract, aConvert, aAlloc, aBox, aIndex, callA, builtinA, Fr.evs, opt, val, when, AM.run, outV, newA, ptr, force_eq, seen_heap, seen_next, seen_mark, seen_seen, agg_cells, int_cells, Fr.ev, Fr.put, onFr, gps, gpn, bltT, still, flat, List.append_nil, List.nil_append, List.cons_append, Nat.reduceEqDiff, ne_eq, not_false_eq_true, reduceCtorEq, Bool.and_true, Bool.true_and, Bool.and_false, Bool.false_and, Bool.not_true, Bool.not_false, Bool.and_self]; rfl
        exact ⟨rfl, Rd.less (s := s) ⟨rfl, rfl, rfl⟩ (Rd.seen s ad.block)⟩
  · cases h
end Go.Proofs.YtgofanjbhbeniaaDoor.lf
end
end
