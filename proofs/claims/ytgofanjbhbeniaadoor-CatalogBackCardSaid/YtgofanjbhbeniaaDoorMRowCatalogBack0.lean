/- The sum of bytes: what its code does over the named memory. -/
import Derived.Test.YtgofanjbhbeniaaDoorRows
import Derived.Test.YtgofanjbhbeniaaDoorAe26
section
/- The sum of bytes: what its code does over the named memory. -/
namespace Go.Proofs.YtgofanjbhbeniaaDoor.sum
open AE
set_option linter.unusedSimpArgs false
set_option maxRecDepth 10000

noncomputable def body : Code := bodyOf Tryd.f44
noncomputable def cL : Code := sub [1,1,0,1,0,0] body
noncomputable def cIn : Code := sub [1,1,0,0,1,1,1,0,0] cL
noncomputable def cX : Code := sub [1,1,0,0] cL
noncomputable def r3 : Code := sub [0] cL
noncomputable def r4 : Code := sub [0] cX
noncomputable def r5 : Code := sub [1,0] cX
noncomputable def r6 : Code := sub [1,1,0] cX
noncomputable def r11 : Code := sub [1,1,1] cL
noncomputable def r0 : Code := sub [0] body
noncomputable def r1 : Code := sub [1,0] body
noncomputable def r2 : Code := sub [1,1,0,0] body
noncomputable def r12 : Code := sub [1,1,1,0] body
abbrev FN : Nat := 44

/-- one bit -/
theorem bitStep (E : Env) (f r j : Nat) (hr : r < 4294967296) (hj : j < 8) (t : Tr Value) (s : S) (h3 : t.get 3 = some (.int .u32 (.ofNat r))) (h17 : t.get 17 = some (.int .i64 (.ofNat j))) :
    ∃ t', ev E (f + 20) (.code cIn ⟨FN, t, 30, [], none⟩) s = some (.fr .normal ⟨FN, t', 30, [], none⟩, s) ∧ t'.get 3 = some (.int .u32 (.ofNat (crcBit r))) ∧ t'.get 17 = some (.int .i64 (.ofNat (j + 1))) ∧
      t'.get 7 = t.get 7 ∧ t'.get 8 = t.get 8 ∧ t'.get 9 = t.get 9 := by
  have hj8 : ltI (Int.ofNat j) 8 = true := by rw [ltI_eq]; simp; omega
  have hinc : ∀ E t, binA E .add t (.int .i64 (.ofNat j)) (.int .i64 1) = some (.int .i64 (.ofNat (j + 1))) := fun E t => b_inc (by omega)
  unfold cIn cL body
  simp only [Tryd.f44, bodyOf, sub]
  simp (disch := decide) only [ev, evCode, evRegion, outFr, opsLoop, evOper, wantedA, aop, aBin, opt, val, AM.run, Fr.ev, Fr.put, onFr, gp, bltT, h3, h17, still, flat, hj8, hinc, b_and, b_mul, b_xor, b_shr, b_lss,
    Nat.reduceEqDiff, if_true, if_false, reduceIte, reduceCtorEq]
  refine ⟨_, rfl, ?_⟩
  simp (disch := decide) only [gp, Nat.reduceEqDiff, reduceIte, crcBit_eq hr, and_self]

def bits : Nat → Nat → Nat
  | 0, r => r
  | k + 1, r => bits k (crcBit r)
theorem bits_lt : ∀ (k r : Nat), r < 4294967296 → bits k r < 4294967296
  | 0, r, h => h
  | k + 1, r, h => bits_lt k _ (crcBit_lt h)

/-- the bits that are left -/
theorem bitLoop (E : Env) (s : S) : ∀ (k f r j : Nat), r < 4294967296 → j + k = 8 → ∀ (t : Tr Value), t.get 3 = some (.int .u32 (.ofNat r)) → t.get 17 = some (.int .i64 (.ofNat j)) →
    ∃ t', ev E (f + k + 30) (.code (.loop cIn) ⟨FN, t, 30, [], none⟩) s = some (.fr (.exit 2) ⟨FN, t', 30, [], none⟩, s) ∧ t'.get 3 = some (.int .u32 (.ofNat (bits k r))) ∧ t'.get 7 = t.get 7 ∧ t'.get 8 = t.get 8 ∧ t'.get 9 = t.get 9
  | 0, f, r, j, hr, hj, t, h3, h17 => by
    have hj8 : ltI (Int.ofNat j) 8 = false := by rw [ltI_eq]; simp; omega
    unfold cIn cL body
    simp only [Tryd.f44, bodyOf, sub]
    simp (disch := decide) only [ev, evCode, evRegion, outFr, opsLoop, evOper, wantedA, aop, aBin, opt, val, AM.run, Fr.ev, Fr.put, onFr, gp, bltT, h3, h17, still, flat, hj8, b_lss,
      Nat.reduceEqDiff, if_true, if_false, reduceIte, reduceCtorEq]
    refine ⟨_, rfl, ?_⟩
    simp (disch := decide) only [gp, Nat.reduceEqDiff, reduceIte, h3, bits, and_self]
  | k + 1, f, r, j, hr, hj, t, h3, h17 => by
    obtain ⟨t1, e1, g3, g17, g7, g8, g9⟩ := bitStep E (f + k + 10) r j hr (by omega) t s h3 h17
    obtain ⟨t2, e2, k3, k7, k8, k9⟩ := bitLoop E s k f (crcBit r) (j + 1) (crcBit_lt hr) (by omega) t1 g3 g17
    refine ⟨t2, ?_, k3, k7.trans g7, k8.trans g8, k9.trans g9⟩
    have e1' : ev E (f + k + 30) (.code cIn ⟨FN, t, 30, [], none⟩) s = some (.fr .normal ⟨FN, t1, 30, [], none⟩, s) := e1
    show evCode (ev E (f + k + 30)) E (.loop cIn) _ s = _
    simp only [evCode, e1', e2]

theorem cL_eq : cL = .seq r3 (.seq (.cond (.tmp 10) .skip (.exit 0)) (.seq (.block 1 (.seq r4 (.seq r5 (.seq r6 (.block 2 (.loop cIn)))))) r11)) := rfl
theorem r3_run (E : Env) (f i len : Nat) (t : Tr Value) (s : S) (h9 : t.get 9 = some (.int .i64 (.ofNat i))) (h8 : t.get 8 = some (.int .i64 (.ofNat len))) :
    ev E (f + 2) (.code r3 ⟨FN, t, 30, [], none⟩) s = some (.fr .normal ⟨FN, t.put 10 (some (.bool (ltI (.ofNat i) (.ofNat len)))), 30, [], none⟩, s) := by
  unfold r3 cL body
  simp only [Tryd.f44, bodyOf, sub]
  simp (disch := decide) only [ev, evCode, evRegion, outFr, opsLoop, evOper, wantedA, aop, aBin, opt, val, AM.run, Fr.ev, Fr.put, onFr, gp, bltT, h8, h9, b_lss, Nat.reduceEqDiff, reduceIte]

structure Tys (E : Env) : Prop where
  sl : ∃ i, E.ty.get 51 = some i ∧ i.desc = .slice 5
  u8 : ∃ i, E.ty.get 5 = some i ∧ i.desc = .int .u8 ∧ i.size = 1
  u32 : ∃ i, E.ty.get 73 = some i ∧ i.desc = .int .u32

/-- where a byte lies -/
structure At (s : S) (ad : Addr) (k x : Nat) : Prop where
  spot : ad.spot = none
  lt : ad.block < s.next
  cell : ∃ c m, Has s ad.block c m ∧ ad.off + k + 1 ≤ m ∧ c.get (ad.off + k) = some (.int .u8 (.ofNat x))

theorem addA_eq (ad : Addr) (k : Nat) (h : ad.spot = none) : addA ad k = ⟨ad.block, ad.off + k, none⟩ := by
  cases k with
  | zero => obtain ⟨b, o, sp⟩ := ad; simp only at h; subst h; rfl
  | succ k => rfl
theorem byte_load {s : S} {ad : Addr} {k x : Nat} (h : At s ad k x) (i8 : TI) (hi : i8.desc = .int .u8) : (loadT i8 (addA ad k) val).run s = some (.value (.int .u8 (.ofNat x)), s.seen ad.block) := by
  obtain ⟨hs, hlt, c, m, h1, h2, h3⟩ := h
  rw [addA_eq ad k hs]
  have hble : Nat.ble (Nat.add (ad.off + k) 1) m = true := ble_iff.2 h2
  have hb : Nat.blt ad.block s.next = true := blt_iff.2 hlt
  rcases h1 with ⟨e, rm, h1⟩ | ⟨e, h1⟩
  all_goals
    simp only [loadT, hi, isAggD, loadA, AM.run, hb, h1, hble, when, rdCells, Nat.add_eq, Nat.add_zero, h3, opt, val]
    rfl
theorem r4_run {E : Env} (hE : Tys E) (f i len cap : Nat) (ad : Addr) (x : Nat) (t : Tr Value) (s : S) (h9 : t.get 9 = some (.int .i64 (.ofNat i))) (h7 : t.get 7 = some (.slice (some ad) len cap)) (hi : i < len) (hat : At s ad i x) :
    ev E (f + 2) (.code r4 ⟨FN, t, 30, [], none⟩) s = some (.fr .normal ⟨FN, ((t.put 11 (some (.pointer (some (addA ad i))))).put 12 (some (.int .u8 (.ofNat x)))).put 5 (some (.int .u8 (.ofNat x))), 30, [], none⟩, s.seen ad.block) := by
  obtain ⟨isl, hsl, dsl⟩ := hE.sl
  obtain ⟨i8, h8, d8, z8⟩ := hE.u8
  have hb : Nat.blt i len = true := blt_iff.2 hi
  have hl := byte_load hat i8 d8
  unfold r4 cX cL body
  simp only [Tryd.f44, bodyOf, sub]
  simp (disch := decide) only [ev, evCode, evRegion, outFr, opsLoop, evOper, wantedA, aop, aIndexAddr, aLoad, opt, when, Fr.ev, Fr.put, onFr, gp, bltT, h7, h9, hsl, dsl, h8, z8, hb, Nat.mul_one, Nat.mul_eq, hl, Nat.reduceEqDiff, reduceIte]
  simp (disch := decide) only [val, AM.run, gp, bltT, hl, Nat.reduceEqDiff, reduceIte]

theorem xor_byte {r x : Nat} (hr : r < 4294967296) (hx : x < 256) : Nat.mod (Nat.xor (Nat.mod r 4294967296) (Nat.mod x 4294967296)) 4294967296 = Nat.xor r x ∧ Nat.xor r x < 4294967296 := by
  rw [show Nat.mod r 4294967296 = r from Nat.mod_eq_of_lt hr, show Nat.mod x 4294967296 = x from Nat.mod_eq_of_lt (by omega)]
  have : Nat.xor r x < 4294967296 := Nat.xor_lt_two_pow (n := 32) hr (by omega)
  exact ⟨Nat.mod_eq_of_lt this, this⟩
theorem r56_run {E : Env} (hE : Tys E) (r x : Nat) (hr : r < 4294967296) (hx : x < 256) (t : Tr Value) (s : S) (h3 : t.get 3 = some (.int .u32 (.ofNat r))) (h5 : t.get 5 = some (.int .u8 (.ofNat x))) :
    ∃ t1 t2, (∀ f, ev E (f + 2) (.code r5 ⟨FN, t, 30, [], none⟩) s = some (.fr .normal ⟨FN, t1, 30, [], none⟩, s)) ∧ (∀ f, ev E (f + 2) (.code r6 ⟨FN, t1, 30, [], none⟩) s = some (.fr .normal ⟨FN, t2, 30, [], none⟩, s)) ∧
      t2.get 3 = some (.int .u32 (.ofNat (Nat.xor r x))) ∧ t2.get 17 = some (.int .i64 (.ofNat 0)) ∧ t2.get 7 = t.get 7 ∧ t2.get 8 = t.get 8 ∧ t2.get 9 = t.get 9 := by
  obtain ⟨i8, h8, d8, z8⟩ := hE.u8
  obtain ⟨i32, h32, d32⟩ := hE.u32
  unfold r5 r6 cX cL body
  simp only [Tryd.f44, bodyOf, sub]
  simp (disch := decide) only [ev, evCode, evRegion, outFr, opsLoop, evOper, wantedA, aop, aConvert, aBin, opt, val, AM.run, Fr.ev, Fr.put, onFr, gp, bltT, h3, h5, h8, h32, d32, b_conv8 hx, b_xor, still, flat, Nat.reduceEqDiff, reduceIte]
  refine ⟨_, _, fun f => rfl, fun f => rfl, ?_⟩
  simp (disch := decide) only [gp, Nat.reduceEqDiff, reduceIte, (xor_byte hr hx).1, and_self, and_true, true_and]
  rfl
theorem r11_run (E : Env) (f i : Nat) (hi : i < 9223372036854775807) (t : Tr Value) (s : S) (h9 : t.get 9 = some (.int .i64 (.ofNat i))) :
    ∃ t1, ev E (f + 2) (.code r11 ⟨FN, t, 30, [], none⟩) s = some (.fr .normal ⟨FN, t1, 30, [], none⟩, s) ∧ t1.get 9 = some (.int .i64 (.ofNat (i + 1))) ∧ t1.get 3 = t.get 3 ∧ t1.get 7 = t.get 7 ∧ t1.get 8 = t.get 8 := by
  have hinc : ∀ E t, binA E .add t (.int .i64 (.ofNat i)) (.int .i64 1) = some (.int .i64 (.ofNat (i + 1))) := fun E t => b_inc hi
  unfold r11 cL body
  simp only [Tryd.f44, bodyOf, sub]
  simp (disch := decide) only [ev, evCode, evRegion, outFr, opsLoop, evOper, wantedA, aop, aBin, opt, val, AM.run, Fr.ev, Fr.put, onFr, gp, bltT, h9, hinc, still, flat, Nat.reduceEqDiff, reduceIte]
  refine ⟨_, rfl, ?_⟩
  simp (disch := decide) only [gp, Nat.reduceEqDiff, reduceIte, and_self]

/-- one byte -/
theorem byteStep {E : Env} (hE : Tys E) (f r i len cap : Nat) (ad : Addr) (x : Nat) (hr : r < 4294967296) (hx : x < 256) (hi : i < len) (hi2 : i < 9223372036854775807) (t : Tr Value) (s : S) (hat : At s ad i x)
    (h3 : t.get 3 = some (.int .u32 (.ofNat r))) (h7 : t.get 7 = some (.slice (some ad) len cap)) (h8 : t.get 8 = some (.int .i64 (.ofNat len))) (h9 : t.get 9 = some (.int .i64 (.ofNat i))) :
    ∃ t', ev E (f + 60) (.code cL ⟨FN, t, 30, [], none⟩) s = some (.fr .normal ⟨FN, t', 30, [], none⟩, s.seen ad.block) ∧ t'.get 3 = some (.int .u32 (.ofNat (bits 8 (Nat.xor r x)))) ∧
      t'.get 7 = some (.slice (some ad) len cap) ∧ t'.get 8 = some (.int .i64 (.ofNat len)) ∧ t'.get 9 = some (.int .i64 (.ofNat (i + 1))) := by
  have hlt : ltI (Int.ofNat i) (Int.ofNat len) = true := by rw [ltI_eq]; simp; omega
  have a1 := r3_run E (f + 57) i len t s h9 h8
  have a2 := r4_run hE (f + 53) i len cap ad x (t.put 10 (some (.bool (ltI (.ofNat i) (.ofNat len))))) s (by rw [gp _ _ _ _ rfl]; exact h9) (by rw [gp _ _ _ _ rfl]; exact h7) hi hat
  obtain ⟨t1, t2, b1, b2, b3, b17, b7, b8, b9⟩ := r56_run hE r x hr hx ((((t.put 10 (some (.bool (ltI (.ofNat i) (.ofNat len))))).put 11 (some (.pointer (some (addA ad i))))).put 12 (some (.int .u8 (.ofNat x)))).put 5 (some (.int .u8 (.ofNat x)))) (s.seen ad.block)
    (by simp (disch := decide) only [gp, Nat.reduceEqDiff, reduceIte]; exact h3) (by simp (disch := decide) only [gp, reduceIte])
  obtain ⟨t3, c1, c3, c7, c8, c9⟩ := bitLoop E (s.seen ad.block) 8 (f + 14) (Nat.xor r x) 0 (xor_byte hr hx).2 (by omega) t2 b3 b17
  have g7 : t3.get 7 = some (.slice (some ad) len cap) := by rw [c7, b7]; simp (disch := decide) only [gp, Nat.reduceEqDiff, reduceIte]; exact h7
  have g8 : t3.get 8 = some (.int .i64 (.ofNat len)) := by rw [c8, b8]; simp (disch := decide) only [gp, Nat.reduceEqDiff, reduceIte]; exact h8
  have g9 : t3.get 9 = some (.int .i64 (.ofNat i)) := by rw [c9, b9]; simp (disch := decide) only [gp, Nat.reduceEqDiff, reduceIte]; exact h9
  obtain ⟨t4, d1, d9, d3, d7, d8⟩ := r11_run E (f + 55) i hi2 t3 (s.seen ad.block) g9
  refine ⟨t4, ?_, by rw [d3, c3], by rw [d7, g7], by rw [d8, g8], d9⟩
  rw [cL_eq]
  have hcond : Fr.ev ⟨FN, t.put 10 (some (.bool (ltI (.ofNat i) (.ofNat len)))), 30, [], none⟩ (.tmp 10) = some (.bool true) := by
    simp (disch := decide) only [Fr.ev, gp, reduceIte, hlt]
  refine (ev_seq (f := f + 59) a1).trans ((ev_seq (f := f + 58) ((ev_cond (f := f + 57) hcond).trans ev_skip)).trans ?_)
  refine (ev_seq (f := f + 57) (ev_block (f := f + 56) ((ev_seq (f := f + 55) a2).trans ((ev_seq (f := f + 54) (b1 (f + 52))).trans ((ev_seq (f := f + 53) (b2 (f + 51))).trans (ev_block_exit (f := f + 52) c1)))))).trans d1

theorem crcByte_eq (r x : Nat) : crcByte r x = bits 8 (Nat.xor r x) := by
  simp only [crcByte, force_eq, bits]

theorem At.of_seen {s : S} {ad : Addr} {k x : Nat} (n : Nat) (h : At s ad k x) : At (s.seen n) ad k x := ⟨h.spot, h.lt, h.cell⟩

/-- the bytes that are left, the block having been read already -/
theorem byteLoop {E : Env} (hE : Tys E) (len cap : Nat) (hlen : len < 9223372036854775807) (ad : Addr) (s : S) (hs : s.seen ad.block = s) : ∀ (l : List Value) (f r i R : Nat) (t : Tr Value), i + l.length = len → r < 4294967296 →
    (∀ k x, l[k]? = some (.int .u8 (.ofNat x)) → At s ad (i + k) x) → crcVals l r = some R →
    t.get 3 = some (.int .u32 (.ofNat r)) → t.get 7 = some (.slice (some ad) len cap) → t.get 8 = some (.int .i64 (.ofNat len)) → t.get 9 = some (.int .i64 (.ofNat i)) →
    ∃ t', ev E (f + l.length + 70) (.code (.loop cL) ⟨FN, t, 30, [], none⟩) s = some (.fr (.exit 0) ⟨FN, t', 30, [], none⟩, s) ∧ t'.get 3 = some (.int .u32 (.ofNat R)) ∧ R < 4294967296
  | [], f, r, i, R, t, hi, hr, hat, hc, h3, h7, h8, h9 => by
    simp only [crcVals, Option.some.injEq] at hc
    subst hc
    have hlt : ltI (Int.ofNat i) (Int.ofNat len) = false := by rw [ltI_eq]; simp at hi ⊢; omega
    have a1 := r3_run E (f + 66) i len t s h9 h8
    have hcond : Fr.ev ⟨FN, t.put 10 (some (.bool (ltI (.ofNat i) (.ofNat len)))), 30, [], none⟩ (.tmp 10) = some (.bool false) := by
      simp (disch := decide) only [Fr.ev, gp, reduceIte, hlt]
    refine ⟨t.put 10 (some (.bool (ltI (.ofNat i) (.ofNat len)))), ?_, ?_, hr⟩
    · refine ev_loop_exit (f := f + 69) ?_
      rw [cL_eq]
      exact (ev_seq (f := f + 68) a1).trans (ev_seq_exit (f := f + 67) ((ev_cond_not (f := f + 66) hcond).trans ev_exit))
    · simp (disch := decide) only [gp, Nat.reduceEqDiff, reduceIte, h3]
  | v :: l, f, r, i, R, t, hi, hr, hat, hc, h3, h7, h8, h9 => by
    obtain ⟨x, rfl, hx, hc⟩ := crcVals_cons hc
    rw [crcByte_eq] at hc
    simp only [List.length_cons] at hi
    obtain ⟨t1, a1, a3, a7, a8, a9⟩ := byteStep hE (f + l.length + 10) r i len cap ad x hr hx (by omega) (by omega) t s (by have := hat 0 x rfl; simpa using this) h3 h7 h8 h9
    rw [hs] at a1
    have hat' : ∀ k x, l[k]? = some (.int .u8 (.ofNat x)) → At s ad (i + 1 + k) x := by
      intro k x h
      have := hat (k + 1) x (by simpa using h)
      have e : i + (k + 1) = i + 1 + k := by omega
      rw [e] at this
      exact this
    obtain ⟨t2, b1, b3, b4⟩ := byteLoop hE len cap hlen ad s hs l f _ (i + 1) R t1 (by omega) (bits_lt 8 _ (xor_byte hr hx).2) hat' hc a3 a7 a8 a9
    refine ⟨t2, ?_, b3, b4⟩
    exact (ev_loop (f := f + l.length + 70) a1).trans b1

theorem body_eq : body = .seq r0 (.seq r1 (.seq (.seq r2 (.block 0 (.loop cL))) (.seq r12 .ret))) := rfl
theorem r01_run (E : Env) (t : Tr Value) (s : S) (v : Value) (h0 : t.get 0 = some v) :
    ∃ t1 t2, (∀ f, ev E (f + 2) (.code r0 ⟨FN, t, 30, [], none⟩) s = some (.fr .normal ⟨FN, t1, 30, [], none⟩, s)) ∧ (∀ f, ev E (f + 2) (.code r1 ⟨FN, t1, 30, [], none⟩) s = some (.fr .normal ⟨FN, t2, 30, [], none⟩, s)) ∧
      t2.get 3 = some (.int .u32 (.ofNat 4294967295)) ∧ t2.get 0 = some v := by
  unfold r0 r1 body
  simp only [Tryd.f44, bodyOf, sub]
  simp (disch := decide) only [ev, evCode, evRegion, outFr, opsLoop, evOper, wantedA, aop, opt, val, AM.run, Fr.ev, Fr.put, onFr, gps, gpn, bltT, still, flat]
  refine ⟨_, _, fun f => rfl, fun f => rfl, ?_⟩
  simp (disch := decide) only [gps, gpn, h0, and_true, true_and]
  rfl
theorem r2_run {E : Env} (hE : Tys E) (a : Option Addr) (len cap : Nat) (t : Tr Value) (s : S) (h0 : t.get 0 = some (.slice a len cap)) :
    ∃ t3, (∀ f, ev E (f + 2) (.code r2 ⟨FN, t, 30, [], none⟩) s = some (.fr .normal ⟨FN, t3, 30, [], none⟩, s)) ∧
      t3.get 3 = t.get 3 ∧ t3.get 7 = some (.slice a len cap) ∧ t3.get 8 = some (.int .i64 (.ofNat len)) ∧ t3.get 9 = some (.int .i64 (.ofNat 0)) := by
  obtain ⟨isl, hsl, dsl⟩ := hE.sl
  unfold r2 body
  simp only [Tryd.f44, bodyOf, sub]
  simp (disch := decide) only [ev, evCode, evRegion, outFr, opsLoop, evOper, wantedA, aop, callA, builtinA, Fr.evs, opt, val, AM.run, Fr.ev, Fr.put, onFr, gps, gpn, bltT, h0, hsl, dsl, still, flat]
  refine ⟨_, fun f => rfl, ?_⟩
  simp (disch := decide) only [gps, gpn, h0, and_true, true_and]
  rfl
theorem start_run {E : Env} (hE : Tys E) (a : Option Addr) (len cap : Nat) (t : Tr Value) (s : S) (h0 : t.get 0 = some (.slice a len cap)) :
    ∃ t1 t2 t3, (∀ f, ev E (f + 2) (.code r0 ⟨FN, t, 30, [], none⟩) s = some (.fr .normal ⟨FN, t1, 30, [], none⟩, s)) ∧ (∀ f, ev E (f + 2) (.code r1 ⟨FN, t1, 30, [], none⟩) s = some (.fr .normal ⟨FN, t2, 30, [], none⟩, s)) ∧
      (∀ f, ev E (f + 2) (.code r2 ⟨FN, t2, 30, [], none⟩) s = some (.fr .normal ⟨FN, t3, 30, [], none⟩, s)) ∧
      t3.get 3 = some (.int .u32 (.ofNat 4294967295)) ∧ t3.get 7 = some (.slice a len cap) ∧ t3.get 8 = some (.int .i64 (.ofNat len)) ∧ t3.get 9 = some (.int .i64 (.ofNat 0)) := by
  obtain ⟨t1, t2, a1, a2, a3, a0⟩ := r01_run E t s _ h0
  obtain ⟨t3, b1, b3, b7, b8, b9⟩ := r2_run hE a len cap t2 s a0
  exact ⟨t1, t2, t3, a1, a2, b1, b3.trans a3, b7, b8, b9⟩
theorem end_run (E : Env) (r : Nat) (hr : r < 4294967296) (t : Tr Value) (s : S) (h3 : t.get 3 = some (.int .u32 (.ofNat r))) :
    ∃ t1, (∀ f, ev E (f + 2) (.code r12 ⟨FN, t, 30, [], none⟩) s = some (.fr .normal ⟨FN, t1, 30, [], none⟩, s)) ∧ t1.get 2 = some (.int .u32 (.ofNat (Nat.xor 4294967295 r))) := by
  have e : Nat.mod (Nat.xor 4294967295 (Nat.mod r 4294967296)) 4294967296 = Nat.xor 4294967295 r := by
    rw [show Nat.mod r 4294967296 = r from Nat.mod_eq_of_lt hr]
    exact Nat.mod_eq_of_lt (Nat.xor_lt_two_pow (n := 32) (by decide) hr)
  unfold r12 body
  simp only [Tryd.f44, bodyOf, sub]
  simp (disch := decide) only [ev, evCode, evRegion, outFr, opsLoop, evOper, wantedA, aop, opt, val, AM.run, Fr.ev, Fr.put, onFr, gps, gpn, bltT, h3, b_not, e, Nat.reduceEqDiff, reduceIte]
  refine ⟨_, fun f => rfl, ?_⟩
  simp (disch := decide) only [gps, gpn]

/-- the function, out of its loop -/
theorem sum_fn {E : Env} (hE : Tys E) (hfn : E.fn.get FN = some (FI.of Tryd.f44)) (a : Option Addr) (len cap R : Nat) (hR : R < 4294967296) (s s1 : S) (n : Nat)
    (hloop : ∀ t, t.get 3 = some (.int .u32 (.ofNat 4294967295)) → t.get 7 = some (.slice a len cap) → t.get 8 = some (.int .i64 (.ofNat len)) → t.get 9 = some (.int .i64 (.ofNat 0)) →
      ∃ t', ev E (n + 1) (.code (.loop cL) ⟨FN, t, 30, [], none⟩) s = some (.fr (.exit 0) ⟨FN, t', 30, [], none⟩, s1) ∧ t'.get 3 = some (.int .u32 (.ofNat R))) :
    ev E (n + 7) (.next (.enter FN [.slice a len cap])) s = some (.val (.int .u32 (.ofNat (Nat.xor 4294967295 R))), s1) := by
  have h0 : (Tr.ofList [Value.slice a len cap]).get 0 = some (.slice a len cap) := rfl
  obtain ⟨t1, t2, t3, a0, a1, a2, g3, g7, g8, g9⟩ := start_run hE a len cap _ s h0
  obtain ⟨t4, b, b3⟩ := hloop t3 g3 g7 g8 g9
  obtain ⟨t5, c, c2⟩ := end_run E R hR t4 s1 b3
  have hbody : ev E (n + 6) (.code body ⟨FN, Tr.ofList [.slice a len cap], 30, [], none⟩) s = some (.fr .ret ⟨FN, t5, 30, [], none⟩, s1) := by
    rw [body_eq]
    refine (ev_seq (f := n + 5) (a0 (n + 3))).trans ((ev_seq (f := n + 4) (a1 (n + 2))).trans ((ev_seq (f := n + 3) ((ev_seq (f := n + 2) (a2 n)).trans (ev_block_exit (f := n + 1) b))).trans ((ev_seq (f := n + 2) (c n)).trans ev_ret)))
  have hleave : ev E (n + 6) (.leave ⟨FN, t5, 30, [], none⟩) s1 = some (.val (.int .u32 (.ofNat (Nat.xor 4294967295 R))), s1) := by
    rw [ev_leave (f := n + 5)]
    simp only [evLeave, hfn]
    have hres : (FI.of Tryd.f44).results = [.tmp 2] := rfl
    simp only [resultsM, hres, resultsA, c2, opt, AM.run]
  rw [ev_next (f := n + 6)]
  have hb : (FI.of Tryd.f44).body = some body := by kernel_rfl
  have hn : (FI.of Tryd.f44).ntmps = 30 := rfl
  have hle : Nat.ble 30 lastName = true := by decide
  have hnn : Nat.add [Value.slice a len cap].length (Nat.sub 30 [Value.slice a len cap].length) = 30 := rfl
  simp only [evNext, hfn, hb, hn, evEnter, hnn]
  simp only [hle, hbody, hleave]

theorem loop_none (E : Env) (t : Tr Value) (s : S) (h8 : t.get 8 = some (.int .i64 (.ofNat 0))) (h9 : t.get 9 = some (.int .i64 (.ofNat 0))) :
    ev E 11 (.code (.loop cL) ⟨FN, t, 30, [], none⟩) s = some (.fr (.exit 0) ⟨FN, t.put 10 (some (.bool (ltI (.ofNat 0) (.ofNat 0)))), 30, [], none⟩, s) := by
  have a1 := r3_run E 7 0 0 t s h9 h8
  have hcond : Fr.ev ⟨FN, t.put 10 (some (.bool (ltI (.ofNat 0) (.ofNat 0)))), 30, [], none⟩ (.tmp 10) = some (.bool false) := by
    simp (disch := decide) only [Fr.ev, gps, gpn]
    rfl
  refine ev_loop_exit (f := 10) ?_
  rw [cL_eq]
  exact (ev_seq (f := 9) a1).trans (ev_seq_exit (f := 8) ((ev_cond_not (f := 7) hcond).trans ev_exit))

/-- **the summary is lawful** -/
theorem sum_ev {E : Env} (hE : Tys E) (hfn : E.fn.get FN = some (FI.of Tryd.f44)) {args : List Value} {s s' : S} {v : Value} (h : (crcA args).run s = some (v, s')) :
    ∃ F, ev E F (.next (.enter FN args)) s = some (.val v, s') := by
  unfold crcA at h
  split at h
  · rename_i a len cap
    split at h
    · simp only [AM.run, Option.some.injEq, Prod.mk.injEq] at h
      obtain ⟨rfl, rfl⟩ := h
      refine ⟨17, sum_fn hE hfn a 0 cap 4294967295 (by decide) s s 10 ?_⟩
      intro t h3 h7 h8 h9
      exact ⟨_, loop_none E t s h8 h9, by simp (disch := decide) only [gps, gpn, h3]⟩
    · rename_i n
      split at h
      · rename_i ad
        obtain ⟨hn, h1⟩ := run_when h
        have hn := blt_iff.1 hn
        obtain ⟨c, m, cs, hspot, hlt, ho, hm', hcs, h4⟩ := load_inv h1
        obtain ⟨R, hR, h5⟩ := run_opt h4
        simp only [AM.run, Option.some.injEq, Prod.mk.injEq] at h5
        obtain ⟨rfl, rfl⟩ := h5
        have hm' : ad.off + (n + 1) ≤ m := hm'
        obtain ⟨hl, hget⟩ := rdCells_get hcs
        cases cs with
        | nil => simp at hl
        | cons v l =>
          simp only [List.length_cons] at hl
          have hat : ∀ k x, (v :: l)[k]? = some (.int .u8 (.ofNat x)) → At s ad k x := by
            intro k x hk
            have hkl := (List.getElem?_eq_some_iff.1 hk).1
            simp only [List.length_cons] at hkl
            exact ⟨hspot, hlt, c, m, ho, by omega, hget k _ hk⟩
          have hR' : R < 4294967296 := by
            have : ∀ (l : List Value) (r R : Nat), r < 4294967296 → crcVals l r = some R → R < 4294967296 := by
              intro l
              induction l with
              | nil => intro r R hr h; simp only [crcVals, Option.some.injEq] at h; omega
              | cons v l ih =>
                intro r R hr h
                obtain ⟨x, rfl, hx, hc⟩ := crcVals_cons h
                rw [crcByte_eq] at hc
                exact ih _ _ (bits_lt 8 _ (xor_byte hr hx).2) hc
            exact this _ _ _ (by decide) hR
          refine ⟨_, sum_fn hE hfn (some ad) (n + 1) cap R hR' s (s.seen ad.block) (l.length + 70) ?_⟩
          intro t h3 h7 h8 h9
          obtain ⟨x, rfl, hx, hc⟩ := crcVals_cons hR
          rw [crcByte_eq] at hc
          obtain ⟨t1, a1, a3, a7, a8, a9⟩ := byteStep hE (l.length + 10) 4294967295 0 (n + 1) cap ad x (by decide) hx (by omega) (by omega) t s (hat 0 x rfl) h3 h7 h8 h9
          obtain ⟨t2, b1, b3, b4⟩ := byteLoop hE (n + 1) cap (by omega) ad (s.seen ad.block) (seen_seen s ad.block) l 0 _ 1 R t1 (by omega) (bits_lt 8 _ (xor_byte (by decide) hx).2)
            (fun k x h => (by have := hat (k + 1) x (by simpa using h); rw [Nat.add_comm 1 k]; exact this.of_seen _)) hc a3 a7 a8 a9
          refine ⟨t2, ?_, b3⟩
          rw [Nat.zero_add] at b1
          exact (ev_loop (f := l.length + 70) a1).trans b1
      · cases h
  · cases h

/-- the summaries that the laws are told by -/
noncomputable def sums : Sums := fun f => match Nat.beq f FN with
  | true => some crcA
  | false => none
theorem sums_ok : SumsOK (Env.of Tryd.prog) sums := by
  intro f am hf args s v s' h
  unfold sums at hf
  split at hf
  · rename_i hb
    have hb := beq_iff.1 hb
    subst hb
    cases hf
    refine sum_ev ⟨⟨TI.of Tryd.prog 51, by kernel_rfl, by kernel_rfl⟩, ⟨TI.of Tryd.prog 5, by kernel_rfl, by kernel_rfl, by kernel_rfl⟩, ⟨TI.of Tryd.prog 73, by kernel_rfl, by kernel_rfl⟩⟩ (by kernel_rfl) h
  · cases hf
#print axioms sums_ok
end Go.Proofs.YtgofanjbhbeniaaDoor.sum
end
