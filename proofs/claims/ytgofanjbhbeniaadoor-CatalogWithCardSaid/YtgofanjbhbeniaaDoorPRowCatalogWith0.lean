/- Catalogs: types; numbers within bounds; cards and files that may be. -/
import Derived.Test.YtgofanjbhbeniaaDoorRows
import Derived.Test.YtgofanjbhbeniaaDoorAe26
import Derived.Test.YtgofanjbhbeniaaDoorAe32
import Derived.Test.YtgofanjbhbeniaaDoorAe33
import Derived.Test.YtgofanjbhbeniaaDoorAe34
section
/- The sum of bytes: what its code does over the named memory. -/
namespace Go.Proofs.YtgofanjbhbeniaaDoor.sum
open AE
set_option linter.unusedSimpArgs false
set_option maxRecDepth 10000

noncomputable def body : Code := bodyOf Tryd.f44
noncomputable def cL : Code := sub [1,1,0,1,0,0] body
noncomputable def cIn : Code := sub [1,1,0,0,1,1,1,0,0] cL
noncomputable def cX : Code := sub [1,1,0,0] cL
noncomputable def r3 : Code := sub [0] cL
noncomputable def r4 : Code := sub [0] cX
noncomputable def r5 : Code := sub [1,0] cX
noncomputable def r6 : Code := sub [1,1,0] cX
noncomputable def r11 : Code := sub [1,1,1] cL
noncomputable def r0 : Code := sub [0] body
noncomputable def r1 : Code := sub [1,0] body
noncomputable def r2 : Code := sub [1,1,0,0] body
noncomputable def r12 : Code := sub [1,1,1,0] body
abbrev FN : Nat := 44

/-- one bit -/
theorem bitStep (E : Env) (f r j : Nat) (hr : r < 4294967296) (hj : j < 8) (t : Tr Value) (s : S) (h3 : t.get 3 = some (.int .u32 (.ofNat r))) (h17 : t.get 17 = some (.int .i64 (.ofNat j))) :
    ∃ t', ev E (f + 20) (.code cIn ⟨FN, t, 30, [], none⟩) s = some (.fr .normal ⟨FN, t', 30, [], none⟩, s) ∧ t'.get 3 = some (.int .u32 (.ofNat (crcBit r))) ∧ t'.get 17 = some (.int .i64 (.ofNat (j + 1))) ∧
      t'.get 7 = t.get 7 ∧ t'.get 8 = t.get 8 ∧ t'.get 9 = t.get 9 := by
  have hj8 : ltI (Int.ofNat j) 8 = true := by rw [ltI_eq]; simp; omega
  have hinc : ∀ E t, binA E .add t (.int .i64 (.ofNat j)) (.int .i64 1) = some (.int .i64 (.ofNat (j + 1))) := fun E t => b_inc (by omega)
  unfold cIn cL body
  simp only [Tryd.f44, bodyOf, sub]
  simp (disch := decide) only [ev, evCode, evRegion, outFr, opsLoop, evOper, wantedA, aop, aBin, opt, val, AM.run, Fr.ev, Fr.put, onFr, gp, bltT, h3, h17, still, flat, hj8, hinc, b_and, b_mul, b_xor, b_shr, b_lss,
    Nat.reduceEqDiff, if_true, if_false, reduceIte, reduceCtorEq]
  refine ⟨_, rfl, ?_⟩
  simp (disch := decide) only [gp, Nat.reduceEqDiff, reduceIte, crcBit_eq hr, and_self]

def bits : Nat → Nat → Nat
  | 0, r => r
  | k + 1, r => bits k (crcBit r)
theorem bits_lt : ∀ (k r : Nat), r < 4294967296 → bits k r < 4294967296
  | 0, r, h => h
  | k + 1, r, h => bits_lt k _ (crcBit_lt h)

/-- the bits that are left -/
theorem bitLoop (E : Env) (s : S) : ∀ (k f r j : Nat), r < 4294967296 → j + k = 8 → ∀ (t : Tr Value), t.get 3 = some (.int .u32 (.ofNat r)) → t.get 17 = some (.int .i64 (.ofNat j)) →
    ∃ t', ev E (f + k + 30) (.code (.loop cIn) ⟨FN, t, 30, [], none⟩) s = some (.fr (.exit 2) ⟨FN, t', 30, [], none⟩, s) ∧ t'.get 3 = some (.int .u32 (.ofNat (bits k r))) ∧ t'.get 7 = t.get 7 ∧ t'.get 8 = t.get 8 ∧ t'.get 9 = t.get 9
  | 0, f, r, j, hr, hj, t, h3, h17 => by
    have hj8 : ltI (Int.ofNat j) 8 = false := by rw [ltI_eq]; simp; omega
    unfold cIn cL body
    simp only [Tryd.f44, bodyOf, sub]
    simp (disch := decide) only [ev, evCode, evRegion, outFr, opsLoop, evOper, wantedA, aop, aBin, opt, val, AM.run, Fr.ev, Fr.put, onFr, gp, bltT, h3, h17, still, flat, hj8, b_lss,
      Nat.reduceEqDiff, if_true, if_false, reduceIte, reduceCtorEq]
    refine ⟨_, rfl, ?_⟩
    simp (disch := decide) only [gp, Nat.reduceEqDiff, reduceIte, h3, bits, and_self]
  | k + 1, f, r, j, hr, hj, t, h3, h17 => by
    obtain ⟨t1, e1, g3, g17, g7, g8, g9⟩ := bitStep E (f + k + 10) r j hr (by omega) t s h3 h17
    obtain ⟨t2, e2, k3, k7, k8, k9⟩ := bitLoop E s k f (crcBit r) (j + 1) (crcBit_lt hr) (by omega) t1 g3 g17
    refine ⟨t2, ?_, k3, k7.trans g7, k8.trans g8, k9.trans g9⟩
    have e1' : ev E (f + k + 30) (.code cIn ⟨FN, t, 30, [], none⟩) s = some (.fr .normal ⟨FN, t1, 30, [], none⟩, s) := e1
    show evCode (ev E (f + k + 30)) E (.loop cIn) _ s = _
    simp only [evCode, e1', e2]

theorem cL_eq : cL = .seq r3 (.seq (.cond (.tmp 10) .skip (.exit 0)) (.seq (.block 1 (.seq r4 (.seq r5 (.seq r6 (.block 2 (.loop cIn)))))) r11)) := rfl
theorem r3_run (E : Env) (f i len : Nat) (t : Tr Value) (s : S) (h9 : t.get 9 = some (.int .i64 (.ofNat i))) (h8 : t.get 8 = some (.int .i64 (.ofNat len))) :
    ev E (f + 2) (.code r3 ⟨FN, t, 30, [], none⟩) s = some (.fr .normal ⟨FN, t.put 10 (some (.bool (ltI (.ofNat i) (.ofNat len)))), 30, [], none⟩, s) := by
  unfold r3 cL body
  simp only [Tryd.f44, bodyOf, sub]
  simp (disch := decide) only [ev, evCode, evRegion, outFr, opsLoop, evOper, wantedA, aop, aBin, opt, val, AM.run, Fr.ev, Fr.put, onFr, gp, bltT, h8, h9, b_lss, Nat.reduceEqDiff, reduceIte]

structure Tys (E : Env) : Prop where
  sl : ∃ i, E.ty.get 51 = some i ∧ i.desc = .slice 5
  u8 : ∃ i, E.ty.get 5 = some i ∧ i.desc = .int .u8 ∧ i.size = 1
  u32 : ∃ i, E.ty.get 73 = some i ∧ i.desc = .int .u32

/-- where a byte lies -/
structure At (s : S) (ad : Addr) (k x : Nat) : Prop where
  spot : ad.spot = none
  lt : ad.block < s.next
  cell : ∃ c m, Has s ad.block c m ∧ ad.off + k + 1 ≤ m ∧ c.get (ad.off + k) = some (.int .u8 (.ofNat x))

theorem addA_eq (ad : Addr) (k : Nat) (h : ad.spot = none) : addA ad k = ⟨ad.block, ad.off + k, none⟩ := by
  cases k with
  | zero => obtain ⟨b, o, sp⟩ := ad; simp only at h; subst h; rfl
  | succ k => rfl
theorem byte_load {s : S} {ad : Addr} {k x : Nat} (h : At s ad k x) (i8 : TI) (hi : i8.desc = .int .u8) : (loadT i8 (addA ad k) val).run s = some (.value (.int .u8 (.ofNat x)), s.seen ad.block) := by
  obtain ⟨hs, hlt, c, m, h1, h2, h3⟩ := h
  rw [addA_eq ad k hs]
  have hble : Nat.ble (Nat.add (ad.off + k) 1) m = true := ble_iff.2 h2
  have hb : Nat.blt ad.block s.next = true := blt_iff.2 hlt
  rcases h1 with ⟨e, rm, h1⟩ | ⟨e, h1⟩
  all_goals
    simp only [loadT, hi, isAggD, loadA, AM.run, hb, h1, hble, when, rdCells, Nat.add_eq, Nat.add_zero, h3, opt, val]
    rfl
theorem r4_run {E : Env} (hE : Tys E) (f i len cap : Nat) (ad : Addr) (x : Nat) (t : Tr Value) (s : S) (h9 : t.get 9 = some (.int .i64 (.ofNat i))) (h7 : t.get 7 = some (.slice (some ad) len cap)) (hi : i < len) (hat : At s ad i x) :
    ev E (f + 2) (.code r4 ⟨FN, t, 30, [], none⟩) s = some (.fr .normal ⟨FN, ((t.put 11 (some (.pointer (some (addA ad i))))).put 12 (some (.int .u8 (.ofNat x)))).put 5 (some (.int .u8 (.ofNat x))), 30, [], none⟩, s.seen ad.block) := by
  obtain ⟨isl, hsl, dsl⟩ := hE.sl
  obtain ⟨i8, h8, d8, z8⟩ := hE.u8
  have hb : Nat.blt i len = true := blt_iff.2 hi
  have hl := byte_load hat i8 d8
  unfold r4 cX cL body
  simp only [Tryd.f44, bodyOf, sub]
  simp (disch := decide) only [ev, evCode, evRegion, outFr, opsLoop, evOper, wantedA, aop, aIndexAddr, aLoad, opt, when, Fr.ev, Fr.put, onFr, gp, bltT, h7, h9, hsl, dsl, h8, z8, hb, Nat.mul_one, Nat.mul_eq, hl, Nat.reduceEqDiff, reduceIte]
  simp (disch := decide) only [val, AM.run, gp, bltT, hl, Nat.reduceEqDiff, reduceIte]

theorem xor_byte {r x : Nat} (hr : r < 4294967296) (hx : x < 256) : Nat.mod (Nat.xor (Nat.mod r 4294967296) (Nat.mod x 4294967296)) 4294967296 = Nat.xor r x ∧ Nat.xor r x < 4294967296 := by
  rw [show Nat.mod r 4294967296 = r from Nat.mod_eq_of_lt hr, show Nat.mod x 4294967296 = x from Nat.mod_eq_of_lt (by omega)]
  have : Nat.xor r x < 4294967296 := Nat.xor_lt_two_pow (n := 32) hr (by omega)
  exact ⟨Nat.mod_eq_of_lt this, this⟩
theorem r56_run {E : Env} (hE : Tys E) (r x : Nat) (hr : r < 4294967296) (hx : x < 256) (t : Tr Value) (s : S) (h3 : t.get 3 = some (.int .u32 (.ofNat r))) (h5 : t.get 5 = some (.int .u8 (.ofNat x))) :
    ∃ t1 t2, (∀ f, ev E (f + 2) (.code r5 ⟨FN, t, 30, [], none⟩) s = some (.fr .normal ⟨FN, t1, 30, [], none⟩, s)) ∧ (∀ f, ev E (f + 2) (.code r6 ⟨FN, t1, 30, [], none⟩) s = some (.fr .normal ⟨FN, t2, 30, [], none⟩, s)) ∧
      t2.get 3 = some (.int .u32 (.ofNat (Nat.xor r x))) ∧ t2.get 17 = some (.int .i64 (.ofNat 0)) ∧ t2.get 7 = t.get 7 ∧ t2.get 8 = t.get 8 ∧ t2.get 9 = t.get 9 := by
  obtain ⟨i8, h8, d8, z8⟩ := hE.u8
  obtain ⟨i32, h32, d32⟩ := hE.u32
  unfold r5 r6 cX cL body
  simp only [Tryd.f44, bodyOf, sub]
  simp (disch := decide) only [ev, evCode, evRegion, outFr, opsLoop, evOper, wantedA, aop, aConvert, aBin, opt, val, AM.run, Fr.ev, Fr.put, onFr, gp, bltT, h3, h5, h8, h32, d32, b_conv8 hx, b_xor, still, flat, Nat.reduceEqDiff, reduceIte]
  refine ⟨_, _, fun f => rfl, fun f => rfl, ?_⟩
  simp (disch := decide) only [gp, Nat.reduceEqDiff, reduceIte, (xor_byte hr hx).1, and_self, and_true, true_and]
  rfl
theorem r11_run (E : Env) (f i : Nat) (hi : i < 9223372036854775807) (t : Tr Value) (s : S) (h9 : t.get 9 = some (.int .i64 (.ofNat i))) :
    ∃ t1, ev E (f + 2) (.code r11 ⟨FN, t, 30, [], none⟩) s = some (.fr .normal ⟨FN, t1, 30, [], none⟩, s) ∧ t1.get 9 = some (.int .i64 (.ofNat (i + 1))) ∧ t1.get 3 = t.get 3 ∧ t1.get 7 = t.get 7 ∧ t1.get 8 = t.get 8 := by
  have hinc : ∀ E t, binA E .add t (.int .i64 (.ofNat i)) (.int .i64 1) = some (.int .i64 (.ofNat (i + 1))) := fun E t => b_inc hi
  unfold r11 cL body
  simp only [Tryd.f44, bodyOf, sub]
  simp (disch := decide) only [ev, evCode, evRegion, outFr, opsLoop, evOper, wantedA, aop, aBin, opt, val, AM.run, Fr.ev, Fr.put, onFr, gp, bltT, h9, hinc, still, flat, Nat.reduceEqDiff, reduceIte]
  refine ⟨_, rfl, ?_⟩
  simp (disch := decide) only [gp, Nat.reduceEqDiff, reduceIte, and_self]

/-- one byte -/
theorem byteStep {E : Env} (hE : Tys E) (f r i len cap : Nat) (ad : Addr) (x : Nat) (hr : r < 4294967296) (hx : x < 256) (hi : i < len) (hi2 : i < 9223372036854775807) (t : Tr Value) (s : S) (hat : At s ad i x)
    (h3 : t.get 3 = some (.int .u32 (.ofNat r))) (h7 : t.get 7 = some (.slice (some ad) len cap)) (h8 : t.get 8 = some (.int .i64 (.ofNat len))) (h9 : t.get 9 = some (.int .i64 (.ofNat i))) :
    ∃ t', ev E (f + 60) (.code cL ⟨FN, t, 30, [], none⟩) s = some (.fr .normal ⟨FN, t', 30, [], none⟩, s.seen ad.block) ∧ t'.get 3 = some (.int .u32 (.ofNat (bits 8 (Nat.xor r x)))) ∧
      t'.get 7 = some (.slice (some ad) len cap) ∧ t'.get 8 = some (.int .i64 (.ofNat len)) ∧ t'.get 9 = some (.int .i64 (.ofNat (i + 1))) := by
  have hlt : ltI (Int.ofNat i) (Int.ofNat len) = true := by rw [ltI_eq]; simp; omega
  have a1 := r3_run E (f + 57) i len t s h9 h8
  have a2 := r4_run hE (f + 53) i len cap ad x (t.put 10 (some (.bool (ltI (.ofNat i) (.ofNat len))))) s (by rw [gp _ _ _ _ rfl]; exact h9) (by rw [gp _ _ _ _ rfl]; exact h7) hi hat
  obtain ⟨t1, t2, b1, b2, b3, b17, b7, b8, b9⟩ := r56_run hE r x hr hx ((((t.put 10 (some (.bool (ltI (.ofNat i) (.ofNat len))))).put 11 (some (.pointer (some (addA ad i))))).put 12 (some (.int .u8 (.ofNat x)))).put 5 (some (.int .u8 (.ofNat x)))) (s.seen ad.block)
    (by simp (disch := decide) only [gp, Nat.reduceEqDiff, reduceIte]; exact h3) (by simp (disch := decide) only [gp, reduceIte])
  obtain ⟨t3, c1, c3, c7, c8, c9⟩ := bitLoop E (s.seen ad.block) 8 (f + 14) (Nat.xor r x) 0 (xor_byte hr hx).2 (by omega) t2 b3 b17
  have g7 : t3.get 7 = some (.slice (some ad) len cap) := by rw [c7, b7]; simp (disch := decide) only [gp, Nat.reduceEqDiff, reduceIte]; exact h7
  have g8 : t3.get 8 = some (.int .i64 (.ofNat len)) := by rw [c8, b8]; simp (disch := decide) only [gp, Nat.reduceEqDiff, reduceIte]; exact h8
  have g9 : t3.get 9 = some (.int .i64 (.ofNat i)) := by rw [c9, b9]; simp (disch := decide) only [gp, Nat.reduceEqDiff, reduceIte]; exact h9
  obtain ⟨t4, d1, d9, d3, d7, d8⟩ := r11_run E (f + 55) i hi2 t3 (s.seen ad.block) g9
  refine ⟨t4, ?_, by rw [d3, c3], by rw [d7, g7], by rw [d8, g8], d9⟩
  rw [cL_eq]
  have hcond : Fr.ev ⟨FN, t.put 10 (some (.bool (ltI (.ofNat i) (.ofNat len)))), 30, [], none⟩ (.tmp 10) = some (.bool true) := by
    simp (disch := decide) only [Fr.ev, gp, reduceIte, hlt]
  refine (ev_seq (f := f + 59) a1).trans ((ev_seq (f := f + 58) ((ev_cond (f := f + 57) hcond).trans ev_skip)).trans ?_)
  refine (ev_seq (f := f + 57) (ev_block (f := f + 56) ((ev_seq (f := f + 55) a2).trans ((ev_seq (f := f + 54) (b1 (f + 52))).trans ((ev_seq (f := f + 53) (b2 (f + 51))).trans (ev_block_exit (f := f + 52) c1)))))).trans d1

theorem crcByte_eq (r x : Nat) : crcByte r x = bits 8 (Nat.xor r x) := by
  simp only [crcByte, force_eq, bits]

theorem At.of_seen {s : S} {ad : Addr} {k x : Nat} (n : Nat) (h : At s ad k x) : At (s.seen n) ad k x := ⟨h.spot, h.lt, h.cell⟩

/-- the bytes that are left, the block having been read already -/
theorem byteLoop {E : Env} (hE : Tys E) (len cap : Nat) (hlen : len < 9223372036854775807) (ad : Addr) (s : S) (hs : s.seen ad.block = s) : ∀ (l : List Value) (f r i R : Nat) (t : Tr Value), i + l.length = len → r < 4294967296 →
    (∀ k x, l[k]? = some (.int .u8 (.ofNat x)) → At s ad (i + k) x) → crcVals l r = some R →
    t.get 3 = some (.int .u32 (.ofNat r)) → t.get 7 = some (.slice (some ad) len cap) → t.get 8 = some (.int .i64 (.ofNat len)) → t.get 9 = some (.int .i64 (.ofNat i)) →
    ∃ t', ev E (f + l.length + 70) (.code (.loop cL) ⟨FN, t, 30, [], none⟩) s = some (.fr (.exit 0) ⟨FN, t', 30, [], none⟩, s) ∧ t'.get 3 = some (.int .u32 (.ofNat R)) ∧ R < 4294967296
  | [], f, r, i, R, t, hi, hr, hat, hc, h3, h7, h8, h9 => by
    simp only [crcVals, Option.some.injEq] at hc
    subst hc
    have hlt : ltI (Int.ofNat i) (Int.ofNat len) = false := by rw [ltI_eq]; simp at hi ⊢; omega
    have a1 := r3_run E (f + 66) i len t s h9 h8
    have hcond : Fr.ev ⟨FN, t.put 10 (some (.bool (ltI (.ofNat i) (.ofNat len)))), 30, [], none⟩ (.tmp 10) = some (.bool false) := by
      simp (disch := decide) only [Fr.ev, gp, reduceIte, hlt]
    refine ⟨t.put 10 (some (.bool (ltI (.ofNat i) (.ofNat len)))), ?_, ?_, hr⟩
    · refine ev_loop_exit (f := f + 69) ?_
      rw [cL_eq]
      exact (ev_seq (f := f + 68) a1).trans (ev_seq_exit (f := f + 67) ((ev_cond_not (f := f + 66) hcond).trans ev_exit))
    · simp (disch := decide) only [gp, Nat.reduceEqDiff, reduceIte, h3]
  | v :: l, f, r, i, R, t, hi, hr, hat, hc, h3, h7, h8, h9 => by
    obtain ⟨x, rfl, hx, hc⟩ := crcVals_cons hc
    rw [crcByte_eq] at hc
    simp only [List.length_cons] at hi
    obtain ⟨t1, a1, a3, a7, a8, a9⟩ := byteStep hE (f + l.length + 10) r i len cap ad x hr hx (by omega) (by omega) t s (by have := hat 0 x rfl; simpa using this) h3 h7 h8 h9
    rw [hs] at a1
    have hat' : ∀ k x, l[k]? = some (.int .u8 (.ofNat x)) → At s ad (i + 1 + k) x := by
      intro k x h
      have := hat (k + 1) x (by simpa using h)
      have e : i + (k + 1) = i + 1 + k := by omega
      rw [e] at this
      exact this
    obtain ⟨t2, b1, b3, b4⟩ := byteLoop hE len cap hlen ad s hs l f _ (i + 1) R t1 (by omega) (bits_lt 8 _ (xor_byte hr hx).2) hat' hc a3 a7 a8 a9
    refine ⟨t2, ?_, b3, b4⟩
    exact (ev_loop (f := f + l.length + 70) a1).trans b1

theorem body_eq : body = .seq r0 (.seq r1 (.seq (.seq r2 (.block 0 (.loop cL))) (.seq r12 .ret))) := rfl
theorem r01_run (E : Env) (t : Tr Value) (s : S) (v : Value) (h0 : t.get 0 = some v) :
    ∃ t1 t2, (∀ f, ev E (f + 2) (.code r0 ⟨FN, t, 30, [], none⟩) s = some (.fr .normal ⟨FN, t1, 30, [], none⟩, s)) ∧ (∀ f, ev E (f + 2) (.code r1 ⟨FN, t1, 30, [], none⟩) s = some (.fr .normal ⟨FN, t2, 30, [], none⟩, s)) ∧
      t2.get 3 = some (.int .u32 (.ofNat 4294967295)) ∧ t2.get 0 = some v := by
  unfold r0 r1 body
  simp only [Tryd.f44, bodyOf, sub]
  simp (disch := decide) only [ev, evCode, evRegion, outFr, opsLoop, evOper, wantedA, aop, opt, val, AM.run, Fr.ev, Fr.put, onFr, gps, gpn, bltT, still, flat]
  refine ⟨_, _, fun f => rfl, fun f => rfl, ?_⟩
  simp (disch := decide) only [gps, gpn, h0, and_true, true_and]
  rfl
theorem r2_run {E : Env} (hE : Tys E) (a : Option Addr) (len cap : Nat) (t : Tr Value) (s : S) (h0 : t.get 0 = some (.slice a len cap)) :
    ∃ t3, (∀ f, ev E (f + 2) (.code r2 ⟨FN, t, 30, [], none⟩) s = some (.fr .normal ⟨FN, t3, 30, [], none⟩, s)) ∧
      t3.get 3 = t.get 3 ∧ t3.get 7 = some (.slice a len cap) ∧ t3.get 8 = some (.int .i64 (.ofNat len)) ∧ t3.get 9 = some (.int .i64 (.ofNat 0)) := by
  obtain ⟨isl, hsl, dsl⟩ := hE.sl
  unfold r2 body
  simp only [Tryd.f44, bodyOf, sub]
  simp (disch := decide) only [ev, evCode, evRegion, outFr, opsLoop, evOper, wantedA, aop, callA, builtinA, Fr.evs, opt, val, AM.run, Fr.ev, Fr.put, onFr, gps, gpn, bltT, h0, hsl, dsl, still, flat]
  refine ⟨_, fun f => rfl, ?_⟩
  simp (disch := decide) only [gps, gpn, h0, and_true, true_and]
  rfl
theorem start_run {E : Env} (hE : Tys E) (a : Option Addr) (len cap : Nat) (t : Tr Value) (s : S) (h0 : t.get 0 = some (.slice a len cap)) :
    ∃ t1 t2 t3, (∀ f, ev E (f + 2) (.code r0 ⟨FN, t, 30, [], none⟩) s = some (.fr .normal ⟨FN, t1, 30, [], none⟩, s)) ∧ (∀ f, ev E (f + 2) (.code r1 ⟨FN, t1, 30, [], none⟩) s = some (.fr .normal ⟨FN, t2, 30, [], none⟩, s)) ∧
      (∀ f, ev E (f + 2) (.code r2 ⟨FN, t2, 30, [], none⟩) s = some (.fr .normal ⟨FN, t3, 30, [], none⟩, s)) ∧
      t3.get 3 = some (.int .u32 (.ofNat 4294967295)) ∧ t3.get 7 = some (.slice a len cap) ∧ t3.get 8 = some (.int .i64 (.ofNat len)) ∧ t3.get 9 = some (.int .i64 (.ofNat 0)) := by
  obtain ⟨t1, t2, a1, a2, a3, a0⟩ := r01_run E t s _ h0
  obtain ⟨t3, b1, b3, b7, b8, b9⟩ := r2_run hE a len cap t2 s a0
  exact ⟨t1, t2, t3, a1, a2, b1, b3.trans a3, b7, b8, b9⟩
theorem end_run (E : Env) (r : Nat) (hr : r < 4294967296) (t : Tr Value) (s : S) (h3 : t.get 3 = some (.int .u32 (.ofNat r))) :
    ∃ t1, (∀ f, ev E (f + 2) (.code r12 ⟨FN, t, 30, [], none⟩) s = some (.fr .normal ⟨FN, t1, 30, [], none⟩, s)) ∧ t1.get 2 = some (.int .u32 (.ofNat (Nat.xor 4294967295 r))) := by
  have e : Nat.mod (Nat.xor 4294967295 (Nat.mod r 4294967296)) 4294967296 = Nat.xor 4294967295 r := by
    rw [show Nat.mod r 4294967296 = r from Nat.mod_eq_of_lt hr]
    exact Nat.mod_eq_of_lt (Nat.xor_lt_two_pow (n := 32) (by decide) hr)
  unfold r12 body
  simp only [Tryd.f44, bodyOf, sub]
  simp (disch := decide) only [ev, evCode, evRegion, outFr, opsLoop, evOper, wantedA, aop, opt, val, AM.run, Fr.ev, Fr.put, onFr, gps, gpn, bltT, h3, b_not, e, Nat.reduceEqDiff, reduceIte]
  refine ⟨_, fun f => rfl, ?_⟩
  simp (disch := decide) only [gps, gpn]

/-- the function, out of its loop -/
theorem sum_fn {E : Env} (hE : Tys E) (hfn : E.fn.get FN = some (FI.of Tryd.f44)) (a : Option Addr) (len cap R : Nat) (hR : R < 4294967296) (s s1 : S) (n : Nat)
    (hloop : ∀ t, t.get 3 = some (.int .u32 (.ofNat 4294967295)) → t.get 7 = some (.slice a len cap) → t.get 8 = some (.int .i64 (.ofNat len)) → t.get 9 = some (.int .i64 (.ofNat 0)) →
      ∃ t', ev E (n + 1) (.code (.loop cL) ⟨FN, t, 30, [], none⟩) s = some (.fr (.exit 0) ⟨FN, t', 30, [], none⟩, s1) ∧ t'.get 3 = some (.int .u32 (.ofNat R))) :
    ev E (n + 7) (.next (.enter FN [.slice a len cap])) s = some (.val (.int .u32 (.ofNat (Nat.xor 4294967295 R))), s1) := by
  have h0 : (Tr.ofList [Value.slice a len cap]).get 0 = some (.slice a len cap) := rfl
  obtain ⟨t1, t2, t3, a0, a1, a2, g3, g7, g8, g9⟩ := start_run hE a len cap _ s h0
  obtain ⟨t4, b, b3⟩ := hloop t3 g3 g7 g8 g9
  obtain ⟨t5, c, c2⟩ := end_run E R hR t4 s1 b3
  have hbody : ev E (n + 6) (.code body ⟨FN, Tr.ofList [.slice a len cap], 30, [], none⟩) s = some (.fr .ret ⟨FN, t5, 30, [], none⟩, s1) := by
    rw [body_eq]
    refine (ev_seq (f := n + 5) (a0 (n + 3))).trans ((ev_seq (f := n + 4) (a1 (n + 2))).trans ((ev_seq (f := n + 3) ((ev_seq (f := n + 2) (a2 n)).trans (ev_block_exit (f := n + 1) b))).trans ((ev_seq (f := n + 2) (c n)).trans ev_ret)))
  have hleave : ev E (n + 6) (.leave ⟨FN, t5, 30, [], none⟩) s1 = some (.val (.int .u32 (.ofNat (Nat.xor 4294967295 R))), s1) := by
    rw [ev_leave (f := n + 5)]
    simp only [evLeave, hfn]
    have hres : (FI.of Tryd.f44).results = [.tmp 2] := rfl
    simp only [resultsM, hres, resultsA, c2, opt, AM.run]
  rw [ev_next (f := n + 6)]
  have hb : (FI.of Tryd.f44).body = some body := by kernel_rfl
  have hn : (FI.of Tryd.f44).ntmps = 30 := rfl
  have hle : Nat.ble 30 lastName = true := by decide
  have hnn : Nat.add [Value.slice a len cap].length (Nat.sub 30 [Value.slice a len cap].length) = 30 := rfl
  simp only [evNext, hfn, hb, hn, evEnter, hnn]
  simp only [hle, hbody, hleave]

theorem loop_none (E : Env) (t : Tr Value) (s : S) (h8 : t.get 8 = some (.int .i64 (.ofNat 0))) (h9 : t.get 9 = some (.int .i64 (.ofNat 0))) :
    ev E 11 (.code (.loop cL) ⟨FN, t, 30, [], none⟩) s = some (.fr (.exit 0) ⟨FN, t.put 10 (some (.bool (ltI (.ofNat 0) (.ofNat 0)))), 30, [], none⟩, s) := by
  have a1 := r3_run E 7 0 0 t s h9 h8
  have hcond : Fr.ev ⟨FN, t.put 10 (some (.bool (ltI (.ofNat 0) (.ofNat 0)))), 30, [], none⟩ (.tmp 10) = some (.bool false) := by
    simp (disch := decide) only [Fr.ev, gps, gpn]
    rfl
  refine ev_loop_exit (f := 10) ?_
  rw [cL_eq]
  exact (ev_seq (f := 9) a1).trans (ev_seq_exit (f := 8) ((ev_cond_not (f := 7) hcond).trans ev_exit))

/-- **the summary is lawful** -/
theorem sum_ev {E : Env} (hE : Tys E) (hfn : E.fn.get FN = some (FI.of Tryd.f44)) {args : List Value} {s s' : S} {v : Value} (h : (crcA args).run s = some (v, s')) :
    ∃ F, ev E F (.next (.enter FN args)) s = some (.val v, s') := by
  unfold crcA at h
  split at h
  · rename_i a len cap
    split at h
    · simp only [AM.run, Option.some.injEq, Prod.mk.injEq] at h
      obtain ⟨rfl, rfl⟩ := h
      refine ⟨17, sum_fn hE hfn a 0 cap 4294967295 (by decide) s s 10 ?_⟩
      intro t h3 h7 h8 h9
      exact ⟨_, loop_none E t s h8 h9, by simp (disch := decide) only [gps, gpn, h3]⟩
    · rename_i n
      split at h
      · rename_i ad
        obtain ⟨hn, h1⟩ := run_when h
        have hn := blt_iff.1 hn
        obtain ⟨c, m, cs, hspot, hlt, ho, hm', hcs, h4⟩ := load_inv h1
        obtain ⟨R, hR, h5⟩ := run_opt h4
        simp only [AM.run, Option.some.injEq, Prod.mk.injEq] at h5
        obtain ⟨rfl, rfl⟩ := h5
        have hm' : ad.off + (n + 1) ≤ m := hm'
        obtain ⟨hl, hget⟩ := rdCells_get hcs
        cases cs with
        | nil => simp at hl
        | cons v l =>
          simp only [List.length_cons] at hl
          have hat : ∀ k x, (v :: l)[k]? = some (.int .u8 (.ofNat x)) → At s ad k x := by
            intro k x hk
            have hkl := (List.getElem?_eq_some_iff.1 hk).1
            simp only [List.length_cons] at hkl
            exact ⟨hspot, hlt, c, m, ho, by omega, hget k _ hk⟩
          have hR' : R < 4294967296 := by
            have : ∀ (l : List Value) (r R : Nat), r < 4294967296 → crcVals l r = some R → R < 4294967296 := by
              intro l
              induction l with
              | nil => intro r R hr h; simp only [crcVals, Option.some.injEq] at h; omega
              | cons v l ih =>
                intro r R hr h
                obtain ⟨x, rfl, hx, hc⟩ := crcVals_cons h
                rw [crcByte_eq] at hc
                exact ih _ _ (bits_lt 8 _ (xor_byte hr hx).2) hc
            exact this _ _ _ (by decide) hR
          refine ⟨_, sum_fn hE hfn (some ad) (n + 1) cap R hR' s (s.seen ad.block) (l.length + 70) ?_⟩
          intro t h3 h7 h8 h9
          obtain ⟨x, rfl, hx, hc⟩ := crcVals_cons hR
          rw [crcByte_eq] at hc
          obtain ⟨t1, a1, a3, a7, a8, a9⟩ := byteStep hE (l.length + 10) 4294967295 0 (n + 1) cap ad x (by decide) hx (by omega) (by omega) t s (hat 0 x rfl) h3 h7 h8 h9
          obtain ⟨t2, b1, b3, b4⟩ := byteLoop hE (n + 1) cap (by omega) ad (s.seen ad.block) (seen_seen s ad.block) l 0 _ 1 R t1 (by omega) (bits_lt 8 _ (xor_byte (by decide) hx).2)
            (fun k x h => (by have := hat (k + 1) x (by simpa using h); rw [Nat.add_comm 1 k]; exact this.of_seen _)) hc a3 a7 a8 a9
          refine ⟨t2, ?_, b3⟩
          rw [Nat.zero_add] at b1
          exact (ev_loop (f := l.length + 70) a1).trans b1
      · cases h
  · cases h

/-- the summaries that the laws are told by -/
noncomputable def sums : Sums := fun f => match Nat.beq f FN with
  | true => some crcA
  | false => none
theorem sums_ok : SumsOK (Env.of Tryd.prog) sums := by
  intro f am hf args s v s' h
  unfold sums at hf
  split at hf
  · rename_i hb
    have hb := beq_iff.1 hb
    subst hb
    cases hf
    refine sum_ev ⟨⟨TI.of Tryd.prog 51, by kernel_rfl, by kernel_rfl⟩, ⟨TI.of Tryd.prog 5, by kernel_rfl, by kernel_rfl, by kernel_rfl⟩, ⟨TI.of Tryd.prog 73, by kernel_rfl, by kernel_rfl⟩⟩ (by kernel_rfl) h
  · cases hf
#print axioms sums_ok
end Go.Proofs.YtgofanjbhbeniaaDoor.sum
end

section
/- Leaves: what the code that makes and reads them does, told shortly: numbers within bounds; bytes trimmed of noughts. -/
noncomputable section
namespace Go.Proofs.YtgofanjbhbeniaaDoor.lf
open AE
set_option linter.unusedSimpArgs false
set_option linter.unusedVariables false
set_option maxRecDepth 10000

noncomputable def E : Env := Env.of Tryd.prog
theorem hP : lawful Tryd.prog = true := by kernel_rfl
theorem hmix : Tryd.prog.follows .mixedOrders = true := Checked.mixed Tryd.checked
theorem hE : EnvOK Tryd.prog E := env_ok hP

noncomputable def tiB : TI := TI.of Tryd.prog 51
theorem tyB : E.ty.get 51 = some tiB := by kernel_rfl
theorem dsB : tiB.desc = .slice 5 := by kernel_rfl
noncomputable def tiU8 : TI := TI.of Tryd.prog 5
theorem tyU8 : E.ty.get 5 = some tiU8 := by kernel_rfl
theorem szU8 : tiU8.size = 1 := by kernel_rfl
theorem dsU8 : tiU8.desc = .int .u8 := by kernel_rfl
noncomputable def tiI : TI := TI.of Tryd.prog 3
theorem tyI : E.ty.get 3 = some tiI := by kernel_rfl
theorem szI : tiI.size = 1 := by kernel_rfl
theorem dsI : tiI.desc = .int .i64 := by kernel_rfl
theorem zeI : tiI.zero = some (.int .i64 0) := by kernel_rfl
noncomputable def tiBo : TI := TI.of Tryd.prog 4
theorem tyBo : E.ty.get 4 = some tiBo := by kernel_rfl
theorem szBo : tiBo.size = 1 := by kernel_rfl
theorem dsBo : tiBo.desc = .bool := by kernel_rfl
theorem seen_heap (s : S) (n : Nat) : (s.seen n).heap = s.heap := rfl
theorem seen_next (s : S) (n : Nat) : (s.seen n).next = s.next := rfl
theorem seen_mark (s : S) (n : Nat) : (s.seen n).mark = s.mark := rfl
theorem agg_cells (cs : List Value) : (Value.agg ⟨cs⟩).cells.toList = cs := rfl
theorem int_cells (k : IntKind) (n : Int) : (Value.int k n).cells.toList = [.int k n] := rfl

/-! rules for numbers -/
theorem b_geq {E t} (x y : Int) : binA E .geq t (.int .i64 x) (.int .i64 y) = some (.bool (not (ltI x y))) := rfl
theorem b_leq {E t} (x y : Int) : binA E .leq t (.int .i64 x) (.int .i64 y) = some (.bool (not (ltI y x))) := rfl
theorem b_gtr {E t} (x y : Int) : binA E .gtr t (.int .i64 x) (.int .i64 y) = some (.bool (ltI y x)) := rfl
theorem b_sub {E t} (x y : Int) : binA E .sub t (.int .i64 x) (.int .i64 y) = some (.int .i64 (wrapA .i64 (Int.sub x y))) := rfl
theorem b_eql {E t} (x y : Int) : binA E .eql t (.int .i64 x) (.int .i64 y) = some (.bool (eqI x y)) := rfl
theorem u_not (b : Bool) : unA .not (.bool b) = some (.bool (not b)) := rfl

/-! within -/
def withinA : List Value → AM Value
  | [.int .i64 n, .int .i64 lo, .int .i64 hi] => .pure (.bool (not (ltI n lo) && not (ltI hi n)))
  | _ => .fail
/-! bytes that lie in memory -/
structure Bs (s : S) (ad : Addr) (l : List UInt8) : Prop where
  spot : ad.spot = none
  lt : ad.block < s.next
  cell : ∃ c m, Has s ad.block c m ∧ ad.off + l.length ≤ m ∧ Row c ad.off (l.map bv)
theorem Bs.rd {s s' : S} {ad : Addr} {l : List UInt8} (h : Bs s ad l) (hr : Rd s s') : Bs s' ad l := ⟨h.spot, by rw [hr.next]; exact h.lt, by obtain ⟨c, m, h1, h2⟩ := h.cell; exact ⟨c, m, h1.of (by rw [hr.heap]), h2⟩⟩
theorem Bs.at {s : S} {ad : Addr} {l : List UInt8} (h : Bs s ad l) {k : Nat} {x : UInt8} (hk : l[k]? = some x) : sum.At s ad k x.toNat := by
  obtain ⟨c, m, h1, h2, h3⟩ := h.cell
  have hlt := (List.getElem?_eq_some_iff.1 hk).1
  exact ⟨h.spot, h.lt, c, m, h1, by omega, h3 k (bv x) (by rw [List.getElem?_map, hk]; rfl)⟩
theorem bs_of_load {β : Type} {ad : Addr} {n : Nat} {k : List UInt8 → AM β} {s : S} {r : β × S} (h : (loadA ad n fun cs => opt (bytesV cs) k).run s = some r) : ∃ l, l.length = n ∧ Bs s ad l ∧ (k l).run (s.seen ad.block) = some r := by
  obtain ⟨c, m, cs, h1, h2, h3, h4, h5, h6⟩ := load_inv h
  obtain ⟨l, hl, h7⟩ := run_opt h6
  obtain ⟨e1, e2⟩ := row_of_rd h5
  have := bytesV_inv hl
  subst this
  have hln : l.length = n := by simpa using e1
  exact ⟨l, hln, ⟨h1, h2, c, m, h3, by rw [hln]; exact h4, e2⟩, h7⟩

theorem ble_f {a b : Nat} (h : b < a) : Nat.ble a b = false := by
  cases hh : Nat.ble a b with
  | false => rfl
  | true => exact absurd (ble_iff.1 hh) (by omega)
theorem eqI_f {a b : Nat} (h : a ≠ b) : eqI (Int.ofNat a) (Int.ofNat b) = false := by rw [eqI_eq]; exact decide_eq_false (fun e => h (Int.ofNat.inj e))
theorem eqI_t (a : Nat) : eqI (Int.ofNat a) (Int.ofNat a) = true := by rw [eqI_eq]; simp

/-! noughts ahead -/
def lead : List UInt8 → Nat
  | [] => 0
  | x :: l => if x = 0 then lead l + 1 else 0
theorem int0 : (0 : Int) = Int.ofNat 0 := rfl
theorem int1 : (1 : Int) = Int.ofNat 1 := rfl

/-! noughts behind -/
end Go.Proofs.YtgofanjbhbeniaaDoor.lf
end
end

section
/- Leaves: what the code that makes and reads them does, told shortly: a cut set of one byte; whether a leaf may be. -/
noncomputable section
namespace Go.Proofs.YtgofanjbhbeniaaDoor.lf
open AE
set_option linter.unusedSimpArgs false
set_option linter.unusedVariables false
set_option maxRecDepth 10000

/-! drawn orders of reads -/
theorem clash_reads (rd b i r : Nat) (seen : List (Nat × Nat × Nat)) : clash rd 0 b (keepLog i r 0 seen) = clash rd 0 b seen := by
  unfold keepLog
  split
  · rfl
  · show (match Nat.beq (Nat.lor (Nat.land 0 (Nat.lor rd 0)) (Nat.land r 0)) 0 with | true => clash rd 0 b seen | false => _) = _
    have h1 : Nat.land 0 (Nat.lor rd 0) = 0 := Nat.zero_and _
    have h2 : Nat.land r 0 = 0 := Nat.and_zero _
    rw [h1, h2]
theorem created_self (n : Nat) : created n n = 0 := by
  unfold created
  rw [beq_iff.2 rfl]
theorem clash_nil (rd wr b : Nat) : clash rd wr b [] = false := rfl
theorem keep_none (i : Nat) (seen : List (Nat × Nat × Nat)) : keepLog i 0 0 seen = seen := rfl
theorem lor_zero (n : Nat) : Nat.lor 0 n = n := Nat.zero_or _
theorem lor_zero' (n : Nat) : Nat.lor n 0 = n := Nat.or_zero _

def Z : ByteArray := ⟨⟨[0]⟩⟩
theorem tgt {f : FuncId} {fi : FI} {c : Code} (hf : E.fn.get f = some fi) (hb : fi.body = some c) : ∀ a b, targetA E (.func f) a b = .pure (.enter f (b ++ a)) := by
  intro a b
  simp only [targetA, hf, opt, hb]
theorem Bs.load {s : S} {ad : Addr} {l : List UInt8} (h : Bs s ad l) {β : Type} (k : List UInt8 → AM β) : (loadA ad l.length fun cs => opt (bytesV cs) k).run s = (k l).run (s.seen ad.block) := by
  obtain ⟨c, m, h1, h2, h3⟩ := h.cell
  have h4 := rd_row h3
  rw [List.length_map] at h4
  unfold loadA
  rw [h.spot]
  rcases h1 with ⟨e, rm, h1⟩ | ⟨e, h1⟩
  all_goals
    simp only [AM.run, blt_iff.2 h.lt, h1, when, ble_iff.2 h2, show Nat.ble (Nat.add ad.off l.length) m = true from ble_iff.2 h2, opt, h4, bytesV_map]
    rfl
theorem Bs.take {s : S} {ad : Addr} {l : List UInt8} (h : Bs s ad l) (n : Nat) : Bs s ad (l.take n) := by
  obtain ⟨c, m, h1, h2, h3⟩ := h.cell
  refine ⟨h.spot, h.lt, c, m, h1, by rw [List.length_take]; omega, ?_⟩
  have := h3.sub 0 n
  simpa using this
theorem Bs.of {s s' : S} {ad : Addr} {l : List UInt8} (h : Bs s ad l) (hh : s'.heap = s.heap) (hn : s'.next = s.next) : Bs s' ad l := ⟨h.spot, by rw [hn]; exact h.lt, by obtain ⟨c, m, h1, h2⟩ := h.cell; exact ⟨c, m, h1.of (by rw [hh]), h2⟩⟩
end Go.Proofs.YtgofanjbhbeniaaDoor.lf
end
end

section
/- Leaves: whether a leaf may be. -/
noncomputable section
namespace Go.Proofs.YtgofanjbhbeniaaDoor.lf
open AE
set_option linter.unusedSimpArgs false
set_option linter.unusedVariables false
set_option maxRecDepth 10000

/-- a leaf, as plain data -/
structure LeafD where
  kind : Int
  file : Int
  place : Int
  next : Int
  size : Int
  load : List UInt8
def LeafD.cells (d : LeafD) : List Value := [.int .i64 d.kind, .int .i64 d.file, .int .i64 d.place, .int .i64 d.next, .int .i64 d.size] ++ d.load.map bv
def LeafD.val (d : LeafD) : Value := .agg ⟨d.cells⟩
theorem LeafD.len (d : LeafD) (h : d.load.length = 116) : d.cells.length = 121 := by simp [LeafD.cells, h]

def wi (n lo hi : Int) : Bool := not (ltI n lo) && not (ltI hi n)
theorem wi_iff {n lo hi : Int} : wi n lo hi = true ↔ lo ≤ n ∧ n ≤ hi := by
  unfold wi
  rw [ltI_not, ltI_not]
  simp
def noughts (l : List UInt8) : Bool := Nat.beq (lead l) l.length
/-- may it be? -/
def rightL (d : LeafD) : Bool := wi d.file 0 65535 && wi d.place 0 65535 && wi d.next 0 65535 && wi d.kind 1 2 && wi d.size 0 116 && noughts (d.load.drop d.size.toNat)
/-! a cell is read -/
theorem cell_load {s : S} {b off : Nat} {v : Value} {c : Tr Value} {m : Nat} {e : TypeId} {rm : Room} (i : TI) (hi : isAggD i.desc = false) (hlt : b < s.next) (hg : s.heap.get b = some (.cells c m e rm)) (hm : off + 1 ≤ m) (hc : c.get off = some v) :
    (loadT i ⟨b, off, none⟩ AE.val).run s = some (.value v, s.seen b) := by
  unfold loadT loadA
  rw [hi]
  simp only [AM.run, blt_iff.2 hlt, hg, when, show Nat.ble (Nat.add off 1) m = true from ble_iff.2 hm, rdCells, show Nat.add off 0 = off from rfl, hc, opt, AE.val]
  rfl

theorem has_load {s : S} {b off : Nat} {v : Value} {c : Tr Value} {m : Nat} (i : TI) (hi : isAggD i.desc = false) (hlt : b < s.next) (hg : Has s b c m) (hm : off + 1 ≤ m) (hc : c.get off = some v) :
    (loadT i ⟨b, off, none⟩ AE.val).run s = some (.value v, s.seen b) := by
  unfold loadT loadA
  rw [hi]
  rcases hg with ⟨e, rm, hg⟩ | ⟨e, hg⟩
  all_goals
    simp only [AM.run, blt_iff.2 hlt, hg, when, show Nat.ble (Nat.add off 1) m = true from ble_iff.2 hm, rdCells, show Nat.add off 0 = off from rfl, hc, opt, AE.val]
    rfl
noncomputable def tiLf : TI := TI.of Tryd.prog 30
theorem szLf : tiLf.size = 121 := by kernel_rfl
noncomputable def fsLf : Array Field := match tiLf.desc with | .struct fs => fs | _ => #[]
theorem dsLf : tiLf.desc = .struct fsLf := by kernel_rfl
theorem ble11 : Nat.ble 1 1 = true := rfl
theorem ad0 (n : Nat) : addA ⟨n, 0, none⟩ 0 = ⟨n, 0, none⟩ := rfl
theorem ad1 (n : Nat) : addA ⟨n, 0, none⟩ 1 = ⟨n, 1, none⟩ := rfl
theorem ad2 (n : Nat) : addA ⟨n, 0, none⟩ 2 = ⟨n, 2, none⟩ := rfl
theorem ad3' (n : Nat) : addA ⟨n, 0, none⟩ 3 = ⟨n, 3, none⟩ := rfl
/-- the leaf d lies in the block n, whole -/
structure LfAt (s : S) (n : Nat) (d : LeafD) : Prop where
  lt : n < s.next
  cell : ∃ c e rm, s.heap.get n = some (.cells c 121 e rm) ∧ Row c 0 d.cells
  len : d.load.length = 116
theorem LfAt.rd {s s' : S} {n : Nat} {d : LeafD} (h : LfAt s n d) (hr : Rd s s') : LfAt s' n d := ⟨by rw [hr.next]; exact h.lt, by rw [hr.heap]; exact h.cell, h.len⟩
theorem LfAt.get {s : S} {n : Nat} {d : LeafD} (h : LfAt s n d) (k : Nat) (v : Value) (hk : d.cells[k]? = some v) : (loadT tiI ⟨n, k, none⟩ AE.val).run s = some (.value v, s.seen n) := by
  obtain ⟨c, e, rm, h1, h2⟩ := h.cell
  have hlt := (List.getElem?_eq_some_iff.1 hk).1
  rw [d.len h.len] at hlt
  exact cell_load tiI (by rw [dsI]; rfl) h.lt h1 (by omega) (by have := h2 k v hk; rwa [Nat.zero_add] at this)
theorem LfAt.bs {s : S} {n : Nat} {d : LeafD} (h : LfAt s n d) (k : Nat) (hk : k ≤ 116) : Bs s ⟨n, 5 + k, none⟩ (d.load.drop k) := by
  obtain ⟨c, e, rm, h1, h2⟩ := h.cell
  refine ⟨rfl, h.lt, c, 121, .inl ⟨e, rm, h1⟩, by simp [h.len]; omega, ?_⟩
  intro j v hj
  have h3 : d.cells[5 + k + j]? = some v := by
    unfold LeafD.cells
    rw [List.getElem?_append_right (by simp; omega)]
    rw [List.map_drop, List.getElem?_drop] at hj
    simpa [show 5 + k + j - 5 = k + j by omega] using hj
  have := h2 _ _ h3
  simpa using this
end Go.Proofs.YtgofanjbhbeniaaDoor.lf
end
end

section
/- Leaves: whether a leaf may be: the walk. -/
noncomputable section
namespace Go.Proofs.YtgofanjbhbeniaaDoor.lf
open AE
set_option linter.unusedSimpArgs false
set_option linter.unusedVariables false
set_option maxRecDepth 10000

theorem mul1 (i : Nat) : Nat.mul i 1 = i := Nat.mul_one i
theorem b_incr {n : Nat} (h : n < 9223372036854775807) : ∀ E t, binA E .add t (.int .i64 (.ofNat n)) (.int .i64 (.ofNat 1)) = some (.int .i64 (.ofNat (n + 1))) := fun E t => b_inc h

def three (d : LeafD) : List Int := [d.file, d.place, d.next]
structure R3 (s : S) (n : Nat) (d : LeafD) : Prop where
  lf : LfAt s n d
  lt : n + 1 < s.next
  cell : ∃ c e rm, s.heap.get (n + 1) = some (.cells c 3 e rm) ∧ Row c 0 [.int .i64 d.file, .int .i64 d.place, .int .i64 d.next]
theorem R3.rd {s s' : S} {n : Nat} {d : LeafD} (h : R3 s n d) (hr : Rd s s') : R3 s' n d := ⟨h.lf.rd hr, by rw [hr.next]; exact h.lt, by rw [hr.heap]; exact h.cell⟩
theorem R3.get {s : S} {n : Nat} {d : LeafD} (h : R3 s n d) (k : Nat) (x : Int) (hk : (three d)[k]? = some x) : (loadT tiI ⟨n + 1, k, none⟩ AE.val).run s = some (.value (.int .i64 x), s.seen (n + 1)) := by
  obtain ⟨c, e, rm, h1, h2⟩ := h.cell
  have hlt : k < 3 := (List.getElem?_eq_some_iff.1 hk).1
  refine cell_load tiI (by rw [dsI]; rfl) h.lt h1 (by omega) ?_
  have h3 : [Value.int .i64 d.file, .int .i64 d.place, .int .i64 d.next][k]? = some (.int .i64 x) := by
    match k, hlt with
    | 0, _ => simpa [three] using hk
    | 1, _ => simpa [three] using hk
    | 2, _ => simpa [three] using hk
  have := h2 k _ h3
  rwa [Nat.zero_add] at this

/-! names that are taken and let go -/
theorem bump_run {α : Type} : ∀ (n : Nat) (k : AM α) (s : S) (r : α × S), (bump n k).run s = some r → ∃ s1, k.run s1 = some r ∧ s1.next = s.next + n ∧ s1.mark = s.mark ∧ (∀ m, s1.heap.get m = if s.next ≤ m ∧ m < s.next + n then none else s.heap.get m) ∧ (∀ i, i < n → Nat.ble (s.next + i) lastName = true)
  | 0, k, s, r, h => ⟨s, h, rfl, rfl, fun m => by rw [if_neg (by omega)], fun i hi => by omega⟩
  | n + 1, k, s, r, h => by
    obtain ⟨h1, h2⟩ := run_new h
    have hb : Nat.ble s.next lastName = true := by
      simp only [bump, AM.run, force_eq] at h
      cases hh : Nat.ble s.next lastName with
      | true => rfl
      | false => rw [hh] at h; cases h
    obtain ⟨_, _, h3⟩ := run_del h2
    obtain ⟨s1, e1, e2, e3, e4, e5⟩ := bump_run n k _ r h3
    refine ⟨s1, e1, by rw [e2]; show s.next + 1 + n = _; omega, by rw [e3]; rfl, ?_, ?_⟩
    · intro m
      rw [e4 m]
      show (if s.next + 1 ≤ m ∧ m < s.next + 1 + n then none else ((s.heap.put s.next (some (.deferred none))).put s.next none).get m) = _
      rw [Tr.get_put _ _ _ _ h1, Tr.get_put _ _ _ _ h1]
      by_cases hm : m = s.next
      · rw [if_neg (by omega), if_pos hm, if_pos (by omega)]
      · rw [if_neg hm, if_neg hm]
        by_cases h5 : s.next + 1 ≤ m ∧ m < s.next + 1 + n
        · rw [if_pos h5, if_pos (by omega)]
        · rw [if_neg h5, if_neg (by omega)]
    · intro i hi
      cases i with
      | zero => exact hb
      | succ i =>
        have h6 := e5 i (by omega)
        have h7 : (S.turn (s.grow (.deferred none)) s.next none).next + i = s.next + (i + 1) := by show s.next + 1 + i = _; omega
        rw [h7] at h6
        exact h6
theorem hg_same {α : Type} {n : Nat} (h : Nat.ble n lastName = true) (t : Tr α) (x : Option α) : (t.put n x).get n = x := by
  have := ble_iff.1 h
  rw [Tr.get_put _ _ _ _ (by unfold lastName at this; unfold Tr.wide; omega), if_pos rfl]
theorem hg_far {α : Type} {n m : Nat} (h : Nat.ble n lastName = true) (hne : m ≠ n) (t : Tr α) (x : Option α) : (t.put n x).get m = t.get m := by
  have := ble_iff.1 h
  rw [Tr.get_put _ _ _ _ (by unfold lastName at this; unfold Tr.wide; omega), if_neg hne]

/-! all noughts, or not -/
end Go.Proofs.YtgofanjbhbeniaaDoor.lf
end
end

section
/- Leaves: whether a leaf may be: told. -/
noncomputable section
namespace Go.Proofs.YtgofanjbhbeniaaDoor.lf
open AE
set_option linter.unusedSimpArgs false
set_option linter.unusedVariables false
set_option maxRecDepth 10000

theorem less_new {s s1 s2 : S} {n : Nat} (h1 : s1.next ≤ s2.next) (h2 : s2.next = s.next + n) (hh : ∀ m, s2.heap.get m = if s.next ≤ m ∧ m < s.next + n then none else s.heap.get m) (hf : ∀ m, ¬ (s.next ≤ m ∧ m < s.next + n) → s1.heap.get m = s.heap.get m) : Less' s1 s2 := by
  refine ⟨h1, fun m o e => ?_⟩
  rw [hh] at e
  split at e
  · cases e
  · rename_i hm
    exact ⟨o, (hf m hm).trans e, .refl o⟩

end Go.Proofs.YtgofanjbhbeniaaDoor.lf
end
end

section
/- Leaves: rules for parts of a region; bytes that are put behind others; the sum of bytes as a list has it; bytes closed with their sum. -/
noncomputable section
namespace Go.Proofs.YtgofanjbhbeniaaDoor.lf
open AE
set_option linter.unusedSimpArgs false
set_option linter.unusedVariables false
set_option maxRecDepth 10000

/-! a region in parts -/
def GoO (σ : Sums) (all l : List Oper) (fr : Fr) (s : S) (Q : Fr → S → Prop) : Prop := ∃ fr' s', Q fr' s' ∧ ∀ m, opsLoop (evT E σ (m + 1)) E all l fr s = some (fr', s')
theorem go_ops {σ : Sums} {id : Nat} {ops : Array Oper} {fr : Fr} {s : S} {Q : Ex → Fr → S → Prop} (h : GoO σ ops.toList ops.toList fr s (fun fr s => Q .normal fr s)) : GoC E σ (.region id ops false) fr s Q := by
  obtain ⟨fr', s', hq, h⟩ := h
  exact go_region h hq
theorem opsLoop_app {rc : Rec} {all : List Oper} : ∀ (a b : List Oper) (fr : Fr) (s : S), opsLoop rc E all (a ++ b) fr s = match opsLoop rc E all a fr s with | some (fr, s) => opsLoop rc E all b fr s | none => none
  | [], b, fr, s => rfl
  | o :: a, b, fr, s => by
    simp only [List.cons_append, opsLoop]
    cases evOper rc E false all o fr s with
    | none => rfl
    | some p => exact opsLoop_app a b p.1 p.2
theorem go_take {σ : Sums} {all l : List Oper} {fr fr1 : Fr} {s s1 : S} {Q : Fr → S → Prop} (n : Nat) (h : ∀ m, opsLoop (evT E σ (m + 1)) E all (l.take n) fr s = some (fr1, s1)) (hq : GoO σ all (l.drop n) fr1 s1 Q) : GoO σ all l fr s Q := by
  obtain ⟨fr', s', hq, h2⟩ := hq
  refine ⟨fr', s', hq, fun m => ?_⟩
  have e : l = l.take n ++ l.drop n := (List.take_append_drop n l).symm
  rw [e, opsLoop_app, h m]
  exact h2 m
theorem go_done {σ : Sums} {all : List Oper} {fr : Fr} {s : S} {Q : Fr → S → Prop} (h : Q fr s) : GoO σ all [] fr s Q := ⟨fr, s, h, fun _ => rfl⟩

/-! bytes behind others -/
theorem storeA_run {β : Type} {s : S} {N o m : Nat} {vs : List Value} {c : Tr Value} {e : TypeId} {rm : Room} (k : AM β) (h1 : allOne vs = true) (hlt : N < s.next) (hN : Nat.ble N lastName = true) (hg : s.heap.get N = some (.cells c m e rm)) (ho : o + vs.length ≤ m) (hm : m ≤ 1000000000) :
    (storeA ⟨N, o, none⟩ vs k).run s = k.run ((s.seen N).turn N (some (.cells (wrCells c o vs) m e rm))) := by
  have h6 : Nat.ble m lastName = true := ble_iff.2 (by unfold lastName; omega)
  unfold storeA
  simp only [h1, when, AM.run, blt_iff.2 hlt, hg, show Nat.ble (Nat.add o vs.length) m = true from ble_iff.2 ho, h6, hN, Bool.and_self]
  rfl
/-! the sum, over lists -/
def crcR : List UInt8 → Nat → Nat
  | [], r => r
  | x :: l, r => crcR l (crcByte r x.toNat)
def crc32 (l : List UInt8) : Nat := Nat.xor 4294967295 (crcR l 4294967295)
end Go.Proofs.YtgofanjbhbeniaaDoor.lf
end
end

section
/- Leaves: bytes closed with their sum: told. -/
noncomputable section
namespace Go.Proofs.YtgofanjbhbeniaaDoor.lf
open AE
set_option linter.unusedSimpArgs false
set_option linter.unusedVariables false
set_option maxRecDepth 10000

def sum4 (c : Nat) : List UInt8 := [UInt8.ofNat c, UInt8.ofNat (c >>> 8), UInt8.ofNat (c >>> 16), UInt8.ofNat (c >>> 24)]
def closeL (l : List UInt8) : List UInt8 := l ++ sum4 (crc32 l)
theorem Bs.keep {s s1 : S} {ad : Addr} {l : List UInt8} (h : Bs s ad l) (hn : s.next ≤ s1.next) (hg : s1.heap.get ad.block = s.heap.get ad.block) : Bs s1 ad l :=
  ⟨h.spot, by have := h.lt; omega, by obtain ⟨c, m, h1, h2⟩ := h.cell; exact ⟨c, m, h1.of hg, h2⟩⟩
end Go.Proofs.YtgofanjbhbeniaaDoor.lf
end
end

section
/- Leaves: a leaf as a block's bytes: the parts of its walk. -/
noncomputable section
namespace Go.Proofs.YtgofanjbhbeniaaDoor.lf
open AE
set_option linter.unusedSimpArgs false
set_option linter.unusedVariables false
set_option maxRecDepth 10000

theorem bump_ok {α : Type} : ∀ (n : Nat) (k : AM α) (s : S), (∀ i, i < n → Nat.ble (s.next + i) lastName = true) → ∃ s1, (bump n k).run s = k.run s1 ∧ s1.next = s.next + n ∧ s1.mark = s.mark ∧ ∀ m, s1.heap.get m = if s.next ≤ m ∧ m < s.next + n then none else s.heap.get m
  | 0, k, s, h => ⟨s, rfl, rfl, rfl, fun m => by rw [if_neg (by omega)]⟩
  | n + 1, k, s, h => by
    have h0 : Nat.ble s.next lastName = true := h 0 (by omega)
    have h7 : ∀ i, (S.turn (s.grow (.deferred none)) s.next none).next + i = s.next + (i + 1) := fun i => by show s.next + 1 + i = _; omega
    obtain ⟨s1, e1, e2, e3, e4⟩ := bump_ok n k (S.turn (s.grow (.deferred none)) s.next none) (fun i hi => by rw [h7]; exact h (i + 1) (by omega))
    refine ⟨s1, ?_, by rw [e2]; show s.next + 1 + n = _; omega, by rw [e3]; rfl, ?_⟩
    · rw [← e1]
      have hb : Nat.blt s.next (Nat.succ s.next) = true := blt_iff.2 (Nat.lt_succ_self _)
      have hg := hg_same h0 s.heap (some (AObj.deferred none))
      simp only [bump, AM.run, force_eq, h0, hb, Bool.and_self, hg]
      rfl
    · intro m
      rw [e4 m]
      show (if s.next + 1 ≤ m ∧ m < s.next + 1 + n then none else ((s.heap.put s.next (some (.deferred none))).put s.next none).get m) = _
      by_cases hm : m = s.next
      · subst hm
        rw [if_neg (by omega), hg_same h0, if_pos (by omega)]
      · rw [hg_far h0 hm, hg_far h0 hm]
        by_cases h5 : s.next + 1 ≤ m ∧ m < s.next + 1 + n
        · rw [if_pos h5, if_pos (by omega)]
        · rw [if_neg h5, if_neg (by omega)]
theorem LfAt.load {s : S} {n : Nat} {d : LeafD} (h : LfAt s n d) : (loadT tiLf ⟨n, 0, none⟩ AE.val).run s = some (.value (.agg ⟨d.cells⟩), s.seen n) := by
  obtain ⟨c, e, rm, h1, h2⟩ := h.cell
  have h4 := rd_row h2
  rw [d.len h.len] at h4
  unfold loadT loadA
  rw [dsLf, szLf]
  simp only [isAggD, AM.run, blt_iff.2 h.lt, h1, when, show Nat.ble (Nat.add 0 121) 121 = true from rfl, opt, h4]
  rfl

def two (x : Int) : List UInt8 := [UInt8.ofNat x.toNat, UInt8.ofNat (x.toNat >>> 8)]
def pre (d : LeafD) : Nat → List UInt8
  | 0 => []
  | i + 1 => pre d i ++ two ((three d).getD i 0)
def putL (d : LeafD) : List UInt8 := closeL ((d.load ++ pre d 3) ++ [UInt8.ofNat d.size.toNat, UInt8.ofNat d.kind.toNat])
/-- the memory in the loop -/
structure PutAt (n : Nat) (d : LeafD) (s0 s : S) (i : Nat) : Prop where
  next : s.next = n + 5 + i
  lf : LfAt s n d
  ints : ∃ c e rm, s.heap.get (n + 4) = some (.cells c 3 e rm) ∧ Row c 0 [.int .i64 d.file, .int .i64 d.place, .int .i64 d.next]
  buf : ∃ c e rm, s.heap.get (n + 3) = some (.cells c 124 e rm) ∧ Row c 0 ((d.load ++ pre d i).map bv)
  old : ∀ m, (m < n ∨ n + 11 ≤ m) → s.heap.get m = s0.heap.get m
theorem PutAt.rd {n : Nat} {d : LeafD} {s0 s s' : S} {i : Nat} (h : PutAt n d s0 s i) (hr : Rd s s') : PutAt n d s0 s' i :=
  ⟨by rw [hr.next]; exact h.next, h.lf.rd hr, by rw [hr.heap]; exact h.ints, by rw [hr.heap]; exact h.buf, fun m hm => by rw [hr.heap]; exact h.old m hm⟩
theorem PutAt.get {n : Nat} {d : LeafD} {s0 s : S} {i : Nat} (h : PutAt n d s0 s i) (k : Nat) (x : Int) (hk : (three d)[k]? = some x) : (loadT tiI ⟨n + 4, k, none⟩ AE.val).run s = some (.value (.int .i64 x), s.seen (n + 4)) := by
  obtain ⟨c, e, rm, h1, h2⟩ := h.ints
  have hlt : k < 3 := (List.getElem?_eq_some_iff.1 hk).1
  refine cell_load tiI (by rw [dsI]; rfl) (by rw [h.next]; omega) h1 (by omega) ?_
  have h3 : [Value.int .i64 d.file, .int .i64 d.place, .int .i64 d.next][k]? = some (.int .i64 x) := by
    match k, hlt with
    | 0, _ => simpa [three] using hk
    | 1, _ => simpa [three] using hk
    | 2, _ => simpa [three] using hk
  have := h2 k _ h3
  rwa [Nat.zero_add] at this
end Go.Proofs.YtgofanjbhbeniaaDoor.lf
end
end

section
/- Leaves: a leaf as a block's bytes: told. -/
noncomputable section
namespace Go.Proofs.YtgofanjbhbeniaaDoor.lf
open AE
set_option linter.unusedSimpArgs false
set_option linter.unusedVariables false
set_option maxRecDepth 10000

end Go.Proofs.YtgofanjbhbeniaaDoor.lf
end
end

section
/- Leaves: a leaf as a block's bytes: told, whole. -/
noncomputable section
namespace Go.Proofs.YtgofanjbhbeniaaDoor.lf
open AE
set_option linter.unusedSimpArgs false
set_option linter.unusedVariables false
set_option maxRecDepth 10000

theorem rightL_inv {d : LeafD} (h : rightL d = true) : (∀ (j : Nat) (x : Int), (three d)[j]? = some x → 0 ≤ x ∧ x ≤ 65535) ∧ (1 ≤ d.kind ∧ d.kind ≤ 2) ∧ (0 ≤ d.size ∧ d.size ≤ 116) := by
  unfold rightL at h
  simp only [Bool.and_eq_true] at h
  obtain ⟨⟨⟨⟨⟨h1, h2⟩, h3⟩, h4⟩, h5⟩, _⟩ := h
  refine ⟨?_, wi_iff.1 h4, wi_iff.1 h5⟩
  intro j x hj
  have hlt : j < 3 := (List.getElem?_eq_some_iff.1 hj).1
  match j, hlt with
  | 0, _ => simp [three] at hj; subst hj; exact wi_iff.1 h1
  | 1, _ => simp [three] at hj; subst hj; exact wi_iff.1 h2
  | 2, _ => simp [three] at hj; subst hj; exact wi_iff.1 h3

end Go.Proofs.YtgofanjbhbeniaaDoor.lf
end
end

section
/- Leaves: bytes that are the same; a number of two bytes. -/
noncomputable section
namespace Go.Proofs.YtgofanjbhbeniaaDoor.lf
open AE
set_option linter.unusedSimpArgs false
set_option linter.unusedVariables false
set_option maxRecDepth 10000

theorem eqBytes_iff : ∀ a b : List UInt8, eqBytes a b = decide (a = b)
  | [], [] => by simp [eqBytes]
  | [], _ :: _ => by simp [eqBytes]
  | _ :: _, [] => by simp [eqBytes]
  | x :: a, y :: b => by
    simp only [eqBytes]
    cases h : Nat.beq x.toNat y.toNat with
    | true =>
      have : x = y := UInt8.toNat_inj.1 (beq_iff.1 h)
      subst this
      simp only [eqBytes_iff a b]
      simp
    | false =>
      have : x ≠ y := fun e => by subst e; rw [beq_iff.2 rfl] at h; cases h
      simp [this]

/-! a number of two bytes, in a slice that a variable holds -/
def num2 (x y : UInt8) : Int := wrapA .i64 (.ofNat (Nat.lor (x.toNat % 18446744073709551616) (y.toNat * 256 % 18446744073709551616)))
/-- the variable p holds the slice v -/
structure Holds (s : S) (p : Nat) (v : Value) : Prop where
  lt : p < s.next
  cell : ∃ c m, Has s p c m ∧ 1 ≤ m ∧ c.get 0 = some v
theorem Holds.load {s : S} {p : Nat} {v : Value} (h : Holds s p v) : (loadT tiB ⟨p, 0, none⟩ AE.val).run s = some (.value v, s.seen p) := by
  obtain ⟨c, m, h1, h2, h3⟩ := h.cell
  exact has_load tiB (by rw [dsB]; rfl) h.lt h1 h2 h3
theorem Holds.rd {s s' : S} {p : Nat} {v : Value} (h : Holds s p v) (hr : Rd s s') : Holds s' p v := ⟨by rw [hr.next]; exact h.lt, by obtain ⟨c, m, h1, h2⟩ := h.cell; exact ⟨c, m, h1.of (by rw [hr.heap]), h2⟩⟩
theorem Holds.keep {s s' : S} {p : Nat} {v : Value} (h : Holds s p v) (hn : s.next ≤ s'.next) (hg : s'.heap.get p = s.heap.get p) : Holds s' p v := ⟨by have := h.lt; omega, by obtain ⟨c, m, h1, h2⟩ := h.cell; exact ⟨c, m, h1.of hg, h2⟩⟩
def twoA : List Value → AM Value
  | [.int .i64 (.ofNat k), .pointer (some ⟨p, 0, none⟩)] => loadT tiB ⟨p, 0, none⟩ fun
    | .slice (some ad) n cap => when (Nat.ble (118 + k) n && Nat.ble k 1000 && Nat.blt n 1000000) (loadA ad n fun cs => opt (bytesV cs) fun l => opt l[116 + k]? fun x => opt l[117 + k]? fun y => .pure (.int .i64 (num2 x y)))
    | _ => .fail
  | _ => .fail
noncomputable def fi2 : FI := FI.of Tryd.f36
noncomputable def cd2 : Code := bodyOf Tryd.f36
theorem res2 : fi2.results = [.tmp 3] := rfl
theorem b_plus {a b : Nat} (h : a + b < 9223372036854775808) : ∀ E t, binA E .add t (.int .i64 (.ofNat a)) (.int .i64 (.ofNat b)) = some (.int .i64 (.ofNat (a + b))) := by
  intro E t
  show some (Value.int .i64 (wrapA .i64 (.ofNat (a + b)))) = _
  rw [wrap64 h]
theorem cv64 {x : Nat} (h : x < 9223372036854775808) : wrapA .i64 (.ofNat x) = .ofNat x := wrap64 h
set_option maxHeartbeats 2000000 in
theorem told_two : AE.Told Tryd.prog 36 twoA := by
  refine told_go hE hmix tolds_nil ?_
  intro args s v s' h hm
  unfold twoA at h
  split at h
  · rename_i k p
    -- the slice that the variable holds
    have key : ∃ ad n cap l x y, Holds s p (.slice (some ad) n cap) ∧ l.length = n ∧ Bs s ad l ∧ 118 + k ≤ n ∧ k ≤ 1000 ∧ n < 1000000 ∧ l[116 + k]? = some x ∧ l[117 + k]? = some y ∧ v = .int .i64 (num2 x y) ∧ s' = (s.seen p).seen ad.block := by
      unfold loadT at h
      rw [dsB] at h
      simp only [isAggD] at h
      obtain ⟨c, m, cs, _, hlt, ho, hm1, hcs, h4⟩ := load_inv h
      split at h4
      · rename_i u
        split at h4
        · rename_i ad n cap
          obtain ⟨hc, h5⟩ := run_when h4
          simp only [Bool.and_eq_true] at hc
          obtain ⟨l, hl, hb, h6⟩ := bs_of_load h5
          obtain ⟨x, hx, h7⟩ := run_opt h6
          obtain ⟨y, hy, h8⟩ := run_opt h7
          cases h8
          have hc0 := (rdCells_get hcs).2 0 _ rfl
          exact ⟨ad, n, cap, l, x, y, ⟨hlt, c, m, ho, by simpa using hm1, by simpa using hc0⟩, hl, hb.of rfl rfl, ble_iff.1 hc.1.1, ble_iff.1 hc.1.2, blt_iff.1 hc.2, hx, hy, rfl, rfl⟩
        · cases h4
      · cases h4
    obtain ⟨ad, n, cap, l, x, y, H, rfl, hb, h1, h2, h3, hx, hy, rfl, rfl⟩ := key
    clear h
    refine go_enter (fi := fi2) (c := cd2) (by kernel_rfl) (by kernel_rfl) 19 rfl rfl ?_
    have h0 : (Tr.ofList [Value.int .i64 (.ofNat k), .pointer (some ⟨p, 0, none⟩)]).get 0 = some (.int .i64 (.ofNat k)) := rfl
    have h1' : (Tr.ofList [Value.int .i64 (.ofNat k), .pointer (some ⟨p, 0, none⟩)]).get 1 = some (.pointer (some ⟨p, 0, none⟩)) := rfl
    generalize Tr.ofList [Value.int .i64 (.ofNat k), .pointer (some ⟨p, 0, none⟩)] = t at *
    simp only [cd2, Tryd.f36, bodyOf]
    have q0 := (H.rd (s' := ⟨s.heap, s.next, s.mark, s.rd, s.wr⟩) ⟨rfl, rfl, rfl⟩)
    have H0 : Holds ⟨s.heap, s.next, s.next, 0, 0⟩ p (.slice (some ad) l.length cap) := ⟨H.lt, H.cell⟩
    have B0 : Bs ⟨s.heap, s.next, s.next, 0, 0⟩ ad l := hb.of rfl rfl
    have l1 := H0.load
    have lx := sum.byte_load (Bs.at B0 hx) tiU8 dsU8
    have ly := sum.byte_load (Bs.at B0 hy) tiU8 dsU8
    simp only [S.seen] at l1 lx ly
    have p1 := b_plus (a := 116) (b := k) (by omega)
    have p2 := b_plus (a := 116 + k) (b := 1) (by omega)
    rw [show 116 + k + 1 = 117 + k by omega] at p2
    have n1 : Nat.blt (116 + k) l.length = true := blt_iff.2 (by omega)
    have n2 : Nat.blt (117 + k) l.length = true := blt_iff.2 (by omega)
    have i116 : (116 : Int) = Int.ofNat 116 := rfl
    have hx8 := x.toNat_lt
    have hy8 := y.toNat_lt
    have w1 : wrapA .i64 (Int.ofNat x.toNat) = Int.ofNat x.toNat := cv64 (by omega)
    have w2 : wrapA .i64 (Int.ofNat y.toNat) = Int.ofNat y.toNat := cv64 (by omega)
    have s1 : ∀ E t, binA E .shl t (.int .i64 (.ofNat y.toNat)) (.int .u64 8) = some (.int .i64 (.ofNat (y.toNat * 256))) := by
      intro E t
      show some (Value.int .i64 (wrapA .i64 (Int.ofNat (y.toNat * 256)))) = _
      rw [cv64 (by omega)]
    have o1 : ∀ E t, binA E .or t (.int .i64 (.ofNat x.toNat)) (.int .i64 (.ofNat (y.toNat * 256))) = some (.int .i64 (num2 x y)) := fun E t => rfl
    repeat apply go_seq
    apply go_region
    case h => intro m; simp (maxSteps := 2000000) (disch := decide) only [opsLoop, evOper, wantedA, nth, aop, aPick, aBin, aIndexAddr, aFieldAddr, aLoad, aStore, aExtract, aConvert, aAlloc, aBox, aIndex, callA, builtinA, Fr.evs, opt, val, when, AM.run, outV, newA, ptr, force_eq, seen_heap, seen_next, seen_mark, seen_seen, agg_cells, int_cells, Fr.ev, Fr.put, onFr, gps, gpn, bltT, still, flat, List.append_nil, List.nil_append, List.cons_append, Nat.reduceEqDiff, ne_eq, not_false_eq_true, reduceCtorEq, Bool.and_true, Bool.true_and, Bool.and_false, Bool.false_and, Bool.not_true, Bool.not_false, Bool.and_self]; rfl
    repeat apply go_seq
    apply go_drawn
    case hs => rfl
    case h => intro m; simp (maxSteps := 2000000) (disch := decide) only [opsLoop, evOper, wantedA, nth, aop, aPick, aBin, aIndexAddr, aFieldAddr, aLoad, aStore, aExtract, aConvert, aAlloc, aBox, aIndex, callA, builtinA, Fr.evs, opt, val, when, AM.run, outV, newA, ptr, force_eq, seen_heap, seen_next, seen_mark, seen_seen, agg_cells, int_cells, Fr.ev, Fr.put, onFr, gps, gpn, bltT, still, flat, List.append_nil, List.nil_append, List.cons_append, Nat.reduceEqDiff, ne_eq, not_false_eq_true, reduceCtorEq, Bool.and_true, Bool.true_and, Bool.and_false, Bool.false_and, Bool.not_true, Bool.not_false, Bool.and_self, drawnLoop, force_eq, S.seen, keep_none, clash_nil, clash_reads, created_self, lor_zero, lor_zero', h0, h1', tyB, dsB, tyU8, szU8, dsU8, tyI, dsI, l1, i116, int1, p1, p2, n1, n2, mul1, lx, ly, w1, w2, s1, o1]; rfl
    repeat apply go_seq
    apply go_ret
    apply ret_intro rfl rfl
    case run => simp (disch := decide) only [resultsM, resultsA, res2, opsLoop, evOper, wantedA, nth, aop, aPick, aBin, aIndexAddr, aFieldAddr, aLoad, aStore, aExtract, aConvert, aAlloc, aBox, aIndex, callA, builtinA, Fr.evs, opt, val, when, AM.run, outV, newA, ptr, force_eq, seen_heap, seen_next, seen_mark, seen_seen, agg_cells, int_cells, Fr.ev, Fr.put, onFr, gps, gpn, bltT, still, flat, List.append_nil, List.nil_append, List.cons_append, Nat.reduceEqDiff, ne_eq, not_false_eq_true, reduceCtorEq, Bool.and_true, Bool.true_and, Bool.and_false, Bool.false_and, Bool.not_true, Bool.not_false, Bool.and_self]; rfl
    exact ⟨rfl, Rd.less (s := s) ⟨rfl, rfl, rfl⟩ ⟨rfl, rfl, rfl⟩⟩
  · cases h
end Go.Proofs.YtgofanjbhbeniaaDoor.lf
end
end

section
/- Leaves: the leaf of a block: parts. -/
noncomputable section
namespace Go.Proofs.YtgofanjbhbeniaaDoor.lf
open AE
set_option linter.unusedSimpArgs false
set_option linter.unusedVariables false
set_option maxRecDepth 10000

def zeroL : LeafD := ⟨0, 0, 0, 0, 0, List.replicate 116 0⟩
/-- the leaf that a block's bytes say -/
def sayL (l : List UInt8) : LeafD := ⟨((l.getD 123 0).toNat : Int), num2 (l.getD 116 0) (l.getD 117 0), num2 (l.getD 118 0) (l.getD 119 0), num2 (l.getD 120 0) (l.getD 121 0), ((l.getD 122 0).toNat : Int), l.take 116⟩
def getOK (l : List UInt8) : Bool := rightL (sayL l) && eqBytes (putL (sayL l)) l
def getL (l : List UInt8) : LeafD := if getOK l = true then sayL l else zeroL
end Go.Proofs.YtgofanjbhbeniaaDoor.lf
end
end

section
/- Leaves: the leaf of a block: told. -/
noncomputable section
namespace Go.Proofs.YtgofanjbhbeniaaDoor.lf
open AE
set_option linter.unusedSimpArgs false
set_option linter.unusedVariables false
set_option maxRecDepth 10000

theorem clash_bef (rd wr b i r w : Nat) (seen : List (Nat × Nat × Nat)) (h : Nat.testBit b i = true) : clash rd wr b (keepLog i r w seen) = clash rd wr b seen := by
  unfold keepLog
  split
  · rfl
  · show (match Nat.beq (Nat.lor (Nat.land w (Nat.lor rd wr)) (Nat.land r wr)) 0 with | true => clash rd wr b seen | false => match Nat.testBit b i with | true => clash rd wr b seen | false => true) = _
    rw [h]
    split <;> rfl
theorem sl_cells (a : Option Addr) (n c : Nat) : (Value.slice a n c).cells.toList = [.slice a n c] := rfl
/-- the memory of Get -/
structure GetAt (K : Nat) (s0 s : S) (ad : Addr) (cap : Nat) (l : List UInt8) : Prop where
  var : Holds s s0.next (.slice (some ad) 128 cap)
  out : LfAt s (s0.next + 1) zeroL
  bs : Bs s ad l
  old : ∀ m, (m < s0.next ∨ s0.next + K ≤ m) → s.heap.get m = s0.heap.get m
theorem GetAt.of {K : Nat} {s0 s s1 : S} {ad : Addr} {cap : Nat} {l : List UInt8} (h : GetAt K s0 s ad cap l) (hn : s.next ≤ s1.next) (had : ad.block < s0.next) (hh : ∀ m, (m < s0.next + 2 ∨ s0.next + K ≤ m) → s1.heap.get m = s.heap.get m) : GetAt K s0 s1 ad cap l :=
  ⟨h.var.keep hn (hh _ (.inl (by omega))), ⟨by have := h.out.lt; omega, by rw [hh _ (.inl (by omega))]; exact h.out.cell, h.out.len⟩, h.bs.keep hn (hh _ (.inl (by omega))), fun m hm => (hh m (by omega)).trans (h.old m hm)⟩
end Go.Proofs.YtgofanjbhbeniaaDoor.lf
end
end

section
/- Leaves: a number brought within bounds; what is put into a block is had out of it; leaves that are the same. -/
noncomputable section
namespace Go.Proofs.YtgofanjbhbeniaaDoor.lf
open AE
set_option linter.unusedSimpArgs false
set_option linter.unusedVariables false
set_option maxRecDepth 10000

theorem wrap_small {x : Int} (h1 : -9223372036854775808 ≤ x) (h2 : x < 9223372036854775808) : wrapA .i64 x = x := by
  show wrapS 18446744073709551616 9223372036854775808 x = x
  rw [wrapS_eq _ _ (by decide) (by decide)]
  split <;> omega
/-! what is put is had -/
theorem num2_two (x : Int) (h0 : 0 ≤ x) (h1 : x ≤ 65535) : num2 (UInt8.ofNat x.toNat) (UInt8.ofNat (x.toNat >>> 8)) = x := by
  obtain ⟨n, rfl⟩ := Int.eq_ofNat_of_zero_le h0
  simp only [Int.toNat_natCast]
  have hn : n ≤ 65535 := by omega
  unfold num2
  rw [UInt8.toNat_ofNat', UInt8.toNat_ofNat', Nat.shiftRight_eq_div_pow]
  have e1 : n % 2 ^ 8 % 18446744073709551616 = n % 256 := by omega
  have e2 : n / 2 ^ 8 % 2 ^ 8 * 256 % 18446744073709551616 = 2 ^ 8 * (n / 256) := by omega
  rw [e1, e2]
  have e3 : Nat.lor (n % 256) (2 ^ 8 * (n / 256)) = n := by
    show (n % 256) ||| (2 ^ 8 * (n / 256)) = n
    rw [Nat.or_comm, ← Nat.two_pow_add_eq_or_of_lt (show n % 256 < 2 ^ 8 by omega)]
    omega
  rw [e3]
  exact wrap_small (by simp; try omega) (by simp; try omega)
theorem putL_eq (d : LeafD) : ∃ c, putL d = d.load ++ ([UInt8.ofNat d.file.toNat, UInt8.ofNat (d.file.toNat >>> 8), UInt8.ofNat d.place.toNat, UInt8.ofNat (d.place.toNat >>> 8), UInt8.ofNat d.next.toNat, UInt8.ofNat (d.next.toNat >>> 8), UInt8.ofNat d.size.toNat, UInt8.ofNat d.kind.toNat] ++ sum4 c) := by
  refine ⟨crc32 ((d.load ++ pre d 3) ++ [UInt8.ofNat d.size.toNat, UInt8.ofNat d.kind.toNat]), ?_⟩
  unfold putL closeL
  generalize crc32 ((d.load ++ pre d 3) ++ [UInt8.ofNat d.size.toNat, UInt8.ofNat d.kind.toNat]) = c
  simp only [pre, three, two, List.getD_cons_zero, List.getD_cons_succ, List.nil_append, List.append_assoc, List.cons_append]
theorem getD_app {a b : List UInt8} {n : Nat} (h : a.length = 116) (j : Nat) (hn : n = 116 + j) : (a ++ b).getD n 0 = b.getD j 0 := by
  subst hn
  rw [List.getD_eq_getElem?_getD, List.getElem?_append_right (by omega), h, show 116 + j - 116 = j by omega, List.getD_eq_getElem?_getD]
theorem say_put (d : LeafD) (hd : d.load.length = 116) (hR : rightL d = true) : sayL (putL d) = d := by
  obtain ⟨h3, hk, hs⟩ := rightL_inv hR
  have f := h3 0 d.file rfl
  have p := h3 1 d.place rfl
  have n := h3 2 d.next rfl
  obtain ⟨c, e⟩ := putL_eq d
  rw [e]
  unfold sayL
  rw [getD_app hd 0 rfl, getD_app hd 1 rfl, getD_app hd 2 rfl, getD_app hd 3 rfl, getD_app hd 4 rfl, getD_app hd 5 rfl, getD_app hd 6 rfl, getD_app hd 7 rfl]
  simp only [List.cons_append, List.nil_append, List.getD_cons_zero, List.getD_cons_succ]
  rw [num2_two _ f.1 f.2, num2_two _ p.1 p.2, num2_two _ n.1 n.2, List.take_left' hd]
  have e1 : ((UInt8.ofNat d.size.toNat).toNat : Int) = d.size := by rw [UInt8.toNat_ofNat']; omega
  have e2 : ((UInt8.ofNat d.kind.toNat).toNat : Int) = d.kind := by rw [UInt8.toNat_ofNat']; omega
  rw [e1, e2]
theorem get_put (d : LeafD) (hd : d.load.length = 116) (hR : rightL d = true) : getOK (putL d) = true ∧ getL (putL d) = d := by
  have h1 := say_put d hd hR
  have h2 : getOK (putL d) = true := by
    unfold getOK
    rw [h1, hR, eqBytes_iff]
    simp
  exact ⟨h2, by unfold getL; rw [if_pos h2, h1]⟩
end Go.Proofs.YtgofanjbhbeniaaDoor.lf
end
end

section
/- Leaves: leaves that are the same; the leaves of the law on edges. -/
noncomputable section
namespace Go.Proofs.YtgofanjbhbeniaaDoor.lf
open AE
set_option linter.unusedSimpArgs false
set_option linter.unusedVariables false
set_option maxRecDepth 10000

/-! the law's leaves -/
end Go.Proofs.YtgofanjbhbeniaaDoor.lf
end
end

section
/- Leaves: rules for cells that are stored, for what Put and Get do in a walk, for numbers. -/
noncomputable section
namespace Go.Proofs.YtgofanjbhbeniaaDoor.lf
open AE
set_option linter.unusedSimpArgs false
set_option linter.unusedVariables false
set_option maxRecDepth 10000

theorem row_set {c : Tr Value} {L : List Value} {k : Nat} {v : Value} (h : Row c 0 L) (hk : k < 1000) : Row (wrCells c k [v]) 0 (L.set k v) := by
  intro j u hj
  rw [Nat.zero_add]
  rw [List.getElem?_set] at hj
  rw [get_wr [v] c k j (by simp; unfold Tr.wide; omega)]
  by_cases e : k = j
  · subst e
    rw [if_pos rfl] at hj
    split at hj
    · cases hj
      rw [if_pos (by simp), Nat.sub_self]
      rfl
    · cases hj
  · rw [if_neg e] at hj
    rw [if_neg (by simp; omega)]
    have := h j u hj
    rwa [Nat.zero_add] at this
end Go.Proofs.YtgofanjbhbeniaaDoor.lf
end
end

section
/- Leaves: two leaves compared, whatever they are; a burst of bits in a right leaf's block is found. -/
noncomputable section
namespace Go.Proofs.YtgofanjbhbeniaaDoor.lf
open AE
set_option linter.unusedSimpArgs false
set_option linter.unusedVariables false
set_option maxRecDepth 10000

theorem eqInt_any (d : Nat) (x y : Int) : eqV E (d + 1) 3 (.int .i64 x) (.int .i64 y) = some (decide (x = y)) := by
  have : eqI x y = decide (x = y) := by rw [eqI_eq]
  simp only [eqV, tyI, dsI, this]
  rfl
instance : DecidableEq LeafD := fun a b => if h : a.kind = b.kind ∧ a.file = b.file ∧ a.place = b.place ∧ a.next = b.next ∧ a.size = b.size ∧ a.load = b.load then isTrue (by cases a; cases b; simp_all) else isFalse (fun e => h (by subst e; exact ⟨rfl, rfl, rfl, rfl, rfl, rfl⟩))
/-! the sum of a block that is closed -/
end Go.Proofs.YtgofanjbhbeniaaDoor.lf
end
end

section
/- Catalogs: types; numbers within bounds; cards and files that may be. -/
noncomputable section
namespace Go.Proofs.YtgofanjbhbeniaaDoor.lf
open AE
set_option linter.unusedSimpArgs false
set_option linter.unusedVariables false
set_option maxRecDepth 10000

noncomputable def tiSt8 : TI := TI.of Tryd.prog 22
theorem tySt8 : E.ty.get 22 = some tiSt8 := by kernel_rfl
theorem szSt8 : tiSt8.size = 1 := by kernel_rfl
theorem dsSt8 : tiSt8.desc = .int .i64 := by kernel_rfl
noncomputable def tiK : TI := TI.of Tryd.prog 24
theorem tyK : E.ty.get 24 = some tiK := by kernel_rfl
theorem szK : tiK.size = 4 := by kernel_rfl
theorem zeK : tiK.zero = some (.agg ⟨[.int .i64 0, .int .i64 0, .int .i64 0, .int .i64 0]⟩) := by kernel_rfl
noncomputable def fsK : Array Field := match tiK.desc with | .struct fs => fs | _ => #[]
theorem dsK : tiK.desc = .struct fsK := by kernel_rfl
noncomputable def fdK (i : Nat) : Field := (fieldAt? fsK.toList i).getD default
theorem gdK : tiK.guard = false := by kernel_rfl
theorem flK0 : fieldAt? fsK.toList 0 = some (fdK 0) := by kernel_rfl
theorem ftK0 : (fdK 0).type = 3 := by kernel_rfl
theorem foK0 : (fdK 0).offset = 0 := by kernel_rfl
theorem nmK0 : (fdK 0).name = "From" := by kernel_rfl
theorem flK1 : fieldAt? fsK.toList 1 = some (fdK 1) := by kernel_rfl
theorem ftK1 : (fdK 1).type = 3 := by kernel_rfl
theorem foK1 : (fdK 1).offset = 1 := by kernel_rfl
theorem nmK1 : (fdK 1).name = "To" := by kernel_rfl
theorem flK2 : fieldAt? fsK.toList 2 = some (fdK 2) := by kernel_rfl
theorem ftK2 : (fdK 2).type = 3 := by kernel_rfl
theorem foK2 : (fdK 2).offset = 2 := by kernel_rfl
theorem nmK2 : (fdK 2).name = "Budget" := by kernel_rfl
theorem flK3 : fieldAt? fsK.toList 3 = some (fdK 3) := by kernel_rfl
theorem ftK3 : (fdK 3).type = 3 := by kernel_rfl
theorem foK3 : (fdK 3).offset = 3 := by kernel_rfl
theorem nmK3 : (fdK 3).name = "Fan" := by kernel_rfl
theorem lsK : fsK.toList = [fdK 0, fdK 1, fdK 2, fdK 3] := by kernel_rfl
noncomputable def tiF : TI := TI.of Tryd.prog 41
theorem tyF : E.ty.get 41 = some tiF := by kernel_rfl
theorem szF : tiF.size = 4 := by kernel_rfl
theorem byF : tiF.bytes = 32 := by kernel_rfl
theorem zeF : tiF.zero = some (.agg ⟨[.int .i64 0, .int .i64 0, .int .i64 0, .int .i64 0]⟩) := by kernel_rfl
noncomputable def fsF : Array Field := match tiF.desc with | .struct fs => fs | _ => #[]
theorem dsF : tiF.desc = .struct fsF := by kernel_rfl
noncomputable def fdF (i : Nat) : Field := (fieldAt? fsF.toList i).getD default
theorem gdF : tiF.guard = false := by kernel_rfl
theorem flF0 : fieldAt? fsF.toList 0 = some (fdF 0) := by kernel_rfl
theorem ftF0 : (fdF 0).type = 3 := by kernel_rfl
theorem foF0 : (fdF 0).offset = 0 := by kernel_rfl
theorem nmF0 : (fdF 0).name = "Name" := by kernel_rfl
theorem flF1 : fieldAt? fsF.toList 1 = some (fdF 1) := by kernel_rfl
theorem ftF1 : (fdF 1).type = 3 := by kernel_rfl
theorem foF1 : (fdF 1).offset = 1 := by kernel_rfl
theorem nmF1 : (fdF 1).name = "File" := by kernel_rfl
theorem flF2 : fieldAt? fsF.toList 2 = some (fdF 2) := by kernel_rfl
theorem ftF2 : (fdF 2).type = 3 := by kernel_rfl
theorem foF2 : (fdF 2).offset = 2 := by kernel_rfl
theorem nmF2 : (fdF 2).name = "First" := by kernel_rfl
theorem flF3 : fieldAt? fsF.toList 3 = some (fdF 3) := by kernel_rfl
theorem ftF3 : (fdF 3).type = 3 := by kernel_rfl
theorem foF3 : (fdF 3).offset = 3 := by kernel_rfl
theorem nmF3 : (fdF 3).name = "Blocks" := by kernel_rfl
theorem lsF : fsF.toList = [fdF 0, fdF 1, fdF 2, fdF 3] := by kernel_rfl
noncomputable def tiFs : TI := TI.of Tryd.prog 25
theorem tyFs : E.ty.get 25 = some tiFs := by kernel_rfl
theorem szFs : tiFs.size = 1 := by kernel_rfl
theorem dsFs : tiFs.desc = .slice 41 := by kernel_rfl
noncomputable def tiC : TI := TI.of Tryd.prog 27
theorem tyC : E.ty.get 27 = some tiC := by kernel_rfl
theorem szC : tiC.size = 9 := by kernel_rfl
theorem zeC : tiC.zero = some (.agg ⟨[.int .i64 0, .int .i64 0, .int .i64 0, .bool false, .int .i64 0, .int .i64 0, .int .i64 0, .int .i64 0, .slice none 0 0]⟩) := by kernel_rfl
noncomputable def fsC : Array Field := match tiC.desc with | .struct fs => fs | _ => #[]
theorem dsC : tiC.desc = .struct fsC := by kernel_rfl
noncomputable def fdC (i : Nat) : Field := (fieldAt? fsC.toList i).getD default
theorem flC0 : fieldAt? fsC.toList 0 = some (fdC 0) := by kernel_rfl
theorem ftC0 : (fdC 0).type = 3 := by kernel_rfl
theorem foC0 : (fdC 0).offset = 0 := by kernel_rfl
theorem flC1 : fieldAt? fsC.toList 1 = some (fdC 1) := by kernel_rfl
theorem ftC1 : (fdC 1).type = 3 := by kernel_rfl
theorem foC1 : (fdC 1).offset = 1 := by kernel_rfl
theorem flC2 : fieldAt? fsC.toList 2 = some (fdC 2) := by kernel_rfl
theorem ftC2 : (fdC 2).type = 22 := by kernel_rfl
theorem foC2 : (fdC 2).offset = 2 := by kernel_rfl
theorem flC3 : fieldAt? fsC.toList 3 = some (fdC 3) := by kernel_rfl
theorem ftC3 : (fdC 3).type = 4 := by kernel_rfl
theorem foC3 : (fdC 3).offset = 3 := by kernel_rfl
theorem flC4 : fieldAt? fsC.toList 4 = some (fdC 4) := by kernel_rfl
theorem ftC4 : (fdC 4).type = 24 := by kernel_rfl
theorem foC4 : (fdC 4).offset = 4 := by kernel_rfl
theorem flC5 : fieldAt? fsC.toList 5 = some (fdC 5) := by kernel_rfl
theorem ftC5 : (fdC 5).type = 25 := by kernel_rfl
theorem foC5 : (fdC 5).offset = 8 := by kernel_rfl
/-! within -/
noncomputable def fiCw : FI := FI.of Tryd.f28
noncomputable def cdCw : Code := bodyOf Tryd.f28
theorem resCw : fiCw.results = [.tmp 6] := rfl
theorem told_cwithin : AE.Told Tryd.prog 28 withinA := by
  refine told_go hE hmix tolds_nil ?_
  intro args s v s' h hm
  unfold withinA at h
  split at h
  · rename_i n lo hi
    cases h
    refine go_enter (fi := fiCw) (c := cdCw) (by kernel_rfl) (by kernel_rfl) 15 rfl rfl ?_
    simp only [cdCw, Tryd.f28, bodyOf]
    have h0 : (Tr.ofList [Value.int .i64 n, .int .i64 lo, .int .i64 hi]).get 0 = some (.int .i64 n) := rfl
    have h1 : (Tr.ofList [Value.int .i64 n, .int .i64 lo, .int .i64 hi]).get 1 = some (.int .i64 lo) := rfl
    have h2 : (Tr.ofList [Value.int .i64 n, .int .i64 lo, .int .i64 hi]).get 2 = some (.int .i64 hi) := rfl
    generalize Tr.ofList [Value.int .i64 n, .int .i64 lo, .int .i64 hi] = t at *
    repeat apply go_seq
    apply go_region
    case h => intro m; simp (maxSteps := 2000000) (disch := decide) only [opsLoop, evOper, wantedA, nth, aop, aPick, aBin, aIndexAddr, aFieldAddr, aLoad, aStore, aExtract, aConvert, aAlloc, aBox, aIndex, callA, builtinA, Fr.evs, opt, val, when, AM.run, outV, newA, ptr, force_eq, seen_heap, seen_next, seen_mark, seen_seen, agg_cells, int_cells, Fr.ev, Fr.put, onFr, gps, gpn, bltT, still, flat, List.append_nil, List.nil_append, List.cons_append, Nat.reduceEqDiff, ne_eq, not_false_eq_true, reduceCtorEq, Bool.and_true, Bool.true_and, Bool.and_false, Bool.false_and, Bool.not_true, Bool.not_false, Bool.and_self]; rfl
    cases hlo : ltI n lo
    all_goals
      repeat apply go_seq
      apply go_region
      case h => intro m; simp (maxSteps := 2000000) (disch := decide) only [opsLoop, evOper, wantedA, nth, aop, aPick, aBin, aIndexAddr, aFieldAddr, aLoad, aStore, aExtract, aConvert, aAlloc, aBox, aIndex, callA, builtinA, Fr.evs, opt, val, when, AM.run, outV, newA, ptr, force_eq, seen_heap, seen_next, seen_mark, seen_seen, agg_cells, int_cells, Fr.ev, Fr.put, onFr, gps, gpn, bltT, still, flat, List.append_nil, List.nil_append, List.cons_append, Nat.reduceEqDiff, ne_eq, not_false_eq_true, reduceCtorEq, Bool.and_true, Bool.true_and, Bool.and_false, Bool.false_and, Bool.not_true, Bool.not_false, Bool.and_self, h0, h1, h2, b_geq, b_leq, hlo, Bool.not_false, Bool.not_true]; rfl
      repeat apply go_seq
      apply go_ret
      apply ret_intro rfl rfl
      case run => simp (disch := decide) only [resultsM, resultsA, resCw, opsLoop, evOper, wantedA, nth, aop, aPick, aBin, aIndexAddr, aFieldAddr, aLoad, aStore, aExtract, aConvert, aAlloc, aBox, aIndex, callA, builtinA, Fr.evs, opt, val, when, AM.run, outV, newA, ptr, force_eq, seen_heap, seen_next, seen_mark, seen_seen, agg_cells, int_cells, Fr.ev, Fr.put, onFr, gps, gpn, bltT, still, flat, List.append_nil, List.nil_append, List.cons_append, Nat.reduceEqDiff, ne_eq, not_false_eq_true, reduceCtorEq, Bool.and_true, Bool.true_and, Bool.and_false, Bool.false_and, Bool.not_true, Bool.not_false, Bool.and_self]; rfl
      exact ⟨by simp only [Bool.not_false, Bool.not_true, Bool.true_and, Bool.false_and], Less'.refl _⟩
  · cases h
abbrev sigCw : List (Nat × (List Value → AM Value)) := [(28, withinA)]
theorem tolds_Cw : Tolds Tryd.prog (sumsOf sigCw) := tolds_cons told_cwithin tolds_nil
theorem sgCw : sumsOf sigCw 28 = some withinA := rfl
theorem tgCw : ∀ a b, targetA E (.func 28) a b = .pure (.enter 28 (b ++ a)) := tgt (fi := fiCw) (c := cdCw) (by kernel_rfl) (by kernel_rfl)
theorem within_run (n lo hi : Int) : ∀ s, (withinA [.int .i64 n, .int .i64 lo, .int .i64 hi]).run s = some (.bool (wi n lo hi), s) := fun s => rfl

/-! a card -/
def rightK (a b c d : Int) : Bool := wi a 0 b && (not (ltI 1073741824 b) && (wi c 2 64 && wi d 2 16))
def rightKA : List Value → AM Value
  | [.agg ⟨[.int .i64 a, .int .i64 b, .int .i64 c, .int .i64 d]⟩] => bump 1 (.pure (.bool (rightK a b c d)))
  | _ => .fail
noncomputable def fiK : FI := FI.of Tryd.f11
noncomputable def cdK : Code := bodyOf Tryd.f11
theorem resK : fiK.results = [.tmp 2] := rfl
theorem len4 (a b c d : Value) : Nat.ble ([a, b, c, d] : List Value).length lastName = true := rfl
set_option maxHeartbeats 1000000 in
theorem told_rightK : AE.Told Tryd.prog 11 rightKA := by
  refine told_go hE hmix tolds_Cw ?_
  intro args s v s' h hm
  unfold rightKA at h
  split at h
  · rename_i a b c d
    obtain ⟨s9, h3, hn9, hm9, hh9, hbl⟩ := bump_run 1 _ _ _ h
    cases h3
    have hN0 : Nat.ble s.next lastName = true := hbl 0 (by omega)
    refine go_enter (fi := fiK) (c := cdK) (by kernel_rfl) (by kernel_rfl) 23 rfl rfl ?_
    simp only [cdK, Tryd.f11, bodyOf]
    have h0 : (Tr.ofList [Value.agg ⟨[.int .i64 a, .int .i64 b, .int .i64 c, .int .i64 d]⟩]).get 0 = some (.agg ⟨[.int .i64 a, .int .i64 b, .int .i64 c, .int .i64 d]⟩) := rfl
    generalize Tr.ofList [Value.agg ⟨[.int .i64 a, .int .i64 b, .int .i64 c, .int .i64 d]⟩] = t at *
    repeat apply go_seq
    apply go_region
    case h => intro m; simp (maxSteps := 2000000) (disch := decide) only [opsLoop, evOper, wantedA, nth, aop, aPick, aBin, aIndexAddr, aFieldAddr, aLoad, aStore, aExtract, aConvert, aAlloc, aBox, aIndex, callA, builtinA, Fr.evs, opt, val, when, AM.run, outV, newA, ptr, force_eq, seen_heap, seen_next, seen_mark, seen_seen, agg_cells, int_cells, Fr.ev, Fr.put, onFr, gps, gpn, bltT, still, flat, List.append_nil, List.nil_append, List.cons_append, Nat.reduceEqDiff, ne_eq, not_false_eq_true, reduceCtorEq, Bool.and_true, Bool.true_and, Bool.and_false, Bool.false_and, Bool.not_true, Bool.not_false, Bool.and_self, h0, tyK, hN0, len4]; rfl
    generalize hs1 : S.mk _ _ _ _ _ = s1
    have e1 : s1.next = s.next + 1 := by rw [← hs1]
    have e1h : s1.heap = s.heap.put s.next (some (.cells (Tr.ofList [.int .i64 a, .int .i64 b, .int .i64 c, .int .i64 d]) (List.length [Value.int .i64 a, .int .i64 b, .int .i64 c, .int .i64 d]) 24 .whole)) := by rw [← hs1]
    clear hs1
    have C1 : Cl s1 s.next 0 [.int .i64 a, .int .i64 b, .int .i64 c, .int .i64 d] := Cl.new (by omega) (by rw [e1h]; exact hg_same hN0 _ _) (by simp)
    have hless : ∀ r w, Less' ⟨s1.heap, s1.next, s1.mark, r, w⟩ s' := fun r w => less_new (s := s) (n := 1) (by show s1.next ≤ _; omega) hn9 hh9 (fun m hm2 => by show s1.heap.get m = _; rw [e1h, hg_far hN0 (by omega)])
    obtain ⟨H, N, mk, rd, wr⟩ := s1
    simp only at hless
    have l0 := C1.ld (k := 0) tiI (by rw [dsI]; rfl) rfl
    have l1 := C1.ld (k := 1) tiI (by rw [dsI]; rfl) rfl
    have l2 := C1.ld (k := 2) tiI (by rw [dsI]; rfl) rfl
    have l3 := C1.ld (k := 3) tiI (by rw [dsI]; rfl) rfl
    simp only [Nat.zero_add] at l0 l1 l2 l3
    have k1 := within_run a 0 b
    have k2 := within_run c 2 64
    have k3 := within_run d 2 16
    unfold rightK
    cases hc : ltI 1073741824 b <;> cases h1 : wi a 0 b <;> cases h2 : wi c 2 64 <;> cases h3 : wi d 2 16
    all_goals
      rw [h1] at k1
      rw [h2] at k2
      rw [h3] at k3
      repeat apply go_seq
      apply go_region
      case h => intro m; simp (maxSteps := 2000000) (disch := decide) only [opsLoop, evOper, wantedA, nth, aop, aPick, aBin, aIndexAddr, aFieldAddr, aLoad, aStore, aExtract, aConvert, aAlloc, aBox, aIndex, callA, builtinA, Fr.evs, opt, val, when, AM.run, outV, newA, ptr, force_eq, seen_heap, seen_next, seen_mark, seen_seen, agg_cells, int_cells, Fr.ev, Fr.put, onFr, gps, gpn, bltT, still, flat, List.append_nil, List.nil_append, List.cons_append, Nat.reduceEqDiff, ne_eq, not_false_eq_true, reduceCtorEq, Bool.and_true, Bool.true_and, Bool.and_false, Bool.false_and, Bool.not_true, Bool.not_false, Bool.and_self, tyK, dsK, flK0, flK1, flK2, flK3, ftK0, ftK1, ftK2, ftK3, foK0, foK1, foK2, foK3, tyI, szI, ble11, ad0, ad1, ad2, ad3', l0, l1, l2, l3, tgCw, evT_told sgCw, k1, k2, k3, b_leq, hc]; rfl
      repeat apply go_seq
      apply go_ret
      apply ret_intro rfl rfl
      case run => simp (disch := decide) only [resultsM, resultsA, resK, opsLoop, evOper, wantedA, nth, aop, aPick, aBin, aIndexAddr, aFieldAddr, aLoad, aStore, aExtract, aConvert, aAlloc, aBox, aIndex, callA, builtinA, Fr.evs, opt, val, when, AM.run, outV, newA, ptr, force_eq, seen_heap, seen_next, seen_mark, seen_seen, agg_cells, int_cells, Fr.ev, Fr.put, onFr, gps, gpn, bltT, still, flat, List.append_nil, List.nil_append, List.cons_append, Nat.reduceEqDiff, ne_eq, not_false_eq_true, reduceCtorEq, Bool.and_true, Bool.true_and, Bool.and_false, Bool.false_and, Bool.not_true, Bool.not_false, Bool.and_self]; rfl
      exact ⟨rfl, hless _ _⟩
  · cases h

/-! a file -/
def rightF (a b c d : Int) : Bool := wi a 1 255 && (wi b 1 65535 && (wi d 0 512 && (wi c 0 65535 && (eqI c 0 == eqI d 0))))
def rightFA : List Value → AM Value
  | [.agg ⟨[.int .i64 a, .int .i64 b, .int .i64 c, .int .i64 d]⟩] => bump 1 (.pure (.bool (rightF a b c d)))
  | _ => .fail
noncomputable def fiF : FI := FI.of Tryd.f29
noncomputable def cdF : Code := bodyOf Tryd.f29
theorem resF : fiF.results = [.tmp 2] := rfl
theorem eqVB (b c : Bool) : eqV E 1000 4 (.bool b) (.bool c) = some (b == c) := by
  show eqV E (999 + 1) _ _ _ = _
  simp only [eqV, tyBo, dsBo, eqBool_eq]
theorem eqB_tt (b c : Bool) : binA E .eql 4 (.bool b) (.bool c) = some (.bool (b == c)) := by
  show someB (eqV E 1000 4 (.bool b) (.bool c)) true = _
  rw [eqVB]
  rfl
theorem neB_tt (b c : Bool) : binA E .neq 4 (.bool b) (.bool c) = some (.bool (!(b == c))) := by
  show someB (eqV E 1000 4 (.bool b) (.bool c)) false = _
  rw [eqVB]
  rfl
set_option maxHeartbeats 1000000 in
theorem told_rightF : AE.Told Tryd.prog 29 rightFA := by
  refine told_go hE hmix tolds_Cw ?_
  intro args s v s' h hm
  unfold rightFA at h
  split at h
  · rename_i a b c d
    obtain ⟨s9, h3, hn9, hm9, hh9, hbl⟩ := bump_run 1 _ _ _ h
    cases h3
    have hN0 : Nat.ble s.next lastName = true := hbl 0 (by omega)
    refine go_enter (fi := fiF) (c := cdF) (by kernel_rfl) (by kernel_rfl) 30 rfl rfl ?_
    simp only [cdF, Tryd.f29, bodyOf]
    have h0 : (Tr.ofList [Value.agg ⟨[.int .i64 a, .int .i64 b, .int .i64 c, .int .i64 d]⟩]).get 0 = some (.agg ⟨[.int .i64 a, .int .i64 b, .int .i64 c, .int .i64 d]⟩) := rfl
    generalize Tr.ofList [Value.agg ⟨[.int .i64 a, .int .i64 b, .int .i64 c, .int .i64 d]⟩] = t at *
    repeat apply go_seq
    apply go_region
    case h => intro m; simp (maxSteps := 2000000) (disch := decide) only [opsLoop, evOper, wantedA, nth, aop, aPick, aBin, aIndexAddr, aFieldAddr, aLoad, aStore, aExtract, aConvert, aAlloc, aBox, aIndex, callA, builtinA, Fr.evs, opt, val, when, AM.run, outV, newA, ptr, force_eq, seen_heap, seen_next, seen_mark, seen_seen, agg_cells, int_cells, Fr.ev, Fr.put, onFr, gps, gpn, bltT, still, flat, List.append_nil, List.nil_append, List.cons_append, Nat.reduceEqDiff, ne_eq, not_false_eq_true, reduceCtorEq, Bool.and_true, Bool.true_and, Bool.and_false, Bool.false_and, Bool.not_true, Bool.not_false, Bool.and_self, h0, tyF, hN0, len4]; rfl
    generalize hs1 : S.mk _ _ _ _ _ = s1
    have e1 : s1.next = s.next + 1 := by rw [← hs1]
    have e1h : s1.heap = s.heap.put s.next (some (.cells (Tr.ofList [.int .i64 a, .int .i64 b, .int .i64 c, .int .i64 d]) (List.length [Value.int .i64 a, .int .i64 b, .int .i64 c, .int .i64 d]) 41 .whole)) := by rw [← hs1]
    clear hs1
    have C1 : Cl s1 s.next 0 [.int .i64 a, .int .i64 b, .int .i64 c, .int .i64 d] := Cl.new (by omega) (by rw [e1h]; exact hg_same hN0 _ _) (by simp)
    have hless : ∀ r w, Less' ⟨s1.heap, s1.next, s1.mark, r, w⟩ s' := fun r w => less_new (s := s) (n := 1) (by show s1.next ≤ _; omega) hn9 hh9 (fun m hm2 => by show s1.heap.get m = _; rw [e1h, hg_far hN0 (by omega)])
    obtain ⟨H, N, mk, rd, wr⟩ := s1
    simp only at hless
    have l0 := C1.ld (k := 0) tiI (by rw [dsI]; rfl) rfl
    have l1 := C1.ld (k := 1) tiI (by rw [dsI]; rfl) rfl
    have l2 := C1.ld (k := 2) tiI (by rw [dsI]; rfl) rfl
    have l3 := C1.ld (k := 3) tiI (by rw [dsI]; rfl) rfl
    simp only [Nat.zero_add] at l0 l1 l2 l3
    have k1 := within_run a 1 255
    have k2 := within_run b 1 65535
    have k3 := within_run d 0 512
    have k4 := within_run c 0 65535
    unfold rightF
    cases h1 : wi a 1 255 <;> cases h2 : wi b 1 65535 <;> cases h3 : wi d 0 512 <;> cases h4 : wi c 0 65535
    all_goals
      rw [h1] at k1
      rw [h2] at k2
      rw [h3] at k3
      rw [h4] at k4
      repeat apply go_seq
      apply go_region
      case h => intro m; simp (maxSteps := 2000000) (disch := decide) only [opsLoop, evOper, wantedA, nth, aop, aPick, aBin, aIndexAddr, aFieldAddr, aLoad, aStore, aExtract, aConvert, aAlloc, aBox, aIndex, callA, builtinA, Fr.evs, opt, val, when, AM.run, outV, newA, ptr, force_eq, seen_heap, seen_next, seen_mark, seen_seen, agg_cells, int_cells, Fr.ev, Fr.put, onFr, gps, gpn, bltT, still, flat, List.append_nil, List.nil_append, List.cons_append, Nat.reduceEqDiff, ne_eq, not_false_eq_true, reduceCtorEq, Bool.and_true, Bool.true_and, Bool.and_false, Bool.false_and, Bool.not_true, Bool.not_false, Bool.and_self, tyF, dsF, flF0, flF1, flF2, flF3, ftF0, ftF1, ftF2, ftF3, foF0, foF1, foF2, foF3, tyI, szI, ble11, ad0, ad1, ad2, ad3', l0, l1, l2, l3, tgCw, evT_told sgCw, k1, k2, k3, k4, b_eql, eqB_tt]; rfl
      repeat apply go_seq
      apply go_ret
      apply ret_intro rfl rfl
      case run => simp (disch := decide) only [resultsM, resultsA, resF, opsLoop, evOper, wantedA, nth, aop, aPick, aBin, aIndexAddr, aFieldAddr, aLoad, aStore, aExtract, aConvert, aAlloc, aBox, aIndex, callA, builtinA, Fr.evs, opt, val, when, AM.run, outV, newA, ptr, force_eq, seen_heap, seen_next, seen_mark, seen_seen, agg_cells, int_cells, Fr.ev, Fr.put, onFr, gps, gpn, bltT, still, flat, List.append_nil, List.nil_append, List.cons_append, Nat.reduceEqDiff, ne_eq, not_false_eq_true, reduceCtorEq, Bool.and_true, Bool.true_and, Bool.and_false, Bool.false_and, Bool.not_true, Bool.not_false, Bool.and_self]; rfl
      exact ⟨rfl, hless _ _⟩
  · cases h
end Go.Proofs.YtgofanjbhbeniaaDoor.lf
end
end
