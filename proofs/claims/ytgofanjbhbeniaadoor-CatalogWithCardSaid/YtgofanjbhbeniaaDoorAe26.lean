/- The sum of bytes, bit by bit: told shortly. And rules for a run of code over the named memory. No program is named here. -/
import Derived.Test.YtgofanjbhbeniaaDoorAe25
noncomputable section
namespace Go.AE
set_option linter.unusedVariables false
set_option linter.unusedSimpArgs false

def crcBit (r : Nat) : Nat := match Nat.land r 1 with
  | 0 => Nat.shiftRight r 1
  | _ => Nat.xor (Nat.shiftRight r 1) 3988292384
def crcByte (r x : Nat) : Nat := force (crcBit (Nat.xor r x)) fun r => force (crcBit r) fun r => force (crcBit r) fun r => force (crcBit r) fun r => force (crcBit r) fun r => force (crcBit r) fun r => force (crcBit r) fun r => crcBit r
def crcVals : List Value → Nat → Option Nat
  | [], r => some r
  | .int .u8 (.ofNat x) :: l, r => match Nat.blt x 256 with
    | true => force (crcByte r x) fun r => crcVals l r
    | false => none
  | _, _ => none
def crcA (args : List Value) : AM Value := match args with
  | [.slice a len _] => match len with
    | 0 => .pure (.int .u32 (.ofNat 0))
    | n + 1 => match a with
      | some ad => when (Nat.blt n 1099511627776) <| loadA ad (n + 1) fun cs => opt (crcVals cs 4294967295) fun r => .pure (.int .u32 (.ofNat (Nat.xor 4294967295 r)))
      | none => .fail
  | _ => .fail

theorem crcVals_cons {v : Value} {l : List Value} {r R : Nat} (h : crcVals (v :: l) r = some R) : ∃ x, v = .int .u8 (.ofNat x) ∧ x < 256 ∧ crcVals l (crcByte r x) = some R := by
  unfold crcVals at h
  split at h
  · rename_i heq; cases heq
  · rename_i r' x l' heq
    cases heq
    split at h
    · rename_i hx
      rw [force_eq] at h
      exact ⟨x, rfl, blt_iff.1 hx, h⟩
    · cases h
  · cases h

theorem crcBit_lt {r : Nat} (h : r < 4294967296) : crcBit r < 4294967296 := by
  have h1 : Nat.shiftRight r 1 < 4294967296 := by
    have : Nat.shiftRight r 1 = r / 2 := rfl
    omega
  unfold crcBit
  split
  · exact h1
  · exact Nat.xor_lt_two_pow (n := 32) h1 (by decide)
/-- one bit, as the operations reckon it -/
theorem crcBit_eq {r : Nat} (h : r < 4294967296) :
    Nat.mod (Nat.xor (Nat.mod (Nat.shiftRight r 1) 4294967296) (Nat.mod (Nat.mod (3988292384 * (Nat.mod (Nat.land (Nat.mod r 4294967296) 1) 4294967296)) 4294967296) 4294967296)) 4294967296 = crcBit r := by
  have e1 : Nat.mod r 4294967296 = r := Nat.mod_eq_of_lt h
  have h2 : Nat.shiftRight r 1 = r / 2 := rfl
  have e2 : Nat.mod (Nat.shiftRight r 1) 4294967296 = Nat.shiftRight r 1 := Nat.mod_eq_of_lt (by omega)
  have h3 : Nat.land r 1 = r % 2 := Nat.and_one_is_mod r
  have hb := crcBit_lt h
  rw [e1, e2]
  unfold crcBit at hb ⊢
  rw [h3] at hb ⊢
  have : r % 2 = 0 ∨ r % 2 = 1 := by omega
  rcases this with e | e
  · rw [e] at hb ⊢
    simp only at hb ⊢
    have e5 : Nat.mod (Nat.mod (3988292384 * Nat.mod 0 4294967296) 4294967296) 4294967296 = 0 := by decide
    rw [e5]
    have e6 : Nat.xor (Nat.shiftRight r 1) 0 = Nat.shiftRight r 1 := Nat.xor_zero _
    rw [e6, e2]
  · rw [e] at hb ⊢
    simp only at hb ⊢
    have e5 : Nat.mod (Nat.mod (3988292384 * Nat.mod 1 4294967296) 4294967296) 4294967296 = 3988292384 := by decide
    rw [e5]
    exact Nat.mod_eq_of_lt hb

/-- a trie's place, behind a put -/
theorem gp {α : Type} (t : Tr α) (n m : Nat) (x : Option α) (h : Nat.blt n 1000 = true) : (t.put n x).get m = if m = n then x else t.get m :=
  Tr.get_put t n x m (by have := blt_iff.1 h; unfold Tr.wide; omega)
theorem gps {α : Type} (t : Tr α) (n : Nat) (x : Option α) (h : Nat.blt n 1000 = true) : (t.put n x).get n = x := by rw [gp t n n x h, if_pos rfl]
theorem gpn {α : Type} (t : Tr α) (n m : Nat) (x : Option α) (h : Nat.blt n 1000 = true) (hne : m ≠ n) : (t.put n x).get m = t.get m := by rw [gp t n m x h, if_neg hne]

/-! rules for the operations -/
theorem bltT {n m : Nat} (h : n < m) : Nat.blt n m = true := blt_iff.2 h
theorem b_and {E t} (r : Nat) : binA E .and t (.int .u32 (.ofNat r)) (.int .u32 1) = some (.int .u32 (.ofNat (Nat.mod (Nat.land (Nat.mod r 4294967296) 1) 4294967296))) := rfl
theorem b_mul {E t} (r : Nat) : binA E .mul t (.int .u32 3988292384) (.int .u32 (.ofNat r)) = some (.int .u32 (.ofNat (Nat.mod (3988292384 * r) 4294967296))) := rfl
theorem b_xor {E t} (r x : Nat) : binA E .xor t (.int .u32 (.ofNat r)) (.int .u32 (.ofNat x)) = some (.int .u32 (.ofNat (Nat.mod (Nat.xor (Nat.mod r 4294967296) (Nat.mod x 4294967296)) 4294967296))) := rfl
theorem b_shr {E t} (r : Nat) : binA E .shr t (.int .u32 (.ofNat r)) (.int .u64 1) = some (.int .u32 (.ofNat (Nat.shiftRight r 1))) := by
  have : Int.fdiv (Int.ofNat r) 2 = Int.ofNat (r / 2) := by cases r <;> rfl
  show some (Value.int .u32 (Int.fdiv (Int.ofNat r) 2)) = _
  rw [this]; rfl
theorem wrap64 {n : Nat} (h : n < 9223372036854775808) : wrapA .i64 (.ofNat n) = .ofNat n := by
  show wrapS 18446744073709551616 9223372036854775808 (.ofNat n) = _
  rw [wrapS_eq _ _ (by decide) (by decide)]
  have e : (Int.ofNat n) % ((18446744073709551616 : Nat) : Int) = Int.ofNat n := Int.emod_eq_of_lt (by simp) (by simp; omega)
  rw [e, if_neg (by simp; omega)]
theorem b_inc {E t} {n : Nat} (h : n < 9223372036854775807) : binA E .add t (.int .i64 (.ofNat n)) (.int .i64 1) = some (.int .i64 (.ofNat (n + 1))) := by
  show some (Value.int .i64 (wrapA .i64 (.ofNat (n + 1)))) = _
  rw [wrap64 (by omega)]
theorem b_lss {E t} (x y : Int) : binA E .lss t (.int .i64 x) (.int .i64 y) = some (.bool (ltI x y)) := rfl

theorem b_conv8 {x : Nat} (h : x < 256) : wrapA .u32 (.ofNat x) = .ofNat x := by
  show Int.ofNat (Nat.mod x 4294967296) = _
  rw [show Nat.mod x 4294967296 = x from Nat.mod_eq_of_lt (by omega)]
theorem b_not (r : Nat) : unA .xor (.int .u32 (.ofNat r)) = some (.int .u32 (.ofNat (Nat.mod (Nat.xor 4294967295 (Nat.mod r 4294967296)) 4294967296))) := rfl
theorem seen_seen (s : S) (n : Nat) : (s.seen n).seen n = s.seen n := by
  have : bit s.mark n (bit s.mark n s.rd) = bit s.mark n s.rd := by
    unfold bit
    cases Nat.ble s.mark n with
    | true => rfl
    | false =>
      show (s.rd ||| _) ||| _ = s.rd ||| _
      rw [Nat.or_assoc, Nat.or_self]
  show S.mk _ _ _ (bit s.mark n (bit s.mark n s.rd)) _ = _
  rw [this]
  rfl
theorem rdCells_acc (c : Tr Value) (off : Nat) : ∀ (n : Nat) (acc cs : List Value), rdCells c off n acc = some cs → ∃ l, cs = l ++ acc ∧ l.length = n ∧ ∀ k v, l[k]? = some v → c.get (off + k) = some v
  | 0, acc, cs, h => by
    simp only [rdCells, Option.some.injEq] at h
    exact ⟨[], h.symm, rfl, fun k v h => by simp at h⟩
  | n + 1, acc, cs, h => by
    simp only [rdCells] at h
    split at h
    · cases h
    · rename_i v hv
      obtain ⟨l, e1, e2, e3⟩ := rdCells_acc c off n _ cs h
      refine ⟨l ++ [v], by rw [e1]; simp, by simp [e2], ?_⟩
      intro k x hk
      by_cases hlt : k < n
      · rw [List.getElem?_append_left (by omega)] at hk
        exact e3 k x hk
      · rw [List.getElem?_append_right (by omega)] at hk
        have : k = n := by
          have := (List.getElem?_eq_some_iff.1 hk).1
          simp at this; omega
        subst this
        rw [e2, Nat.sub_self] at hk
        simp only [List.getElem?_cons_zero, Option.some.injEq] at hk
        subst hk
        exact hv
theorem rdCells_get {c : Tr Value} {off n : Nat} {cs : List Value} (h : rdCells c off n [] = some cs) : cs.length = n ∧ ∀ k v, cs[k]? = some v → c.get (off + k) = some v := by
  obtain ⟨l, e1, e2, e3⟩ := rdCells_acc c off n [] cs h
  simp only [List.append_nil] at e1
  subst e1
  exact ⟨e2, e3⟩
section
variable {E : Env} {f : Nat} {a b : Code} {fr fr1 : Fr} {s s1 : S} {id : Nat}
theorem ev_seq (h : ev E f (.code a fr) s = some (.fr .normal fr1, s1)) : ev E (f + 1) (.code (.seq a b) fr) s = ev E f (.code b fr1) s1 := by
  simp only [ev, evCode, h]
theorem ev_block (h : ev E f (.code a fr) s = some (.fr .normal fr1, s1)) : ev E (f + 1) (.code (.block id a) fr) s = some (.fr .normal fr1, s1) := by
  simp only [ev, evCode, h]
theorem ev_block_exit (h : ev E f (.code a fr) s = some (.fr (.exit id) fr1, s1)) : ev E (f + 1) (.code (.block id a) fr) s = some (.fr .normal fr1, s1) := by
  have e : Nat.beq id id = true := beq_iff.2 rfl
  simp only [ev, evCode, h, e]
theorem ev_cond {c : Operand} (h : fr.ev c = some (.bool true)) : ev E (f + 1) (.code (.cond c a b) fr) s = ev E f (.code a fr) s := by
  simp only [ev, evCode, h]
theorem ev_cond_not {c : Operand} (h : fr.ev c = some (.bool false)) : ev E (f + 1) (.code (.cond c a b) fr) s = ev E f (.code b fr) s := by
  simp only [ev, evCode, h]
theorem ev_loop (h : ev E f (.code a fr) s = some (.fr .normal fr1, s1)) : ev E (f + 1) (.code (.loop a) fr) s = ev E f (.code (.loop a) fr1) s1 := by
  simp only [ev, evCode, h]
theorem ev_loop_exit (h : ev E f (.code a fr) s = some (.fr (.exit id) fr1, s1)) : ev E (f + 1) (.code (.loop a) fr) s = some (.fr (.exit id) fr1, s1) := by
  simp only [ev, evCode, h]
theorem ev_leave : ev E (f + 1) (.leave fr) s = evLeave (ev E f) E fr s := rfl
theorem ev_next {n : ANext} : ev E (f + 1) (.next n) s = evNext (ev E f) E n s := rfl
theorem ev_skip : ev E (f + 1) (.code .skip fr) s = some (.fr .normal fr, s) := rfl
theorem ev_exit : ev E (f + 1) (.code (.exit id) fr) s = some (.fr (.exit id) fr, s) := rfl
theorem ev_ret : ev E (f + 1) (.code .ret fr) s = some (.fr .ret fr, s) := rfl
theorem ev_seq_exit (h : ev E f (.code a fr) s = some (.fr (.exit id) fr1, s1)) : ev E (f + 1) (.code (.seq a b) fr) s = some (.fr (.exit id) fr1, s1) := by
  simp only [ev, evCode, h]
end
/-- parts of code -/
def sub : List Nat → Code → Code
  | 0 :: p, .seq a _ => sub p a
  | 1 :: p, .seq _ b => sub p b
  | _ :: p, .block _ b => sub p b
  | _ :: p, .loop b => sub p b
  | _, c => c
def bodyOf (g : Func) : Code := match g.body with | some c => c | none => .skip
/-- the block n has these cells, so many -/
def Has (s : S) (n : Nat) (c : Tr Value) (m : Nat) : Prop := (∃ e rm, s.heap.get n = some (.cells c m e rm)) ∨ (∃ e, s.heap.get n = some (.row c m e))
theorem load_inv {β : Type} {ad : Addr} {n : Nat} {k : List Value → AM β} {s : S} {r : β × S} (h : (loadA ad n k).run s = some r) :
    ∃ c m cs, ad.spot = none ∧ ad.block < s.next ∧ Has s ad.block c m ∧ ad.off + n ≤ m ∧ rdCells c ad.off n [] = some cs ∧ (k cs).run (s.seen ad.block) = some r := by
  unfold loadA at h
  split at h
  · cases h
  · rename_i hspot
    have hlt : ad.block < s.next := by
      simp only [AM.run] at h
      split at h
      · cases h
      · rename_i hb; exact blt_iff.1 hb
    obtain ⟨o, ho, h2⟩ := run_get h
    split at h2
    · obtain ⟨hm, h3⟩ := run_when h2
      obtain ⟨cs, hcs, h4⟩ := run_opt h3
      exact ⟨_, _, cs, hspot, hlt, .inl ⟨_, _, ho⟩, ble_iff.1 hm, hcs, h4⟩
    · obtain ⟨hm, h3⟩ := run_when h2
      obtain ⟨cs, hcs, h4⟩ := run_opt h3
      exact ⟨_, _, cs, hspot, hlt, .inr ⟨_, ho⟩, ble_iff.1 hm, hcs, h4⟩
    · cases h2
theorem Has.of {s s1 : S} {n : Nat} {c : Tr Value} {m : Nat} (h : Has s n c m) (hg : s1.heap.get n = s.heap.get n) : Has s1 n c m := by
  unfold Has at *
  rw [hg]
  exact h
end Go.AE
