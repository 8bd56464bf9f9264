/- Rows of cells: what is read of them, what is written into them. No program is named here. -/
import Derived.Test.YtgofanjbhbeniaaDoorAe31
noncomputable section
namespace Go.AE
set_option linter.unusedVariables false
set_option linter.unusedSimpArgs false

theorem get_ofFrom {α : Type} : ∀ (l : List α) (i : Nat) (t : Tr α) (m : Nat), i + l.length ≤ Tr.wide → (Tr.ofFrom l i t).get m = if i ≤ m ∧ m < i + l.length then l[m - i]? else t.get m
  | [], i, t, m, h => by simp only [Tr.ofFrom, List.length_nil]; rw [if_neg (by omega)]
  | a :: l, i, t, m, h => by
    simp only [List.length_cons] at h ⊢
    have h1 := get_ofFrom l (Nat.succ i) (t.put i (some a)) m (by rw [Nat.succ_eq_add_one]; omega)
    show (Tr.ofFrom l (Nat.succ i) (t.put i (some a))).get m = _
    rw [h1, Tr.get_put _ _ _ _ (by omega)]
    simp only [Nat.succ_eq_add_one]
    by_cases h2 : m = i
    · subst h2
      rw [if_neg (by omega), if_pos rfl, if_pos (by omega), Nat.sub_self]; rfl
    · by_cases h3 : i + 1 ≤ m ∧ m < i + 1 + l.length
      · rw [if_pos h3, if_pos (by omega)]
        obtain ⟨k, rfl⟩ : ∃ k, m = i + 1 + k := ⟨m - (i + 1), by omega⟩
        rw [show i + 1 + k - (i + 1) = k by omega, show i + 1 + k - i = k + 1 by omega]; rfl
      · rw [if_neg h3, if_neg h2, if_neg (by omega)]
theorem get_ofList {α : Type} (l : List α) (m : Nat) (h : l.length ≤ Tr.wide) : (Tr.ofList l).get m = l[m]? := by
  unfold Tr.ofList
  rw [get_ofFrom l 0 .nil m (by omega)]
  by_cases hm : m < l.length
  · rw [if_pos (by omega), Nat.sub_zero]
  · rw [if_neg (by omega), Tr.get_nil, List.getElem?_eq_none (by omega)]
theorem get_wr : ∀ (vs : List Value) (c : Tr Value) (off m : Nat), off + vs.length ≤ Tr.wide → (wrCells c off vs).get m = if off ≤ m ∧ m < off + vs.length then vs[m - off]? else c.get m
  | [], c, off, m, h => by simp only [wrCells, List.length_nil]; rw [if_neg (by omega)]
  | v :: l, c, off, m, h => by
    simp only [List.length_cons] at h ⊢
    have h1 := get_wr l (c.put off (some v)) (Nat.succ off) m (by rw [Nat.succ_eq_add_one]; omega)
    show (wrCells (c.put off (some v)) (Nat.succ off) l).get m = _
    rw [h1, Tr.get_put _ _ _ _ (by omega)]
    simp only [Nat.succ_eq_add_one]
    by_cases h2 : m = off
    · subst h2
      rw [if_neg (by omega), if_pos rfl, if_pos (by omega), Nat.sub_self]; rfl
    · by_cases h3 : off + 1 ≤ m ∧ m < off + 1 + l.length
      · rw [if_pos h3, if_pos (by omega)]
        obtain ⟨k, rfl⟩ : ∃ k, m = off + 1 + k := ⟨m - (off + 1), by omega⟩
        rw [show off + 1 + k - (off + 1) = k by omega, show off + 1 + k - off = k + 1 by omega]; rfl
      · rw [if_neg h3, if_neg h2, if_neg (by omega)]

/-- a row's cells -/
def Row (c : Tr Value) (off : Nat) (l : List Value) : Prop := ∀ k v, l[k]? = some v → c.get (off + k) = some v
theorem rd_acc (c : Tr Value) (off : Nat) : ∀ (n : Nat) (l acc : List Value), l.length = n → Row c off l → rdCells c off n acc = some (l ++ acc)
  | 0, l, acc, hl, h => by
    have : l = [] := List.eq_nil_of_length_eq_zero hl
    subst this; rfl
  | n + 1, l, acc, hl, h => by
    obtain ⟨v, hv⟩ : ∃ v, l[n]? = some v := ⟨_, List.getElem?_eq_getElem (by omega)⟩
    have h1 := h n v hv
    have hsplit : l = l.take n ++ [v] := by
      have e : l = l.take n ++ l.drop n := (List.take_append_drop n l).symm
      have e2 : l.drop n = [v] := by
        apply List.ext_getElem?
        intro i
        rw [List.getElem?_drop]
        cases i with
        | zero => simpa using hv
        | succ i => rw [List.getElem?_eq_none (by omega)]; simp
      rw [e2] at e
      exact e
    simp only [rdCells]
    rw [show Nat.add off n = off + n from rfl, h1]
    simp only
    rw [rd_acc c off n (l.take n) (v :: acc) (by simp; omega) (fun k u hk => h k u (by
      have hkn : k < n := by
        rcases Nat.lt_or_ge k n with hh | hh
        · exact hh
        · rw [List.getElem?_eq_none (by simp; omega)] at hk; cases hk
      rw [List.getElem?_take, if_pos hkn] at hk
      exact hk))]
    have e : l ++ acc = (l.take n ++ [v]) ++ acc := by rw [← hsplit]
    rw [e, List.append_assoc]; rfl
theorem rd_row {c : Tr Value} {off : Nat} {l : List Value} (h : Row c off l) : rdCells c off l.length [] = some l := by
  have := rd_acc c off l.length l [] rfl h
  rw [List.append_nil] at this
  exact this
theorem row_of_rd {c : Tr Value} {off n : Nat} {l : List Value} (h : rdCells c off n [] = some l) : l.length = n ∧ Row c off l := by
  obtain ⟨h1, h2⟩ := rdCells_get h
  exact ⟨h1, fun k v hk => h2 k v hk⟩
theorem row_ofList (l : List Value) (h : l.length ≤ Tr.wide) : Row (Tr.ofList l) 0 l := fun k v hk => by rw [Nat.zero_add, get_ofList l k h]; exact hk
theorem row_app {c : Tr Value} {off : Nat} {a b : List Value} (h : Row c off a) (h' : Row c (off + a.length) b) : Row c off (a ++ b) := by
  intro k v hk
  by_cases hka : k < a.length
  · rw [List.getElem?_append_left hka] at hk; exact h k v hk
  · rw [List.getElem?_append_right (by omega)] at hk
    have := h' (k - a.length) v hk
    rw [show off + a.length + (k - a.length) = off + k by omega] at this
    exact this
theorem row_wr {c : Tr Value} {off : Nat} {vs : List Value} (h : off + vs.length ≤ Tr.wide) : Row (wrCells c off vs) off vs := by
  intro k v hk
  have hlt := (List.getElem?_eq_some_iff.1 hk).1
  rw [get_wr vs c off (off + k) h, if_pos (by omega), show off + k - off = k by omega]
  exact hk
theorem row_wr_far {c : Tr Value} {off o : Nat} {vs l : List Value} (h : o + vs.length ≤ Tr.wide) (hr : Row c off l) (hf : off + l.length ≤ o ∨ o + vs.length ≤ off) : Row (wrCells c o vs) off l := by
  intro k v hk
  have hlt := (List.getElem?_eq_some_iff.1 hk).1
  rw [get_wr vs c o (off + k) h, if_neg (by omega)]
  exact hr k v hk
theorem Row.sub {c : Tr Value} {off : Nat} {l : List Value} (h : Row c off l) (i n : Nat) : Row c (off + i) ((l.drop i).take n) := by
  intro k v hk
  rw [List.getElem?_take] at hk
  split at hk
  · rw [List.getElem?_drop] at hk
    have := h (i + k) v hk
    rw [← Nat.add_assoc] at this
    exact this
  · cases hk

theorem ret_intro {E : Env} {f : FuncId} {fi : FI} {Q : Value → S → Prop} {fr : Fr} {s s' : S} {v : Value} (fn : fr.fn = f) (df : fr.defers = []) (run : (resultsM E fr fi).run s = some (v, s')) (q : Q v s') : Ret E f fi Q .ret fr s := ⟨fn, df, v, s', run, q⟩
theorem end_intro {E : Env} {f : FuncId} {fi : FI} {Q : Value → S → Prop} {fr : Fr} {s s' : S} {v : Value} (fn : fr.fn = f) (df : fr.defers = []) (run : (resultsM E fr fi).run s = some (v, s')) (q : Q v s') : Ret E f fi Q .normal fr s := ⟨fn, df, v, s', run, q⟩

/-- memory that was read, no more -/
structure Rd (s s' : S) : Prop where
  heap : s'.heap = s.heap
  next : s'.next = s.next
  mark : s'.mark = s.mark
theorem Rd.refl (s : S) : Rd s s := ⟨rfl, rfl, rfl⟩
theorem Rd.trans {a b c : S} (h : Rd a b) (h' : Rd b c) : Rd a c := ⟨h'.heap.trans h.heap, h'.next.trans h.next, h'.mark.trans h.mark⟩
theorem Rd.seen (s : S) (n : Nat) : Rd s (s.seen n) := ⟨rfl, rfl, rfl⟩
theorem Rd.less {s s1 s2 : S} (h : Rd s s1) (h' : Rd s s2) : Less' s1 s2 := ⟨by rw [h.next, h'.next]; exact Nat.le_refl _, fun n o e => ⟨o, by rw [h.heap, ← h'.heap]; exact e, .refl o⟩⟩

/-! bytes -/
def bv (x : UInt8) : Value := .int .u8 (.ofNat x.toNat)
def byteA : Value → Option UInt8
  | .int .u8 (.ofNat x) => match Nat.blt x 256 with | true => some (UInt8.ofNat x) | false => none
  | _ => none
def bytesV : List Value → Option (List UInt8)
  | [] => some []
  | v :: l => match byteA v with
    | none => none
    | some x => match bytesV l with
      | none => none
      | some r => some (x :: r)
theorem byteA_inv {v : Value} {x : UInt8} (h : byteA v = some x) : v = bv x := by
  unfold byteA at h
  split at h
  · rename_i n
    split at h
    · rename_i hb
      have := blt_iff.1 hb
      cases h
      unfold bv
      rw [UInt8.toNat_ofNat_of_lt' (by simpa using this)]
    · cases h
  · cases h
theorem byteA_bv (x : UInt8) : byteA (bv x) = some x := by
  have h : x.toNat < 256 := x.toNat_lt
  unfold byteA bv
  simp only [blt_iff.2 h]
  rw [UInt8.ofNat_toNat]
theorem bytesV_inv : ∀ {l : List Value} {bs : List UInt8}, bytesV l = some bs → l = bs.map bv
  | [], bs, h => by cases h; rfl
  | v :: l, bs, h => by
    simp only [bytesV] at h
    cases hv : byteA v with
    | none => rw [hv] at h; cases h
    | some x =>
      rw [hv] at h
      cases hl : bytesV l with
      | none => rw [hl] at h; cases h
      | some r =>
        rw [hl] at h
        cases h
        rw [byteA_inv hv, bytesV_inv hl]; rfl
theorem bytesV_map : ∀ (bs : List UInt8), bytesV (bs.map bv) = some bs
  | [] => rfl
  | x :: l => by simp only [List.map_cons, bytesV, byteA_bv, bytesV_map l]
end Go.AE
