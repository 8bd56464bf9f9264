/- Each operation over the named memory does what the world's does: reads, writes, new rows, numbers. No program is named here. -/
import Derived.Test.YtgofanjbhbeniaaDoorAe5
noncomputable section
namespace Go.AE
set_option linter.unusedVariables false
set_option linter.unusedSimpArgs false

inductive NR (ρ : Ren) : ANext → Next → Prop
  | value {v v'} : VR ρ v v' → NR ρ (.value v) (.value v')
  | skip : NR ρ (.value undefV) .skip
  | enter {f a a'} : LR ρ a a' → NR ρ (.enter f a) (.enter f ⟨a'⟩)
  | round {l b base ex fn t n a as bd} : ρ l = some (b, base, ex) → TR ρ t n a → n ≤ lastName → NR ρ (.round l fn t n as bd) (.round b fn a as bd)
  | defer {d d'} : DR ρ d d' → NR ρ (.defer d) (.defer d')

def OpRes (P : Program) (q : Free) (ρ : Ren) (w : World) (s' : S) (nx : ANext) (qr : Result Next) : Prop :=
  ∃ ρ' nx' w', qr = .ok nx' w' ∧ Rep P q ρ' s' w' ∧ Evo ρ w ρ' w' ∧ NR ρ' nx nx'
def ValRes (P : Program) (q : Free) (ρ : Ren) (w : World) (s' : S) (nx : ANext) (qr : Result Value) : Prop :=
  ∃ ρ' v v' w', nx = .value v ∧ qr = .ok v' w' ∧ Rep P q ρ' s' w' ∧ Evo ρ w ρ' w' ∧ VR ρ' v v'
def UnitRes (P : Program) (q : Free) (ρ : Ren) (w : World) (s' : S) (nx : ANext) (qr : Result Unit) : Prop :=
  ∃ ρ' w', nx = .value undefV ∧ qr = .ok () w' ∧ Rep P q ρ' s' w' ∧ Evo ρ w ρ' w'

section
variable {P : Program} {E : Env} {q : Free} {ρ : Ren} {s s' : S} {w : World} {fr : Fr} {e : Operand → Value} {nx : ANext}

theorem run_val {v : Value} (h : (val v).run s = some (nx, s')) : nx = .value v ∧ s' = s := by
  simp only [val, AM.run, Option.some.injEq, Prod.mk.injEq] at h
  exact ⟨h.1.symm, h.2.symm⟩
theorem ValRes.op {qs : Sem Value} (h : ValRes P q ρ w s' nx (qs.run P w)) : OpRes P q ρ w s' nx ((do pure (Next.value (← qs)) : Sem Next).run P w) := by
  obtain ⟨ρ', v, v', w', rfl, hq, a, b, c⟩ := h
  exact ⟨ρ', _, w', by simp [hq], a, b, .value c⟩
theorem UnitRes.op {qs : Sem Unit} (h : UnitRes P q ρ w s' nx (qs.run P w)) : OpRes P q ρ w s' nx ((do qs; pure Next.skip : Sem Next).run P w) := by
  obtain ⟨ρ', w', rfl, hq, a, b⟩ := h
  exact ⟨ρ', _, w', by simp [hq], a, b, .skip⟩
theorem ValRes.here (hR : Rep P q ρ s w) {v v' : Value} (hv : VR ρ v v') {qr : Result Value} (hq : qr = .ok v' w) (h : (val v).run s = some (nx, s')) : ValRes P q ρ w s' nx qr := by
  obtain ⟨rfl, rfl⟩ := run_val h
  exact ⟨ρ, v, v', w, rfl, hq, hR, Evo.refl _ _, hv⟩

theorem new_sim0 (hR : Rep P q ρ s w) {t : TypeId} {vs vs' : List Value} (hv : LR ρ vs vs') {k : Nat → AM ANext} (hl : s'.next ≤ q.hi)
    (h : (newA t vs .whole k).run s = some (nx, s')) :
    ∃ s1 ρ1, (k s.next).run s1 = some (nx, s') ∧ Rep P q ρ1 s1 { w with heap := w.heap.push (.cells ⟨vs'⟩ t) } ∧ Evo ρ w ρ1 { w with heap := w.heap.push (.cells ⟨vs'⟩ t) } ∧ ρ1 s.next = some (w.heap.size, 0, 0) := by
  have := new_sim (rest := []) trivial hR hv 0 (by intro h; cases h) hl h
  simpa using this

theorem aAlloc_sound (hE : EnvOK P E) (hl : s'.next ≤ q.hi) (hR : Rep P q ρ s w) {t : TypeId} (h : (aAlloc E t).run s = some (nx, s')) :
    ValRes P q ρ w s' nx ((Instr.alloc t true (.tuple #[])).run P w) := by
  obtain ⟨i, hi, h⟩ := run_opt h
  obtain ⟨z, hz, h⟩ := run_opt h
  obtain ⟨s1, ρ1, h, a, b, c⟩ := new_sim0 hR (still_cells (zero_still hE hi hz)) hl h
  obtain ⟨rfl, rfl⟩ := run_val h
  refine ⟨ρ1, _, _, _, rfl, ?_, a, b, .ptr ⟨s.next, 0, w.heap.size, 0, 0, c, rfl, rfl⟩⟩
  simp [Instr.alloc, run_zero hE hi w hz, newVar, newRow]

theorem aBox_sound (hE : EnvOK P E) (hl : s'.next ≤ q.hi) (hR : Rep P q ρ s w) (hev : ∀ x v, fr.ev x = some v → VR ρ v (e x)) {t : TypeId} {x : Operand} (h : (aBox fr t x).run s = some (nx, s')) :
    ValRes P q ρ w s' nx ((Instr.box t (e x)).run P w) := by
  obtain ⟨v, hv, h⟩ := run_opt h
  obtain ⟨s1, ρ1, h, a, b, c⟩ := new_sim0 hR (hev _ _ hv).cells hl h
  obtain ⟨rfl, rfl⟩ := run_val h
  refine ⟨ρ1, _, _, _, rfl, ?_, a, b, .ptr ⟨s.next, 0, w.heap.size, 0, 0, c, rfl, rfl⟩⟩
  simp [Instr.box, newVar, newRow]

theorem loadT_sound {β : Type} (hE : EnvOK P E) (hR : Rep P q ρ s w) {t : TypeId} {i : TI} (hi : E.ty.get t = some i) {a a' : Addr} (ha : AddrR ρ a a') {k : Value → AM β} {r} (h : (loadT i a k).run s = some r) :
    ∃ v v' s1, (k v).run s1 = some r ∧ s1 = s.seen a.block ∧ VR ρ v v' ∧ (loadVar t a').run P w = .ok v' w := by
  unfold loadT at h
  cases hd : isAggD i.desc with
  | true =>
    rw [hd] at h
    obtain ⟨vs, vs', s1, h, e1, e2, e3, e4, e5⟩ := load_sim hR ha h
    refine ⟨_, _, s1, h, e1, .agg e2, ?_⟩
    simp [loadVar, run_agg hE hi, hd, run_size hE hi, e4]
  | false =>
    rw [hd] at h
    obtain ⟨vs, vs', s1, h, e1, e2, e3, e4, e5⟩ := load_sim hR ha h
    split at h
    · rename_i v
      cases e2 with
      | cons x y =>
        cases y
        rename_i v'
        refine ⟨v, v', s1, h, e1, x, ?_⟩
        have := e5 0 v' (by simp)
        simp only [Addr.add, if_true] at this
        simp [loadVar, run_agg hE hi, hd, this]
    · cases h

theorem aLoad_sound (hE : EnvOK P E) (hR : Rep P q ρ s w) (hev : ∀ x v, fr.ev x = some v → VR ρ v (e x)) {t : TypeId} {x : Operand} (h : (aLoad E fr t x).run s = some (nx, s')) :
    ValRes P q ρ w s' nx ((Instr.loadAt t (e x)).run P w) := by
  unfold aLoad at h
  split at h
  · rename_i a ha
    obtain ⟨a', ea, har⟩ := (hev _ _ ha).ptr_inv
    obtain ⟨i, hi, h⟩ := run_opt h
    obtain ⟨v, v', s1, h, rfl, hv, hl⟩ := loadT_sound hE hR hi har h
    exact .here (hR.seen _) hv (by simp [Instr.loadAt, Instr.sureAddr, ea, hl]) h
  · cases h

theorem aStore_sound (hE : EnvOK P E) (hR : Rep P q ρ s w) (hev : ∀ x v, fr.ev x = some v → VR ρ v (e x)) {t : TypeId} {a x : Operand} (h : (aStore E fr t a x).run s = some (nx, s')) :
    UnitRes P q ρ w s' nx ((Instr.storeAt t (e a) (e x)).run P w) := by
  unfold aStore at h
  split at h
  · rename_i ad v ha hx
    obtain ⟨a', ea, har⟩ := (hev _ _ ha).ptr_inv
    have hv := hev _ _ hx
    obtain ⟨i, hi, h⟩ := run_opt h
    obtain ⟨hs, h⟩ := run_when h
    have hs := beq_iff.1 hs
    have hlen : (e x).cells.size = i.size := by
      have := hv.cells.length
      simp at this hs
      omega
    cases hz : i.size with
    | zero =>
      rw [hz] at h
      obtain ⟨rfl, rfl⟩ := run_val h
      refine ⟨ρ, w, rfl, ?_, hR, Evo.refl _ _⟩
      have : (e x).cells.toList = [] := by
        apply List.eq_nil_of_length_eq_zero; rw [Array.length_toList]; omega
      simp [Instr.storeAt, Instr.sureAddr, ea, storeVar, run_size hE hi, hlen, this, storeCells]
    | succ z =>
      rw [hz] at h
      obtain ⟨s1, w1, h, a1, a2, a3⟩ := store_sim hR har hv.cells h
      obtain ⟨rfl, rfl⟩ := run_val h
      refine ⟨ρ, w1, rfl, ?_, a1, a2⟩
      simp [Instr.storeAt, Instr.sureAddr, ea, storeVar, run_size hE hi, hlen, a3]
  · cases h

theorem aPick_sound (hR : Rep P q ρ s w) (hev : ∀ x v, fr.ev x = some v → VR ρ v (e x)) {c a b : Operand} (h : (aPick fr c a b).run s = some (nx, s')) :
    OpRes P q ρ w s' nx ((do pure (Next.value (if ← asBool (e c) then e a else e b)) : Sem Next).run P w) := by
  unfold aPick at h
  split at h
  · rename_i hc
    obtain ⟨v, hv, h⟩ := run_opt h
    obtain ⟨rfl, rfl⟩ := run_val h
    exact ⟨ρ, _, w, by simp [(hev _ _ hc).bool_inv, asBool], hR, Evo.refl _ _, .value (hev _ _ hv)⟩
  · rename_i hc
    obtain ⟨v, hv, h⟩ := run_opt h
    obtain ⟨rfl, rfl⟩ := run_val h
    exact ⟨ρ, _, w, by simp [(hev _ _ hc).bool_inv, asBool], hR, Evo.refl _ _, .value (hev _ _ hv)⟩
  · cases h

theorem addA_R {a a' : Addr} (h : AddrR ρ a a') (n : Nat) : AddrR ρ (addA a n) (a'.add n) := by
  obtain ⟨nm, off, b, base, ex, hρ, rfl, rfl⟩ := h
  cases n with
  | zero => exact ⟨nm, off, b, base, ex, hρ, rfl, by rw [addr_add]; rfl⟩
  | succ n => exact ⟨nm, off + (n + 1), b, base, ex, hρ, rfl, by rw [addr_add]; simp [Nat.add_assoc]⟩

theorem fieldAt_eq : ∀ (l : List Field) (n : Nat) (f : Field), fieldAt? l n = some f → l[n]? = some f
  | [], n, f, h => by cases n <;> cases h
  | _ :: _, 0, f, h => by cases h; rfl
  | _ :: l, n + 1, f, h => by simpa using fieldAt_eq l n f h

theorem aFieldAddr_sound (hE : EnvOK P E) (hR : Rep P q ρ s w) (hev : ∀ x v, fr.ev x = some v → VR ρ v (e x)) {t : TypeId} {x : Operand} {f : Nat} (h : (aFieldAddr E fr t x f).run s = some (nx, s')) :
    ValRes P q ρ w s' nx ((Instr.fieldAt t (e x) f).run P w) := by
  obtain ⟨i, hi, h⟩ := run_opt h
  split at h
  · rename_i fs a hd hx
    obtain ⟨a', ea, har⟩ := (hev _ _ hx).ptr_inv
    obtain ⟨fd, hf, h⟩ := run_opt h
    obtain ⟨j, hj, h⟩ := run_opt h
    obtain ⟨hs, h⟩ := run_when h
    have hs := ble_iff.1 hs
    refine .here hR (.ptr (addA_R har fd.offset)) ?_ h
    have hf' := fieldAt_eq _ _ _ hf
    simp at hf'
    simp [Instr.fieldAt, run_under hE hi, hd, hf', ea, Instr.sureAddr, fieldPlace, run_size hE hj, show ¬ j.size = 0 by omega]
  · cases h

theorem dropL_eq : ∀ (n : Nat) (l r : List Value), dropL n l = some r → r = l.drop n ∧ n ≤ l.length
  | 0, l, r, h => by cases h; simp
  | n + 1, [], r, h => by cases h
  | n + 1, _ :: l, r, h => by have := dropL_eq n l r h; simpa using this
theorem takeL_eq : ∀ (n : Nat) (l r : List Value), takeL n l = some r → r = l.take n ∧ n ≤ l.length
  | 0, l, r, h => by cases h; simp
  | n + 1, [], r, h => by cases h
  | n + 1, v :: l, r, h => by
    simp only [takeL] at h
    split at h
    · cases h
    · rename_i r' hr
      cases h
      have := takeL_eq n l r' hr
      simp [this.1, this.2]
theorem LR.drop {l l' : List Value} (h : LR ρ l l') : ∀ n, LR ρ (l.drop n) (l'.drop n) := by
  intro n
  induction n generalizing l l' with
  | zero => simpa using h
  | succ n ih => cases h with
    | nil => simpa using LR.nil
    | cons a b => simpa using ih b
theorem LR.take {l l' : List Value} (h : LR ρ l l') : ∀ n, LR ρ (l.take n) (l'.take n) := by
  intro n
  induction n generalizing l l' with
  | zero => simpa using LR.nil
  | succ n ih => cases h with
    | nil => simpa using LR.nil
    | cons a b => simpa using LR.cons a (ih b)

theorem partA_sound (hE : EnvOK P E) {t : TypeId} {i : TI} (hi : E.ty.get t = some i) {cs cs' : List Value} (hc : LR ρ cs cs') {off : Nat} {v : Value} (h : partA i cs off = some v) (w : World) :
    ∃ v', (part t ⟨cs'⟩ off).run P w = .ok v' w ∧ VR ρ v v' := by
  unfold partA at h
  split at h
  · cases h
  · rename_i l hl
    obtain ⟨rfl, hle⟩ := dropL_eq _ _ _ hl
    cases hd : isAggD i.desc with
    | true =>
      rw [hd] at h
      simp only at h
      split at h
      · cases h
      · rename_i r hr
        obtain ⟨rfl, hle2⟩ := takeL_eq _ _ _ hr
        cases h
        refine ⟨_, ?_, .agg ((hc.drop off).take i.size)⟩
        simp [part, run_agg hE hi, hd, run_size hE hi, List.extract_eq_take_drop, Nat.add_sub_cancel_left]
    | false =>
      rw [hd] at h
      simp only at h
      split at h
      · cases h
      · rename_i v0 r hv
        cases h
        have hk : cs[off]? = some v := by
          have : (cs.drop off)[0]? = some v := by rw [hv]; rfl
          simpa using this
        obtain ⟨v', h1, h2⟩ := hc.get _ _ hk
        exact ⟨v', by simp [part, run_agg hE hi, hd, h1], h2⟩

theorem aField_sound (hE : EnvOK P E) (hR : Rep P q ρ s w) (hev : ∀ x v, fr.ev x = some v → VR ρ v (e x)) {t : TypeId} {x : Operand} {f : Nat} (h : (aField E fr t x f).run s = some (nx, s')) :
    ValRes P q ρ w s' nx ((Instr.field t (e x) f).run P w) := by
  obtain ⟨i, hi, h⟩ := run_opt h
  split at h
  · rename_i fs cs hd hx
    obtain ⟨l', ea, har⟩ := (hev _ _ hx).agg_inv
    obtain ⟨fd, hf, h⟩ := run_opt h
    obtain ⟨j, hj, h⟩ := run_opt h
    obtain ⟨v, hv, h⟩ := run_opt h
    obtain ⟨v', h1, h2⟩ := partA_sound hE hj har hv w
    have hf' := fieldAt_eq _ _ _ hf
    simp at hf'
    exact .here hR h2 (by simp [Instr.field, run_under hE hi, hd, hf', ea, asAgg, h1]) h
  · cases h

theorem aIndexAddr_sound (hE : EnvOK P E) (hR : Rep P q ρ s w) (hev : ∀ x v, fr.ev x = some v → VR ρ v (e x)) {t : TypeId} {x ix : Operand} (h : (aIndexAddr E fr t x ix).run s = some (nx, s')) :
    ValRes P q ρ w s' nx ((Instr.indexAt t (e x) (e ix)).run P w) := by
  obtain ⟨i, hi, h⟩ := run_opt h
  split at h
  · rename_i el a len cap k n hd hx hix
    obtain ⟨j, hj, h⟩ := run_opt h
    obtain ⟨hs, h⟩ := run_when h
    have hs := blt_iff.1 hs
    have en := (hev _ _ hix).int_inv
    rcases (hev _ _ hx).slice_inv with ⟨a', ea, har, _⟩ | ⟨nm, off, b, base, ex, c, e1, e2, ea, hρ⟩ | ⟨nm, off, a', cap', e1, e2, e3, ea⟩
    · refine .here hR (.ptr (addA_R har _)) ?_ h
      simp [Instr.indexAt, run_under hE hi, hd, ea, en, asIntOf, run_size hE hj, hs]
    · refine .here hR (.ptr (addA_R ⟨nm, off, b, base, ex, hρ, e1, rfl⟩ _)) ?_ h
      simp [Instr.indexAt, run_under hE hi, hd, ea, en, asIntOf, run_size hE hj, hs]
    · omega
  · rename_i len el a k n hd hx hix
    obtain ⟨j, hj, h⟩ := run_opt h
    obtain ⟨hs, h⟩ := run_when h
    have hs := blt_iff.1 hs
    have en := (hev _ _ hix).int_inv
    obtain ⟨a', ea, har⟩ := (hev _ _ hx).ptr_inv
    refine .here hR (.ptr (addA_R har _)) ?_ h
    simp [Instr.indexAt, run_under hE hi, hd, ea, en, asIntOf, run_size hE hj, hs, Instr.sureAddr]
  · cases h

theorem byteAt_eq : ∀ (l : List UInt8) (n : Nat) (v : Value), byteAt l n = some v → ∃ b, l[n]? = some b ∧ v = .int .u8 b.toNat
  | [], n, v, h => by cases n <;> cases h
  | b :: _, 0, v, h => by cases h; exact ⟨b, rfl, rfl⟩
  | _ :: l, n + 1, v, h => by simpa using byteAt_eq l n v h

theorem aIndex_sound (hE : EnvOK P E) (hR : Rep P q ρ s w) (hev : ∀ x v, fr.ev x = some v → VR ρ v (e x)) {t : TypeId} {x ix : Operand} (h : (aIndex E fr t x ix).run s = some (nx, s')) :
    ValRes P q ρ w s' nx ((Instr.index t (e x) (e ix)).run P w) := by
  obtain ⟨i, hi, h⟩ := run_opt h
  split at h
  · rename_i len el cs k n hd hx hix
    obtain ⟨j, hj, h⟩ := run_opt h
    obtain ⟨hs, h⟩ := run_when h
    obtain ⟨v, hv, h⟩ := run_opt h
    have hs := blt_iff.1 hs
    have en := (hev _ _ hix).int_inv
    obtain ⟨l', ea, har⟩ := (hev _ _ hx).agg_inv
    obtain ⟨v', h1, h2⟩ := partA_sound hE hj har hv w
    have h1 : (part el ⟨l'⟩ (n * j.size)).run P w = .ok v' w := h1
    exact .here hR h2 (by simp [Instr.index, run_under hE hi, hd, ea, en, asIntOf, run_size hE hj, hs, h1]) h
  · rename_i str k n hd hx hix
    obtain ⟨v, hv, h⟩ := run_opt h
    have en := (hev _ _ hix).int_inv
    have ea := (hev _ _ hx).string_inv
    obtain ⟨b, hb, rfl⟩ := byteAt_eq _ _ _ hv
    refine .here hR (.flat rfl) ?_ h
    have hlt : n < str.size := by
      have := (List.getElem?_eq_some_iff.1 hb).1
      simpa using this
    have : str[n]? = some b := by
      rw [getElem?_pos str n hlt]
      have h2 := (List.getElem?_eq_some_iff.1 hb).2
      simp only [Option.some.injEq]
      rw [← h2]; rfl
    simp [Instr.index, run_under hE hi, hd, ea, en, asIntOf, this]
  · cases h

theorem aExtract_sound (hR : Rep P q ρ s w) (hev : ∀ x v, fr.ev x = some v → VR ρ v (e x)) {x : Operand} {n : Nat} (h : (aExtract fr x n).run s = some (nx, s')) :
    ValRes P q ρ w s' nx ((Instr.extract (e x) n).run P w) := by
  unfold aExtract at h
  split at h
  · rename_i vs hx
    split at h
    · rename_i v l hv
      obtain ⟨h1, h2⟩ := dropL_eq _ _ _ hv
      obtain ⟨l', ea, har⟩ := (hev _ _ hx).tuple_inv
      have hk : vs[n]? = some v := by
        have : (vs.drop n)[0]? = some v := by rw [← h1]; rfl
        simpa using this
      obtain ⟨v', h3, h4⟩ := har.get _ _ hk
      exact .here hR h4 (by simp [Instr.extract, ea, h3]) h
    · cases h
  · cases h

theorem aNil_sound (hR : Rep P q ρ s w) (hev : ∀ x v, fr.ev x = some v → VR ρ v (e x)) {x : Operand} {o : Oper} (ho : o.op = .nilCheck x) (h : (aNil fr x).run s = some (nx, s')) :
    OpRes P q ρ w s' nx ((execOp e o).run P w) := by
  unfold aNil at h
  split at h
  · rename_i a hx
    obtain ⟨rfl, rfl⟩ := run_val h
    obtain ⟨a', ea, har⟩ := (hev _ _ hx).ptr_inv
    exact ⟨ρ, _, w, by simp [execOp, ho, ea], hR, Evo.refl _ _, .value (.ptr har)⟩
  · rename_i f a b hx
    obtain ⟨rfl, rfl⟩ := run_val h
    obtain ⟨a⟩ := a
    obtain ⟨b⟩ := b
    have hv := hev _ _ hx
    obtain ⟨a', b', ea, h1, h2⟩ := hv.func_inv
    exact ⟨ρ, _, w, by simp [execOp, ho, ea], hR, Evo.refl _ _, .value (.func h1 h2)⟩
  · rename_i f a b hx
    obtain ⟨rfl, rfl⟩ := run_val h
    have hv := hev _ _ hx
    obtain ⟨c, base, ex, ea, h1, rfl, rfl⟩ := hv.yield_inv
    exact ⟨ρ, _, w, by simp [execOp, ho, ea], hR, Evo.refl _ _, .value (.yield h1)⟩
  · cases h
end
end Go.AE
