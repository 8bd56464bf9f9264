/- The tables that a program gives; and a function that is evaluated is a function that is called. No program is named here. -/
import Derived.Test.YtgofanjbhbeniaaDoorAe23
import Derived.Shelf.Spec.BitsCarry
import Derived.Below
noncomputable section
namespace Go.AE
set_option linter.unusedVariables false
set_option linter.unusedSimpArgs false

/-- what the tables ask of the program -/
def tyOK (P : Program) (t : Nat) : Bool := match P.info? t, P.underlying t with
  | some _, some _ => true
  | _, _ => false
def fnOK (g : Func) : Bool := match (FI.of g).ext with
  | 0 => true
  | _ => match Extern.findNext g with
    | none => true
    | some _ => false
def lawful (P : Program) : Bool := Nat.ble P.types.size lastName && Nat.ble P.funcs.size lastName && (List.range P.types.size).all (tyOK P) && P.funcs.toList.all fnOK

theorem find_add64 {fn : Func} (h : fn.name = "math/bits.Add64") : Extern.find fn = some Go.add64Entry := by
  unfold Extern.find
  simp only [h]
  have h1 : Extern.allGenericRows.lookup "math/bits.Add64" = none := by kernel_rfl
  have h2 : Extern.allTypedRows.lookup "math/bits.Add64" = none := by kernel_rfl
  have h3 : Extern.allRows.lookup "math/bits.Add64" = some Go.add64Entry := by kernel_rfl
  rw [h1, h2, h3]
  rfl
theorem find_sub64 {fn : Func} (h : fn.name = "math/bits.Sub64") : Extern.find fn = some Go.Proofs.sub64Entry := by
  unfold Extern.find
  simp only [h]
  have h1 : Extern.allGenericRows.lookup "math/bits.Sub64" = none := by kernel_rfl
  have h2 : Extern.allTypedRows.lookup "math/bits.Sub64" = none := by kernel_rfl
  have h3 : Extern.allRows.lookup "math/bits.Sub64" = some Go.Proofs.sub64Entry := by kernel_rfl
  rw [h1, h2, h3]
  rfl

theorem carry_run {P : Program} (kx ky kc : IntKind) (x y c : Nat) (hc : c ≤ 1) (w : World) :
    (Go.add64Entry #[.int kx x, .int ky y, .int kc c]).run P w = .ok (.tuple #[.int .u64 ((x + y + c) % two64 : Nat), .int .u64 ((x + y + c) / two64 : Nat)]) w := by
  have : c = 0 ∨ c = 1 := by omega
  rcases this with rfl | rfl <;> rfl
theorem borrow_run {P : Program} (kx ky kc : IntKind) (x y c : Nat) (hc : c ≤ 1) (w : World) :
    (Go.Proofs.sub64Entry #[.int kx x, .int ky y, .int kc c]).run P w = .ok (.tuple #[.int .u64 ((x + two64 - y - c) % two64 : Nat), .int .u64 ((if x < y + c then 1 else 0 : Nat) : Int)]) w := by
  have : c = 0 ∨ c = 1 := by omega
  rcases this with rfl | rfl <;> rfl

theorem LR.three {ρ : Ren} {a b c : Value} {l' : List Value} (h : LR ρ [a, b, c] l') : ∃ a' b' c', l' = [a', b', c'] ∧ VR ρ a a' ∧ VR ρ b b' ∧ VR ρ c c' := by
  cases h with
  | cons x y => cases y with
    | cons x2 y => cases y with
      | cons x3 y => cases y; exact ⟨_, _, _, rfl, x, x2, x3⟩

theorem ext_cases (fn : Func) : (FI.of fn).ext = 0 ∨ ((FI.of fn).ext = 1 ∧ fn.body = none ∧ fn.name = "math/bits.Add64") ∨ ((FI.of fn).ext = 2 ∧ fn.body = none ∧ fn.name = "math/bits.Sub64") := by
  simp only [FI.of]
  cases hb : fn.body with
  | some b => exact .inl rfl
  | none =>
    by_cases e1 : fn.name = "math/bits.Add64"
    · exact .inr (.inl ⟨if_pos e1, rfl, e1⟩)
    · by_cases e2 : fn.name = "math/bits.Sub64"
      · exact .inr (.inr ⟨by rw [if_neg e1, if_pos e2], rfl, e2⟩)
      · exact .inl (by rw [if_neg e1, if_neg e2])
theorem fnOK_next {fn : Func} (h : fnOK fn = true) {n : Nat} (he : (FI.of fn).ext = n + 1) : Extern.findNext fn = none := by
  unfold fnOK at h
  rw [he] at h
  simp only at h
  cases hf : Extern.findNext fn with
  | none => rfl
  | some e => rw [hf] at h; cases h

theorem ext_run {P : Program} {f : FuncId} {fn : Func} {v : Value} {args : List Value} (hf : P.funcs[f]? = some fn) (hok : fnOK fn = true) (h : extA (FI.of fn).ext args = some v) (w : World) (args' : List Value)
    (ha : LR (fun _ => none) args args') : (callFunc f ⟨args'⟩).run P w = .ok (.value v) w := by
  unfold extA at h
  split at h
  · rename_i x y c
    split at h
    · rename_i xn yn cn hx hy hc
      obtain ⟨x', y', c', rfl, r1, r2, r3⟩ := ha.three
      obtain ⟨kx, rfl, rfl⟩ := natOf_inv hx r1
      obtain ⟨ky, rfl, rfl⟩ := natOf_inv hy r2
      obtain ⟨kc, rfl, rfl⟩ := natOf_inv hc r3
      split at h
      · rename_i hb he
        cases h
        have hcn := ble_iff.1 hb
        obtain ⟨g1, g3⟩ : fn.body = none ∧ fn.name = "math/bits.Add64" := by
          rcases ext_cases fn with e | ⟨e, g⟩ | ⟨e, g⟩
          · rw [he] at e; cases e
          · exact g
          · rw [he] at e; cases e
        rw [run_callFunc_extern hf (by rw [g3]; decide) (by rw [g1]; rfl) (fnOK_next hok he) (find_add64 g3)]
        have := carry_run (P := P) kx ky kc xn yn cn hcn w
        have e := congrArg (fun r => r.andThen fun v w' => Result.ok (Next.value v) w') this
        refine e.trans ?_
        rfl
      · rename_i hb he
        cases h
        have hcn := ble_iff.1 hb
        obtain ⟨g1, g3⟩ : fn.body = none ∧ fn.name = "math/bits.Sub64" := by
          rcases ext_cases fn with e | ⟨e, g⟩ | ⟨e, g⟩
          · rw [he] at e; cases e
          · rw [he] at e; cases e
          · exact g
        rw [run_callFunc_extern hf (by rw [g3]; decide) (by rw [g1]; rfl) (fnOK_next hok he) (find_sub64 g3)]
        have := borrow_run (P := P) kx ky kc xn yn cn hcn w
        have e := congrArg (fun r => r.andThen fun v w' => Result.ok (Next.value v) w') this
        refine e.trans ?_
        by_cases hlt : xn < yn + cn
        · have : Nat.blt xn (yn.add cn) = true := blt_iff.2 hlt
          rw [this, if_pos hlt]
          rfl
        · have : Nat.blt xn (yn.add cn) = false := by
            cases hq : Nat.blt xn (yn.add cn) with
            | false => rfl
            | true => exact absurd (blt_iff.1 hq) hlt
          rw [this, if_neg hlt]
          rfl
      · cases h
    · cases h
  · cases h

theorem env_ok {P : Program} (h : lawful P = true) : EnvOK P (Env.of P) := by
  simp only [lawful, Bool.and_eq_true, List.all_eq_true] at h
  obtain ⟨⟨⟨h1, h2⟩, h3⟩, h4⟩ := h
  have h1 := ble_iff.1 h1
  have h2 := ble_iff.1 h2
  have hw1 := name_wide h1
  have hw2 := name_wide h2
  refine ⟨?_, ?_, ?_⟩
  · intro t i hi
    have hi := Tr.ofList_get (by simpa using Nat.le_of_lt hw1) hi
    rw [List.getElem?_map] at hi
    have hlt : t < P.types.size := by
      by_cases hlt : t < P.types.size
      · exact hlt
      · rw [List.getElem?_eq_none (by simpa using hlt)] at hi; cases hi
    rw [List.getElem?_range hlt] at hi
    simp only [Option.map_some, Option.some.injEq] at hi
    have h3 := h3 t (List.mem_range.2 hlt)
    unfold tyOK at h3
    unfold TI.of at hi
    cases hinf : P.info? t with
    | none => rw [hinf] at h3; cases h3
    | some ti =>
      rw [hinf] at h3 hi
      cases hund : P.underlying t with
      | none => rw [hund] at h3; cases h3
      | some d =>
        rw [hund] at hi
        simp only at hi
        subst hi
        refine ⟨ti, rfl, rfl, rfl, rfl, ?_, ?_⟩
        · intro z hz
          simp only at hz
          cases hzz : ti.zero with
          | none => rw [hzz] at hz; cases hz
          | some z0 =>
            rw [hzz] at hz
            simp only at hz
            split at hz
            · rename_i hs; cases hz; exact ⟨rfl, hs⟩
            · cases hz
        · intro hg
          simpa using hg
  · intro f g hg
    have hg := Tr.ofList_get (by simpa using Nat.le_of_lt hw2) hg
    rw [List.getElem?_map] at hg
    cases hf : P.funcs.toList[f]? with
    | none => rw [hf] at hg; cases hg
    | some fn => rw [hf] at hg; cases hg; exact ⟨fn, by simpa using hf, rfl⟩
  · intro f fn v args w hf he args' ha
    refine ext_run hf (h4 fn ?_) he w args' ha
    have : P.funcs.toList[f]? = some fn := by simpa using hf
    exact List.mem_of_getElem? this

/-- the world in which nothing is known -/
def s0 : S := ⟨.nil, 0, 0, 0, 0⟩
def isTrue (r : Option (Out × S)) : Bool := match r with
  | some (.val (.bool true), _) => true
  | _ => false

/-- **a function that is evaluated to 'true' is called and returns 'true'**, and leaves what was there as it was -/
theorem calls_true {P : Program} (hP : lawful P = true) (hmix : P.follows .mixedOrders = true) {fuel f : Nat} (h : isTrue (ev (Env.of P) fuel (.next (.enter f [])) s0) = true) (w : World) :
    Calls P f #[] w fun e w' => e = .returned (.bool true) ∧ Go.RowKit.Below w.heap.size w w' := by
  intro cs
  cases hr : ev (Env.of P) fuel (.next (.enter f [])) s0 with
  | none => rw [hr] at h; cases h
  | some p =>
    obtain ⟨o, s'⟩ := p
    rw [hr] at h
    cases o with
    | fr x fr => cases h
    | val v =>
      have hv : v = .bool true := by
        simp only [isTrue] at h
        split at h
        · rename_i he; cases he; rfl
        · cases h
      subst hv
      have hR : Rep P ⟨fun _ => True, 0, s'.next, fun _ => none⟩ (fun _ => none) s0 w := by
        refine ⟨?_, ?_, Nat.le_refl _, fun _ _ _ => trivial, fun _ _ _ => rfl, ?_, (fun _ _ h => by cases h), (fun _ _ _ _ _ _ _ _ h => by cases h), (fun n o _ _ _ ho _ _ => by cases n <;> cases ho)⟩
        · intro n o ho; cases n <;> cases ho
        · intro n m o o' b base ex base' ex' _ ho; cases n <;> cases ho
        · intro n b base ex e; cases e
      obtain ⟨_, _, hF, _⟩ := ev_sim (env_ok hP) hmix fuel
      obtain ⟨ρ', v', w', fr', h1, h2, h3, h4, h5, h6, h7, h8, h9⟩ := hF _ _ f [] [] s0 _ s' w .normal hr (Nat.le_refl _) (Nat.le_refl _) hR .nil cs
      have hv := h3.bool_inv
      subst hv
      refine ⟨.returned (.bool true), w', fr', ⟨rfl, h2.rest.1, h2.rest.2.1, h2.rest.2.2, h2.size, fun k hk => h2.frame k hk (fun n base ex e => by cases e)⟩, h4, h5, h6, h7, h8, h9⟩
end Go.AE
