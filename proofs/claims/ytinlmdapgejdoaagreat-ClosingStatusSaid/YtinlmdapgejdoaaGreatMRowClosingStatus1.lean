/- math/bits' Div64 by two, told (printed by wip/gen/sd2.py). -/
import Derived.Test.YtinlmdapgejdoaaGreatMRowClosingStatus0
section
/- A sum is split: the quotient by ten thousand, all its ways. (printed by wip/gen/sp3.py) -/
noncomputable section
namespace Go.Proofs.YtinlmdapgejdoaaGreat.sp
open AE
set_option linter.unusedSimpArgs false
set_option linter.unusedVariables false
set_option maxRecDepth 10000

def Q0 (h : Int) (lo : Nat) : Bool := !ltI (Int.ofNat (szH h lo)) (wrapA IntKind.u64 (Int.ofNat 10000))
def Gt (h : Int) (lo : Nat) : Bool := (Nat.beq (modN 18446744073709551616 (Int.ofNat 10000)) 10000) && (Nat.blt (szH h lo) 10000) && (Nat.blt (szL h lo) 18446744073709551616)
def qq (h : Int) (lo : Nat) : Nat := (szH h lo * 18446744073709551616 + szL h lo) / 10000
def rr (h : Int) (lo : Nat) : Nat := (szH h lo * 18446744073709551616 + szL h lo) % 10000
def half (r : Nat) : Int := wrapA IntKind.u64 (Int.sub (wrapA IntKind.u64 (Int.ofNat 10000)) (Int.ofNat r))
def C1 (q : Nat) : Bool := !ltI 9223372036854775808 (Int.ofNat q)
def C2 (r : Nat) : Bool := ltI (half r) (Int.ofNat r)
def C3 (r : Nat) : Bool := eqI (Int.ofNat r) (half r)
def C4 (q : Nat) : Bool := eqI (wrapA IntKind.u64 (Int.ofNat (Nat.land (modN (maskOf IntKind.u64) (Int.ofNat q)) (modN (maskOf IntKind.u64) 1)))) 1
def xD (q : Nat) : Int := Int.ofNat q
def xU (q : Nat) : Int := wrapA IntKind.u64 (Int.add (Int.ofNat q) 1)
def FM (x : Int) : Bool := !ltI 9223372036854775808 x
def FP (x : Int) : Bool := !ltI 9223372036854775807 x
def noV : Value := .tuple ⟨[.int .i64 0, .bool false]⟩
def mV (x : Int) : Value := .tuple ⟨[.int .i64 (wrapA .i64 (wrapA .u64 (Int.sub 0 x))), .bool true]⟩
def pV (x : Int) : Value := .tuple ⟨[.int .i64 (wrapA .i64 x), .bool true]⟩
noncomputable def quoE (h : Int) (lo : Nat) (told : List (Nat × Option Bool)) : Option (Value × List (Bool × Bool)) :=
  evVO E (gatesOf gateQ) (sumsOf sigQ) 100 71 [.agg ⟨[.int .i64 h, .int .u64 (.ofNat lo)]⟩, .int .i64 (.ofNat 10000)] told
theorem quo_z (h : Int) (lo : Nat) : quoE h lo [(1, some true)] = some (noV, [(Q0 h lo, true)]) := by kernel_rfl
theorem quo_amf (h : Int) (lo : Nat) : quoE h lo [(1, some false), (0, some true), (0, some false), (6, some true), (2, some true)] = some ((mV (xD (qq h lo))), [(FM (xD (qq h lo)), true), (szM h, true), (C1 (qq h lo), false), (Gt h lo, true), (Q0 h lo, false)]) := by kernel_rfl
theorem quo_amo (h : Int) (lo : Nat) : quoE h lo [(1, some false), (0, some true), (0, some false), (6, some true), (2, some false), (0, some false)] = some (noV, [(!szM h, false), (FM (xD (qq h lo)), false), (szM h, true), (C1 (qq h lo), false), (Gt h lo, true), (Q0 h lo, false)]) := by kernel_rfl
theorem quo_apf (h : Int) (lo : Nat) : quoE h lo [(1, some false), (0, some true), (0, some false), (6, some false), (3, some true), (2, some true)] = some ((pV (xD (qq h lo))), [(FP (xD (qq h lo)), true), (!szM h, true), (szM h, false), (C1 (qq h lo), false), (Gt h lo, true), (Q0 h lo, false)]) := by kernel_rfl
theorem quo_apo (h : Int) (lo : Nat) : quoE h lo [(1, some false), (0, some true), (0, some false), (6, some false), (3, some true), (2, some false)] = some (noV, [(FP (xD (qq h lo)), false), (!szM h, true), (szM h, false), (C1 (qq h lo), false), (Gt h lo, true), (Q0 h lo, false)]) := by kernel_rfl
theorem quo_bmf (h : Int) (lo : Nat) : quoE h lo [(1, some false), (0, some true), (0, some true), (3, some true), (8, some true), (2, some true)] = some ((mV (xU (qq h lo))), [(FM (xU (qq h lo)), true), (szM h, true), (C2 (rr h lo), true), (C1 (qq h lo), true), (Gt h lo, true), (Q0 h lo, false)]) := by kernel_rfl
theorem quo_bmo (h : Int) (lo : Nat) : quoE h lo [(1, some false), (0, some true), (0, some true), (3, some true), (8, some true), (2, some false), (0, some false)] = some (noV, [(!szM h, false), (FM (xU (qq h lo)), false), (szM h, true), (C2 (rr h lo), true), (C1 (qq h lo), true), (Gt h lo, true), (Q0 h lo, false)]) := by kernel_rfl
theorem quo_bpf (h : Int) (lo : Nat) : quoE h lo [(1, some false), (0, some true), (0, some true), (3, some true), (8, some false), (3, some true), (2, some true)] = some ((pV (xU (qq h lo))), [(FP (xU (qq h lo)), true), (!szM h, true), (szM h, false), (C2 (rr h lo), true), (C1 (qq h lo), true), (Gt h lo, true), (Q0 h lo, false)]) := by kernel_rfl
theorem quo_bpo (h : Int) (lo : Nat) : quoE h lo [(1, some false), (0, some true), (0, some true), (3, some true), (8, some false), (3, some true), (2, some false)] = some (noV, [(FP (xU (qq h lo)), false), (!szM h, true), (szM h, false), (C2 (rr h lo), true), (C1 (qq h lo), true), (Gt h lo, true), (Q0 h lo, false)]) := by kernel_rfl
theorem quo_cmf (h : Int) (lo : Nat) : quoE h lo [(1, some false), (0, some true), (0, some true), (3, some false), (3, some false), (8, some true), (2, some true)] = some ((mV (xD (qq h lo))), [(FM (xD (qq h lo)), true), (szM h, true), (C3 (rr h lo), false), (C2 (rr h lo), false), (C1 (qq h lo), true), (Gt h lo, true), (Q0 h lo, false)]) := by kernel_rfl
theorem quo_cmo (h : Int) (lo : Nat) : quoE h lo [(1, some false), (0, some true), (0, some true), (3, some false), (3, some false), (8, some true), (2, some false), (0, some false)] = some (noV, [(!szM h, false), (FM (xD (qq h lo)), false), (szM h, true), (C3 (rr h lo), false), (C2 (rr h lo), false), (C1 (qq h lo), true), (Gt h lo, true), (Q0 h lo, false)]) := by kernel_rfl
theorem quo_cpf (h : Int) (lo : Nat) : quoE h lo [(1, some false), (0, some true), (0, some true), (3, some false), (3, some false), (8, some false), (3, some true), (2, some true)] = some ((pV (xD (qq h lo))), [(FP (xD (qq h lo)), true), (!szM h, true), (szM h, false), (C3 (rr h lo), false), (C2 (rr h lo), false), (C1 (qq h lo), true), (Gt h lo, true), (Q0 h lo, false)]) := by kernel_rfl
theorem quo_cpo (h : Int) (lo : Nat) : quoE h lo [(1, some false), (0, some true), (0, some true), (3, some false), (3, some false), (8, some false), (3, some true), (2, some false)] = some (noV, [(FP (xD (qq h lo)), false), (!szM h, true), (szM h, false), (C3 (rr h lo), false), (C2 (rr h lo), false), (C1 (qq h lo), true), (Gt h lo, true), (Q0 h lo, false)]) := by kernel_rfl
theorem quo_dmf (h : Int) (lo : Nat) : quoE h lo [(1, some false), (0, some true), (0, some true), (3, some false), (3, some true), (7, some true), (0, some true), (2, some true)] = some ((mV (xU (qq h lo))), [(FM (xU (qq h lo)), true), (szM h, true), (C4 (qq h lo), true), (C3 (rr h lo), true), (C2 (rr h lo), false), (C1 (qq h lo), true), (Gt h lo, true), (Q0 h lo, false)]) := by kernel_rfl
theorem quo_dmo (h : Int) (lo : Nat) : quoE h lo [(1, some false), (0, some true), (0, some true), (3, some false), (3, some true), (7, some true), (0, some true), (2, some false), (0, some false)] = some (noV, [(!szM h, false), (FM (xU (qq h lo)), false), (szM h, true), (C4 (qq h lo), true), (C3 (rr h lo), true), (C2 (rr h lo), false), (C1 (qq h lo), true), (Gt h lo, true), (Q0 h lo, false)]) := by kernel_rfl
theorem quo_dpf (h : Int) (lo : Nat) : quoE h lo [(1, some false), (0, some true), (0, some true), (3, some false), (3, some true), (7, some true), (0, some false), (3, some true), (2, some true)] = some ((pV (xU (qq h lo))), [(FP (xU (qq h lo)), true), (!szM h, true), (szM h, false), (C4 (qq h lo), true), (C3 (rr h lo), true), (C2 (rr h lo), false), (C1 (qq h lo), true), (Gt h lo, true), (Q0 h lo, false)]) := by kernel_rfl
theorem quo_dpo (h : Int) (lo : Nat) : quoE h lo [(1, some false), (0, some true), (0, some true), (3, some false), (3, some true), (7, some true), (0, some false), (3, some true), (2, some false)] = some (noV, [(FP (xU (qq h lo)), false), (!szM h, true), (szM h, false), (C4 (qq h lo), true), (C3 (rr h lo), true), (C2 (rr h lo), false), (C1 (qq h lo), true), (Gt h lo, true), (Q0 h lo, false)]) := by kernel_rfl
theorem quo_emf (h : Int) (lo : Nat) : quoE h lo [(1, some false), (0, some true), (0, some true), (3, some false), (3, some true), (7, some false), (0, some true), (2, some true)] = some ((mV (xD (qq h lo))), [(FM (xD (qq h lo)), true), (szM h, true), (C4 (qq h lo), false), (C3 (rr h lo), true), (C2 (rr h lo), false), (C1 (qq h lo), true), (Gt h lo, true), (Q0 h lo, false)]) := by kernel_rfl
theorem quo_emo (h : Int) (lo : Nat) : quoE h lo [(1, some false), (0, some true), (0, some true), (3, some false), (3, some true), (7, some false), (0, some true), (2, some false), (0, some false)] = some (noV, [(!szM h, false), (FM (xD (qq h lo)), false), (szM h, true), (C4 (qq h lo), false), (C3 (rr h lo), true), (C2 (rr h lo), false), (C1 (qq h lo), true), (Gt h lo, true), (Q0 h lo, false)]) := by kernel_rfl
theorem quo_epf (h : Int) (lo : Nat) : quoE h lo [(1, some false), (0, some true), (0, some true), (3, some false), (3, some true), (7, some false), (0, some false), (3, some true), (2, some true)] = some ((pV (xD (qq h lo))), [(FP (xD (qq h lo)), true), (!szM h, true), (szM h, false), (C4 (qq h lo), false), (C3 (rr h lo), true), (C2 (rr h lo), false), (C1 (qq h lo), true), (Gt h lo, true), (Q0 h lo, false)]) := by kernel_rfl
theorem quo_epo (h : Int) (lo : Nat) : quoE h lo [(1, some false), (0, some true), (0, some true), (3, some false), (3, some true), (7, some false), (0, some false), (3, some true), (2, some false)] = some (noV, [(FP (xD (qq h lo)), false), (!szM h, true), (szM h, false), (C4 (qq h lo), false), (C3 (rr h lo), true), (C2 (rr h lo), false), (C1 (qq h lo), true), (Gt h lo, true), (Q0 h lo, false)]) := by kernel_rfl
def upX (c1 c2 c3 c4 : Bool) : Bool := match c1 with
  | false => false
  | true => match c2 with
    | true => true
    | false => match c3 with
      | false => false
      | true => c4
def outX (m fU fD gU gD up : Bool) (q : Nat) : Value := match m with
  | true => match up with
    | true => match fU with | true => mV (xU q) | false => noV
    | false => match fD with | true => mV (xD q) | false => noV
  | false => match up with
    | true => match gU with | true => pV (xU q) | false => noV
    | false => match gD with | true => pV (xD q) | false => noV
def quoX (q0 c1 c2 c3 c4 m fU fD gU gD : Bool) (q : Nat) : Value := match q0 with
  | true => noV
  | false => outX m fU fD gU gD (upX c1 c2 c3 c4) q
def quoV (h : Int) (lo : Nat) : Value := quoX (Q0 h lo) (C1 (qq h lo)) (C2 (rr h lo)) (C3 (rr h lo)) (C4 (qq h lo)) (szM h) (FM (xU (qq h lo))) (FM (xD (qq h lo))) (FP (xU (qq h lo))) (FP (xD (qq h lo))) (qq h lo)
theorem szL_lt (h : Int) {lo : Nat} (hlo : lo < 18446744073709551616) : szL h lo < 18446744073709551616 := by
  cases h with
  | ofNat k => exact hlo
  | negSucc k => exact Nat.mod_lt _ (by decide)
theorem gate_of {h : Int} {lo : Nat} (hlo : lo < 18446744073709551616) (h0 : Q0 h lo = false) : Gt h lo = true := by
  unfold Q0 at h0
  rw [ltI_not] at h0
  have e : wrapA IntKind.u64 (Int.ofNat 10000) = Int.ofNat 10000 := rfl
  rw [e] at h0
  simp at h0
  unfold Gt
  have e2 : modN 18446744073709551616 (Int.ofNat 10000) = 10000 := rfl
  rw [e2]
  simp only [Bool.and_eq_true, beq_iff, blt_iff]
  exact ⟨⟨trivial, by omega⟩, szL_lt h hlo⟩
theorem qnil : ∀ p ∈ ([] : List (Bool × Bool)), p.1 = p.2 := fun p h => by cases h
theorem qcons {a b : Bool} {l : List (Bool × Bool)} (h : a = b) (hl : ∀ p ∈ l, p.1 = p.2) : ∀ p ∈ (a, b) :: l, p.1 = p.2 := by
  intro p hp
  cases hp with
  | head => exact h
  | tail _ h2 => exact hl p h2
theorem quo_all {h : Int} {lo : Nat} {q0 c1 c2 c3 c4 m fU fD gU gD : Bool} (h0 : Q0 h lo = q0) (hg : q0 = false → Gt h lo = true) (h1 : C1 (qq h lo) = c1) (h2 : C2 (rr h lo) = c2) (h3 : C3 (rr h lo) = c3) (h4 : C4 (qq h lo) = c4) (hm : szM h = m)
    (fmU : FM (xU (qq h lo)) = fU) (fmD : FM (xD (qq h lo)) = fD) (fpU : FP (xU (qq h lo)) = gU) (fpD : FP (xD (qq h lo)) = gD) :
    evV E (gated (gatesOf gateQ) (sumsOf sigQ)) 100 71 [.agg ⟨[.int .i64 h, .int .u64 (.ofNat lo)]⟩, .int .i64 (.ofNat 10000)] = some (quoX q0 c1 c2 c3 c4 m fU fD gU gD (qq h lo)) := by
  cases q0 with
  | true => exact evV_of (quo_z h lo) (qcons h0 qnil)
  | false =>
    have hg := hg rfl
    have hn := congrArg not hm
    cases c1 with
    | false =>
      cases m with
      | true => cases fD with
        | true => exact evV_of (quo_amf h lo) (qcons fmD (qcons hm (qcons h1 (qcons hg (qcons h0 qnil)))))
        | false => exact evV_of (quo_amo h lo) (qcons hn (qcons fmD (qcons hm (qcons h1 (qcons hg (qcons h0 qnil))))))
      | false => cases gD with
        | true => exact evV_of (quo_apf h lo) (qcons fpD (qcons hn (qcons hm (qcons h1 (qcons hg (qcons h0 qnil))))))
        | false => exact evV_of (quo_apo h lo) (qcons fpD (qcons hn (qcons hm (qcons h1 (qcons hg (qcons h0 qnil))))))
    | true => cases c2 with
      | true =>
        cases m with
        | true => cases fU with
          | true => exact evV_of (quo_bmf h lo) (qcons fmU (qcons hm (qcons h2 (qcons h1 (qcons hg (qcons h0 qnil))))))
          | false => exact evV_of (quo_bmo h lo) (qcons hn (qcons fmU (qcons hm (qcons h2 (qcons h1 (qcons hg (qcons h0 qnil)))))))
        | false => cases gU with
          | true => exact evV_of (quo_bpf h lo) (qcons fpU (qcons hn (qcons hm (qcons h2 (qcons h1 (qcons hg (qcons h0 qnil)))))))
          | false => exact evV_of (quo_bpo h lo) (qcons fpU (qcons hn (qcons hm (qcons h2 (qcons h1 (qcons hg (qcons h0 qnil)))))))
      | false => cases c3 with
        | false =>
          cases m with
          | true => cases fD with
            | true => exact evV_of (quo_cmf h lo) (qcons fmD (qcons hm (qcons h3 (qcons h2 (qcons h1 (qcons hg (qcons h0 qnil)))))))
            | false => exact evV_of (quo_cmo h lo) (qcons hn (qcons fmD (qcons hm (qcons h3 (qcons h2 (qcons h1 (qcons hg (qcons h0 qnil))))))))
          | false => cases gD with
            | true => exact evV_of (quo_cpf h lo) (qcons fpD (qcons hn (qcons hm (qcons h3 (qcons h2 (qcons h1 (qcons hg (qcons h0 qnil))))))))
            | false => exact evV_of (quo_cpo h lo) (qcons fpD (qcons hn (qcons hm (qcons h3 (qcons h2 (qcons h1 (qcons hg (qcons h0 qnil))))))))
        | true => cases c4 with
          | true =>
            cases m with
            | true => cases fU with
              | true => exact evV_of (quo_dmf h lo) (qcons fmU (qcons hm (qcons h4 (qcons h3 (qcons h2 (qcons h1 (qcons hg (qcons h0 qnil))))))))
              | false => exact evV_of (quo_dmo h lo) (qcons hn (qcons fmU (qcons hm (qcons h4 (qcons h3 (qcons h2 (qcons h1 (qcons hg (qcons h0 qnil)))))))))
            | false => cases gU with
              | true => exact evV_of (quo_dpf h lo) (qcons fpU (qcons hn (qcons hm (qcons h4 (qcons h3 (qcons h2 (qcons h1 (qcons hg (qcons h0 qnil)))))))))
              | false => exact evV_of (quo_dpo h lo) (qcons fpU (qcons hn (qcons hm (qcons h4 (qcons h3 (qcons h2 (qcons h1 (qcons hg (qcons h0 qnil)))))))))
          | false =>
            cases m with
            | true => cases fD with
              | true => exact evV_of (quo_emf h lo) (qcons fmD (qcons hm (qcons h4 (qcons h3 (qcons h2 (qcons h1 (qcons hg (qcons h0 qnil))))))))
              | false => exact evV_of (quo_emo h lo) (qcons hn (qcons fmD (qcons hm (qcons h4 (qcons h3 (qcons h2 (qcons h1 (qcons hg (qcons h0 qnil)))))))))
            | false => cases gD with
              | true => exact evV_of (quo_epf h lo) (qcons fpD (qcons hn (qcons hm (qcons h4 (qcons h3 (qcons h2 (qcons h1 (qcons hg (qcons h0 qnil)))))))))
              | false => exact evV_of (quo_epo h lo) (qcons fpD (qcons hn (qcons hm (qcons h4 (qcons h3 (qcons h2 (qcons h1 (qcons hg (qcons h0 qnil)))))))))
theorem quo_ev (h : Int) (lo : Nat) (hlo : lo < 18446744073709551616) : evV E (gated (gatesOf gateQ) (sumsOf sigQ)) 100 71 [.agg ⟨[.int .i64 h, .int .u64 (.ofNat lo)]⟩, .int .i64 (.ofNat 10000)] = some (quoV h lo) :=
  quo_all rfl (fun h0 => gate_of hlo h0) rfl rfl rfl rfl rfl rfl rfl rfl rfl
end Go.Proofs.YtinlmdapgejdoaaGreat.sp
end
end

section
/- A sum is split: an amount's fraction. -/
noncomputable section
namespace Go.Proofs.YtinlmdapgejdoaaGreat.sp
open AE
set_option linter.unusedSimpArgs false
set_option linter.unusedVariables false
set_option maxRecDepth 10000

def qI : Value → Int
  | .tuple ⟨[.int _ n, _]⟩ => n
  | _ => 0
def qB : Value → Bool
  | .tuple ⟨[_, .bool b]⟩ => b
  | _ => false
def quoW (h : Int) (lo : Nat) : Value := .tuple ⟨[.int .i64 (qI (quoV h lo)), .bool (qB (quoV h lo))]⟩
theorem quoX_eq : ∀ (q0 c1 c2 c3 c4 m fU fD gU gD : Bool) (q : Nat), quoX q0 c1 c2 c3 c4 m fU fD gU gD q = .tuple ⟨[.int .i64 (qI (quoX q0 c1 c2 c3 c4 m fU fD gU gD q)), .bool (qB (quoX q0 c1 c2 c3 c4 m fU fD gU gD q))]⟩ := by
  intro q0 c1 c2 c3 c4 m fU fD gU gD q
  cases q0 with
  | true => rfl
  | false =>
    unfold quoX
    dsimp only
    generalize upX c1 c2 c3 c4 = up
    cases m <;> cases up <;> cases fU <;> cases fD <;> cases gU <;> cases gD <;> rfl
theorem quoV_eq (h : Int) (lo : Nat) : quoV h lo = quoW h lo := quoX_eq _ _ _ _ _ _ _ _ _ _ _
theorem plain_quoW (h : Int) (lo : Nat) : Plain (quoW h lo) := plain_tuple fun v hv => by
  simp only [List.mem_cons, List.not_mem_nil, or_false] at hv
  rcases hv with rfl | rfl
  · exact plain_int _ _
  · exact plain_bool _
def quoG : List Value → Option (Bool × Value)
  | [.agg ⟨[.int .i64 h, .int .u64 (.ofNat lo)]⟩, .int .i64 (.ofNat 10000)] => some (Nat.blt lo 18446744073709551616, quoW h lo)
  | _ => none
theorem told_quoG : AE.Told Tryz.prog 71 (gA quoG) := by
  refine told_pure hE hmix tolds_Q ?_
  intro args s v s' hr
  obtain ⟨h1, rfl⟩ := gA_run hr
  unfold quoG at h1
  split at h1
  · rename_i h lo
    have hb : Nat.blt lo 18446744073709551616 = true := congrArg (fun x => match x with | some (b, _) => b | none => false) h1
    have hv : quoW h lo = v := congrArg (fun x => match x with | some (_, v) => v | none => undefV) h1
    subst hv
    refine ⟨plain_quoW h lo, Less'.refl _, fun v hv => ?_, 100, ?_⟩
    · simp only [List.mem_cons, List.not_mem_nil, or_false] at hv
      rcases hv with rfl | rfl
      · exact plain_agg (ints_plain (by simp))
      · exact plain_int _ _
    · rw [← quoV_eq]
      exact quo_ev h lo (blt_iff.1 hb)
  · cases h1

/-- a fraction of an amount -/
def lN (n p : Int) : Nat := modN 18446744073709551616 (Int.mul (wrapA .u64 n) (wrapA .u64 p))
def scW (n p : Int) : Value := quoW (hW n p) (lN n p)
def scI (n p : Int) : Int := qI (quoV (hW n p) (lN n p))
def scaleA : List Value → AM Value
  | [.int .i64 n, .int .i64 p, .int .i64 (.ofNat 10000)] => .pure (scW n p)
  | _ => .fail
def gateS : List (Nat × (List Value → Option (Bool × Value))) := [(71, quoG)]
def sigS : List (FuncId × (List Value → AM Value)) := [(72, mulWA)]
theorem tolds_S : Tolds Tryz.prog (gated (gatesOf gateS) (sumsOf sigS)) := tolds_gates (tolds_cons told_mulW tolds_nil) (by
  intro p hp
  simp only [gateS, List.mem_cons, List.not_mem_nil, or_false] at hp
  subst hp
  exact told_quoG)
theorem scale_ev (n p : Int) : evVO E (gatesOf gateS) (sumsOf sigS) 100 51 [.int .i64 n, .int .i64 p, .int .i64 (.ofNat 10000)] [(0, some true)] = some (scW n p, [(Nat.blt (lN n p) 18446744073709551616, true)]) := by kernel_rfl
theorem lN_lt (n p : Int) : lN n p < 18446744073709551616 := by
  have := modN_eq 18446744073709551616 (by decide) (Int.mul (wrapA .u64 n) (wrapA .u64 p))
  unfold lN
  omega
theorem told_scale : AE.Told Tryz.prog 51 scaleA := by
  refine told_pure hE hmix tolds_S ?_
  intro args s v s' h
  unfold scaleA at h
  split at h
  · rename_i n p
    cases h
    exact ⟨plain_quoW _ _, Less'.refl _, ints_plain (by simp), 100, evV_of (scale_ev n p) (qcons (blt_iff.2 (lN_lt n p)) qnil)⟩
  · cases h
/-- an amount, split -/
def cl (p : Int) : Int :=
  let m := match ltI (.ofNat 10000) p with | true => .ofNat 10000 | false => p
  match ltI (.ofNat 0) m with | true => m | false => .ofNat 0
def spV (n p : Int) : Value := .tuple ⟨[.int .i64 (scI n (cl p)), .int .i64 (wrapA .i64 (Int.sub n (scI n (cl p))))]⟩
def splitA : List Value → AM Value
  | [.int .i64 n, .int .i64 p] => .pure (spV n p)
  | _ => .fail
def sigT : List (FuncId × (List Value → AM Value)) := [(51, scaleA)]
theorem tolds_T : Tolds Tryz.prog (sumsOf sigT) := tolds_cons told_scale tolds_nil
theorem split_ev (n p : Int) : evV E (sumsOf sigT) 100 78 [.int .i64 n, .int .i64 p] = some (spV n p) := by kernel_rfl
theorem told_split : AE.Told Tryz.prog 78 splitA := by
  refine told_pure hE hmix tolds_T ?_
  intro args s v s' h
  unfold splitA at h
  split at h
  · rename_i n p
    cases h
    exact ⟨plain_tuple (ints_plain (by simp)), Less'.refl _, ints_plain (by simp), 100, split_ev n p⟩
  · cases h
end Go.Proofs.YtinlmdapgejdoaaGreat.sp
end
end

section
/- The numbers on math/bits' way through a quotient by two (printed by wip/gen/dv2.py). No program is named here. -/
namespace Go.Proofs.YtinlmdapgejdoaaGreat.wd2
set_option linter.unusedVariables false
set_option maxRecDepth 10000

theorem sub_mod (a b c M : Int) : (((a % M + b) % M) - c % M) % M = (a + b - c) % M := by
  rw [Int.sub_emod, Int.emod_emod, Int.emod_emod, Int.add_emod, Int.emod_emod, ← Int.add_emod, ← Int.sub_emod]
theorem step_sub (u q r z : Nat) (hu : u = 2147483648 * q + r) (hr : r < 2147483648) (hz : z < 4294967296) :
    ((((u * 4294967296 % 18446744073709551616 + z) % 18446744073709551616 : Nat) : Int) - ((q * 9223372036854775808 % 18446744073709551616 : Nat) : Int)) % 18446744073709551616 = ((r * 4294967296 + z : Nat) : Int) := by
  rw [Int.natCast_emod, Int.natCast_add, Int.natCast_emod, Int.natCast_emod]
  rw [show ((18446744073709551616 : Nat) : Int) = 18446744073709551616 from rfl, sub_mod]
  have e : ((u * 4294967296 : Nat) : Int) + (z : Int) - ((q * 9223372036854775808 : Nat) : Int) = ((r * 4294967296 + z : Nat) : Int) := by
    subst hu
    omega
  rw [e]
  have hb : r * 4294967296 + z < 18446744073709551616 := by omega
  generalize r * 4294967296 + z = x at *
  omega
theorem step_bounds (u q r z : Nat) (hu : u = 2147483648 * q + r) (hr : r < 2147483648) (hz : z < 4294967296) (hb : u < 9223372036854775808) :
    q < 4294967296 ∧ q * 2147483648 % 18446744073709551616 = q * 2147483648 ∧ ((u : Int) - ((q * 2147483648 : Nat) : Int)) % 18446744073709551616 = (r : Int) ∧ 4294967296 * r % 18446744073709551616 = 4294967296 * r ∧
      (4294967296 * r + z) % 18446744073709551616 = 4294967296 * r + z ∧ r * 4294967296 + z < 9223372036854775808 := by
  have h1 : q < 4294967296 := by omega
  refine ⟨h1, ?_, ?_, ?_, ?_, ?_⟩
  · exact Nat.mod_eq_of_lt (by omega)
  · have : (u : Int) - ((q * 2147483648 : Nat) : Int) = (r : Int) := by omega
    rw [this]
    exact Int.emod_eq_of_lt (by omega) (by omega)
  · exact Nat.mod_eq_of_lt (by omega)
  · exact Nat.mod_eq_of_lt (by omega)
  · omega
theorem first (hi lo : Nat) (hhi : hi < 2) (hlo : lo < 18446744073709551616) :
    hi * 4611686018427387904 % 18446744073709551616 = hi * 4611686018427387904 ∧ (hi * 4611686018427387904 ||| lo / 4) = hi * 4611686018427387904 + lo / 4 ∧ hi * 4611686018427387904 + lo / 4 < 9223372036854775808 ∧ lo / 4 < 18446744073709551616 ∧ hi * 4611686018427387904 < 18446744073709551616 := by
  have hb : lo / 4 < 4611686018427387904 := by omega
  refine ⟨Nat.mod_eq_of_lt (by omega), ?_, by omega, by omega, by omega⟩
  have hp62 : (2 : Nat) ^ 62 = 4611686018427387904 := by decide
  have := Nat.shiftLeft_add_eq_or_of_lt (b := lo / 4) (i := 62) (by rw [hp62]; exact hb) hi
  rw [Nat.shiftLeft_eq, hp62] at this
  exact this.symm
theorem quo_of (hi lo : Nat) (hhi : hi < 2) (hlo : lo < 18446744073709551616) :
    (hi * 4611686018427387904 + lo / 4) / 2147483648 * 4294967296 + ((hi * 4611686018427387904 + lo / 4) % 2147483648 * 4294967296 + lo * 4611686018427387904 % 18446744073709551616 / 4294967296) / 2147483648 = (hi * 18446744073709551616 + lo) / 2 ∧
      (((hi * 4611686018427387904 + lo / 4) % 2147483648 * 4294967296 + lo * 4611686018427387904 % 18446744073709551616 / 4294967296) % 2147483648 * 4294967296 + lo * 4611686018427387904 % 18446744073709551616 % 4294967296) / 4611686018427387904 = (hi * 18446744073709551616 + lo) % 2 := by
  have h := wd.quo_small hi lo 2 62 (by decide) (by decide) (by decide)
  have e1 : (2 : Nat) ^ 62 = 4611686018427387904 := by decide
  have e2 : (2 : Nat) ^ (64 - 62) = 4 := by decide
  have e3 : 2 * (2 : Nat) ^ (62 - 32) = 2147483648 := by decide
  have e4 : (2 : Nat) ^ 64 = 18446744073709551616 := by decide
  rw [e1, e2, e3, e4] at h
  exact h
theorem quo_lt (hi lo : Nat) (hhi : hi < 2) (hlo : lo < 18446744073709551616) : (hi * 18446744073709551616 + lo) / 2 < 18446744073709551616 := by omega

theorem small_mul (q : Nat) (h : q < 4294967296) : q * 4294967296 % 18446744073709551616 = q * 4294967296 := Nat.mod_eq_of_lt (by omega)
/-- the numbers on the way, each with a name -/
structure Nums (hi lo u w z1 z0 q1 r1 v q0 r0 : Nat) : Prop where
  shl : hi * 4611686018427387904 % 18446744073709551616 = hi * 4611686018427387904
  bhi : hi * 4611686018427387904 < 18446744073709551616
  blo : lo / 4 < 18446744073709551616
  eo : (hi * 4611686018427387904 ||| lo / 4) = u
  bu : u < 9223372036854775808
  ew : lo * 4611686018427387904 % 18446744073709551616 = w
  bw : w < 18446744073709551616
  ez1 : w / 4294967296 = z1
  ez0 : w % 4294967296 = z0
  eq1 : u / 2147483648 = q1
  a1 : q1 < 4294967296
  a2 : q1 * 2147483648 % 18446744073709551616 = q1 * 2147483648
  a3 : ((u : Int) - ((q1 * 2147483648 : Nat) : Int)) % 18446744073709551616 = (r1 : Int)
  a4 : 4294967296 * r1 % 18446744073709551616 = 4294967296 * r1
  a5 : (4294967296 * r1 + z1) % 18446744073709551616 = 4294967296 * r1 + z1
  a6 : ((((u * 4294967296 % 18446744073709551616 + z1) % 18446744073709551616 : Nat) : Int) - ((q1 * 9223372036854775808 % 18446744073709551616 : Nat) : Int)) % 18446744073709551616 = (v : Int)
  bv : v < 9223372036854775808
  eq0 : v / 2147483648 = q0
  c1 : q0 < 4294967296
  c2 : q0 * 2147483648 % 18446744073709551616 = q0 * 2147483648
  c3 : ((v : Int) - ((q0 * 2147483648 : Nat) : Int)) % 18446744073709551616 = (r0 : Int)
  c4 : 4294967296 * r0 % 18446744073709551616 = 4294967296 * r0
  c5 : (4294967296 * r0 + z0) % 18446744073709551616 = 4294967296 * r0 + z0
  c6 : ((((v * 4294967296 % 18446744073709551616 + z0) % 18446744073709551616 : Nat) : Int) - ((q0 * 9223372036854775808 % 18446744073709551616 : Nat) : Int)) % 18446744073709551616 = ((r0 * 4294967296 + z0 : Nat) : Int)
  d1 : q1 * 4294967296 % 18446744073709551616 = q1 * 4294967296
  d2 : (q1 * 4294967296 + q0) % 18446744073709551616 = (hi * 18446744073709551616 + lo) / 2
  d3 : (r0 * 4294967296 + z0) / 4611686018427387904 = (hi * 18446744073709551616 + lo) % 2
theorem nums (hi lo : Nat) (hhi : hi < 2) (hlo : lo < 18446744073709551616) : ∃ u w u1 u0 q1 r1 v q0 r0, Nums hi lo u w u1 u0 q1 r1 v q0 r0 := by
  obtain ⟨e1, e2, e3, e4, e5⟩ := first hi lo hhi hlo
  obtain ⟨k1, k2⟩ := quo_of hi lo hhi hlo
  have hlt := quo_lt hi lo hhi hlo
  obtain ⟨u, hu⟩ : ∃ y, hi * 4611686018427387904 + lo / 4 = y := ⟨_, rfl⟩
  rw [hu] at e2 e3 k1 k2
  obtain ⟨w, hw⟩ : ∃ y, lo * 4611686018427387904 % 18446744073709551616 = y := ⟨_, rfl⟩
  rw [hw] at k1 k2
  have bw : w < 18446744073709551616 := by rw [← hw]; exact Nat.mod_lt _ (by decide)
  have b1 : w / 4294967296 < 4294967296 := by omega
  have b0 : w % 4294967296 < 4294967296 := Nat.mod_lt _ (by decide)
  have du : u = 2147483648 * (u / 2147483648) + u % 2147483648 := (Nat.div_add_mod u 2147483648).symm
  have ru : u % 2147483648 < 2147483648 := Nat.mod_lt _ (by decide)
  obtain ⟨q1, hq1⟩ : ∃ y, u / 2147483648 = y := ⟨_, rfl⟩
  rw [hq1] at k1 du
  obtain ⟨r1, hr1⟩ : ∃ y, u % 2147483648 = y := ⟨_, rfl⟩
  rw [hr1] at k1 k2 du ru
  obtain ⟨u1, hu1⟩ : ∃ y, w / 4294967296 = y := ⟨_, rfl⟩
  rw [hu1] at k1 k2 b1
  obtain ⟨u0, hu0⟩ : ∃ y, w % 4294967296 = y := ⟨_, rfl⟩
  rw [hu0] at k2 b0
  obtain ⟨a1, a2, a3, a4, a5, a7⟩ := step_bounds u q1 r1 u1 du ru b1 e3
  have a6 := step_sub u q1 r1 u1 du ru b1
  obtain ⟨v, hv⟩ : ∃ y, r1 * 4294967296 + u1 = y := ⟨_, rfl⟩
  rw [hv] at k1 k2 a6 a7
  have dv : v = 2147483648 * (v / 2147483648) + v % 2147483648 := (Nat.div_add_mod v 2147483648).symm
  have rv : v % 2147483648 < 2147483648 := Nat.mod_lt _ (by decide)
  obtain ⟨q0, hq0⟩ : ∃ y, v / 2147483648 = y := ⟨_, rfl⟩
  rw [hq0] at k1 dv
  obtain ⟨r0, hr0⟩ : ∃ y, v % 2147483648 = y := ⟨_, rfl⟩
  rw [hr0] at k2 dv rv
  obtain ⟨c1, c2, c3, c4, c5, c7⟩ := step_bounds v q0 r0 u0 dv rv b0 a7
  have c6 := step_sub v q0 r0 u0 dv rv b0
  refine ⟨u, w, u1, u0, q1, r1, v, q0, r0, ⟨e1, e5, e4, e2, e3, hw, bw, hu1, hu0, hq1, a1, a2, a3, a4, a5, a6, a7, hq0, c1, c2, c3, c4, c5, c6, ?_, ?_, k2⟩⟩
  · exact small_mul q1 a1
  · rw [k1]; exact Nat.mod_eq_of_lt hlt
end Go.Proofs.YtinlmdapgejdoaaGreat.wd2
end

section
/- math/bits' Div64 by two, told (printed by wip/gen/sd2.py). -/
noncomputable section
namespace Go.Proofs.YtinlmdapgejdoaaGreat.sp
open AE
set_option linter.unusedSimpArgs false
set_option linter.unusedVariables false
set_option maxRecDepth 10000

def lz2A : List Value → AM Value
  | [.int .u64 (.ofNat 2)] => .pure (.int .i64 (.ofNat 62))
  | _ => .fail
theorem lz2_ev : evV E (sumsOf []) 100 119 [.int .u64 (.ofNat 2)] = some (.int .i64 (.ofNat 62)) := by kernel_rfl
theorem told_lz2 : AE.Told Tryz.prog 119 lz2A := by
  refine told_pure hE hmix tolds_nil ?_
  intro args s v s' h
  unfold lz2A at h
  split at h
  · cases h
    exact ⟨plain_int _ _, Less'.refl _, ints_plain (by simp), 100, lz2_ev⟩
  · cases h
noncomputable def sigD2 : List (FuncId × (List Value → AM Value)) := [(119, lz2A)]
theorem tolds_D2 : Tolds Tryz.prog (sumsOf sigD2) := tolds_cons told_lz2 tolds_nil
theorem suD2 : sumsOf sigD2 119 = some lz2A := rfl
theorem lz2_run (s : S) : (lz2A [.int .u64 (.ofNat 2)]).run s = some (.int .i64 (.ofNat 62), s) := rfl
def div2A : List Value → AM Value
  | [.int .u64 (.ofNat hi), .int .u64 (.ofNat lo), .int .u64 (.ofNat d)] => when (Nat.beq d 2 && Nat.blt hi 2 && Nat.blt lo 18446744073709551616)
      (.pure (.tuple ⟨[.int .u64 (.ofNat ((hi * 18446744073709551616 + lo) / 2)), .int .u64 (.ofNat ((hi * 18446744073709551616 + lo) % 2))]⟩))
  | _ => .fail
set_option maxHeartbeats 4000000 in
theorem walk_small2 (vhi vlo vd vQ vR : Value) (e1 : ∀ E t, binA E .eql t vd (.int .u64 0) = some (.bool false)) (e2 : ∀ E t, binA E .leq t vd vhi = some (.bool false)) (e3 : ∀ E t, binA E .eql t vhi (.int .u64 0) = some (.bool true))
    (f1 : ∀ E t, binA E .quo t vlo vd = some vQ) (f2 : ∀ E t, binA E .rem t vlo vd = some vR) (s : S) :
    ∃ v1 s1, (v1 = .tuple ⟨[vQ, vR]⟩ ∧ Less' s1 s) ∧ ∃ n0, ∀ n, n0 ≤ n → evNext (evT E (sumsOf sigD2) n) E (.enter 92 [vhi, vlo, vd]) s = some (.val v1, s1) := by
  refine go_enter (fi := fiD) (c := cdD) (by kernel_rfl) (by kernel_rfl) 135 rfl rfl ?_
  simp only [cdD, Tryz.f92, bodyOf]
  have h0 : (Tr.ofList [vhi, vlo, vd]).get 0 = some vhi := rfl
  have h1 : (Tr.ofList [vhi, vlo, vd]).get 1 = some vlo := rfl
  have h2 : (Tr.ofList [vhi, vlo, vd]).get 2 = some vd := rfl
  generalize Tr.ofList [vhi, vlo, vd] = t at *
  repeat apply go_seq
  apply go_region
  case h => intro m; simp (maxSteps := 2000000) (disch := decide) only [opsLoop, evOper, wantedA, nth, aop, aPick, aBin, aIndexAddr, aFieldAddr, aLoad, aStore, aExtract, aConvert, aAlloc, aBox, aIndex, callA, builtinA, Fr.evs, opt, val, when, AM.run, outV, newA, ptr, force_eq, seen_heap, seen_next, seen_mark, seen_seen, agg_cells, int_cells, Fr.ev, Fr.put, onFr, gps, gpn, bltT, still, flat, List.append_nil, List.nil_append, List.cons_append, Nat.reduceEqDiff, ne_eq, not_false_eq_true, reduceCtorEq, Bool.and_true, Bool.true_and, Bool.and_false, Bool.false_and, Bool.not_true, Bool.not_false, Bool.and_self]; rfl
  repeat apply go_seq
  apply go_region
  case h => intro m; simp (maxSteps := 2000000) (disch := decide) only [opsLoop, evOper, wantedA, nth, aop, aPick, aBin, aIndexAddr, aFieldAddr, aLoad, aStore, aExtract, aConvert, aAlloc, aBox, aIndex, callA, builtinA, Fr.evs, opt, val, when, AM.run, outV, newA, ptr, force_eq, seen_heap, seen_next, seen_mark, seen_seen, agg_cells, int_cells, Fr.ev, Fr.put, onFr, gps, gpn, bltT, still, flat, List.append_nil, List.nil_append, List.cons_append, Nat.reduceEqDiff, ne_eq, not_false_eq_true, reduceCtorEq, Bool.and_true, Bool.true_and, Bool.and_false, Bool.false_and, Bool.not_true, Bool.not_false, Bool.and_self, h2, e1]; rfl
  repeat apply go_seq
  apply go_cond
  case hc => simp (disch := decide) only [opsLoop, evOper, wantedA, nth, aop, aPick, aBin, aIndexAddr, aFieldAddr, aLoad, aStore, aExtract, aConvert, aAlloc, aBox, aIndex, callA, builtinA, Fr.evs, opt, val, when, AM.run, outV, newA, ptr, force_eq, seen_heap, seen_next, seen_mark, seen_seen, agg_cells, int_cells, Fr.ev, Fr.put, onFr, gps, gpn, bltT, still, flat, List.append_nil, List.nil_append, List.cons_append, Nat.reduceEqDiff, ne_eq, not_false_eq_true, reduceCtorEq, Bool.and_true, Bool.true_and, Bool.and_false, Bool.false_and, Bool.not_true, Bool.not_false, Bool.and_self]; rfl
  case h1 => intro h; cases h
  intro _
  apply go_skip
  repeat apply go_seq
  apply go_region
  case h => intro m; simp (maxSteps := 2000000) (disch := decide) only [opsLoop, evOper, wantedA, nth, aop, aPick, aBin, aIndexAddr, aFieldAddr, aLoad, aStore, aExtract, aConvert, aAlloc, aBox, aIndex, callA, builtinA, Fr.evs, opt, val, when, AM.run, outV, newA, ptr, force_eq, seen_heap, seen_next, seen_mark, seen_seen, agg_cells, int_cells, Fr.ev, Fr.put, onFr, gps, gpn, bltT, still, flat, List.append_nil, List.nil_append, List.cons_append, Nat.reduceEqDiff, ne_eq, not_false_eq_true, reduceCtorEq, Bool.and_true, Bool.true_and, Bool.and_false, Bool.false_and, Bool.not_true, Bool.not_false, Bool.and_self, h0, h2, e2]; rfl
  repeat apply go_seq
  apply go_cond
  case hc => simp (disch := decide) only [opsLoop, evOper, wantedA, nth, aop, aPick, aBin, aIndexAddr, aFieldAddr, aLoad, aStore, aExtract, aConvert, aAlloc, aBox, aIndex, callA, builtinA, Fr.evs, opt, val, when, AM.run, outV, newA, ptr, force_eq, seen_heap, seen_next, seen_mark, seen_seen, agg_cells, int_cells, Fr.ev, Fr.put, onFr, gps, gpn, bltT, still, flat, List.append_nil, List.nil_append, List.cons_append, Nat.reduceEqDiff, ne_eq, not_false_eq_true, reduceCtorEq, Bool.and_true, Bool.true_and, Bool.and_false, Bool.false_and, Bool.not_true, Bool.not_false, Bool.and_self]; rfl
  case h1 => intro h; cases h
  intro _
  apply go_skip
  repeat apply go_seq
  apply go_region
  case h => intro m; simp (maxSteps := 2000000) (disch := decide) only [opsLoop, evOper, wantedA, nth, aop, aPick, aBin, aIndexAddr, aFieldAddr, aLoad, aStore, aExtract, aConvert, aAlloc, aBox, aIndex, callA, builtinA, Fr.evs, opt, val, when, AM.run, outV, newA, ptr, force_eq, seen_heap, seen_next, seen_mark, seen_seen, agg_cells, int_cells, Fr.ev, Fr.put, onFr, gps, gpn, bltT, still, flat, List.append_nil, List.nil_append, List.cons_append, Nat.reduceEqDiff, ne_eq, not_false_eq_true, reduceCtorEq, Bool.and_true, Bool.true_and, Bool.and_false, Bool.false_and, Bool.not_true, Bool.not_false, Bool.and_self, h0, e3]; rfl
  repeat apply go_seq
  apply go_cond
  case hc => simp (disch := decide) only [opsLoop, evOper, wantedA, nth, aop, aPick, aBin, aIndexAddr, aFieldAddr, aLoad, aStore, aExtract, aConvert, aAlloc, aBox, aIndex, callA, builtinA, Fr.evs, opt, val, when, AM.run, outV, newA, ptr, force_eq, seen_heap, seen_next, seen_mark, seen_seen, agg_cells, int_cells, Fr.ev, Fr.put, onFr, gps, gpn, bltT, still, flat, List.append_nil, List.nil_append, List.cons_append, Nat.reduceEqDiff, ne_eq, not_false_eq_true, reduceCtorEq, Bool.and_true, Bool.true_and, Bool.and_false, Bool.false_and, Bool.not_true, Bool.not_false, Bool.and_self]; rfl
  case h2 => intro h; cases h
  intro _
  repeat apply go_seq
  apply go_drawn
  case hs => rfl
  case h => intro m; simp (maxSteps := 2000000) (disch := decide) only [opsLoop, evOper, wantedA, nth, aop, aPick, aBin, aIndexAddr, aFieldAddr, aLoad, aStore, aExtract, aConvert, aAlloc, aBox, aIndex, callA, builtinA, Fr.evs, opt, val, when, AM.run, outV, newA, ptr, force_eq, seen_heap, seen_next, seen_mark, seen_seen, agg_cells, int_cells, Fr.ev, Fr.put, onFr, gps, gpn, bltT, still, flat, List.append_nil, List.nil_append, List.cons_append, Nat.reduceEqDiff, ne_eq, not_false_eq_true, reduceCtorEq, Bool.and_true, Bool.true_and, Bool.and_false, Bool.false_and, Bool.not_true, Bool.not_false, Bool.and_self, drawnLoop, force_eq, S.seen, keep_none, clash_nil, clash_reads, created_self, lor_zero, lor_zero', h1, h2, f1, f2]; rfl
  repeat apply go_seq
  apply go_ret
  apply ret_intro rfl rfl
  case run => simp (disch := decide) only [resultsM, resultsA, resD, opsLoop, evOper, wantedA, nth, aop, aPick, aBin, aIndexAddr, aFieldAddr, aLoad, aStore, aExtract, aConvert, aAlloc, aBox, aIndex, callA, builtinA, Fr.evs, opt, val, when, AM.run, outV, newA, ptr, force_eq, seen_heap, seen_next, seen_mark, seen_seen, agg_cells, int_cells, Fr.ev, Fr.put, onFr, gps, gpn, bltT, still, flat, List.append_nil, List.nil_append, List.cons_append, Nat.reduceEqDiff, ne_eq, not_false_eq_true, reduceCtorEq, Bool.and_true, Bool.true_and, Bool.and_false, Bool.false_and, Bool.not_true, Bool.not_false, Bool.and_self]; rfl
  exact ⟨rfl, Nat.le_refl _, fun m o ho => ⟨o, ho, .refl o⟩⟩
set_option maxHeartbeats 4000000 in
/-- the way through the text, whatever the numbers -/
theorem walk_big2 (vd vhi vs vy vn1 vn0 x1 vt vlo x2 vu vw vu1 vu0 vq1 x3 vr1 x4 x5 x6 x7 x8 x9 vv vq0 x10 vr0 x11 x12 x13 x14 vQ x15 x16 x17 x18 vR : Value) (e1 : ∀ E t, binA E .eql t vd (.int .u64 0) = some (.bool false))
    (e2 : ∀ E t, binA E .leq t vd vhi = some (.bool false))
    (e3 : ∀ E t, binA E .eql t vhi (.int .u64 0) = some (.bool false))
    (f3 : ∀ E t, binA E .shl t vd vs = some vy)
    (f4 : ∀ E t k, binA E .shr t vy (.int k 32) = some vn1)
    (f5 : ∀ E t, binA E .and t vy (.int .u64 4294967295) = some vn0)
    (f6 : ∀ E t, binA E .shl t vhi vs = some x1)
    (f7 : ∀ E t, binA E .sub t (.int .u64 64) vs = some vt)
    (f8 : ∀ E t, binA E .shr t vlo vt = some x2)
    (f9 : ∀ E t, binA E .or t x1 x2 = some vu)
    (g1 : ∀ E t, binA E .shl t vlo vs = some vw)
    (g2 : ∀ E t k, binA E .shr t vw (.int k 32) = some vu1)
    (g3 : ∀ E t, binA E .and t vw (.int .u64 4294967295) = some vu0)
    (g4 : ∀ E t, binA E .quo t vu vn1 = some vq1)
    (g5 : ∀ E t, binA E .mul t vq1 vn1 = some x3)
    (g6 : ∀ E t, binA E .sub t vu x3 = some vr1)
    (g7 : ∀ E t, binA E .geq t vq1 (.int .u64 4294967296) = some (.bool false))
    (g8 : ∀ E t, binA E .mul t vq1 vn0 = some x4)
    (g9 : ∀ E t, binA E .mul t (.int .u64 4294967296) vr1 = some x5)
    (k1 : ∀ E t, binA E .add t x5 vu1 = some x6)
    (k2 : ∀ E t, binA E .gtr t x4 x6 = some (.bool false))
    (k3 : ∀ E t, binA E .mul t vu (.int .u64 4294967296) = some x7)
    (k4 : ∀ E t, binA E .add t x7 vu1 = some x8)
    (k5 : ∀ E t, binA E .mul t vq1 vy = some x9)
    (k6 : ∀ E t, binA E .sub t x8 x9 = some vv)
    (k7 : ∀ E t, binA E .quo t vv vn1 = some vq0)
    (k8 : ∀ E t, binA E .mul t vq0 vn1 = some x10)
    (k9 : ∀ E t, binA E .sub t vv x10 = some vr0)
    (l1 : ∀ E t, binA E .geq t vq0 (.int .u64 4294967296) = some (.bool false))
    (l2 : ∀ E t, binA E .mul t vq0 vn0 = some x11)
    (l3 : ∀ E t, binA E .mul t (.int .u64 4294967296) vr0 = some x12)
    (l4 : ∀ E t, binA E .add t x12 vu0 = some x13)
    (l5 : ∀ E t, binA E .gtr t x11 x13 = some (.bool false))
    (l6 : ∀ E t, binA E .mul t vq1 (.int .u64 4294967296) = some x14)
    (l7 : ∀ E t, binA E .add t x14 vq0 = some vQ)
    (l8 : ∀ E t, binA E .mul t vv (.int .u64 4294967296) = some x15)
    (l9 : ∀ E t, binA E .add t x15 vu0 = some x16)
    (m1 : ∀ E t, binA E .mul t vq0 vy = some x17)
    (m2 : ∀ E t, binA E .sub t x16 x17 = some x18)
    (m3 : ∀ E t, binA E .shr t x18 vs = some vR)
    (hlz : ∀ s, (lz2A [vd]).run s = some (.int .i64 (.ofNat 62), s)) (hs : vs = .int .u64 (.ofNat 62)) (s : S) :
    ∃ v1 s1, (v1 = .tuple ⟨[vQ, vR]⟩ ∧ Less' s1 s) ∧ ∃ n0, ∀ n, n0 ≤ n → evNext (evT E (sumsOf sigD2) n) E (.enter 92 [vhi, vlo, vd]) s = some (.val v1, s1) := by
  refine go_enter (fi := fiD) (c := cdD) (by kernel_rfl) (by kernel_rfl) 135 rfl rfl ?_
  simp only [cdD, Tryz.f92, bodyOf]
  have h0 : (Tr.ofList [vhi, vlo, vd]).get 0 = some vhi := rfl
  have h1 : (Tr.ofList [vhi, vlo, vd]).get 1 = some vlo := rfl
  have h2 : (Tr.ofList [vhi, vlo, vd]).get 2 = some vd := rfl
  generalize Tr.ofList [vhi, vlo, vd] = t at *
  have fc : Value.int .u64 (wrapA .u64 (.ofNat 62)) = vs := hs.symm
  repeat apply go_seq
  apply go_region
  case h => intro m; simp (maxSteps := 2000000) (disch := decide) only [opsLoop, evOper, wantedA, nth, aop, aPick, aBin, aIndexAddr, aFieldAddr, aLoad, aStore, aExtract, aConvert, aAlloc, aBox, aIndex, callA, builtinA, Fr.evs, opt, val, when, AM.run, outV, newA, ptr, force_eq, seen_heap, seen_next, seen_mark, seen_seen, agg_cells, int_cells, Fr.ev, Fr.put, onFr, gps, gpn, bltT, still, flat, List.append_nil, List.nil_append, List.cons_append, Nat.reduceEqDiff, ne_eq, not_false_eq_true, reduceCtorEq, Bool.and_true, Bool.true_and, Bool.and_false, Bool.false_and, Bool.not_true, Bool.not_false, Bool.and_self]; rfl
  repeat apply go_seq
  apply go_region
  case h => intro m; simp (maxSteps := 2000000) (disch := decide) only [opsLoop, evOper, wantedA, nth, aop, aPick, aBin, aIndexAddr, aFieldAddr, aLoad, aStore, aExtract, aConvert, aAlloc, aBox, aIndex, callA, builtinA, Fr.evs, opt, val, when, AM.run, outV, newA, ptr, force_eq, seen_heap, seen_next, seen_mark, seen_seen, agg_cells, int_cells, Fr.ev, Fr.put, onFr, gps, gpn, bltT, still, flat, List.append_nil, List.nil_append, List.cons_append, Nat.reduceEqDiff, ne_eq, not_false_eq_true, reduceCtorEq, Bool.and_true, Bool.true_and, Bool.and_false, Bool.false_and, Bool.not_true, Bool.not_false, Bool.and_self, h2, e1]; rfl
  repeat apply go_seq
  apply go_cond
  case hc => simp (disch := decide) only [opsLoop, evOper, wantedA, nth, aop, aPick, aBin, aIndexAddr, aFieldAddr, aLoad, aStore, aExtract, aConvert, aAlloc, aBox, aIndex, callA, builtinA, Fr.evs, opt, val, when, AM.run, outV, newA, ptr, force_eq, seen_heap, seen_next, seen_mark, seen_seen, agg_cells, int_cells, Fr.ev, Fr.put, onFr, gps, gpn, bltT, still, flat, List.append_nil, List.nil_append, List.cons_append, Nat.reduceEqDiff, ne_eq, not_false_eq_true, reduceCtorEq, Bool.and_true, Bool.true_and, Bool.and_false, Bool.false_and, Bool.not_true, Bool.not_false, Bool.and_self]; rfl
  case h1 => intro h; cases h
  intro _
  apply go_skip
  repeat apply go_seq
  apply go_region
  case h => intro m; simp (maxSteps := 2000000) (disch := decide) only [opsLoop, evOper, wantedA, nth, aop, aPick, aBin, aIndexAddr, aFieldAddr, aLoad, aStore, aExtract, aConvert, aAlloc, aBox, aIndex, callA, builtinA, Fr.evs, opt, val, when, AM.run, outV, newA, ptr, force_eq, seen_heap, seen_next, seen_mark, seen_seen, agg_cells, int_cells, Fr.ev, Fr.put, onFr, gps, gpn, bltT, still, flat, List.append_nil, List.nil_append, List.cons_append, Nat.reduceEqDiff, ne_eq, not_false_eq_true, reduceCtorEq, Bool.and_true, Bool.true_and, Bool.and_false, Bool.false_and, Bool.not_true, Bool.not_false, Bool.and_self, h0, h2, e2]; rfl
  repeat apply go_seq
  apply go_cond
  case hc => simp (disch := decide) only [opsLoop, evOper, wantedA, nth, aop, aPick, aBin, aIndexAddr, aFieldAddr, aLoad, aStore, aExtract, aConvert, aAlloc, aBox, aIndex, callA, builtinA, Fr.evs, opt, val, when, AM.run, outV, newA, ptr, force_eq, seen_heap, seen_next, seen_mark, seen_seen, agg_cells, int_cells, Fr.ev, Fr.put, onFr, gps, gpn, bltT, still, flat, List.append_nil, List.nil_append, List.cons_append, Nat.reduceEqDiff, ne_eq, not_false_eq_true, reduceCtorEq, Bool.and_true, Bool.true_and, Bool.and_false, Bool.false_and, Bool.not_true, Bool.not_false, Bool.and_self]; rfl
  case h1 => intro h; cases h
  intro _
  apply go_skip
  repeat apply go_seq
  apply go_region
  case h => intro m; simp (maxSteps := 2000000) (disch := decide) only [opsLoop, evOper, wantedA, nth, aop, aPick, aBin, aIndexAddr, aFieldAddr, aLoad, aStore, aExtract, aConvert, aAlloc, aBox, aIndex, callA, builtinA, Fr.evs, opt, val, when, AM.run, outV, newA, ptr, force_eq, seen_heap, seen_next, seen_mark, seen_seen, agg_cells, int_cells, Fr.ev, Fr.put, onFr, gps, gpn, bltT, still, flat, List.append_nil, List.nil_append, List.cons_append, Nat.reduceEqDiff, ne_eq, not_false_eq_true, reduceCtorEq, Bool.and_true, Bool.true_and, Bool.and_false, Bool.false_and, Bool.not_true, Bool.not_false, Bool.and_self, h0, e3]; rfl
  repeat apply go_seq
  apply go_cond
  case hc => simp (disch := decide) only [opsLoop, evOper, wantedA, nth, aop, aPick, aBin, aIndexAddr, aFieldAddr, aLoad, aStore, aExtract, aConvert, aAlloc, aBox, aIndex, callA, builtinA, Fr.evs, opt, val, when, AM.run, outV, newA, ptr, force_eq, seen_heap, seen_next, seen_mark, seen_seen, agg_cells, int_cells, Fr.ev, Fr.put, onFr, gps, gpn, bltT, still, flat, List.append_nil, List.nil_append, List.cons_append, Nat.reduceEqDiff, ne_eq, not_false_eq_true, reduceCtorEq, Bool.and_true, Bool.true_and, Bool.and_false, Bool.false_and, Bool.not_true, Bool.not_false, Bool.and_self]; rfl
  case h1 => intro h; cases h
  intro _
  apply go_skip
  repeat apply go_seq
  apply go_region
  case h => intro m; simp (maxSteps := 2000000) (disch := decide) only [opsLoop, evOper, wantedA, nth, aop, aPick, aBin, aIndexAddr, aFieldAddr, aLoad, aStore, aExtract, aConvert, aAlloc, aBox, aIndex, callA, builtinA, Fr.evs, opt, val, when, AM.run, outV, newA, ptr, force_eq, seen_heap, seen_next, seen_mark, seen_seen, agg_cells, int_cells, Fr.ev, Fr.put, onFr, gps, gpn, bltT, still, flat, List.append_nil, List.nil_append, List.cons_append, Nat.reduceEqDiff, ne_eq, not_false_eq_true, reduceCtorEq, Bool.and_true, Bool.true_and, Bool.and_false, Bool.false_and, Bool.not_true, Bool.not_false, Bool.and_self, h2, tgD, evT_told suD2, hlz, tyI, tyUn, dsI, dsUn, fc]; rfl
  repeat apply go_seq
  apply go_region
  case h => intro m; simp (maxSteps := 2000000) (disch := decide) only [opsLoop, evOper, wantedA, nth, aop, aPick, aBin, aIndexAddr, aFieldAddr, aLoad, aStore, aExtract, aConvert, aAlloc, aBox, aIndex, callA, builtinA, Fr.evs, opt, val, when, AM.run, outV, newA, ptr, force_eq, seen_heap, seen_next, seen_mark, seen_seen, agg_cells, int_cells, Fr.ev, Fr.put, onFr, gps, gpn, bltT, still, flat, List.append_nil, List.nil_append, List.cons_append, Nat.reduceEqDiff, ne_eq, not_false_eq_true, reduceCtorEq, Bool.and_true, Bool.true_and, Bool.and_false, Bool.false_and, Bool.not_true, Bool.not_false, Bool.and_self, h2, f3]; rfl
  repeat apply go_seq
  apply go_region
  case h => intro m; simp (maxSteps := 2000000) (disch := decide) only [opsLoop, evOper, wantedA, nth, aop, aPick, aBin, aIndexAddr, aFieldAddr, aLoad, aStore, aExtract, aConvert, aAlloc, aBox, aIndex, callA, builtinA, Fr.evs, opt, val, when, AM.run, outV, newA, ptr, force_eq, seen_heap, seen_next, seen_mark, seen_seen, agg_cells, int_cells, Fr.ev, Fr.put, onFr, gps, gpn, bltT, still, flat, List.append_nil, List.nil_append, List.cons_append, Nat.reduceEqDiff, ne_eq, not_false_eq_true, reduceCtorEq, Bool.and_true, Bool.true_and, Bool.and_false, Bool.false_and, Bool.not_true, Bool.not_false, Bool.and_self, f4]; rfl
  repeat apply go_seq
  apply go_region
  case h => intro m; simp (maxSteps := 2000000) (disch := decide) only [opsLoop, evOper, wantedA, nth, aop, aPick, aBin, aIndexAddr, aFieldAddr, aLoad, aStore, aExtract, aConvert, aAlloc, aBox, aIndex, callA, builtinA, Fr.evs, opt, val, when, AM.run, outV, newA, ptr, force_eq, seen_heap, seen_next, seen_mark, seen_seen, agg_cells, int_cells, Fr.ev, Fr.put, onFr, gps, gpn, bltT, still, flat, List.append_nil, List.nil_append, List.cons_append, Nat.reduceEqDiff, ne_eq, not_false_eq_true, reduceCtorEq, Bool.and_true, Bool.true_and, Bool.and_false, Bool.false_and, Bool.not_true, Bool.not_false, Bool.and_self, f5]; rfl
  repeat apply go_seq
  apply go_region
  case h => intro m; simp (maxSteps := 2000000) (disch := decide) only [opsLoop, evOper, wantedA, nth, aop, aPick, aBin, aIndexAddr, aFieldAddr, aLoad, aStore, aExtract, aConvert, aAlloc, aBox, aIndex, callA, builtinA, Fr.evs, opt, val, when, AM.run, outV, newA, ptr, force_eq, seen_heap, seen_next, seen_mark, seen_seen, agg_cells, int_cells, Fr.ev, Fr.put, onFr, gps, gpn, bltT, still, flat, List.append_nil, List.nil_append, List.cons_append, Nat.reduceEqDiff, ne_eq, not_false_eq_true, reduceCtorEq, Bool.and_true, Bool.true_and, Bool.and_false, Bool.false_and, Bool.not_true, Bool.not_false, Bool.and_self, h0, h1, f6, f7, f8, f9]; rfl
  repeat apply go_seq
  apply go_region
  case h => intro m; simp (maxSteps := 2000000) (disch := decide) only [opsLoop, evOper, wantedA, nth, aop, aPick, aBin, aIndexAddr, aFieldAddr, aLoad, aStore, aExtract, aConvert, aAlloc, aBox, aIndex, callA, builtinA, Fr.evs, opt, val, when, AM.run, outV, newA, ptr, force_eq, seen_heap, seen_next, seen_mark, seen_seen, agg_cells, int_cells, Fr.ev, Fr.put, onFr, gps, gpn, bltT, still, flat, List.append_nil, List.nil_append, List.cons_append, Nat.reduceEqDiff, ne_eq, not_false_eq_true, reduceCtorEq, Bool.and_true, Bool.true_and, Bool.and_false, Bool.false_and, Bool.not_true, Bool.not_false, Bool.and_self, h1, g1]; rfl
  repeat apply go_seq
  apply go_region
  case h => intro m; simp (maxSteps := 2000000) (disch := decide) only [opsLoop, evOper, wantedA, nth, aop, aPick, aBin, aIndexAddr, aFieldAddr, aLoad, aStore, aExtract, aConvert, aAlloc, aBox, aIndex, callA, builtinA, Fr.evs, opt, val, when, AM.run, outV, newA, ptr, force_eq, seen_heap, seen_next, seen_mark, seen_seen, agg_cells, int_cells, Fr.ev, Fr.put, onFr, gps, gpn, bltT, still, flat, List.append_nil, List.nil_append, List.cons_append, Nat.reduceEqDiff, ne_eq, not_false_eq_true, reduceCtorEq, Bool.and_true, Bool.true_and, Bool.and_false, Bool.false_and, Bool.not_true, Bool.not_false, Bool.and_self, g2]; rfl
  repeat apply go_seq
  apply go_region
  case h => intro m; simp (maxSteps := 2000000) (disch := decide) only [opsLoop, evOper, wantedA, nth, aop, aPick, aBin, aIndexAddr, aFieldAddr, aLoad, aStore, aExtract, aConvert, aAlloc, aBox, aIndex, callA, builtinA, Fr.evs, opt, val, when, AM.run, outV, newA, ptr, force_eq, seen_heap, seen_next, seen_mark, seen_seen, agg_cells, int_cells, Fr.ev, Fr.put, onFr, gps, gpn, bltT, still, flat, List.append_nil, List.nil_append, List.cons_append, Nat.reduceEqDiff, ne_eq, not_false_eq_true, reduceCtorEq, Bool.and_true, Bool.true_and, Bool.and_false, Bool.false_and, Bool.not_true, Bool.not_false, Bool.and_self, g3]; rfl
  repeat apply go_seq
  apply go_region
  case h => intro m; simp (maxSteps := 2000000) (disch := decide) only [opsLoop, evOper, wantedA, nth, aop, aPick, aBin, aIndexAddr, aFieldAddr, aLoad, aStore, aExtract, aConvert, aAlloc, aBox, aIndex, callA, builtinA, Fr.evs, opt, val, when, AM.run, outV, newA, ptr, force_eq, seen_heap, seen_next, seen_mark, seen_seen, agg_cells, int_cells, Fr.ev, Fr.put, onFr, gps, gpn, bltT, still, flat, List.append_nil, List.nil_append, List.cons_append, Nat.reduceEqDiff, ne_eq, not_false_eq_true, reduceCtorEq, Bool.and_true, Bool.true_and, Bool.and_false, Bool.false_and, Bool.not_true, Bool.not_false, Bool.and_self, g4]; rfl
  repeat apply go_seq
  apply go_region
  case h => intro m; simp (maxSteps := 2000000) (disch := decide) only [opsLoop, evOper, wantedA, nth, aop, aPick, aBin, aIndexAddr, aFieldAddr, aLoad, aStore, aExtract, aConvert, aAlloc, aBox, aIndex, callA, builtinA, Fr.evs, opt, val, when, AM.run, outV, newA, ptr, force_eq, seen_heap, seen_next, seen_mark, seen_seen, agg_cells, int_cells, Fr.ev, Fr.put, onFr, gps, gpn, bltT, still, flat, List.append_nil, List.nil_append, List.cons_append, Nat.reduceEqDiff, ne_eq, not_false_eq_true, reduceCtorEq, Bool.and_true, Bool.true_and, Bool.and_false, Bool.false_and, Bool.not_true, Bool.not_false, Bool.and_self, g5, g6]; rfl
  repeat apply go_seq
  apply go_block
  apply go_loop
  repeat apply go_seq
  apply go_region
  case h => intro m; simp (maxSteps := 2000000) (disch := decide) only [opsLoop, evOper, wantedA, nth, aop, aPick, aBin, aIndexAddr, aFieldAddr, aLoad, aStore, aExtract, aConvert, aAlloc, aBox, aIndex, callA, builtinA, Fr.evs, opt, val, when, AM.run, outV, newA, ptr, force_eq, seen_heap, seen_next, seen_mark, seen_seen, agg_cells, int_cells, Fr.ev, Fr.put, onFr, gps, gpn, bltT, still, flat, List.append_nil, List.nil_append, List.cons_append, Nat.reduceEqDiff, ne_eq, not_false_eq_true, reduceCtorEq, Bool.and_true, Bool.true_and, Bool.and_false, Bool.false_and, Bool.not_true, Bool.not_false, Bool.and_self, g7, g8, g9, k1, k2]; rfl
  repeat apply go_seq
  apply go_cond
  case hc => simp (disch := decide) only [opsLoop, evOper, wantedA, nth, aop, aPick, aBin, aIndexAddr, aFieldAddr, aLoad, aStore, aExtract, aConvert, aAlloc, aBox, aIndex, callA, builtinA, Fr.evs, opt, val, when, AM.run, outV, newA, ptr, force_eq, seen_heap, seen_next, seen_mark, seen_seen, agg_cells, int_cells, Fr.ev, Fr.put, onFr, gps, gpn, bltT, still, flat, List.append_nil, List.nil_append, List.cons_append, Nat.reduceEqDiff, ne_eq, not_false_eq_true, reduceCtorEq, Bool.and_true, Bool.true_and, Bool.and_false, Bool.false_and, Bool.not_true, Bool.not_false, Bool.and_self]; rfl
  case h1 => intro h; cases h
  intro _
  apply go_exit
  repeat apply go_seq
  apply go_region
  case h => intro m; simp (maxSteps := 2000000) (disch := decide) only [opsLoop, evOper, wantedA, nth, aop, aPick, aBin, aIndexAddr, aFieldAddr, aLoad, aStore, aExtract, aConvert, aAlloc, aBox, aIndex, callA, builtinA, Fr.evs, opt, val, when, AM.run, outV, newA, ptr, force_eq, seen_heap, seen_next, seen_mark, seen_seen, agg_cells, int_cells, Fr.ev, Fr.put, onFr, gps, gpn, bltT, still, flat, List.append_nil, List.nil_append, List.cons_append, Nat.reduceEqDiff, ne_eq, not_false_eq_true, reduceCtorEq, Bool.and_true, Bool.true_and, Bool.and_false, Bool.false_and, Bool.not_true, Bool.not_false, Bool.and_self, k3, k4, k5, k6]; rfl
  repeat apply go_seq
  apply go_region
  case h => intro m; simp (maxSteps := 2000000) (disch := decide) only [opsLoop, evOper, wantedA, nth, aop, aPick, aBin, aIndexAddr, aFieldAddr, aLoad, aStore, aExtract, aConvert, aAlloc, aBox, aIndex, callA, builtinA, Fr.evs, opt, val, when, AM.run, outV, newA, ptr, force_eq, seen_heap, seen_next, seen_mark, seen_seen, agg_cells, int_cells, Fr.ev, Fr.put, onFr, gps, gpn, bltT, still, flat, List.append_nil, List.nil_append, List.cons_append, Nat.reduceEqDiff, ne_eq, not_false_eq_true, reduceCtorEq, Bool.and_true, Bool.true_and, Bool.and_false, Bool.false_and, Bool.not_true, Bool.not_false, Bool.and_self, k7]; rfl
  repeat apply go_seq
  apply go_region
  case h => intro m; simp (maxSteps := 2000000) (disch := decide) only [opsLoop, evOper, wantedA, nth, aop, aPick, aBin, aIndexAddr, aFieldAddr, aLoad, aStore, aExtract, aConvert, aAlloc, aBox, aIndex, callA, builtinA, Fr.evs, opt, val, when, AM.run, outV, newA, ptr, force_eq, seen_heap, seen_next, seen_mark, seen_seen, agg_cells, int_cells, Fr.ev, Fr.put, onFr, gps, gpn, bltT, still, flat, List.append_nil, List.nil_append, List.cons_append, Nat.reduceEqDiff, ne_eq, not_false_eq_true, reduceCtorEq, Bool.and_true, Bool.true_and, Bool.and_false, Bool.false_and, Bool.not_true, Bool.not_false, Bool.and_self, k8, k9]; rfl
  repeat apply go_seq
  apply go_block
  apply go_loop
  repeat apply go_seq
  apply go_region
  case h => intro m; simp (maxSteps := 2000000) (disch := decide) only [opsLoop, evOper, wantedA, nth, aop, aPick, aBin, aIndexAddr, aFieldAddr, aLoad, aStore, aExtract, aConvert, aAlloc, aBox, aIndex, callA, builtinA, Fr.evs, opt, val, when, AM.run, outV, newA, ptr, force_eq, seen_heap, seen_next, seen_mark, seen_seen, agg_cells, int_cells, Fr.ev, Fr.put, onFr, gps, gpn, bltT, still, flat, List.append_nil, List.nil_append, List.cons_append, Nat.reduceEqDiff, ne_eq, not_false_eq_true, reduceCtorEq, Bool.and_true, Bool.true_and, Bool.and_false, Bool.false_and, Bool.not_true, Bool.not_false, Bool.and_self, l1, l2, l3, l4, l5]; rfl
  repeat apply go_seq
  apply go_cond
  case hc => simp (disch := decide) only [opsLoop, evOper, wantedA, nth, aop, aPick, aBin, aIndexAddr, aFieldAddr, aLoad, aStore, aExtract, aConvert, aAlloc, aBox, aIndex, callA, builtinA, Fr.evs, opt, val, when, AM.run, outV, newA, ptr, force_eq, seen_heap, seen_next, seen_mark, seen_seen, agg_cells, int_cells, Fr.ev, Fr.put, onFr, gps, gpn, bltT, still, flat, List.append_nil, List.nil_append, List.cons_append, Nat.reduceEqDiff, ne_eq, not_false_eq_true, reduceCtorEq, Bool.and_true, Bool.true_and, Bool.and_false, Bool.false_and, Bool.not_true, Bool.not_false, Bool.and_self]; rfl
  case h1 => intro h; cases h
  intro _
  apply go_exit
  repeat apply go_seq
  apply go_region
  case h => intro m; simp (maxSteps := 2000000) (disch := decide) only [opsLoop, evOper, wantedA, nth, aop, aPick, aBin, aIndexAddr, aFieldAddr, aLoad, aStore, aExtract, aConvert, aAlloc, aBox, aIndex, callA, builtinA, Fr.evs, opt, val, when, AM.run, outV, newA, ptr, force_eq, seen_heap, seen_next, seen_mark, seen_seen, agg_cells, int_cells, Fr.ev, Fr.put, onFr, gps, gpn, bltT, still, flat, List.append_nil, List.nil_append, List.cons_append, Nat.reduceEqDiff, ne_eq, not_false_eq_true, reduceCtorEq, Bool.and_true, Bool.true_and, Bool.and_false, Bool.false_and, Bool.not_true, Bool.not_false, Bool.and_self, l6, l7, l8, l9, m1, m2, m3]; rfl
  repeat apply go_seq
  apply go_ret
  apply ret_intro rfl rfl
  case run => simp (disch := decide) only [resultsM, resultsA, resD, opsLoop, evOper, wantedA, nth, aop, aPick, aBin, aIndexAddr, aFieldAddr, aLoad, aStore, aExtract, aConvert, aAlloc, aBox, aIndex, callA, builtinA, Fr.evs, opt, val, when, AM.run, outV, newA, ptr, force_eq, seen_heap, seen_next, seen_mark, seen_seen, agg_cells, int_cells, Fr.ev, Fr.put, onFr, gps, gpn, bltT, still, flat, List.append_nil, List.nil_append, List.cons_append, Nat.reduceEqDiff, ne_eq, not_false_eq_true, reduceCtorEq, Bool.and_true, Bool.true_and, Bool.and_false, Bool.false_and, Bool.not_true, Bool.not_false, Bool.and_self]; rfl
  exact ⟨rfl, Less'.refl _⟩
set_option maxHeartbeats 4000000 in
theorem told_div64_2 : AE.Told Tryz.prog 92 div2A := by
  refine told_go hE hmix tolds_D2 ?_
  intro args s v s' h hm
  unfold div2A at h
  split at h
  · rename_i hi lo d
    obtain ⟨hc, h2⟩ := run_when h
    cases h2
    simp only [Bool.and_eq_true, beq_iff, blt_iff] at hc
    obtain ⟨⟨rfl, hhi⟩, hlo⟩ := hc
    have e1 := b_eqlU 2 0
    simp only [show decide (2 = 0) = false from rfl] at e1
    have e2 := b_leqU 2 hi
    rw [decide_eq_false (by omega : ¬ 2 ≤ hi)] at e2
    have e3 := b_eqlU hi 0
    by_cases hz : hi = 0
    · subst hz
      simp only [decide_true] at e3
      have f1 := b_quoU (a := lo) (b := 1) rfl hlo
      have f2 := b_remU (a := lo) (b := 1) rfl
      simp only [Nat.reduceAdd] at f1 f2
      rw [Nat.zero_mul, Nat.zero_add]
      exact walk_small2 _ _ _ _ _ e1 e2 e3 f1 f2 s
    · rw [decide_eq_false hz] at e3
      -- the numbers on the way
      obtain ⟨u, w, u1, u0, q1, r1, v, q0, r0, N⟩ := wd2.nums hi lo hhi hlo
      have b1 : u < 18446744073709551616 := by have := N.bu; omega
      have b2 : v < 18446744073709551616 := by have := N.bv; omega
      have f3 := b_shlU (a := 2) (b := 62) (c := 9223372036854775808) (by decide) rfl (by decide)
      have f4 := b_shrU (a := 9223372036854775808) (b := 32) (c := 2147483648) (by decide) rfl (by decide)
      have f5 := b_andU (a := 9223372036854775808) (c := 0) (by decide) (by decide)
      have f6 := b_shlU (a := hi) (b := 62) (p := 4611686018427387904) (by decide) rfl N.shl
      have f7 := b_subU (a := 64) (b := 62) (c := 2) (by decide)
      have f8 := b_shrU (a := lo) (b := 2) (p := 4) (by decide) rfl rfl
      have f9 := b_orU N.bhi N.blo N.eo b1
      have g1 := b_shlU (a := lo) (b := 62) (p := 4611686018427387904) (by decide) rfl N.ew
      have g2 := b_shrU (a := w) (b := 32) (p := 4294967296) (by decide) rfl N.ez1
      have g3 := b_andU (a := w) N.bw N.ez0
      have g4 := b_quoU (a := u) (b := 2147483647) N.eq1 b1
      have g5 := b_mulU (a := q1) (b := 2147483648) N.a2
      have g6 := b_subU (a := u) (b := q1 * 2147483648) N.a3
      have g7 := b_geqU q1 4294967296
      rw [decide_eq_false (Nat.not_le.2 N.a1)] at g7
      have g8 := b_mulU (a := q1) (b := 0) (c := 0) (by rw [Nat.mul_zero])
      have g9 := b_mulU (a := 4294967296) (b := r1) N.a4
      have k1 := b_addU (a := 4294967296 * r1) (b := u1) N.a5
      have k2 := b_gtrU 0 (4294967296 * r1 + u1)
      rw [decide_eq_false (Nat.not_lt.2 (Nat.zero_le _))] at k2
      have k3 := b_mulU (a := u) (b := 4294967296) rfl
      have k4 := b_addU (a := u * 4294967296 % 18446744073709551616) (b := u1) rfl
      have k5 := b_mulU (a := q1) (b := 9223372036854775808) rfl
      have k6 := b_subU N.a6
      have k7 := b_quoU (a := v) (b := 2147483647) N.eq0 b2
      have k8 := b_mulU (a := q0) (b := 2147483648) N.c2
      have k9 := b_subU (a := v) (b := q0 * 2147483648) N.c3
      have l1 := b_geqU q0 4294967296
      rw [decide_eq_false (Nat.not_le.2 N.c1)] at l1
      have l2 := b_mulU (a := q0) (b := 0) (c := 0) (by rw [Nat.mul_zero])
      have l3 := b_mulU (a := 4294967296) (b := r0) N.c4
      have l4 := b_addU (a := 4294967296 * r0) (b := u0) N.c5
      have l5 := b_gtrU 0 (4294967296 * r0 + u0)
      rw [decide_eq_false (Nat.not_lt.2 (Nat.zero_le _))] at l5
      have l6 := b_mulU (a := q1) (b := 4294967296) N.d1
      have l7 := b_addU (a := q1 * 4294967296) (b := q0) N.d2
      have l8 := b_mulU (a := v) (b := 4294967296) rfl
      have l9 := b_addU (a := v * 4294967296 % 18446744073709551616) (b := u0) rfl
      have m1 := b_mulU (a := q0) (b := 9223372036854775808) rfl
      have m2 := b_subU N.c6
      have m3 := b_shrU (a := r0 * 4294967296 + u0) (b := 62) (p := 4611686018427387904) (by decide) rfl N.d3
      simp only [Nat.reduceAdd] at g4 k7
      exact walk_big2 _ _ _ _ _ _ _ _ _ _ _ _ _ _ _ _ _ _ _ _ _ _ _ _ _ _ _ _ _ _ _ _ _ _ _ _ _ e1 e2 e3 (fun E t => f3 E t _) f4 f5 (fun E t => f6 E t _) f7 (fun E t => f8 E t _) f9 (fun E t => g1 E t _) g2 g3 g4 g5 g6 g7 g8 g9 k1 k2 k3 k4 k5 k6 k7 k8 k9 l1 l2 l3 l4 l5 l6 l7 l8 l9 m1 m2 (fun E t => m3 E t _) (fun s => lz2_run s) rfl s
  · cases h
end Go.Proofs.YtinlmdapgejdoaaGreat.sp
end
end
