/- Chapter 20's runs, evaluated over the named memory. -/
import Derived.Test.YtinlmdapgejdoaaGreatMRowClosingPairs0
import Derived.Test.YtinlmdapgejdoaaGreatAe40
import Derived.Test.YtinlmdapgejdoaaGreatRows
import Derived.Test.YtinlmdapgejdoaaGreatAe24
section
/- A sum is split: the quotient by ten thousand, all its ways. (printed by wip/gen/sp3.py) -/
noncomputable section
namespace Go.Proofs.YtinlmdapgejdoaaGreat.sp
open AE
set_option linter.unusedSimpArgs false
set_option linter.unusedVariables false
set_option maxRecDepth 10000

def Q0 (h : Int) (lo : Nat) : Bool := !ltI (Int.ofNat (szH h lo)) (wrapA IntKind.u64 (Int.ofNat 10000))
def Gt (h : Int) (lo : Nat) : Bool := (Nat.beq (modN 18446744073709551616 (Int.ofNat 10000)) 10000) && (Nat.blt (szH h lo) 10000) && (Nat.blt (szL h lo) 18446744073709551616)
def qq (h : Int) (lo : Nat) : Nat := (szH h lo * 18446744073709551616 + szL h lo) / 10000
def rr (h : Int) (lo : Nat) : Nat := (szH h lo * 18446744073709551616 + szL h lo) % 10000
def half (r : Nat) : Int := wrapA IntKind.u64 (Int.sub (wrapA IntKind.u64 (Int.ofNat 10000)) (Int.ofNat r))
def C1 (q : Nat) : Bool := !ltI 9223372036854775808 (Int.ofNat q)
def C2 (r : Nat) : Bool := ltI (half r) (Int.ofNat r)
def C3 (r : Nat) : Bool := eqI (Int.ofNat r) (half r)
def C4 (q : Nat) : Bool := eqI (wrapA IntKind.u64 (Int.ofNat (Nat.land (modN (maskOf IntKind.u64) (Int.ofNat q)) (modN (maskOf IntKind.u64) 1)))) 1
def xD (q : Nat) : Int := Int.ofNat q
def xU (q : Nat) : Int := wrapA IntKind.u64 (Int.add (Int.ofNat q) 1)
def FM (x : Int) : Bool := !ltI 9223372036854775808 x
def FP (x : Int) : Bool := !ltI 9223372036854775807 x
def noV : Value := .tuple ⟨[.int .i64 0, .bool false]⟩
def mV (x : Int) : Value := .tuple ⟨[.int .i64 (wrapA .i64 (wrapA .u64 (Int.sub 0 x))), .bool true]⟩
def pV (x : Int) : Value := .tuple ⟨[.int .i64 (wrapA .i64 x), .bool true]⟩
noncomputable def quoE (h : Int) (lo : Nat) (told : List (Nat × Option Bool)) : Option (Value × List (Bool × Bool)) :=
  evVO E (gatesOf gateQ) (sumsOf sigQ) 100 71 [.agg ⟨[.int .i64 h, .int .u64 (.ofNat lo)]⟩, .int .i64 (.ofNat 10000)] told
theorem quo_z (h : Int) (lo : Nat) : quoE h lo [(1, some true)] = some (noV, [(Q0 h lo, true)]) := by kernel_rfl
theorem quo_amf (h : Int) (lo : Nat) : quoE h lo [(1, some false), (0, some true), (0, some false), (6, some true), (2, some true)] = some ((mV (xD (qq h lo))), [(FM (xD (qq h lo)), true), (szM h, true), (C1 (qq h lo), false), (Gt h lo, true), (Q0 h lo, false)]) := by kernel_rfl
theorem quo_amo (h : Int) (lo : Nat) : quoE h lo [(1, some false), (0, some true), (0, some false), (6, some true), (2, some false), (0, some false)] = some (noV, [(!szM h, false), (FM (xD (qq h lo)), false), (szM h, true), (C1 (qq h lo), false), (Gt h lo, true), (Q0 h lo, false)]) := by kernel_rfl
theorem quo_apf (h : Int) (lo : Nat) : quoE h lo [(1, some false), (0, some true), (0, some false), (6, some false), (3, some true), (2, some true)] = some ((pV (xD (qq h lo))), [(FP (xD (qq h lo)), true), (!szM h, true), (szM h, false), (C1 (qq h lo), false), (Gt h lo, true), (Q0 h lo, false)]) := by kernel_rfl
theorem quo_apo (h : Int) (lo : Nat) : quoE h lo [(1, some false), (0, some true), (0, some false), (6, some false), (3, some true), (2, some false)] = some (noV, [(FP (xD (qq h lo)), false), (!szM h, true), (szM h, false), (C1 (qq h lo), false), (Gt h lo, true), (Q0 h lo, false)]) := by kernel_rfl
theorem quo_bmf (h : Int) (lo : Nat) : quoE h lo [(1, some false), (0, some true), (0, some true), (3, some true), (8, some true), (2, some true)] = some ((mV (xU (qq h lo))), [(FM (xU (qq h lo)), true), (szM h, true), (C2 (rr h lo), true), (C1 (qq h lo), true), (Gt h lo, true), (Q0 h lo, false)]) := by kernel_rfl
theorem quo_bmo (h : Int) (lo : Nat) : quoE h lo [(1, some false), (0, some true), (0, some true), (3, some true), (8, some true), (2, some false), (0, some false)] = some (noV, [(!szM h, false), (FM (xU (qq h lo)), false), (szM h, true), (C2 (rr h lo), true), (C1 (qq h lo), true), (Gt h lo, true), (Q0 h lo, false)]) := by kernel_rfl
theorem quo_bpf (h : Int) (lo : Nat) : quoE h lo [(1, some false), (0, some true), (0, some true), (3, some true), (8, some false), (3, some true), (2, some true)] = some ((pV (xU (qq h lo))), [(FP (xU (qq h lo)), true), (!szM h, true), (szM h, false), (C2 (rr h lo), true), (C1 (qq h lo), true), (Gt h lo, true), (Q0 h lo, false)]) := by kernel_rfl
theorem quo_bpo (h : Int) (lo : Nat) : quoE h lo [(1, some false), (0, some true), (0, some true), (3, some true), (8, some false), (3, some true), (2, some false)] = some (noV, [(FP (xU (qq h lo)), false), (!szM h, true), (szM h, false), (C2 (rr h lo), true), (C1 (qq h lo), true), (Gt h lo, true), (Q0 h lo, false)]) := by kernel_rfl
theorem quo_cmf (h : Int) (lo : Nat) : quoE h lo [(1, some false), (0, some true), (0, some true), (3, some false), (3, some false), (8, some true), (2, some true)] = some ((mV (xD (qq h lo))), [(FM (xD (qq h lo)), true), (szM h, true), (C3 (rr h lo), false), (C2 (rr h lo), false), (C1 (qq h lo), true), (Gt h lo, true), (Q0 h lo, false)]) := by kernel_rfl
theorem quo_cmo (h : Int) (lo : Nat) : quoE h lo [(1, some false), (0, some true), (0, some true), (3, some false), (3, some false), (8, some true), (2, some false), (0, some false)] = some (noV, [(!szM h, false), (FM (xD (qq h lo)), false), (szM h, true), (C3 (rr h lo), false), (C2 (rr h lo), false), (C1 (qq h lo), true), (Gt h lo, true), (Q0 h lo, false)]) := by kernel_rfl
theorem quo_cpf (h : Int) (lo : Nat) : quoE h lo [(1, some false), (0, some true), (0, some true), (3, some false), (3, some false), (8, some false), (3, some true), (2, some true)] = some ((pV (xD (qq h lo))), [(FP (xD (qq h lo)), true), (!szM h, true), (szM h, false), (C3 (rr h lo), false), (C2 (rr h lo), false), (C1 (qq h lo), true), (Gt h lo, true), (Q0 h lo, false)]) := by kernel_rfl
theorem quo_cpo (h : Int) (lo : Nat) : quoE h lo [(1, some false), (0, some true), (0, some true), (3, some false), (3, some false), (8, some false), (3, some true), (2, some false)] = some (noV, [(FP (xD (qq h lo)), false), (!szM h, true), (szM h, false), (C3 (rr h lo), false), (C2 (rr h lo), false), (C1 (qq h lo), true), (Gt h lo, true), (Q0 h lo, false)]) := by kernel_rfl
theorem quo_dmf (h : Int) (lo : Nat) : quoE h lo [(1, some false), (0, some true), (0, some true), (3, some false), (3, some true), (7, some true), (0, some true), (2, some true)] = some ((mV (xU (qq h lo))), [(FM (xU (qq h lo)), true), (szM h, true), (C4 (qq h lo), true), (C3 (rr h lo), true), (C2 (rr h lo), false), (C1 (qq h lo), true), (Gt h lo, true), (Q0 h lo, false)]) := by kernel_rfl
theorem quo_dmo (h : Int) (lo : Nat) : quoE h lo [(1, some false), (0, some true), (0, some true), (3, some false), (3, some true), (7, some true), (0, some true), (2, some false), (0, some false)] = some (noV, [(!szM h, false), (FM (xU (qq h lo)), false), (szM h, true), (C4 (qq h lo), true), (C3 (rr h lo), true), (C2 (rr h lo), false), (C1 (qq h lo), true), (Gt h lo, true), (Q0 h lo, false)]) := by kernel_rfl
theorem quo_dpf (h : Int) (lo : Nat) : quoE h lo [(1, some false), (0, some true), (0, some true), (3, some false), (3, some true), (7, some true), (0, some false), (3, some true), (2, some true)] = some ((pV (xU (qq h lo))), [(FP (xU (qq h lo)), true), (!szM h, true), (szM h, false), (C4 (qq h lo), true), (C3 (rr h lo), true), (C2 (rr h lo), false), (C1 (qq h lo), true), (Gt h lo, true), (Q0 h lo, false)]) := by kernel_rfl
theorem quo_dpo (h : Int) (lo : Nat) : quoE h lo [(1, some false), (0, some true), (0, some true), (3, some false), (3, some true), (7, some true), (0, some false), (3, some true), (2, some false)] = some (noV, [(FP (xU (qq h lo)), false), (!szM h, true), (szM h, false), (C4 (qq h lo), true), (C3 (rr h lo), true), (C2 (rr h lo), false), (C1 (qq h lo), true), (Gt h lo, true), (Q0 h lo, false)]) := by kernel_rfl
theorem quo_emf (h : Int) (lo : Nat) : quoE h lo [(1, some false), (0, some true), (0, some true), (3, some false), (3, some true), (7, some false), (0, some true), (2, some true)] = some ((mV (xD (qq h lo))), [(FM (xD (qq h lo)), true), (szM h, true), (C4 (qq h lo), false), (C3 (rr h lo), true), (C2 (rr h lo), false), (C1 (qq h lo), true), (Gt h lo, true), (Q0 h lo, false)]) := by kernel_rfl
theorem quo_emo (h : Int) (lo : Nat) : quoE h lo [(1, some false), (0, some true), (0, some true), (3, some false), (3, some true), (7, some false), (0, some true), (2, some false), (0, some false)] = some (noV, [(!szM h, false), (FM (xD (qq h lo)), false), (szM h, true), (C4 (qq h lo), false), (C3 (rr h lo), true), (C2 (rr h lo), false), (C1 (qq h lo), true), (Gt h lo, true), (Q0 h lo, false)]) := by kernel_rfl
theorem quo_epf (h : Int) (lo : Nat) : quoE h lo [(1, some false), (0, some true), (0, some true), (3, some false), (3, some true), (7, some false), (0, some false), (3, some true), (2, some true)] = some ((pV (xD (qq h lo))), [(FP (xD (qq h lo)), true), (!szM h, true), (szM h, false), (C4 (qq h lo), false), (C3 (rr h lo), true), (C2 (rr h lo), false), (C1 (qq h lo), true), (Gt h lo, true), (Q0 h lo, false)]) := by kernel_rfl
theorem quo_epo (h : Int) (lo : Nat) : quoE h lo [(1, some false), (0, some true), (0, some true), (3, some false), (3, some true), (7, some false), (0, some false), (3, some true), (2, some false)] = some (noV, [(FP (xD (qq h lo)), false), (!szM h, true), (szM h, false), (C4 (qq h lo), false), (C3 (rr h lo), true), (C2 (rr h lo), false), (C1 (qq h lo), true), (Gt h lo, true), (Q0 h lo, false)]) := by kernel_rfl
def upX (c1 c2 c3 c4 : Bool) : Bool := match c1 with
  | false => false
  | true => match c2 with
    | true => true
    | false => match c3 with
      | false => false
      | true => c4
def outX (m fU fD gU gD up : Bool) (q : Nat) : Value := match m with
  | true => match up with
    | true => match fU with | true => mV (xU q) | false => noV
    | false => match fD with | true => mV (xD q) | false => noV
  | false => match up with
    | true => match gU with | true => pV (xU q) | false => noV
    | false => match gD with | true => pV (xD q) | false => noV
def quoX (q0 c1 c2 c3 c4 m fU fD gU gD : Bool) (q : Nat) : Value := match q0 with
  | true => noV
  | false => outX m fU fD gU gD (upX c1 c2 c3 c4) q
def quoV (h : Int) (lo : Nat) : Value := quoX (Q0 h lo) (C1 (qq h lo)) (C2 (rr h lo)) (C3 (rr h lo)) (C4 (qq h lo)) (szM h) (FM (xU (qq h lo))) (FM (xD (qq h lo))) (FP (xU (qq h lo))) (FP (xD (qq h lo))) (qq h lo)
theorem szL_lt (h : Int) {lo : Nat} (hlo : lo < 18446744073709551616) : szL h lo < 18446744073709551616 := by
  cases h with
  | ofNat k => exact hlo
  | negSucc k => exact Nat.mod_lt _ (by decide)
theorem gate_of {h : Int} {lo : Nat} (hlo : lo < 18446744073709551616) (h0 : Q0 h lo = false) : Gt h lo = true := by
  unfold Q0 at h0
  rw [ltI_not] at h0
  have e : wrapA IntKind.u64 (Int.ofNat 10000) = Int.ofNat 10000 := rfl
  rw [e] at h0
  simp at h0
  unfold Gt
  have e2 : modN 18446744073709551616 (Int.ofNat 10000) = 10000 := rfl
  rw [e2]
  simp only [Bool.and_eq_true, beq_iff, blt_iff]
  exact ⟨⟨trivial, by omega⟩, szL_lt h hlo⟩
theorem qnil : ∀ p ∈ ([] : List (Bool × Bool)), p.1 = p.2 := fun p h => by cases h
theorem qcons {a b : Bool} {l : List (Bool × Bool)} (h : a = b) (hl : ∀ p ∈ l, p.1 = p.2) : ∀ p ∈ (a, b) :: l, p.1 = p.2 := by
  intro p hp
  cases hp with
  | head => exact h
  | tail _ h2 => exact hl p h2
theorem quo_all {h : Int} {lo : Nat} {q0 c1 c2 c3 c4 m fU fD gU gD : Bool} (h0 : Q0 h lo = q0) (hg : q0 = false → Gt h lo = true) (h1 : C1 (qq h lo) = c1) (h2 : C2 (rr h lo) = c2) (h3 : C3 (rr h lo) = c3) (h4 : C4 (qq h lo) = c4) (hm : szM h = m)
    (fmU : FM (xU (qq h lo)) = fU) (fmD : FM (xD (qq h lo)) = fD) (fpU : FP (xU (qq h lo)) = gU) (fpD : FP (xD (qq h lo)) = gD) :
    evV E (gated (gatesOf gateQ) (sumsOf sigQ)) 100 71 [.agg ⟨[.int .i64 h, .int .u64 (.ofNat lo)]⟩, .int .i64 (.ofNat 10000)] = some (quoX q0 c1 c2 c3 c4 m fU fD gU gD (qq h lo)) := by
  cases q0 with
  | true => exact evV_of (quo_z h lo) (qcons h0 qnil)
  | false =>
    have hg := hg rfl
    have hn := congrArg not hm
    cases c1 with
    | false =>
      cases m with
      | true => cases fD with
        | true => exact evV_of (quo_amf h lo) (qcons fmD (qcons hm (qcons h1 (qcons hg (qcons h0 qnil)))))
        | false => exact evV_of (quo_amo h lo) (qcons hn (qcons fmD (qcons hm (qcons h1 (qcons hg (qcons h0 qnil))))))
      | false => cases gD with
        | true => exact evV_of (quo_apf h lo) (qcons fpD (qcons hn (qcons hm (qcons h1 (qcons hg (qcons h0 qnil))))))
        | false => exact evV_of (quo_apo h lo) (qcons fpD (qcons hn (qcons hm (qcons h1 (qcons hg (qcons h0 qnil))))))
    | true => cases c2 with
      | true =>
        cases m with
        | true => cases fU with
          | true => exact evV_of (quo_bmf h lo) (qcons fmU (qcons hm (qcons h2 (qcons h1 (qcons hg (qcons h0 qnil))))))
          | false => exact evV_of (quo_bmo h lo) (qcons hn (qcons fmU (qcons hm (qcons h2 (qcons h1 (qcons hg (qcons h0 qnil)))))))
        | false => cases gU with
          | true => exact evV_of (quo_bpf h lo) (qcons fpU (qcons hn (qcons hm (qcons h2 (qcons h1 (qcons hg (qcons h0 qnil)))))))
          | false => exact evV_of (quo_bpo h lo) (qcons fpU (qcons hn (qcons hm (qcons h2 (qcons h1 (qcons hg (qcons h0 qnil)))))))
      | false => cases c3 with
        | false =>
          cases m with
          | true => cases fD with
            | true => exact evV_of (quo_cmf h lo) (qcons fmD (qcons hm (qcons h3 (qcons h2 (qcons h1 (qcons hg (qcons h0 qnil)))))))
            | false => exact evV_of (quo_cmo h lo) (qcons hn (qcons fmD (qcons hm (qcons h3 (qcons h2 (qcons h1 (qcons hg (qcons h0 qnil))))))))
          | false => cases gD with
            | true => exact evV_of (quo_cpf h lo) (qcons fpD (qcons hn (qcons hm (qcons h3 (qcons h2 (qcons h1 (qcons hg (qcons h0 qnil))))))))
            | false => exact evV_of (quo_cpo h lo) (qcons fpD (qcons hn (qcons hm (qcons h3 (qcons h2 (qcons h1 (qcons hg (qcons h0 qnil))))))))
        | true => cases c4 with
          | true =>
            cases m with
            | true => cases fU with
              | true => exact evV_of (quo_dmf h lo) (qcons fmU (qcons hm (qcons h4 (qcons h3 (qcons h2 (qcons h1 (qcons hg (qcons h0 qnil))))))))
              | false => exact evV_of (quo_dmo h lo) (qcons hn (qcons fmU (qcons hm (qcons h4 (qcons h3 (qcons h2 (qcons h1 (qcons hg (qcons h0 qnil)))))))))
            | false => cases gU with
              | true => exact evV_of (quo_dpf h lo) (qcons fpU (qcons hn (qcons hm (qcons h4 (qcons h3 (qcons h2 (qcons h1 (qcons hg (qcons h0 qnil)))))))))
              | false => exact evV_of (quo_dpo h lo) (qcons fpU (qcons hn (qcons hm (qcons h4 (qcons h3 (qcons h2 (qcons h1 (qcons hg (qcons h0 qnil)))))))))
          | false =>
            cases m with
            | true => cases fD with
              | true => exact evV_of (quo_emf h lo) (qcons fmD (qcons hm (qcons h4 (qcons h3 (qcons h2 (qcons h1 (qcons hg (qcons h0 qnil))))))))
              | false => exact evV_of (quo_emo h lo) (qcons hn (qcons fmD (qcons hm (qcons h4 (qcons h3 (qcons h2 (qcons h1 (qcons hg (qcons h0 qnil)))))))))
            | false => cases gD with
              | true => exact evV_of (quo_epf h lo) (qcons fpD (qcons hn (qcons hm (qcons h4 (qcons h3 (qcons h2 (qcons h1 (qcons hg (qcons h0 qnil)))))))))
              | false => exact evV_of (quo_epo h lo) (qcons fpD (qcons hn (qcons hm (qcons h4 (qcons h3 (qcons h2 (qcons h1 (qcons hg (qcons h0 qnil)))))))))
theorem quo_ev (h : Int) (lo : Nat) (hlo : lo < 18446744073709551616) : evV E (gated (gatesOf gateQ) (sumsOf sigQ)) 100 71 [.agg ⟨[.int .i64 h, .int .u64 (.ofNat lo)]⟩, .int .i64 (.ofNat 10000)] = some (quoV h lo) :=
  quo_all rfl (fun h0 => gate_of hlo h0) rfl rfl rfl rfl rfl rfl rfl rfl rfl
end Go.Proofs.YtinlmdapgejdoaaGreat.sp
end
end

section
/- A sum is split: an amount's fraction. -/
noncomputable section
namespace Go.Proofs.YtinlmdapgejdoaaGreat.sp
open AE
set_option linter.unusedSimpArgs false
set_option linter.unusedVariables false
set_option maxRecDepth 10000

def qI : Value → Int
  | .tuple ⟨[.int _ n, _]⟩ => n
  | _ => 0
def qB : Value → Bool
  | .tuple ⟨[_, .bool b]⟩ => b
  | _ => false
def quoW (h : Int) (lo : Nat) : Value := .tuple ⟨[.int .i64 (qI (quoV h lo)), .bool (qB (quoV h lo))]⟩
theorem quoX_eq : ∀ (q0 c1 c2 c3 c4 m fU fD gU gD : Bool) (q : Nat), quoX q0 c1 c2 c3 c4 m fU fD gU gD q = .tuple ⟨[.int .i64 (qI (quoX q0 c1 c2 c3 c4 m fU fD gU gD q)), .bool (qB (quoX q0 c1 c2 c3 c4 m fU fD gU gD q))]⟩ := by
  intro q0 c1 c2 c3 c4 m fU fD gU gD q
  cases q0 with
  | true => rfl
  | false =>
    unfold quoX
    dsimp only
    generalize upX c1 c2 c3 c4 = up
    cases m <;> cases up <;> cases fU <;> cases fD <;> cases gU <;> cases gD <;> rfl
theorem quoV_eq (h : Int) (lo : Nat) : quoV h lo = quoW h lo := quoX_eq _ _ _ _ _ _ _ _ _ _ _
theorem plain_quoW (h : Int) (lo : Nat) : Plain (quoW h lo) := plain_tuple fun v hv => by
  simp only [List.mem_cons, List.not_mem_nil, or_false] at hv
  rcases hv with rfl | rfl
  · exact plain_int _ _
  · exact plain_bool _
def quoG : List Value → Option (Bool × Value)
  | [.agg ⟨[.int .i64 h, .int .u64 (.ofNat lo)]⟩, .int .i64 (.ofNat 10000)] => some (Nat.blt lo 18446744073709551616, quoW h lo)
  | _ => none
theorem told_quoG : AE.Told Tryz.prog 71 (gA quoG) := by
  refine told_pure hE hmix tolds_Q ?_
  intro args s v s' hr
  obtain ⟨h1, rfl⟩ := gA_run hr
  unfold quoG at h1
  split at h1
  · rename_i h lo
    have hb : Nat.blt lo 18446744073709551616 = true := congrArg (fun x => match x with | some (b, _) => b | none => false) h1
    have hv : quoW h lo = v := congrArg (fun x => match x with | some (_, v) => v | none => undefV) h1
    subst hv
    refine ⟨plain_quoW h lo, Less'.refl _, fun v hv => ?_, 100, ?_⟩
    · simp only [List.mem_cons, List.not_mem_nil, or_false] at hv
      rcases hv with rfl | rfl
      · exact plain_agg (ints_plain (by simp))
      · exact plain_int _ _
    · rw [← quoV_eq]
      exact quo_ev h lo (blt_iff.1 hb)
  · cases h1

/-- a fraction of an amount -/
def lN (n p : Int) : Nat := modN 18446744073709551616 (Int.mul (wrapA .u64 n) (wrapA .u64 p))
def scW (n p : Int) : Value := quoW (hW n p) (lN n p)
def scI (n p : Int) : Int := qI (quoV (hW n p) (lN n p))
def scaleA : List Value → AM Value
  | [.int .i64 n, .int .i64 p, .int .i64 (.ofNat 10000)] => .pure (scW n p)
  | _ => .fail
def gateS : List (Nat × (List Value → Option (Bool × Value))) := [(71, quoG)]
def sigS : List (FuncId × (List Value → AM Value)) := [(72, mulWA)]
theorem tolds_S : Tolds Tryz.prog (gated (gatesOf gateS) (sumsOf sigS)) := tolds_gates (tolds_cons told_mulW tolds_nil) (by
  intro p hp
  simp only [gateS, List.mem_cons, List.not_mem_nil, or_false] at hp
  subst hp
  exact told_quoG)
theorem scale_ev (n p : Int) : evVO E (gatesOf gateS) (sumsOf sigS) 100 51 [.int .i64 n, .int .i64 p, .int .i64 (.ofNat 10000)] [(0, some true)] = some (scW n p, [(Nat.blt (lN n p) 18446744073709551616, true)]) := by kernel_rfl
theorem lN_lt (n p : Int) : lN n p < 18446744073709551616 := by
  have := modN_eq 18446744073709551616 (by decide) (Int.mul (wrapA .u64 n) (wrapA .u64 p))
  unfold lN
  omega
theorem told_scale : AE.Told Tryz.prog 51 scaleA := by
  refine told_pure hE hmix tolds_S ?_
  intro args s v s' h
  unfold scaleA at h
  split at h
  · rename_i n p
    cases h
    exact ⟨plain_quoW _ _, Less'.refl _, ints_plain (by simp), 100, evV_of (scale_ev n p) (qcons (blt_iff.2 (lN_lt n p)) qnil)⟩
  · cases h
/-- an amount, split -/
def cl (p : Int) : Int :=
  let m := match ltI (.ofNat 10000) p with | true => .ofNat 10000 | false => p
  match ltI (.ofNat 0) m with | true => m | false => .ofNat 0
def spV (n p : Int) : Value := .tuple ⟨[.int .i64 (scI n (cl p)), .int .i64 (wrapA .i64 (Int.sub n (scI n (cl p))))]⟩
def splitA : List Value → AM Value
  | [.int .i64 n, .int .i64 p] => .pure (spV n p)
  | _ => .fail
def sigT : List (FuncId × (List Value → AM Value)) := [(51, scaleA)]
theorem tolds_T : Tolds Tryz.prog (sumsOf sigT) := tolds_cons told_scale tolds_nil
theorem split_ev (n p : Int) : evV E (sumsOf sigT) 100 78 [.int .i64 n, .int .i64 p] = some (spV n p) := by kernel_rfl
theorem told_split : AE.Told Tryz.prog 78 splitA := by
  refine told_pure hE hmix tolds_T ?_
  intro args s v s' h
  unfold splitA at h
  split at h
  · rename_i n p
    cases h
    exact ⟨plain_tuple (ints_plain (by simp)), Less'.refl _, ints_plain (by simp), 100, split_ev n p⟩
  · cases h
end Go.Proofs.YtinlmdapgejdoaaGreat.sp
end
end

section
/- A sum is split: all of it, and nothing of it: plain numbers. -/
noncomputable section
namespace Go.Proofs.YtinlmdapgejdoaaGreat.sp
open AE
set_option linter.unusedSimpArgs false
set_option linter.unusedVariables false
set_option maxRecDepth 10000

theorem andE {a : Nat} (ha : a < 18446744073709551616) : andU (.ofNat a) 4294967295 = .ofNat (a % 4294967296) := by
  show wrapA .u64 (.ofNat (Nat.land (a % 18446744073709551616) (4294967295 % 18446744073709551616))) = _
  rw [Nat.mod_eq_of_lt ha]
  have e : Nat.land a (4294967295 % 18446744073709551616) = a % 4294967296 := Nat.and_two_pow_sub_one_eq_mod a 32
  rw [e, wU (by omega)]
theorem shrE (a : Nat) : shrU (.ofNat a) 32 = .ofNat (a / 4294967296) := by
  show Int.fdiv (a : Int) ((2 ^ 32 : Nat) : Int) = _
  rw [Int.fdiv_eq_ediv_of_nonneg _ (Int.natCast_nonneg _)]
  rfl
theorem mulE {a b : Nat} (h : a * b < 18446744073709551616) : mulU (.ofNat a) (.ofNat b) = .ofNat (a * b) := by
  show wrapA .u64 (.ofNat (a * b)) = _
  exact wU h
theorem addE {a b : Nat} (h : a + b < 18446744073709551616) : addU (.ofNat a) (.ofNat b) = .ofNat (a + b) := by
  show wrapA .u64 (.ofNat (a + b)) = _
  exact wU h
theorem hiE_nat {x y : Nat} (hx : x < 18446744073709551616) (hy : y < 18446744073709551616) : hiE (.ofNat x) (.ofNat y) = .ofNat (x * y / 18446744073709551616) := by
  have h0 : x % 4294967296 < 4294967296 := Nat.mod_lt _ (by decide)
  have h1 : x / 4294967296 < 4294967296 := by omega
  have g0 : y % 4294967296 < 4294967296 := Nat.mod_lt _ (by decide)
  have g1 : y / 4294967296 < 4294967296 := by omega
  have hh := wd.mul64_hi x y hx hy
  unfold hiE
  simp only [andE hx, andE hy, shrE]
  generalize x % 4294967296 = x0 at *
  generalize x / 4294967296 = x1 at *
  generalize y % 4294967296 = y0 at *
  generalize y / 4294967296 = y1 at *
  obtain ⟨b1, b2, b3⟩ := wd.mul64_bounds x0 x1 y0 y1 h0 h1 g0 g1
  have m : ∀ a b : Nat, a < 4294967296 → b < 4294967296 → a * b ≤ 18446744065119617025 := fun a b ha hb => by
    have := Nat.mul_le_mul (show a ≤ 4294967295 by omega) (show b ≤ 4294967295 by omega)
    omega
  have c1 := m x1 y0 h1 g0
  have c2 := m x0 y1 h0 g1
  have c3 := m x1 y1 h1 g1
  have k1 : mulU (.ofNat x1) (.ofNat y0) = .ofNat (x1 * y0) := mulE (by omega)
  have k2 : mulU (.ofNat x0) (.ofNat y1) = .ofNat (x0 * y1) := mulE (by omega)
  have k3 : mulU (.ofNat x1) (.ofNat y1) = .ofNat (x1 * y1) := mulE (by omega)
  rw [mulE b1, k1, k2, k3, shrE, addE b2, andE b2, shrE, addE b3, shrE]
  have d1 : (x1 * y0 + x0 * y0 / 4294967296) / 4294967296 < 4294967296 := by
    generalize x1 * y0 + x0 * y0 / 4294967296 = z at *
    omega
  have d2 : ((x1 * y0 + x0 * y0 / 4294967296) % 4294967296 + x0 * y1) / 4294967296 < 4294967296 := by
    generalize (x1 * y0 + x0 * y0 / 4294967296) % 4294967296 + x0 * y1 = z at *
    omega
  have d3 : x1 * y1 + (x1 * y0 + x0 * y0 / 4294967296) / 4294967296 < 18446744073709551616 := by omega
  have d4 : x1 * y1 + (x1 * y0 + x0 * y0 / 4294967296) / 4294967296 + ((x1 * y0 + x0 * y0 / 4294967296) % 4294967296 + x0 * y1) / 4294967296 < 18446744073709551616 := by omega
  rw [addE d3, addE d4, hh]

theorem ltI_nat (a b : Nat) : ltI (.ofNat a) (.ofNat b) = decide (a < b) := by
  rw [ltI_eq]
  simp
/-- a quotient that leaves nothing -/
theorem quo_exact {h : Int} {lo q : Nat} (hs : szH h lo * 18446744073709551616 + szL h lo = q * 10000) (hh : szH h lo < 10000) (hq : q ≤ 9223372036854775808) (hp : szM h = false → q ≤ 9223372036854775807) :
    qI (quoV h lo) = match szM h with | true => wrapA .i64 (wrapA .u64 (Int.sub 0 (.ofNat q))) | false => wrapA .i64 (.ofNat q) := by
  have e1 : qq h lo = q := by
    unfold qq
    rw [hs]
    exact Nat.mul_div_cancel q (by decide)
  have e2 : rr h lo = 0 := by
    unfold rr
    rw [hs]
    exact Nat.mul_mod_left q 10000
  have f0 : Q0 h lo = false := by
    unfold Q0
    have e : wrapA IntKind.u64 (Int.ofNat 10000) = Int.ofNat 10000 := rfl
    rw [e, ltI_nat, decide_eq_true hh]
    rfl
  have f1 : C1 q = true := by
    unfold C1
    have e : (9223372036854775808 : Int) = Int.ofNat 9223372036854775808 := rfl
    rw [e, ltI_nat, decide_eq_false (by omega)]
    rfl
  have f2 : C2 0 = false := rfl
  have f3 : C3 0 = false := rfl
  have f4 : FM (xD q) = true := by
    unfold FM xD
    have e : (9223372036854775808 : Int) = Int.ofNat 9223372036854775808 := rfl
    rw [e, ltI_nat, decide_eq_false (by omega)]
    rfl
  have f5 : szM h = false → FP (xD q) = true := by
    intro hm
    have := hp hm
    unfold FP xD
    have e : (9223372036854775807 : Int) = Int.ofNat 9223372036854775807 := rfl
    rw [e, ltI_nat, decide_eq_false (by omega)]
    rfl
  unfold quoV
  rw [e1, e2, f0, f1, f2, f3, f4]
  generalize C4 q = c4
  generalize FM (xU q) = a1
  generalize FP (xU q) = a2
  cases hm : szM h with
  | true => rfl
  | false =>
    rw [f5 hm]
    rfl

theorem wrapI {x : Int} (h1 : -9223372036854775808 ≤ x) (h2 : x < 9223372036854775808) : wrapA .i64 x = x := by
  show wrapS 18446744073709551616 9223372036854775808 x = x
  rw [wrapS_eq _ _ (by decide) (by decide)]
  split <;> omega
theorem modN_neg {k : Nat} (h : k < 18446744073709551616) : modN 18446744073709551616 (.negSucc k) = 18446744073709551615 - k := by
  have := modN_eq 18446744073709551616 (by decide) (.negSucc k)
  have e : (Int.negSucc k) % ((18446744073709551616 : Nat) : Int) = ((18446744073709551615 - k : Nat) : Int) := by
    rw [Int.negSucc_eq]
    omega
  rw [e] at this
  omega
theorem wU_neg {k : Nat} (h : k < 18446744073709551616) : wrapA .u64 (.negSucc k) = .ofNat (18446744073709551615 - k) := by
  show Int.ofNat (modN 18446744073709551616 (.negSucc k)) = _
  have := modN_eq 18446744073709551616 (by decide) (.negSucc k)
  have e : (Int.negSucc k) % ((18446744073709551616 : Nat) : Int) = ((18446744073709551615 - k : Nat) : Int) := by
    rw [Int.negSucc_eq]
    omega
  rw [e] at this
  have : modN 18446744073709551616 (.negSucc k) = 18446744073709551615 - k := by omega
  rw [this]
theorem lN_nat (a b : Nat) (n p : Int) (hn : wrapA .u64 n = .ofNat a) (hp : wrapA .u64 p = .ofNat b) : lN n p = a * b % 18446744073709551616 := by
  unfold lN
  rw [hn, hp]
  rfl
theorem wU_some (n : Int) : ∃ m, wrapA .u64 n = .ofNat m ∧ m < 18446744073709551616 := by
  refine ⟨modN 18446744073709551616 n, rfl, ?_⟩
  have := modN_eq 18446744073709551616 (by decide) n
  omega
/-- of none all is the rest -/
theorem sc_none (n : Int) : scI n (cl 0) = 0 := by
  obtain ⟨m, e1, hm⟩ := wU_some n
  have e0 : cl 0 = 0 := rfl
  have e2 : wrapA .u64 0 = .ofNat 0 := rfl
  have hl := lN_nat m 0 n 0 e1 e2
  have hh : hW n 0 = .ofNat 0 := by
    unfold hW
    rw [e1, e2, hiE_nat hm (by omega), Nat.mul_zero]
    cases ltI n 0 <;> rfl
  rw [e0]
  unfold scI
  rw [hh, hl, Nat.mul_zero]
  rfl
theorem cl_all : cl 10000 = 10000 := rfl
theorem sc_pos (k : Nat) (hk : k < 9223372036854775808) : scI (.ofNat k) 10000 = .ofNat k := by
  have e1 : wrapA .u64 (.ofNat k) = .ofNat k := wU (by omega)
  have e2 : wrapA .u64 10000 = .ofNat 10000 := rfl
  have hl := lN_nat k 10000 (.ofNat k) 10000 e1 e2
  have hm := Nat.div_add_mod (k * 10000) 18446744073709551616
  have hb : k * 10000 / 18446744073709551616 < 10000 := by omega
  have hh : hW (.ofNat k) 10000 = .ofNat (k * 10000 / 18446744073709551616) := by
    unfold hW
    rw [e1, e2, hiE_nat (by omega) (by omega)]
    have a1 : ltI (.ofNat k) 0 = false := by rw [show (0 : Int) = .ofNat 0 from rfl, ltI_nat, decide_eq_false (by omega)]
    have a2 : ltI 10000 0 = false := rfl
    rw [a1, a2]
    exact wrapI (by first | (simp; done) | (simp; omega)) (by first | (simp; done) | (simp; omega))
  unfold scI
  rw [hh, hl]
  generalize k * 10000 / 18446744073709551616 = a at *
  generalize k * 10000 % 18446744073709551616 = b at *
  have hs : szH (.ofNat a) b = a := Nat.mod_eq_of_lt (by omega)
  have hL : szL (.ofNat a) b = b := rfl
  rw [quo_exact (q := k) (by rw [hs, hL]; omega) (by rw [hs]; exact hb) (by omega) (fun _ => by omega)]
  show wrapA .i64 (.ofNat k) = _
  exact wrapI (by first | (simp; done) | (simp; omega)) (by first | (simp; done) | (simp; omega))
theorem sz_neg (j lo : Nat) (hj : j < 10000) (hlo : lo < 18446744073709551616) : szH (.negSucc j) lo = (if lo = 0 then j + 1 else j) ∧ szL (.negSucc j) lo = if lo = 0 then 0 else 18446744073709551616 - lo := by
  have em := modN_neg (k := j) (by omega)
  constructor
  · cases lo with
    | zero =>
      rw [if_pos rfl]
      show (18446744073709551616 - modN 18446744073709551616 (.negSucc j) - 0) % 18446744073709551616 = j + 1
      rw [em]
      show (18446744073709551616 - (18446744073709551615 - j) - 0) % 18446744073709551616 = j + 1
      omega
    | succ l =>
      rw [if_neg (by omega)]
      show (18446744073709551616 - modN 18446744073709551616 (.negSucc j) - 1) % 18446744073709551616 = j
      rw [em]
      show (18446744073709551616 - (18446744073709551615 - j) - 1) % 18446744073709551616 = j
      omega
  · show (18446744073709551616 - lo) % 18446744073709551616 = _
    split <;> omega
theorem neg_back {k : Nat} (hk : k < 9223372036854775808) : wrapA .i64 (wrapA .u64 (Int.sub 0 (.ofNat (k + 1)))) = .negSucc k := by
  have e : Int.sub 0 (.ofNat (k + 1)) = .negSucc k := by
    show (0 : Int) - ((k + 1 : Nat) : Int) = _
    rw [Int.negSucc_eq]
    omega
  rw [e, wU_neg (by omega)]
  show wrapS 18446744073709551616 9223372036854775808 (.ofNat (18446744073709551615 - k)) = _
  rw [wrapS_eq _ _ (by decide) (by decide), Int.negSucc_eq]
  have e2 : (Int.ofNat (18446744073709551615 - k)) = 18446744073709551615 - (k : Int) := by
    show ((18446744073709551615 - k : Nat) : Int) = _
    omega
  rw [e2]
  split <;> omega
theorem neg_sum (k a b : Nat) (hk : k < 9223372036854775808) (hm : 18446744073709551616 * a + b = (18446744073709551615 - k) * 10000) (hb : b < 18446744073709551616) (ha : a < 10000) :
    (if b = 0 then 9999 - a + 1 else 9999 - a) * 18446744073709551616 + (if b = 0 then 0 else 18446744073709551616 - b) = (k + 1) * 10000 := by
  obtain ⟨u, hu⟩ : ∃ u, u = 18446744073709551615 - k := ⟨_, rfl⟩
  rw [← hu] at hm
  have h1 : u + k = 18446744073709551615 := by omega
  obtain ⟨c, hc⟩ : ∃ c, c = 9999 - a := ⟨_, rfl⟩
  have h2 : c + a = 9999 := by omega
  rw [← hc]
  clear hu hc
  split
  · omega
  · obtain ⟨d, hd⟩ : ∃ d, d = 18446744073709551616 - b := ⟨_, rfl⟩
    have h3 : d + b = 18446744073709551616 := by omega
    rw [← hd]
    clear hd
    omega
theorem sc_neg (k : Nat) (hk : k < 9223372036854775808) : scI (.negSucc k) 10000 = .negSucc k := by
  have e1 : wrapA .u64 (.negSucc k) = .ofNat (18446744073709551615 - k) := wU_neg (by omega)
  have e2 : wrapA .u64 10000 = .ofNat 10000 := rfl
  have hl := lN_nat (18446744073709551615 - k) 10000 (.negSucc k) 10000 e1 e2
  have hm := Nat.div_add_mod ((18446744073709551615 - k) * 10000) 18446744073709551616
  have hlt : (18446744073709551615 - k) * 10000 % 18446744073709551616 < 18446744073709551616 := Nat.mod_lt _ (by decide)
  have hb : (18446744073709551615 - k) * 10000 / 18446744073709551616 < 10000 := by omega
  have hx := hiE_nat (x := 18446744073709551615 - k) (y := 10000) (by omega) (by omega)
  generalize ha : (18446744073709551615 - k) * 10000 / 18446744073709551616 = a at *
  generalize hb' : (18446744073709551615 - k) * 10000 % 18446744073709551616 = b at *
  have hh : hW (.negSucc k) 10000 = .negSucc (9999 - a) := by
    unfold hW
    rw [e1, e2, hx]
    have a1 : ltI (.negSucc k) 0 = true := rfl
    have a2 : ltI 10000 0 = false := rfl
    have a3 : wrapA .i64 (.ofNat a) = .ofNat a := wrapI (by first | (simp; done) | (simp; omega)) (by first | (simp; done) | (simp; omega))
    rw [a1, a2, a3]
    have a4 : Int.sub (.ofNat a) 10000 = .negSucc (9999 - a) := by
      show (a : Int) - 10000 = _
      rw [Int.negSucc_eq]
      omega
    show wrapA .i64 (Int.sub (.ofNat a) 10000) = _
    rw [a4, Int.negSucc_eq]
    exact wrapI (by omega) (by omega)
  unfold scI
  rw [hh, hl]
  obtain ⟨s1, s2⟩ := sz_neg (9999 - a) b (by omega) hlt
  have hs : szH (.negSucc (9999 - a)) b * 18446744073709551616 + szL (.negSucc (9999 - a)) b = (k + 1) * 10000 := by
    rw [s1, s2]
    exact neg_sum k a b hk hm hlt hb
  have hH : szH (.negSucc (9999 - a)) b < 10000 := by
    generalize szH (.negSucc (9999 - a)) b = x at *
    generalize szL (.negSucc (9999 - a)) b = y at *
    omega
  rw [quo_exact (q := k + 1) hs hH (by omega) (fun h => by cases h)]
  exact neg_back hk
/-- of all parts it is all -/
theorem sc_all (n : Int) (hn : wrapA .i64 n = n) : scI n (cl 10000) = n := by
  have hr : -9223372036854775808 ≤ n ∧ n < 9223372036854775808 := by
    have : wrapS 18446744073709551616 9223372036854775808 n = n := hn
    rw [wrapS_eq _ _ (by decide) (by decide)] at this
    split at this <;> omega
  rw [cl_all]
  cases n with
  | ofNat k => exact sc_pos k (by have := hr.2; simp at this; omega)
  | negSucc k => exact sc_neg k (by have := hr.1; rw [Int.negSucc_eq] at this; omega)
theorem wrap_is (x : Int) : ∃ t : Int, wrapA .i64 x = x - 18446744073709551616 * t := by
  have e : wrapA .i64 x = wrapS 18446744073709551616 9223372036854775808 x := rfl
  rw [e, wrapS_eq _ _ (by decide) (by decide)]
  split
  · exact ⟨x / 18446744073709551616 + 1, by omega⟩
  · exact ⟨x / 18446744073709551616, by omega⟩
theorem wrap_less (x t : Int) : wrapA .i64 (x - 18446744073709551616 * t) = wrapA .i64 x := by
  have e : ∀ x, wrapA .i64 x = wrapS 18446744073709551616 9223372036854775808 x := fun x => rfl
  rw [e, e, wrapS_eq _ _ (by decide) (by decide), wrapS_eq _ _ (by decide) (by decide)]
  have : (x - 18446744073709551616 * t) % ((18446744073709551616 : Nat) : Int) = x % ((18446744073709551616 : Nat) : Int) := by omega
  rw [this]
/-- both rows together are the amount -/
theorem sum_back (a n : Int) (hn : wrapA .i64 n = n) : wrapA .i64 (Int.add a (wrapA .i64 (Int.sub n a))) = n := by
  obtain ⟨t, ht⟩ := wrap_is (Int.sub n a)
  rw [ht]
  have e : Int.add a (Int.sub n a - 18446744073709551616 * t) = n - 18446744073709551616 * t := by
    show a + ((n - a) - 18446744073709551616 * t) = _
    omega
  rw [e, wrap_less, hn]
theorem eqI_self (n : Int) : eqI n n = true := by
  rw [eqI_eq]
  simp
end Go.Proofs.YtinlmdapgejdoaaGreat.sp
end
end

section
/- Sums of 128 bits, told by the numbers they stand for. -/
noncomputable section
namespace Go.Proofs.YtinlmdapgejdoaaGreat.sp
open AE
set_option linter.unusedSimpArgs false
set_option linter.unusedVariables false
set_option maxRecDepth 10000

/-- a number of 128 bits: its parts -/
def hiZ (z : Int) : Int := z / 18446744073709551616
def loZ (z : Int) : Nat := (z % 18446744073709551616).toNat
def valW (h : Int) (l : Nat) : Int := h * 18446744073709551616 + l
theorem val_wz (z : Int) : valW (hiZ z) (loZ z) = z := by
  unfold valW hiZ loZ
  have h1 := Int.emod_nonneg z (show (18446744073709551616 : Int) ≠ 0 by decide)
  omega
theorem loZ_lt (z : Int) : loZ z < 18446744073709551616 := by
  unfold loZ
  have h1 := Int.emod_nonneg z (show (18446744073709551616 : Int) ≠ 0 by decide)
  have h2 := Int.emod_lt_of_pos z (show (0 : Int) < 18446744073709551616 by decide)
  omega
def wz (z : Int) : Value := .agg ⟨[.int .i64 (hiZ z), .int .u64 (.ofNat (loZ z))]⟩
def inI (z : Int) : Bool := decide (-9223372036854775808 ≤ z) && decide (z < 9223372036854775808)
theorem inI_iff {z : Int} : inI z = true ↔ -9223372036854775808 ≤ z ∧ z < 9223372036854775808 := by
  unfold inI
  simp
def smallH (h : Int) : Bool := decide (-4611686018427387904 ≤ h) && decide (h < 4611686018427387904)
theorem smallH_iff {h : Int} : smallH h = true ↔ -4611686018427387904 ≤ h ∧ h < 4611686018427387904 := by
  unfold smallH
  simp
theorem plain_wz (z : Int) : Plain (wz z) := plain_agg (ints_plain (by simp))
/-- of an int -/
def ofG : List Value → Option (Bool × Value)
  | [.int .i64 n] => some (inI n, wz n)
  | _ => none
theorem of_ev (n : Int) : evV E (sumsOf []) 100 122 [.int .i64 n] = some (.agg ⟨[.int .i64 (Int.fdiv n (pow2 63)), .int .u64 (wrapA .u64 n)]⟩) := by kernel_rfl
theorem of_raw {n : Int} (h : inI n = true) : (.agg ⟨[.int .i64 (Int.fdiv n (pow2 63)), .int .u64 (wrapA .u64 n)]⟩ : Value) = wz n := by
  obtain ⟨h1, h2⟩ := inI_iff.1 h
  have e1 : Int.fdiv n (pow2 63) = hiZ n := by
    show Int.fdiv n ((2 ^ 63 : Nat) : Int) = _
    rw [Int.fdiv_eq_ediv_of_nonneg _ (Int.natCast_nonneg _)]
    unfold hiZ
    have : ((2 ^ 63 : Nat) : Int) = 9223372036854775808 := rfl
    rw [this]
    omega
  have e2 : wrapA .u64 n = .ofNat (loZ n) := by
    show Int.ofNat (modN 18446744073709551616 n) = _
    have := modN_eq 18446744073709551616 (by decide) n
    have h3 : ((18446744073709551616 : Nat) : Int) = 18446744073709551616 := rfl
    rw [h3] at this
    unfold loZ
    congr 1
    omega
  rw [e1, e2]
  rfl
theorem told_ofG : AE.Told Tryz.prog 122 (gA ofG) := by
  refine told_pure hE hmix tolds_nil ?_
  intro args s v s' hr
  obtain ⟨h1, rfl⟩ := gA_run hr
  unfold ofG at h1
  split at h1
  · rename_i n
    have hb : inI n = true := congrArg (fun x => match x with | some (b, _) => b | none => false) h1
    have hv : wz n = v := congrArg (fun x => match x with | some (_, v) => v | none => undefV) h1
    subst hv
    exact ⟨plain_wz n, Less'.refl _, ints_plain (by simp), 100, by rw [← of_raw hb]; exact of_ev n⟩
  · cases h1
/-- added -/
def gAdd (h1 : Int) (l1 : Nat) (h2 : Int) (l2 : Nat) : Bool := (smallH h1 && smallH h2) && (Nat.blt l1 18446744073709551616 && Nat.blt l2 18446744073709551616)
def addG : List Value → Option (Bool × Value)
  | [.agg ⟨[.int .i64 h1, .int .u64 (.ofNat l1)]⟩, .agg ⟨[.int .i64 h2, .int .u64 (.ofNat l2)]⟩] => some (gAdd h1 l1 h2 l2, wz (valW h1 l1 + valW h2 l2))
  | _ => none
def addR (h1 : Int) (l1 : Nat) (h2 : Int) (l2 : Nat) : Value := .agg ⟨[.int .i64 (wrapA .i64 (Int.add (wrapA .i64 (Int.add h1 h2)) (wrapA .i64 (.ofNat (Nat.div (Nat.add (Nat.add l1 l2) 0) 18446744073709551616))))), .int .u64 (.ofNat (Nat.mod (Nat.add (Nat.add l1 l2) 0) 18446744073709551616))]⟩
theorem add_ev (h1 : Int) (l1 : Nat) (h2 : Int) (l2 : Nat) : evV E (sumsOf []) 100 121 [.agg ⟨[.int .i64 h1, .int .u64 (.ofNat l1)]⟩, .agg ⟨[.int .i64 h2, .int .u64 (.ofNat l2)]⟩] = some (addR h1 l1 h2 l2) := by kernel_rfl
theorem add_raw {h1 h2 : Int} {l1 l2 : Nat} (h : gAdd h1 l1 h2 l2 = true) : addR h1 l1 h2 l2 = wz (valW h1 l1 + valW h2 l2) := by
  unfold gAdd at h
  simp only [Bool.and_eq_true, smallH_iff, blt_iff] at h
  obtain ⟨⟨⟨a1, a2⟩, b1, b2⟩, c1, c2⟩ := h
  unfold addR
  have e0 : Nat.div (Nat.add (Nat.add l1 l2) 0) 18446744073709551616 = (l1 + l2) / 18446744073709551616 := rfl
  have e1 : Nat.mod (Nat.add (Nat.add l1 l2) 0) 18446744073709551616 = (l1 + l2) % 18446744073709551616 := rfl
  have e2 : Int.add h1 h2 = h1 + h2 := rfl
  have hc : (l1 + l2) / 18446744073709551616 ≤ 1 := by omega
  have w1 : wrapA .i64 (h1 + h2) = h1 + h2 := wrapI (by omega) (by omega)
  rw [e0, e1, e2, w1]
  have e3 : wrapA .i64 (.ofNat ((l1 + l2) / 18446744073709551616)) = (((l1 + l2) / 18446744073709551616 : Nat) : Int) := wrapI (by show _ ≤ (((l1 + l2) / 18446744073709551616 : Nat) : Int); omega) (by show (((l1 + l2) / 18446744073709551616 : Nat) : Int) < _; omega)
  rw [e3]
  have e4 : Int.add (h1 + h2) (((l1 + l2) / 18446744073709551616 : Nat) : Int) = h1 + h2 + (((l1 + l2) / 18446744073709551616 : Nat) : Int) := rfl
  rw [e4, wrapI (by omega) (by omega)]
  have e5 : h1 + h2 + (((l1 + l2) / 18446744073709551616 : Nat) : Int) = hiZ (valW h1 l1 + valW h2 l2) := by
    unfold hiZ valW
    omega
  have e6 : (l1 + l2) % 18446744073709551616 = loZ (valW h1 l1 + valW h2 l2) := by
    unfold loZ valW
    omega
  rw [e5, e6]
  rfl
theorem told_addG : AE.Told Tryz.prog 121 (gA addG) := by
  refine told_pure hE hmix tolds_nil ?_
  intro args s v s' hr
  obtain ⟨h1, rfl⟩ := gA_run hr
  unfold addG at h1
  split at h1
  · rename_i a b c d
    have hb : gAdd a b c d = true := congrArg (fun x => match x with | some (b, _) => b | none => false) h1
    have hv : wz (valW a b + valW c d) = v := congrArg (fun x => match x with | some (_, v) => v | none => undefV) h1
    subst hv
    refine ⟨plain_wz _, Less'.refl _, fun v hv => ?_, 100, by rw [← add_raw hb]; exact add_ev a b c d⟩
    simp only [List.mem_cons, List.not_mem_nil, or_false] at hv
    rcases hv with rfl | rfl <;> exact plain_agg (ints_plain (by simp))
  · cases h1

/-! two compared -/
noncomputable def tiW : TI := TI.of Tryz.prog 96
theorem tyW : E.ty.get 96 = some tiW := by kernel_rfl
noncomputable def fsW : Array Field := match tiW.desc with | .struct fs => fs | _ => #[]
theorem dsW : tiW.desc = .struct fsW := by kernel_rfl
theorem gdW : tiW.guard = false := by kernel_rfl
noncomputable def fdW (i : Nat) : Field := (fieldAt? fsW.toList i).getD default
theorem fsW_list : fsW.toList = [fdW 0, fdW 1] := by kernel_rfl
theorem nmW0 : (fdW 0).name = "Hi" := by kernel_rfl
theorem nmW1 : (fdW 1).name = "Lo" := by kernel_rfl
theorem ftW0 : (fdW 0).type = 2 := by kernel_rfl
theorem ftW1 : (fdW 1).type = 94 := by kernel_rfl
theorem foW0 : (fdW 0).offset = 0 := by kernel_rfl
theorem foW1 : (fdW 1).offset = 1 := by kernel_rfl
noncomputable def tiI64 : TI := TI.of Tryz.prog 2
theorem tyI64 : E.ty.get 2 = some tiI64 := by kernel_rfl
theorem dsI64 : tiI64.desc = .int .i64 := by kernel_rfl
theorem eqW (a c : Int) (b d : Int) : eqTop E 96 (.agg ⟨[.int .i64 a, .int .u64 b]⟩) (.agg ⟨[.int .i64 c, .int .u64 d]⟩) = some (eqI a c && eqI b d) := by
  have p0 : ∀ x y, partA tiI64 [Value.int .i64 x, .int .u64 y] 0 = some (.int .i64 x) := fun x y => by unfold partA; rw [dsI64]; rfl
  have p1 : ∀ x y, partA tiU64 [Value.int .i64 x, .int .u64 y] 1 = some (.int .u64 y) := fun x y => by unfold partA; rw [dsU64]; rfl
  have q0 : ∀ n x y, eqV E (n + 1) 2 (.int .i64 x) (.int .i64 y) = some (eqI x y) := fun n x y => by simp only [eqV, tyI64, dsI64]; rfl
  have q1 : ∀ n x y, eqV E (n + 1) 94 (.int .u64 x) (.int .u64 y) = some (eqI x y) := fun n x y => by simp only [eqV, tyU64, dsU64]; rfl
  have e0 : eqTop E 96 (.agg ⟨[.int .i64 a, .int .u64 b]⟩) (.agg ⟨[.int .i64 c, .int .u64 d]⟩) = eqV E 1000 96 (.agg ⟨[.int .i64 a, .int .u64 b]⟩) (.agg ⟨[.int .i64 c, .int .u64 d]⟩) := rfl
  rw [e0]
  show eqV E (999 + 1) 96 (.agg ⟨[.int .i64 a, .int .u64 b]⟩) (.agg ⟨[.int .i64 c, .int .u64 d]⟩) = _
  simp only [eqV, tyW, dsW, gdW, fsW_list]
  show eqFs E (998 + 1) _ _ _ = _
  simp only [eqFs, nmW0, ftW0, foW0, tyI64, p0]
  rw [if_neg (by decide)]
  show (match eqV E (997 + 1) 2 (.int .i64 a) (.int .i64 c) with | some true => eqFs E (997 + 1) [fdW 1] [.int .i64 a, .int .u64 b] [.int .i64 c, .int .u64 d] | r => r) = _
  rw [q0]
  cases eqI a c with
  | false => rfl
  | true =>
    show eqFs E (997 + 1) _ _ _ = _
    simp only [eqFs, nmW1, ftW1, foW1, tyU64, p1]
    rw [if_neg (by decide)]
    show (match eqV E (996 + 1) 94 (.int .u64 b) (.int .u64 d) with | some true => eqFs E (996 + 1) [] [.int .i64 a, .int .u64 b] [.int .i64 c, .int .u64 d] | r => r) = _
    rw [q1]
    cases eqI b d with
    | false => rfl
    | true => rfl
end Go.Proofs.YtinlmdapgejdoaaGreat.sp
end
end

section
/- Sums of 128 bits as ints; one for one; numbers from one on. -/
noncomputable section
namespace Go.Proofs.YtinlmdapgejdoaaGreat.sp
open AE
set_option linter.unusedSimpArgs false
set_option linter.unusedVariables false
set_option maxRecDepth 10000

def nL (l : Nat) : Int := wrapA .i64 (.ofNat l)
def intZ (z : Int) : Int := match inI z with | true => z | false => 0
def qInt (h : Int) (l : Nat) : Option Bool := eqTop E 96 (.agg ⟨[.int .i64 (hiZ (nL l)), .int .u64 (.ofNat (loZ (nL l)))]⟩) (.agg ⟨[.int .i64 h, .int .u64 (.ofNat l)]⟩)
def gateI : List (Nat × (List Value → Option (Bool × Value))) := [(122, ofG)]
theorem tolds_I : Tolds Tryz.prog (gated (gatesOf gateI) (sumsOf [])) := tolds_gates tolds_nil (by
  intro p hp
  simp only [gateI, List.mem_cons, List.not_mem_nil, or_false] at hp
  subst hp
  exact told_ofG)
theorem int_yes (h : Int) (l : Nat) : evVO E (gatesOf gateI) (sumsOf []) 100 120 [.agg ⟨[.int .i64 h, .int .u64 (.ofNat l)]⟩] [(0, some true), (0, some true), (0, some true)] =
    some (.tuple ⟨[.int .i64 (nL l), .bool true]⟩, [(eqB true (qInt h l), true), ((qInt h l).isSome, true), (inI (nL l), true)]) := by kernel_rfl
theorem int_no (h : Int) (l : Nat) : evVO E (gatesOf gateI) (sumsOf []) 100 120 [.agg ⟨[.int .i64 h, .int .u64 (.ofNat l)]⟩] [(0, some true), (0, some true), (0, some false)] =
    some (.tuple ⟨[.int .i64 0, .bool false]⟩, [(eqB true (qInt h l), false), ((qInt h l).isSome, true), (inI (nL l), true)]) := by kernel_rfl
theorem nL_is {l : Nat} (hl : l < 18446744073709551616) : nL l = if l < 9223372036854775808 then (l : Int) else (l : Int) - 18446744073709551616 := by
  unfold nL
  show wrapS 18446744073709551616 9223372036854775808 (l : Int) = _
  rw [wrapS_eq _ _ (by decide) (by decide)]
  split <;> split <;> omega
theorem nL_in {l : Nat} (hl : l < 18446744073709551616) : inI (nL l) = true := by
  rw [inI_iff, nL_is hl]
  split <;> omega
theorem nL_lo {l : Nat} (hl : l < 18446744073709551616) : loZ (nL l) = l := by
  unfold loZ
  rw [nL_is hl]
  split <;> omega
theorem qInt_is {h : Int} {l : Nat} (hl : l < 18446744073709551616) : qInt h l = some (decide (hiZ (nL l) = h)) := by
  unfold qInt
  rw [eqW, nL_lo hl, eqI_self, Bool.and_true, eqI_eq]
theorem int_dec {h : Int} {l : Nat} (hl : l < 18446744073709551616) : decide (hiZ (nL l) = h) = inI (valW h l) ∧ (inI (valW h l) = true → nL l = valW h l) := by
  have e : hiZ (nL l) = if l < 9223372036854775808 then 0 else -1 := by
    unfold hiZ
    rw [nL_is hl]
    split <;> omega
  constructor
  · rw [e, Bool.eq_iff_iff, inI_iff, decide_eq_true_iff]
    unfold valW
    split <;> omega
  · rw [inI_iff, nL_is hl]
    unfold valW
    split <;> omega
def intG : List Value → Option (Bool × Value)
  | [.agg ⟨[.int .i64 h, .int .u64 (.ofNat l)]⟩] => some (Nat.blt l 18446744073709551616, .tuple ⟨[.int .i64 (intZ (valW h l)), .bool (inI (valW h l))]⟩)
  | _ => none
theorem told_intG : AE.Told Tryz.prog 120 (gA intG) := by
  refine told_pure hE hmix tolds_I ?_
  intro args s v s' hr
  obtain ⟨h1, rfl⟩ := gA_run hr
  unfold intG at h1
  split at h1
  · rename_i h l
    have hb : Nat.blt l 18446744073709551616 = true := congrArg (fun x => match x with | some (b, _) => b | none => false) h1
    have hv : Value.tuple ⟨[.int .i64 (intZ (valW h l)), .bool (inI (valW h l))]⟩ = v := congrArg (fun x => match x with | some (_, v) => v | none => undefV) h1
    subst hv
    have hl := blt_iff.1 hb
    refine ⟨plain_tuple fun v hv => ?_, Less'.refl _, fun v hv => ?_, 100, ?_⟩
    · simp only [List.mem_cons, List.not_mem_nil, or_false] at hv
      rcases hv with rfl | rfl
      · exact plain_int _ _
      · exact plain_bool _
    · simp only [List.mem_cons, List.not_mem_nil, or_false] at hv
      subst hv
      exact plain_agg (ints_plain (by simp))
    · obtain ⟨d1, d2⟩ := int_dec (h := h) hl
      have hq : qInt h l = some (inI (valW h l)) := by rw [qInt_is hl, d1]
      unfold intZ
      cases hi : inI (valW h l) with
      | true =>
        have := evV_of (int_yes h l) (qcons (by rw [hq, hi]; rfl) (qcons (by rw [hq]; rfl) (qcons (nL_in hl) qnil)))
        rw [d2 hi] at this
        exact this
      | false => exact evV_of (int_no h l) (qcons (by rw [hq, hi]; rfl) (qcons (by rw [hq]; rfl) (qcons (nL_in hl) qnil)))
  · cases h1

/-! by one -/
def div1G : List Value → Option (Bool × Value)
  | [.int .u64 (.ofNat hi), .int .u64 (.ofNat lo), .int .u64 (.ofNat d)] => some (Nat.beq hi 0 && Nat.beq d 1 && Nat.blt lo 18446744073709551616, .tuple ⟨[.int .u64 (.ofNat lo), .int .u64 (.ofNat 0)]⟩)
  | _ => none
theorem told_div1 : AE.Told Tryz.prog 92 (gA div1G) := by
  refine told_go hE hmix tolds_D ?_
  intro args s v s' hr hm
  obtain ⟨h1, rfl⟩ := gA_run hr
  unfold div1G at h1
  split at h1
  · rename_i hi lo d
    have hb : (Nat.beq hi 0 && Nat.beq d 1 && Nat.blt lo 18446744073709551616) = true := congrArg (fun x => match x with | some (b, _) => b | none => false) h1
    have hv : Value.tuple ⟨[.int .u64 (.ofNat lo), .int .u64 (.ofNat 0)]⟩ = v := congrArg (fun x => match x with | some (_, v) => v | none => undefV) h1
    subst hv
    simp only [Bool.and_eq_true, beq_iff, blt_iff] at hb
    obtain ⟨⟨rfl, rfl⟩, hlo⟩ := hb
    have e1 := b_eqlU 1 0
    have e2 := b_leqU 1 0
    have e3 := b_eqlU 0 0
    simp only [show decide (1 = 0) = false from rfl] at e1
    simp only [show decide (1 ≤ 0) = false from rfl] at e2
    simp only [decide_true] at e3
    have f1 := b_quoU (a := lo) (b := 0) (c := lo) (Nat.div_one lo) hlo
    have f2 := b_remU (a := lo) (b := 0) (c := 0) (Nat.mod_one lo)
    exact walk_small _ _ _ _ _ e1 e2 e3 f1 f2 s'
  · cases h1
def gateQ1 : List (Nat × (List Value → Option (Bool × Value))) := [(92, div1G)]
theorem tolds_Q1 : Tolds Tryz.prog (gated (gatesOf gateQ1) (sumsOf sigQ)) := tolds_gates (tolds_cons told_sizeB tolds_nil) (by
  intro p hp
  simp only [gateQ1, List.mem_cons, List.not_mem_nil, or_false] at hp
  subst hp
  exact told_div1)
noncomputable def quo1E (h : Int) (lo : Nat) (told : List (Nat × Option Bool)) : Option (Value × List (Bool × Bool)) :=
  evVO E (gatesOf gateQ1) (sumsOf sigQ) 100 71 [.agg ⟨[.int .i64 h, .int .u64 (.ofNat lo)]⟩, .int .i64 (.ofNat 1)] told
end Go.Proofs.YtinlmdapgejdoaaGreat.sp
end
end

section
/- Amounts one for one; a number from one on. -/
noncomputable section
namespace Go.Proofs.YtinlmdapgejdoaaGreat.sp
open AE
set_option linter.unusedSimpArgs false
set_option linter.unusedVariables false
set_option maxRecDepth 10000

def R0 (h : Int) (l : Nat) : Bool := !ltI (Int.ofNat (szH h l)) (wrapA IntKind.u64 (Int.ofNat 1))
def Rg (h : Int) (l : Nat) : Bool := (Nat.beq (szH h l) 0) && (Nat.beq (modN 18446744073709551616 (Int.ofNat 1)) 1) && (Nat.blt (szL h l) 18446744073709551616)
theorem quo1_p (h : Int) (lo : Nat) : quo1E h lo [(1, some false), (0, some true), (0, some true), (16, some false), (3, some true), (2, some true)] =
    some (pV (.ofNat (szL h lo)), [(FP (.ofNat (szL h lo)), true), (!szM h, true), (szM h, false), (C1 (szL h lo), true), (Rg h lo, true), (R0 h lo, false)]) := by kernel_rfl
theorem quo1_m (h : Int) (lo : Nat) : quo1E h lo [(1, some false), (0, some true), (0, some true), (16, some true), (2, some true)] =
    some (mV (.ofNat (szL h lo)), [(FM (.ofNat (szL h lo)), true), (szM h, true), (C1 (szL h lo), true), (Rg h lo, true), (R0 h lo, false)]) := by kernel_rfl
theorem C1_of {q : Nat} (h : q ≤ 9223372036854775808) : C1 q = true := by
  unfold C1
  rw [show (9223372036854775808 : Int) = Int.ofNat 9223372036854775808 from rfl, ltI_nat, decide_eq_false (by omega)]
  rfl
theorem FM_of {q : Nat} (h : q ≤ 9223372036854775808) : FM (.ofNat q) = true := by
  unfold FM
  rw [show (9223372036854775808 : Int) = Int.ofNat 9223372036854775808 from rfl, ltI_nat, decide_eq_false (by omega)]
  rfl
theorem FP_of {q : Nat} (h : q ≤ 9223372036854775807) : FP (.ofNat q) = true := by
  unfold FP
  rw [show (9223372036854775807 : Int) = Int.ofNat 9223372036854775807 from rfl, ltI_nat, decide_eq_false (by omega)]
  rfl
theorem R0_of {h : Int} {l : Nat} (hs : szH h l = 0) : R0 h l = false := by
  unfold R0
  rw [hs]
  rfl
theorem Rg_of {h : Int} {l : Nat} (hs : szH h l = 0) (hl : szL h l < 18446744073709551616) : Rg h l = true := by
  unfold Rg
  rw [hs, blt_iff.2 hl]
  rfl
def g1 (h : Int) (lo : Nat) : Bool := inI (valW h lo) && Nat.blt lo 18446744073709551616
def q1G : List Value → Option (Bool × Value)
  | [.agg ⟨[.int .i64 h, .int .u64 (.ofNat lo)]⟩, .int .i64 (.ofNat 1)] => some (g1 h lo, .tuple ⟨[.int .i64 (valW h lo), .bool true]⟩)
  | _ => none
theorem quo1_ev {h : Int} {lo : Nat} (hg : g1 h lo = true) : evV E (gated (gatesOf gateQ1) (sumsOf sigQ)) 100 71 [.agg ⟨[.int .i64 h, .int .u64 (.ofNat lo)]⟩, .int .i64 (.ofNat 1)] = some (.tuple ⟨[.int .i64 (valW h lo), .bool true]⟩) := by
  unfold g1 at hg
  rw [Bool.and_eq_true, inI_iff, blt_iff] at hg
  obtain ⟨⟨h1, h2⟩, hl⟩ := hg
  have hc : (h = 0 ∧ lo < 9223372036854775808) ∨ (h = -1 ∧ 9223372036854775808 ≤ lo) := by
    unfold valW at h1 h2
    omega
  rcases hc with ⟨rfl, hlo⟩ | ⟨rfl, hlo⟩
  · have s1 : szH 0 lo = 0 := rfl
    have s2 : szL 0 lo = lo := rfl
    have s3 : szM 0 = false := rfl
    have hv : pV (.ofNat (szL 0 lo)) = .tuple ⟨[.int .i64 (valW 0 lo), .bool true]⟩ := by
      unfold pV valW
      rw [s2, wrapI (by show _ ≤ (lo : Int); omega) (by show (lo : Int) < _; omega)]
      have : (Int.ofNat lo) = (0 : Int) * 18446744073709551616 + lo := by show (lo : Int) = _; omega
      rw [this]
    rw [← hv]
    exact evV_of (quo1_p 0 lo) (qcons (FP_of (by rw [s2]; omega)) (qcons (by rw [s3]; rfl) (qcons s3 (qcons (C1_of (by rw [s2]; omega)) (qcons (Rg_of s1 (by rw [s2]; omega)) (qcons (R0_of s1) qnil))))))
  · have e : (-1 : Int) = .negSucc 0 := rfl
    rw [e]
    obtain ⟨z1, z2⟩ := sz_neg 0 lo (by omega) hl
    rw [if_neg (by omega)] at z1 z2
    obtain ⟨k, hk⟩ : ∃ k, 18446744073709551616 - lo = k + 1 := ⟨18446744073709551615 - lo, by omega⟩
    have hk2 : k < 9223372036854775808 := by omega
    rw [hk] at z2
    have s3 : szM (.negSucc 0) = true := rfl
    have hv : mV (.ofNat (szL (.negSucc 0) lo)) = .tuple ⟨[.int .i64 (valW (.negSucc 0) lo), .bool true]⟩ := by
      unfold mV
      rw [z2, neg_back hk2]
      have : Int.negSucc k = valW (.negSucc 0) lo := by
        unfold valW
        rw [Int.negSucc_eq, Int.negSucc_eq]
        omega
      rw [this]
    rw [← hv]
    exact evV_of (quo1_m (.negSucc 0) lo) (qcons (FM_of (by rw [z2]; omega)) (qcons s3 (qcons (C1_of (by rw [z2]; omega)) (qcons (Rg_of z1 (by rw [z2]; omega)) (qcons (R0_of z1) qnil)))))
theorem plain_ib (n : Int) (b : Bool) : Plain (.tuple ⟨[.int .i64 n, .bool b]⟩) := plain_tuple fun v hv => by
  simp only [List.mem_cons, List.not_mem_nil, or_false] at hv
  rcases hv with rfl | rfl
  · exact plain_int _ _
  · exact plain_bool _
theorem told_q1G : AE.Told Tryz.prog 71 (gA q1G) := by
  refine told_pure hE hmix tolds_Q1 ?_
  intro args s v s' hr
  obtain ⟨h1, rfl⟩ := gA_run hr
  unfold q1G at h1
  split at h1
  · rename_i h lo
    have hb : g1 h lo = true := congrArg (fun x => match x with | some (b, _) => b | none => false) h1
    have hv : Value.tuple ⟨[.int .i64 (valW h lo), .bool true]⟩ = v := congrArg (fun x => match x with | some (_, v) => v | none => undefV) h1
    subst hv
    refine ⟨plain_ib _ _, Less'.refl _, fun v hv => ?_, 100, quo1_ev hb⟩
    simp only [List.mem_cons, List.not_mem_nil, or_false] at hv
    rcases hv with rfl | rfl
    · exact plain_agg (ints_plain (by simp))
    · exact plain_int _ _
  · cases h1
def gateS1 : List (Nat × (List Value → Option (Bool × Value))) := [(71, q1G)]
theorem tolds_S1 : Tolds Tryz.prog (gated (gatesOf gateS1) (sumsOf sigS)) := tolds_gates (tolds_cons told_mulW tolds_nil) (by
  intro p hp
  simp only [gateS1, List.mem_cons, List.not_mem_nil, or_false] at hp
  subst hp
  exact told_q1G)
theorem scale1_ev (n : Int) : evVO E (gatesOf gateS1) (sumsOf sigS) 100 51 [.int .i64 n, .int .i64 (.ofNat 1), .int .i64 (.ofNat 1)] [(0, some true)] = some (.tuple ⟨[.int .i64 (valW (hW n (.ofNat 1)) (lN n (.ofNat 1))), .bool true]⟩, [(g1 (hW n (.ofNat 1)) (lN n (.ofNat 1)), true)]) := by kernel_rfl
theorem mul_one_val {n : Int} (h : inI n = true) : valW (hW n (.ofNat 1)) (lN n (.ofNat 1)) = n := by
  obtain ⟨h1, h2⟩ := inI_iff.1 h
  have e2 : wrapA .u64 (.ofNat 1) = .ofNat 1 := rfl
  have a2 : ltI (.ofNat 1) 0 = false := rfl
  cases n with
  | ofNat k =>
    have hk : k < 9223372036854775808 := by simp at h2; omega
    have e1 : wrapA .u64 (.ofNat k) = .ofNat k := wU (by omega)
    have hl := lN_nat k 1 (.ofNat k) (.ofNat 1) e1 e2
    have hh : hW (.ofNat k) (.ofNat 1) = 0 := by
      unfold hW
      rw [e1, e2, hiE_nat (by omega) (by omega)]
      have a1 : ltI (.ofNat k) 0 = false := by rw [show (0 : Int) = .ofNat 0 from rfl, ltI_nat, decide_eq_false (by omega)]
      rw [a1, a2, Nat.mul_one, Nat.div_eq_of_lt (by omega)]
      rfl
    rw [hh, hl, Nat.mul_one, Nat.mod_eq_of_lt (by omega)]
    unfold valW
    show (0 : Int) * _ + (k : Int) = (k : Int)
    omega
  | negSucc k =>
    have hk : k < 9223372036854775808 := by rw [Int.negSucc_eq] at h1; omega
    have e1 : wrapA .u64 (.negSucc k) = .ofNat (18446744073709551615 - k) := wU_neg (by omega)
    have hl := lN_nat (18446744073709551615 - k) 1 (.negSucc k) (.ofNat 1) e1 e2
    have hh : hW (.negSucc k) (.ofNat 1) = -1 := by
      unfold hW
      rw [e1, e2, hiE_nat (by omega) (by omega)]
      have a1 : ltI (.negSucc k) 0 = true := rfl
      rw [a1, a2, Nat.mul_one, Nat.div_eq_of_lt (by omega)]
      rfl
    rw [hh, hl, Nat.mul_one, Nat.mod_eq_of_lt (by omega)]
    unfold valW
    rw [Int.negSucc_eq]
    omega
def scale1G : List Value → Option (Bool × Value)
  | [.int .i64 n, .int .i64 (.ofNat 1), .int .i64 (.ofNat 1)] => some (inI n, .tuple ⟨[.int .i64 n, .bool true]⟩)
  | _ => none
theorem told_scale1 : AE.Told Tryz.prog 51 (gA scale1G) := by
  refine told_pure hE hmix tolds_S1 ?_
  intro args s v s' hr
  obtain ⟨h1, rfl⟩ := gA_run hr
  unfold scale1G at h1
  split at h1
  · rename_i n
    have hb : inI n = true := congrArg (fun x => match x with | some (b, _) => b | none => false) h1
    have hv : Value.tuple ⟨[.int .i64 n, .bool true]⟩ = v := congrArg (fun x => match x with | some (_, v) => v | none => undefV) h1
    subst hv
    have hm := mul_one_val hb
    have hg : g1 (hW n (.ofNat 1)) (lN n (.ofNat 1)) = true := by
      unfold g1
      rw [hm, hb, blt_iff.2 (lN_lt n (.ofNat 1))]
      rfl
    refine ⟨plain_ib _ _, Less'.refl _, ints_plain (by simp), 100, ?_⟩
    have := evV_of (scale1_ev n) (qcons hg qnil)
    rw [hm] at this
    exact this
  · cases h1
end Go.Proofs.YtinlmdapgejdoaaGreat.sp
end
end

section
/- What two entities owe each other: the law's run, with answers. -/
noncomputable section
namespace Go.Proofs.YtinlmdapgejdoaaGreat.sp
open AE
set_option linter.unusedSimpArgs false
set_option linter.unusedVariables false
set_option maxRecDepth 10000

/-- a number from one on -/
def wx (n : Int) : Nat := 1 + (n % 1099511627776).toNat
theorem wx_ge (n : Int) : 1 ≤ wx n := by unfold wx; omega
theorem wx_le (n : Int) : wx n ≤ 1099511627776 := by
  unfold wx
  have h1 := Int.emod_nonneg n (show (1099511627776 : Int) ≠ 0 by decide)
  have h2 := Int.emod_lt_of_pos n (show (0 : Int) < 1099511627776 by decide)
  omega
noncomputable def withinE (n : Int) (told : List (Nat × Option Bool)) : Option (Value × List (Bool × Bool)) := evVO E (gatesOf []) (sumsOf []) 100 5 [.int .i64 n, .int .i64 1, .int .i64 1099511627776] told
def tM (n : Int) : Int := Int.tmod n (wrapA .i64 (Int.add (wrapA .i64 (Int.sub 1099511627776 1)) 1))
theorem within_p (n : Int) : withinE n [(0, some false)] = some (.int .i64 (wrapA .i64 (Int.add 1 (tM n))), [(ltI (tM n) 0, false)]) := by kernel_rfl
theorem within_m (n : Int) : withinE n [(0, some true)] = some (.int .i64 (wrapA .i64 (Int.add 1 (wrapA .i64 (Int.add (wrapA .i64 (Int.sub (wrapA .i64 (Int.add (tM n) 1099511627776)) 1)) 1)))), [(ltI (tM n) 0, true)]) := by kernel_rfl
theorem tM_is (n : Int) : (0 ≤ tM n ∧ tM n = n % 1099511627776) ∨ (tM n < 0 ∧ tM n + 1099511627776 = n % 1099511627776) := by
  have e : tM n = Int.tmod n 1099511627776 := rfl
  rw [e]
  have h1 := Int.emod_nonneg n (show (1099511627776 : Int) ≠ 0 by decide)
  have h2 := Int.emod_lt_of_pos n (show (0 : Int) < 1099511627776 by decide)
  have h3 := Int.tmod_eq_emod (a := n) (b := 1099511627776)
  rw [h3]
  split
  · left; constructor <;> omega
  · right
    rename_i hc
    have hne : n % 1099511627776 ≠ 0 := fun h => hc (.inr (Int.dvd_of_emod_eq_zero h))
    omega
def withinP : List Value → AM Value
  | [.int .i64 n, .int .i64 (.ofNat 1), .int .i64 (.ofNat 1099511627776)] => .pure (.int .i64 (.ofNat (wx n)))
  | _ => .fail
theorem told_withinP : AE.Told Tryz.prog 5 withinP := by
  refine told_pure hE hmix (tolds_gates (l := []) tolds_nil (fun p hp => by cases hp)) ?_
  intro args s v s' h
  unfold withinP at h
  split at h
  · rename_i n
    cases h
    refine ⟨plain_int _ _, Less'.refl _, ints_plain (by simp), 100, ?_⟩
    have h1 := Int.emod_nonneg n (show (1099511627776 : Int) ≠ 0 by decide)
    have h2 := Int.emod_lt_of_pos n (show (0 : Int) < 1099511627776 by decide)
    have hw : (Int.ofNat (wx n)) = 1 + n % 1099511627776 := by
      unfold wx
      show ((1 + (n % 1099511627776).toNat : Nat) : Int) = _
      omega
    rw [hw]
    rcases tM_is n with ⟨t1, t2⟩ | ⟨t1, t2⟩
    · have hlt : ltI (tM n) 0 = false := by rw [ltI_eq]; simp; omega
      have := evV_of (within_p n) (qcons hlt qnil)
      have e : wrapA .i64 (Int.add 1 (tM n)) = 1 + n % 1099511627776 := by
        show wrapA .i64 (1 + tM n) = _
        rw [wrapI (by omega) (by omega), t2]
      rw [e] at this
      exact this
    · have hlt : ltI (tM n) 0 = true := by rw [ltI_eq]; simp; omega
      have := evV_of (within_m n) (qcons hlt qnil)
      have e : wrapA .i64 (Int.add 1 (wrapA .i64 (Int.add (wrapA .i64 (Int.sub (wrapA .i64 (Int.add (tM n) 1099511627776)) 1)) 1))) = 1 + n % 1099511627776 := by
        have a1 : wrapA .i64 (Int.add (tM n) 1099511627776) = tM n + 1099511627776 := wrapI (by show _ ≤ tM n + 1099511627776; omega) (by show tM n + 1099511627776 < _; omega)
        have a2 : wrapA .i64 (Int.sub (tM n + 1099511627776) 1) = tM n + 1099511627775 := by
          have : Int.sub (tM n + 1099511627776) 1 = tM n + 1099511627775 := by show tM n + 1099511627776 - 1 = _; omega
          rw [this]
          exact wrapI (by omega) (by omega)
        have a3 : wrapA .i64 (Int.add (tM n + 1099511627775) 1) = tM n + 1099511627776 := by
          have : Int.add (tM n + 1099511627775) 1 = tM n + 1099511627776 := by show tM n + 1099511627775 + 1 = _; omega
          rw [this]
          exact wrapI (by omega) (by omega)
        rw [a1, a2, a3, t2]
        exact wrapI (by show _ ≤ 1 + n % 1099511627776; omega) (by show 1 + n % 1099511627776 < _; omega)
      rw [e] at this
      exact this
  · cases h
def cardP : List Value → AM Value
  | [.int .i64 (.ofNat 2), .int .i64 (.ofNat 2)] => .pure (.agg ⟨[.int .i64 10, .int .i64 40, .int .i64 4, .int .i64 4]⟩)
  | _ => .fail
theorem card_ev : evV E (sumsOf []) 200 7 [.int .i64 (.ofNat 2), .int .i64 (.ofNat 2)] = some (.agg ⟨[.int .i64 10, .int .i64 40, .int .i64 4, .int .i64 4]⟩) := by kernel_rfl
theorem told_cardP : AE.Told Tryz.prog 7 cardP := by
  refine told_pure hE hmix tolds_nil ?_
  intro args s v s' h
  unfold cardP at h
  split at h
  · cases h
    exact ⟨plain_agg (ints_plain (by simp)), Less'.refl _, ints_plain (by simp), 200, card_ev⟩
  · cases h
def gateO : List (Nat × (List Value → Option (Bool × Value))) := [(122, ofG), (121, addG), (120, intG)]
theorem tolds_O : Tolds Tryz.prog (gated (gatesOf gateO) (sumsOf [])) := tolds_gates tolds_nil (by
  intro p hp
  simp only [gateO, List.mem_cons, List.not_mem_nil, or_false] at hp
  rcases hp with rfl | rfl | rfl
  · exact told_ofG
  · exact told_addG
  · exact told_intG)
/-- each bit turned -/
def xH (h : Int) : Int := wrapA .i64 (.ofNat (Nat.xor (modN (maskOf .i64) (.negSucc 0)) (modN (maskOf .i64) h)))
def xL (l : Nat) : Nat := modN 18446744073709551616 (.ofNat (Nat.xor (modN (maskOf .u64) (.ofNat (Nat.sub (maskOf .u64) 1))) (modN (maskOf .u64) (.ofNat l))))
def opZ (h : Int) (l : Nat) : Int := valW (xH h) (xL l) + valW (hiZ 1) (loZ 1)
noncomputable def oppE (h : Int) (l : Nat) (told : List (Nat × Option Bool)) : Option (Value × List (Bool × Bool)) := evVO E (gatesOf gateO) (sumsOf []) 100 97 [.agg ⟨[.int .i64 h, .int .u64 (.ofNat l)]⟩] told
theorem opp_ev (h : Int) (l : Nat) : oppE h l [(0, some true), (0, some true), (0, some true)] =
    some (.tuple ⟨[.int .i64 (intZ (valW (hiZ (opZ h l)) (loZ (opZ h l)))), .bool (inI (valW (hiZ (opZ h l)) (loZ (opZ h l))))]⟩, [(Nat.blt (loZ (opZ h l)) 18446744073709551616, true), (gAdd (xH h) (xL l) (hiZ 1) (loZ 1), true), (inI 1, true)]) := by kernel_rfl
theorem xor_ones (x : Nat) (hx : x < 18446744073709551616) : Nat.xor 18446744073709551615 x = 18446744073709551615 - x := by
  have h := BitVec.toNat_not (x := BitVec.ofNat 64 x)
  rw [BitVec.not_def, BitVec.toNat_xor, BitVec.toNat_allOnes, BitVec.toNat_ofNat] at h
  have e : x % 2 ^ 64 = x := Nat.mod_eq_of_lt hx
  rw [e] at h
  exact h
theorem xL_is {l : Nat} (hl : l < 18446744073709551616) : xL l = 18446744073709551615 - l := by
  unfold xL
  have e1 : modN (maskOf .u64) (.ofNat l) = l := by
    show l % 18446744073709551616 = l
    exact Nat.mod_eq_of_lt hl
  have e2 : modN (maskOf .u64) (.ofNat (Nat.sub (maskOf .u64) 1)) = 18446744073709551615 := rfl
  rw [e1, e2, xor_ones l hl]
  show (18446744073709551615 - l) % 18446744073709551616 = _
  omega
theorem xH_is {h : Int} (hs : smallH h = true) : xH h = -1 - h := by
  obtain ⟨h1, h2⟩ := smallH_iff.1 hs
  unfold xH
  have hm := modN_eq 18446744073709551616 (by decide) h
  have hM : ((18446744073709551616 : Nat) : Int) = 18446744073709551616 := rfl
  rw [hM] at hm
  have e2 : modN (maskOf .i64) (.negSucc 0) = 18446744073709551615 := rfl
  have e3 : modN (maskOf .i64) h = modN 18446744073709551616 h := rfl
  rw [e2, e3, xor_ones _ (by omega)]
  generalize modN 18446744073709551616 h = m at *
  show wrapS 18446744073709551616 9223372036854775808 ((18446744073709551615 - m : Nat) : Int) = _
  rw [wrapS_eq _ _ (by decide) (by decide)]
  split <;> omega
theorem opZ_is {h : Int} {l : Nat} (hs : smallH h = true) (hl : l < 18446744073709551616) : opZ h l = -valW h l := by
  unfold opZ
  rw [val_wz, xH_is hs, xL_is hl]
  unfold valW
  omega
def oppG : List Value → Option (Bool × Value)
  | [.agg ⟨[.int .i64 h, .int .u64 (.ofNat l)]⟩] => some (smallH h && Nat.blt l 18446744073709551616, .tuple ⟨[.int .i64 (intZ (-valW h l)), .bool (inI (-valW h l))]⟩)
  | _ => none
theorem told_oppG : AE.Told Tryz.prog 97 (gA oppG) := by
  refine told_pure hE hmix tolds_O ?_
  intro args s v s' hr
  obtain ⟨h1, rfl⟩ := gA_run hr
  unfold oppG at h1
  split at h1
  · rename_i h l
    have hb : (smallH h && Nat.blt l 18446744073709551616) = true := congrArg (fun x => match x with | some (b, _) => b | none => false) h1
    have hv : Value.tuple ⟨[.int .i64 (intZ (-valW h l)), .bool (inI (-valW h l))]⟩ = v := congrArg (fun x => match x with | some (_, v) => v | none => undefV) h1
    subst hv
    rw [Bool.and_eq_true, blt_iff] at hb
    obtain ⟨hs, hl⟩ := hb
    refine ⟨plain_ib _ _, Less'.refl _, fun v hv => ?_, 100, ?_⟩
    · simp only [List.mem_cons, List.not_mem_nil, or_false] at hv
      subst hv
      exact plain_agg (ints_plain (by simp))
    · have hg : gAdd (xH h) (xL l) (hiZ 1) (loZ 1) = true := by
        obtain ⟨b1, b2⟩ := smallH_iff.1 hs
        unfold gAdd
        rw [xH_is hs, xL_is hl, smallH_iff.2 (show -4611686018427387904 ≤ -1 - h ∧ -1 - h < 4611686018427387904 by omega), blt_iff.2 (show 18446744073709551615 - l < 18446744073709551616 by omega)]
        rfl
      have := evV_of (opp_ev h l) (qcons (blt_iff.2 (loZ_lt _)) (qcons hg (qcons rfl qnil)))
      rw [val_wz, opZ_is hs hl] at this
      exact this
  · cases h1
end Go.Proofs.YtinlmdapgejdoaaGreat.sp
end
end

section
/- Chapter 20's runs, evaluated over the named memory. -/
namespace Go.Proofs.YtinlmdapgejdoaaGreat

theorem closingRuns_lawful : AE.lawful Tryz.prog = true := by kernel_rfl
set_option maxRecDepth 100000 in
theorem closingRuns_run : AE.isTrue (AE.ev (AE.Env.of Tryz.prog) 100000 (.next (.enter 9 [])) AE.s0) = true := by kernel_rfl
theorem closingRuns_any (w0 : World) : Calls Tryz.prog 9 #[] w0 fun e w' => e = .returned (.bool true) ∧ Go.RowKit.Below w0.heap.size w0 w' :=
  AE.calls_true closingRuns_lawful (Checked.mixed Tryz.checked) closingRuns_run w0
end Go.Proofs.YtinlmdapgejdoaaGreat
end
