/- A sum is split: the quotient by ten thousand, all its ways. (printed by wip/gen/sp3.py) -/
import Derived.Test.YtldelmmaimbbmaaGreatSp2
noncomputable section
namespace Go.Proofs.YtldelmmaimbbmaaGreat.sp
open AE
set_option linter.unusedSimpArgs false
set_option linter.unusedVariables false
set_option maxRecDepth 10000

def Q0 (h : Int) (lo : Nat) : Bool := !ltI (Int.ofNat (szH h lo)) (wrapA IntKind.u64 (Int.ofNat 10000))
def Gt (h : Int) (lo : Nat) : Bool := (Nat.beq (modN 18446744073709551616 (Int.ofNat 10000)) 10000) && (Nat.blt (szH h lo) 10000) && (Nat.blt (szL h lo) 18446744073709551616)
def qq (h : Int) (lo : Nat) : Nat := (szH h lo * 18446744073709551616 + szL h lo) / 10000
def rr (h : Int) (lo : Nat) : Nat := (szH h lo * 18446744073709551616 + szL h lo) % 10000
def half (r : Nat) : Int := wrapA IntKind.u64 (Int.sub (wrapA IntKind.u64 (Int.ofNat 10000)) (Int.ofNat r))
def C1 (q : Nat) : Bool := !ltI 9223372036854775808 (Int.ofNat q)
def C2 (r : Nat) : Bool := ltI (half r) (Int.ofNat r)
def C3 (r : Nat) : Bool := eqI (Int.ofNat r) (half r)
def C4 (q : Nat) : Bool := eqI (wrapA IntKind.u64 (Int.ofNat (Nat.land (modN (maskOf IntKind.u64) (Int.ofNat q)) (modN (maskOf IntKind.u64) 1)))) 1
def xD (q : Nat) : Int := Int.ofNat q
def xU (q : Nat) : Int := wrapA IntKind.u64 (Int.add (Int.ofNat q) 1)
def FM (x : Int) : Bool := !ltI 9223372036854775808 x
def FP (x : Int) : Bool := !ltI 9223372036854775807 x
def noV : Value := .tuple ⟨[.int .i64 0, .bool false]⟩
def mV (x : Int) : Value := .tuple ⟨[.int .i64 (wrapA .i64 (wrapA .u64 (Int.sub 0 x))), .bool true]⟩
def pV (x : Int) : Value := .tuple ⟨[.int .i64 (wrapA .i64 x), .bool true]⟩
noncomputable def quoE (h : Int) (lo : Nat) (told : List (Nat × Option Bool)) : Option (Value × List (Bool × Bool)) :=
  evVO E (gatesOf gateQ) (sumsOf sigQ) 100 30 [.agg ⟨[.int .i64 h, .int .u64 (.ofNat lo)]⟩, .int .i64 (.ofNat 10000)] told
theorem quo_z (h : Int) (lo : Nat) : quoE h lo [(1, some true)] = some (noV, [(Q0 h lo, true)]) := by kernel_rfl
theorem quo_amf (h : Int) (lo : Nat) : quoE h lo [(1, some false), (0, some true), (0, some false), (6, some true), (2, some true)] = some ((mV (xD (qq h lo))), [(FM (xD (qq h lo)), true), (szM h, true), (C1 (qq h lo), false), (Gt h lo, true), (Q0 h lo, false)]) := by kernel_rfl
theorem quo_amo (h : Int) (lo : Nat) : quoE h lo [(1, some false), (0, some true), (0, some false), (6, some true), (2, some false), (0, some false)] = some (noV, [(!szM h, false), (FM (xD (qq h lo)), false), (szM h, true), (C1 (qq h lo), false), (Gt h lo, true), (Q0 h lo, false)]) := by kernel_rfl
theorem quo_apf (h : Int) (lo : Nat) : quoE h lo [(1, some false), (0, some true), (0, some false), (6, some false), (3, some true), (2, some true)] = some ((pV (xD (qq h lo))), [(FP (xD (qq h lo)), true), (!szM h, true), (szM h, false), (C1 (qq h lo), false), (Gt h lo, true), (Q0 h lo, false)]) := by kernel_rfl
theorem quo_apo (h : Int) (lo : Nat) : quoE h lo [(1, some false), (0, some true), (0, some false), (6, some false), (3, some true), (2, some false)] = some (noV, [(FP (xD (qq h lo)), false), (!szM h, true), (szM h, false), (C1 (qq h lo), false), (Gt h lo, true), (Q0 h lo, false)]) := by kernel_rfl
theorem quo_bmf (h : Int) (lo : Nat) : quoE h lo [(1, some false), (0, some true), (0, some true), (3, some true), (8, some true), (2, some true)] = some ((mV (xU (qq h lo))), [(FM (xU (qq h lo)), true), (szM h, true), (C2 (rr h lo), true), (C1 (qq h lo), true), (Gt h lo, true), (Q0 h lo, false)]) := by kernel_rfl
theorem quo_bmo (h : Int) (lo : Nat) : quoE h lo [(1, some false), (0, some true), (0, some true), (3, some true), (8, some true), (2, some false), (0, some false)] = some (noV, [(!szM h, false), (FM (xU (qq h lo)), false), (szM h, true), (C2 (rr h lo), true), (C1 (qq h lo), true), (Gt h lo, true), (Q0 h lo, false)]) := by kernel_rfl
theorem quo_bpf (h : Int) (lo : Nat) : quoE h lo [(1, some false), (0, some true), (0, some true), (3, some true), (8, some false), (3, some true), (2, some true)] = some ((pV (xU (qq h lo))), [(FP (xU (qq h lo)), true), (!szM h, true), (szM h, false), (C2 (rr h lo), true), (C1 (qq h lo), true), (Gt h lo, true), (Q0 h lo, false)]) := by kernel_rfl
theorem quo_bpo (h : Int) (lo : Nat) : quoE h lo [(1, some false), (0, some true), (0, some true), (3, some true), (8, some false), (3, some true), (2, some false)] = some (noV, [(FP (xU (qq h lo)), false), (!szM h, true), (szM h, false), (C2 (rr h lo), true), (C1 (qq h lo), true), (Gt h lo, true), (Q0 h lo, false)]) := by kernel_rfl
theorem quo_cmf (h : Int) (lo : Nat) : quoE h lo [(1, some false), (0, some true), (0, some true), (3, some false), (3, some false), (8, some true), (2, some true)] = some ((mV (xD (qq h lo))), [(FM (xD (qq h lo)), true), (szM h, true), (C3 (rr h lo), false), (C2 (rr h lo), false), (C1 (qq h lo), true), (Gt h lo, true), (Q0 h lo, false)]) := by kernel_rfl
theorem quo_cmo (h : Int) (lo : Nat) : quoE h lo [(1, some false), (0, some true), (0, some true), (3, some false), (3, some false), (8, some true), (2, some false), (0, some false)] = some (noV, [(!szM h, false), (FM (xD (qq h lo)), false), (szM h, true), (C3 (rr h lo), false), (C2 (rr h lo), false), (C1 (qq h lo), true), (Gt h lo, true), (Q0 h lo, false)]) := by kernel_rfl
theorem quo_cpf (h : Int) (lo : Nat) : quoE h lo [(1, some false), (0, some true), (0, some true), (3, some false), (3, some false), (8, some false), (3, some true), (2, some true)] = some ((pV (xD (qq h lo))), [(FP (xD (qq h lo)), true), (!szM h, true), (szM h, false), (C3 (rr h lo), false), (C2 (rr h lo), false), (C1 (qq h lo), true), (Gt h lo, true), (Q0 h lo, false)]) := by kernel_rfl
theorem quo_cpo (h : Int) (lo : Nat) : quoE h lo [(1, some false), (0, some true), (0, some true), (3, some false), (3, some false), (8, some false), (3, some true), (2, some false)] = some (noV, [(FP (xD (qq h lo)), false), (!szM h, true), (szM h, false), (C3 (rr h lo), false), (C2 (rr h lo), false), (C1 (qq h lo), true), (Gt h lo, true), (Q0 h lo, false)]) := by kernel_rfl
theorem quo_dmf (h : Int) (lo : Nat) : quoE h lo [(1, some false), (0, some true), (0, some true), (3, some false), (3, some true), (7, some true), (0, some true), (2, some true)] = some ((mV (xU (qq h lo))), [(FM (xU (qq h lo)), true), (szM h, true), (C4 (qq h lo), true), (C3 (rr h lo), true), (C2 (rr h lo), false), (C1 (qq h lo), true), (Gt h lo, true), (Q0 h lo, false)]) := by kernel_rfl
theorem quo_dmo (h : Int) (lo : Nat) : quoE h lo [(1, some false), (0, some true), (0, some true), (3, some false), (3, some true), (7, some true), (0, some true), (2, some false), (0, some false)] = some (noV, [(!szM h, false), (FM (xU (qq h lo)), false), (szM h, true), (C4 (qq h lo), true), (C3 (rr h lo), true), (C2 (rr h lo), false), (C1 (qq h lo), true), (Gt h lo, true), (Q0 h lo, false)]) := by kernel_rfl
theorem quo_dpf (h : Int) (lo : Nat) : quoE h lo [(1, some false), (0, some true), (0, some true), (3, some false), (3, some true), (7, some true), (0, some false), (3, some true), (2, some true)] = some ((pV (xU (qq h lo))), [(FP (xU (qq h lo)), true), (!szM h, true), (szM h, false), (C4 (qq h lo), true), (C3 (rr h lo), true), (C2 (rr h lo), false), (C1 (qq h lo), true), (Gt h lo, true), (Q0 h lo, false)]) := by kernel_rfl
theorem quo_dpo (h : Int) (lo : Nat) : quoE h lo [(1, some false), (0, some true), (0, some true), (3, some false), (3, some true), (7, some true), (0, some false), (3, some true), (2, some false)] = some (noV, [(FP (xU (qq h lo)), false), (!szM h, true), (szM h, false), (C4 (qq h lo), true), (C3 (rr h lo), true), (C2 (rr h lo), false), (C1 (qq h lo), true), (Gt h lo, true), (Q0 h lo, false)]) := by kernel_rfl
theorem quo_emf (h : Int) (lo : Nat) : quoE h lo [(1, some false), (0, some true), (0, some true), (3, some false), (3, some true), (7, some false), (0, some true), (2, some true)] = some ((mV (xD (qq h lo))), [(FM (xD (qq h lo)), true), (szM h, true), (C4 (qq h lo), false), (C3 (rr h lo), true), (C2 (rr h lo), false), (C1 (qq h lo), true), (Gt h lo, true), (Q0 h lo, false)]) := by kernel_rfl
theorem quo_emo (h : Int) (lo : Nat) : quoE h lo [(1, some false), (0, some true), (0, some true), (3, some false), (3, some true), (7, some false), (0, some true), (2, some false), (0, some false)] = some (noV, [(!szM h, false), (FM (xD (qq h lo)), false), (szM h, true), (C4 (qq h lo), false), (C3 (rr h lo), true), (C2 (rr h lo), false), (C1 (qq h lo), true), (Gt h lo, true), (Q0 h lo, false)]) := by kernel_rfl
theorem quo_epf (h : Int) (lo : Nat) : quoE h lo [(1, some false), (0, some true), (0, some true), (3, some false), (3, some true), (7, some false), (0, some false), (3, some true), (2, some true)] = some ((pV (xD (qq h lo))), [(FP (xD (qq h lo)), true), (!szM h, true), (szM h, false), (C4 (qq h lo), false), (C3 (rr h lo), true), (C2 (rr h lo), false), (C1 (qq h lo), true), (Gt h lo, true), (Q0 h lo, false)]) := by kernel_rfl
theorem quo_epo (h : Int) (lo : Nat) : quoE h lo [(1, some false), (0, some true), (0, some true), (3, some false), (3, some true), (7, some false), (0, some false), (3, some true), (2, some false)] = some (noV, [(FP (xD (qq h lo)), false), (!szM h, true), (szM h, false), (C4 (qq h lo), false), (C3 (rr h lo), true), (C2 (rr h lo), false), (C1 (qq h lo), true), (Gt h lo, true), (Q0 h lo, false)]) := by kernel_rfl
def upX (c1 c2 c3 c4 : Bool) : Bool := match c1 with
  | false => false
  | true => match c2 with
    | true => true
    | false => match c3 with
      | false => false
      | true => c4
def outX (m fU fD gU gD up : Bool) (q : Nat) : Value := match m with
  | true => match up with
    | true => match fU with | true => mV (xU q) | false => noV
    | false => match fD with | true => mV (xD q) | false => noV
  | false => match up with
    | true => match gU with | true => pV (xU q) | false => noV
    | false => match gD with | true => pV (xD q) | false => noV
def quoX (q0 c1 c2 c3 c4 m fU fD gU gD : Bool) (q : Nat) : Value := match q0 with
  | true => noV
  | false => outX m fU fD gU gD (upX c1 c2 c3 c4) q
def quoV (h : Int) (lo : Nat) : Value := quoX (Q0 h lo) (C1 (qq h lo)) (C2 (rr h lo)) (C3 (rr h lo)) (C4 (qq h lo)) (szM h) (FM (xU (qq h lo))) (FM (xD (qq h lo))) (FP (xU (qq h lo))) (FP (xD (qq h lo))) (qq h lo)
theorem szL_lt (h : Int) {lo : Nat} (hlo : lo < 18446744073709551616) : szL h lo < 18446744073709551616 := by
  cases h with
  | ofNat k => exact hlo
  | negSucc k => exact Nat.mod_lt _ (by decide)
theorem gate_of {h : Int} {lo : Nat} (hlo : lo < 18446744073709551616) (h0 : Q0 h lo = false) : Gt h lo = true := by
  unfold Q0 at h0
  rw [ltI_not] at h0
  have e : wrapA IntKind.u64 (Int.ofNat 10000) = Int.ofNat 10000 := rfl
  rw [e] at h0
  simp at h0
  unfold Gt
  have e2 : modN 18446744073709551616 (Int.ofNat 10000) = 10000 := rfl
  rw [e2]
  simp only [Bool.and_eq_true, beq_iff, blt_iff]
  exact ⟨⟨trivial, by omega⟩, szL_lt h hlo⟩
theorem qnil : ∀ p ∈ ([] : List (Bool × Bool)), p.1 = p.2 := fun p h => by cases h
theorem qcons {a b : Bool} {l : List (Bool × Bool)} (h : a = b) (hl : ∀ p ∈ l, p.1 = p.2) : ∀ p ∈ (a, b) :: l, p.1 = p.2 := by
  intro p hp
  cases hp with
  | head => exact h
  | tail _ h2 => exact hl p h2
theorem quo_all {h : Int} {lo : Nat} {q0 c1 c2 c3 c4 m fU fD gU gD : Bool} (h0 : Q0 h lo = q0) (hg : q0 = false → Gt h lo = true) (h1 : C1 (qq h lo) = c1) (h2 : C2 (rr h lo) = c2) (h3 : C3 (rr h lo) = c3) (h4 : C4 (qq h lo) = c4) (hm : szM h = m)
    (fmU : FM (xU (qq h lo)) = fU) (fmD : FM (xD (qq h lo)) = fD) (fpU : FP (xU (qq h lo)) = gU) (fpD : FP (xD (qq h lo)) = gD) :
    evV E (gated (gatesOf gateQ) (sumsOf sigQ)) 100 30 [.agg ⟨[.int .i64 h, .int .u64 (.ofNat lo)]⟩, .int .i64 (.ofNat 10000)] = some (quoX q0 c1 c2 c3 c4 m fU fD gU gD (qq h lo)) := by
  cases q0 with
  | true => exact evV_of (quo_z h lo) (qcons h0 qnil)
  | false =>
    have hg := hg rfl
    have hn := congrArg not hm
    cases c1 with
    | false =>
      cases m with
      | true => cases fD with
        | true => exact evV_of (quo_amf h lo) (qcons fmD (qcons hm (qcons h1 (qcons hg (qcons h0 qnil)))))
        | false => exact evV_of (quo_amo h lo) (qcons hn (qcons fmD (qcons hm (qcons h1 (qcons hg (qcons h0 qnil))))))
      | false => cases gD with
        | true => exact evV_of (quo_apf h lo) (qcons fpD (qcons hn (qcons hm (qcons h1 (qcons hg (qcons h0 qnil))))))
        | false => exact evV_of (quo_apo h lo) (qcons fpD (qcons hn (qcons hm (qcons h1 (qcons hg (qcons h0 qnil))))))
    | true => cases c2 with
      | true =>
        cases m with
        | true => cases fU with
          | true => exact evV_of (quo_bmf h lo) (qcons fmU (qcons hm (qcons h2 (qcons h1 (qcons hg (qcons h0 qnil))))))
          | false => exact evV_of (quo_bmo h lo) (qcons hn (qcons fmU (qcons hm (qcons h2 (qcons h1 (qcons hg (qcons h0 qnil)))))))
        | false => cases gU with
          | true => exact evV_of (quo_bpf h lo) (qcons fpU (qcons hn (qcons hm (qcons h2 (qcons h1 (qcons hg (qcons h0 qnil)))))))
          | false => exact evV_of (quo_bpo h lo) (qcons fpU (qcons hn (qcons hm (qcons h2 (qcons h1 (qcons hg (qcons h0 qnil)))))))
      | false => cases c3 with
        | false =>
          cases m with
          | true => cases fD with
            | true => exact evV_of (quo_cmf h lo) (qcons fmD (qcons hm (qcons h3 (qcons h2 (qcons h1 (qcons hg (qcons h0 qnil)))))))
            | false => exact evV_of (quo_cmo h lo) (qcons hn (qcons fmD (qcons hm (qcons h3 (qcons h2 (qcons h1 (qcons hg (qcons h0 qnil))))))))
          | false => cases gD with
            | true => exact evV_of (quo_cpf h lo) (qcons fpD (qcons hn (qcons hm (qcons h3 (qcons h2 (qcons h1 (qcons hg (qcons h0 qnil))))))))
            | false => exact evV_of (quo_cpo h lo) (qcons fpD (qcons hn (qcons hm (qcons h3 (qcons h2 (qcons h1 (qcons hg (qcons h0 qnil))))))))
        | true => cases c4 with
          | true =>
            cases m with
            | true => cases fU with
              | true => exact evV_of (quo_dmf h lo) (qcons fmU (qcons hm (qcons h4 (qcons h3 (qcons h2 (qcons h1 (qcons hg (qcons h0 qnil))))))))
              | false => exact evV_of (quo_dmo h lo) (qcons hn (qcons fmU (qcons hm (qcons h4 (qcons h3 (qcons h2 (qcons h1 (qcons hg (qcons h0 qnil)))))))))
            | false => cases gU with
              | true => exact evV_of (quo_dpf h lo) (qcons fpU (qcons hn (qcons hm (qcons h4 (qcons h3 (qcons h2 (qcons h1 (qcons hg (qcons h0 qnil)))))))))
              | false => exact evV_of (quo_dpo h lo) (qcons fpU (qcons hn (qcons hm (qcons h4 (qcons h3 (qcons h2 (qcons h1 (qcons hg (qcons h0 qnil)))))))))
          | false =>
            cases m with
            | true => cases fD with
              | true => exact evV_of (quo_emf h lo) (qcons fmD (qcons hm (qcons h4 (qcons h3 (qcons h2 (qcons h1 (qcons hg (qcons h0 qnil))))))))
              | false => exact evV_of (quo_emo h lo) (qcons hn (qcons fmD (qcons hm (qcons h4 (qcons h3 (qcons h2 (qcons h1 (qcons hg (qcons h0 qnil)))))))))
            | false => cases gD with
              | true => exact evV_of (quo_epf h lo) (qcons fpD (qcons hn (qcons hm (qcons h4 (qcons h3 (qcons h2 (qcons h1 (qcons hg (qcons h0 qnil)))))))))
              | false => exact evV_of (quo_epo h lo) (qcons fpD (qcons hn (qcons hm (qcons h4 (qcons h3 (qcons h2 (qcons h1 (qcons hg (qcons h0 qnil)))))))))
theorem quo_ev (h : Int) (lo : Nat) (hlo : lo < 18446744073709551616) : evV E (gated (gatesOf gateQ) (sumsOf sigQ)) 100 30 [.agg ⟨[.int .i64 h, .int .u64 (.ofNat lo)]⟩, .int .i64 (.ofNat 10000)] = some (quoV h lo) :=
  quo_all rfl (fun h0 => gate_of hlo h0) rfl rfl rfl rfl rfl rfl rfl rfl rfl
end Go.Proofs.YtldelmmaimbbmaaGreat.sp
