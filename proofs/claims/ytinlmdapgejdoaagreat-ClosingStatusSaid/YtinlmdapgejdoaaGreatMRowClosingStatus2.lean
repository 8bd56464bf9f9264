/- Three for two, and halves: plain numbers. -/
import Derived.Test.YtinlmdapgejdoaaGreatMRowClosingStatus1
import Derived.Test.YtinlmdapgejdoaaGreatAe40
section
/- The quotient by two, all its ways (printed by wip/gen/sq3.py). -/
noncomputable section
namespace Go.Proofs.YtinlmdapgejdoaaGreat.sp
open AE
set_option linter.unusedSimpArgs false
set_option linter.unusedVariables false
set_option maxRecDepth 10000

def div2G : List Value → Option (Bool × Value)
  | [.int .u64 (.ofNat hi), .int .u64 (.ofNat lo), .int .u64 (.ofNat d)] => some (Nat.beq d 2 && Nat.blt hi 2 && Nat.blt lo 18446744073709551616,
      .tuple ⟨[.int .u64 (.ofNat ((hi * 18446744073709551616 + lo) / 2)), .int .u64 (.ofNat ((hi * 18446744073709551616 + lo) % 2))]⟩)
  | _ => none
theorem told_div2G : AE.Told Tryz.prog 92 (gA div2G) := by
  refine AE.Told.mono told_div64_2 ?_
  intro args s v s' h
  obtain ⟨h1, rfl⟩ := gA_run h
  unfold div2G at h1
  split at h1
  · rename_i hi lo d
    cases hb : (Nat.beq d 2 && Nat.blt hi 2 && Nat.blt lo 18446744073709551616) with
    | false => rw [hb] at h1; cases h1
    | true =>
      rw [hb] at h1
      cases h1
      unfold div2A
      dsimp only
      rw [hb]
      rfl
  · cases h1
def gateQ2 : List (Nat × (List Value → Option (Bool × Value))) := [(92, div2G)]
theorem tolds_Q2 : Tolds Tryz.prog (gated (gatesOf gateQ2) (sumsOf sigQ)) := tolds_gates (tolds_cons told_sizeB tolds_nil) (by
  intro p hp
  simp only [gateQ2, List.mem_cons, List.not_mem_nil, or_false] at hp
  subst hp
  exact told_div2G)
def Q0b (h : Int) (lo : Nat) : Bool := !ltI (Int.ofNat (szH h lo)) (wrapA IntKind.u64 (Int.ofNat 2))
def Gtb (h : Int) (lo : Nat) : Bool := (Nat.beq (modN 18446744073709551616 (Int.ofNat 2)) 2) && (Nat.blt (szH h lo) 2) && (Nat.blt (szL h lo) 18446744073709551616)
def qqb (h : Int) (lo : Nat) : Nat := (szH h lo * 18446744073709551616 + szL h lo) / 2
def rrb (h : Int) (lo : Nat) : Nat := (szH h lo * 18446744073709551616 + szL h lo) % 2
def halfb (r : Nat) : Int := wrapA IntKind.u64 (Int.sub (wrapA IntKind.u64 (Int.ofNat 2)) (Int.ofNat r))
def C2b (r : Nat) : Bool := ltI (halfb r) (Int.ofNat r)
def C3b (r : Nat) : Bool := eqI (Int.ofNat r) (halfb r)
noncomputable def quoEb (h : Int) (lo : Nat) (told : List (Nat × Option Bool)) : Option (Value × List (Bool × Bool)) :=
  evVO E (gatesOf gateQ2) (sumsOf sigQ) 100 71 [.agg ⟨[.int .i64 h, .int .u64 (.ofNat lo)]⟩, .int .i64 (.ofNat 2)] told
theorem quob_z (h : Int) (lo : Nat) : quoEb h lo [(1, some true)] = some (noV, [(Q0b h lo, true)]) := by kernel_rfl
theorem quob_amf (h : Int) (lo : Nat) : quoEb h lo [(1, some false), (0, some true), (0, some false), (6, some true), (2, some true)] = some ((mV (xD (qqb h lo))), [(FM (xD (qqb h lo)), true), (szM h, true), (C1 (qqb h lo), false), (Gtb h lo, true), (Q0b h lo, false)]) := by kernel_rfl
theorem quob_amo (h : Int) (lo : Nat) : quoEb h lo [(1, some false), (0, some true), (0, some false), (6, some true), (2, some false), (0, some false)] = some (noV, [(!szM h, false), (FM (xD (qqb h lo)), false), (szM h, true), (C1 (qqb h lo), false), (Gtb h lo, true), (Q0b h lo, false)]) := by kernel_rfl
theorem quob_apf (h : Int) (lo : Nat) : quoEb h lo [(1, some false), (0, some true), (0, some false), (6, some false), (3, some true), (2, some true)] = some ((pV (xD (qqb h lo))), [(FP (xD (qqb h lo)), true), (!szM h, true), (szM h, false), (C1 (qqb h lo), false), (Gtb h lo, true), (Q0b h lo, false)]) := by kernel_rfl
theorem quob_apo (h : Int) (lo : Nat) : quoEb h lo [(1, some false), (0, some true), (0, some false), (6, some false), (3, some true), (2, some false)] = some (noV, [(FP (xD (qqb h lo)), false), (!szM h, true), (szM h, false), (C1 (qqb h lo), false), (Gtb h lo, true), (Q0b h lo, false)]) := by kernel_rfl
theorem quob_bmf (h : Int) (lo : Nat) : quoEb h lo [(1, some false), (0, some true), (0, some true), (3, some true), (8, some true), (2, some true)] = some ((mV (xU (qqb h lo))), [(FM (xU (qqb h lo)), true), (szM h, true), (C2b (rrb h lo), true), (C1 (qqb h lo), true), (Gtb h lo, true), (Q0b h lo, false)]) := by kernel_rfl
theorem quob_bmo (h : Int) (lo : Nat) : quoEb h lo [(1, some false), (0, some true), (0, some true), (3, some true), (8, some true), (2, some false), (0, some false)] = some (noV, [(!szM h, false), (FM (xU (qqb h lo)), false), (szM h, true), (C2b (rrb h lo), true), (C1 (qqb h lo), true), (Gtb h lo, true), (Q0b h lo, false)]) := by kernel_rfl
theorem quob_bpf (h : Int) (lo : Nat) : quoEb h lo [(1, some false), (0, some true), (0, some true), (3, some true), (8, some false), (3, some true), (2, some true)] = some ((pV (xU (qqb h lo))), [(FP (xU (qqb h lo)), true), (!szM h, true), (szM h, false), (C2b (rrb h lo), true), (C1 (qqb h lo), true), (Gtb h lo, true), (Q0b h lo, false)]) := by kernel_rfl
theorem quob_bpo (h : Int) (lo : Nat) : quoEb h lo [(1, some false), (0, some true), (0, some true), (3, some true), (8, some false), (3, some true), (2, some false)] = some (noV, [(FP (xU (qqb h lo)), false), (!szM h, true), (szM h, false), (C2b (rrb h lo), true), (C1 (qqb h lo), true), (Gtb h lo, true), (Q0b h lo, false)]) := by kernel_rfl
theorem quob_cmf (h : Int) (lo : Nat) : quoEb h lo [(1, some false), (0, some true), (0, some true), (3, some false), (3, some false), (8, some true), (2, some true)] = some ((mV (xD (qqb h lo))), [(FM (xD (qqb h lo)), true), (szM h, true), (C3b (rrb h lo), false), (C2b (rrb h lo), false), (C1 (qqb h lo), true), (Gtb h lo, true), (Q0b h lo, false)]) := by kernel_rfl
theorem quob_cmo (h : Int) (lo : Nat) : quoEb h lo [(1, some false), (0, some true), (0, some true), (3, some false), (3, some false), (8, some true), (2, some false), (0, some false)] = some (noV, [(!szM h, false), (FM (xD (qqb h lo)), false), (szM h, true), (C3b (rrb h lo), false), (C2b (rrb h lo), false), (C1 (qqb h lo), true), (Gtb h lo, true), (Q0b h lo, false)]) := by kernel_rfl
theorem quob_cpf (h : Int) (lo : Nat) : quoEb h lo [(1, some false), (0, some true), (0, some true), (3, some false), (3, some false), (8, some false), (3, some true), (2, some true)] = some ((pV (xD (qqb h lo))), [(FP (xD (qqb h lo)), true), (!szM h, true), (szM h, false), (C3b (rrb h lo), false), (C2b (rrb h lo), false), (C1 (qqb h lo), true), (Gtb h lo, true), (Q0b h lo, false)]) := by kernel_rfl
theorem quob_cpo (h : Int) (lo : Nat) : quoEb h lo [(1, some false), (0, some true), (0, some true), (3, some false), (3, some false), (8, some false), (3, some true), (2, some false)] = some (noV, [(FP (xD (qqb h lo)), false), (!szM h, true), (szM h, false), (C3b (rrb h lo), false), (C2b (rrb h lo), false), (C1 (qqb h lo), true), (Gtb h lo, true), (Q0b h lo, false)]) := by kernel_rfl
theorem quob_dmf (h : Int) (lo : Nat) : quoEb h lo [(1, some false), (0, some true), (0, some true), (3, some false), (3, some true), (7, some true), (0, some true), (2, some true)] = some ((mV (xU (qqb h lo))), [(FM (xU (qqb h lo)), true), (szM h, true), (C4 (qqb h lo), true), (C3b (rrb h lo), true), (C2b (rrb h lo), false), (C1 (qqb h lo), true), (Gtb h lo, true), (Q0b h lo, false)]) := by kernel_rfl
theorem quob_dmo (h : Int) (lo : Nat) : quoEb h lo [(1, some false), (0, some true), (0, some true), (3, some false), (3, some true), (7, some true), (0, some true), (2, some false), (0, some false)] = some (noV, [(!szM h, false), (FM (xU (qqb h lo)), false), (szM h, true), (C4 (qqb h lo), true), (C3b (rrb h lo), true), (C2b (rrb h lo), false), (C1 (qqb h lo), true), (Gtb h lo, true), (Q0b h lo, false)]) := by kernel_rfl
theorem quob_dpf (h : Int) (lo : Nat) : quoEb h lo [(1, some false), (0, some true), (0, some true), (3, some false), (3, some true), (7, some true), (0, some false), (3, some true), (2, some true)] = some ((pV (xU (qqb h lo))), [(FP (xU (qqb h lo)), true), (!szM h, true), (szM h, false), (C4 (qqb h lo), true), (C3b (rrb h lo), true), (C2b (rrb h lo), false), (C1 (qqb h lo), true), (Gtb h lo, true), (Q0b h lo, false)]) := by kernel_rfl
theorem quob_dpo (h : Int) (lo : Nat) : quoEb h lo [(1, some false), (0, some true), (0, some true), (3, some false), (3, some true), (7, some true), (0, some false), (3, some true), (2, some false)] = some (noV, [(FP (xU (qqb h lo)), false), (!szM h, true), (szM h, false), (C4 (qqb h lo), true), (C3b (rrb h lo), true), (C2b (rrb h lo), false), (C1 (qqb h lo), true), (Gtb h lo, true), (Q0b h lo, false)]) := by kernel_rfl
theorem quob_emf (h : Int) (lo : Nat) : quoEb h lo [(1, some false), (0, some true), (0, some true), (3, some false), (3, some true), (7, some false), (0, some true), (2, some true)] = some ((mV (xD (qqb h lo))), [(FM (xD (qqb h lo)), true), (szM h, true), (C4 (qqb h lo), false), (C3b (rrb h lo), true), (C2b (rrb h lo), false), (C1 (qqb h lo), true), (Gtb h lo, true), (Q0b h lo, false)]) := by kernel_rfl
theorem quob_emo (h : Int) (lo : Nat) : quoEb h lo [(1, some false), (0, some true), (0, some true), (3, some false), (3, some true), (7, some false), (0, some true), (2, some false), (0, some false)] = some (noV, [(!szM h, false), (FM (xD (qqb h lo)), false), (szM h, true), (C4 (qqb h lo), false), (C3b (rrb h lo), true), (C2b (rrb h lo), false), (C1 (qqb h lo), true), (Gtb h lo, true), (Q0b h lo, false)]) := by kernel_rfl
theorem quob_epf (h : Int) (lo : Nat) : quoEb h lo [(1, some false), (0, some true), (0, some true), (3, some false), (3, some true), (7, some false), (0, some false), (3, some true), (2, some true)] = some ((pV (xD (qqb h lo))), [(FP (xD (qqb h lo)), true), (!szM h, true), (szM h, false), (C4 (qqb h lo), false), (C3b (rrb h lo), true), (C2b (rrb h lo), false), (C1 (qqb h lo), true), (Gtb h lo, true), (Q0b h lo, false)]) := by kernel_rfl
theorem quob_epo (h : Int) (lo : Nat) : quoEb h lo [(1, some false), (0, some true), (0, some true), (3, some false), (3, some true), (7, some false), (0, some false), (3, some true), (2, some false)] = some (noV, [(FP (xD (qqb h lo)), false), (!szM h, true), (szM h, false), (C4 (qqb h lo), false), (C3b (rrb h lo), true), (C2b (rrb h lo), false), (C1 (qqb h lo), true), (Gtb h lo, true), (Q0b h lo, false)]) := by kernel_rfl
def quoVb (h : Int) (lo : Nat) : Value := quoX (Q0b h lo) (C1 (qqb h lo)) (C2b (rrb h lo)) (C3b (rrb h lo)) (C4 (qqb h lo)) (szM h) (FM (xU (qqb h lo))) (FM (xD (qqb h lo))) (FP (xU (qqb h lo))) (FP (xD (qqb h lo))) (qqb h lo)
theorem gateb_of {h : Int} {lo : Nat} (hlo : lo < 18446744073709551616) (h0 : Q0b h lo = false) : Gtb h lo = true := by
  unfold Q0b at h0
  rw [ltI_not] at h0
  have e : wrapA IntKind.u64 (Int.ofNat 2) = Int.ofNat 2 := rfl
  rw [e] at h0
  simp at h0
  unfold Gtb
  have e2 : modN 18446744073709551616 (Int.ofNat 2) = 2 := rfl
  rw [e2]
  simp only [Bool.and_eq_true, beq_iff, blt_iff]
  exact ⟨⟨trivial, by omega⟩, szL_lt h hlo⟩
theorem quob_all {h : Int} {lo : Nat} {q0 c1 c2 c3 c4 m fU fD gU gD : Bool} (h0 : Q0b h lo = q0) (hg : q0 = false → Gtb h lo = true) (h1 : C1 (qqb h lo) = c1) (h2 : C2b (rrb h lo) = c2) (h3 : C3b (rrb h lo) = c3) (h4 : C4 (qqb h lo) = c4) (hm : szM h = m)
    (fmU : FM (xU (qqb h lo)) = fU) (fmD : FM (xD (qqb h lo)) = fD) (fpU : FP (xU (qqb h lo)) = gU) (fpD : FP (xD (qqb h lo)) = gD) :
    evV E (gated (gatesOf gateQ2) (sumsOf sigQ)) 100 71 [.agg ⟨[.int .i64 h, .int .u64 (.ofNat lo)]⟩, .int .i64 (.ofNat 2)] = some (quoX q0 c1 c2 c3 c4 m fU fD gU gD (qqb h lo)) := by
  cases q0 with
  | true => exact evV_of (quob_z h lo) (qcons h0 qnil)
  | false =>
    have hg := hg rfl
    have hn := congrArg not hm
    cases c1 with
    | false =>
      cases m with
      | true => cases fD with
        | true => exact evV_of (quob_amf h lo) (qcons fmD (qcons hm (qcons h1 (qcons hg (qcons h0 qnil)))))
        | false => exact evV_of (quob_amo h lo) (qcons hn (qcons fmD (qcons hm (qcons h1 (qcons hg (qcons h0 qnil))))))
      | false => cases gD with
        | true => exact evV_of (quob_apf h lo) (qcons fpD (qcons hn (qcons hm (qcons h1 (qcons hg (qcons h0 qnil))))))
        | false => exact evV_of (quob_apo h lo) (qcons fpD (qcons hn (qcons hm (qcons h1 (qcons hg (qcons h0 qnil))))))
    | true => cases c2 with
      | true =>
        cases m with
        | true => cases fU with
          | true => exact evV_of (quob_bmf h lo) (qcons fmU (qcons hm (qcons h2 (qcons h1 (qcons hg (qcons h0 qnil))))))
          | false => exact evV_of (quob_bmo h lo) (qcons hn (qcons fmU (qcons hm (qcons h2 (qcons h1 (qcons hg (qcons h0 qnil)))))))
        | false => cases gU with
          | true => exact evV_of (quob_bpf h lo) (qcons fpU (qcons hn (qcons hm (qcons h2 (qcons h1 (qcons hg (qcons h0 qnil)))))))
          | false => exact evV_of (quob_bpo h lo) (qcons fpU (qcons hn (qcons hm (qcons h2 (qcons h1 (qcons hg (qcons h0 qnil)))))))
      | false => cases c3 with
        | false =>
          cases m with
          | true => cases fD with
            | true => exact evV_of (quob_cmf h lo) (qcons fmD (qcons hm (qcons h3 (qcons h2 (qcons h1 (qcons hg (qcons h0 qnil)))))))
            | false => exact evV_of (quob_cmo h lo) (qcons hn (qcons fmD (qcons hm (qcons h3 (qcons h2 (qcons h1 (qcons hg (qcons h0 qnil))))))))
          | false => cases gD with
            | true => exact evV_of (quob_cpf h lo) (qcons fpD (qcons hn (qcons hm (qcons h3 (qcons h2 (qcons h1 (qcons hg (qcons h0 qnil))))))))
            | false => exact evV_of (quob_cpo h lo) (qcons fpD (qcons hn (qcons hm (qcons h3 (qcons h2 (qcons h1 (qcons hg (qcons h0 qnil))))))))
        | true => cases c4 with
          | true =>
            cases m with
            | true => cases fU with
              | true => exact evV_of (quob_dmf h lo) (qcons fmU (qcons hm (qcons h4 (qcons h3 (qcons h2 (qcons h1 (qcons hg (qcons h0 qnil))))))))
              | false => exact evV_of (quob_dmo h lo) (qcons hn (qcons fmU (qcons hm (qcons h4 (qcons h3 (qcons h2 (qcons h1 (qcons hg (qcons h0 qnil)))))))))
            | false => cases gU with
              | true => exact evV_of (quob_dpf h lo) (qcons fpU (qcons hn (qcons hm (qcons h4 (qcons h3 (qcons h2 (qcons h1 (qcons hg (qcons h0 qnil)))))))))
              | false => exact evV_of (quob_dpo h lo) (qcons fpU (qcons hn (qcons hm (qcons h4 (qcons h3 (qcons h2 (qcons h1 (qcons hg (qcons h0 qnil)))))))))
          | false =>
            cases m with
            | true => cases fD with
              | true => exact evV_of (quob_emf h lo) (qcons fmD (qcons hm (qcons h4 (qcons h3 (qcons h2 (qcons h1 (qcons hg (qcons h0 qnil))))))))
              | false => exact evV_of (quob_emo h lo) (qcons hn (qcons fmD (qcons hm (qcons h4 (qcons h3 (qcons h2 (qcons h1 (qcons hg (qcons h0 qnil)))))))))
            | false => cases gD with
              | true => exact evV_of (quob_epf h lo) (qcons fpD (qcons hn (qcons hm (qcons h4 (qcons h3 (qcons h2 (qcons h1 (qcons hg (qcons h0 qnil)))))))))
              | false => exact evV_of (quob_epo h lo) (qcons fpD (qcons hn (qcons hm (qcons h4 (qcons h3 (qcons h2 (qcons h1 (qcons hg (qcons h0 qnil)))))))))
theorem quob_ev (h : Int) (lo : Nat) (hlo : lo < 18446744073709551616) : evV E (gated (gatesOf gateQ2) (sumsOf sigQ)) 100 71 [.agg ⟨[.int .i64 h, .int .u64 (.ofNat lo)]⟩, .int .i64 (.ofNat 2)] = some (quoVb h lo) :=
  quob_all rfl (fun h0 => gateb_of hlo h0) rfl rfl rfl rfl rfl rfl rfl rfl rfl
end Go.Proofs.YtinlmdapgejdoaaGreat.sp
end
end

section
/- A sum is split: all of it, and nothing of it: plain numbers. -/
noncomputable section
namespace Go.Proofs.YtinlmdapgejdoaaGreat.sp
open AE
set_option linter.unusedSimpArgs false
set_option linter.unusedVariables false
set_option maxRecDepth 10000

theorem andE {a : Nat} (ha : a < 18446744073709551616) : andU (.ofNat a) 4294967295 = .ofNat (a % 4294967296) := by
  show wrapA .u64 (.ofNat (Nat.land (a % 18446744073709551616) (4294967295 % 18446744073709551616))) = _
  rw [Nat.mod_eq_of_lt ha]
  have e : Nat.land a (4294967295 % 18446744073709551616) = a % 4294967296 := Nat.and_two_pow_sub_one_eq_mod a 32
  rw [e, wU (by omega)]
theorem shrE (a : Nat) : shrU (.ofNat a) 32 = .ofNat (a / 4294967296) := by
  show Int.fdiv (a : Int) ((2 ^ 32 : Nat) : Int) = _
  rw [Int.fdiv_eq_ediv_of_nonneg _ (Int.natCast_nonneg _)]
  rfl
theorem mulE {a b : Nat} (h : a * b < 18446744073709551616) : mulU (.ofNat a) (.ofNat b) = .ofNat (a * b) := by
  show wrapA .u64 (.ofNat (a * b)) = _
  exact wU h
theorem addE {a b : Nat} (h : a + b < 18446744073709551616) : addU (.ofNat a) (.ofNat b) = .ofNat (a + b) := by
  show wrapA .u64 (.ofNat (a + b)) = _
  exact wU h
theorem hiE_nat {x y : Nat} (hx : x < 18446744073709551616) (hy : y < 18446744073709551616) : hiE (.ofNat x) (.ofNat y) = .ofNat (x * y / 18446744073709551616) := by
  have h0 : x % 4294967296 < 4294967296 := Nat.mod_lt _ (by decide)
  have h1 : x / 4294967296 < 4294967296 := by omega
  have g0 : y % 4294967296 < 4294967296 := Nat.mod_lt _ (by decide)
  have g1 : y / 4294967296 < 4294967296 := by omega
  have hh := wd.mul64_hi x y hx hy
  unfold hiE
  simp only [andE hx, andE hy, shrE]
  generalize x % 4294967296 = x0 at *
  generalize x / 4294967296 = x1 at *
  generalize y % 4294967296 = y0 at *
  generalize y / 4294967296 = y1 at *
  obtain ⟨b1, b2, b3⟩ := wd.mul64_bounds x0 x1 y0 y1 h0 h1 g0 g1
  have m : ∀ a b : Nat, a < 4294967296 → b < 4294967296 → a * b ≤ 18446744065119617025 := fun a b ha hb => by
    have := Nat.mul_le_mul (show a ≤ 4294967295 by omega) (show b ≤ 4294967295 by omega)
    omega
  have c1 := m x1 y0 h1 g0
  have c2 := m x0 y1 h0 g1
  have c3 := m x1 y1 h1 g1
  have k1 : mulU (.ofNat x1) (.ofNat y0) = .ofNat (x1 * y0) := mulE (by omega)
  have k2 : mulU (.ofNat x0) (.ofNat y1) = .ofNat (x0 * y1) := mulE (by omega)
  have k3 : mulU (.ofNat x1) (.ofNat y1) = .ofNat (x1 * y1) := mulE (by omega)
  rw [mulE b1, k1, k2, k3, shrE, addE b2, andE b2, shrE, addE b3, shrE]
  have d1 : (x1 * y0 + x0 * y0 / 4294967296) / 4294967296 < 4294967296 := by
    generalize x1 * y0 + x0 * y0 / 4294967296 = z at *
    omega
  have d2 : ((x1 * y0 + x0 * y0 / 4294967296) % 4294967296 + x0 * y1) / 4294967296 < 4294967296 := by
    generalize (x1 * y0 + x0 * y0 / 4294967296) % 4294967296 + x0 * y1 = z at *
    omega
  have d3 : x1 * y1 + (x1 * y0 + x0 * y0 / 4294967296) / 4294967296 < 18446744073709551616 := by omega
  have d4 : x1 * y1 + (x1 * y0 + x0 * y0 / 4294967296) / 4294967296 + ((x1 * y0 + x0 * y0 / 4294967296) % 4294967296 + x0 * y1) / 4294967296 < 18446744073709551616 := by omega
  rw [addE d3, addE d4, hh]

theorem ltI_nat (a b : Nat) : ltI (.ofNat a) (.ofNat b) = decide (a < b) := by
  rw [ltI_eq]
  simp
/-- a quotient that leaves nothing -/
theorem quo_exact {h : Int} {lo q : Nat} (hs : szH h lo * 18446744073709551616 + szL h lo = q * 10000) (hh : szH h lo < 10000) (hq : q ≤ 9223372036854775808) (hp : szM h = false → q ≤ 9223372036854775807) :
    qI (quoV h lo) = match szM h with | true => wrapA .i64 (wrapA .u64 (Int.sub 0 (.ofNat q))) | false => wrapA .i64 (.ofNat q) := by
  have e1 : qq h lo = q := by
    unfold qq
    rw [hs]
    exact Nat.mul_div_cancel q (by decide)
  have e2 : rr h lo = 0 := by
    unfold rr
    rw [hs]
    exact Nat.mul_mod_left q 10000
  have f0 : Q0 h lo = false := by
    unfold Q0
    have e : wrapA IntKind.u64 (Int.ofNat 10000) = Int.ofNat 10000 := rfl
    rw [e, ltI_nat, decide_eq_true hh]
    rfl
  have f1 : C1 q = true := by
    unfold C1
    have e : (9223372036854775808 : Int) = Int.ofNat 9223372036854775808 := rfl
    rw [e, ltI_nat, decide_eq_false (by omega)]
    rfl
  have f2 : C2 0 = false := rfl
  have f3 : C3 0 = false := rfl
  have f4 : FM (xD q) = true := by
    unfold FM xD
    have e : (9223372036854775808 : Int) = Int.ofNat 9223372036854775808 := rfl
    rw [e, ltI_nat, decide_eq_false (by omega)]
    rfl
  have f5 : szM h = false → FP (xD q) = true := by
    intro hm
    have := hp hm
    unfold FP xD
    have e : (9223372036854775807 : Int) = Int.ofNat 9223372036854775807 := rfl
    rw [e, ltI_nat, decide_eq_false (by omega)]
    rfl
  unfold quoV
  rw [e1, e2, f0, f1, f2, f3, f4]
  generalize C4 q = c4
  generalize FM (xU q) = a1
  generalize FP (xU q) = a2
  cases hm : szM h with
  | true => rfl
  | false =>
    rw [f5 hm]
    rfl

theorem wrapI {x : Int} (h1 : -9223372036854775808 ≤ x) (h2 : x < 9223372036854775808) : wrapA .i64 x = x := by
  show wrapS 18446744073709551616 9223372036854775808 x = x
  rw [wrapS_eq _ _ (by decide) (by decide)]
  split <;> omega
theorem modN_neg {k : Nat} (h : k < 18446744073709551616) : modN 18446744073709551616 (.negSucc k) = 18446744073709551615 - k := by
  have := modN_eq 18446744073709551616 (by decide) (.negSucc k)
  have e : (Int.negSucc k) % ((18446744073709551616 : Nat) : Int) = ((18446744073709551615 - k : Nat) : Int) := by
    rw [Int.negSucc_eq]
    omega
  rw [e] at this
  omega
theorem wU_neg {k : Nat} (h : k < 18446744073709551616) : wrapA .u64 (.negSucc k) = .ofNat (18446744073709551615 - k) := by
  show Int.ofNat (modN 18446744073709551616 (.negSucc k)) = _
  have := modN_eq 18446744073709551616 (by decide) (.negSucc k)
  have e : (Int.negSucc k) % ((18446744073709551616 : Nat) : Int) = ((18446744073709551615 - k : Nat) : Int) := by
    rw [Int.negSucc_eq]
    omega
  rw [e] at this
  have : modN 18446744073709551616 (.negSucc k) = 18446744073709551615 - k := by omega
  rw [this]
theorem lN_nat (a b : Nat) (n p : Int) (hn : wrapA .u64 n = .ofNat a) (hp : wrapA .u64 p = .ofNat b) : lN n p = a * b % 18446744073709551616 := by
  unfold lN
  rw [hn, hp]
  rfl
theorem wU_some (n : Int) : ∃ m, wrapA .u64 n = .ofNat m ∧ m < 18446744073709551616 := by
  refine ⟨modN 18446744073709551616 n, rfl, ?_⟩
  have := modN_eq 18446744073709551616 (by decide) n
  omega
/-- of none all is the rest -/
theorem sc_none (n : Int) : scI n (cl 0) = 0 := by
  obtain ⟨m, e1, hm⟩ := wU_some n
  have e0 : cl 0 = 0 := rfl
  have e2 : wrapA .u64 0 = .ofNat 0 := rfl
  have hl := lN_nat m 0 n 0 e1 e2
  have hh : hW n 0 = .ofNat 0 := by
    unfold hW
    rw [e1, e2, hiE_nat hm (by omega), Nat.mul_zero]
    cases ltI n 0 <;> rfl
  rw [e0]
  unfold scI
  rw [hh, hl, Nat.mul_zero]
  rfl
theorem cl_all : cl 10000 = 10000 := rfl
theorem sc_pos (k : Nat) (hk : k < 9223372036854775808) : scI (.ofNat k) 10000 = .ofNat k := by
  have e1 : wrapA .u64 (.ofNat k) = .ofNat k := wU (by omega)
  have e2 : wrapA .u64 10000 = .ofNat 10000 := rfl
  have hl := lN_nat k 10000 (.ofNat k) 10000 e1 e2
  have hm := Nat.div_add_mod (k * 10000) 18446744073709551616
  have hb : k * 10000 / 18446744073709551616 < 10000 := by omega
  have hh : hW (.ofNat k) 10000 = .ofNat (k * 10000 / 18446744073709551616) := by
    unfold hW
    rw [e1, e2, hiE_nat (by omega) (by omega)]
    have a1 : ltI (.ofNat k) 0 = false := by rw [show (0 : Int) = .ofNat 0 from rfl, ltI_nat, decide_eq_false (by omega)]
    have a2 : ltI 10000 0 = false := rfl
    rw [a1, a2]
    exact wrapI (by first | (simp; done) | (simp; omega)) (by first | (simp; done) | (simp; omega))
  unfold scI
  rw [hh, hl]
  generalize k * 10000 / 18446744073709551616 = a at *
  generalize k * 10000 % 18446744073709551616 = b at *
  have hs : szH (.ofNat a) b = a := Nat.mod_eq_of_lt (by omega)
  have hL : szL (.ofNat a) b = b := rfl
  rw [quo_exact (q := k) (by rw [hs, hL]; omega) (by rw [hs]; exact hb) (by omega) (fun _ => by omega)]
  show wrapA .i64 (.ofNat k) = _
  exact wrapI (by first | (simp; done) | (simp; omega)) (by first | (simp; done) | (simp; omega))
theorem sz_neg (j lo : Nat) (hj : j < 10000) (hlo : lo < 18446744073709551616) : szH (.negSucc j) lo = (if lo = 0 then j + 1 else j) ∧ szL (.negSucc j) lo = if lo = 0 then 0 else 18446744073709551616 - lo := by
  have em := modN_neg (k := j) (by omega)
  constructor
  · cases lo with
    | zero =>
      rw [if_pos rfl]
      show (18446744073709551616 - modN 18446744073709551616 (.negSucc j) - 0) % 18446744073709551616 = j + 1
      rw [em]
      show (18446744073709551616 - (18446744073709551615 - j) - 0) % 18446744073709551616 = j + 1
      omega
    | succ l =>
      rw [if_neg (by omega)]
      show (18446744073709551616 - modN 18446744073709551616 (.negSucc j) - 1) % 18446744073709551616 = j
      rw [em]
      show (18446744073709551616 - (18446744073709551615 - j) - 1) % 18446744073709551616 = j
      omega
  · show (18446744073709551616 - lo) % 18446744073709551616 = _
    split <;> omega
theorem neg_back {k : Nat} (hk : k < 9223372036854775808) : wrapA .i64 (wrapA .u64 (Int.sub 0 (.ofNat (k + 1)))) = .negSucc k := by
  have e : Int.sub 0 (.ofNat (k + 1)) = .negSucc k := by
    show (0 : Int) - ((k + 1 : Nat) : Int) = _
    rw [Int.negSucc_eq]
    omega
  rw [e, wU_neg (by omega)]
  show wrapS 18446744073709551616 9223372036854775808 (.ofNat (18446744073709551615 - k)) = _
  rw [wrapS_eq _ _ (by decide) (by decide), Int.negSucc_eq]
  have e2 : (Int.ofNat (18446744073709551615 - k)) = 18446744073709551615 - (k : Int) := by
    show ((18446744073709551615 - k : Nat) : Int) = _
    omega
  rw [e2]
  split <;> omega
theorem neg_sum (k a b : Nat) (hk : k < 9223372036854775808) (hm : 18446744073709551616 * a + b = (18446744073709551615 - k) * 10000) (hb : b < 18446744073709551616) (ha : a < 10000) :
    (if b = 0 then 9999 - a + 1 else 9999 - a) * 18446744073709551616 + (if b = 0 then 0 else 18446744073709551616 - b) = (k + 1) * 10000 := by
  obtain ⟨u, hu⟩ : ∃ u, u = 18446744073709551615 - k := ⟨_, rfl⟩
  rw [← hu] at hm
  have h1 : u + k = 18446744073709551615 := by omega
  obtain ⟨c, hc⟩ : ∃ c, c = 9999 - a := ⟨_, rfl⟩
  have h2 : c + a = 9999 := by omega
  rw [← hc]
  clear hu hc
  split
  · omega
  · obtain ⟨d, hd⟩ : ∃ d, d = 18446744073709551616 - b := ⟨_, rfl⟩
    have h3 : d + b = 18446744073709551616 := by omega
    rw [← hd]
    clear hd
    omega
theorem sc_neg (k : Nat) (hk : k < 9223372036854775808) : scI (.negSucc k) 10000 = .negSucc k := by
  have e1 : wrapA .u64 (.negSucc k) = .ofNat (18446744073709551615 - k) := wU_neg (by omega)
  have e2 : wrapA .u64 10000 = .ofNat 10000 := rfl
  have hl := lN_nat (18446744073709551615 - k) 10000 (.negSucc k) 10000 e1 e2
  have hm := Nat.div_add_mod ((18446744073709551615 - k) * 10000) 18446744073709551616
  have hlt : (18446744073709551615 - k) * 10000 % 18446744073709551616 < 18446744073709551616 := Nat.mod_lt _ (by decide)
  have hb : (18446744073709551615 - k) * 10000 / 18446744073709551616 < 10000 := by omega
  have hx := hiE_nat (x := 18446744073709551615 - k) (y := 10000) (by omega) (by omega)
  generalize ha : (18446744073709551615 - k) * 10000 / 18446744073709551616 = a at *
  generalize hb' : (18446744073709551615 - k) * 10000 % 18446744073709551616 = b at *
  have hh : hW (.negSucc k) 10000 = .negSucc (9999 - a) := by
    unfold hW
    rw [e1, e2, hx]
    have a1 : ltI (.negSucc k) 0 = true := rfl
    have a2 : ltI 10000 0 = false := rfl
    have a3 : wrapA .i64 (.ofNat a) = .ofNat a := wrapI (by first | (simp; done) | (simp; omega)) (by first | (simp; done) | (simp; omega))
    rw [a1, a2, a3]
    have a4 : Int.sub (.ofNat a) 10000 = .negSucc (9999 - a) := by
      show (a : Int) - 10000 = _
      rw [Int.negSucc_eq]
      omega
    show wrapA .i64 (Int.sub (.ofNat a) 10000) = _
    rw [a4, Int.negSucc_eq]
    exact wrapI (by omega) (by omega)
  unfold scI
  rw [hh, hl]
  obtain ⟨s1, s2⟩ := sz_neg (9999 - a) b (by omega) hlt
  have hs : szH (.negSucc (9999 - a)) b * 18446744073709551616 + szL (.negSucc (9999 - a)) b = (k + 1) * 10000 := by
    rw [s1, s2]
    exact neg_sum k a b hk hm hlt hb
  have hH : szH (.negSucc (9999 - a)) b < 10000 := by
    generalize szH (.negSucc (9999 - a)) b = x at *
    generalize szL (.negSucc (9999 - a)) b = y at *
    omega
  rw [quo_exact (q := k + 1) hs hH (by omega) (fun h => by cases h)]
  exact neg_back hk
/-- of all parts it is all -/
theorem sc_all (n : Int) (hn : wrapA .i64 n = n) : scI n (cl 10000) = n := by
  have hr : -9223372036854775808 ≤ n ∧ n < 9223372036854775808 := by
    have : wrapS 18446744073709551616 9223372036854775808 n = n := hn
    rw [wrapS_eq _ _ (by decide) (by decide)] at this
    split at this <;> omega
  rw [cl_all]
  cases n with
  | ofNat k => exact sc_pos k (by have := hr.2; simp at this; omega)
  | negSucc k => exact sc_neg k (by have := hr.1; rw [Int.negSucc_eq] at this; omega)
theorem wrap_is (x : Int) : ∃ t : Int, wrapA .i64 x = x - 18446744073709551616 * t := by
  have e : wrapA .i64 x = wrapS 18446744073709551616 9223372036854775808 x := rfl
  rw [e, wrapS_eq _ _ (by decide) (by decide)]
  split
  · exact ⟨x / 18446744073709551616 + 1, by omega⟩
  · exact ⟨x / 18446744073709551616, by omega⟩
theorem wrap_less (x t : Int) : wrapA .i64 (x - 18446744073709551616 * t) = wrapA .i64 x := by
  have e : ∀ x, wrapA .i64 x = wrapS 18446744073709551616 9223372036854775808 x := fun x => rfl
  rw [e, e, wrapS_eq _ _ (by decide) (by decide), wrapS_eq _ _ (by decide) (by decide)]
  have : (x - 18446744073709551616 * t) % ((18446744073709551616 : Nat) : Int) = x % ((18446744073709551616 : Nat) : Int) := by omega
  rw [this]
/-- both rows together are the amount -/
theorem sum_back (a n : Int) (hn : wrapA .i64 n = n) : wrapA .i64 (Int.add a (wrapA .i64 (Int.sub n a))) = n := by
  obtain ⟨t, ht⟩ := wrap_is (Int.sub n a)
  rw [ht]
  have e : Int.add a (Int.sub n a - 18446744073709551616 * t) = n - 18446744073709551616 * t := by
    show a + ((n - a) - 18446744073709551616 * t) = _
    omega
  rw [e, wrap_less, hn]
theorem eqI_self (n : Int) : eqI n n = true := by
  rw [eqI_eq]
  simp
end Go.Proofs.YtinlmdapgejdoaaGreat.sp
end
end

section
/- Sums of 128 bits, told by the numbers they stand for. -/
noncomputable section
namespace Go.Proofs.YtinlmdapgejdoaaGreat.sp
open AE
set_option linter.unusedSimpArgs false
set_option linter.unusedVariables false
set_option maxRecDepth 10000

/-- a number of 128 bits: its parts -/
def hiZ (z : Int) : Int := z / 18446744073709551616
def loZ (z : Int) : Nat := (z % 18446744073709551616).toNat
def valW (h : Int) (l : Nat) : Int := h * 18446744073709551616 + l
theorem val_wz (z : Int) : valW (hiZ z) (loZ z) = z := by
  unfold valW hiZ loZ
  have h1 := Int.emod_nonneg z (show (18446744073709551616 : Int) ≠ 0 by decide)
  omega
theorem loZ_lt (z : Int) : loZ z < 18446744073709551616 := by
  unfold loZ
  have h1 := Int.emod_nonneg z (show (18446744073709551616 : Int) ≠ 0 by decide)
  have h2 := Int.emod_lt_of_pos z (show (0 : Int) < 18446744073709551616 by decide)
  omega
def wz (z : Int) : Value := .agg ⟨[.int .i64 (hiZ z), .int .u64 (.ofNat (loZ z))]⟩
def inI (z : Int) : Bool := decide (-9223372036854775808 ≤ z) && decide (z < 9223372036854775808)
theorem inI_iff {z : Int} : inI z = true ↔ -9223372036854775808 ≤ z ∧ z < 9223372036854775808 := by
  unfold inI
  simp
def smallH (h : Int) : Bool := decide (-4611686018427387904 ≤ h) && decide (h < 4611686018427387904)
theorem smallH_iff {h : Int} : smallH h = true ↔ -4611686018427387904 ≤ h ∧ h < 4611686018427387904 := by
  unfold smallH
  simp
theorem plain_wz (z : Int) : Plain (wz z) := plain_agg (ints_plain (by simp))
/-- of an int -/
def ofG : List Value → Option (Bool × Value)
  | [.int .i64 n] => some (inI n, wz n)
  | _ => none
theorem of_ev (n : Int) : evV E (sumsOf []) 100 122 [.int .i64 n] = some (.agg ⟨[.int .i64 (Int.fdiv n (pow2 63)), .int .u64 (wrapA .u64 n)]⟩) := by kernel_rfl
theorem of_raw {n : Int} (h : inI n = true) : (.agg ⟨[.int .i64 (Int.fdiv n (pow2 63)), .int .u64 (wrapA .u64 n)]⟩ : Value) = wz n := by
  obtain ⟨h1, h2⟩ := inI_iff.1 h
  have e1 : Int.fdiv n (pow2 63) = hiZ n := by
    show Int.fdiv n ((2 ^ 63 : Nat) : Int) = _
    rw [Int.fdiv_eq_ediv_of_nonneg _ (Int.natCast_nonneg _)]
    unfold hiZ
    have : ((2 ^ 63 : Nat) : Int) = 9223372036854775808 := rfl
    rw [this]
    omega
  have e2 : wrapA .u64 n = .ofNat (loZ n) := by
    show Int.ofNat (modN 18446744073709551616 n) = _
    have := modN_eq 18446744073709551616 (by decide) n
    have h3 : ((18446744073709551616 : Nat) : Int) = 18446744073709551616 := rfl
    rw [h3] at this
    unfold loZ
    congr 1
    omega
  rw [e1, e2]
  rfl
theorem told_ofG : AE.Told Tryz.prog 122 (gA ofG) := by
  refine told_pure hE hmix tolds_nil ?_
  intro args s v s' hr
  obtain ⟨h1, rfl⟩ := gA_run hr
  unfold ofG at h1
  split at h1
  · rename_i n
    have hb : inI n = true := congrArg (fun x => match x with | some (b, _) => b | none => false) h1
    have hv : wz n = v := congrArg (fun x => match x with | some (_, v) => v | none => undefV) h1
    subst hv
    exact ⟨plain_wz n, Less'.refl _, ints_plain (by simp), 100, by rw [← of_raw hb]; exact of_ev n⟩
  · cases h1
/-- added -/
def gAdd (h1 : Int) (l1 : Nat) (h2 : Int) (l2 : Nat) : Bool := (smallH h1 && smallH h2) && (Nat.blt l1 18446744073709551616 && Nat.blt l2 18446744073709551616)
def addG : List Value → Option (Bool × Value)
  | [.agg ⟨[.int .i64 h1, .int .u64 (.ofNat l1)]⟩, .agg ⟨[.int .i64 h2, .int .u64 (.ofNat l2)]⟩] => some (gAdd h1 l1 h2 l2, wz (valW h1 l1 + valW h2 l2))
  | _ => none
def addR (h1 : Int) (l1 : Nat) (h2 : Int) (l2 : Nat) : Value := .agg ⟨[.int .i64 (wrapA .i64 (Int.add (wrapA .i64 (Int.add h1 h2)) (wrapA .i64 (.ofNat (Nat.div (Nat.add (Nat.add l1 l2) 0) 18446744073709551616))))), .int .u64 (.ofNat (Nat.mod (Nat.add (Nat.add l1 l2) 0) 18446744073709551616))]⟩
theorem add_ev (h1 : Int) (l1 : Nat) (h2 : Int) (l2 : Nat) : evV E (sumsOf []) 100 121 [.agg ⟨[.int .i64 h1, .int .u64 (.ofNat l1)]⟩, .agg ⟨[.int .i64 h2, .int .u64 (.ofNat l2)]⟩] = some (addR h1 l1 h2 l2) := by kernel_rfl
theorem add_raw {h1 h2 : Int} {l1 l2 : Nat} (h : gAdd h1 l1 h2 l2 = true) : addR h1 l1 h2 l2 = wz (valW h1 l1 + valW h2 l2) := by
  unfold gAdd at h
  simp only [Bool.and_eq_true, smallH_iff, blt_iff] at h
  obtain ⟨⟨⟨a1, a2⟩, b1, b2⟩, c1, c2⟩ := h
  unfold addR
  have e0 : Nat.div (Nat.add (Nat.add l1 l2) 0) 18446744073709551616 = (l1 + l2) / 18446744073709551616 := rfl
  have e1 : Nat.mod (Nat.add (Nat.add l1 l2) 0) 18446744073709551616 = (l1 + l2) % 18446744073709551616 := rfl
  have e2 : Int.add h1 h2 = h1 + h2 := rfl
  have hc : (l1 + l2) / 18446744073709551616 ≤ 1 := by omega
  have w1 : wrapA .i64 (h1 + h2) = h1 + h2 := wrapI (by omega) (by omega)
  rw [e0, e1, e2, w1]
  have e3 : wrapA .i64 (.ofNat ((l1 + l2) / 18446744073709551616)) = (((l1 + l2) / 18446744073709551616 : Nat) : Int) := wrapI (by show _ ≤ (((l1 + l2) / 18446744073709551616 : Nat) : Int); omega) (by show (((l1 + l2) / 18446744073709551616 : Nat) : Int) < _; omega)
  rw [e3]
  have e4 : Int.add (h1 + h2) (((l1 + l2) / 18446744073709551616 : Nat) : Int) = h1 + h2 + (((l1 + l2) / 18446744073709551616 : Nat) : Int) := rfl
  rw [e4, wrapI (by omega) (by omega)]
  have e5 : h1 + h2 + (((l1 + l2) / 18446744073709551616 : Nat) : Int) = hiZ (valW h1 l1 + valW h2 l2) := by
    unfold hiZ valW
    omega
  have e6 : (l1 + l2) % 18446744073709551616 = loZ (valW h1 l1 + valW h2 l2) := by
    unfold loZ valW
    omega
  rw [e5, e6]
  rfl
theorem told_addG : AE.Told Tryz.prog 121 (gA addG) := by
  refine told_pure hE hmix tolds_nil ?_
  intro args s v s' hr
  obtain ⟨h1, rfl⟩ := gA_run hr
  unfold addG at h1
  split at h1
  · rename_i a b c d
    have hb : gAdd a b c d = true := congrArg (fun x => match x with | some (b, _) => b | none => false) h1
    have hv : wz (valW a b + valW c d) = v := congrArg (fun x => match x with | some (_, v) => v | none => undefV) h1
    subst hv
    refine ⟨plain_wz _, Less'.refl _, fun v hv => ?_, 100, by rw [← add_raw hb]; exact add_ev a b c d⟩
    simp only [List.mem_cons, List.not_mem_nil, or_false] at hv
    rcases hv with rfl | rfl <;> exact plain_agg (ints_plain (by simp))
  · cases h1

/-! two compared -/
noncomputable def tiW : TI := TI.of Tryz.prog 96
theorem tyW : E.ty.get 96 = some tiW := by kernel_rfl
noncomputable def fsW : Array Field := match tiW.desc with | .struct fs => fs | _ => #[]
theorem dsW : tiW.desc = .struct fsW := by kernel_rfl
theorem gdW : tiW.guard = false := by kernel_rfl
noncomputable def fdW (i : Nat) : Field := (fieldAt? fsW.toList i).getD default
theorem fsW_list : fsW.toList = [fdW 0, fdW 1] := by kernel_rfl
theorem nmW0 : (fdW 0).name = "Hi" := by kernel_rfl
theorem nmW1 : (fdW 1).name = "Lo" := by kernel_rfl
theorem ftW0 : (fdW 0).type = 2 := by kernel_rfl
theorem ftW1 : (fdW 1).type = 94 := by kernel_rfl
theorem foW0 : (fdW 0).offset = 0 := by kernel_rfl
theorem foW1 : (fdW 1).offset = 1 := by kernel_rfl
noncomputable def tiI64 : TI := TI.of Tryz.prog 2
theorem tyI64 : E.ty.get 2 = some tiI64 := by kernel_rfl
theorem dsI64 : tiI64.desc = .int .i64 := by kernel_rfl
theorem eqW (a c : Int) (b d : Int) : eqTop E 96 (.agg ⟨[.int .i64 a, .int .u64 b]⟩) (.agg ⟨[.int .i64 c, .int .u64 d]⟩) = some (eqI a c && eqI b d) := by
  have p0 : ∀ x y, partA tiI64 [Value.int .i64 x, .int .u64 y] 0 = some (.int .i64 x) := fun x y => by unfold partA; rw [dsI64]; rfl
  have p1 : ∀ x y, partA tiU64 [Value.int .i64 x, .int .u64 y] 1 = some (.int .u64 y) := fun x y => by unfold partA; rw [dsU64]; rfl
  have q0 : ∀ n x y, eqV E (n + 1) 2 (.int .i64 x) (.int .i64 y) = some (eqI x y) := fun n x y => by simp only [eqV, tyI64, dsI64]; rfl
  have q1 : ∀ n x y, eqV E (n + 1) 94 (.int .u64 x) (.int .u64 y) = some (eqI x y) := fun n x y => by simp only [eqV, tyU64, dsU64]; rfl
  have e0 : eqTop E 96 (.agg ⟨[.int .i64 a, .int .u64 b]⟩) (.agg ⟨[.int .i64 c, .int .u64 d]⟩) = eqV E 1000 96 (.agg ⟨[.int .i64 a, .int .u64 b]⟩) (.agg ⟨[.int .i64 c, .int .u64 d]⟩) := rfl
  rw [e0]
  show eqV E (999 + 1) 96 (.agg ⟨[.int .i64 a, .int .u64 b]⟩) (.agg ⟨[.int .i64 c, .int .u64 d]⟩) = _
  simp only [eqV, tyW, dsW, gdW, fsW_list]
  show eqFs E (998 + 1) _ _ _ = _
  simp only [eqFs, nmW0, ftW0, foW0, tyI64, p0]
  rw [if_neg (by decide)]
  show (match eqV E (997 + 1) 2 (.int .i64 a) (.int .i64 c) with | some true => eqFs E (997 + 1) [fdW 1] [.int .i64 a, .int .u64 b] [.int .i64 c, .int .u64 d] | r => r) = _
  rw [q0]
  cases eqI a c with
  | false => rfl
  | true =>
    show eqFs E (997 + 1) _ _ _ = _
    simp only [eqFs, nmW1, ftW1, foW1, tyU64, p1]
    rw [if_neg (by decide)]
    show (match eqV E (996 + 1) 94 (.int .u64 b) (.int .u64 d) with | some true => eqFs E (996 + 1) [] [.int .i64 a, .int .u64 b] [.int .i64 c, .int .u64 d] | r => r) = _
    rw [q1]
    cases eqI b d with
    | false => rfl
    | true => rfl
end Go.Proofs.YtinlmdapgejdoaaGreat.sp
end
end

section
/- Sums of 128 bits as ints; one for one; numbers from one on. -/
noncomputable section
namespace Go.Proofs.YtinlmdapgejdoaaGreat.sp
open AE
set_option linter.unusedSimpArgs false
set_option linter.unusedVariables false
set_option maxRecDepth 10000

def nL (l : Nat) : Int := wrapA .i64 (.ofNat l)
def intZ (z : Int) : Int := match inI z with | true => z | false => 0
def qInt (h : Int) (l : Nat) : Option Bool := eqTop E 96 (.agg ⟨[.int .i64 (hiZ (nL l)), .int .u64 (.ofNat (loZ (nL l)))]⟩) (.agg ⟨[.int .i64 h, .int .u64 (.ofNat l)]⟩)
def gateI : List (Nat × (List Value → Option (Bool × Value))) := [(122, ofG)]
theorem tolds_I : Tolds Tryz.prog (gated (gatesOf gateI) (sumsOf [])) := tolds_gates tolds_nil (by
  intro p hp
  simp only [gateI, List.mem_cons, List.not_mem_nil, or_false] at hp
  subst hp
  exact told_ofG)
theorem int_yes (h : Int) (l : Nat) : evVO E (gatesOf gateI) (sumsOf []) 100 120 [.agg ⟨[.int .i64 h, .int .u64 (.ofNat l)]⟩] [(0, some true), (0, some true), (0, some true)] =
    some (.tuple ⟨[.int .i64 (nL l), .bool true]⟩, [(eqB true (qInt h l), true), ((qInt h l).isSome, true), (inI (nL l), true)]) := by kernel_rfl
theorem int_no (h : Int) (l : Nat) : evVO E (gatesOf gateI) (sumsOf []) 100 120 [.agg ⟨[.int .i64 h, .int .u64 (.ofNat l)]⟩] [(0, some true), (0, some true), (0, some false)] =
    some (.tuple ⟨[.int .i64 0, .bool false]⟩, [(eqB true (qInt h l), false), ((qInt h l).isSome, true), (inI (nL l), true)]) := by kernel_rfl
theorem nL_is {l : Nat} (hl : l < 18446744073709551616) : nL l = if l < 9223372036854775808 then (l : Int) else (l : Int) - 18446744073709551616 := by
  unfold nL
  show wrapS 18446744073709551616 9223372036854775808 (l : Int) = _
  rw [wrapS_eq _ _ (by decide) (by decide)]
  split <;> split <;> omega
theorem nL_in {l : Nat} (hl : l < 18446744073709551616) : inI (nL l) = true := by
  rw [inI_iff, nL_is hl]
  split <;> omega
theorem nL_lo {l : Nat} (hl : l < 18446744073709551616) : loZ (nL l) = l := by
  unfold loZ
  rw [nL_is hl]
  split <;> omega
theorem qInt_is {h : Int} {l : Nat} (hl : l < 18446744073709551616) : qInt h l = some (decide (hiZ (nL l) = h)) := by
  unfold qInt
  rw [eqW, nL_lo hl, eqI_self, Bool.and_true, eqI_eq]
theorem int_dec {h : Int} {l : Nat} (hl : l < 18446744073709551616) : decide (hiZ (nL l) = h) = inI (valW h l) ∧ (inI (valW h l) = true → nL l = valW h l) := by
  have e : hiZ (nL l) = if l < 9223372036854775808 then 0 else -1 := by
    unfold hiZ
    rw [nL_is hl]
    split <;> omega
  constructor
  · rw [e, Bool.eq_iff_iff, inI_iff, decide_eq_true_iff]
    unfold valW
    split <;> omega
  · rw [inI_iff, nL_is hl]
    unfold valW
    split <;> omega
def intG : List Value → Option (Bool × Value)
  | [.agg ⟨[.int .i64 h, .int .u64 (.ofNat l)]⟩] => some (Nat.blt l 18446744073709551616, .tuple ⟨[.int .i64 (intZ (valW h l)), .bool (inI (valW h l))]⟩)
  | _ => none
theorem told_intG : AE.Told Tryz.prog 120 (gA intG) := by
  refine told_pure hE hmix tolds_I ?_
  intro args s v s' hr
  obtain ⟨h1, rfl⟩ := gA_run hr
  unfold intG at h1
  split at h1
  · rename_i h l
    have hb : Nat.blt l 18446744073709551616 = true := congrArg (fun x => match x with | some (b, _) => b | none => false) h1
    have hv : Value.tuple ⟨[.int .i64 (intZ (valW h l)), .bool (inI (valW h l))]⟩ = v := congrArg (fun x => match x with | some (_, v) => v | none => undefV) h1
    subst hv
    have hl := blt_iff.1 hb
    refine ⟨plain_tuple fun v hv => ?_, Less'.refl _, fun v hv => ?_, 100, ?_⟩
    · simp only [List.mem_cons, List.not_mem_nil, or_false] at hv
      rcases hv with rfl | rfl
      · exact plain_int _ _
      · exact plain_bool _
    · simp only [List.mem_cons, List.not_mem_nil, or_false] at hv
      subst hv
      exact plain_agg (ints_plain (by simp))
    · obtain ⟨d1, d2⟩ := int_dec (h := h) hl
      have hq : qInt h l = some (inI (valW h l)) := by rw [qInt_is hl, d1]
      unfold intZ
      cases hi : inI (valW h l) with
      | true =>
        have := evV_of (int_yes h l) (qcons (by rw [hq, hi]; rfl) (qcons (by rw [hq]; rfl) (qcons (nL_in hl) qnil)))
        rw [d2 hi] at this
        exact this
      | false => exact evV_of (int_no h l) (qcons (by rw [hq, hi]; rfl) (qcons (by rw [hq]; rfl) (qcons (nL_in hl) qnil)))
  · cases h1

/-! by one -/
def div1G : List Value → Option (Bool × Value)
  | [.int .u64 (.ofNat hi), .int .u64 (.ofNat lo), .int .u64 (.ofNat d)] => some (Nat.beq hi 0 && Nat.beq d 1 && Nat.blt lo 18446744073709551616, .tuple ⟨[.int .u64 (.ofNat lo), .int .u64 (.ofNat 0)]⟩)
  | _ => none
theorem told_div1 : AE.Told Tryz.prog 92 (gA div1G) := by
  refine told_go hE hmix tolds_D ?_
  intro args s v s' hr hm
  obtain ⟨h1, rfl⟩ := gA_run hr
  unfold div1G at h1
  split at h1
  · rename_i hi lo d
    have hb : (Nat.beq hi 0 && Nat.beq d 1 && Nat.blt lo 18446744073709551616) = true := congrArg (fun x => match x with | some (b, _) => b | none => false) h1
    have hv : Value.tuple ⟨[.int .u64 (.ofNat lo), .int .u64 (.ofNat 0)]⟩ = v := congrArg (fun x => match x with | some (_, v) => v | none => undefV) h1
    subst hv
    simp only [Bool.and_eq_true, beq_iff, blt_iff] at hb
    obtain ⟨⟨rfl, rfl⟩, hlo⟩ := hb
    have e1 := b_eqlU 1 0
    have e2 := b_leqU 1 0
    have e3 := b_eqlU 0 0
    simp only [show decide (1 = 0) = false from rfl] at e1
    simp only [show decide (1 ≤ 0) = false from rfl] at e2
    simp only [decide_true] at e3
    have f1 := b_quoU (a := lo) (b := 0) (c := lo) (Nat.div_one lo) hlo
    have f2 := b_remU (a := lo) (b := 0) (c := 0) (Nat.mod_one lo)
    exact walk_small _ _ _ _ _ e1 e2 e3 f1 f2 s'
  · cases h1
def gateQ1 : List (Nat × (List Value → Option (Bool × Value))) := [(92, div1G)]
theorem tolds_Q1 : Tolds Tryz.prog (gated (gatesOf gateQ1) (sumsOf sigQ)) := tolds_gates (tolds_cons told_sizeB tolds_nil) (by
  intro p hp
  simp only [gateQ1, List.mem_cons, List.not_mem_nil, or_false] at hp
  subst hp
  exact told_div1)
noncomputable def quo1E (h : Int) (lo : Nat) (told : List (Nat × Option Bool)) : Option (Value × List (Bool × Bool)) :=
  evVO E (gatesOf gateQ1) (sumsOf sigQ) 100 71 [.agg ⟨[.int .i64 h, .int .u64 (.ofNat lo)]⟩, .int .i64 (.ofNat 1)] told
end Go.Proofs.YtinlmdapgejdoaaGreat.sp
end
end

section
/- Amounts one for one; a number from one on. -/
noncomputable section
namespace Go.Proofs.YtinlmdapgejdoaaGreat.sp
open AE
set_option linter.unusedSimpArgs false
set_option linter.unusedVariables false
set_option maxRecDepth 10000

def R0 (h : Int) (l : Nat) : Bool := !ltI (Int.ofNat (szH h l)) (wrapA IntKind.u64 (Int.ofNat 1))
def Rg (h : Int) (l : Nat) : Bool := (Nat.beq (szH h l) 0) && (Nat.beq (modN 18446744073709551616 (Int.ofNat 1)) 1) && (Nat.blt (szL h l) 18446744073709551616)
theorem quo1_p (h : Int) (lo : Nat) : quo1E h lo [(1, some false), (0, some true), (0, some true), (16, some false), (3, some true), (2, some true)] =
    some (pV (.ofNat (szL h lo)), [(FP (.ofNat (szL h lo)), true), (!szM h, true), (szM h, false), (C1 (szL h lo), true), (Rg h lo, true), (R0 h lo, false)]) := by kernel_rfl
theorem quo1_m (h : Int) (lo : Nat) : quo1E h lo [(1, some false), (0, some true), (0, some true), (16, some true), (2, some true)] =
    some (mV (.ofNat (szL h lo)), [(FM (.ofNat (szL h lo)), true), (szM h, true), (C1 (szL h lo), true), (Rg h lo, true), (R0 h lo, false)]) := by kernel_rfl
theorem C1_of {q : Nat} (h : q ≤ 9223372036854775808) : C1 q = true := by
  unfold C1
  rw [show (9223372036854775808 : Int) = Int.ofNat 9223372036854775808 from rfl, ltI_nat, decide_eq_false (by omega)]
  rfl
theorem FM_of {q : Nat} (h : q ≤ 9223372036854775808) : FM (.ofNat q) = true := by
  unfold FM
  rw [show (9223372036854775808 : Int) = Int.ofNat 9223372036854775808 from rfl, ltI_nat, decide_eq_false (by omega)]
  rfl
theorem FP_of {q : Nat} (h : q ≤ 9223372036854775807) : FP (.ofNat q) = true := by
  unfold FP
  rw [show (9223372036854775807 : Int) = Int.ofNat 9223372036854775807 from rfl, ltI_nat, decide_eq_false (by omega)]
  rfl
theorem R0_of {h : Int} {l : Nat} (hs : szH h l = 0) : R0 h l = false := by
  unfold R0
  rw [hs]
  rfl
theorem Rg_of {h : Int} {l : Nat} (hs : szH h l = 0) (hl : szL h l < 18446744073709551616) : Rg h l = true := by
  unfold Rg
  rw [hs, blt_iff.2 hl]
  rfl
def g1 (h : Int) (lo : Nat) : Bool := inI (valW h lo) && Nat.blt lo 18446744073709551616
def q1G : List Value → Option (Bool × Value)
  | [.agg ⟨[.int .i64 h, .int .u64 (.ofNat lo)]⟩, .int .i64 (.ofNat 1)] => some (g1 h lo, .tuple ⟨[.int .i64 (valW h lo), .bool true]⟩)
  | _ => none
theorem quo1_ev {h : Int} {lo : Nat} (hg : g1 h lo = true) : evV E (gated (gatesOf gateQ1) (sumsOf sigQ)) 100 71 [.agg ⟨[.int .i64 h, .int .u64 (.ofNat lo)]⟩, .int .i64 (.ofNat 1)] = some (.tuple ⟨[.int .i64 (valW h lo), .bool true]⟩) := by
  unfold g1 at hg
  rw [Bool.and_eq_true, inI_iff, blt_iff] at hg
  obtain ⟨⟨h1, h2⟩, hl⟩ := hg
  have hc : (h = 0 ∧ lo < 9223372036854775808) ∨ (h = -1 ∧ 9223372036854775808 ≤ lo) := by
    unfold valW at h1 h2
    omega
  rcases hc with ⟨rfl, hlo⟩ | ⟨rfl, hlo⟩
  · have s1 : szH 0 lo = 0 := rfl
    have s2 : szL 0 lo = lo := rfl
    have s3 : szM 0 = false := rfl
    have hv : pV (.ofNat (szL 0 lo)) = .tuple ⟨[.int .i64 (valW 0 lo), .bool true]⟩ := by
      unfold pV valW
      rw [s2, wrapI (by show _ ≤ (lo : Int); omega) (by show (lo : Int) < _; omega)]
      have : (Int.ofNat lo) = (0 : Int) * 18446744073709551616 + lo := by show (lo : Int) = _; omega
      rw [this]
    rw [← hv]
    exact evV_of (quo1_p 0 lo) (qcons (FP_of (by rw [s2]; omega)) (qcons (by rw [s3]; rfl) (qcons s3 (qcons (C1_of (by rw [s2]; omega)) (qcons (Rg_of s1 (by rw [s2]; omega)) (qcons (R0_of s1) qnil))))))
  · have e : (-1 : Int) = .negSucc 0 := rfl
    rw [e]
    obtain ⟨z1, z2⟩ := sz_neg 0 lo (by omega) hl
    rw [if_neg (by omega)] at z1 z2
    obtain ⟨k, hk⟩ : ∃ k, 18446744073709551616 - lo = k + 1 := ⟨18446744073709551615 - lo, by omega⟩
    have hk2 : k < 9223372036854775808 := by omega
    rw [hk] at z2
    have s3 : szM (.negSucc 0) = true := rfl
    have hv : mV (.ofNat (szL (.negSucc 0) lo)) = .tuple ⟨[.int .i64 (valW (.negSucc 0) lo), .bool true]⟩ := by
      unfold mV
      rw [z2, neg_back hk2]
      have : Int.negSucc k = valW (.negSucc 0) lo := by
        unfold valW
        rw [Int.negSucc_eq, Int.negSucc_eq]
        omega
      rw [this]
    rw [← hv]
    exact evV_of (quo1_m (.negSucc 0) lo) (qcons (FM_of (by rw [z2]; omega)) (qcons s3 (qcons (C1_of (by rw [z2]; omega)) (qcons (Rg_of z1 (by rw [z2]; omega)) (qcons (R0_of z1) qnil)))))
theorem plain_ib (n : Int) (b : Bool) : Plain (.tuple ⟨[.int .i64 n, .bool b]⟩) := plain_tuple fun v hv => by
  simp only [List.mem_cons, List.not_mem_nil, or_false] at hv
  rcases hv with rfl | rfl
  · exact plain_int _ _
  · exact plain_bool _
theorem told_q1G : AE.Told Tryz.prog 71 (gA q1G) := by
  refine told_pure hE hmix tolds_Q1 ?_
  intro args s v s' hr
  obtain ⟨h1, rfl⟩ := gA_run hr
  unfold q1G at h1
  split at h1
  · rename_i h lo
    have hb : g1 h lo = true := congrArg (fun x => match x with | some (b, _) => b | none => false) h1
    have hv : Value.tuple ⟨[.int .i64 (valW h lo), .bool true]⟩ = v := congrArg (fun x => match x with | some (_, v) => v | none => undefV) h1
    subst hv
    refine ⟨plain_ib _ _, Less'.refl _, fun v hv => ?_, 100, quo1_ev hb⟩
    simp only [List.mem_cons, List.not_mem_nil, or_false] at hv
    rcases hv with rfl | rfl
    · exact plain_agg (ints_plain (by simp))
    · exact plain_int _ _
  · cases h1
def gateS1 : List (Nat × (List Value → Option (Bool × Value))) := [(71, q1G)]
theorem tolds_S1 : Tolds Tryz.prog (gated (gatesOf gateS1) (sumsOf sigS)) := tolds_gates (tolds_cons told_mulW tolds_nil) (by
  intro p hp
  simp only [gateS1, List.mem_cons, List.not_mem_nil, or_false] at hp
  subst hp
  exact told_q1G)
theorem scale1_ev (n : Int) : evVO E (gatesOf gateS1) (sumsOf sigS) 100 51 [.int .i64 n, .int .i64 (.ofNat 1), .int .i64 (.ofNat 1)] [(0, some true)] = some (.tuple ⟨[.int .i64 (valW (hW n (.ofNat 1)) (lN n (.ofNat 1))), .bool true]⟩, [(g1 (hW n (.ofNat 1)) (lN n (.ofNat 1)), true)]) := by kernel_rfl
theorem mul_one_val {n : Int} (h : inI n = true) : valW (hW n (.ofNat 1)) (lN n (.ofNat 1)) = n := by
  obtain ⟨h1, h2⟩ := inI_iff.1 h
  have e2 : wrapA .u64 (.ofNat 1) = .ofNat 1 := rfl
  have a2 : ltI (.ofNat 1) 0 = false := rfl
  cases n with
  | ofNat k =>
    have hk : k < 9223372036854775808 := by simp at h2; omega
    have e1 : wrapA .u64 (.ofNat k) = .ofNat k := wU (by omega)
    have hl := lN_nat k 1 (.ofNat k) (.ofNat 1) e1 e2
    have hh : hW (.ofNat k) (.ofNat 1) = 0 := by
      unfold hW
      rw [e1, e2, hiE_nat (by omega) (by omega)]
      have a1 : ltI (.ofNat k) 0 = false := by rw [show (0 : Int) = .ofNat 0 from rfl, ltI_nat, decide_eq_false (by omega)]
      rw [a1, a2, Nat.mul_one, Nat.div_eq_of_lt (by omega)]
      rfl
    rw [hh, hl, Nat.mul_one, Nat.mod_eq_of_lt (by omega)]
    unfold valW
    show (0 : Int) * _ + (k : Int) = (k : Int)
    omega
  | negSucc k =>
    have hk : k < 9223372036854775808 := by rw [Int.negSucc_eq] at h1; omega
    have e1 : wrapA .u64 (.negSucc k) = .ofNat (18446744073709551615 - k) := wU_neg (by omega)
    have hl := lN_nat (18446744073709551615 - k) 1 (.negSucc k) (.ofNat 1) e1 e2
    have hh : hW (.negSucc k) (.ofNat 1) = -1 := by
      unfold hW
      rw [e1, e2, hiE_nat (by omega) (by omega)]
      have a1 : ltI (.negSucc k) 0 = true := rfl
      rw [a1, a2, Nat.mul_one, Nat.div_eq_of_lt (by omega)]
      rfl
    rw [hh, hl, Nat.mul_one, Nat.mod_eq_of_lt (by omega)]
    unfold valW
    rw [Int.negSucc_eq]
    omega
def scale1G : List Value → Option (Bool × Value)
  | [.int .i64 n, .int .i64 (.ofNat 1), .int .i64 (.ofNat 1)] => some (inI n, .tuple ⟨[.int .i64 n, .bool true]⟩)
  | _ => none
theorem told_scale1 : AE.Told Tryz.prog 51 (gA scale1G) := by
  refine told_pure hE hmix tolds_S1 ?_
  intro args s v s' hr
  obtain ⟨h1, rfl⟩ := gA_run hr
  unfold scale1G at h1
  split at h1
  · rename_i n
    have hb : inI n = true := congrArg (fun x => match x with | some (b, _) => b | none => false) h1
    have hv : Value.tuple ⟨[.int .i64 n, .bool true]⟩ = v := congrArg (fun x => match x with | some (_, v) => v | none => undefV) h1
    subst hv
    have hm := mul_one_val hb
    have hg : g1 (hW n (.ofNat 1)) (lN n (.ofNat 1)) = true := by
      unfold g1
      rw [hm, hb, blt_iff.2 (lN_lt n (.ofNat 1))]
      rfl
    refine ⟨plain_ib _ _, Less'.refl _, ints_plain (by simp), 100, ?_⟩
    have := evV_of (scale1_ev n) (qcons hg qnil)
    rw [hm] at this
    exact this
  · cases h1
end Go.Proofs.YtinlmdapgejdoaaGreat.sp
end
end

section
/- Three for two: what an amount comes to. -/
noncomputable section
namespace Go.Proofs.YtinlmdapgejdoaaGreat.sp
open AE
set_option linter.unusedSimpArgs false
set_option linter.unusedVariables false
set_option maxRecDepth 10000

def quoWb (h : Int) (lo : Nat) : Value := .tuple ⟨[.int .i64 (qI (quoVb h lo)), .bool (qB (quoVb h lo))]⟩
theorem quoVb_eq (h : Int) (lo : Nat) : quoVb h lo = quoWb h lo := quoX_eq _ _ _ _ _ _ _ _ _ _ _
def quo2G : List Value → Option (Bool × Value)
  | [.agg ⟨[.int .i64 h, .int .u64 (.ofNat lo)]⟩, .int .i64 (.ofNat 2)] => some (Nat.blt lo 18446744073709551616, quoWb h lo)
  | _ => none
theorem told_quo2G : AE.Told Tryz.prog 71 (gA quo2G) := by
  refine told_pure hE hmix tolds_Q2 ?_
  intro args s v s' hr
  obtain ⟨h1, rfl⟩ := gA_run hr
  unfold quo2G at h1
  split at h1
  · rename_i h lo
    have hb : Nat.blt lo 18446744073709551616 = true := congrArg (fun x => match x with | some (b, _) => b | none => false) h1
    have hv : quoWb h lo = v := congrArg (fun x => match x with | some (_, v) => v | none => undefV) h1
    subst hv
    refine ⟨plain_ib _ _, Less'.refl _, fun v hv => ?_, 100, ?_⟩
    · simp only [List.mem_cons, List.not_mem_nil, or_false] at hv
      rcases hv with rfl | rfl
      · exact plain_agg (ints_plain (by simp))
      · exact plain_int _ _
    · rw [← quoVb_eq]
      exact quob_ev h lo (blt_iff.1 hb)
  · cases h1
/-- an amount, three for two -/
def s3 (n : Int) : Int := qI (quoVb (hW n (.ofNat 3)) (lN n (.ofNat 3)))
def k3 (n : Int) : Bool := qB (quoVb (hW n (.ofNat 3)) (lN n (.ofNat 3)))
def scale3A : List Value → AM Value
  | [.int .i64 n, .int .i64 (.ofNat 3), .int .i64 (.ofNat 2)] => .pure (.tuple ⟨[.int .i64 (s3 n), .bool (k3 n)]⟩)
  | _ => .fail
def gateS3 : List (Nat × (List Value → Option (Bool × Value))) := [(71, quo2G)]
theorem tolds_S3 : Tolds Tryz.prog (gated (gatesOf gateS3) (sumsOf sigS)) := tolds_gates (tolds_cons told_mulW tolds_nil) (by
  intro p hp
  simp only [gateS3, List.mem_cons, List.not_mem_nil, or_false] at hp
  subst hp
  exact told_quo2G)
theorem scale3_ev (n : Int) : evVO E (gatesOf gateS3) (sumsOf sigS) 100 51 [.int .i64 n, .int .i64 (.ofNat 3), .int .i64 (.ofNat 2)] [(0, some true)] = some (.tuple ⟨[.int .i64 (s3 n), .bool (k3 n)]⟩, [(Nat.blt (lN n (.ofNat 3)) 18446744073709551616, true)]) := by kernel_rfl
theorem told_scale3 : AE.Told Tryz.prog 51 scale3A := by
  refine told_pure hE hmix tolds_S3 ?_
  intro args s v s' h
  unfold scale3A at h
  split at h
  · rename_i n
    cases h
    exact ⟨plain_ib _ _, Less'.refl _, ints_plain (by simp), 100, evV_of (scale3_ev n) (qcons (blt_iff.2 (lN_lt n (.ofNat 3))) qnil)⟩
  · cases h
/-! what it is -/
theorem div5001 (m : Nat) (h : m ≤ 9223372036854775808 * 10001) : m / 18446744073709551616 ≤ 5001 := by omega
theorem neg_split (A B C D : Nat) (h2 : A + B = D) (h3 : C + 18446744073709551616 = D) (hs : B < 18446744073709551616) : A = C + (18446744073709551616 - B) := by omega
theorem neg_div (C B : Nat) (h0 : 0 < B) (hs : B < 18446744073709551616) : (C * 18446744073709551616 + (18446744073709551616 - B)) / 18446744073709551616 = C ∧ (C * 18446744073709551616 + (18446744073709551616 - B)) % 18446744073709551616 = 18446744073709551616 - B := by
  constructor <;> omega
theorem mul_pos {k p : Nat} (hk : k < 9223372036854775808) (hp : p < 10001) : hW (.ofNat k) (.ofNat p) = .ofNat (k * p / 18446744073709551616) ∧ lN (.ofNat k) (.ofNat p) = k * p % 18446744073709551616 := by
  have e1 : wrapA .u64 (.ofNat k) = .ofNat k := wU (by omega)
  have e2 : wrapA .u64 (.ofNat p) = .ofNat p := wU (by omega)
  refine ⟨?_, lN_nat k p (.ofNat k) (.ofNat p) e1 e2⟩
  unfold hW
  rw [e1, e2, hiE_nat (by omega) (by omega)]
  have a1 : ltI (.ofNat k) 0 = false := by rw [show (0 : Int) = .ofNat 0 from rfl, ltI_nat, decide_eq_false (by omega)]
  have a2 : ltI (.ofNat p) 0 = false := by rw [show (0 : Int) = .ofNat 0 from rfl, ltI_nat, decide_eq_false (by omega)]
  rw [a1, a2]
  have hb : k * p ≤ 9223372036854775808 * 10001 := Nat.mul_le_mul (by omega) (by omega)
  have hd : k * p / 18446744073709551616 ≤ 5001 := div5001 _ hb
  exact wrapI (by show _ ≤ ((k * p / 18446744073709551616 : Nat) : Int); omega) (by show ((k * p / 18446744073709551616 : Nat) : Int) < _; omega)
theorem mul_neg {k p : Nat} (hk : k < 9223372036854775808) (hp : p < 10001) (h1 : 0 < p) (hs : (k + 1) * p < 18446744073709551616) : hW (.negSucc k) (.ofNat p) = .negSucc 0 ∧ lN (.negSucc k) (.ofNat p) = 18446744073709551616 - (k + 1) * p := by
  have e1 : wrapA .u64 (.negSucc k) = .ofNat (18446744073709551615 - k) := wU_neg (by omega)
  have e2 : wrapA .u64 (.ofNat p) = .ofNat p := wU (by omega)
  have hx : (18446744073709551615 - k) * p = (p - 1) * 18446744073709551616 + (18446744073709551616 - (k + 1) * p) := by
    have h2 : (18446744073709551615 - k) * p + (k + 1) * p = p * 18446744073709551616 := by
      rw [← Nat.add_mul, show 18446744073709551615 - k + (k + 1) = 18446744073709551616 by omega, Nat.mul_comm]
    have h3 : (p - 1) * 18446744073709551616 + 18446744073709551616 = p * 18446744073709551616 := by
      obtain ⟨q, rfl⟩ : ∃ q, p = q + 1 := ⟨p - 1, by omega⟩
      rw [Nat.add_sub_cancel, Nat.add_mul, Nat.one_mul]
    exact neg_split _ _ _ _ h2 h3 hs
  have hB : 0 < (k + 1) * p := Nat.mul_pos (by omega) h1
  have hd : (18446744073709551615 - k) * p / 18446744073709551616 = p - 1 := by
    rw [hx]
    exact (neg_div _ _ hB hs).1
  have hm : (18446744073709551615 - k) * p % 18446744073709551616 = 18446744073709551616 - (k + 1) * p := by
    rw [hx]
    exact (neg_div _ _ hB hs).2
  refine ⟨?_, by rw [lN_nat (18446744073709551615 - k) p (.negSucc k) (.ofNat p) e1 e2, hm]⟩
  unfold hW
  rw [e1, e2, hiE_nat (by omega) (by omega), hd]
  have a1 : ltI (.negSucc k) 0 = true := rfl
  have a2 : ltI (.ofNat p) 0 = false := by rw [show (0 : Int) = .ofNat 0 from rfl, ltI_nat, decide_eq_false (by omega)]
  rw [a1, a2]
  have a3 : wrapA .i64 (.ofNat (p - 1)) = .ofNat (p - 1) := wrapI (by show _ ≤ ((p - 1 : Nat) : Int); omega) (by show ((p - 1 : Nat) : Int) < _; omega)
  rw [a3]
  show wrapA .i64 (Int.sub (.ofNat (p - 1)) (.ofNat p)) = _
  have a4 : Int.sub (.ofNat (p - 1)) (.ofNat p) = .negSucc 0 := by
    show ((p - 1 : Nat) : Int) - (p : Int) = _
    rw [Int.negSucc_eq]
    omega
  rw [a4]
  rfl
end Go.Proofs.YtinlmdapgejdoaaGreat.sp
end
end

section
/- Three for two, and halves: plain numbers. -/
noncomputable section
namespace Go.Proofs.YtinlmdapgejdoaaGreat.sp
open AE
set_option linter.unusedSimpArgs false
set_option linter.unusedVariables false
set_option maxRecDepth 10000

/-- half of it, to the even -/
def rn (N : Nat) : Nat := N / 2 + (if N % 4 = 3 then 1 else 0)
theorem C4_is {q : Nat} (hq : q < 18446744073709551616) : C4 q = decide (q % 2 = 1) := by
  unfold C4
  have e1 : modN (maskOf .u64) (.ofNat q) = q := by
    show q % 18446744073709551616 = q
    exact Nat.mod_eq_of_lt hq
  have e2 : modN (maskOf .u64) 1 = 1 := rfl
  rw [e1, e2]
  have e3 : Nat.land q 1 = q % 2 := Nat.and_one_is_mod q
  rw [e3, wU (by omega), show (1 : Int) = .ofNat 1 from rfl, eqI_eq]
  by_cases h : q % 2 = 1
  · rw [h]; rfl
  · rw [decide_eq_false (fun e => h (Int.ofNat.inj e)), decide_eq_false h]
theorem xU_is {q : Nat} (hq : q < 1152921504606846976) : xU q = .ofNat (q + 1) := by
  unfold xU
  show wrapA .u64 (.ofNat (q + 1)) = _
  exact wU (by omega)
def half1 (m : Bool) (n : Nat) : Value := match m with | true => mV (.ofNat n) | false => pV (.ofNat n)
theorem mV_is {n : Nat} (h : n < 1152921504606846976) : mV (.ofNat n) = .tuple ⟨[.int .i64 (-(n : Int)), .bool true]⟩ := by
  unfold mV
  cases n with
  | zero => rfl
  | succ k =>
    rw [neg_back (by omega), Int.negSucc_eq]
    rfl
theorem pV_is {n : Nat} (h : n < 1152921504606846976) : pV (.ofNat n) = .tuple ⟨[.int .i64 (n : Int), .bool true]⟩ := by
  unfold pV
  rw [wrapI (by show _ ≤ (n : Int); omega) (by show (n : Int) < _; omega)]
  rfl
/-- a half, as the quotient finds it -/
theorem quoX_half {c4 m fU fD gU gD : Bool} {q r : Nat} (hr : r = 0 ∨ r = 1) {c2 c3 : Bool} (h2 : c2 = false) (h3 : c3 = decide (r = 1)) (h4 : c4 = decide (q % 2 = 1)) (hq : q < 1152921504606846975)
    (e1 : fU = true) (e2 : fD = true) (e3 : gU = true) (e4 : gD = true) : quoX false true c2 c3 c4 m fU fD gU gD q = half1 m (q + (if r = 1 ∧ q % 2 = 1 then 1 else 0)) := by
  subst h2 h3 h4 e1 e2 e3 e4
  rcases hr with rfl | rfl
  · rw [if_neg (by omega)]
    cases m <;> rfl
  · by_cases h : q % 2 = 1
    · rw [if_pos ⟨rfl, h⟩]
      have hx := xU_is (q := q) (by omega)
      show outX m true true true true (upX true false true (decide (q % 2 = 1))) q = _
      rw [decide_eq_true h]
      cases m with
      | true => show mV (xU q) = mV (.ofNat (q + 1)); rw [hx]
      | false => show pV (xU q) = pV (.ofNat (q + 1)); rw [hx]
    · rw [if_neg (by omega)]
      show outX m true true true true (upX true false true (decide (q % 2 = 1))) q = _
      rw [decide_eq_false h]
      cases m <;> rfl
theorem rn_is (q r : Nat) (hr : r = 0 ∨ r = 1) : rn (2 * q + r) = q + (if r = 1 ∧ q % 2 = 1 then 1 else 0) := by
  unfold rn
  rcases hr with rfl | rfl <;> split <;> split <;> omega
theorem FMU {q : Nat} (hq : q < 1152921504606846975) : FM (xU q) = true := by rw [xU_is (by omega)]; exact FM_of (by omega)
theorem FPU {q : Nat} (hq : q < 1152921504606846975) : FP (xU q) = true := by rw [xU_is (by omega)]; exact FP_of (by omega)
/-- by two -/
theorem quob_is {h : Int} {lo N : Nat} (s1 : szH h lo = 0) (s2 : szL h lo = N) (hN : N < 1099511627776) : quoVb h lo = half1 (szM h) (rn N) := by
  have e1 : qqb h lo = N / 2 := by unfold qqb; rw [s1, s2, Nat.zero_mul, Nat.zero_add]
  have e2 : rrb h lo = N % 2 := by unfold rrb; rw [s1, s2, Nat.zero_mul, Nat.zero_add]
  have f0 : Q0b h lo = false := by unfold Q0b; rw [s1]; rfl
  have hr : N % 2 = 0 ∨ N % 2 = 1 := by omega
  have f2 : C2b (N % 2) = false := by rcases hr with h | h <;> rw [h] <;> rfl
  have f3 : C3b (N % 2) = decide (N % 2 = 1) := by rcases hr with h | h <;> rw [h] <;> rfl
  unfold quoVb
  rw [e1, e2, f0, C1_of (by omega)]
  refine (quoX_half hr f2 f3 (C4_is (by omega)) (by omega) (FMU (by omega)) (FM_of (q := N / 2) (by omega)) (FPU (by omega)) (FP_of (q := N / 2) (by omega))).trans ?_
  rw [← rn_is _ _ hr, Nat.div_add_mod]
/-- five thousand of ten thousand parts -/
theorem quo_half {h : Int} {lo N : Nat} (s1 : szH h lo = 0) (s2 : szL h lo = N * 5000) (hN : N < 1099511627776) : quoV h lo = half1 (szM h) (rn N) := by
  have e1 : qq h lo = N / 2 := by unfold qq; rw [s1, s2, Nat.zero_mul, Nat.zero_add]; omega
  have e2 : rr h lo = (N % 2) * 5000 := by unfold rr; rw [s1, s2, Nat.zero_mul, Nat.zero_add]; omega
  have f0 : Q0 h lo = false := by unfold Q0; rw [s1]; rfl
  have hr : N % 2 = 0 ∨ N % 2 = 1 := by omega
  have f2 : C2 ((N % 2) * 5000) = false := by rcases hr with h | h <;> rw [h] <;> rfl
  have f3 : C3 ((N % 2) * 5000) = decide (N % 2 = 1) := by rcases hr with h | h <;> rw [h] <;> rfl
  unfold quoV
  rw [e1, e2, f0, C1_of (by omega)]
  refine (quoX_half hr f2 f3 (C4_is (by omega)) (by omega) (FMU (by omega)) (FM_of (q := N / 2) (by omega)) (FPU (by omega)) (FP_of (q := N / 2) (by omega))).trans ?_
  rw [← rn_is _ _ hr, Nat.div_add_mod]
theorem half_m {n : Nat} (h : n < 1152921504606846976) : qI (half1 true n) = -(n : Int) ∧ qB (half1 true n) = true := by
  show qI (mV (.ofNat n)) = _ ∧ qB (mV (.ofNat n)) = _
  rw [mV_is h]
  exact ⟨rfl, rfl⟩
theorem half_p {n : Nat} (h : n < 1152921504606846976) : qI (half1 false n) = (n : Int) ∧ qB (half1 false n) = true := by
  show qI (pV (.ofNat n)) = _ ∧ qB (pV (.ofNat n)) = _
  rw [pV_is h]
  exact ⟨rfl, rfl⟩
theorem rn_lt {N : Nat} (h : N < 1099511627776) : rn N < 1152921504606846976 := by unfold rn; split <;> omega
theorem s3_pos {k : Nat} (hk : k < 274877906944) : s3 (k : Int) = (rn (k * 3) : Int) ∧ k3 (k : Int) = true := by
  obtain ⟨e1, e2⟩ := mul_pos (k := k) (p := 3) (by omega) (by omega)
  have hk0 : (k : Int) = .ofNat k := rfl
  rw [hk0]
  unfold s3 k3
  rw [e1, e2, Nat.div_eq_of_lt (by omega), Nat.mod_eq_of_lt (by omega)]
  rw [quob_is (h := .ofNat 0) (lo := k * 3) (N := k * 3) rfl rfl (by omega)]
  exact half_p (rn_lt (by omega))
theorem s3_neg {k : Nat} (hk : k < 274877906943) : s3 (-((k + 1 : Nat) : Int)) = -(rn ((k + 1) * 3) : Int) ∧ k3 (-((k + 1 : Nat) : Int)) = true := by
  obtain ⟨e1, e2⟩ := mul_neg (k := k) (p := 3) (by omega) (by omega) (by omega) (by omega)
  have hk0 : -((k + 1 : Nat) : Int) = .negSucc k := rfl
  rw [hk0]
  unfold s3 k3
  rw [e1, e2]
  obtain ⟨z1, z2⟩ := sz_neg 0 (18446744073709551616 - (k + 1) * 3) (by omega) (by omega)
  rw [if_neg (by omega)] at z1 z2
  rw [quob_is (h := .negSucc 0) (N := (k + 1) * 3) z1 (by rw [z2]; omega) (by omega)]
  exact half_m (rn_lt (by omega))
theorem s5_pos {x : Nat} (hx : x < 1099511627776) : scI (x : Int) (cl 5000) = (rn x : Int) := by
  obtain ⟨e1, e2⟩ := mul_pos (k := x) (p := 5000) (by omega) (by omega)
  have hk0 : (x : Int) = .ofNat x := rfl
  have hc : cl 5000 = .ofNat 5000 := rfl
  rw [hk0, hc]
  unfold scI
  rw [e1, e2, Nat.div_eq_of_lt (by omega), Nat.mod_eq_of_lt (by omega)]
  rw [quo_half (h := .ofNat 0) (lo := x * 5000) (N := x) rfl rfl hx]
  exact (half_p (rn_lt hx)).1
theorem s5_neg {x : Nat} (hx : x < 1099511627775) : scI (-((x + 1 : Nat) : Int)) (cl 5000) = -(rn (x + 1) : Int) := by
  obtain ⟨e1, e2⟩ := mul_neg (k := x) (p := 5000) (by omega) (by omega) (by omega) (by omega)
  have hk0 : -((x + 1 : Nat) : Int) = .negSucc x := rfl
  have hc : cl 5000 = .ofNat 5000 := rfl
  rw [hk0, hc]
  unfold scI
  rw [e1, e2]
  obtain ⟨z1, z2⟩ := sz_neg 0 (18446744073709551616 - (x + 1) * 5000) (by omega) (by omega)
  rw [if_neg (by omega)] at z1 z2
  rw [quo_half (h := .negSucc 0) (N := x + 1) z1 (by rw [z2]; omega) (by omega)]
  exact (half_m (rn_lt (by omega))).1
end Go.Proofs.YtinlmdapgejdoaaGreat.sp
end
end
