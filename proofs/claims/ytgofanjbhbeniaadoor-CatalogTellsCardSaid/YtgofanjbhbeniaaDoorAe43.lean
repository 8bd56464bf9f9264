/- Regions whose order is drawn, and that only read: told op by op. No program is named here. -/
import Derived.Test.YtgofanjbhbeniaaDoorAe42
noncomputable section
namespace Go.AE
set_option linter.unusedVariables false
set_option linter.unusedSimpArgs false

def ReadsOnly (seen : List (Nat × Nat × Nat)) : Prop := ∀ x ∈ seen, x.2.2 = 0
theorem clash_ro : ∀ (seen : List (Nat × Nat × Nat)) (rd b : Nat), ReadsOnly seen → clash rd 0 b seen = false
  | [], rd, b, h => rfl
  | (i, r, w) :: l, rd, b, h => by
    have hw : w = 0 := h (i, r, w) (by simp)
    subst hw
    show (match Nat.beq (Nat.lor (Nat.land 0 (Nat.lor rd 0)) (Nat.land r 0)) 0 with | true => clash rd 0 b l | false => _) = _
    have h1 : Nat.land 0 (Nat.lor rd 0) = 0 := Nat.zero_and _
    have h2 : Nat.land r 0 = 0 := Nat.and_zero _
    rw [h1, h2]
    exact clash_ro l rd b (fun x hx => h x (by simp [hx]))
theorem keep_ro {seen : List (Nat × Nat × Nat)} (i rd : Nat) (h : ReadsOnly seen) : ReadsOnly (keepLog i rd 0 seen) := by
  unfold keepLog
  split
  · exact h
  · intro x hx
    rcases List.mem_cons.1 hx with rfl | hx
    · rfl
    · exact h x hx
section
variable {E : Env} {σ : Sums}
/-- operations that only read -/
inductive RdOps (E : Env) (σ : Sums) (all : List Oper) (H : Tr AObj) (N : Nat) : List Oper → Fr → Fr → Prop
  | nil (fr : Fr) : RdOps E σ all H N [] fr fr
  | cons {o : Oper} {l : List Oper} {fr fr1 fr2 : Fr} : (∃ rd, ∀ m, evOper (evT E σ (m + 1)) E true all o fr ⟨H, N, N, 0, 0⟩ = some (fr1, ⟨H, N, N, rd, 0⟩)) → RdOps E σ all H N l fr1 fr2 → RdOps E σ all H N (o :: l) fr fr2
theorem RdOps.app {all : List Oper} {H : Tr AObj} {N : Nat} {l1 l2 : List Oper} {fr fr1 fr2 : Fr} (h : RdOps E σ all H N l1 fr fr1) (h2 : RdOps E σ all H N l2 fr1 fr2) : RdOps E σ all H N (l1 ++ l2) fr fr2 := by
  induction h with
  | nil fr => exact h2
  | cons ho _ ih => exact .cons ho (ih h2)
theorem drawn_reads {all : List Oper} {H : Tr AObj} {N mk : Nat} {l : List Oper} {fr fr1 : Fr} (h : RdOps E σ all H N l fr fr1) : ∀ (bef : List Nat) (i : Nat) (seen : List (Nat × Nat × Nat)) (rd wr mk1 r1 w1 : Nat), l.length ≤ bef.length → ReadsOnly seen →
    ∃ rd', ∀ m, drawnLoop (evT E σ (m + 1)) E all mk l bef i seen rd wr fr ⟨H, N, mk1, r1, w1⟩ = some (fr1, ⟨H, N, mk, rd', wr⟩) := by
  induction h with
  | nil fr =>
    intro bef i seen rd wr mk1 r1 w1 _ _
    exact ⟨rd, fun m => rfl⟩
  | cons ho _ ih =>
    intro bef i seen rd wr mk1 r1 w1 hb hs
    obtain ⟨ro, ho⟩ := ho
    cases bef with
    | nil => simp at hb
    | cons b bef =>
      have hcr : created N N = 0 := by
        unfold created
        rw [beq_iff.2 rfl]
      have hjw : joinLog mk wr 0 = wr := by
        unfold joinLog
        split
        · rfl
        · exact Nat.or_zero _
      obtain ⟨rd', h2⟩ := ih bef (Nat.succ i) (keepLog i ro 0 seen) (joinLog mk rd ro) wr N ro 0 (by simpa using hb) (keep_ro i ro hs)
      refine ⟨rd', fun m => ?_⟩
      have hl0 : Nat.lor 0 0 = 0 := rfl
      simp only [drawnLoop, force_eq, ho m, clash_ro _ _ _ hs, hcr, hl0, hjw]
      exact h2 m
/-- a region whose order is drawn, and that only reads -/
theorem go_drawn_reads {id : Nat} {ops : Array Oper} {bef : List Nat} {H : Tr AObj} {N mk rd wr : Nat} {fr fr1 : Fr} {Q : Ex → Fr → S → Prop} (hs : stat ops.toList = some bef) (hb : ops.toList.length ≤ bef.length) (hr : RdOps E σ ops.toList H N ops.toList fr fr1) (hq : ∀ rd', Q .normal fr1 ⟨H, N, mk, rd', wr⟩) :
    GoC E σ (.region id ops true) fr ⟨H, N, mk, rd, wr⟩ Q := by
  obtain ⟨rd', h⟩ := drawn_reads (mk := mk) hr bef 0 [] rd wr mk rd wr hb (fun x hx => by cases hx)
  refine ⟨_, _, _, hq rd', 2, fun n hn => ?_⟩
  obtain ⟨m, rfl⟩ : ∃ m, n = m + 1 + 1 := ⟨n - 2, by omega⟩
  show evRegion (evT E σ (m + 1)) E ops.toList true fr ⟨H, N, mk, rd, wr⟩ = _
  unfold evRegion
  simp only [hs, h m]
  rfl
end
end Go.AE
