/- Calls over the named memory are calls of the machine: what is deferred, functions, rounds. No program is named here. -/
import Derived.Test.YtgofanjbhbeniaaDoorAe22
import Derived.Defers
noncomputable section
namespace Go.AE
set_option linter.unusedVariables false
set_option linter.unusedSimpArgs false

theorem Tr.ofFrom_get {α : Type} : ∀ (l : List α) (i : Nat) (t : Tr α) (m : Nat) (v : α), i + l.length ≤ Tr.wide → (Tr.ofFrom l i t).get m = some v → (i ≤ m ∧ l[m - i]? = some v) ∨ t.get m = some v
  | [], i, t, m, v, hw, h => .inr h
  | a :: l, i, t, m, v, hw, h => by
    simp only [List.length_cons] at hw
    rcases Tr.ofFrom_get l (i + 1) (t.put i (some a)) m v (by omega) h with ⟨h1, h2⟩ | h1
    · left
      refine ⟨by omega, ?_⟩
      have : m - i = (m - (i + 1)) + 1 := by omega
      rw [this]
      simpa using h2
    · rw [Tr.get_put _ _ _ _ (by omega)] at h1
      split at h1
      · rename_i e
        subst e
        exact .inl ⟨Nat.le_refl _, by simpa using h1⟩
      · exact .inr h1
theorem Tr.ofList_get {α : Type} {l : List α} {m : Nat} {v : α} (hw : l.length ≤ Tr.wide) (h : (Tr.ofList l).get m = some v) : l[m]? = some v := by
  rcases Tr.ofFrom_get l 0 .nil m v (by omega) h with ⟨_, h⟩ | h
  · simpa using h
  · cases m <;> cases h

section
variable {P : Program} {E : Env} {q : Free} {ρ : Ren} {s s' : S} {w : World} {fr fr' : Fr} {rc : Rec} {a : Act} {b : Frame}

theorem step_collected {a : Act} {T : List Item} {cs : List Frame} {blk : Nat} {ar : Array Value} {ds more : List Deferred} {w1 : World} (hd : a.defers = ⟨.collected blk, ar⟩ :: ds)
    (h : (Instr.takeDeferred blk).run P w = .ok more w1) :
    step P (lone { b.atR a T with mode := .returning } cs w) = .next (lone { b.atR ⟨a.tmps, more ++ ds⟩ T with mode := .returning } cs w1) :=
  step_lone_go (by simp [stepG, unwind, Frame.atR, hd, Sem.runT_eq, h, GStep.bare_after])

theorem step_deferred {a : Act} {T : List Item} {cs : List Frame} {fv : Fn} {cap args as' : Array Value} {ds : List Deferred} {f : FuncId} {w1 : World} (hd : a.defers = ⟨.fn fv cap, as'⟩ :: ds)
    (hi : (invoke (.fn fv cap) as').run P w = .ok (.enter f args) w1) :
    step P (lone { b.atR a T with mode := .returning } cs w) = .next (lone (Frame.enter P f args .deferred) ({ b.atR ⟨a.tmps, ds⟩ T with mode := .returning } :: cs) w1) :=
  step_lone_go (by simp [stepG, unwind, callDeferred, Frame.atR, hd, hi])

theorem leave_sim (hE : EnvOK P E) (hL : ∀ t, Loc (rc t)) (hF : EnterSim P rc) (hV : LeaveSim P rc) : LeaveSim P (fun t s => match t with | .leave fr => evLeave rc E fr s | t => none) := by
  intro q ρ fr s v s' w a b h hm hl hR hA hb T cs
  simp only at h
  unfold evLeave at h
  have hD := hA.2.1
  split at h
  · rename_i hdf
    rw [hdf] at hD
    split at h
    · cases h
    · rename_i g hg
      obtain ⟨fn, hfn, rfl⟩ := hE.fn _ _ hg
      split at h
      · cases h
      · rename_i v0 s0 hrun
        cases h
        obtain ⟨v', h1, h2, h3⟩ := results_sim hE hR hA hrun
        refine ⟨ρ, v', w, a, h3, Evo.refl _ _, h2, ?_, .refl _ _, fn, by rw [hb]; exact hfn, h1⟩
        cases hD' : a.defers with
        | nil => rfl
        | cons x y => rw [hD'] at hD; cases hD
  · rename_i d ds hdf
    rw [hdf] at hD
    cases hD' : a.defers with
    | nil => rw [hD'] at hD; cases hD
    | cons d' ds' =>
      rw [hD'] at hD
      cases hD with
      | cons hd hds =>
      split at h
      · rename_i blk hblk
        split at h
        · cases h
        · rename_i more s1 htake
          have A1 := Loc.am _ _ _ _ htake hm
          have hm1 : s1.mark ≤ s1.next := by rw [A1.mark]; exact Nat.le_trans hm A1.next
          cases hd with
          | fn x y => cases hblk
          | collected hr =>
            cases hblk
            obtain ⟨more', w1, g1, g2, g3, g4⟩ := take_sim hR hr htake
            have hA1 : ActR ρ ⟨fr.fn, fr.tmps, fr.n, more ++ ds, fr.round⟩ ⟨a.tmps, more' ++ ds'⟩ := ⟨hA.1, g2.append hds, hA.2.2⟩
            obtain ⟨ρ2, v', w2, a2, h1, h2, h3, h4, h5, h6⟩ := hV q ρ _ _ _ _ w1 _ b h hm1 hl g3 hA1 hb T cs
            exact ⟨ρ2, v', w2, a2, h1, g4.trans h2, h3, h4, .head (step_collected hD' g1) h5, h6⟩
      · rename_i fn captured htar
        split at h
        · cases h
        · rename_i n s1 hcall
          split at h
          · rename_i f args
            split at h
            · rename_i v1 s2 hrc
              have A1 := Loc.am _ _ _ _ hcall hm
              have hm1 : s1.mark ≤ s1.next := by rw [A1.mark]; exact Nat.le_trans hm A1.next
              have A2 := hL _ _ _ _ hrc hm1
              have hm2 : s2.mark ≤ s2.next := by rw [A2.mark]; exact Nat.le_trans hm1 A2.next
              have A3 := hL _ _ _ _ h hm2
              cases hd with
              | collected hr => cases htar
              | fn hc ha =>
                rename_i g c c' as as'
                cases htar
                obtain ⟨ρ1, nx', w1, f1, f2, f3, f4⟩ := targetA_sound hE hR (.inl ⟨g, rfl, rfl⟩) hc ha hcall
                cases f4 with
                | enter hargs =>
                  rename_i args'
                  obtain ⟨ρ2, v2, w2, fr2, g1, g2, g3, g4, g5, g6, g7, g8, g9⟩ := hF q ρ1 f args args' s1 v1 s2 w1 .deferred hrc hm1 (Nat.le_trans A3.next hl) f2 hargs ({ b.atR ⟨a.tmps, ds'⟩ T with mode := .returning } :: cs)
                  have hs2 := step_going_returned (P := P) (c := { b.atR ⟨a.tmps, ds'⟩ T with mode := .returning }) (cs := cs) (v := v2) (w := w2) g8 ⟨g6, g7, g9⟩
                  have hle := f3.sub.trans g2.sub
                  have hA2 := hA.mono hle
                  have hA3 : ActR ρ2 ⟨fr.fn, fr.tmps, fr.n, ds, fr.round⟩ ⟨a.tmps, ds'⟩ := ⟨hA2.1, hds.mono hle, hA2.2.2⟩
                  obtain ⟨ρ3, v3, w3, a3, h1, h2, h3, h4, h5, h6⟩ := hV q ρ2 _ _ _ _ w2 _ b h hm2 hl g1 hA3 hb T cs
                  exact ⟨ρ3, v3, w3, a3, h1, (f3.trans g2).trans h2, h3, h4, .head (step_deferred hD' f1) (Steps.trans g4 (.head hs2 h5)), h6⟩
            · cases h
          · cases h
      · cases h

theorem fn_sim (hE : EnvOK P E) (hL : ∀ t, Loc (rc t)) (hC : CodeSim P rc) (hV : LeaveSim P rc) : EnterSim P (fun t s => match t with | .next n => evNext rc E n s | t => none) := by
  intro q ρ f args args' s v s' w kind h hm hl hR ha cs
  simp only [evNext] at h
  split at h
  · cases h
  · rename_i g hg
    obtain ⟨fn, hfn, rfl⟩ := hE.fn _ _ hg
    split at h
    · cases h
    · rename_i c hc
      have hbody : fn.body = some c := by
        simp only [FI.of] at hc
        split at hc
        · cases hc
        · split at hc
          · cases hc
          · rename_i e _; rw [e]; exact hc
      unfold evEnter at h
      split at h
      · cases h
      · rename_i hn
        have hn := ble_iff.1 hn
        simp only at hn
        let b : Frame := { (default : Frame) with fn := f, kind := kind, roundOf := none }
        have hlen := ha.length
        have hb0 : Frame.enter P f ⟨args'⟩ kind = b.atR ⟨⟨args'⟩ ++ Array.replicate (fn.ntmps - args'.length) undef, []⟩ [.code c] := by
          simp [Frame.enter, Frame.atR, hfn, hbody, b]
        have hA : ActR ρ ⟨f, Tr.ofList args, Nat.add args.length (Nat.sub (FI.of fn).ntmps args.length), [], none⟩ ⟨⟨args'⟩ ++ Array.replicate (fn.ntmps - args'.length) undef, []⟩ := by
          refine ⟨⟨?_, ?_⟩, .nil, hn⟩
          · simp only [Array.size_append, Array.size_replicate]
            rw [hlen]; rfl
          · intro i v hi
            have hw : args.length ≤ Tr.wide := by
              have := name_wide (n := args.length) (Nat.le_trans (Nat.le_add_right _ _) hn)
              omega
            obtain ⟨v', h1, h2⟩ := ha.get i v (Tr.ofList_get hw hi)
            refine ⟨v', ?_, h2⟩
            have hlt : i < args'.length := (List.getElem?_eq_some_iff.1 h1).1
            rw [Array.getElem?_append_left (by simpa using hlt)]
            simpa using h1
        have hB : BaseR ρ ⟨f, Tr.ofList args, Nat.add args.length (Nat.sub (FI.of fn).ntmps args.length), [], none⟩ b := ⟨rfl, rfl, fun h => absurd rfl h⟩
        split at h
        · rename_i fr1 s1 hrc
          have A1 := hL _ _ _ _ hrc hm
          have hm1 : s1.mark ≤ s1.next := by rw [A1.mark]; exact Nat.le_trans hm A1.next
          have A2 := hL _ _ _ _ h hm1
          obtain ⟨ρ1, a1, w1, h1, h2, h3, h4, h5, h6⟩ := hC q ρ _ _ _ _ _ _ w _ b hrc hm (Nat.le_trans A2.next hl) hR hA hB [] cs
          obtain ⟨ρ2, v', w2, a2, g1, g2, g3, g4, g5, fn', g6, g7⟩ := hV q ρ1 _ _ _ _ w1 _ b h hm1 hl h1 h3 (show f = fr1.fn by rw [h4]) [] cs
          refine ⟨ρ2, v', w2, { b.atR a2 [] with mode := .returning }, g1, h2.trans g2, g3, ?_, rfl, rfl, g4, rfl, fn', g6, g7⟩
          rw [hb0]
          exact Steps.trans h6 (.head (stepR_end rfl) g5)
        · rename_i fr1 s1 hrc
          have A1 := hL _ _ _ _ hrc hm
          have hm1 : s1.mark ≤ s1.next := by rw [A1.mark]; exact Nat.le_trans hm A1.next
          have A2 := hL _ _ _ _ h hm1
          obtain ⟨ρ1, a1, w1, h1, h2, h3, h4, h5, T, h6⟩ := hC q ρ _ _ _ _ _ _ w _ b hrc hm (Nat.le_trans A2.next hl) hR hA hB [] cs
          obtain ⟨ρ2, v', w2, a2, g1, g2, g3, g4, g5, fn', g6, g7⟩ := hV q ρ1 _ _ _ _ w1 _ b h hm1 hl h1 h3 (show f = fr1.fn by rw [h4]) (.code .ret :: T) cs
          refine ⟨ρ2, v', w2, { b.atR a2 (.code .ret :: T) with mode := .returning }, g1, h2.trans g2, g3, ?_, rfl, rfl, g4, rfl, fn', g6, g7⟩
          rw [hb0]
          exact Steps.trans h6 (.head (stepR_ret rfl) g5)
        · cases h

theorem next_sim (hE : EnvOK P E) (hL : ∀ t, Loc (rc t)) (hC : CodeSim P rc) (hV : LeaveSim P rc) : NextSim P (fun t s => match t with | .next n => evNext rc E n s | t => none) := by
  intro q ρ n n' s v s' w F h hm hl hR hnr hF c cs
  cases hnr with
  | value _ => cases hF
  | skip => cases hF
  | defer _ => cases hF
  | enter ha =>
    cases hF
    obtain ⟨ρ', v', w', fr', h1, h2, h3, h4, h5, h6, h7, h8, fn, h9, h10⟩ := fn_sim hE hL hC hV q ρ _ _ _ s v s' w .normal h hm hl hR ha (c :: cs)
    refine ⟨ρ', v', w', h1, h2, h3, Steps.trans h4 (.one (step_leave_returned ⟨h6, h7, h8, fn, h9, h10⟩))⟩
  | round hr ht hnn =>
    rename_i l bb base ex fn t n A as bd
    cases hF
    simp only [evNext] at h
    unfold evRound at h
    split at h
    · rename_i fr1 s1 hrc
      unfold evBody at h
      split at h
      · cases h
      · rename_i u s2 hbeg
        split at h
        · rename_i x fr2 s3 hrc2
          unfold evEnd at h
          split at h
          · rename_i hdf
            split at h
            · cases h
            · rename_i u2 s4 hend
              cases h
              have A1 := hL _ _ _ _ hrc hm
              have hm1 : s1.mark ≤ s1.next := by rw [A1.mark]; exact Nat.le_trans hm A1.next
              have A2 := Loc.am _ _ _ _ hbeg hm1
              have hm2 : s2.mark ≤ s2.next := by rw [A2.mark]; exact Nat.le_trans hm1 A2.next
              have A3 := hL _ _ _ _ hrc2 hm2
              have hm3 : s3.mark ≤ s3.next := by rw [A3.mark]; exact Nat.le_trans hm2 A3.next
              have A4 := Loc.am _ _ _ _ hend hm3
              let b : Frame := { (default : Frame) with fn := fn, kind := .normal, roundOf := some bb }
              have hb0 : Frame.round bb fn A as bd .normal = b.atR ⟨A, []⟩ [.code as, .beginRound, .code bd] := by
                simp [Frame.round, Frame.atR, b]
              have hA : ActR ρ ⟨fn, t, n, [], some l⟩ ⟨A, []⟩ := ⟨ht, .nil, hnn⟩
              have hB : BaseR ρ ⟨fn, t, n, [], some l⟩ b := ⟨rfl, ⟨bb, base, ex, rfl, hr⟩, fun _ => rfl⟩
              obtain ⟨ρ1, a1, w1, b1, b2, b3, b4, b5, b6⟩ := hC q ρ _ _ _ _ _ _ w _ b hrc hm (Nat.le_trans A2.next (Nat.le_trans A3.next (Nat.le_trans A4.next hl))) hR hA hB [.beginRound, .code bd] (c :: cs)
              have hr1 := b2.sub _ _ hr
              obtain ⟨w2, c1, c2, c3⟩ := begin_sim b1 hr1 hbeg
              obtain ⟨ρ3, a3, w3, d1, d2, d3, d4, d5, d6⟩ := hC q ρ1 _ _ _ _ _ _ w2 _ b hrc2 hm2 (Nat.le_trans A4.next hl) c2 b3 ((hB.mono b2.sub).of b4 b5) [] (c :: cs)
              have hr3 := d2.sub _ _ hr1
              obtain ⟨w4, e1, e2, e3⟩ := end_sim d1 hr3 hend
              have hst : Steps P (lone (Frame.round bb fn A as bd .normal) (c :: cs) w) (lone (b.atR a1 [.code bd]) (c :: cs) w2) := by
                rw [hb0]
                exact Steps.trans b6 (.one (stepR_beginRound rfl c1))
              refine ⟨ρ3, .bool (exGoes x), w4, e2, ((b2.trans c3).trans d2).trans e3, .flat rfl, Steps.trans hst ?_⟩
              cases x with
              | normal => exact Steps.trans d6 (.one (stepR_round_end rfl rfl e1))
              | ret =>
                obtain ⟨T, d6⟩ := d6
                exact Steps.trans d6 (.one (stepR_round_ret rfl rfl e1))
              | exit id =>
                obtain ⟨T, hT, d6⟩ := d6
                exact Steps.trans d6 (.one (stepR_round_exit rfl rfl hT e1))
          · cases h
        · cases h
    · cases h

/-- **what an evaluation says, the machine does** -/
theorem ev_sim (hE : EnvOK P E) (hmix : P.follows .mixedOrders = true) : ∀ f, CodeSim P (ev E f) ∧ NextSim P (ev E f) ∧ EnterSim P (ev E f) ∧ LeaveSim P (ev E f)
  | 0 => ⟨fun _ _ _ _ _ _ _ _ _ _ _ h => by simp [ev] at h, fun _ _ _ _ _ _ _ _ _ h => by simp [ev] at h, fun _ _ _ _ _ _ _ _ _ _ h => by simp [ev] at h, fun _ _ _ _ _ _ _ _ _ h => by simp [ev] at h⟩
  | f + 1 => by
    obtain ⟨hC, hN, hF, hV⟩ := ev_sim hE hmix f
    have hL := loc_ev E f
    exact ⟨code_sim hE hmix hL hC hN, next_sim hE hL hC hV, fn_sim hE hL hC hV, leave_sim hE hL hF hV⟩
end
end Go.AE
