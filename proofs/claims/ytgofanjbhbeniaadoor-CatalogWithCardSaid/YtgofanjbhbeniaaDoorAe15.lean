/- A run over the named memory depends on the names alone that it touches: all of it. No program is named here. -/
import Derived.Test.YtgofanjbhbeniaaDoorAe14
noncomputable section
namespace Go.AE
set_option linter.unusedVariables false
set_option linter.unusedSimpArgs false

section
variable {E : Env} {rc : Rec}

theorem loc_then {F : S → Option (Out × S)} (hf : Loc F) (G : Out → S → Option (Out × S)) (hg : ∀ o, Loc (G o)) {H : S → Option (Out × S)}
    (h : ∀ s, H s = match F s with | none => none | some (o, s) => G o s) : Loc H :=
  Loc.congr (fun s => by rw [h s]; cases F s with | none => rfl | some p => rfl) (Loc.bind hf hg)
theorem loc_amThen {α : Type} (t : AM α) (G : α → S → Option (Out × S)) (hg : ∀ o, Loc (G o)) {H : S → Option (Out × S)}
    (h : ∀ s, H s = match t.run s with | none => none | some (o, s) => G o s) : Loc H :=
  Loc.congr (fun s => by rw [h s]; cases t.run s with | none => rfl | some p => rfl) (Loc.bind (Loc.am t) hg)

theorem loc_outFr {F : S → Option (Fr × S)} (hf : Loc F) : Loc (fun s => AE.outFr (F s)) :=
  Loc.congr (fun s => by
    cases F s with
    | none => rfl
    | some p => rfl) (Loc.bind hf (G := fun a s => some (Out.fr .normal a, s)) (fun a => Loc.pure _))

theorem loc_region (hrc : ∀ t, Loc (rc t)) (ops : List Oper) (d : Bool) (fr : Fr) : Loc (evRegion rc E ops d fr) := by
  cases d with
  | false => exact loc_outFr (Loc.ops hrc ops ops fr)
  | true =>
    unfold evRegion
    cases stat ops with
    | none => exact Loc.none
    | some bef => exact loc_outFr (Loc.drawn hrc ops ops bef 0 [] fr)

theorem loc_fin (hrc : ∀ t, Loc (rc t)) (l : Nat) (fr : Fr) : Loc (evFin rc l fr) :=
  loc_amThen (finM l) (fun r s => match r with | none => some (.fr .normal fr, s) | some c => rc (.code c fr) s)
    (fun r => by cases r with
      | none => exact Loc.pure _
      | some c => exact hrc _)
    (fun s => by unfold evFin; cases (finM l).run s with
      | none => rfl
      | some p => obtain ⟨r, s⟩ := p; cases r <;> rfl)

theorem loc_call (hrc : ∀ t, Loc (rc t)) (n : ANext) (l : Nat) (fr : Fr) : Loc (evCall rc n l fr) := by
  cases n with
  | enter f args =>
    refine loc_then (hrc (.next (.enter f args))) (fun o s => match o with
      | .val _ => evFin rc l fr s
      | .fr _ _ => none) ?_ ?_
    · intro o; cases o with
      | val _ => exact loc_fin hrc _ _
      | fr _ _ => exact Loc.none
    · intro s
      simp only [evCall]
      cases rc (.next (.enter f args)) s with
      | none => rfl
      | some p => obtain ⟨o, s⟩ := p; cases o <;> rfl
  | _ => exact Loc.none

theorem loc_range (hrc : ∀ t, Loc (rc t)) (f : Operand) (ps : Array Tmp) (a b : Code) (fr : Fr) : Loc (evRange rc E f ps a b fr) := by
  refine loc_amThen (enterM fr ps.toList a b) (fun x s => match (rangeCall E (fr.ev f) x.1).run s with
    | none => none
    | some (n, s) => evCall rc n x.1 ⟨fr.fn, fr.tmps, fr.n, x.2 ++ fr.defers, fr.round⟩ s) ?_ ?_
  · intro x
    refine loc_amThen (rangeCall E (fr.ev f) x.1) (fun n s => evCall rc n x.1 ⟨fr.fn, fr.tmps, fr.n, x.2 ++ fr.defers, fr.round⟩ s) ?_ ?_
    · intro n; exact loc_call hrc _ _ _
    · intro s
      cases (rangeCall E (fr.ev f) x.1).run s with
      | none => rfl
      | some p => rfl
  · intro s
    unfold evRange
    cases (enterM fr ps.toList a b).run s with
    | none => rfl
    | some p => obtain ⟨⟨l, mk⟩, s⟩ := p; rfl

theorem loc_end_ (l : Nat) (x : Ex) (fr : Fr) : Loc (evEnd l x fr) := by
  unfold evEnd
  cases fr.defers with
  | cons => exact Loc.none
  | nil =>
    refine loc_amThen (endM l x) (fun _ s => some (.val (.bool (exGoes x)), s)) (fun _ => Loc.pure _) ?_
    intro s
    simp only
    cases (endM l x).run s with
    | none => rfl
    | some p => rfl

theorem loc_body (hrc : ∀ t, Loc (rc t)) (l : Nat) (body : Code) (fr : Fr) : Loc (evBody rc l body fr) := by
  refine loc_amThen (beginM l) (fun _ s => match rc (.code body fr) s with
    | some (.fr x fr, s) => evEnd l x fr s
    | _ => none) ?_ ?_
  · intro _
    refine loc_then (hrc (.code body fr)) (fun o s => match o with
      | .fr x fr => evEnd l x fr s
      | .val _ => none) ?_ ?_
    · intro o; cases o with
      | fr x fr => exact loc_end_ _ _ _
      | val _ => exact Loc.none
    · intro s
      cases rc (.code body fr) s with
      | none => rfl
      | some p => obtain ⟨o, s⟩ := p; cases o <;> rfl
  · intro s
    unfold evBody
    cases (beginM l).run s with
    | none => rfl
    | some p => rfl

theorem loc_round (hrc : ∀ t, Loc (rc t)) (l : Nat) (fn : FuncId) (tmps : Tr Value) (n : Nat) (a b : Code) : Loc (evRound rc l fn tmps n a b) := by
  refine loc_then (hrc (.code a ⟨fn, tmps, n, [], some l⟩)) (fun o s => match o with
    | .fr .normal fr => evBody rc l b fr s
    | _ => none) ?_ ?_
  · intro o
    cases o with
    | val _ => exact Loc.none
    | fr x fr => cases x with
      | normal => exact loc_body hrc _ _ _
      | _ => exact Loc.none
  · intro s
    unfold evRound
    cases rc (.code a ⟨fn, tmps, n, [], some l⟩) s with
    | none => rfl
    | some p => obtain ⟨o, s⟩ := p; cases o with
      | val _ => rfl
      | fr x fr => cases x <;> rfl

theorem loc_leave (hrc : ∀ t, Loc (rc t)) (fr : Fr) : Loc (evLeave rc E fr) := by
  unfold evLeave
  cases fr.defers with
  | nil =>
    simp only
    cases E.fn.get fr.fn with
    | none => exact Loc.none
    | some fn =>
      refine loc_amThen (resultsM E fr fn) (fun v s => some (.val v, s)) (fun _ => Loc.pure _) ?_
      intro s
      simp only
      cases (resultsM E fr fn).run s with
      | none => rfl
      | some p => rfl
  | cons d ds =>
    simp only
    cases hd : d.target with
    | collected b =>
      refine loc_amThen (takeM b) (fun more s => rc (.leave ⟨fr.fn, fr.tmps, fr.n, more ++ ds, fr.round⟩) s) (fun _ => hrc _) ?_
      intro s
      simp only
      cases (takeM b).run s with
      | none => rfl
      | some p => rfl
    | fn fn captured =>
      obtain ⟨captured⟩ := captured
      refine loc_amThen (targetA E fn captured d.args.toList) (fun n s => match n with
        | .enter f args => match rc (.next (.enter f args)) s with
          | some (.val _, s) => rc (.leave ⟨fr.fn, fr.tmps, fr.n, ds, fr.round⟩) s
          | _ => none
        | _ => none) ?_ ?_
      · intro n
        cases n with
        | enter f args =>
          refine loc_then (hrc (.next (.enter f args))) (fun o s => match o with
            | .val _ => rc (.leave ⟨fr.fn, fr.tmps, fr.n, ds, fr.round⟩) s
            | .fr _ _ => none) ?_ ?_
          · intro o; cases o with
            | val _ => exact hrc _
            | fr _ _ => exact Loc.none
          · intro s
            simp only
            cases rc (.next (.enter f args)) s with
            | none => rfl
            | some p => obtain ⟨o, s⟩ := p; cases o <;> rfl
        | _ => exact Loc.none
      · intro s
        simp only
        cases (targetA E fn captured d.args.toList).run s with
        | none => rfl
        | some p => obtain ⟨n, s⟩ := p; cases n <;> rfl
    | _ => exact Loc.none

theorem loc_enter (hrc : ∀ t, Loc (rc t)) (c : Code) (fr : Fr) : Loc (evEnter rc c fr) := by
  unfold evEnter
  cases Nat.ble fr.n lastName with
  | false => exact Loc.none
  | true =>
    refine loc_then (hrc (.code c fr)) (fun o s => match o with
      | .fr .normal fr => rc (.leave fr) s
      | .fr .ret fr => rc (.leave fr) s
      | _ => none) ?_ ?_
    · intro o
      cases o with
      | val _ => exact Loc.none
      | fr x fr => cases x with
        | normal => exact hrc _
        | ret => exact hrc _
        | exit _ => exact Loc.none
    · intro s
      simp only
      cases rc (.code c fr) s with
      | none => rfl
      | some p => obtain ⟨o, s⟩ := p; cases o with
        | val _ => rfl
        | fr x fr => cases x <;> rfl

theorem loc_next (hrc : ∀ t, Loc (rc t)) (n : ANext) : Loc (evNext rc E n) := by
  cases n with
  | enter f args =>
    unfold evNext
    simp only
    cases E.fn.get f with
    | none => exact Loc.none
    | some fn =>
      simp only
      cases fn.body with
      | none => exact Loc.none
      | some c => exact loc_enter hrc _ _
  | round l fn t n a b => exact loc_round hrc l fn t n a b
  | _ => exact Loc.none

theorem loc_code (hrc : ∀ t, Loc (rc t)) (c : Code) (fr : Fr) : Loc (evCode rc E c fr) := by
  cases c with
  | skip => exact Loc.pure _
  | label _ => exact Loc.pure _
  | seq a b =>
    refine loc_then (hrc (.code a fr)) (fun o s => match o with
      | .fr .normal fr => rc (.code b fr) s
      | o => some (o, s)) ?_ ?_
    · intro o
      cases o with
      | val _ => exact Loc.pure _
      | fr x fr => cases x with
        | normal => exact hrc _
        | _ => exact Loc.pure _
    · intro s
      unfold evCode
      simp only
      cases rc (.code a fr) s with
      | none => rfl
      | some p => obtain ⟨o, s⟩ := p; cases o with
        | val _ => rfl
        | fr x fr => cases x <;> rfl
  | cond c a b =>
    unfold evCode
    simp only
    cases fr.ev c with
    | none => exact Loc.none
    | some v =>
      cases v with
      | bool t => cases t with
        | true => exact hrc _
        | false => exact hrc _
      | _ => exact Loc.none
  | block id body =>
    refine loc_then (hrc (.code body fr)) (fun o s => match o with
      | .fr (.exit i) fr => match Nat.beq i id with
        | true => some (.fr .normal fr, s)
        | false => some (.fr (.exit i) fr, s)
      | o => some (o, s)) ?_ ?_
    · intro o
      cases o with
      | val _ => exact Loc.pure _
      | fr x fr => cases x with
        | exit i => simp only; cases Nat.beq i id <;> exact Loc.pure _
        | _ => exact Loc.pure _
    · intro s
      unfold evCode
      simp only
      cases rc (.code body fr) s with
      | none => rfl
      | some p => obtain ⟨o, s⟩ := p; cases o with
        | val _ => rfl
        | fr x fr => cases x <;> rfl
  | loop body =>
    refine loc_then (hrc (.code body fr)) (fun o s => match o with
      | .fr .normal fr => rc (.code (.loop body) fr) s
      | o => some (o, s)) ?_ ?_
    · intro o
      cases o with
      | val _ => exact Loc.pure _
      | fr x fr => cases x with
        | normal => exact hrc _
        | _ => exact Loc.pure _
    · intro s
      unfold evCode
      simp only
      cases rc (.code body fr) s with
      | none => rfl
      | some p => obtain ⟨o, s⟩ := p; cases o with
        | val _ => rfl
        | fr x fr => cases x <;> rfl
  | exit id => exact Loc.pure _
  | ret => exact Loc.pure _
  | region id ops d => exact loc_region hrc _ _ _
  | rangeFunc f ps a b => exact loc_range hrc _ _ _ _ _
  | _ => exact Loc.none
end

theorem loc_ev (E : Env) : ∀ (f : Nat) (t : Task), Loc (ev E f t)
  | 0, t => Loc.none
  | f + 1, t => by
    cases t with
    | code c fr => exact loc_code (loc_ev E f) c fr
    | next n => exact loc_next (loc_ev E f) n
    | leave fr => exact loc_leave (loc_ev E f) fr
end Go.AE
