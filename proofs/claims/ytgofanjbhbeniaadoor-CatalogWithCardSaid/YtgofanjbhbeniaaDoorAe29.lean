/- The evaluator that costs less: regions, code, and that it says the same. No program is named here. -/
import Derived.Test.YtgofanjbhbeniaaDoorAe28
noncomputable section
namespace Go.AE
set_option linter.unusedVariables false
set_option linter.unusedSimpArgs false

abbrev RunO := Rec → Fr → S → Option (Fr × S)
/-- is it wanted? -/
def wantV (want : Bool) (v : Value) (y n : Option (Fr × S)) : Option (Fr × S) :=
  Value.casesOn (motive_1 := fun _ => Option (Fr × S)) v (fun b => ifB want (ifB b y n) (ifB b n y)) (fun _ _ => none) (fun _ _ => none) (fun _ _ _ => none) (fun _ => none) (fun _ => none) (fun _ _ _ => none) (fun _ => none) (fun _ => none) (fun _ _ _ => none) none (fun _ _ => none) none (fun _ => none)
    (fun vs => List.rec (motive := fun _ => Option (Fr × S)) n (fun _ _ _ => none) vs.toList)
def opB (E : Env) (dr : Bool) (all : List Oper) (o : Oper) : Box RunO := bx (putB o.dst) fun k => bx (runB E dr o.dst k o.op) fun r => match o.guard with
  | none => ⟨r⟩
  | some (j, want) => match nth all j with
    | none => ⟨fun _ _ _ => none⟩
    | some p => match p.dst with
      | none => ⟨fun _ _ _ => none⟩
      | some d => bx (selB 10 d) fun g => ⟨fun rc fr s => oc (g fr.tmps) fun v => wantV want v (r rc fr s) (k undefV fr s)⟩

theorem evOper_runE (rc : Rec) (E : Env) (dr : Bool) (all : List Oper) (o : Oper) (fr : Fr) (s : S) :
    evOper rc E dr all o fr s = match wantedA all fr o with | none => none | some false => onFr (fr.put o.dst undefV) s | some true => runE rc E dr o fr s := rfl
theorem opB_eq (rc : Rec) (E : Env) (dr : Bool) (all : List Oper) (o : Oper) (fr : Fr) (s : S) : (opB E dr all o).un rc fr s = evOper rc E dr all o fr s := by
  rw [evOper_runE]
  unfold opB wantedA
  simp only [bx_eq]
  cases o.guard with
  | none => exact runB_eq rc E dr o fr s
  | some p =>
    obtain ⟨j, want⟩ := p
    simp only
    cases nth all j with
    | none => rfl
    | some p =>
      simp only
      cases p.dst with
      | none => rfl
      | some d =>
        simp only [un_mk, selB_eq]
        cases fr.tmps.get d with
        | none => rfl
        | some v =>
          simp only [oc]
          cases v with
          | bool b =>
            cases b <;> cases want <;> simp only [wantV, ifB] <;> first | exact runB_eq rc E dr o fr s | exact putB_eq _ _ _ _
          | tuple vs =>
            obtain ⟨l⟩ := vs
            cases l with
            | nil => exact putB_eq _ _ _ _
            | cons a l => rfl
          | _ => rfl

def regB (E : Env) (all : List Oper) : List Oper → Box RunO
  | [] => ⟨fun _ fr s => some (fr, s)⟩
  | o :: l => bx (opB E false all o) fun g => bx (regB E all l) fun h => ⟨fun rc fr s => oc (g rc fr s) fun p => Prod.rec (motive := fun _ => Option (Fr × S)) (h rc) p⟩
theorem regB_eq (rc : Rec) (E : Env) (all : List Oper) : ∀ (l : List Oper) (fr : Fr) (s : S), (regB E all l).un rc fr s = opsLoop rc E all l fr s
  | [], fr, s => rfl
  | o :: l, fr, s => by
    simp only [regB, bx_eq, un_mk, opB_eq, opsLoop]
    cases evOper rc E false all o fr s with
    | none => rfl
    | some p => exact regB_eq rc E all l p.1 p.2

abbrev RunD := Nat → Rec → List (Nat × Nat × Nat) → Nat → Nat → Fr → S → Option (Fr × S)
def goD (mk i : Nat) (b : Nat) (nu : Nat) (h : List (Nat × Nat × Nat) → Nat → Nat → Fr → S → Option (Fr × S)) (seen : List (Nat × Nat × Nat)) (rd wr : Nat) (p : Fr × S) : Option (Fr × S) :=
  Prod.rec (motive := fun _ => Option (Fr × S)) (fun fr s => S.rec (motive := fun _ => Option (Fr × S)) (fun heap next mark rd' wr' =>
    ifB (clash rd' wr' b seen) none (force (joinLog mk rd rd') fun r => force (joinLog mk wr wr') fun w => h (keepLog i rd' (Nat.lor wr' (created nu next)) seen) r w fr ⟨heap, next, mark, rd', wr'⟩)) s) p
def drawB (E : Env) (all : List Oper) : List Oper → List Nat → Nat → Box RunD
  | [], _, _ => ⟨fun mk rc _ rd wr fr s => S.rec (motive := fun _ => Option (Fr × S)) (fun heap next _ _ _ => some (fr, ⟨heap, next, mk, rd, wr⟩)) s⟩
  | _ :: _, [], _ => ⟨fun _ _ _ _ _ _ _ => none⟩
  | o :: l, b :: bef, i => bx (opB E true all o) fun g => bx (drawB E all l bef (Nat.succ i)) fun h =>
      ⟨fun mk rc seen rd wr fr s => S.rec (motive := fun _ => Option (Fr × S)) (fun heap next _ _ _ => force next fun nu => oc (g rc fr ⟨heap, nu, nu, 0, 0⟩) (goD mk i b nu (h mk rc) seen rd wr)) s⟩
theorem drawB_eq (rc : Rec) (E : Env) (all : List Oper) (mk : Nat) : ∀ (l : List Oper) (bef : List Nat) (i : Nat) (seen : List (Nat × Nat × Nat)) (rd wr : Nat) (fr : Fr) (s : S),
    (drawB E all l bef i).un mk rc seen rd wr fr s = drawnLoop rc E all mk l bef i seen rd wr fr s
  | [], _, _, _, _, _, _, _ => rfl
  | _ :: _, [], _, _, _, _, _, _ => rfl
  | o :: l, b :: bef, i, seen, rd, wr, fr, s => by
    simp only [drawB, bx_eq, un_mk, drawnLoop, force_eq]
    show oc ((opB E true all o).un rc fr ⟨s.heap, s.next, s.next, 0, 0⟩) _ = _
    rw [opB_eq]
    cases evOper rc E true all o fr ⟨s.heap, s.next, s.next, 0, 0⟩ with
    | none => rfl
    | some p =>
      obtain ⟨fr1, s1⟩ := p
      show ifB (clash s1.rd s1.wr b seen) _ _ = _
      simp only [force_eq, drawB_eq rc E all mk l]
      cases clash s1.rd s1.wr b seen <;> rfl

/-! code -/
def outB (p : Fr × S) : Option (Out × S) := Prod.rec (motive := fun _ => Option (Out × S)) (fun fr s => some (.fr .normal fr, s)) p
/-- behind the first part -/
def seqK (rc : Rec) (b : Code) (p : Out × S) : Option (Out × S) := Prod.rec (motive := fun _ => Option (Out × S)) (fun o s => Out.rec (motive := fun _ => Option (Out × S)) (fun x fr => Ex.rec (motive := fun _ => Option (Out × S)) (rc (.code b fr) s) (fun _ => some (o, s)) (some (o, s)) x) (fun _ => some (o, s)) o) p
def blkK (id : Nat) (p : Out × S) : Option (Out × S) := Prod.rec (motive := fun _ => Option (Out × S)) (fun o s => Out.rec (motive := fun _ => Option (Out × S)) (fun x fr => Ex.rec (motive := fun _ => Option (Out × S)) (some (o, s)) (fun i => ifB (Nat.beq i id) (some (.fr .normal fr, s)) (some (o, s))) (some (o, s)) x) (fun _ => some (o, s)) o) p
abbrev RunC := Rec → Fr → S → Option (Out × S)
def condV (v : Value) (y n : Option (Out × S)) : Option (Out × S) :=
  Value.casesOn (motive_1 := fun _ => Option (Out × S)) v (fun b => ifB b y n) (fun _ _ => none) (fun _ _ => none) (fun _ _ _ => none) (fun _ => none) (fun _ => none) (fun _ _ _ => none) (fun _ => none) (fun _ => none) (fun _ _ _ => none) none (fun _ _ => none) none (fun _ => none) (fun _ => none)
def codeB (E : Env) (c : Code) : Box RunC := match c with
  | .skip => ⟨fun _ fr s => some (.fr .normal fr, s)⟩
  | .label _ => ⟨fun _ fr s => some (.fr .normal fr, s)⟩
  | .seq a b => ⟨fun rc fr s => oc (rc (.code a fr) s) (seqK rc b)⟩
  | .cond c a b => bx (evB c) fun g => ⟨fun rc fr s => oc (g fr.tmps) fun v => condV v (rc (.code a fr) s) (rc (.code b fr) s)⟩
  | .block id body => ⟨fun rc fr s => oc (rc (.code body fr) s) (blkK id)⟩
  | .loop body => ⟨fun rc fr s => oc (rc (.code body fr) s) (seqK rc (.loop body))⟩
  | .exit id => ⟨fun _ fr s => some (.fr (.exit id) fr, s)⟩
  | .ret => ⟨fun _ fr s => some (.fr .ret fr, s)⟩
  | .region _ ops false => bx (regB E ops.toList ops.toList) fun g => ⟨fun rc fr s => oc (g rc fr s) outB⟩
  | .region _ ops true => match stat ops.toList with
    | none => ⟨fun _ _ _ => none⟩
    | some bef => bx (drawB E ops.toList ops.toList bef 0) fun g => ⟨fun rc fr s => oc (S.rec (motive := fun _ => Option (Fr × S)) (fun heap next mark rd wr => g mark rc [] rd wr fr ⟨heap, next, mark, rd, wr⟩) s) outB⟩
  | .rangeFunc f ps a b => ⟨fun rc fr s => evRange rc E f ps a b fr s⟩
  | _ => ⟨fun _ _ _ => none⟩
theorem seqK_eq (rc : Rec) (b : Code) (r : Option (Out × S)) : oc r (seqK rc b) = match r with | some (.fr .normal fr, s) => rc (.code b fr) s | r => r := by
  cases r with
  | none => rfl
  | some p => obtain ⟨o, s⟩ := p; cases o with
    | val v => rfl
    | fr x fr => cases x <;> rfl
theorem outFr_eq (r : Option (Fr × S)) : oc r outB = outFr r := by
  cases r with
  | none => rfl
  | some p => rfl
theorem codeB_eq (rc : Rec) (E : Env) (c : Code) (fr : Fr) (s : S) : (codeB E c).un rc fr s = evCode rc E c fr s := by
  cases c with
  | region id ops draw =>
    cases draw with
    | false => simp only [codeB, bx_eq, un_mk, regB_eq, outFr_eq, evCode, evRegion]
    | true =>
      simp only [codeB, evCode, evRegion]
      cases stat ops.toList with
      | none => rfl
      | some bef =>
        simp only [bx_eq, un_mk, drawB_eq]
        exact outFr_eq _
  | seq a b => exact seqK_eq rc b _
  | loop body => exact seqK_eq rc (.loop body) _
  | cond c a b =>
    simp only [codeB, bx_eq, un_mk, evB_eq, evCode]
    cases fr.ev c with
    | none => rfl
    | some v => cases v <;> first | rfl | (rename_i b; cases b <;> rfl)
  | block id body =>
    simp only [codeB, un_mk, evCode]
    cases rc (.code body fr) s with
    | none => rfl
    | some p => obtain ⟨o, s⟩ := p; cases o with
      | val v => rfl
      | fr x fr => cases x with
        | exit i => simp only [oc, blkK]; cases Nat.beq i id <;> rfl
        | _ => rfl
  | _ => rfl

/-- the evaluator -/
def stepF (E : Env) (σ : Sums) (rc : Rec) (t : Task) (s : S) : Option (Out × S) :=
  Task.rec (motive := fun _ => Option (Out × S)) (fun c fr => (codeB E c).un rc fr s) (fun n => evNextS σ rc E n s) (fun fr => evLeave rc E fr s) t
def evF (E : Env) (σ : Sums) (n : Nat) : Rec := Nat.rec (motive := fun _ => Rec) (fun _ _ => none) (fun _ ih => stepF E σ ih) n
theorem evF_eq (E : Env) (σ : Sums) : ∀ n, evF E σ n = evS E σ n
  | 0 => by funext t s; rfl
  | n + 1 => by
    funext t s
    show stepF E σ (evF E σ n) t s = _
    rw [evF_eq E σ n]
    cases t with
    | code c fr => exact codeB_eq _ E c fr s
    | next n => rfl
    | leave fr => rfl

/-- **a function that the quick evaluator makes 'true' is called and returns 'true'** -/
theorem callsF_true {P : Program} {σ : Sums} (hP : lawful P = true) (hmix : P.follows .mixedOrders = true) (hσ : SumsOK (Env.of P) σ) {fuel f : Nat} (h : isTrue (evF (Env.of P) σ fuel (.next (.enter f [])) s0) = true) (w : World) :
    Calls P f #[] w fun e w' => e = .returned (.bool true) ∧ Go.RowKit.Below w.heap.size w w' :=
  callsS_true hP hmix hσ (by rw [← evF_eq]; exact h) w
/-- without summaries -/
def noSums : Sums := fun _ => none
theorem noSums_ok (E : Env) : SumsOK E noSums := fun f am h => by cases h
end Go.AE
