/- An evaluator that is told the answers to questions it cannot see through, and keeps a list of them: if each answer is right, it says what evT says. No program is named here. -/
import Derived.Test.YtgofanjbhbeniaaDoorAe39
noncomputable section
namespace Go.AE
set_option linter.unusedVariables false
set_option linter.unusedSimpArgs false

/-- what is told: after so many plain questions, this answer (none: as it is); what was asked, the last first -/
structure Orc where
  told : List (Nat × Option Bool)
  asked : List (Bool × Bool)
def ask (b : Bool) (o : Orc) : Bool × Orc := match o.told with
  | [] => (b, o)
  | (k, h) :: l => match k with
    | 0 => match h with
      | some h => (h, ⟨l, (b, h) :: o.asked⟩)
      | none => (b, ⟨l, (b, b) :: o.asked⟩)
    | k + 1 => (b, ⟨(k, h) :: l, o.asked⟩)
def Orc.ok (o : Orc) : Prop := ∀ p ∈ o.asked, p.1 = p.2
/-- more was asked -/
def Orc.le (o o' : Orc) : Prop := ∀ p ∈ o.asked, p ∈ o'.asked
theorem Orc.le.refl (o : Orc) : o.le o := fun _ h => h
theorem Orc.le.trans {a b c : Orc} (h : a.le b) (g : b.le c) : a.le c := fun p hp => g p (h p hp)
theorem Orc.ok.le {a b : Orc} (g : b.ok) (h : a.le b) : a.ok := fun p hp => g p (h p hp)
theorem ask_ok {b : Bool} {o : Orc} : o.le (ask b o).2 ∧ ((ask b o).2.ok → b = (ask b o).1) := by
  unfold ask
  split
  · exact ⟨Orc.le.refl _, fun _ => rfl⟩
  · split
    · split
      · exact ⟨fun p hp => List.mem_cons_of_mem _ hp, fun hk => hk _ (List.mem_cons_self)⟩
      · exact ⟨fun p hp => List.mem_cons_of_mem _ hp, fun hk => rfl⟩
    · exact ⟨fun p hp => hp, fun _ => rfl⟩

/-- a run that keeps what was asked -/
abbrev Ro (α : Type) := Option (α × S × Orc)
abbrev RecO := Task → S → Orc → Ro Out
def Says {α : Type} (r : Ro α) (o : Orc) (p : Option (α × S)) : Prop := ∀ a s o', r = some (a, s, o') → o.le o' ∧ (o'.ok → p = some (a, s))
theorem says_none {α : Type} {o : Orc} {p : Option (α × S)} : Says (none : Ro α) o p := fun _ _ _ h => by cases h
theorem says_some {α : Type} {o : Orc} {a : α} {s : S} : Says (some (a, s, o)) o (some (a, s)) := fun _ _ _ e => by cases e; exact ⟨Orc.le.refl _, fun _ => rfl⟩
/-- one run behind another -/
def thenO {α β : Type} (r : Ro α) (k : α → S → Orc → Ro β) : Ro β := match r with
  | some (a, s, o) => k a s o
  | none => none
theorem Says.then {α β : Type} {r : Ro α} {o : Orc} {p : Option (α × S)} {k : α → S → Orc → Ro β} {f : α → S → Option (β × S)} {q : Option (β × S)}
    (h : Says r o p) (hk : ∀ a s o1, Says (k a s o1) o1 (f a s)) (hq : ∀ a s, p = some (a, s) → q = f a s) : Says (thenO r k) o q := by
  intro b s2 o2 e
  cases r with
  | none => cases e
  | some x =>
    obtain ⟨a, s, o1⟩ := x
    obtain ⟨h1, h2⟩ := h a s o1 rfl
    obtain ⟨k1, k2⟩ := hk a s o1 b s2 o2 e
    exact ⟨h1.trans k1, fun ok => by rw [hq a s (h2 (ok.le k1))]; exact k2 ok⟩
def liftO {α : Type} (x : Option (α × S)) (o : Orc) : Ro α := match x with
  | some (a, s) => some (a, s, o)
  | none => none
theorem says_lift {α : Type} {x : Option (α × S)} {o : Orc} : Says (liftO x o) o x := by
  cases x with
  | none => exact says_none
  | some p => exact says_some
def askO {α : Type} (b : Bool) (o : Orc) (k : Bool → Orc → Ro α) : Ro α := match ask b o with
  | (h, o') => k h o'
theorem Says.ask {α : Type} {b : Bool} {o : Orc} {k : Bool → Orc → Ro α} {f : Bool → Option (α × S)} (hk : ∀ h o1, Says (k h o1) o1 (f h)) : Says (askO b o k) o (f b) := by
  intro a s o2 e
  obtain ⟨h1, h2⟩ := ask_ok (b := b) (o := o)
  obtain ⟨k1, k2⟩ := hk _ _ a s o2 e
  exact ⟨h1.trans k1, fun ok => by rw [h2 (ok.le k1)]; exact k2 ok⟩

def asWanted (b want : Bool) : Bool := match b, want with | true, true => true | false, false => true | _, _ => false
theorem set_self {α : Type} : ∀ (d : Nat) (t : Tr α) (n : Nat) (v : α), n + 1 < 2 ^ d → t.get n = some v → Tr.set d t n (some v) = t := by
  intro d
  induction d with
  | zero => intro t n v h; simp at h
  | succ d ih =>
    intro t n v h hg
    cases t with
    | nil => cases hg
    | node x l r =>
      cases n with
      | zero =>
        rw [Tr.get_zero] at hg
        rw [Tr.set_node_zero, hg]
      | succ m =>
        have hp : 2 ^ (d + 1) = 2 * 2 ^ d := by rw [Nat.pow_succ]; omega
        have hm : m / 2 + 1 < 2 ^ d := by omega
        rw [Tr.get_succ] at hg
        rw [Tr.set_node_succ]
        cases hb : Nat.beq (Nat.mod m 2) 0 with
        | true =>
          rw [hb] at hg
          dsimp only at hg ⊢
          rw [ih l (m.div 2) v hm hg]
        | false =>
          rw [hb] at hg
          dsimp only at hg ⊢
          rw [ih r (m.div 2) v hm hg]
/-- the answer is kept in the frame -/
def Fr.know (fr : Fr) (d : Nat) (h : Bool) : Fr := match Nat.blt d Tr.wide with
  | true => ⟨fr.fn, fr.tmps.put d (some (.bool h)), fr.n, fr.defers, fr.round⟩
  | false => fr
theorem know_self {fr : Fr} {d : Nat} {b : Bool} (h : fr.tmps.get d = some (.bool b)) : fr.know d b = fr := by
  unfold Fr.know
  split
  · rename_i hb
    have hb := blt_iff.1 hb
    unfold Tr.wide at hb
    show Fr.mk fr.fn (Tr.set Tr.deep fr.tmps d (some (.bool b))) fr.n fr.defers fr.round = fr
    rw [set_self Tr.deep fr.tmps d (.bool b) (by unfold Tr.deep; omega) h]
  · rfl
def wantedO (all : List Oper) (fr : Fr) (o : Oper) (s : S) (w : Orc) : Ro (Bool × Fr) :=
  match o.guard with
  | none => some ((true, fr), s, w)
  | some (j, want) => match nth all j with
    | none => none
    | some p => match p.dst with
      | none => none
      | some d => match fr.tmps.get d with
        | some (.bool b) => askO b w fun h w => some ((asWanted h want, fr.know d h), s, w)
        | some (.tuple ⟨[]⟩) => some ((false, fr), s, w)
        | _ => none
def onS (r : Option Bool) (fr : Fr) (s : S) : Option ((Bool × Fr) × S) := match r with
  | none => none
  | some a => some ((a, fr), s)
theorem says_wanted (all : List Oper) (fr : Fr) (o : Oper) (s : S) (w : Orc) : Says (wantedO all fr o s w) w (onS (wantedA all fr o) fr s) := by
  unfold wantedO wantedA
  cases o.guard with
  | none => exact says_some
  | some g =>
    obtain ⟨j, want⟩ := g
    dsimp only
    cases nth all j with
    | none => exact says_none
    | some p =>
      dsimp only
      cases p.dst with
      | none => exact says_none
      | some d =>
        dsimp only
        cases hg : fr.tmps.get d with
        | none => exact says_none
        | some v => cases v with
          | bool b =>
            have := Says.ask (b := b) (o := w) (k := fun h w => some ((asWanted h want, fr.know d h), s, w)) (f := fun h => some ((asWanted h want, fr.know d h), s)) fun h o1 => says_some
            rw [know_self hg] at this
            exact this
          | tuple vs =>
            obtain ⟨l⟩ := vs
            cases l with
            | nil => exact says_some
            | cons a l => exact says_none
          | _ => exact says_none
def pickO (fr : Fr) (dst : Option Tmp) (x : Option Value) (s : S) (w : Orc) : Ro Fr := match x with
  | none => none
  | some v => liftO (onFr (fr.put dst v) s) w
def nextO (rc : RecO) (dr : Bool) (dst : Option Tmp) (fr : Fr) (n : ANext) (s : S) (w : Orc) : Ro Fr := match n with
  | .value v => liftO (onFr (fr.put dst v) s) w
  | .defer d => match dr with
    | true => none
    | false => liftO (onDefer fr d dst s) w
  | n => thenO (rc (.next n) s w) fun out s w => match out with
    | .val v => liftO (onFr (fr.put dst v) s) w
    | _ => none
/-- two records compared: is it known at all? -/
def eqB (pos : Bool) (r : Option Bool) : Bool := match pos with
  | true => r.getD false
  | false => !(r.getD false)
def aggO (E : Env) (t : TypeId) (fr : Fr) (dst : Option Tmp) (pos : Bool) (x y : Value) (s : S) (w : Orc) : Ro Fr := askO (eqTop E t x y).isSome w fun h w => match h with
  | true => liftO (onFr (fr.put dst (.bool (eqB pos (eqTop E t x y)))) s) w
  | false => none
def opO (rc : RecO) (E : Env) (dr : Bool) (o : Oper) (fr : Fr) (s : S) (w : Orc) : Ro Fr := match o.op with
  | .pick c a b => match fr.ev c with
    | some (.bool q) => askO q w fun h w => match h with
      | true => pickO fr o.dst (fr.ev a) s w
      | false => pickO fr o.dst (fr.ev b) s w
    | _ => none
  | .binOp op t x y _ => match op, fr.ev x, fr.ev y with
    | .eql, some (.agg a), some (.agg b) => aggO E t fr o.dst true (.agg a) (.agg b) s w
    | .neq, some (.agg a), some (.agg b) => aggO E t fr o.dst false (.agg a) (.agg b) s w
    | _, _, _ => thenO (liftO ((aop E fr o).run s) w) fun n s w => nextO rc dr o.dst fr n s w
  | _ => thenO (liftO ((aop E fr o).run s) w) fun n s w => nextO rc dr o.dst fr n s w
def evOperO (rc : RecO) (E : Env) (dr : Bool) (all : List Oper) (o : Oper) (fr : Fr) (s : S) (w : Orc) : Ro Fr :=
  thenO (wantedO all fr o s w) fun yes s w => match yes with
    | (false, fr) => liftO (onFr (fr.put o.dst undefV) s) w
    | (true, fr) => opO rc E dr o fr s w
def opsLoopO (rc : RecO) (E : Env) (all : List Oper) : List Oper → Fr → S → Orc → Ro Fr
  | [], fr, s, w => some (fr, s, w)
  | o :: rest, fr, s, w => thenO (evOperO rc E false all o fr s w) fun fr s w => opsLoopO rc E all rest fr s w
def drawnLoopO (rc : RecO) (E : Env) (all : List Oper) (mk : Nat) : List Oper → List Nat → Nat → List (Nat × Nat × Nat) → Nat → Nat → Fr → S → Orc → Ro Fr
  | [], _, _, _, rd, wr, fr, s, w => some (fr, ⟨s.heap, s.next, mk, rd, wr⟩, w)
  | _ :: _, [], _, _, _, _, _, _, _ => none
  | o :: rest, b :: bef, i, seen, rd, wr, fr, s, w => force s.next fun nu => thenO (evOperO rc E true all o fr ⟨s.heap, nu, nu, 0, 0⟩ w) fun fr' s' w => match clash s'.rd s'.wr b seen with
      | true => none
      | false => drawnLoopO rc E all mk rest bef (Nat.succ i) (keepLog i s'.rd (Nat.lor s'.wr (created nu s'.next)) seen) (joinLog mk rd s'.rd) (joinLog mk wr s'.wr) fr' s' w
def regionO (rc : RecO) (E : Env) (ops : List Oper) (draw : Bool) (fr : Fr) (s : S) (w : Orc) : Ro Out :=
  match draw with
  | false => thenO (opsLoopO rc E ops ops fr s w) fun fr s w => some (.fr .normal fr, s, w)
  | true => match stat ops with
    | none => none
    | some bef => thenO (drawnLoopO rc E ops s.mark ops bef 0 [] s.rd s.wr fr s w) fun fr s w => some (.fr .normal fr, s, w)
def finO (rc : RecO) (l : Nat) (fr : Fr) (s : S) (w : Orc) : Ro Out := match (finM l).run s with
  | none => none
  | some (none, s) => some (.fr .normal fr, s, w)
  | some (some c, s) => rc (.code c fr) s w
def callO (rc : RecO) (n : ANext) (l : Nat) (fr : Fr) (s : S) (w : Orc) : Ro Out := match n with
  | .enter f args => thenO (rc (.next (.enter f args)) s w) fun out s w => match out with
    | .val _ => finO rc l fr s w
    | _ => none
  | _ => none
def rangeO (rc : RecO) (E : Env) (f : Operand) (params : Array Tmp) (assign body : Code) (fr : Fr) (s : S) (w : Orc) : Ro Out :=
  match (enterM fr params.toList assign body).run s with
  | none => none
  | some ((l, mk), s) => match (rangeCall E (fr.ev f) l).run s with
    | none => none
    | some (n, s) => callO rc n l ⟨fr.fn, fr.tmps, fr.n, mk ++ fr.defers, fr.round⟩ s w
def bodyO (rc : RecO) (l : Nat) (body : Code) (fr : Fr) (s : S) (w : Orc) : Ro Out := match (beginM l).run s with
  | none => none
  | some (_, s) => thenO (rc (.code body fr) s w) fun out s w => match out with
    | .fr x fr => liftO (evEnd l x fr s) w
    | _ => none
def roundO (rc : RecO) (l : Nat) (fn : FuncId) (tmps : Tr Value) (n : Nat) (assign body : Code) (s : S) (w : Orc) : Ro Out :=
  thenO (rc (.code assign ⟨fn, tmps, n, [], some l⟩) s w) fun out s w => match out with
  | .fr .normal fr => bodyO rc l body fr s w
  | _ => none
def leaveO (rc : RecO) (E : Env) (fr : Fr) (s : S) (w : Orc) : Ro Out :=
  match fr.defers with
  | [] => match E.fn.get fr.fn with
    | none => none
    | some fn => match (resultsM E fr fn).run s with
      | none => none
      | some (v, s) => some (.val v, s, w)
  | d :: ds => match d.target with
    | .collected b => match (takeM b).run s with
      | none => none
      | some (more, s) => rc (.leave ⟨fr.fn, fr.tmps, fr.n, more ++ ds, fr.round⟩) s w
    | .fn fn ⟨captured⟩ => match (targetA E fn captured d.args.toList).run s with
      | none => none
      | some (n, s) => match n with
        | .enter f args => thenO (rc (.next (.enter f args)) s w) fun out s w => match out with
          | .val _ => rc (.leave ⟨fr.fn, fr.tmps, fr.n, ds, fr.round⟩) s w
          | _ => none
        | _ => none
    | _ => none
def leftO (rc : RecO) (out : Out) (s : S) (w : Orc) : Ro Out := match out with
  | .fr .normal fr => rc (.leave fr) s w
  | .fr .ret fr => rc (.leave fr) s w
  | _ => none
def enterO (rc : RecO) (c : Code) (fr : Fr) (s : S) (w : Orc) : Ro Out := match Nat.ble fr.n lastName with
  | false => none
  | true => thenO (rc (.code c fr) s w) fun out s w => leftO rc out s w
def evNextO (rc : RecO) (E : Env) (n : ANext) (s : S) (w : Orc) : Ro Out :=
  match n with
  | .enter f args => match E.fn.get f with
    | none => none
    | some fn => match fn.body with
      | none => none
      | some c => enterO rc c ⟨f, Tr.ofList args, Nat.add args.length (Nat.sub fn.ntmps args.length), [], none⟩ s w
  | .round l fn t n a b => roundO rc l fn t n a b s w
  | _ => none
/-- a told call with a question of its own: is it so that the call may be told? -/
structure Gate where
  pre : List Value → AM Value
  am : List Value → AM Value
  ok : ∀ args s v s', (pre args).run s = some (.tuple ⟨[.bool true, v]⟩, s') → (am args).run s = some (v, s')
abbrev Gates := Nat → Option Gate
def gA (g : List Value → Option (Bool × Value)) (args : List Value) : AM Value := match g args with
  | some (b, v) => when b (.pure v)
  | none => .fail
def gPre (g : List Value → Option (Bool × Value)) (args : List Value) : AM Value := match g args with
  | some (b, v) => .pure (.tuple ⟨[.bool b, v]⟩)
  | none => .fail
def gateOf (g : List Value → Option (Bool × Value)) : Gate := ⟨gPre g, gA g, fun args s v s' h => by
  unfold gPre at h
  unfold gA
  cases hg : g args with
  | none => rw [hg] at h; cases h
  | some p =>
    obtain ⟨b, v1⟩ := p
    rw [hg] at h
    cases h
    rfl⟩
def gated (γ : Gates) (σ : Sums) : Sums := fun f => match γ f with
  | some g => some g.am
  | none => σ f
def askV (v : Value) (s : S) (w : Orc) : Ro Out := match v with
  | .tuple ⟨[.bool b, v]⟩ => askO b w fun h w => match h with
    | true => some (.val v, s, w)
    | false => none
  | _ => none
def gateO (x : Option (Value × S)) (w : Orc) : Ro Out := match x with
  | some (v, s) => askV v s w
  | none => none
def evNextSO (γ : Gates) (σ : Sums) (rc : RecO) (E : Env) (n : ANext) (s : S) (w : Orc) : Ro Out := match n with
  | .enter f args => match γ f with
    | some g => gateO ((g.pre args).run s) w
    | none => match σ f with
      | none => evNextO rc E (.enter f args) s w
      | some am => liftO (outV ((am args).run s)) w
  | .round l fn t n a b => evNextO rc E (.round l fn t n a b) s w
  | _ => none
def seqO (rc : RecO) (b : Code) (out : Out) (s : S) (w : Orc) : Ro Out := match out with
  | .fr .normal fr => rc (.code b fr) s w
  | r => some (r, s, w)
def blockO (id : Nat) (out : Out) (s : S) (w : Orc) : Ro Out := match out with
  | .fr (.exit i) fr => match Nat.beq i id with
    | true => some (.fr .normal fr, s, w)
    | false => some (.fr (.exit i) fr, s, w)
  | r => some (r, s, w)
def evCodeO (rc : RecO) (E : Env) (c : Code) (fr : Fr) (s : S) (w : Orc) : Ro Out :=
  match c with
  | .skip => some (.fr .normal fr, s, w)
  | .label _ => some (.fr .normal fr, s, w)
  | .seq a b => thenO (rc (.code a fr) s w) fun out s w => seqO rc b out s w
  | .cond c a b => match fr.ev c with
    | some (.bool q) => askO q w fun h w => match h with
      | true => rc (.code a fr) s w
      | false => rc (.code b fr) s w
    | _ => none
  | .block id body => thenO (rc (.code body fr) s w) fun out s w => blockO id out s w
  | .loop body => thenO (rc (.code body fr) s w) fun out s w => seqO rc (.loop body) out s w
  | .exit id => some (.fr (.exit id) fr, s, w)
  | .ret => some (.fr .ret fr, s, w)
  | .region _ ops draw => regionO rc E ops.toList draw fr s w
  | .rangeFunc f ps a b => rangeO rc E f ps a b fr s w
  | _ => none
def plainO (E : Env) (rc : RecO) : RecO := fun t s w => match t with
  | .next (.enter f args) => evNextO rc E (.enter f args) s w
  | t => rc t s w
def evO (E : Env) (γ : Gates) (σ : Sums) : Nat → RecO
  | 0, _, _, _ => none
  | n + 1, t, s, w => match t with
    | .code c fr => evCodeO (evO E γ σ n) E c fr s w
    | .next x => evNextSO γ σ (evO E γ σ n) E x s w
    | .leave fr => leaveO (plainO E (evO E γ σ n)) E fr s w

section
variable {E : Env} {γ : Gates} {σ : Sums} {ro : RecO} {rc : Rec}
def SaysR (ro : RecO) (rc : Rec) : Prop := ∀ t s w, Says (ro t s w) w (rc t s)

theorem says_pick {fr : Fr} {dst : Option Tmp} {x : Option Value} {s : S} {w : Orc} : Says (pickO fr dst x s w) w (match x with | none => none | some v => onFr (fr.put dst v) s) := by
  cases x with
  | none => exact says_none
  | some v => exact says_lift
def nextP (rc : Rec) (dr : Bool) (dst : Option Tmp) (fr : Fr) (n : ANext) (s : S) : Option (Fr × S) := match n with
  | .value v => onFr (fr.put dst v) s
  | .defer d => match dr with
    | true => none
    | false => onDefer fr d dst s
  | n => match rc (.next n) s with
    | some (.val v, s) => onFr (fr.put dst v) s
    | _ => none
theorem says_val {o : Option (Out × S)} {r : Ro Out} {w : Orc} {dst : Option Tmp} {fr : Fr} (h : Says r w o) :
    Says (thenO r fun out s w => match out with | .val v => liftO (onFr (fr.put dst v) s) w | _ => none) w (match (generalizing := false) o with | some (.val v, s) => onFr (fr.put dst v) s | _ => none) := by
  refine Says.then (f := fun out s => match out with | .val v => onFr (fr.put dst v) s | _ => none) h (fun out s o1 => ?_) (fun a s e => by subst e; cases a <;> rfl)
  cases out with
  | val v => exact says_lift
  | fr x fr => exact says_none
theorem says_next (hr : SaysR ro rc) (dr : Bool) (dst : Option Tmp) (fr : Fr) (n : ANext) (s : S) (w : Orc) : Says (nextO ro dr dst fr n s w) w (nextP rc dr dst fr n s) := by
  cases n with
  | value v => exact says_lift
  | defer d => cases dr with
    | true => exact says_none
    | false => exact says_lift
  | enter f args => exact says_val (hr _ s w)
  | round l fn t n a b => exact says_val (hr _ s w)
def opP (rc : Rec) (E : Env) (dr : Bool) (o : Oper) (fr : Fr) (s : S) : Option (Fr × S) := match (aop E fr o).run s with
  | none => none
  | some (n, s) => nextP rc dr o.dst fr n s
theorem opP_pick {dr : Bool} {o : Oper} {fr : Fr} {s : S} {c a b : Operand} {q : Bool} (h : o.op = .pick c a b) (hq : fr.ev c = some (.bool q)) :
    opP rc E dr o fr s = (match (generalizing := false) q with | true => (match (generalizing := false) fr.ev a with | none => none | some v => onFr (fr.put o.dst v) s) | false => (match (generalizing := false) fr.ev b with | none => none | some v => onFr (fr.put o.dst v) s)) := by
  unfold opP aop
  rw [h]
  dsimp only
  unfold aPick
  rw [hq]
  cases q with
  | true =>
    dsimp only
    cases fr.ev a with
    | none => rfl
    | some v => rfl
  | false =>
    dsimp only
    cases fr.ev b with
    | none => rfl
    | some v => rfl
theorem opP_agg {dr : Bool} {o : Oper} {fr : Fr} {s : S} {op : BinOp} {t : TypeId} {x y : Operand} {p : TypeId} {a b : Array Value} (h : o.op = .binOp op t x y p) (hx : fr.ev x = some (.agg a)) (hy : fr.ev y = some (.agg b)) (pos : Bool)
    (hop : op = (match pos with | true => BinOp.eql | false => BinOp.neq)) (hs : (eqTop E t (.agg a) (.agg b)).isSome = true) :
    opP rc E dr o fr s = onFr (fr.put o.dst (.bool (eqB pos (eqTop E t (.agg a) (.agg b))))) s := by
  unfold opP aop
  rw [h]
  dsimp only
  unfold aBin
  rw [hx, hy]
  subst hop
  cases hr : eqTop E t (.agg a) (.agg b) with
  | none => rw [hr] at hs; cases hs
  | some r =>
    cases pos with
    | true =>
      have e : binA E BinOp.eql t (.agg a) (.agg b) = some (.bool r) := by
        show someB (eqTop E t (.agg a) (.agg b)) true = _
        rw [hr]
        rfl
      show (match (opt (binA E BinOp.eql t (.agg a) (.agg b)) val).run s with | none => none | some (n, s) => nextP rc dr o.dst fr n s) = _
      rw [e]
      rfl
    | false =>
      have e : binA E BinOp.neq t (.agg a) (.agg b) = some (.bool (!r)) := by
        show someB (eqTop E t (.agg a) (.agg b)) false = _
        rw [hr]
        rfl
      show (match (opt (binA E BinOp.neq t (.agg a) (.agg b)) val).run s with | none => none | some (n, s) => nextP rc dr o.dst fr n s) = _
      rw [e]
      rfl
theorem says_agg {dr : Bool} {o : Oper} {fr : Fr} {s : S} {w : Orc} {op : BinOp} {t : TypeId} {x y : Operand} {p : TypeId} {a b : Array Value} (h : o.op = .binOp op t x y p) (hx : fr.ev x = some (.agg a)) (hy : fr.ev y = some (.agg b)) (pos : Bool)
    (hop : op = (match pos with | true => BinOp.eql | false => BinOp.neq)) : Says (aggO E t fr o.dst pos (.agg a) (.agg b) s w) w (opP rc E dr o fr s) := by
  have hb : opP rc E dr o fr s = (fun h : Bool => match h with | true => onFr (fr.put o.dst (.bool (eqB pos (eqTop E t (.agg a) (.agg b))))) s | false => opP rc E dr o fr s) (eqTop E t (.agg a) (.agg b)).isSome := by
    cases hs : (eqTop E t (.agg a) (.agg b)).isSome with
    | true => exact opP_agg h hx hy pos hop hs
    | false => rfl
  rw [hb]
  exact Says.ask (f := fun h : Bool => match h with | true => onFr (fr.put o.dst (.bool (eqB pos (eqTop E t (.agg a) (.agg b))))) s | false => opP rc E dr o fr s) fun h o1 => by
    cases h with
    | true => exact says_lift
    | false => exact says_none
theorem says_gen (hr : SaysR ro rc) (dr : Bool) (o : Oper) (fr : Fr) (s : S) (w : Orc) : Says (thenO (liftO ((aop E fr o).run s) w) fun n s w => nextO ro dr o.dst fr n s w) w (opP rc E dr o fr s) :=
  Says.then (f := fun n s => nextP rc dr o.dst fr n s) says_lift (fun n s o1 => says_next hr dr o.dst fr n s o1) (fun a s e => by unfold opP; rw [e])
theorem says_op (hr : SaysR ro rc) (dr : Bool) (o : Oper) (fr : Fr) (s : S) (w : Orc) : Says (opO ro E dr o fr s w) w (opP rc E dr o fr s) := by
  unfold opO
  split
  · rename_i c a b h
    split
    · rename_i q hq
      rw [opP_pick h hq]
      exact Says.ask (f := fun q => (match q with | true => (match fr.ev a with | none => none | some v => onFr (fr.put o.dst v) s) | false => (match fr.ev b with | none => none | some v => onFr (fr.put o.dst v) s)))
        fun h o1 => by
          cases h with
          | true => exact says_pick
          | false => exact says_pick
    · exact says_none
  · rename_i op t x y p h
    split
    · rename_i a b hx hy
      exact says_agg h hx hy true rfl
    · rename_i a b hx hy
      exact says_agg h hx hy false rfl
    · exact says_gen hr dr o fr s w
  · exact says_gen hr dr o fr s w
theorem says_oper (hr : SaysR ro rc) (dr : Bool) (all : List Oper) (o : Oper) (fr : Fr) (s : S) (w : Orc) : Says (evOperO ro E dr all o fr s w) w (evOper rc E dr all o fr s) := by
  refine Says.then (f := fun yes s => match yes with | (false, fr) => onFr (fr.put o.dst undefV) s | (true, fr) => opP rc E dr o fr s) (says_wanted all fr o s w) (fun yes s o1 => ?_) (fun a s1 e => ?_)
  · obtain ⟨yes, fr1⟩ := yes
    cases yes with
    | false => exact says_lift
    | true => exact says_op hr dr o fr1 s o1
  · unfold evOper
    cases hw : wantedA all fr o with
    | none => rw [hw] at e; cases e
    | some y =>
      rw [hw] at e
      cases e
      cases y with
      | false => rfl
      | true =>
        show _ = opP rc E dr o fr s
        unfold opP
        dsimp only
        cases (aop E fr o).run s with
        | none => rfl
        | some p =>
          obtain ⟨n, s1⟩ := p
          cases n with
          | value v => rfl
          | defer d => cases dr <;> rfl
          | enter f args => rfl
          | round l fn t n a b => rfl
theorem says_ops (hr : SaysR ro rc) (all : List Oper) : ∀ (l : List Oper) (fr : Fr) (s : S) (w : Orc), Says (opsLoopO ro E all l fr s w) w (opsLoop rc E all l fr s)
  | [], fr, s, w => says_some
  | o :: rest, fr, s, w => Says.then (f := fun fr s => opsLoop rc E all rest fr s) (says_oper hr false all o fr s w) (fun fr s o1 => says_ops hr all rest fr s o1) (fun a s1 e => by
    show (match evOper rc E false all o fr s with | some (fr, s) => opsLoop rc E all rest fr s | none => none) = _
    rw [e])
theorem says_drawn (hr : SaysR ro rc) (all : List Oper) (mk : Nat) : ∀ (l : List Oper) (bef : List Nat) (i : Nat) (seen : List (Nat × Nat × Nat)) (rd wr : Nat) (fr : Fr) (s : S) (w : Orc),
    Says (drawnLoopO ro E all mk l bef i seen rd wr fr s w) w (drawnLoop rc E all mk l bef i seen rd wr fr s)
  | [], _, _, _, _, _, _, _, _ => says_some
  | _ :: _, [], _, _, _, _, _, _, _ => says_none
  | o :: rest, b :: bef, i, seen, rd, wr, fr, s, w => by
    unfold drawnLoopO drawnLoop
    rw [force_eq, force_eq]
    refine Says.then (f := fun fr' s' => match clash s'.rd s'.wr b seen with | true => none | false => drawnLoop rc E all mk rest bef (Nat.succ i) (keepLog i s'.rd (Nat.lor s'.wr (created s.next s'.next)) seen) (joinLog mk rd s'.rd) (joinLog mk wr s'.wr) fr' s') (says_oper hr true all o fr _ w) (fun fr1 s1 o1 => ?_) (fun a s1 e => by rw [e]; rfl)
    cases clash s1.rd s1.wr b seen with
    | true => exact says_none
    | false => exact says_drawn hr all mk rest bef _ _ _ _ fr1 s1 o1
theorem says_region (hr : SaysR ro rc) (ops : List Oper) (draw : Bool) (fr : Fr) (s : S) (w : Orc) : Says (regionO ro E ops draw fr s w) w (evRegion rc E ops draw fr s) := by
  cases draw with
  | false =>
    exact Says.then (f := fun fr s => some (.fr .normal fr, s)) (says_ops hr ops ops fr s w) (fun _ _ _ => says_some) (fun a s e => by unfold evRegion; dsimp only; rw [e]; rfl)
  | true =>
    unfold regionO evRegion
    dsimp only
    cases stat ops with
    | none => exact says_none
    | some bef => exact Says.then (f := fun fr s => some (.fr .normal fr, s)) (says_drawn hr ops _ ops bef _ _ _ _ fr s w) (fun _ _ _ => says_some) (fun a s e => by dsimp only; rw [e]; rfl)
theorem says_fin (hr : SaysR ro rc) (l : Nat) (fr : Fr) (s : S) (w : Orc) : Says (finO ro l fr s w) w (evFin rc l fr s) := by
  unfold finO evFin
  cases (finM l).run s with
  | none => exact says_none
  | some p =>
    obtain ⟨c, s1⟩ := p
    cases c with
    | none => exact says_some
    | some c => exact hr _ _ _
theorem says_call (hr : SaysR ro rc) (n : ANext) (l : Nat) (fr : Fr) (s : S) (w : Orc) : Says (callO ro n l fr s w) w (evCall rc n l fr s) := by
  cases n with
  | enter f args =>
    refine Says.then (f := fun out s => match out with | .val _ => evFin rc l fr s | _ => none) (hr _ s w) (fun out s o1 => ?_) (fun a s e => by unfold evCall; dsimp only; rw [e]; cases a <;> rfl)
    cases out with
    | val v => exact says_fin hr l fr s o1
    | fr x fr => exact says_none
  | _ => exact says_none
theorem says_range (hr : SaysR ro rc) (f : Operand) (ps : Array Tmp) (a b : Code) (fr : Fr) (s : S) (w : Orc) : Says (rangeO ro E f ps a b fr s w) w (evRange rc E f ps a b fr s) := by
  unfold rangeO evRange
  cases (enterM fr ps.toList a b).run s with
  | none => exact says_none
  | some p =>
    obtain ⟨⟨l, mk⟩, s1⟩ := p
    dsimp only
    cases (rangeCall E (fr.ev f) l).run s1 with
    | none => exact says_none
    | some p =>
      obtain ⟨n, s2⟩ := p
      exact says_call hr _ _ _ _ _
theorem says_body (hr : SaysR ro rc) (l : Nat) (body : Code) (fr : Fr) (s : S) (w : Orc) : Says (bodyO ro l body fr s w) w (evBody rc l body fr s) := by
  unfold bodyO evBody
  cases (beginM l).run s with
  | none => exact says_none
  | some p =>
    obtain ⟨u, s1⟩ := p
    dsimp only
    refine Says.then (f := fun out s => match out with | .fr x fr => evEnd l x fr s | _ => none) (hr _ s1 w) (fun out s o1 => ?_) (fun a s e => by rw [e]; cases a <;> rfl)
    cases out with
    | val v => exact says_none
    | fr x fr => exact says_lift
theorem says_round (hr : SaysR ro rc) (l : Nat) (fn : FuncId) (t : Tr Value) (n : Nat) (a b : Code) (s : S) (w : Orc) : Says (roundO ro l fn t n a b s w) w (evRound rc l fn t n a b s) := by
  refine Says.then (f := fun out s => match out with | .fr .normal fr => evBody rc l b fr s | _ => none) (hr _ s w) (fun out s o1 => ?_) (fun x s e => by
    unfold evRound; rw [e]
    cases x with
    | val v => rfl
    | fr x fr => cases x <;> rfl)
  cases out with
  | val v => exact says_none
  | fr x fr => cases x with
    | normal => exact says_body hr l b fr s o1
    | _ => exact says_none
theorem says_leave (hr : SaysR ro rc) (fr : Fr) (s : S) (w : Orc) : Says (leaveO ro E fr s w) w (evLeave rc E fr s) := by
  unfold leaveO evLeave
  cases fr.defers with
  | nil =>
    dsimp only
    cases E.fn.get fr.fn with
    | none => exact says_none
    | some fn =>
      dsimp only
      cases (resultsM E fr fn).run s with
      | none => exact says_none
      | some p => exact says_some
  | cons d ds =>
    dsimp only
    cases d.target with
    | collected b =>
      dsimp only
      cases (takeM b).run s with
      | none => exact says_none
      | some p =>
        obtain ⟨more, s1⟩ := p
        exact hr _ _ _
    | fn fn cap =>
      obtain ⟨captured⟩ := cap
      dsimp only
      cases (targetA E fn captured d.args.toList).run s with
      | none => exact says_none
      | some p =>
        obtain ⟨n, s1⟩ := p
        cases n with
        | enter f args =>
          dsimp only
          refine Says.then (f := fun out s => match out with | .val _ => rc (.leave ⟨fr.fn, fr.tmps, fr.n, ds, fr.round⟩) s | _ => none) (hr _ s1 w) (fun out s o1 => ?_) (fun a s e => by rw [e]; cases a <;> rfl)
          cases out with
          | val v => exact hr _ _ _
          | fr x fr => exact says_none
        | _ => exact says_none
    | _ => exact says_none
theorem says_enter (hr : SaysR ro rc) (c : Code) (fr : Fr) (s : S) (w : Orc) : Says (enterO ro c fr s w) w (evEnter rc c fr s) := by
  unfold enterO evEnter
  cases Nat.ble fr.n lastName with
  | false => exact says_none
  | true =>
    dsimp only
    refine Says.then (f := fun out s => match out with | .fr .normal fr => rc (.leave fr) s | .fr .ret fr => rc (.leave fr) s | _ => none) (hr _ s w) (fun out s o1 => ?_) (fun x s e => by
      rw [e]
      cases x with
      | val v => rfl
      | fr x fr => cases x <;> rfl)
    cases out with
    | val v => exact says_none
    | fr x fr => cases x with
      | normal => exact hr _ _ _
      | ret => exact hr _ _ _
      | _ => exact says_none
theorem says_evNext (hr : SaysR ro rc) (n : ANext) (s : S) (w : Orc) : Says (evNextO ro E n s w) w (evNext rc E n s) := by
  cases n with
  | enter f args =>
    unfold evNextO evNext
    dsimp only
    cases E.fn.get f with
    | none => exact says_none
    | some fn =>
      dsimp only
      cases fn.body with
      | none => exact says_none
      | some c => exact says_enter hr _ _ _ _
  | round l fn t n a b => exact says_round hr l fn t n a b s w
  | _ => exact says_none
theorem says_gate (g : Gate) (args : List Value) (s : S) (w : Orc) : Says (gateO ((g.pre args).run s) w) w (outV ((g.am args).run s)) := by
  cases hp : (g.pre args).run s with
  | none => exact says_none
  | some p =>
    obtain ⟨v, s1⟩ := p
    show Says (askV v s1 w) w _
    unfold askV
    split
    · rename_i b v1
      have hb : outV ((g.am args).run s) = (fun h => match h with | true => some (Out.val v1, s1) | false => outV ((g.am args).run s)) b := by
        cases b with
        | true => rw [g.ok _ _ _ _ hp]; rfl
        | false => rfl
      rw [hb]
      exact Says.ask (f := fun h => match h with | true => some (Out.val v1, s1) | false => outV ((g.am args).run s)) fun h o1 => by
        cases h with
        | true => exact says_some
        | false => exact says_none
    · exact says_none
theorem says_nextS (hr : SaysR ro rc) (n : ANext) (s : S) (w : Orc) : Says (evNextSO γ σ ro E n s w) w (evNextS (gated γ σ) rc E n s) := by
  cases n with
  | enter f args =>
    unfold evNextSO evNextS gated
    dsimp only
    cases γ f with
    | some g => exact says_gate g args s w
    | none =>
      dsimp only
      cases σ f with
      | none => exact says_evNext hr _ _ _
      | some am => exact says_lift
  | round l fn t n a b => exact says_evNext (E := E) hr (.round l fn t n a b) s w
  | _ => exact says_none
theorem says_seq (hr : SaysR ro rc) (b : Code) (out : Out) (s : S) (w : Orc) : Says (seqO ro b out s w) w (match out with | .fr .normal fr => rc (.code b fr) s | r => some (r, s)) := by
  cases out with
  | val v => exact says_some
  | fr x fr => cases x with
    | normal => exact hr _ _ _
    | _ => exact says_some
theorem says_block (id : Nat) (out : Out) (s : S) (w : Orc) : Says (blockO id out s w) w (match out with | .fr (.exit i) fr => (match Nat.beq i id with | true => some (.fr .normal fr, s) | false => some (.fr (.exit i) fr, s)) | r => some (r, s)) := by
  cases out with
  | val v => exact says_some
  | fr x fr => cases x with
    | exit i =>
      unfold blockO
      dsimp only
      cases Nat.beq i id <;> exact says_some
    | _ => exact says_some
theorem says_code (hr : SaysR ro rc) (c : Code) (fr : Fr) (s : S) (w : Orc) : Says (evCodeO ro E c fr s w) w (evCode rc E c fr s) := by
  cases c with
  | skip => exact says_some
  | label _ => exact says_some
  | seq a b => exact Says.then (hr _ s w) (fun out s o1 => says_seq hr b out s o1) (fun x s e => by
      show evCode rc E (.seq a b) fr _ = _
      unfold evCode; dsimp only; rw [e]
      cases x with
      | val v => rfl
      | fr x fr => cases x <;> rfl)
  | cond c a b =>
    unfold evCodeO evCode
    dsimp only
    cases fr.ev c with
    | none => exact says_none
    | some v => cases v with
      | bool q => 
        cases q with
        | true => exact Says.ask (f := fun h => match h with | true => rc (.code a fr) s | false => rc (.code b fr) s) fun h o1 => by cases h <;> exact hr _ _ _
        | false => exact Says.ask (f := fun h => match h with | true => rc (.code a fr) s | false => rc (.code b fr) s) fun h o1 => by cases h <;> exact hr _ _ _
      | _ => exact says_none
  | block id body => exact Says.then (hr _ s w) (fun out s o1 => says_block id out s o1) (fun x s e => by
      show evCode rc E (.block id body) fr _ = _
      unfold evCode; dsimp only; rw [e]
      cases x with
      | val v => rfl
      | fr x fr => cases x <;> rfl)
  | loop body => exact Says.then (hr _ s w) (fun out s o1 => says_seq hr (.loop body) out s o1) (fun x s e => by
      show evCode rc E (.loop body) fr _ = _
      unfold evCode; dsimp only; rw [e]
      cases x with
      | val v => rfl
      | fr x fr => cases x <;> rfl)
  | exit id => exact says_some
  | ret => exact says_some
  | region _ ops draw => exact says_region hr _ _ _ _ _
  | rangeFunc f ps a b => exact says_range hr f ps a b fr s w
  | _ => exact says_none
theorem says_plain (hr : SaysR ro rc) : SaysR (plainO E ro) (plain E rc) := by
  intro t s w
  cases t with
  | next n =>
    cases n with
    | enter f args => exact says_evNext hr (.enter f args) s w
    | _ => exact hr _ s w
  | _ => exact hr _ s w
/-- **if each answer was right, it says what evT says** -/
theorem evO_says (E : Env) (γ : Gates) (σ : Sums) : ∀ n, SaysR (evO E γ σ n) (evT E (gated γ σ) n)
  | 0 => fun _ _ _ => says_none
  | n + 1 => fun t s w => by
    have ih := evO_says E γ σ n
    cases t with
    | code c fr => exact says_code ih c fr s w
    | next x => exact says_nextS ih x s w
    | leave fr => exact says_leave (says_plain ih) fr s w

/-- what was asked on the way to a truth -/
def asks (r : Ro Out) : Option (List (Bool × Bool)) := match r with
  | some (.val v, _, o) => match v with
    | .bool b => some ((b, true) :: o.asked)
    | _ => none
  | _ => none
theorem callsO_true {P : Program} (hP : lawful P = true) (hmix : P.follows .mixedOrders = true) (hσ : Tolds P (gated γ σ)) {n f : Nat} {args args' : List Value} {told : List (Nat × Option Bool)} {qs : List (Bool × Bool)}
    (h : asks (evNextO (evO (Env.of P) γ σ n) (Env.of P) (.enter f args) s0 ⟨told, []⟩) = some qs) (hq : ∀ p ∈ qs, p.1 = p.2) (ha : LR (fun _ => none) args args') (w : World) :
    Calls P f ⟨args'⟩ w fun e w' => e = .returned (.bool true) ∧ Go.RowKit.Below w.heap.size w w' := by
  have hs := says_evNext (E := Env.of P) (evO_says (Env.of P) γ σ n) (.enter f args) s0 ⟨told, []⟩
  generalize evNextO (evO (Env.of P) γ σ n) (Env.of P) (.enter f args) s0 ⟨told, []⟩ = r at *
  unfold asks at h
  split at h
  · rename_i v s1 o
    split at h
    · rename_i b
      cases h
      obtain ⟨_, h2⟩ := hs _ _ _ rfl
      have h3 := h2 (fun p hp => hq p (List.mem_cons_of_mem _ hp))
      have hb : b = true := hq (b, true) (List.mem_cons_self)
      subst hb
      exact callsT_true hP hmix hσ h3 ha w
    · cases h
  · cases h
/-- a call on plain values, and what was asked on its way -/
def evVO (E : Env) (γ : Gates) (σ : Sums) (n f : Nat) (args : List Value) (told : List (Nat × Option Bool)) : Option (Value × List (Bool × Bool)) := match evNextO (evO E γ σ n) E (.enter f args) s0 ⟨told, []⟩ with
  | some (.val v, _, o) => some (v, o.asked)
  | _ => none
theorem evV_of {E : Env} {n f : Nat} {args : List Value} {told : List (Nat × Option Bool)} {v : Value} {qs : List (Bool × Bool)} (h : evVO E γ σ n f args told = some (v, qs)) (hq : ∀ p ∈ qs, p.1 = p.2) : evV E (gated γ σ) n f args = some v := by
  have hs := says_evNext (E := E) (evO_says E γ σ n) (.enter f args) s0 ⟨told, []⟩
  unfold evVO at h
  generalize evNextO (evO E γ σ n) E (.enter f args) s0 ⟨told, []⟩ = r at *
  split at h
  · rename_i v1 s1 o
    cases h
    obtain ⟨_, h2⟩ := hs _ _ _ rfl
    unfold evV
    rw [h2 hq]
  · cases h
theorem Told.mono {P : Program} {f : FuncId} {am am' : List Value → AM Value} (h : Told P f am) (e : ∀ args s v s', (am' args).run s = some (v, s') → (am args).run s = some (v, s')) : Told P f am' := by
  intro q ρ args args' s v s' w hrun hm hl hR ha c cs
  exact h q ρ args args' s v s' w (e _ _ _ _ hrun) hm hl hR ha c cs
theorem gA_run {g : List Value → Option (Bool × Value)} {args : List Value} {s s' : S} {v : Value} (h : (gA g args).run s = some (v, s')) : g args = some (true, v) ∧ s' = s := by
  unfold gA at h
  cases hg : g args with
  | none => rw [hg] at h; cases h
  | some p =>
    obtain ⟨b, v1⟩ := p
    rw [hg] at h
    obtain ⟨rfl, h2⟩ := run_when h
    cases h2
    exact ⟨rfl, rfl⟩
/-- gates, one by one -/
def gatesOf : List (Nat × (List Value → Option (Bool × Value))) → Gates
  | [], _ => none
  | (g, am) :: l, f => match Nat.beq f g with
    | true => some (gateOf am)
    | false => gatesOf l f
def gatesM : List (Nat × Gate) → Gates
  | [], _ => none
  | (g, am) :: l, f => match Nat.beq f g with
    | true => some am
    | false => gatesM l f
theorem tolds_gatesM {P : Program} {σ : Sums} (hσ : Tolds P σ) : ∀ {l : List (Nat × Gate)}, (∀ p ∈ l, Told P p.1 p.2.am) → Tolds P (gated (gatesM l) σ)
  | [], _ => hσ
  | (g, am) :: l, h => by
    intro f am' e
    unfold gated gatesM at e
    cases hb : Nat.beq f g with
    | true =>
      rw [hb] at e
      cases e
      cases Nat.eq_of_beq_eq_true hb
      exact h (g, am) List.mem_cons_self
    | false =>
      rw [hb] at e
      exact tolds_gatesM hσ (fun p hp => h p (List.mem_cons_of_mem _ hp)) f am' e
theorem tolds_gates {P : Program} {σ : Sums} (hσ : Tolds P σ) : ∀ {l : List (Nat × (List Value → Option (Bool × Value)))}, (∀ p ∈ l, Told P p.1 (gA p.2)) → Tolds P (gated (gatesOf l) σ)
  | [], _ => hσ
  | (g, am) :: l, h => by
    intro f am' e
    unfold gated gatesOf at e
    cases hb : Nat.beq f g with
    | true =>
      rw [hb] at e
      cases e
      cases Nat.eq_of_beq_eq_true hb
      exact h (g, am) List.mem_cons_self
    | false =>
      rw [hb] at e
      exact tolds_gates hσ (fun p hp => h p (List.mem_cons_of_mem _ hp)) f am' e
end
end Go.AE
