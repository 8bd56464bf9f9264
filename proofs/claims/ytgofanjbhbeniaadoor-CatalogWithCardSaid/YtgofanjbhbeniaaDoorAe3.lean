/- How code runs over the named memory. No program is named here. -/
import Derived.Test.YtgofanjbhbeniaaDoorAe2
noncomputable section
namespace Go.AE
set_option linter.unusedVariables false
set_option linter.unusedSimpArgs false

inductive Ex where
  | normal
  | exit (id : Nat)
  | ret

inductive Task where
  | code (c : Code) (fr : Fr)
  | next (n : ANext)
  | leave (fr : Fr)

inductive Out where
  | fr (x : Ex) (fr : Fr)
  | val (v : Value)

abbrev Rec := Task → S → Option (Out × S)

def nth {α : Type} : List α → Nat → Option α
  | [], _ => none
  | a :: _, 0 => some a
  | _ :: l, n + 1 => nth l n

def Fr.put (fr : Fr) (dst : Option Tmp) (v : Value) : Option Fr :=
  match dst with
  | none => some fr
  | some d => match Nat.blt d fr.n with
    | true => some ⟨fr.fn, fr.tmps.put d (some v), fr.n, fr.defers, fr.round⟩
    | false => none

/-- is an operation wanted? none: that isn't known -/
def wantedA (all : List Oper) (fr : Fr) (o : Oper) : Option Bool :=
  match o.guard with
  | none => some true
  | some (j, want) => match nth all j with
    | none => none
    | some p => match p.dst with
      | none => none
      | some d => match fr.tmps.get d with
        | some (.bool b) => some (match b, want with | true, true => true | false, false => true | _, _ => false)
        | some (.tuple ⟨[]⟩) => some false
        | _ => none

def onFr (r : Option Fr) (s : S) : Option (Fr × S) := match r with
  | none => none
  | some fr => some (fr, s)

def onDefer (fr : Fr) (d : Deferred) (dst : Option Tmp) (s : S) : Option (Fr × S) := match fr.round with
  | none => onFr (Fr.put ⟨fr.fn, fr.tmps, fr.n, d :: fr.defers, fr.round⟩ dst undefV) s
  | some _ => none
def evOper (rc : Rec) (E : Env) (dr : Bool) (all : List Oper) (o : Oper) (fr : Fr) (s : S) : Option (Fr × S) :=
  match wantedA all fr o with
  | none => none
  | some false => onFr (fr.put o.dst undefV) s
  | some true => match (aop E fr o).run s with
    | none => none
    | some (n, s) => match n with
      | .value v => onFr (fr.put o.dst v) s
      | .defer d => match dr with
        | true => none
        | false => onDefer fr d o.dst s
      | n => match rc (.next n) s with
        | some (.val v, s) => onFr (fr.put o.dst v) s
        | _ => none

def opsLoop (rc : Rec) (E : Env) (all : List Oper) : List Oper → Fr → S → Option (Fr × S)
  | [], fr, s => some (fr, s)
  | o :: rest, fr, s => match evOper rc E false all o fr s with
    | some (fr, s) => opsLoop rc E all rest fr s
    | none => none

/-- regions whose order is drawn -/
def bindsA (e : Edge) : Bool := match e.ground with
  | .textOnly _ | .gcOnly _ => false
  | _ => true
def befOf (bef : List Nat) : List Edge → Nat → Nat
  | [], m => m
  | e :: l, m => match bindsA e with
    | false => befOf bef l m
    | true => befOf bef l (Nat.lor m (Nat.lor (Nat.shiftLeft 1 e.on) (match nth bef e.on with | some b => b | none => 0)))
def onBelow (i : Nat) : List Edge → Bool
  | [] => true
  | e :: l => match bindsA e with
    | false => onBelow i l
    | true => match Nat.blt e.on i with | true => onBelow i l | false => false
def befores : List Oper → Nat → List Nat → Option (List Nat)
  | [], _, acc => some acc
  | o :: l, i, acc => match onBelow i o.after.toList with
    | false => none
    | true => force (befOf acc o.after.toList 0) fun m => befores l (Nat.succ i) (acc ++ [m])
def readsOf (all : List Oper) (o : Oper) : List Nat :=
  (o.op.operands.toList.filterMap fun | .tmp t => some t | _ => none) ++ (match o.guard with
    | none => []
    | some (j, _) => match nth all j with
      | none => []
      | some p => p.dst.toList)
def apartT (a : Option Tmp × List Nat) (b : Option Tmp × List Nat) : Bool :=
  (match a.1 with
    | none => true
    | some d => not (memN d b.2) && (match b.1 with | some e => not (Nat.beq d e) | none => true)) &&
  (match b.1 with
    | none => true
    | some d => not (memN d a.2))
def apartTs (x : Option Tmp × List Nat) (bef : Nat) : List (Option Tmp × List Nat) → Nat → Bool
  | [], _ => true
  | y :: l, i => match Nat.testBit bef i with
    | true => apartTs x bef l (Nat.succ i)
    | false => match apartT y x with
      | true => apartTs x bef l (Nat.succ i)
      | false => false
def apartAll (prev : List (Option Tmp × List Nat)) : List (Option Tmp × List Nat) → List Nat → Bool
  | [], _ => true
  | x :: l, b :: bs => match apartTs x b prev 0 with
    | true => apartAll (prev ++ [x]) l bs
    | false => false
  | _ :: _, [] => false
def created (lo hi : Nat) : Nat := match Nat.beq lo hi with
  | true => 0
  | false => Nat.shiftLeft (Nat.sub (Nat.shiftLeft 1 (Nat.sub hi lo)) 1) lo
def stat (ops : List Oper) : Option (List Nat) :=
  match befores ops 0 [] with
  | none => none
  | some bef => match apartAll [] (ops.map fun o => (o.dst, readsOf ops o)) bef with
    | true => some bef
    | false => none

def clash (rd wr : Nat) (bef : Nat) : List (Nat × Nat × Nat) → Bool
  | [] => false
  | (i, r, w) :: l => match Nat.beq (Nat.lor (Nat.land w (Nat.lor rd wr)) (Nat.land r wr)) 0 with
    | true => clash rd wr bef l
    | false => match Nat.testBit bef i with
      | true => clash rd wr bef l
      | false => true

def keepLog (i rd wr : Nat) (seen : List (Nat × Nat × Nat)) : List (Nat × Nat × Nat) :=
  match Nat.beq (Nat.lor rd wr) 0 with
  | true => seen
  | false => (i, rd, wr) :: seen

def joinLog (mk old new : Nat) : Nat := match mk with
  | 0 => old
  | _ => Nat.lor old new

def drawnLoop (rc : Rec) (E : Env) (all : List Oper) (mk : Nat) : List Oper → List Nat → Nat → List (Nat × Nat × Nat) → Nat → Nat → Fr → S → Option (Fr × S)
  | [], _, _, _, rd, wr, fr, s => some (fr, ⟨s.heap, s.next, mk, rd, wr⟩)
  | _ :: _, [], _, _, _, _, _, _ => none
  | o :: rest, b :: bef, i, seen, rd, wr, fr, s => force s.next fun nu => match evOper rc E true all o fr ⟨s.heap, nu, nu, 0, 0⟩ with
    | none => none
    | some (fr', s') => match clash s'.rd s'.wr b seen with
      | true => none
      | false => drawnLoop rc E all mk rest bef (Nat.succ i) (keepLog i s'.rd (Nat.lor s'.wr (created nu s'.next)) seen) (joinLog mk rd s'.rd) (joinLog mk wr s'.wr) fr' s'

def enterM (fr : Fr) (ps : List Tmp) (a b : Code) : AM (Nat × List Deferred) := match fr.round with
  | some l => .get l fun
    | .loop _ _ _ _ _ _ _ _ d => .new (.loop .ready none fr.fn fr.tmps fr.n ps a b d) fun l => .pure (l, [])
    | _ => .fail
  | none => .new (.deferred (some [])) fun r => .new (.loop .ready none fr.fn fr.tmps fr.n ps a b r) fun l => .pure (l, [{ target := .collected r, args := #[] }])
def finM (l : Nat) : AM (Option Code) := .get l fun
  | .loop st p fn t n ps a b d => match st with
    | .busy => .fail
    | _ => .set l (.loop .exhausted p fn t n ps a b d) (.pure p)
  | _ => .fail
def beginM (l : Nat) : AM Unit := .get l fun
  | .loop .ready p fn t n ps a b d => .set l (.loop .busy p fn t n ps a b d) (.pure ())
  | _ => .fail
def exJump : Ex → Option Code
  | .normal => none
  | .ret => some .ret
  | .exit id => some (.exit id)
def exState : Ex → LoopState
  | .normal => .ready
  | _ => .done
def exGoes : Ex → Bool
  | .normal => true
  | _ => false
def endM (l : Nat) (x : Ex) : AM Unit := .get l fun
  | .loop _ _ fn t n ps a b d => .set l (.loop (exState x) (exJump x) fn t n ps a b d) (.pure ())
  | _ => .fail
def takeM (b : Nat) : AM (List Deferred) := .get b fun
  | .deferred (some ds) => .set b (.deferred none) (.pure ds)
  | _ => .fail
def yieldV (l : Nat) : Value := .func (.yield l) ⟨[]⟩ ⟨[]⟩
def rangeCall (E : Env) (f : Option Value) (l : Nat) : AM ANext := match f with
  | some (.func fn ⟨first⟩ ⟨captured⟩) => targetA E fn captured (first ++ [yieldV l])
  | _ => .fail

def evFin (rc : Rec) (l : Nat) (fr : Fr) (s : S) : Option (Out × S) := match (finM l).run s with
  | none => none
  | some (none, s) => some (.fr .normal fr, s)
  | some (some c, s) => rc (.code c fr) s
def evCall (rc : Rec) (n : ANext) (l : Nat) (fr : Fr) (s : S) : Option (Out × S) := match n with
  | .enter f args => match rc (.next (.enter f args)) s with
    | some (.val _, s) => evFin rc l fr s
    | _ => none
  | _ => none
def evRange (rc : Rec) (E : Env) (f : Operand) (params : Array Tmp) (assign body : Code) (fr : Fr) (s : S) : Option (Out × S) :=
  match (enterM fr params.toList assign body).run s with
  | none => none
  | some ((l, mk), s) => match (rangeCall E (fr.ev f) l).run s with
    | none => none
    | some (n, s) => evCall rc n l ⟨fr.fn, fr.tmps, fr.n, mk ++ fr.defers, fr.round⟩ s

def evEnd (l : Nat) (x : Ex) (fr : Fr) (s : S) : Option (Out × S) := match fr.defers with
  | [] => match (endM l x).run s with
    | none => none
    | some (_, s) => some (.val (.bool (exGoes x)), s)
  | _ :: _ => none
def evBody (rc : Rec) (l : Nat) (body : Code) (fr : Fr) (s : S) : Option (Out × S) := match (beginM l).run s with
  | none => none
  | some (_, s) => match rc (.code body fr) s with
    | some (.fr x fr, s) => evEnd l x fr s
    | _ => none
def evRound (rc : Rec) (l : Nat) (fn : FuncId) (tmps : Tr Value) (n : Nat) (assign body : Code) (s : S) : Option (Out × S) :=
  match rc (.code assign ⟨fn, tmps, n, [], some l⟩) s with
  | some (.fr .normal fr, s) => evBody rc l body fr s
  | _ => none

def resultsA (E : Env) (fr : Fr) : List ResultVar → (List Value → AM Value) → AM Value
  | [], k => k []
  | .tmp t :: l, k => opt (fr.tmps.get t) fun v => resultsA E fr l fun vs => k (v :: vs)
  | .cell a t :: l, k => match fr.tmps.get a with
    | some (.pointer (some ad)) => opt (E.ty.get t) fun i => loadT i ad fun v => resultsA E fr l fun vs => k (v :: vs)
    | _ => .fail

def resultsM (E : Env) (fr : Fr) (fn : FI) : AM Value := resultsA E fr fn.results fun
  | [v] => .pure v
  | vs => .pure (.tuple ⟨vs⟩)
def evLeave (rc : Rec) (E : Env) (fr : Fr) (s : S) : Option (Out × S) :=
  match fr.defers with
  | [] => match E.fn.get fr.fn with
    | none => none
    | some fn => match (resultsM E fr fn).run s with
      | none => none
      | some (v, s) => some (.val v, s)
  | d :: ds => match d.target with
    | .collected b => match (takeM b).run s with
      | none => none
      | some (more, s) => rc (.leave ⟨fr.fn, fr.tmps, fr.n, more ++ ds, fr.round⟩) s
    | .fn fn ⟨captured⟩ => match (targetA E fn captured d.args.toList).run s with
      | none => none
      | some (n, s) => match n with
        | .enter f args => match rc (.next (.enter f args)) s with
          | some (.val _, s) => rc (.leave ⟨fr.fn, fr.tmps, fr.n, ds, fr.round⟩) s
          | _ => none
        | _ => none
    | _ => none

def evEnter (rc : Rec) (c : Code) (fr : Fr) (s : S) : Option (Out × S) := match Nat.ble fr.n lastName with
  | false => none
  | true => match rc (.code c fr) s with
    | some (.fr .normal fr, s) => rc (.leave fr) s
    | some (.fr .ret fr, s) => rc (.leave fr) s
    | _ => none
def evNext (rc : Rec) (E : Env) (n : ANext) (s : S) : Option (Out × S) :=
  match n with
  | .enter f args => match E.fn.get f with
    | none => none
    | some fn => match fn.body with
      | none => none
      | some c => evEnter rc c ⟨f, Tr.ofList args, Nat.add args.length (Nat.sub fn.ntmps args.length), [], none⟩ s
  | .round l fn t n a b => evRound rc l fn t n a b s
  | _ => none

def outFr (r : Option (Fr × S)) : Option (Out × S) := match r with
  | none => none
  | some (fr, s) => some (.fr .normal fr, s)
def evRegion (rc : Rec) (E : Env) (ops : List Oper) (draw : Bool) (fr : Fr) (s : S) : Option (Out × S) :=
  match draw with
  | false => outFr (opsLoop rc E ops ops fr s)
  | true => match stat ops with
    | none => none
    | some bef => outFr (drawnLoop rc E ops s.mark ops bef 0 [] s.rd s.wr fr s)

def evCode (rc : Rec) (E : Env) (c : Code) (fr : Fr) (s : S) : Option (Out × S) :=
  match c with
  | .skip => some (.fr .normal fr, s)
  | .label _ => some (.fr .normal fr, s)
  | .seq a b => match rc (.code a fr) s with
    | some (.fr .normal fr, s) => rc (.code b fr) s
    | r => r
  | .cond c a b => match fr.ev c with
    | some (.bool true) => rc (.code a fr) s
    | some (.bool false) => rc (.code b fr) s
    | _ => none
  | .block id body => match rc (.code body fr) s with
    | some (.fr (.exit i) fr, s) => match Nat.beq i id with
      | true => some (.fr .normal fr, s)
      | false => some (.fr (.exit i) fr, s)
    | r => r
  | .loop body => match rc (.code body fr) s with
    | some (.fr .normal fr, s) => rc (.code (.loop body) fr) s
    | r => r
  | .exit id => some (.fr (.exit id) fr, s)
  | .ret => some (.fr .ret fr, s)
  | .region _ ops draw => evRegion rc E ops.toList draw fr s
  | .rangeFunc f ps a b => evRange rc E f ps a b fr s
  | _ => none

def ev (E : Env) : Nat → Task → S → Option (Out × S)
  | 0, _, _ => none
  | fuel + 1, t, s => match t with
    | .code c fr => evCode (ev E fuel) E c fr s
    | .next n => evNext (ev E fuel) E n s
    | .leave fr => evLeave (ev E fuel) E fr s
end Go.AE
