/- The named memory, and what each operation does to it. No program is named here. -/
import Derived.Test.YtgofanjbhbeniaaDoorAe0
import Derived.Test.YtgofanjbhbeniaaDoorAe1
noncomputable section
namespace Go.AE
set_option linter.unusedVariables false
set_option linter.unusedSimpArgs false

/-- how a row of cells stands to its real block: all of it is known; there may be more room; there may be, but another one has it -/
inductive Room where
  | whole | loose | sealed
  deriving DecidableEq

inductive AObj where
  | cells (c : Tr Value) (n : Nat) (elem : TypeId) (room : Room)
  | map (es : List MapEntry) (clock : Nat)
  | mapIter (m : Option Nat) (since : Nat) (seen : List Nat) (stepped : Nat)
  | loop (state : LoopState) (pending : Option Code) (fn : FuncId) (tmps : Tr Value) (n : Nat) (params : List Tmp) (assign body : Code) (defers : Nat)
  | deferred (ds : Option (List Deferred))
  | row (c : Tr Value) (n : Nat) (elem : TypeId)

structure S where
  heap : Tr AObj
  next : Nat
  mark : Nat
  rd : Nat
  wr : Nat

def force {α : Type} (n : Nat) (k : Nat → α) : α := match n with | 0 => k 0 | m + 1 => k (Nat.succ m)
theorem force_eq {α : Type} (n : Nat) (k : Nat → α) : force n k = k n := by cases n <;> rfl

def bit (mark n : Nat) (l : Nat) : Nat := match Nat.ble mark n with
  | true => l
  | false => Nat.lor l (Nat.shiftLeft 1 n)

inductive AM (α : Type) : Type where
  | pure (a : α)
  | fail
  | get (n : Nat) (k : AObj → AM α)
  | set (n : Nat) (o : AObj) (k : AM α)
  | new (o : AObj) (k : Nat → AM α)
  | del (n : Nat) (k : AM α)

def lastName : Nat := 500000000000

def AM.run {α : Type} : AM α → S → Option (α × S)
  | .pure a, s => some (a, s)
  | .fail, _ => none
  | .get n k, s => match Nat.blt n s.next with
    | false => none
    | true => match s.heap.get n with
      | none => none
      | some o => (k o).run ⟨s.heap, s.next, s.mark, bit s.mark n s.rd, s.wr⟩
  | .set n o k, s => match Nat.blt n s.next && Nat.ble n lastName with
    | false => none
    | true => match s.heap.get n with
      | none => none
      | some _ => k.run ⟨s.heap.put n (some o), s.next, s.mark, s.rd, bit s.mark n s.wr⟩
  | .del n k, s => match Nat.blt n s.next && Nat.ble n lastName with
    | false => none
    | true => match s.heap.get n with
      | none => none
      | some _ => k.run ⟨s.heap.put n none, s.next, s.mark, s.rd, bit s.mark n s.wr⟩
  | .new o k, s => force s.next fun n => match Nat.ble n lastName with
    | false => none
    | true => (k n).run ⟨s.heap.put n (some o), Nat.succ n, s.mark, s.rd, s.wr⟩

/-- what is known of a type -/
structure TI where
  size : Nat
  bytes : Nat
  desc : TypeDesc
  zero : Option Value
  guard : Bool

/-- what is known of a function; ext: 1, 2: the two of math/bits that have no text -/
structure FI where
  body : Option Code
  ntmps : Nat
  results : List ResultVar
  ext : Nat

structure Env where
  ty : Tr TI
  fn : Tr FI

def flat : Value → Bool
  | .bool _ | .int _ _ | .string _ | .pointer none | .map none | .nilFunc | .nilIface => true
  | .slice none 0 0 => true
  | .func (.func _) ⟨[]⟩ ⟨[]⟩ => true
  | _ => false
def allFlat : List Value → Bool
  | [] => true
  | v :: l => match flat v with | true => allFlat l | false => false
def still : Value → Bool
  | .agg ⟨l⟩ => allFlat l
  | .tuple ⟨l⟩ => allFlat l
  | v => flat v

def FI.of (g : Func) : FI :=
  { body := match g.body with | none => none | some c => if g.name = "runtime.NumGoroutine" then none else some c, ntmps := g.ntmps, results := g.results.toList,
    ext := match g.body with | some _ => 0 | none => if g.name = "math/bits.Add64" then 1 else if g.name = "math/bits.Sub64" then 2 else 0 }
def TI.of (P : Program) (t : Nat) : TI := match P.info? t, P.underlying t with
  | some i, some d => { size := i.size, bytes := i.bytes, desc := d, zero := match i.zero with | none => none | some z => match still z with | true => some z | false => none, guard := P.eqGuardType P.depth t || P.stoodInHeld t }
  | _, _ => { size := 0, bytes := 0, desc := .invalid, zero := none, guard := true }
def Env.of (P : Program) : Env where
  ty := Tr.ofList ((List.range P.types.size).map (TI.of P))
  fn := Tr.ofList (P.funcs.toList.map FI.of)

structure Fr where
  fn : FuncId
  tmps : Tr Value
  n : Nat
  defers : List Deferred
  round : Option Nat

inductive ANext where
  | value (v : Value)
  | enter (f : FuncId) (args : List Value)
  | round (l : Nat) (fn : FuncId) (tmps : Tr Value) (n : Nat) (assign body : Code)
  | defer (d : Deferred)

/-- from here on a cap says: so many, or more -/
def OPEN : Nat := 4611686018427387904

def Fr.ev (fr : Fr) : Operand → Option Value
  | .tmp t => fr.tmps.get t
  | .const v => match still v with | true => some v | false => none
  | .global _ => none
  | .func f => some (.func (.func f) #[] #[])

def Fr.evs (fr : Fr) : List Operand → Option (List Value)
  | [] => some []
  | x :: l => match fr.ev x with
    | none => none
    | some v => match fr.evs l with
      | none => none
      | some vs => some (v :: vs)

def opt {α β : Type} (x : Option α) (k : α → AM β) : AM β := match x with | none => .fail | some a => k a
def when {β : Type} (b : Bool) (k : AM β) : AM β := match b with | true => k | false => .fail

def rdCells (c : Tr Value) (off : Nat) : Nat → List Value → Option (List Value)
  | 0, acc => some acc
  | k + 1, acc => match c.get (Nat.add off k) with
    | none => none
    | some v => rdCells c off k (v :: acc)
def wrCells (c : Tr Value) (off : Nat) : List Value → Tr Value
  | [] => c
  | v :: l => wrCells (c.put off (some v)) (Nat.succ off) l

def loadA {β : Type} (a : Addr) (n : Nat) (k : List Value → AM β) : AM β :=
  match a.spot with
  | some _ => .fail
  | none => .get a.block fun
    | .cells c m _ _ => when (Nat.ble (Nat.add a.off n) m) (opt (rdCells c a.off n []) k)
    | .row c m _ => when (Nat.ble (Nat.add a.off n) m) (opt (rdCells c a.off n []) k)
    | _ => .fail
def oneB : Value → Bool
  | .agg _ | .tuple _ => false
  | _ => true
def allOne : List Value → Bool
  | [] => true
  | v :: l => match oneB v with | true => allOne l | false => false
def storeA {β : Type} (a : Addr) (vs : List Value) (k : AM β) : AM β :=
  match a.spot with
  | some _ => .fail
  | none => when (allOne vs) (.get a.block fun
    | .cells c m e r => when (Nat.ble (Nat.add a.off vs.length) m) (when (Nat.ble m lastName) (.set a.block (.cells (wrCells c a.off vs) m e r) k))
    | _ => .fail)
def newA {β : Type} (elem : TypeId) (vs : List Value) (r : Room) (k : Nat → AM β) : AM β :=
  when (Nat.ble vs.length lastName) (.new (.cells (Tr.ofList vs) vs.length elem r) k)

def isAggD : TypeDesc → Bool
  | .struct _ | .array _ _ => true
  | _ => false

def val (v : Value) : AM ANext := .pure (.value v)
def undefV : Value := .tuple #[]

def takeL : Nat → List Value → Option (List Value)
  | 0, _ => some []
  | n + 1, v :: l => match takeL n l with | none => none | some r => some (v :: r)
  | _ + 1, [] => none
def dropL : Nat → List Value → Option (List Value)
  | 0, l => some l
  | n + 1, _ :: l => dropL n l
  | _ + 1, [] => none
def partA (i : TI) (cs : List Value) (off : Nat) : Option Value :=
  match dropL off cs with
  | none => none
  | some l => match isAggD i.desc with
    | true => match takeL i.size l with
      | none => none
      | some r => some (.agg ⟨r⟩)
    | false => match l with
      | [] => none
      | v :: _ => some v

/-- vs over cs, from off on -/
def over : Nat → List Value → List Value → Option (List Value)
  | 0, [], cs => some cs
  | 0, v :: vs, _ :: cs => match over 0 vs cs with | none => none | some r => some (v :: r)
  | 0, _ :: _, [] => none
  | n + 1, vs, c :: cs => match over n vs cs with | none => none | some r => some (c :: r)
  | _ + 1, _, [] => none
def fillA (place : Nat → Option (Nat × Nat)) : List (Nat × Value) → List Value → Option (List Value)
  | [], cs => some cs
  | (i, v) :: rest, cs => match place i with
    | none => none
    | some (off, size) => match Nat.beq v.cells.toList.length size with
      | false => none
      | true => match over off v.cells.toList cs with
        | none => none
        | some cs => fillA place rest cs
def evParts (fr : Fr) : List (Nat × Operand) → Option (List (Nat × Value))
  | [] => some []
  | (i, x) :: l => match fr.ev x with
    | none => none
    | some v => match evParts fr l with
      | none => none
      | some r => some ((i, v) :: r)
def fieldAt? : List Field → Nat → Option Field
  | [], _ => none
  | f :: _, 0 => some f
  | _ :: l, n + 1 => fieldAt? l n
def repeatL (z : List Value) : Nat → List Value
  | 0 => []
  | n + 1 => z ++ repeatL z n

/-- are two values the same? -/
def nilEq {α β : Type} : Option α → Option β → Option Bool
  | none, none => some true
  | none, some _ => some false
  | some _, none => some false
  | some _, some _ => none
def eqBytes : List UInt8 → List UInt8 → Bool
  | [], [] => true
  | a :: l, b :: r => match Nat.beq a.toNat b.toNat with
    | true => eqBytes l r
    | false => false
  | _, _ => false
def eqBool : Bool → Bool → Bool
  | true, true => true
  | false, false => true
  | _, _ => false
def arrB (i j : TI) (n : Nat) (xs ys : List Value) : Bool :=
  match i.guard, isAggD j.desc with
  | false, false => Nat.beq j.size 1 && Nat.beq xs.length n && Nat.beq ys.length n
  | _, _ => false
mutual
def eqV (E : Env) : Nat → TypeId → Value → Value → Option Bool
  | 0, _, _, _ => none
  | d + 1, t, x, y => match E.ty.get t with
    | none => none
    | some i => match i.desc, x, y with
      | .bool, .bool a, .bool b => some (eqBool a b)
      | .int _, .int k a, .int k' b => if k = k' then some (eqI a b) else none
      | .string, .string a, .string b => some (eqBytes a.data.toList b.data.toList)
      | .struct fs, .agg ⟨xs⟩, .agg ⟨ys⟩ => match i.guard with
        | true => none
        | false => eqFs E d fs.toList xs ys
      | .array n e, .agg ⟨xs⟩, .agg ⟨ys⟩ => match E.ty.get e with
        | none => none
        | some j => match arrB i j n xs ys with
          | true => eqEs E d e xs ys
          | false => none
      | .pointer _, .pointer a, .pointer b => nilEq a b
      | .map _ _, .map a, .map b => nilEq a b
      | .slice _, .slice a _ _, .slice b _ _ => nilEq a b
      | .func _ _ _, .nilFunc, .nilFunc => some true
      | .func _ _ _, .nilFunc, .func _ _ _ => some false
      | .func _ _ _, .func _ _ _, .nilFunc => some false
      | _, _, _ => none
def eqFs (E : Env) : Nat → List Field → List Value → List Value → Option Bool
  | 0, _, _, _ => none
  | _ + 1, [], _, _ => some true
  | d + 1, f :: fs, xs, ys => if f.name = "_" then none else match E.ty.get f.type with
      | none => none
      | some j => match partA j xs f.offset, partA j ys f.offset with
        | some a, some b => match eqV E d f.type a b with
          | some true => eqFs E d fs xs ys
          | r => r
        | _, _ => none
def eqEs (E : Env) : Nat → TypeId → List Value → List Value → Option Bool
  | 0, _, _, _ => none
  | _ + 1, _, [], [] => some true
  | d + 1, e, x :: xs, y :: ys => match eqV E d e x y with
    | some true => eqEs E d e xs ys
    | r => r
  | _ + 1, _, _, _ => none
end

def someB : Option Bool → Bool → Option Value
  | none, _ => none
  | some b, true => some (.bool b)
  | some b, false => some (.bool (not b))
def eqTop (E : Env) (t : TypeId) (x y : Value) : Option Bool := match x, y with
  | .nilIface, _ => none
  | .int _ _, _ => none
  | .string a, .string b => some (eqBytes a.data.toList b.data.toList)
  | x, y => eqV E 1000 t x y
def binA (E : Env) (op : BinOp) (t : TypeId) (x y : Value) : Option Value :=
  match x, y with
  | .int k a, .int k' b => intA op k a k' b
  | x, y => match op with
    | .eql => someB (eqTop E t x y) true
    | .neq => someB (eqTop E t x y) false
    | _ => none

def unA (op : UnOp) (x : Value) : Option Value :=
  match op, x with
  | .neg, .int k n => some (.int k (wrapA k (Int.sub 0 n)))
  | .xor, .int k n => match bitsA .xor k (match k.signed with | true => .negSucc 0 | false => .ofNat (Nat.sub (maskOf k) 1)) n with
    | none => none
    | some r => some (.int k r)
  | .not, .bool b => some (.bool (not b))
  | _, _ => none

def intOf? : Value → Option Nat
  | .int _ (.ofNat n) => some n
  | _ => none
def addA (a : Addr) (n : Nat) : Addr := match n with
  | 0 => a
  | k + 1 => ⟨a.block, Nat.add a.off (Nat.succ k), none⟩

def lowHigh (fr : Fr) (x : Option Operand) (d : Nat) : Option Nat := match x with
  | none => some d
  | some o => match fr.ev o with
    | none => none
    | some v => intOf? v

/-- a slice of a slice -/
def known (cap : Nat) : Nat := match Nat.ble OPEN cap with | true => Nat.sub cap OPEN | false => cap
def addIf (a : Addr) (m l size : Nat) : Addr := match Nat.beq m l with | true => a | false => addA a (Nat.mul l size)
def sliceM (size : Nat) (base : Option Addr) (cap l h m : Nat) : AM ANext :=
  when (Nat.ble l h && Nat.ble h m && Nat.ble m (known cap) && Nat.blt m OPEN) (match base with
    | none => val (.slice none 0 0)
    | some a => match a.spot with
      | some _ => .fail
      | none => val (.slice (some (addIf a m l size)) (Nat.sub h l) (Nat.sub m l)))
def sliceE (size : Nat) (base : Option Addr) (cap l h : Nat) : AM ANext :=
  when (Nat.ble l h && Nat.ble h cap) (match base with
    | none => val (.slice none 0 0)
    | some a => val (.slice (some (addIf a cap l size)) (Nat.sub h l) (Nat.sub cap l)))
def sliceO (size : Nat) (a : Addr) (c l h : Nat) : AM ANext :=
  match a.spot with
  | some _ => .fail
  | none => when (Nat.ble l h && Nat.ble h c) (match Nat.beq c l with
    | false => val (.slice (some (addA a (Nat.mul l size))) (Nat.sub h l) (Nat.add OPEN (Nat.sub c l)))
    | true => .get a.block fun
      | .cells d m e .loose => when (Nat.beq (Nat.add a.off (Nat.mul l size)) m) (.set a.block (.cells d m e .sealed)
          (.new (.cells .nil 0 e .loose) fun r => val (.slice (some ⟨r, 0, none⟩) 0 OPEN)))
      | .cells d m e .sealed => when (Nat.beq (Nat.add a.off (Nat.mul l size)) m) (val (.slice (some ⟨a.block, a.off, some 0⟩) 0 OPEN))
      | _ => .fail)
def sliceA (size : Nat) (base : Option Addr) (cap : Nat) (l h : Nat) (mx : Option Nat) : AM ANext :=
  match mx with
  | some m => sliceM size base cap l h m
  | none => match Nat.ble OPEN cap with
    | false => sliceE size base cap l h
    | true => match base with
      | none => .fail
      | some a => sliceO size a (Nat.sub cap OPEN) l h

def lenA : Value → Option Nat
  | .slice _ n _ => some n
  | .string s => some s.size
  | _ => none
def bytesA : List UInt8 → List Value
  | [] => []
  | b :: l => .int .u8 (.ofNat b.toNat) :: bytesA l
/-- the first cells of what is appended or copied -/
def firstA {β : Type} (size n : Nat) (x : Value) (k : List Value → AM β) : AM β :=
  match x with
  | .slice (some a) _ _ => match n with
    | 0 => k []
    | _ => loadA a (Nat.mul n size) k
  | .slice none _ _ => match n with
    | 0 => k []
    | _ => .fail
  | .string s => when (Nat.beq size 1) (opt (takeL n (bytesA s.data.toList)) k)
  | _ => .fail

def maxNeed : Nat := 1073741824

def growA (elem : TypeId) (zs : Nat) (size : Nat) (vs : List Value) (need : Nat) : AM ANext :=
  when (Nat.beq zs size) (newA elem vs .loose fun r => val (.slice (some ⟨r, 0, none⟩) need (Nat.add OPEN need)))
def inPlace (size : Nat) (a : Addr) (len cap n : Nat) (new : List Value) : AM ANext := match new with
  | [] => val (.slice (some a) len cap)
  | _ => storeA (addA a (Nat.mul len size)) new (val (.slice (some a) (Nat.add len n) cap))
def appendL (zs size : Nat) (elem : TypeId) (a : Addr) (len c n : Nat) (new : List Value) : AM ANext := match a.spot with
  | some _ => .fail
  | none => .get a.block fun
    | .cells d m e .loose => when (Nat.beq (Nat.add a.off (Nat.mul c size)) m && Nat.ble len c && Nat.beq e elem && allOne new)
        (opt (rdCells d a.off (Nat.mul len size) []) fun old => .del a.block (growA elem zs size (old ++ new) (Nat.add len n)))
    | _ => .fail
def appendA (zs size bytes : Nat) (elem : TypeId) (base : Option Addr) (len cap : Nat) (n : Nat) (x : Value) : AM ANext :=
  when (Nat.ble 1 size && Nat.ble (Nat.add len n) maxNeed && Nat.ble bytes 1024) (
  firstA size n x fun new =>
  match base with
  | none => match n with
    | 0 => val (.slice none 0 0)
    | _ => growA elem zs size new n
  | some a => match Nat.ble OPEN cap with
    | false => match Nat.ble (Nat.add len n) cap with
      | true => inPlace size a len cap n new
      | false => loadA a (Nat.mul len size) fun old => growA elem zs size (old ++ new) (Nat.add len n)
    | true => match Nat.ble (Nat.add len n) (Nat.sub cap OPEN) with
      | true => inPlace size a len cap n new
      | false => appendL zs size elem a len (Nat.sub cap OPEN) n new)

def copyA (size : Nat) (dst : Option Addr) (dLen : Nat) (src : Value) (sLen : Nat) : AM ANext :=
  firstA size (minN sLen dLen) src fun cs =>
  match dst, cs with
  | _, [] => val (.int .i64 (.ofNat (minN sLen dLen)))
  | some a, cs => storeA a cs (val (.int .i64 (.ofNat (minN sLen dLen))))
  | none, _ => .fail

def minMax (mx : Bool) : List Value → Option Value
  | [] => none
  | .int k x :: rest => go k x rest
  | _ => none
where
  go (k : IntKind) (x : Int) : List Value → Option Value
    | [] => some (.int k x)
    | .int _ y :: rest => go k (match mx with | true => (match ltI x y with | true => y | false => x) | false => (match ltI y x with | true => y | false => x)) rest
    | _ => none

/-- keys that are whole numbers -/
def findI (k : Int) : List MapEntry → Nat → Option (Option (Nat × Value))
  | [], _ => some none
  | e :: es, i => match e.key with
    | .int .i64 n => match eqI k n with
      | true => some (some (i, e.val))
      | false => findI k es (Nat.succ i)
    | _ => none
def updI (es : List MapEntry) (i : Nat) (k : Value) (v : Value) : List MapEntry :=
  match es, i with
  | [], _ => []
  | e :: l, 0 => { e with key := k, val := v } :: l
  | e :: l, i + 1 => e :: updI l i k v
def dropI (es : List MapEntry) (i : Nat) : List MapEntry :=
  match es, i with
  | [], _ => []
  | _ :: l, 0 => l
  | e :: l, i + 1 => e :: dropI l i
def isIntD : TypeDesc → Bool
  | .int .i64 => true
  | _ => false

def clearA (E : Env) (i : TI) (base : Option Addr) (len : Nat) : AM ANext := match i.desc with
  | .slice e => match len with
    | 0 => val undefV
    | n + 1 => match base with
      | none => .fail
      | some a => opt (E.ty.get e) fun j => opt j.zero fun z => when (Nat.ble 1 z.cells.toList.length) (storeA a (repeatL z.cells.toList (n + 1)) (val undefV))
  | _ => .fail
def builtinA (E : Env) (b : Builtin) (argTypes : Array TypeId) (args : List Value) : AM ANext :=
  match b, argTypes.toList, args with
  | .len, t :: _, [x] => opt (E.ty.get t) fun i => match i.desc, x with
    | .slice _, .slice _ n _ => val (.int .i64 (.ofNat n))
    | .string, .string s => val (.int .i64 (.ofNat s.size))
    | .array n _, _ => val (.int .i64 (.ofNat n))
    | .map _ _, .map none => val (.int .i64 (.ofNat 0))
    | .map _ _, .map (some r) => .get r fun | .map es _ => val (.int .i64 (.ofNat es.length)) | _ => .fail
    | _, _ => .fail
  | .append, t :: t2 :: _, [.slice base len cap, x] => opt (E.ty.get t) fun i => opt (E.ty.get t2) fun i2 => match i.desc, i2.desc with
    | .slice _, .int _ => .fail
    | .slice e, _ => opt (E.ty.get e) fun j => opt j.zero fun z => opt (lenA x) fun n => appendA z.cells.toList.length j.size j.bytes e base len cap n x
    | _, _ => .fail
  | .copy, t :: _, [.slice base len _, x] => opt (E.ty.get t) fun i => match i.desc with
    | .slice e => opt (E.ty.get e) fun j => opt (lenA x) fun n => copyA j.size base len x n
    | _ => .fail
  | .max, _, args => opt (minMax true args) val
  | .min, _, args => opt (minMax false args) val
  | .clear, t :: _, [.slice base len _] => opt (E.ty.get t) fun i => clearA E i base len
  | .delete, t :: _, [.map (some r), .int .i64 k] => opt (E.ty.get t) fun i => match i.desc with
    | .map kt _ => opt (E.ty.get kt) fun j => when (isIntD j.desc) (.get r fun
      | .map es clock => opt (findI k es 0) fun
        | some (i, _) => .set r (.map (dropI es i) clock) (val undefV)
        | none => .set r (.map es clock) (val undefV)
      | _ => .fail)
    | _ => .fail
  | _, _, _ => .fail

def setAll (t : Tr Value) : List Tmp → List Value → Option (Tr Value)
  | [], [] => some t
  | p :: ps, v :: vs => setAll (t.put p (some v)) ps vs
  | _, _ => none
def allBelow (n : Nat) : List Nat → Bool
  | [] => true
  | p :: ps => match Nat.blt p n with | true => allBelow n ps | false => false

def natOf? : Value → Option Nat
  | .int _ (.ofNat n) => some n
  | _ => none
def two64 : Nat := 18446744073709551616
def extA (k : Nat) (args : List Value) : Option Value :=
  match args with
  | [x, y, c] => match natOf? x, natOf? y, natOf? c with
    | some x, some y, some c => match Nat.ble c 1, k with
      | true, 1 => some (.tuple ⟨[.int .u64 (.ofNat (Nat.mod (Nat.add (Nat.add x y) c) two64)), .int .u64 (.ofNat (Nat.div (Nat.add (Nat.add x y) c) two64))]⟩)
      | true, 2 => some (.tuple ⟨[.int .u64 (.ofNat (Nat.mod (Nat.sub (Nat.sub (Nat.add x two64) y) c) two64)), .int .u64 (.ofNat (match Nat.blt x (Nat.add y c) with | true => 1 | false => 0))]⟩)
      | _, _ => none
    | _, _, _ => none
  | _ => none
def targetA (E : Env) (fn : Fn) (captured : List Value) (args : List Value) : AM ANext :=
  match fn with
  | .func f => opt (E.fn.get f) fun g => match g.body with
    | some _ => .pure (.enter f (args ++ captured))
    | none => opt (extA g.ext (args ++ captured)) val
  | .yield l => .get l fun
    | .loop _ _ fn tmps n params assign body _ => when (allBelow n params && Nat.ble n lastName) (opt (setAll tmps params args) fun t => .pure (.round l fn t n assign body))
    | _ => .fail
  | _ => .fail

def callA (E : Env) (fr : Fr) (c : Call) : AM ANext :=
  opt (fr.evs c.args.toList) fun args =>
  match c.callee with
  | .builtin b => builtinA E b c.argTypes args
  | .value f => match fr.ev f with
    | some (.func fn ⟨first⟩ ⟨captured⟩) => targetA E fn captured (first ++ args)
    | _ => .fail
  | .invoke _ _ => .fail

def deferA (fr : Fr) (c : Call) : AM ANext :=
  match fr.round with
  | some _ => .fail
  | none => opt (fr.evs c.args.toList) fun args => match c.callee with
    | .value f => match fr.ev f with
      | some (.func (.func g) ⟨first⟩ captured) => .pure (.defer { target := .fn (.func g) captured, args := ⟨first ++ args⟩ })
      | _ => .fail
    | _ => .fail

def lookOut (u : TI) (ok : Bool) (r : Option (Nat × Value)) : AM ANext := match r with
  | some (_, v) => val (match ok with | true => .tuple #[v, .bool true] | false => v)
  | none => opt u.zero fun z => val (match ok with | true => .tuple #[z, .bool false] | false => z)
def lookupA (E : Env) (t : TypeId) (m k : Value) (ok : Bool) : AM ANext :=
  opt (E.ty.get t) fun i => match i.desc, k with
  | .map kt vt, .int .i64 n => opt (E.ty.get kt) fun j => opt (E.ty.get vt) fun u => when (isIntD j.desc) (match m with
    | .map none => lookOut u ok none
    | .map (some r) => .get r fun
      | .map es _ => opt (findI n es 0) (lookOut u ok)
      | _ => .fail
    | _ => .fail)
  | _, _ => .fail

def updateA (E : Env) (t : TypeId) (m k v : Value) : AM ANext :=
  opt (E.ty.get t) fun i => match i.desc, m, k with
  | .map kt _, .map (some r), .int .i64 n => opt (E.ty.get kt) fun j => when (isIntD j.desc) (.get r fun
    | .map es clock => opt (findI n es 0) fun
      | some (i, _) => .set r (.map (updI es i k v) clock) (val undefV)
      | none => .set r (.map (es ++ [⟨k, v, clock⟩]) (Nat.succ clock)) (val undefV)
    | _ => .fail)
  | _, _, _ => .fail

def memN (n : Nat) : List Nat → Bool
  | [] => false
  | m :: l => match Nat.beq m n with | true => true | false => memN n l
def unseen (seen : List Nat) : List MapEntry → List MapEntry
  | [] => []
  | e :: l => match memN e.born seen with | true => unseen seen l | false => e :: unseen seen l
def allOld (n : Nat) : List MapEntry → Bool
  | [] => true
  | e :: l => match Nat.blt e.born n with | true => allOld n l | false => false

def aPick (fr : Fr) (c a b : Operand) : AM ANext := match fr.ev c with
    | some (.bool true) => opt (fr.ev a) val
    | some (.bool false) => opt (fr.ev b) val
    | _ => .fail
def ptr (r : Nat) : AM ANext := val (.pointer (some ⟨r, 0, none⟩))
def aAlloc (E : Env) (t : TypeId) : AM ANext := opt (E.ty.get t) fun i => opt i.zero fun z => newA t z.cells.toList .whole ptr
def aBox (fr : Fr) (t : TypeId) (x : Operand) : AM ANext := opt (fr.ev x) fun v => newA t v.cells.toList .whole ptr
def placesA (E : Env) : List Field → Option (List (Nat × Nat))
  | [] => some []
  | f :: l => match E.ty.get f.type with
    | none => none
    | some j => match placesA E l with
      | none => none
      | some r => some ((f.offset, j.size) :: r)
def nthP : List (Nat × Nat) → Nat → Option (Nat × Nat)
  | [], _ => none
  | a :: _, 0 => some a
  | _ :: l, n + 1 => nthP l n
def placeA (size : Nat) (i : Nat) : Option (Nat × Nat) := some (Nat.mul i size, size)
def aBuild (E : Env) (fr : Fr) (t : TypeId) (parts : Array (Nat × Operand)) : AM ANext :=
  opt (E.ty.get t) fun i => opt i.zero fun z => opt (evParts fr parts.toList) fun ps => match i.desc with
    | .struct fs => opt (placesA E fs.toList) fun pl => opt (fillA (nthP pl) ps z.cells.toList) fun cs => val (.agg ⟨cs⟩)
    | .array _ e => opt (E.ty.get e) fun j => opt (fillA (placeA j.size) ps z.cells.toList) fun cs => val (.agg ⟨cs⟩)
    | _ => .fail
def aBuildSlice (E : Env) (fr : Fr) (t : TypeId) (len : Nat) (parts : Array (Nat × Operand)) : AM ANext :=
  opt (E.ty.get t) fun i => opt (evParts fr parts.toList) fun ps => match i.desc with
    | .slice e => opt (E.ty.get e) fun j => opt j.zero fun z => when (Nat.ble (Nat.mul len j.size) 1048576 && Nat.beq z.cells.toList.length j.size && Nat.ble 1 j.size)
        (opt (fillA (placeA j.size) ps (repeatL z.cells.toList len)) fun cs =>
          newA e cs .whole fun r => val (.slice (some ⟨r, 0, none⟩) len len))
    | _ => .fail
def loadT {β : Type} (i : TI) (ad : Addr) (k : Value → AM β) : AM β := match isAggD i.desc with
  | true => loadA ad i.size fun cs => k (.agg ⟨cs⟩)
  | false => loadA ad 1 fun
    | [v] => k v
    | _ => .fail
def aLoad (E : Env) (fr : Fr) (t : TypeId) (a : Operand) : AM ANext := match fr.ev a with
    | some (.pointer (some ad)) => opt (E.ty.get t) fun i => loadT i ad val
    | _ => .fail
def aStore (E : Env) (fr : Fr) (t : TypeId) (a x : Operand) : AM ANext := match fr.ev a, fr.ev x with
    | some (.pointer (some ad)), some v => opt (E.ty.get t) fun i => when (Nat.beq v.cells.toList.length i.size) (match i.size with
      | 0 => val undefV
      | _ => storeA ad v.cells.toList (val undefV))
    | _, _ => .fail
def aNil (fr : Fr) (x : Operand) : AM ANext := match fr.ev x with
    | some (.pointer (some a)) => val (.pointer (some a))
    | some (.func (.func f) a b) => val (.func (.func f) a b)
    | some (.func (.yield f) a b) => val (.func (.yield f) a b)
    | _ => .fail
def aBin (E : Env) (fr : Fr) (op : BinOp) (t : TypeId) (x y : Operand) : AM ANext := opt (fr.ev x) fun a => opt (fr.ev y) fun b => opt (binA E op t a b) val
def bytesOf : List Value → Option (List UInt8)
  | [] => some []
  | .int .u8 n :: l => match bytesOf l with
    | none => none
    | some r => some (UInt8.ofNat n.toNat :: r)
  | _ => none
def aConvert (E : Env) (fr : Fr) (s d : TypeId) (x : Operand) : AM ANext := opt (E.ty.get d) fun j => opt (E.ty.get s) fun i => match j.desc, fr.ev x with
    | .int k, some (.int _ n) => val (.int k (wrapA k n))
    | .string, some (.slice a len _) => match i.desc with
      | .slice e => opt (E.ty.get e) fun b => match b.desc, a with
        | .int .u8, none => val (.string ⟨⟨[]⟩⟩)
        | .int .u8, some a => loadA a len fun cs => opt (bytesOf cs) fun bs => val (.string ⟨⟨bs⟩⟩)
        | _, _ => .fail
      | _ => .fail
    | _, _ => .fail
def aMakeFunc (fr : Fr) (fn : Fn) (first captured : Array Operand) : AM ANext := match fn with
    | .func f => opt (fr.evs first.toList) fun a => opt (fr.evs captured.toList) fun b => val (.func (.func f) ⟨a⟩ ⟨b⟩)
    | _ => .fail
def aMakeMap (t : TypeId) (r : Option Operand) : AM ANext := match r with
    | none => .new (.map [] 0) fun r => val (.map (some r))
    | some _ => .fail
def aMakeSlice (E : Env) (fr : Fr) (t : TypeId) (l c : Operand) : AM ANext := match fr.ev l, fr.ev c with
    | some (.int .i64 (.ofNat l)), some (.int .i64 (.ofNat c)) => opt (E.ty.get t) fun i => match i.desc with
      | .slice e => opt (E.ty.get e) fun j => opt j.zero fun z => when (Nat.ble l c && Nat.ble c maxNeed && Nat.ble j.bytes 1024 && Nat.beq z.cells.toList.length j.size && Nat.ble 1 j.size)
          (newA e (repeatL z.cells.toList c) .whole fun r => val (.slice (some ⟨r, 0, none⟩) l c))
      | _ => .fail
    | _, _ => .fail
def sliceP (size : Nat) (a : Addr) (n l h : Nat) : AM ANext :=
  when (Nat.ble l h && Nat.ble h n && Nat.blt n OPEN) (val (.slice (some (addIf a n l size)) (Nat.sub h l) (Nat.sub n l)))
def aSlice (E : Env) (fr : Fr) (t : TypeId) (x : Operand) (lo hi mx : Option Operand) : AM ANext := opt (E.ty.get t) fun i => match i.desc, fr.ev x with
    | .slice e, some (.slice base len cap) => opt (E.ty.get e) fun j => opt (lowHigh fr lo 0) fun l => opt (lowHigh fr hi len) fun h => match mx with
      | none => sliceA j.size base cap l h none
      | some m => match hi with
        | none => .fail
        | some _ => opt (lowHigh fr (some m) 0) fun m => sliceA j.size base cap l h (some m)
    | .array n e, some (.pointer (some a)) => opt (E.ty.get e) fun j => opt (lowHigh fr lo 0) fun l => opt (lowHigh fr hi n) fun h => match mx with
      | none => sliceP j.size a n l h
      | some _ => .fail
    | _, _ => .fail
def aFieldAddr (E : Env) (fr : Fr) (s : TypeId) (x : Operand) (f : Nat) : AM ANext := opt (E.ty.get s) fun i => match i.desc, fr.ev x with
    | .struct fs, some (.pointer (some a)) => opt (fieldAt? fs.toList f) fun fd => opt (E.ty.get fd.type) fun j => when (Nat.ble 1 j.size) (val (.pointer (some (addA a fd.offset))))
    | _, _ => .fail
def aField (E : Env) (fr : Fr) (t : TypeId) (x : Operand) (f : Nat) : AM ANext := opt (E.ty.get t) fun i => match i.desc, fr.ev x with
    | .struct fs, some (.agg ⟨cs⟩) => opt (fieldAt? fs.toList f) fun fd => opt (E.ty.get fd.type) fun j => opt (partA j cs fd.offset) val
    | _, _ => .fail
def aIndexAddr (E : Env) (fr : Fr) (t : TypeId) (x ix : Operand) : AM ANext := opt (E.ty.get t) fun i => match i.desc, fr.ev x, fr.ev ix with
    | .slice e, some (.slice (some a) len _), some (.int _ (.ofNat n)) => opt (E.ty.get e) fun j => when (Nat.blt n len) (val (.pointer (some (addA a (Nat.mul n j.size)))))
    | .array len e, some (.pointer (some a)), some (.int _ (.ofNat n)) => opt (E.ty.get e) fun j => when (Nat.blt n len) (val (.pointer (some (addA a (Nat.mul n j.size)))))
    | _, _, _ => .fail
def byteAt : List UInt8 → Nat → Option Value
  | [], _ => none
  | b :: _, 0 => some (.int .u8 (.ofNat b.toNat))
  | _ :: l, n + 1 => byteAt l n
def aIndex (E : Env) (fr : Fr) (t : TypeId) (x ix : Operand) : AM ANext := opt (E.ty.get t) fun i => match i.desc, fr.ev x, fr.ev ix with
    | .array len e, some (.agg ⟨cs⟩), some (.int _ (.ofNat n)) => opt (E.ty.get e) fun j => when (Nat.blt n len) (opt (partA j cs (Nat.mul n j.size)) val)
    | .string, some (.string s), some (.int _ (.ofNat n)) => opt (byteAt s.data.toList n) val
    | _, _, _ => .fail
def aLookup (E : Env) (fr : Fr) (t : TypeId) (m k : Operand) (ok : Bool) : AM ANext := opt (fr.ev m) fun m => opt (fr.ev k) fun k => lookupA E t m k ok
def aUpdate (E : Env) (fr : Fr) (t : TypeId) (m k x : Operand) : AM ANext := opt (fr.ev m) fun m => opt (fr.ev k) fun k => opt (fr.ev x) fun v => updateA E t m k v
def aRange (E : Env) (fr : Fr) (t : TypeId) (x : Operand) : AM ANext := opt (E.ty.get t) fun i => match i.desc, fr.ev x with
    | .map _ _, some (.map none) => .new (.mapIter none 0 [] 0) ptr
    | .map _ _, some (.map (some m)) => .get m fun
      | .map _ clock => .new (.mapIter (some m) clock [] clock) ptr
      | _ => .fail
    | _, _ => .fail
def aNext (fr : Fr) (it : Operand) : AM ANext := match fr.ev it with
    | some (.pointer (some ⟨r, 0, _⟩)) => .get r fun
      | .mapIter none _ _ _ => val (.tuple #[.bool false])
      | .mapIter (some m) since seen last => .get m fun
        | .map es clock => when (allOld since es && Nat.ble since last) (match unseen seen es with
          | [] => val (.tuple #[.bool false])
          | [e] => .set r (.mapIter (some m) since (seen ++ [e.born]) clock) (val (.tuple #[.bool true, e.key, e.val]))
          | _ => .fail)
        | _ => .fail
      | _ => .fail
    | _ => .fail
def lastN : List Nat → Option Nat
  | [] => none
  | [a] => some a
  | _ :: l => lastN l
def bornAt (n : Nat) : List MapEntry → Option MapEntry
  | [] => none
  | e :: l => match Nat.beq e.born n with | true => some e | false => bornAt n l
def aEntry (fr : Fr) (it : Operand) : AM ANext := match fr.ev it with
    | some (.pointer (some ⟨r, 0, _⟩)) => .get r fun
      | .mapIter (some m) _ seen st => opt (lastN seen) fun b => .get m fun
        | .map es clock => when (Nat.beq clock st) (opt (bornAt b es) fun e => val (.tuple #[e.key, e.val]))
        | _ => .fail
      | _ => .fail
    | _ => .fail
def aExtract (fr : Fr) (t : Operand) (i : Nat) : AM ANext := match fr.ev t with
    | some (.tuple ⟨vs⟩) => match dropL i vs with
      | some (v :: _) => val v
      | _ => .fail
    | _ => .fail

def aop (E : Env) (fr : Fr) (o : Oper) : AM ANext :=
  match o.op with
  | .move x | .assign x => opt (fr.ev x) val
  | .pick c a b => aPick fr c a b
  | .alloc t => aAlloc E t
  | .box t x => aBox fr t x
  | .build t parts => aBuild E fr t parts
  | .buildSlice t len parts => aBuildSlice E fr t len parts
  | .load t a => aLoad E fr t a
  | .store t a x => aStore E fr t a x
  | .nilCheck x => aNil fr x
  | .binOp op t x y _ => aBin E fr op t x y
  | .unOp op _ x => opt (fr.ev x) fun a => opt (unA op a) val
  | .convert s d x => aConvert E fr s d x
  | .makeFunc fn first captured => aMakeFunc fr fn first captured
  | .makeMap t r => aMakeMap t r
  | .makeSlice t l c => aMakeSlice E fr t l c
  | .slice t x lo hi mx => aSlice E fr t x lo hi mx
  | .fieldAddr s x f => aFieldAddr E fr s x f
  | .field t x f => aField E fr t x f
  | .indexAddr t x ix => aIndexAddr E fr t x ix
  | .index t x ix => aIndex E fr t x ix
  | .lookup t m k ok => aLookup E fr t m k ok
  | .mapUpdate t m k x | .insert t m k x => aUpdate E fr t m k x
  | .range t x => aRange E fr t x
  | .next it false => aNext fr it
  | .entry it => aEntry fr it
  | .extract t i => aExtract fr t i
  | .call c => callA E fr c
  | .defer c => deferA fr c
  | _ => .fail
end Go.AE
