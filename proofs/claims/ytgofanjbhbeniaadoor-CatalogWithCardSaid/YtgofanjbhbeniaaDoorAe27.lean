/- The evaluator once more, in a form that costs the kernel less: what can be made ready of an operation, ahead of its runs, is made ready once. It says what the evaluator says. No program is named here. -/
import Derived.Test.YtgofanjbhbeniaaDoorAe26
noncomputable section
namespace Go.AE
set_option linter.unusedVariables false
set_option linter.unusedSimpArgs false

/-- what is ready -/
inductive Box (α : Type) where
  | mk (a : α)
def Box.un {α : Type} (b : Box α) : α := Box.rec (motive := fun _ => α) (fun a => a) b
def bx {α β : Type} (b : Box α) (k : α → β) : β := Box.rec (motive := fun _ => β) k b
theorem bx_eq {α β : Type} (b : Box α) (k : α → β) : bx b k = k b.un := by cases b; rfl
theorem un_mk {α : Type} (a : α) : (Box.mk a).un = a := rfl
def oc {α β : Type} (x : Option α) (k : α → Option β) : Option β := Option.rec (motive := fun _ => Option β) none k x
theorem oc_none {α β : Type} (k : α → Option β) : oc none k = none := rfl
theorem oc_some {α β : Type} (a : α) (k : α → Option β) : oc (some a) k = k a := rfl
def ifB {β : Type} (b : Bool) (y n : β) : β := Bool.rec (motive := fun _ => β) n y b

/-! places of a frame -/
def topT (t : Tr Value) : Option Value := Tr.rec (motive := fun _ => Option Value) none (fun v _ _ _ _ => v) t
def lfT (t : Tr Value) : Tr Value := Tr.rec (motive := fun _ => Tr Value) .nil (fun _ l _ _ _ => l) t
def rtT (t : Tr Value) : Tr Value := Tr.rec (motive := fun _ => Tr Value) .nil (fun _ _ r _ _ => r) t
def selB : Nat → Nat → Box (Tr Value → Option Value)
  | 0, n => ⟨fun t => t.get n⟩
  | _ + 1, 0 => ⟨topT⟩
  | d + 1, m + 1 => match Nat.beq (Nat.mod m 2) 0 with
    | true => bx (selB d (Nat.div m 2)) fun g => ⟨fun t => g (lfT t)⟩
    | false => bx (selB d (Nat.div m 2)) fun g => ⟨fun t => g (rtT t)⟩
theorem selB_eq : ∀ (d n : Nat) (t : Tr Value), (selB d n).un t = t.get n
  | 0, n, t => rfl
  | _ + 1, 0, t => by cases t <;> rfl
  | d + 1, m + 1, t => by
    unfold selB
    cases hb : Nat.beq (Nat.mod m 2) 0 <;> simp only [bx_eq, un_mk, selB_eq] <;> cases t with
      | nil => simp [lfT, rtT, Tr.get_nil]
      | node v l r => simp [Tr.get_succ, hb, lfT, rtT]
def setL (g : Tr Value → Option Value → Tr Value) (t : Tr Value) (x : Option Value) : Tr Value :=
  Tr.rec (motive := fun _ => Tr Value) (.node none (g .nil x) .nil) (fun v l r _ _ => .node v (g l x) r) t
def setR (g : Tr Value → Option Value → Tr Value) (t : Tr Value) (x : Option Value) : Tr Value :=
  Tr.rec (motive := fun _ => Tr Value) (.node none .nil (g .nil x)) (fun v l r _ _ => .node v l (g r x)) t
def setT (t : Tr Value) (x : Option Value) : Tr Value := Tr.rec (motive := fun _ => Tr Value) (.node x .nil .nil) (fun _ l r _ _ => .node x l r) t
def setB (e : Nat) : Nat → Nat → Box (Tr Value → Option Value → Tr Value)
  | 0, n => ⟨fun t x => Tr.set e t n x⟩
  | _ + 1, 0 => ⟨setT⟩
  | d + 1, m + 1 => match Nat.beq (Nat.mod m 2) 0 with
    | true => bx (setB e d (Nat.div m 2)) fun g => ⟨setL g⟩
    | false => bx (setB e d (Nat.div m 2)) fun g => ⟨setR g⟩
theorem setB_eq (e : Nat) : ∀ (d n : Nat) (t : Tr Value) (x : Option Value), (setB e d n).un t x = Tr.set (e + d) t n x
  | 0, n, t, x => rfl
  | d + 1, 0, t, x => by cases t <;> rfl
  | d + 1, m + 1, t, x => by
    unfold setB
    rw [show e + (d + 1) = (e + d) + 1 from rfl]
    cases hb : Nat.beq (Nat.mod m 2) 0 <;> simp only [bx_eq, un_mk] <;> cases t with
      | nil => rw [Tr.set_nil_succ, hb]; simp only [setL, setR, setB_eq e d]
      | node v l r => rw [Tr.set_node_succ, hb]; simp only [setL, setR, setB_eq e d]

def evB : Operand → Box (Tr Value → Option Value)
  | .tmp t => selB 10 t
  | .const v => match still v with | true => ⟨fun _ => some v⟩ | false => ⟨fun _ => none⟩
  | .global _ => ⟨fun _ => none⟩
  | .func f => ⟨fun _ => some (.func (.func f) #[] #[])⟩
theorem evB_eq (x : Operand) (fr : Fr) : (evB x).un fr.tmps = fr.ev x := by
  cases x with
  | tmp t => exact selB_eq 10 t fr.tmps
  | const v => simp only [evB, Fr.ev]; cases still v <;> rfl
  | _ => rfl
def evsB : List Operand → Box (Tr Value → Option (List Value))
  | [] => ⟨fun _ => some []⟩
  | x :: l => bx (evB x) fun g => bx (evsB l) fun h => ⟨fun t => oc (g t) fun v => oc (h t) fun vs => some (v :: vs)⟩
theorem evsB_eq (fr : Fr) : ∀ l : List Operand, (evsB l).un fr.tmps = fr.evs l
  | [] => rfl
  | x :: l => by
    simp only [evsB, bx_eq, un_mk, evB_eq, evsB_eq fr l, Fr.evs]
    cases fr.ev x with
    | none => rfl
    | some v => simp only [oc_some]; cases fr.evs l <;> rfl

/-! values, by their kinds -/
def asI {β : Type} (v : Value) (k : IntKind → Int → Option β) (e : Option β) : Option β :=
  Value.casesOn (motive_1 := fun _ => Option β) v (fun _ => e) k (fun _ _ => e) (fun _ _ _ => e) (fun _ => e) (fun _ => e) (fun _ _ _ => e) (fun _ => e) (fun _ => e) (fun _ _ _ => e) e (fun _ _ => e) e (fun _ => e) (fun _ => e)
def asP {β : Type} (v : Value) (k : Addr → Option β) : Option β :=
  Value.casesOn (motive_1 := fun _ => Option β) v (fun _ => none) (fun _ _ => none) (fun _ _ => none) (fun _ _ _ => none) (fun _ => none) (fun a => oc a k) (fun _ _ _ => none) (fun _ => none) (fun _ => none) (fun _ _ _ => none) none (fun _ _ => none) none (fun _ => none) (fun _ => none)
def asSl {β : Type} (v : Value) (k : Option Addr → Nat → Nat → Option β) : Option β :=
  Value.casesOn (motive_1 := fun _ => Option β) v (fun _ => none) (fun _ _ => none) (fun _ _ => none) (fun _ _ _ => none) (fun _ => none) (fun _ => none) k (fun _ => none) (fun _ => none) (fun _ _ _ => none) none (fun _ _ => none) none (fun _ => none) (fun _ => none)
def asAgg {β : Type} (v : Value) (k : Array Value → Option β) : Option β :=
  Value.casesOn (motive_1 := fun _ => Option β) v (fun _ => none) (fun _ _ => none) (fun _ _ => none) (fun _ _ _ => none) (fun _ => none) (fun _ => none) (fun _ _ _ => none) (fun _ => none) (fun _ => none) (fun _ _ _ => none) none (fun _ _ => none) none k (fun _ => none)
def asTup {β : Type} (v : Value) (k : Array Value → Option β) : Option β :=
  Value.casesOn (motive_1 := fun _ => Option β) v (fun _ => none) (fun _ _ => none) (fun _ _ => none) (fun _ _ _ => none) (fun _ => none) (fun _ => none) (fun _ _ _ => none) (fun _ => none) (fun _ => none) (fun _ _ _ => none) none (fun _ _ => none) none (fun _ => none) k
def asNat {β : Type} (n : Int) (k : Nat → Option β) : Option β := Int.rec (motive := fun _ => Option β) k (fun _ => none) n
def fI {β : Type} (n : Int) (k : Int → β) : β := Int.rec (motive := fun _ => β) (fun m => force m fun m => k (.ofNat m)) (fun m => force m fun m => k (.negSucc m)) n
theorem fI_eq {β : Type} (n : Int) (k : Int → β) : fI n k = k n := by cases n <;> simp only [fI, force_eq]
def kno (k : IntKind) : Nat := IntKind.rec (motive := fun _ => Nat) 0 1 2 3 4 5 6 7 k
def kindB (k k' : IntKind) : Bool := Nat.beq (kno k) (kno k')
theorem kindB_eq (k k' : IntKind) : kindB k k' = decide (k = k') := by cases k <;> cases k' <;> rfl

/-! sums and the like -/
def addI (a b : Int) : Int := Int.rec (motive := fun _ => Int) (fun x => Int.rec (motive := fun _ => Int) (fun y => .ofNat (Nat.add x y)) (fun y => Int.add (.ofNat x) (.negSucc y)) b) (fun x => Int.add (.negSucc x) b) a
theorem addI_eq (a b : Int) : addI a b = Int.add a b := by cases a <;> cases b <;> rfl
def mulI (a b : Int) : Int := Int.rec (motive := fun _ => Int) (fun x => Int.rec (motive := fun _ => Int) (fun y => .ofNat (Nat.mul x y)) (fun y => Int.mul (.ofNat x) (.negSucc y)) b) (fun x => Int.mul (.negSucc x) b) a
theorem mulI_eq (a b : Int) : mulI a b = Int.mul a b := by cases a <;> cases b <;> rfl
def okI (k : IntKind) (n : Int) : Option Value := fI n fun n => some (.int k n)
theorem okI_eq (k : IntKind) (n : Int) : okI k n = some (.int k n) := fI_eq n _
def arB : BinOp → Box (IntKind → Int → Int → Option Value)
  | .add => ⟨fun k x y => okI k (wrapA k (addI x y))⟩
  | .sub => ⟨fun k x y => okI k (wrapA k (Int.sub x y))⟩
  | .mul => ⟨fun k x y => okI k (wrapA k (mulI x y))⟩
  | .eql => ⟨fun k x y => some (.bool (eqI x y))⟩
  | .neq => ⟨fun k x y => some (.bool (not (eqI x y)))⟩
  | .lss => ⟨fun k x y => some (.bool (ltI x y))⟩
  | .leq => ⟨fun k x y => some (.bool (not (ltI y x)))⟩
  | .gtr => ⟨fun k x y => some (.bool (ltI y x))⟩
  | .geq => ⟨fun k x y => some (.bool (not (ltI x y)))⟩
  | .and => ⟨fun k x y => oc (bitsA .and k x y) (okI k)⟩
  | .or => ⟨fun k x y => oc (bitsA .or k x y) (okI k)⟩
  | .xor => ⟨fun k x y => oc (bitsA .xor k x y) (okI k)⟩
  | op => ⟨fun k x y => arithA op k x y⟩
theorem arB_eq (op : BinOp) (k : IntKind) (x y : Int) : (arB op).un k x y = arithA op k x y := by
  cases op <;> simp only [arB, un_mk, arithA, okI_eq, addI_eq, mulI_eq]
  all_goals (cases h : bitsA _ k x y <;> simp only [oc_none, oc_some, okI_eq])
def inB : BinOp → Box (IntKind → Int → IntKind → Int → Option Value)
  | .shl => ⟨fun k x _ y => shiftA .shl k x y⟩
  | .shr => ⟨fun k x _ y => shiftA .shr k x y⟩
  | op => bx (arB op) fun g => ⟨fun k x k' y => ifB (kindB k k') (g k x y) none⟩
theorem inB_eq (op : BinOp) (k : IntKind) (x : Int) (k' : IntKind) (y : Int) : (inB op).un k x k' y = intA op k x k' y := by
  have h : ∀ op, (bx (arB op) fun g => (⟨fun k x k' y => ifB (kindB k k') (g k x y) none⟩ : Box (IntKind → Int → IntKind → Int → Option Value))).un k x k' y = if k = k' then arithA op k x y else none := by
    intro op
    simp only [bx_eq, un_mk, arB_eq, kindB_eq]
    by_cases hk : k = k'
    · simp [hk, ifB]
    · simp [hk, ifB]
  cases op
  case add => exact h .add
  case sub => exact h .sub
  case mul => exact h .mul
  case quo => exact h .quo
  case rem => exact h .rem
  case and => exact h .and
  case or => exact h .or
  case xor => exact h .xor
  case shl => exact rfl
  case shr => exact rfl
  case andNot => exact h .andNot
  case eql => exact h .eql
  case neq => exact h .neq
  case lss => exact h .lss
  case leq => exact h .leq
  case gtr => exact h .gtr
  case geq => exact h .geq
def bnB (E : Env) (t : TypeId) : BinOp → Box (Value → Value → Option Value)
  | .eql => bx (inB .eql) fun g => ⟨fun a b => asI a (fun k x => asI b (fun k' y => g k x k' y) (binA E .eql t a b)) (binA E .eql t a b)⟩
  | .neq => bx (inB .neq) fun g => ⟨fun a b => asI a (fun k x => asI b (fun k' y => g k x k' y) (binA E .neq t a b)) (binA E .neq t a b)⟩
  | op => bx (inB op) fun g => ⟨fun a b => asI a (fun k x => asI b (fun k' y => g k x k' y) none) none⟩
theorem bnB_eq (E : Env) (t : TypeId) (op : BinOp) (a b : Value) : (bnB E t op).un a b = binA E op t a b := by
  cases op <;> simp only [bnB, bx_eq, un_mk] <;> cases a <;> simp only [asI] <;> first | rfl | (cases b <;> first | rfl | exact inB_eq _ _ _ _ _)

/-! operations that touch no memory -/
def addF (a : Addr) (n : Nat) : Addr := Addr.rec (motive := fun _ => Addr) (fun b o sp => Nat.rec (motive := fun _ => Addr) ⟨b, o, sp⟩ (fun k _ => force (Nat.add o (Nat.succ k)) fun o => ⟨b, o, none⟩) n) a
theorem addF_eq (a : Addr) (n : Nat) : addF a n = addA a n := by
  cases n with
  | zero => cases a; rfl
  | succ k => cases a; simp only [addF, force_eq, addA]
def ptrO (a : Addr) : Option Value := some (.pointer (some a))
def ixB (E : Env) (i : TI) : Box (Value → Value → Option Value) := match i.desc with
  | .slice e => match E.ty.get e with
    | none => ⟨fun _ _ => none⟩
    | some j => ⟨fun x v => asSl x fun a len _ => oc a fun a => asI v (fun _ n => asNat n fun n => ifB (Nat.blt n len) (ptrO (addF a (Nat.mul n j.size))) none) none⟩
  | .array len e => match E.ty.get e with
    | none => ⟨fun _ _ => none⟩
    | some j => ⟨fun x v => asP x fun a => asI v (fun _ n => asNat n fun n => ifB (Nat.blt n len) (ptrO (addF a (Nat.mul n j.size))) none) none⟩
  | _ => ⟨fun _ _ => none⟩
def faB (E : Env) (i : TI) (f : Nat) : Box (Value → Option Value) := match i.desc with
  | .struct fs => match fieldAt? fs.toList f with
    | none => ⟨fun _ => none⟩
    | some fd => match E.ty.get fd.type with
      | none => ⟨fun _ => none⟩
      | some j => match Nat.ble 1 j.size with
        | false => ⟨fun _ => none⟩
        | true => ⟨fun x => asP x fun a => ptrO (addF a fd.offset)⟩
  | _ => ⟨fun _ => none⟩
def fdB (E : Env) (i : TI) (f : Nat) : Box (Value → Option Value) := match i.desc with
  | .struct fs => match fieldAt? fs.toList f with
    | none => ⟨fun _ => none⟩
    | some fd => match E.ty.get fd.type with
      | none => ⟨fun _ => none⟩
      | some j => ⟨fun x => asAgg x fun cs => partA j cs.toList fd.offset⟩
  | _ => ⟨fun _ => none⟩
def cvB (i j : TI) : Option (Box (Value → Option Value)) := match j.desc with
  | .int k => some ⟨fun x => asI x (fun _ n => okI k (wrapA k n)) none⟩
  | _ => none
/-- is it one of them? -/
def puB (E : Env) : Op → Option (Box (Tr Value → Option Value))
  | .move x | .assign x => some (evB x)
  | .binOp op t x y _ => some (bx (evB x) fun g => bx (evB y) fun h => bx (bnB E t op) fun k => ⟨fun t => oc (g t) fun a => oc (h t) fun b => k a b⟩)
  | .unOp op _ x => some (bx (evB x) fun g => ⟨fun t => oc (g t) fun a => unA op a⟩)
  | .convert s d x => match E.ty.get d, E.ty.get s with
    | some j, some i => match cvB i j with
      | some b => some (bx (evB x) fun g => bx b fun h => ⟨fun t => oc (g t) h⟩)
      | none => none
    | _, _ => none
  | .indexAddr t x ix => match E.ty.get t with
    | some i => some (bx (evB x) fun g => bx (evB ix) fun h => bx (ixB E i) fun k => ⟨fun t => oc (g t) fun a => oc (h t) fun b => k a b⟩)
    | none => none
  | .fieldAddr t x f => match E.ty.get t with
    | some i => some (bx (evB x) fun g => bx (faB E i f) fun k => ⟨fun t => oc (g t) k⟩)
    | none => none
  | .field t x f => match E.ty.get t with
    | some i => some (bx (evB x) fun g => bx (fdB E i f) fun k => ⟨fun t => oc (g t) k⟩)
    | none => none
  | .extract x i => some (bx (evB x) fun g => ⟨fun t => oc (g t) fun v => asTup v fun vs => oc (dropL i vs.toList) fun l => List.rec (motive := fun _ => Option Value) none (fun v _ _ => some v) l⟩)
  | _ => none

theorem opt_oc {α β : Type} {x : Option α} {k : α → Option β} {h : β → AM ANext} : opt (oc x k) h = opt x fun a => opt (k a) h := by cases x <;> rfl
theorem ix_eq (E : Env) (fr : Fr) (t : TypeId) (x ix : Operand) (i : TI) (hi : E.ty.get t = some i) :
    aIndexAddr E fr t x ix = opt (oc (fr.ev x) fun a => oc (fr.ev ix) fun b => (ixB E i).un a b) val := by
  unfold aIndexAddr ixB
  rw [hi]
  simp only [opt]
  cases fr.ev x with
  | none => cases hd : i.desc <;> rfl
  | some a =>
    cases fr.ev ix with
    | none => cases hd : i.desc <;> first | rfl | (cases a <;> first | rfl | (rename_i o _ _; cases o <;> rfl) | (rename_i o; cases o <;> rfl))
    | some b =>
      cases hd : i.desc with
      | slice e =>
        dsimp only [oc]
        cases he : E.ty.get e with
        | none => cases a <;> first | rfl | (rename_i o _ _; cases o <;> first | rfl | (cases b <;> first | rfl | (rename_i n; cases n <;> first | rfl | (simp only [he]; rfl))))
        | some j => cases a <;> first | rfl | (rename_i o len _; cases o <;> first | rfl | (cases b <;> first | rfl | (rename_i n; cases n <;> first | rfl | (rename_i n; simp only [he, un_mk, asSl, oc, asI, asNat, addF_eq, ptrO]; cases Nat.blt n len <;> rfl))))
      | array len e =>
        dsimp only [oc]
        cases he : E.ty.get e with
        | none => cases a <;> first | rfl | (rename_i o; cases o <;> first | rfl | (cases b <;> first | rfl | (rename_i n; cases n <;> first | rfl | (simp only [he]; rfl))))
        | some j => cases a <;> first | rfl | (rename_i o; cases o <;> first | rfl | (cases b <;> first | rfl | (rename_i n; cases n <;> first | rfl | (rename_i n; simp only [he, un_mk, asP, oc, asI, asNat, addF_eq, ptrO]; cases Nat.blt n len <;> rfl))))
      | _ => rfl
theorem fa_eq (E : Env) (fr : Fr) (t : TypeId) (x : Operand) (f : Nat) (i : TI) (hi : E.ty.get t = some i) :
    aFieldAddr E fr t x f = opt (oc (fr.ev x) (faB E i f).un) val := by
  unfold aFieldAddr faB
  rw [hi]
  simp only [opt]
  cases fr.ev x with
  | none => cases hd : i.desc <;> rfl
  | some a =>
    cases hd : i.desc with
    | struct fs =>
      dsimp only [oc]
      cases hf : fieldAt? fs.toList f with
      | none => dsimp only; cases a <;> first | rfl | (rename_i o; cases o <;> first | rfl | (simp only [hf]; rfl))
      | some fd =>
        dsimp only
        cases he : E.ty.get fd.type with
        | none => dsimp only; cases a <;> first | rfl | (rename_i o; cases o <;> first | rfl | (simp only [hf, he]; rfl))
        | some j =>
          dsimp only
          cases hb : Nat.ble 1 j.size <;> cases a <;> first | rfl | (rename_i o; cases o <;> first | rfl | (simp only [hf, he, hb, when, un_mk, asP, oc, addF_eq, ptrO]; try rfl))
    | _ => rfl
theorem fd_eq (E : Env) (fr : Fr) (t : TypeId) (x : Operand) (f : Nat) (i : TI) (hi : E.ty.get t = some i) :
    aField E fr t x f = opt (oc (fr.ev x) (fdB E i f).un) val := by
  unfold aField fdB
  rw [hi]
  simp only [opt]
  cases fr.ev x with
  | none => cases hd : i.desc <;> rfl
  | some a =>
    cases hd : i.desc with
    | struct fs =>
      dsimp only [oc]
      cases hf : fieldAt? fs.toList f with
      | none => dsimp only; cases a <;> first | rfl | (simp only [hf]; rfl)
      | some fd =>
        dsimp only
        cases he : E.ty.get fd.type with
        | none => dsimp only; cases a <;> first | rfl | (simp only [hf, he]; rfl)
        | some j => dsimp only; cases a <;> first | rfl | (simp only [hf, he, un_mk, asAgg, oc]; try rfl)
    | _ => rfl

theorem puB_eq (E : Env) (fr : Fr) (o : Oper) (b : Box (Tr Value → Option Value)) (h : puB E o.op = some b) : aop E fr o = opt (b.un fr.tmps) val := by
  unfold aop
  cases ho : o.op <;> rw [ho] at h <;> simp only [puB, Option.some.injEq, reduceCtorEq] at h
  case move x => subst h; rw [evB_eq]
  case assign x => subst h; rw [evB_eq]
  case binOp op t x y t' =>
    subst h
    simp only [bx_eq, un_mk, evB_eq, bnB_eq, aBin, opt_oc]
  case unOp op t x =>
    subst h
    simp only [bx_eq, un_mk, evB_eq, opt_oc]
  case convert s d x =>
    split at h
    · rename_i j i hj hi
      unfold cvB at h
      split at h
      · rename_i b' hb'
        split at hb'
        · rename_i k hk
          cases hb'; cases h
          simp only [aConvert, hj, hi, hk, opt, bx_eq, un_mk, evB_eq, oc]
          cases fr.ev x with
          | none => rfl
          | some v => cases v <;> first | rfl | (simp only [asI, okI_eq])
        · cases hb'
      · cases h
    · cases h
  case indexAddr t x ix =>
    split at h
    · rename_i i hi
      cases h
      simp only [bx_eq, un_mk, evB_eq]
      exact ix_eq E fr t x ix i hi
    · cases h
  case fieldAddr t x f =>
    split at h
    · rename_i i hi
      cases h
      simp only [bx_eq, un_mk, evB_eq]
      exact fa_eq E fr t x f i hi
    · cases h
  case field t x f =>
    split at h
    · rename_i i hi
      cases h
      simp only [bx_eq, un_mk, evB_eq]
      exact fd_eq E fr t x f i hi
    · cases h
  case extract x i =>
    subst h
    simp only [bx_eq, un_mk, evB_eq, aExtract]
    cases fr.ev x with
    | none => rfl
    | some v => cases v <;> first | rfl | (simp only [oc, asTup]; rename_i vs; cases dropL i vs.toList with
      | none => rfl
      | some l => cases l <;> rfl)
end Go.AE
