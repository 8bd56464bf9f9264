/- The evaluator that costs less: operations that touch memory, regions, code; and that it says the same. No program is named here. -/
import Derived.Test.YtgofanjbhbeniaaDoorAe27
noncomputable section
namespace Go.AE
set_option linter.unusedVariables false
set_option linter.unusedSimpArgs false

/-- the memory's own steps -/
def amRun {α : Type} (t : AM α) : S → Option (α × S) :=
  AM.rec (motive := fun _ => S → Option (α × S)) (fun a s => some (a, s)) (fun _ => none)
    (fun n _ ih s => S.rec (motive := fun _ => Option (α × S)) (fun heap next mark rd wr => ifB (Nat.blt n next) (oc (heap.get n) fun o => force (bit mark n rd) fun rd => ih o ⟨heap, next, mark, rd, wr⟩) none) s)
    (fun n o _ ih s => S.rec (motive := fun _ => Option (α × S)) (fun heap next mark rd wr => ifB (Nat.blt n next && Nat.ble n lastName) (oc (heap.get n) fun _ => force (bit mark n wr) fun wr => ih ⟨heap.put n (some o), next, mark, rd, wr⟩) none) s)
    (fun o _ ih s => S.rec (motive := fun _ => Option (α × S)) (fun heap next mark rd wr => force next fun n => ifB (Nat.ble n lastName) (ih n ⟨heap.put n (some o), Nat.succ n, mark, rd, wr⟩) none) s)
    (fun n _ ih s => S.rec (motive := fun _ => Option (α × S)) (fun heap next mark rd wr => ifB (Nat.blt n next && Nat.ble n lastName) (oc (heap.get n) fun _ => force (bit mark n wr) fun wr => ih ⟨heap.put n none, next, mark, rd, wr⟩) none) s)
    t
theorem amRun_eq {α : Type} (t : AM α) : ∀ s, amRun t s = t.run s := by
  induction t with
  | pure a => intro s; rfl
  | fail => intro s; rfl
  | get n k ih =>
    intro s
    show ifB (Nat.blt n s.next) (oc (s.heap.get n) fun o => force (bit s.mark n s.rd) fun rd => amRun (k o) ⟨s.heap, s.next, s.mark, rd, s.wr⟩) none = _
    simp only [AM.run, force_eq, ih]
    cases Nat.blt n s.next with
    | false => rfl
    | true => cases s.heap.get n <;> rfl
  | set n o k ih =>
    intro s
    show ifB (Nat.blt n s.next && Nat.ble n lastName) (oc (s.heap.get n) fun _ => force (bit s.mark n s.wr) fun wr => amRun k ⟨s.heap.put n (some o), s.next, s.mark, s.rd, wr⟩) none = _
    simp only [AM.run, force_eq, ih]
    cases (Nat.blt n s.next && Nat.ble n lastName) with
    | false => rfl
    | true => cases s.heap.get n <;> rfl
  | new o k ih =>
    intro s
    show (force s.next fun n => ifB (Nat.ble n lastName) (amRun (k n) ⟨s.heap.put n (some o), Nat.succ n, s.mark, s.rd, s.wr⟩) none) = _
    simp only [AM.run, force_eq, ih]
    cases Nat.ble s.next lastName <;> rfl
  | del n k ih =>
    intro s
    show ifB (Nat.blt n s.next && Nat.ble n lastName) (oc (s.heap.get n) fun _ => force (bit s.mark n s.wr) fun wr => amRun k ⟨s.heap.put n none, s.next, s.mark, s.rd, wr⟩) none = _
    simp only [AM.run, force_eq, ih]
    cases (Nat.blt n s.next && Nat.ble n lastName) with
    | false => rfl
    | true => cases s.heap.get n <;> rfl

/-! where a value goes -/
abbrev Put := Value → Fr → S → Option (Fr × S)
def putFr (d : Nat) (g : Tr Value → Option Value → Tr Value) (v : Value) (fr : Fr) (s : S) : Option (Fr × S) :=
  Fr.rec (motive := fun _ => Option (Fr × S)) (fun fn tmps n defers round => ifB (Nat.blt d n) (some (⟨fn, g tmps (some v), n, defers, round⟩, s)) none) fr
def putB : Option Tmp → Box Put
  | none => ⟨fun _ fr s => some (fr, s)⟩
  | some d => bx (setB 30 10 d) fun g => ⟨putFr d g⟩
theorem putB_eq (dst : Option Tmp) (v : Value) (fr : Fr) (s : S) : (putB dst).un v fr s = onFr (fr.put dst v) s := by
  cases dst with
  | none => rfl
  | some d =>
    simp only [putB, bx_eq, un_mk, putFr, Fr.put]
    cases Nat.blt d fr.n with
    | false => rfl
    | true =>
      simp only [ifB, onFr, setB_eq]
      rfl

/-! one cell is read, one is written -/
def ad3 {β : Type} (a : Addr) (k : Nat → Nat → Option β) : Option β := Addr.rec (motive := fun _ => Option β) (fun b o sp => Option.rec (motive := fun _ => Option β) (k b o) (fun _ => none) sp) a
def asCells {β : Type} (o : AObj) (k : Tr Value → Nat → TypeId → Room → Option β) : Option β :=
  AObj.rec (motive := fun _ => Option β) k (fun _ _ => none) (fun _ _ _ _ => none) (fun _ _ _ _ _ _ _ _ _ => none) (fun _ => none) (fun _ _ _ => none) o
def asRead {β : Type} (o : AObj) (k : Tr Value → Nat → Option β) : Option β :=
  AObj.rec (motive := fun _ => Option β) (fun c m _ _ => k c m) (fun _ _ => none) (fun _ _ _ _ => none) (fun _ _ _ _ _ _ _ _ _ => none) (fun _ => none) (fun c m _ => k c m) o
def load1 {β : Type} (a : Addr) (s : S) (k : Value → S → Option β) : Option β :=
  ad3 a fun b off => S.rec (motive := fun _ => Option β) (fun heap next mark rd wr => ifB (Nat.blt b next) (oc (heap.get b) fun o => asRead o fun c m =>
    ifB (Nat.ble (Nat.add off 1) m) (oc (c.get (Nat.add off 0)) fun v => force (bit mark b rd) fun rd => k v ⟨heap, next, mark, rd, wr⟩) none) none) s
theorem load1_eq {β : Type} (i : TI) (hi : isAggD i.desc = false) (a : Addr) (s : S) (k : Value → S → Option β) :
    load1 a s k = match (loadT i a val).run s with | some (.value v, s) => k v s | _ => none := by
  unfold loadT loadA
  rw [hi]
  obtain ⟨b, off, sp⟩ := a
  simp only [load1, ad3]
  cases sp with
  | some _ => rfl
  | none =>
    simp only [AM.run]
    cases Nat.blt b s.next with
    | false => rfl
    | true =>
      simp only [ifB]
      cases s.heap.get b with
      | none => rfl
      | some o => cases o with
        | cells c m e r =>
          simp only [oc, asRead]
          cases Nat.ble (Nat.add off 1) m with
          | false => rfl
          | true =>
            simp only [when, ifB, rdCells]
            cases c.get (Nat.add off 0) with
            | none => rfl
            | some v => simp only [opt, force_eq, val, AM.run]
        | row c m e =>
          simp only [oc, asRead]
          cases Nat.ble (Nat.add off 1) m with
          | false => rfl
          | true =>
            simp only [when, ifB, rdCells]
            cases c.get (Nat.add off 0) with
            | none => rfl
            | some v => simp only [opt, force_eq, val, AM.run]
        | _ => rfl
def store1 (a : Addr) (v : Value) (s : S) (k : S → Option (Fr × S)) : Option (Fr × S) :=
  ad3 a fun b off => S.rec (motive := fun _ => Option (Fr × S)) (fun heap next mark rd wr => ifB (Nat.blt b next) (oc (heap.get b) fun o => asCells o fun c m e r =>
    ifB (Nat.ble (Nat.add off 1) m) (ifB (Nat.ble m lastName) (ifB (Nat.ble b lastName) (force (bit mark b rd) fun rd => force (bit mark b wr) fun wr => k ⟨heap.put b (some (.cells (c.put off (some v)) m e r)), next, mark, rd, wr⟩) none) none) none) none) s
theorem store1_eq (a : Addr) (v : Value) (hv : oneB v = true) (s : S) (k : S → Option (Fr × S)) :
    store1 a v s k = match (storeA a [v] (val undefV)).run s with | some (.value _, s) => k s | _ => none := by
  unfold storeA
  obtain ⟨b, off, sp⟩ := a
  simp only [store1, ad3]
  cases sp with
  | some _ => rfl
  | none =>
    have h1 : allOne [v] = true := by simp only [allOne, hv]
    simp only [h1, when, AM.run]
    cases hb : Nat.blt b s.next with
    | false => rfl
    | true =>
      simp only [ifB]
      cases hg : s.heap.get b with
      | none => rfl
      | some o => cases o with
        | cells c m e r =>
          simp only [oc, asCells]
          have e : Nat.ble (Nat.add off [v].length) m = Nat.ble (Nat.add off 1) m := rfl
          rw [e]
          cases Nat.ble (Nat.add off 1) m with
          | false => rfl
          | true =>
            simp only [ifB]
            cases Nat.ble m lastName with
            | false => rfl
            | true =>
              simp only [AM.run, hb, hg, wrCells, Bool.true_and]
              cases Nat.ble b lastName with
              | false => rfl
              | true => simp only [force_eq, val, AM.run]
        | _ => rfl

/-! what an operation comes to -/
def retK (k : Put) (fr : Fr) (p : Out × S) : Option (Fr × S) := Prod.rec (motive := fun _ => Option (Fr × S)) (fun o s => Out.rec (motive := fun _ => Option (Fr × S)) (fun _ _ => none) (fun v => k v fr s) o) p
def finN (dr : Bool) (dst : Option Tmp) (k : Put) (rc : Rec) (fr : Fr) (p : ANext × S) : Option (Fr × S) :=
  Prod.rec (motive := fun _ => Option (Fr × S)) (fun n s => ANext.rec (motive := fun _ => Option (Fr × S)) (fun v => k v fr s) (fun f args => oc (rc (.next (.enter f args)) s) (retK k fr))
    (fun l fn t n a b => oc (rc (.next (.round l fn t n a b)) s) (retK k fr)) (fun d => ifB dr none (onDefer fr d dst s)) n) p
def amOf (E : Env) (fr : Fr) : Op → AM ANext := fun o => aop E fr { (default : Oper) with op := o }
def amB (E : Env) : Op → Box (Fr → AM ANext)
  | .pick c a b => ⟨fun fr => aPick fr c a b⟩
  | .alloc t => ⟨fun _ => aAlloc E t⟩
  | .box t x => ⟨fun fr => aBox fr t x⟩
  | .build t parts => ⟨fun fr => aBuild E fr t parts⟩
  | .buildSlice t len parts => ⟨fun fr => aBuildSlice E fr t len parts⟩
  | .load t a => ⟨fun fr => aLoad E fr t a⟩
  | .store t a x => ⟨fun fr => aStore E fr t a x⟩
  | .nilCheck x => ⟨fun fr => aNil fr x⟩
  | .convert s d x => ⟨fun fr => aConvert E fr s d x⟩
  | .makeFunc fn first captured => ⟨fun fr => aMakeFunc fr fn first captured⟩
  | .makeMap t r => ⟨fun _ => aMakeMap t r⟩
  | .makeSlice t l c => ⟨fun fr => aMakeSlice E fr t l c⟩
  | .slice t x lo hi mx => ⟨fun fr => aSlice E fr t x lo hi mx⟩
  | .index t x ix => ⟨fun fr => aIndex E fr t x ix⟩
  | .lookup t m k ok => ⟨fun fr => aLookup E fr t m k ok⟩
  | .mapUpdate t m k x => ⟨fun fr => aUpdate E fr t m k x⟩
  | .call c => bx (evsB c.args.toList) fun g => match c.callee with
    | .builtin b => ⟨fun fr => opt (g fr.tmps) (builtinA E b c.argTypes)⟩
    | _ => ⟨fun fr => callA E fr c⟩
  | o => ⟨fun fr => amOf E fr o⟩
theorem amB_eq (E : Env) (fr : Fr) (o : Oper) : (amB E o.op).un fr = aop E fr o := by
  unfold aop
  cases ho : o.op <;> first | rfl | skip
  case call c =>
    simp only [amB, bx_eq, callA]
    cases hc : c.callee with
    | builtin b => simp only [un_mk, evsB_eq]; try rfl
    | _ => simp only [un_mk, callA, hc]

def runB (E : Env) (dr : Bool) (dst : Option Tmp) (k : Put) (o : Op) : Box (Rec → Fr → S → Option (Fr × S)) := match puB E o with
  | some b => bx b fun g => ⟨fun _ fr s => oc (g fr.tmps) fun v => k v fr s⟩
  | none => bx (amB E o) fun h => match o with
    | .load t a => match E.ty.get t with
      | none => ⟨fun _ _ _ => none⟩
      | some i => match isAggD i.desc with
        | false => bx (evB a) fun g => ⟨fun _ fr s => oc (g fr.tmps) fun v => asP v fun a => load1 a s fun v s => k v fr s⟩
        | true => ⟨fun rc fr s => oc (amRun (h fr) s) (finN dr dst k rc fr)⟩
    | .store t a x => match E.ty.get t with
      | none => ⟨fun _ _ _ => none⟩
      | some i => match Nat.beq 1 i.size with
        | true => bx (evB a) fun g => bx (evB x) fun gx => ⟨fun rc fr s => oc (gx fr.tmps) fun v => ifB (oneB v) (oc (g fr.tmps) fun a => asP a fun a => store1 a v s fun s => k undefV fr s) (oc (amRun (h fr) s) (finN dr dst k rc fr))⟩
        | false => ⟨fun rc fr s => oc (amRun (h fr) s) (finN dr dst k rc fr)⟩
    | _ => ⟨fun rc fr s => oc (amRun (h fr) s) (finN dr dst k rc fr)⟩

/-- as an operation is run -/
def runE (rc : Rec) (E : Env) (dr : Bool) (o : Oper) (fr : Fr) (s : S) : Option (Fr × S) := match (aop E fr o).run s with
    | none => none
    | some (n, s) => match n with
      | .value v => onFr (fr.put o.dst v) s
      | .defer d => match dr with
        | true => none
        | false => onDefer fr d o.dst s
      | n => match rc (.next n) s with
        | some (.val v, s) => onFr (fr.put o.dst v) s
        | _ => none
theorem finN_eq (rc : Rec) (E : Env) (dr : Bool) (o : Oper) (fr : Fr) (s : S) (am : AM ANext) (h : am = aop E fr o) : oc (amRun am s) (finN dr o.dst (putB o.dst).un rc fr) = runE rc E dr o fr s := by
  subst h
  rw [amRun_eq]
  unfold runE
  cases (aop E fr o).run s with
  | none => rfl
  | some p =>
    obtain ⟨n, s1⟩ := p
    cases n with
    | value v => simp only [oc, finN, putB_eq]
    | defer d => cases dr <;> rfl
    | enter f args =>
      simp only [oc, finN]
      cases rc (.next (.enter f args)) s1 with
      | none => rfl
      | some q => obtain ⟨o2, s2⟩ := q; cases o2 with
        | fr x fr2 => rfl
        | val v => simp only [retK, putB_eq]
    | round l fn t n a b =>
      simp only [oc, finN]
      cases rc (.next (.round l fn t n a b)) s1 with
      | none => rfl
      | some q => obtain ⟨o2, s2⟩ := q; cases o2 with
        | fr x fr2 => rfl
        | val v => simp only [retK, putB_eq]

theorem cells_one {v : Value} (h : oneB v = true) : v.cells.toList = [v] := by
  cases v <;> first | rfl | cases h
theorem runB_eq (rc : Rec) (E : Env) (dr : Bool) (o : Oper) (fr : Fr) (s : S) : (runB E dr o.dst (putB o.dst).un o.op).un rc fr s = runE rc E dr o fr s := by
  unfold runB
  cases hp : puB E o.op with
  | some b =>
    simp only [bx_eq, un_mk]
    have hpu := puB_eq E fr o b hp
    unfold runE
    rw [hpu]
    cases b.un fr.tmps with
    | none => rfl
    | some v => simp only [oc, opt, val, AM.run, putB_eq]
  | none =>
    have hgen : oc (amRun ((amB E o.op).un fr) s) (finN dr o.dst (putB o.dst).un rc fr) = runE rc E dr o fr s := finN_eq rc E dr o fr s _ (amB_eq E fr o)
    simp only [bx_eq]
    cases ho : o.op <;> simp only [un_mk] <;> rw [ho] at hgen <;> first | exact hgen | skip
    case load t a =>
      cases ht : E.ty.get t with
      | none =>
        simp only [un_mk]
        unfold runE aop
        rw [ho]
        simp only [aLoad, ht]
        cases fr.ev a with
        | none => rfl
        | some v => cases v <;> first | rfl | (rename_i x; cases x <;> rfl)
      | some i =>
        simp only
        cases hi : isAggD i.desc with
        | true => simp only [un_mk]; exact hgen
        | false =>
          simp only [un_mk, evB_eq]
          unfold runE aop
          rw [ho]
          simp only [aLoad, ht]
          cases fr.ev a with
          | none => rfl
          | some v => cases v <;> first | rfl | skip
                      rename_i x
                      cases x with
                      | none => rfl
                      | some ad =>
                        simp only [oc, asP, opt]
                        rw [load1_eq i hi]
                        have hval : ∀ n s1, (loadT i ad val).run s = some (n, s1) → ∃ v, n = .value v := by
                          intro n s1 h
                          unfold loadT loadA at h
                          rw [hi] at h
                          simp only at h
                          split at h
                          · cases h
                          · obtain ⟨o, _, h⟩ := run_get h
                            split at h
                            · obtain ⟨_, h⟩ := run_when h
                              obtain ⟨cs, _, h⟩ := run_opt h
                              split at h
                              · cases h; exact ⟨_, rfl⟩
                              · cases h
                            · obtain ⟨_, h⟩ := run_when h
                              obtain ⟨cs, _, h⟩ := run_opt h
                              split at h
                              · cases h; exact ⟨_, rfl⟩
                              · cases h
                            · cases h
                        cases hr : (loadT i ad val).run s with
                        | none => rfl
                        | some p =>
                          obtain ⟨n, s1⟩ := p
                          obtain ⟨v, rfl⟩ := hval n s1 hr
                          simp only [putB_eq]
    case store t a x =>
      cases ht : E.ty.get t with
      | none =>
        simp only [un_mk]
        unfold runE aop
        rw [ho]
        simp only [aStore, ht]
        cases fr.ev a with
        | none => rfl
        | some v => cases v <;> first | rfl | (rename_i y; cases y <;> first | rfl | (cases fr.ev x <;> rfl))
      | some i =>
        simp only
        cases hi : Nat.beq 1 i.size with
        | false => simp only [un_mk]; exact hgen
        | true =>
          simp only [un_mk, evB_eq]
          cases hx : fr.ev x with
          | none =>
            unfold runE aop
            rw [ho]
            simp only [aStore, hx]
            cases fr.ev a with
            | none => rfl
            | some v => cases v <;> first | rfl | (rename_i y; cases y <;> rfl)
          | some v =>
            simp only [oc]
            cases hv : oneB v with
            | false => simp only [ifB]; exact hgen
            | true =>
              simp only [ifB]
              unfold runE aop
              rw [ho]
              simp only [aStore, hx]
              cases fr.ev a with
              | none => rfl
              | some u => cases u <;> first | rfl | skip
                          rename_i y
                          cases y with
                          | none => rfl
                          | some ad =>
                            have h1 : i.size = 1 := (Nat.eq_of_beq_eq_true hi).symm
                            simp only [asP, oc, opt, ht, cells_one hv, h1, List.length_cons, List.length_nil]
                            have h2 : Nat.beq (0 + 1) 1 = true := rfl
                            rw [h2]
                            simp only [when]
                            rw [store1_eq ad v hv]
                            have hval : ∀ n s1, (storeA ad [v] (val undefV)).run s = some (n, s1) → n = .value undefV := by
                              intro n s1 h
                              unfold storeA at h
                              split at h
                              · cases h
                              · obtain ⟨_, h⟩ := run_when h
                                obtain ⟨o, _, h⟩ := run_get h
                                split at h
                                · obtain ⟨_, h⟩ := run_when h
                                  obtain ⟨_, h⟩ := run_when h
                                  obtain ⟨_, _, h⟩ := run_set h
                                  cases h; rfl
                                · cases h
                            cases hr : (storeA ad [v] (val undefV)).run s with
                            | none => rfl
                            | some p =>
                              obtain ⟨n, s1⟩ := p
                              obtain rfl := hval n s1 hr
                              simp only [putB_eq]
end Go.AE
