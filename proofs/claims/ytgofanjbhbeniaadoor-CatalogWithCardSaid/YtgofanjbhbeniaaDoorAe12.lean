/- Maps and the builtin functions over the named memory do what they do in the world. No program is named here. -/
import Derived.Test.YtgofanjbhbeniaaDoorAe11
noncomputable section
namespace Go.AE
set_option linter.unusedVariables false
set_option linter.unusedSimpArgs false

def AObj.isRow : AObj → Bool
  | .cells _ _ _ _ => true
  | .row _ _ _ => true
  | _ => false

section
variable {P : Program} {E : Env} {q : Free} {ρ : Ren} {s s' : S} {w : World} {fr : Fr} {e : Operand → Value} {nx : ANext}

theorem OR.rowIff {base ex : Nat} {o : AObj} {obj : Obj} (h : OR P ρ base ex o obj) : o.isRow = true ↔ ∃ c t f, obj = .cells c t f := by
  cases h <;> simp [AObj.isRow]
theorem getObj_run {b : Nat} {obj : Obj} (hb : w.heap[b]? = some obj) {base ex : Nat} {o : AObj} (h : OR P ρ base ex o obj) (hr : o.isRow = false) : (getObj b).run P w = .ok obj w := by
  cases h <;> first | (simp [AObj.isRow] at hr; done) | simp [getObj, Sem.run, hb]

theorem setO_sim {β : Type} (hR : Rep P q ρ s w) {n b base ex : Nat} {o o1 : AObj} {obj obj1 : Obj} (hn : s.heap.get n = some o) (hρ : ρ n = some (b, base, ex)) (hb : w.heap[b]? = some obj)
    (hor : OR P ρ base ex o obj) (hr : o.isRow = false) (hor1 : OR P ρ base ex o1 obj1) (hr1 : o1.isRow = false) {k : AM β} {r} (h : (AM.set n o1 k).run s = some r) :
    ∃ s1, k.run s1 = some r ∧ Rep P q ρ s1 { w with heap := w.heap.setIfInBounds b obj1 } ∧ Evo ρ w ρ { w with heap := w.heap.setIfInBounds b obj1 } ∧ (setObj b obj1).run P w = .ok () { w with heap := w.heap.setIfInBounds b obj1 } := by
  obtain ⟨_, hw, h⟩ := run_set h
  have hlt : b < w.heap.size := (Array.getElem?_eq_some_iff.1 hb).1
  have hlo : ∀ (q : AObj), q.isRow = false → ∀ bs, q.lo bs = 0 := by intro q hq bs; cases q <;> first | rfl | (simp [AObj.isRow] at hq)
  have hhi : ∀ (q : AObj), q.isRow = false → ∀ bs ex, q.hi P bs ex = bs + 1 := by intro q hq bs ex; cases q <;> first | rfl | (simp [AObj.isRow] at hq)
  have ht := Rep.turn (P := P) (s1 := s.turn n (some o1)) (w1 := { w with heap := w.heap.setIfInBounds b obj1 }) hR hn hρ (fun m => turn_get hw _ m) rfl (by simp [hlt]) (by intro c hc; simp [Array.getElem?_setIfInBounds, show ¬ b = c from fun h => hc h.symm]) (by simp)
    hor1 (by rw [hlo _ hr, hlo _ hr1]) (by rw [hhi _ hr, hhi _ hr1]; exact Nat.le_refl _)
    (by
      intro m o' base' ex' obj' hne eo _ eρ eobj hor'
      rw [hb] at eobj; cases eobj
      have hr' : o'.isRow = false := by
        cases hq : o'.isRow with
        | false => rfl
        | true =>
          obtain ⟨c, t, f, hc⟩ := hor'.rowIff.1 hq
          have := hor.rowIff.2 ⟨c, t, f, hc⟩
          rw [hr] at this; cases this
      exact absurd (hR.apart n m o o' b base ex base' ex' (fun h => hne h.symm) hn eo hρ eρ 0 (by rw [hlo _ hr]; exact Nat.le_refl _) (by rw [hhi _ hr]; omega) (by rw [hlo _ hr']; exact Nat.le_refl _) (by rw [hhi _ hr']; omega)) (fun h => h)) (hfo := by cases o <;> first | rfl | (simp [AObj.isRow] at hr)) (hf1 := by cases o1 <;> first | rfl | (simp [AObj.isRow] at hr1))
  refine ⟨_, h, ht.1, ht.2, ?_⟩
  cases hor <;> first | (simp [AObj.isRow] at hr; done) | simp [setObj, Sem.run, hb]

/-- where a whole number's entry is -/
inductive FR (ρ : Ren) : Option (Nat × Value) → Option (Nat × Value) → Prop
  | none : FR ρ none none
  | some {i v v'} : VR ρ v v' → FR ρ (some (i, v)) (some (i, v'))

theorem findI_sound (k : Int) : ∀ {es es' : List MapEntry} {i : Nat} {r}, findI k es i = some r → ER ρ es es' → ∃ r', Instr.findNow (.int .i64) (.int .i64 k) es' i = some r' ∧ FR ρ r r'
  | [], es', i, r, h, he => by
    cases he
    simp only [findI] at h; cases h
    exact ⟨none, rfl, .none⟩
  | ⟨kk, v, b⟩ :: es, es', i, r, h, he => by
    cases he with
    | cons a c d =>
      simp only [findI] at h
      split at h
      · rename_i n
        have ha := a.int_inv
        subst ha
        simp only [Instr.findNow, Instr.sameNow, if_true]
        split at h
        · rename_i hq
          cases h
          have : k = n := by rw [eqI_eq] at hq; simpa using hq
          subst this
          simp only [beq_self_eq_true]
          exact ⟨_, rfl, .some c⟩
        · rename_i hq
          have : (k == n) = false := by rw [eqI_eq] at hq; simpa using hq
          simp only [this]
          exact findI_sound k h d
      · cases h

theorem isIntD_eq {d : TypeDesc} (h : isIntD d = true) : d = .int .i64 := by
  unfold isIntD at h
  split at h
  · rfl
  · cases h

theorem findKey_run (hE : EnvOK P E) {kt : TypeId} {j : TI} (hj : E.ty.get kt = some j) (hd : isIntD j.desc = true) {k : Int} {es es' : List MapEntry} {r} (h : findI k es 0 = some r) (he : ER ρ es es') (w : World) :
    ∃ r', (Instr.findKey kt (.int .i64 k) es').run P w = .ok r' w ∧ FR ρ r r' := by
  obtain ⟨r', h1, h2⟩ := findI_sound k h he
  refine ⟨r', ?_, h2⟩
  simp [Instr.findKey, run_under hE hj, isIntD_eq hd, h1]
theorem checkKey_run (hE : EnvOK P E) {kt : TypeId} {j : TI} (hj : E.ty.get kt = some j) (hd : isIntD j.desc = true) (k : Int) (b : Bool) (w : World) : (Instr.checkKey b 10000 kt (.int .i64 k)).run P w = .ok () w := by
  have key : ∀ n, (Instr.checkKey b (n + 1) kt (.int .i64 k)).run P w = .ok () w := by
    intro n
    rw [Instr.checkKey, Sem.run_bind, run_under hE hj, isIntD_eq hd]
    rfl
  exact key 9999

theorem map_at (hR : Rep P q ρ s w) {r : Nat} {v' : Value} (hv : VR ρ (.map (some r)) v') {o : AObj} (ho : s.heap.get r = some o) : ∃ b base ex obj, v' = .map (some b) ∧ ρ r = some (b, base, ex) ∧ w.heap[b]? = some obj ∧ OR P ρ base ex o obj := by
  obtain ⟨b, base, ex, h1, h2⟩ := hv.map_inv
  obtain ⟨b1, base1, ex1, obj, e1, e2, e3⟩ := hR.live _ _ ho
  rw [h2] at e1; cases e1
  exact ⟨b, base, ex, obj, h1, h2, e2, e3⟩

theorem lookupA_sound (hE : EnvOK P E) (hR : Rep P q ρ s w) {t : TypeId} {m k m' k' : Value} {ok : Bool} (hm : VR ρ m m') (hk : VR ρ k k') (h : (lookupA E t m k ok).run s = some (nx, s')) :
    ValRes P q ρ w s' nx ((Instr.lookup t m' k' ok).run P w) := by
  obtain ⟨i, hi, h1⟩ := run_opt h
  clear h
  split at h1
  · rename_i kt vt n hd
    obtain ⟨j, hj, h2⟩ := run_opt h1
    obtain ⟨u, hu, h3⟩ := run_opt h2
    obtain ⟨hint, h4⟩ := run_when h3
    clear h1 h2 h3
    have hk' := hk.int_inv
    subst hk'
    have out : ∀ (r r' : Option (Nat × Value)) (s1 : S) (qq : Result Value), Rep P q ρ s1 w → FR ρ r r' → (lookOut u ok r).run s1 = some (nx, s') →
        (r' = none → ∀ z, (∀ w, (zeroValue vt).run P w = .ok z w) → qq = .ok (if ok then .tuple #[z, .bool false] else z) w) → (∀ i v, r' = some (i, v) → qq = .ok (if ok then .tuple #[v, .bool true] else v) w) →
        ValRes P q ρ w s' nx qq := by
      intro r r' s1 qq hR1 hfr hh q1 q2
      cases hfr with
      | none =>
        obtain ⟨z, hz, hh⟩ := run_opt hh
        have hzz := still_VR (ρ := ρ) (zero_still hE hu hz)
        have hq := q1 rfl z (fun w => run_zero hE hu w hz)
        subst hq
        cases ok with
        | true => exact .here hR1 (.tuple (.cons hzz (.cons (.flat rfl) .nil))) (by simp) hh
        | false => exact .here hR1 hzz (by simp) hh
      | some hv =>
        have hq := q2 _ _ rfl
        subst hq
        cases ok with
        | true => exact .here hR1 (.tuple (.cons hv (.cons (.flat rfl) .nil))) (by simp) hh
        | false => exact .here hR1 hv (by simp) hh
    split at h4
    · have hm' := hm.mapN_inv
      subst hm'
      refine out none none s _ hR .none h4 (fun _ z hz => ?_) (fun i v h => by cases h)
      simp [Instr.lookup, run_under hE hi, hd, checkKey_run hE hj hint, Instr.findKey, run_under hE hj, Instr.findNow, hz]
    · rename_i r
      obtain ⟨o, ho, h5⟩ := run_get h4
      obtain ⟨b, base, ex, obj, rfl, hρ, hb, hor⟩ := map_at hR hm ho
      split at h5
      · rename_i es clock
        obtain ⟨res, hres, h6⟩ := run_opt h5
        have hgo := getObj_run (P := P) hb hor rfl
        cases hor with
        | map her =>
          obtain ⟨r', hf, hfr⟩ := findKey_run hE hj hint hres her w
          refine out res r' _ _ (hR.seen r) hfr h6 (fun h z hz => ?_) (fun i v h => ?_)
          · subst h; simp [Instr.lookup, run_under hE hi, hd, hgo, checkKey_run hE hj hint, hf, hz]
          · subst h; simp [Instr.lookup, run_under hE hi, hd, hgo, checkKey_run hE hj hint, hf]
      · cases h5
    · cases h4
  · cases h1

theorem updI_ER {k k' v v' : Value} (hk : VR ρ k k') (hv : VR ρ v v') : ∀ {es es' : List MapEntry} (i : Nat), ER ρ es es' → ER ρ (updI es i k v) (es'.modify i fun e => { e with key := k', val := v' })
  | [], es', i, h => by cases h; cases i <;> exact .nil
  | e :: es, es', 0, h => by
    cases h with
    | cons a b c => exact .cons hk hv c
  | e :: es, es', i + 1, h => by
    cases h with
    | cons a b c => exact .cons a b (updI_ER hk hv i c)
theorem dropI_ER : ∀ {es es' : List MapEntry} (i : Nat), ER ρ es es' → ER ρ (dropI es i) (es'.eraseIdx i)
  | [], es', i, h => by cases h; cases i <;> exact .nil
  | e :: es, es', 0, h => by
    cases h with
    | cons a b c => exact c
  | e :: es, es', i + 1, h => by
    cases h with
    | cons a b c => exact .cons a b (dropI_ER i c)
theorem ER.snoc {k k' v v' : Value} {b : Nat} (hk : VR ρ k k') (hv : VR ρ v v') : ∀ {es es' : List MapEntry}, ER ρ es es' → ER ρ (es ++ [⟨k, v, b⟩]) (es' ++ [⟨k', v', b⟩])
  | [], es', h => by cases h; exact .cons hk hv .nil
  | e :: es, es', h => by
    cases h with
    | cons a b c => exact .cons a b (ER.snoc hk hv c)
theorem ER.length {es es' : List MapEntry} (h : ER ρ es es') : es.length = es'.length := by
  induction h with
  | nil => rfl
  | cons _ _ _ ih => simp [ih]

theorem find_key (k : Int) : ∀ {es es' : List MapEntry} {i j : Nat} {v : Value}, findI k es i = some (some (j, v)) → ER ρ es es' → i ≤ j ∧ ∃ x, es'[j - i]? = some x ∧ x.key = .int .i64 k
  | [], es', i, j, v, h, he => by simp [findI] at h
  | ⟨kk, vv, b⟩ :: es, es', i, j, v, h, he => by
    cases he with
    | cons a c d =>
      simp only [findI] at h
      split at h
      · rename_i n
        have ha := a.int_inv
        split at h
        · rename_i hq
          cases h
          have : k = n := by rw [eqI_eq] at hq; simpa using hq
          subst this
          exact ⟨Nat.le_refl _, _, (by rw [Nat.sub_self]; rfl), ha⟩
        · obtain ⟨h1, x, h2, h3⟩ := find_key k h d
          have h1 : i + 1 ≤ j := h1
          refine ⟨by omega, x, ?_, h3⟩
          rw [show j - i = (j - (i + 1)) + 1 by omega]
          simpa using h2
      · cases h

theorem updateA_sound (hE : EnvOK P E) (hR : Rep P q ρ s w) {t : TypeId} {m k v m' k' v' : Value} (hm : VR ρ m m') (hk : VR ρ k k') (hv : VR ρ v v') (h : (updateA E t m k v).run s = some (nx, s')) :
    UnitRes P q ρ w s' nx ((Instr.mapUpdate t m' k' v').run P w) := by
  obtain ⟨i, hi, h1⟩ := run_opt h
  clear h
  split at h1
  · rename_i kt vt r n hd
    obtain ⟨j, hj, h2⟩ := run_opt h1
    obtain ⟨hint, h3⟩ := run_when h2
    obtain ⟨o, ho, h4⟩ := run_get h3
    clear h1 h2 h3
    have hk' := hk.int_inv
    subst hk'
    obtain ⟨b, base, ex, obj, rfl, hρ, hb, hor⟩ := map_at hR hm ho
    split at h4
    · rename_i es clock
      obtain ⟨res, hres, h5⟩ := run_opt h4
      have hgo := getObj_run (P := P) hb hor rfl
      have hor0 := hor
      cases hor with
      | map her =>
        rename_i es'
        obtain ⟨r', hf, hfr⟩ := findKey_run hE hj hint hres her w
        split at h5
        · rename_i ix vx
          cases hfr with
          | some hvx =>
            obtain ⟨_, x, hx1, hx2⟩ := find_key n hres her
            simp only [Nat.sub_zero] at hx1
            have hlt : ix < es'.length := (List.getElem?_eq_some_iff.1 hx1).1
            obtain ⟨s1, h6, a, c, d⟩ := setO_sim (hR.seen r) (obj1 := .map ((⟨es'⟩ : Array MapEntry).modify ix fun e => { e with key := .int .i64 n, val := v' }) clock) ho hρ hb hor0 rfl
              (by
                have := OR.map (P := P) (base := base) (ex := ex) (clock := clock) (updI_ER (ρ := ρ) (k := .int .i64 n) (k' := .int .i64 n) (.flat rfl) hv ix her)
                have e : ((⟨es'⟩ : Array MapEntry).modify ix fun e => { e with key := .int .i64 n, val := v' }) = ⟨es'.modify ix fun e => { e with key := .int .i64 n, val := v' }⟩ := by
                  apply Array.ext'; simp
                rw [e]; exact this) rfl h5
            obtain ⟨rfl, rfl⟩ := run_val h6
            refine ⟨ρ, _, rfl, ?_, a, c⟩
            have hkt : ∀ w : World, (Instr.keyThatStays (((⟨es'⟩ : Array MapEntry)[ix]?.map (·.key)).getD (.int .i64 n)) (.int .i64 n)).run P w = .ok (.int .i64 n) w := by
              intro w
              simp [hx1, hx2, Instr.keyThatStays, Instr.sameBits]
            simp only [Instr.mapUpdate, Sem.run_bind, run_under hE hi, hd, Result.andThen_ok, hgo, checkKey_run hE hj hint, hf, hkt]
            exact d
        · cases hfr with
          | none =>
            obtain ⟨s1, h6, a, c, d⟩ := setO_sim (hR.seen r) (obj1 := .map ((⟨es'⟩ : Array MapEntry).push ⟨.int .i64 n, v', clock⟩) (clock + 1)) ho hρ hb hor0 rfl
              (by
                have := OR.map (P := P) (base := base) (ex := ex) (clock := clock + 1) (ER.snoc (ρ := ρ) (k := .int .i64 n) (k' := .int .i64 n) (b := clock) (.flat rfl) hv her)
                have e : ((⟨es'⟩ : Array MapEntry).push ⟨.int .i64 n, v', clock⟩) = ⟨es' ++ [⟨.int .i64 n, v', clock⟩]⟩ := by
                  apply Array.ext'; simp
                rw [e]; exact this) rfl h5
            obtain ⟨rfl, rfl⟩ := run_val h6
            refine ⟨ρ, _, rfl, ?_, a, c⟩
            simp only [Instr.mapUpdate, Sem.run_bind, run_under hE hi, hd, Result.andThen_ok, hgo, checkKey_run hE hj hint, hf]
            exact d
    · cases h4
  · cases h1

theorem aRange_sound (hE : EnvOK P E) (hl : s'.next ≤ q.hi) (hR : Rep P q ρ s w) (hev : ∀ x v, fr.ev x = some v → VR ρ v (e x)) {t : TypeId} {x : Operand} (h : (aRange E fr t x).run s = some (nx, s')) :
    ValRes P q ρ w s' nx ((Instr.range t (e x)).run P w) := by
  obtain ⟨i, hi, h1⟩ := run_opt h
  clear h
  split at h1
  · rename_i kt vt hd hx
    have := (hev _ _ hx).mapN_inv
    obtain ⟨s1, ρ1, h2, a, b, c⟩ := newO_sim hR (obj := .mapIter none 0 #[] 0) (fun ρ' _ => .iterN rfl) hl h1
    obtain ⟨rfl, rfl⟩ := run_val h2
    exact ⟨ρ1, _, _, _, rfl, by simp [Instr.range, run_under hE hi, hd, this], a, b, .ptr ⟨s.next, 0, w.heap.size, 0, 0, c, rfl, rfl⟩⟩
  · rename_i kt vt m hd hx
    obtain ⟨o, ho, h2⟩ := run_get h1
    obtain ⟨b, base, ex, obj, hm', hρ, hb, hor⟩ := map_at hR (hev _ _ hx) ho
    split at h2
    · rename_i es clock
      have hgo := getObj_run (P := P) hb hor rfl
      cases hor with
      | map her =>
        obtain ⟨s1, ρ1, h3, a, c, d⟩ := newO_sim (hR.seen m) (obj := .mapIter (some b) clock #[] clock) (fun ρ' hle => .iterS rfl (hle _ _ hρ)) hl h2
        obtain ⟨rfl, rfl⟩ := run_val h3
        exact ⟨ρ1, _, _, _, rfl, by simp [Instr.range, run_under hE hi, hd, hm', hgo], a, c, .ptr ⟨s.next, 0, w.heap.size, 0, 0, d, rfl, rfl⟩⟩
    · cases h2
  · cases h1

theorem memN_eq (n : Nat) : ∀ l : List Nat, memN n l = l.contains n
  | [] => rfl
  | m :: l => by
    simp only [memN, List.contains_cons]
    cases hq : Nat.beq m n with
    | true => have := beq_iff.1 hq; subst this; simp
    | false =>
      have := beq_false hq
      rw [memN_eq n l]
      have h2 : (n == m) = false := by simp; exact fun h => this h.symm
      simp [h2]
theorem unseen_ER (seen : List Nat) : ∀ {es es' : List MapEntry}, ER ρ es es' → ER ρ (unseen seen es) (es'.filter fun e => !seen.contains e.born)
  | [], es', h => by cases h; exact .nil
  | e :: es, es', h => by
    cases h with
    | cons a b c =>
      simp only [unseen, memN_eq, List.filter_cons]
      rename_i bb _
      cases hq : seen.contains bb with
      | true => simpa [hq] using unseen_ER seen c
      | false => simpa [hq] using ER.cons a b (unseen_ER seen c)
theorem allOld_all (n : Nat) : ∀ {es es' : List MapEntry}, allOld n es = true → ER ρ es es' → ∀ x ∈ es', x.born < n
  | [], es', _, h => by cases h; intro x hx; cases hx
  | e :: es, es', ho, h => by
    cases h with
    | cons a b c =>
      simp only [allOld] at ho
      split at ho
      · rename_i hq
        intro x hx
        rcases List.mem_cons.1 hx with rfl | hx
        · exact blt_iff.1 hq
        · exact allOld_all n ho c x hx
      · cases ho

theorem aNext_sound (hR : Rep P q ρ s w) (hev : ∀ x v, fr.ev x = some v → VR ρ v (e x)) {x : Operand} {ty : TypeId} (h : (aNext fr x).run s = some (nx, s')) :
    ValRes P q ρ w s' nx ((Instr.next (e x) false ty).run P w) := by
  unfold aNext at h
  split at h
  · rename_i r sp hx
    obtain ⟨a', ea, har⟩ := (hev _ _ hx).ptr_inv
    obtain ⟨o, ho, h2⟩ := run_get h
    clear h
    obtain ⟨nm, off, b, base, ex, hρ, h3, h4⟩ := har
    cases h3
    subst h4
    obtain ⟨b1, base1, ex1, obj, e1, e2, e3⟩ := hR.live _ _ ho
    rw [hρ] at e1; cases e1
    split at h2
    · have hgo := getObj_run (P := P) e2 e3 rfl
      cases e3 with
      | iterN hb0 =>
        subst hb0
        refine .here (hR.seen _) (.tuple (.cons (.flat rfl) .nil)) ?_ h2
        simp [Instr.next, ea, hgo]
    · rename_i m since seen last
      have hgo := getObj_run (P := P) e2 e3 rfl
      obtain ⟨om, hom, h5⟩ := run_get h2
      split at h5
      · rename_i es clock
        obtain ⟨hb, h6⟩ := run_when h5
        simp only [Bool.and_eq_true, ble_iff] at hb
        have e30 := e3
        cases e3 with
        | iterS hb0 hm =>
          rename_i bm bbm eem
          subst hb0
          obtain ⟨b2, base2, ex2, obj2, f1, f2, f3⟩ := hR.live _ _ hom
          rw [hm] at f1; cases f1
          have hgm := getObj_run (P := P) f2 f3 rfl
          cases f3 with
          | map her =>
            rename_i es'
            have hold := allOld_all since hb.1 her
            have hun := unseen_ER seen her
            have hsup : (!(⟨seen⟩ : Array Nat).isEmpty && !(⟨es'⟩ : Array MapEntry).isEmpty && (⟨es'⟩ : Array MapEntry).all (·.born ≥ last)) = false := by
              cases es' with
              | nil => simp
              | cons y ys =>
                have := hold y (by simp)
                have hl : ¬ (y.born ≥ last) := by omega
                simp [hl]
            have hleft : (⟨es'⟩ : Array MapEntry).filter (fun e => !(⟨seen⟩ : Array Nat).contains e.born) = ⟨es'.filter fun e => !seen.contains e.born⟩ := by
              apply Array.ext'; simp
            have ho1 : ∀ l : List MapEntry, (∀ y ∈ l, y.born < since) → (⟨l⟩ : Array MapEntry).filter (fun e => e.born < since) = ⟨l⟩ ∧ (⟨l⟩ : Array MapEntry).filter (fun e => e.born ≥ since) = ⟨[]⟩ := by
              intro l hl
              constructor
              · apply Array.ext'; simp; exact hl
              · apply Array.ext'; simp; intro y hy; exact hl y hy
            have ho2 := ho1 _ (fun y hy => hold y (List.mem_filter.1 hy).1 : ∀ y ∈ es'.filter (fun e => !seen.contains e.born), y.born < since)
            split at h6
            · rename_i hu
              rw [hu] at hun
              generalize hL : es'.filter (fun e => !seen.contains e.born) = L at *
              cases hun
              refine .here ((hR.seen _).seen _) (.tuple (.cons (.flat rfl) .nil)) ?_ h6
              simp only [Instr.next, ea, Sem.run_bind, hgo, Result.andThen_ok, hgm, hsup, Bool.false_eq_true, if_false, Sem.run_pure, hleft, ho2.1, ho2.2, Nat.add_zero]
              simp [Question.forced]
            · rename_i en hu
              rw [hu] at hun
              generalize hL : es'.filter (fun e => !seen.contains e.born) = L at *
              cases hun with
              | cons a1 a2 a3 =>
                rename_i k k' v v' bn l'
                cases a3
                obtain ⟨s1, h7, g1, g2, g3⟩ := setO_sim ((hR.seen r).seen m) (obj1 := .mapIter (some bm) since ((⟨seen⟩ : Array Nat).push bn) clock) ho hρ e2 e30 rfl
                  (by
                    have := OR.iterS (P := P) (ρ := ρ) (base := 0) (ex := ex) (since := since) (seen := seen ++ [bn]) (st := clock) rfl hm
                    have e : ((⟨seen⟩ : Array Nat).push bn) = ⟨seen ++ [bn]⟩ := by apply Array.ext'; simp
                    rw [e]; exact this) rfl h6
                obtain ⟨rfl, rfl⟩ := run_val h7
                refine ⟨ρ, _, _, _, rfl, ?_, g1, g2, .tuple (.cons (.flat rfl) (.cons a1 (.cons a2 .nil)))⟩
                have g3' : (setObj b (.mapIter (some bm) since (seen ++ [bn]).toArray clock)).run P w = .ok () { w with heap := w.heap.setIfInBounds b (.mapIter (some bm) since (seen ++ [bn]).toArray clock) } := by simpa using g3
                simp only [Instr.next, ea, Sem.run_bind, hgo, Result.andThen_ok, hgm, hsup, Bool.false_eq_true, if_false, Sem.run_pure, hleft, ho2.1, ho2.2, Nat.add_zero]
                simp [Question.forced, g3']
            · cases h6
      · cases h5
    · cases h2
  · cases h

theorem lastN_eq : ∀ (l : List Nat) (a : Nat), lastN l = some a → l.getLast? = some a
  | [], a, h => by cases h
  | [x], a, h => by cases h; rfl
  | x :: y :: l, a, h => by
    have := lastN_eq (y :: l) a h
    simpa [List.getLast?_cons_cons] using this
theorem bornAt_ER (n : Nat) : ∀ {es es' : List MapEntry} {x : MapEntry}, bornAt n es = some x → ER ρ es es' → ∃ x', es'.find? (·.born == n) = some x' ∧ VR ρ x.key x'.key ∧ VR ρ x.val x'.val
  | [], es', x, h, he => by cases h
  | e :: es, es', x, h, he => by
    cases he with
    | cons a b c =>
      rename_i bb _
      simp only [bornAt] at h
      split at h
      · rename_i hq
        have hq : bb = n := beq_iff.1 hq
        cases h
        exact ⟨_, by simp [hq]; rfl, a, b⟩
      · rename_i hq
        have hq : bb ≠ n := beq_false hq
        obtain ⟨x', h1, h2⟩ := bornAt_ER n h c
        exact ⟨x', by simp [hq, h1], h2⟩

theorem aEntry_sound (hR : Rep P q ρ s w) (hev : ∀ x v, fr.ev x = some v → VR ρ v (e x)) {x : Operand} (h : (aEntry fr x).run s = some (nx, s')) :
    ValRes P q ρ w s' nx ((Instr.entry (e x)).run P w) := by
  unfold aEntry at h
  split at h
  · rename_i r sp hx
    obtain ⟨a', ea, har⟩ := (hev _ _ hx).ptr_inv
    obtain ⟨o, ho, h2⟩ := run_get h
    clear h
    obtain ⟨nm, off, b, base, ex, hρ, h3, h4⟩ := har
    cases h3
    subst h4
    obtain ⟨b1, base1, ex1, obj, e1, e2, e3⟩ := hR.live _ _ ho
    rw [hρ] at e1; cases e1
    split at h2
    · rename_i m since seen st
      have hgo := getObj_run (P := P) e2 e3 rfl
      obtain ⟨bn, hbn, h4⟩ := run_opt h2
      obtain ⟨om, hom, h5⟩ := run_get h4
      split at h5
      · rename_i es clock
        obtain ⟨hck, h6⟩ := run_when h5
        obtain ⟨en, hen, h7⟩ := run_opt h6
        have hck := beq_iff.1 hck
        subst hck
        cases e3 with
        | iterS hb0 hm =>
          rename_i bm bbm eem
          subst hb0
          obtain ⟨b2, base2, ex2, obj2, f1, f2, f3⟩ := hR.live _ _ hom
          rw [hm] at f1; cases f1
          have hgm := getObj_run (P := P) f2 f3 rfl
          cases f3 with
          | map her =>
            rename_i es'
            obtain ⟨x', g1, g2, g3⟩ := bornAt_ER bn hen her
            refine .here ((hR.seen _).seen _) (.tuple (.cons g2 (.cons g3 .nil))) ?_ h7
            have hlast : (⟨seen⟩ : Array Nat).back? = some bn := by
              simp [lastN_eq _ _ hbn]
            simp [Instr.entry, ea, hgo, hgm, hlast, g1]
      · cases h5
    · cases h2
  · cases h
end
end Go.AE
