/- Catalogs: catalog.Put and catalog.Right, told without the names that they take. -/
import Derived.Test.YtgofanjbhbeniaaDoorPRowCatalogTells7
section
/- Catalogs: any leaf read as a catalog: what such a call is told to do. -/
noncomputable section
namespace Go.Proofs.YtgofanjbhbeniaaDoor.lf
open AE
set_option linter.unusedSimpArgs false
set_option linter.unusedVariables false
set_option maxRecDepth 10000

def noCat_ : Value := .tuple ⟨[.agg ⟨zeroC⟩, .bool false]⟩
def isCat_ (D : CatD) (a : Option Addr) (cap : Nat) : Value := .tuple ⟨[.agg ⟨D.cells a cap⟩, .bool true]⟩
def getX0 : List Value → AM Value
  | [.agg ⟨cells⟩] => opt (leafOf cells) fun _ => match decD cells with
    | none => .pure noCat_
    | some D => match D.files.length with
      | 0 => .pure (isCat_ D none 0)
      | _ + 1 => .fail
  | _ => .fail
def getX1 : List Value → AM Value
  | [.agg ⟨cells⟩] => opt (leafOf cells) fun _ => match decD cells with
    | none => .fail
    | some D => match D.files.length with
      | 0 => .fail
      | m + 1 => .new (.cells (Tr.ofList (fcs D.files)) (4 * (m + 1)) 41 .loose) fun r => .pure (isCat_ D (some ⟨r, 0, none⟩) (OPEN + (m + 1)))
  | _ => .fail
/-- a leaf read as a catalog -/
def getXA : List Value → AM Value
  | [.agg ⟨cells⟩] => opt (leafOf cells) fun _ => match decD cells with
    | none => .pure noCat_
    | some D => match D.files.length with
      | 0 => .pure (isCat_ D none 0)
      | m + 1 => .new (.cells (Tr.ofList (fcs D.files)) (4 * (m + 1)) 41 .loose) fun r => .pure (isCat_ D (some ⟨r, 0, none⟩) (OPEN + (m + 1)))
  | _ => .fail
/-- what a run of such a call comes to -/
structure RunsGet (run : LeafD → List (Nat × Option Bool) → Option (Value × S × List (Bool × Bool))) : Prop where
  no : ∀ d : LeafD, d.load.length = 116 → decD d.cells = none → ∃ told s' q, run d told = some (noCat_, s', q) ∧ ∀ p ∈ q, p.1 = p.2
  nil : ∀ (d : LeafD) (D : CatD), d.load.length = 116 → decD d.cells = some D → D.files.length = 0 → ∃ told s' q, run d told = some (isCat_ D none 0, s', q) ∧ ∀ p ∈ q, p.1 = p.2
  one : ∀ (d : LeafD) (D : CatD) (m : Nat), d.load.length = 116 → decD d.cells = some D → D.files.length = m + 1 → ∃ told s' q r, run d told = some (isCat_ D (some ⟨r, 0, none⟩) (OPEN + (m + 1)), s', q) ∧ cellsAt s' r = some (4 * (m + 1), 41, .loose, some (fcs D.files)) ∧ ∀ p ∈ q, p.1 = p.2

theorem plain_noCat : Plain noCat_ := plain_tuple fun u hu => by
  simp only [List.mem_cons, List.not_mem_nil, or_false] at hu
  rcases hu with rfl | rfl
  · refine plain_agg fun u hu => ?_
    simp only [zeroC, List.mem_cons, List.not_mem_nil, or_false] at hu
    rcases hu with rfl | rfl | rfl | rfl | rfl | rfl | rfl | rfl | rfl
    all_goals first | exact plain_int _ _ | exact plain_bool _ | exact plain_nil
  · exact plain_bool _
theorem plain_isCat {D : CatD} (h : D.files.length = 0) : Plain (isCat_ D none 0) := plain_tuple fun u hu => by
  have hc : D.cells none 0 = [.int .i64 D.gen, .int .i64 D.step, .int .i64 D.status, .bool D.ended, .int .i64 D.from_, .int .i64 D.to_, .int .i64 D.budget, .int .i64 D.fan, .slice none 0 0] := by
    unfold CatD.cells; rw [h]
  simp only [List.mem_cons, List.not_mem_nil, or_false] at hu
  rcases hu with rfl | rfl
  · rw [hc]
    refine plain_agg fun u hu => ?_
    simp only [List.mem_cons, List.not_mem_nil, or_false] at hu
    rcases hu with rfl | rfl | rfl | rfl | rfl | rfl | rfl | rfl | rfl
    all_goals first | exact plain_int _ _ | exact plain_bool _ | exact plain_nil
  · exact plain_bool _
theorem plain_leaf (d : LeafD) : ∀ v ∈ [Value.agg ⟨d.cells⟩], Plain v := fun v hv => by
  simp only [List.mem_singleton] at hv
  subst hv
  refine plain_agg fun u hu => ?_
  unfold LeafD.cells at hu
  rcases List.mem_append.1 hu with h | h
  · simp only [List.mem_cons, List.not_mem_nil, or_false] at h
    rcases h with rfl | rfl | rfl | rfl | rfl <;> exact plain_int _ _
  · obtain ⟨x, _, rfl⟩ := List.mem_map.1 h
    exact plain_int _ _

theorem told_getX {f : FuncId} {fi : FI} {c : Code} {N : Nat} {γ : Gates} (hf : E.fn.get f = some fi) (hb : fi.body = some c) (hN : Nat.add 1 (Nat.sub fi.ntmps 1) = N) (hN2 : Nat.ble N lastName = true) (hT : Tolds Tryd.prog (gated γ (sumsOf [])))
    (h : RunsGet fun d told => ownR E fi 9000 f (evO E γ (sumsOf []) 3000 (.code c ⟨f, Tr.ofList [.agg ⟨d.cells⟩], N, [], none⟩) (inS []) ⟨told, []⟩)) : AE.Told Tryd.prog f getXA := by
  have t0 : AE.Told Tryd.prog f getX0 := by
    refine told_own hE hf hb ?_
    intro args s v s' hr hm
    unfold getX0 at hr
    split at hr
    · rename_i cells
      obtain ⟨d, hd, h2⟩ := run_opt hr
      obtain ⟨rfl, hlen⟩ := leafOf_inv hd
      have key : Plain v ∧ s = s' ∧ ∃ told s2 q, ownR E fi 9000 f (evO E γ (sumsOf []) 3000 (.code c ⟨f, Tr.ofList [.agg ⟨d.cells⟩], N, [], none⟩) (inS []) ⟨told, []⟩) = some (v, s2, q) ∧ ∀ p ∈ q, p.1 = p.2 := by
        cases hdec : decD d.cells with
        | none =>
          rw [hdec] at h2
          cases h2
          exact ⟨plain_noCat, rfl, h.no d hlen hdec⟩
        | some D =>
          rw [hdec] at h2
          dsimp only at h2
          cases hm0 : D.files.length with
          | zero =>
            rw [hm0] at h2
            cases h2
            exact ⟨plain_isCat hm0, rfl, h.nil d D hlen hdec hm0⟩
          | succ m =>
            rw [hm0] at h2
            cases h2
      obtain ⟨hp, rfl, told, s2, q2, e1, e2⟩ := key
      refine ⟨hp, Less'.refl _, ?_⟩
      intro q ρ w args' hRep hargs
      obtain rfl := (plain_list (plain_leaf d)).2 _ _ hargs
      refine ⟨[.agg ⟨d.cells⟩], inS [], renOf [], 9000, N, hN, hN2, inputs_of [] (Nat.zero_le _) (fun x hx => by cases hx), (plain_list (plain_leaf d)).1 _, Nat.zero_le _, ?_⟩
      exact gow_own hE hmix hT e1 e2 (Nat.le_refl 9000) rfl
    · cases hr
  have t1 : AE.Told Tryd.prog f getX1 := by
    refine told_own1 hE hf hb ?_
    intro args s v s' hr hm
    unfold getX1 at hr
    split at hr
    · rename_i cells
      obtain ⟨d, hd, h2⟩ := run_opt hr
      obtain ⟨rfl, hlen⟩ := leafOf_inv hd
      cases hdec : decD d.cells with
      | none => rw [hdec] at h2; cases h2
      | some D =>
        rw [hdec] at h2
        dsimp only at h2
        obtain ⟨hD, _⟩ := decD_inv hdec
        cases hm0 : D.files.length with
        | zero => rw [hm0] at h2; cases h2
        | succ m =>
          rw [hm0] at h2
          dsimp only at h2
          have hble : Nat.ble s.next lastName = true := by
            simp only [AM.run, force_eq] at h2
            cases hh : Nat.ble s.next lastName with
            | true => rfl
            | false => rw [hh] at h2; cases h2
          obtain ⟨hw, h3⟩ := run_new h2
          cases h3
          have hl14 := right_len hD
          refine ⟨0, Tr.ofList (fcs D.files), 4 * (m + 1), 41, .loose, fun r => isCat_ D (some ⟨r, 0, none⟩) (OPEN + (m + 1)), rfl, Nat.lt_succ_self _, hble, ?_, ?_, ?_, ?_⟩
          · intro i u hu hi
            rw [get_ofList _ _ (by rw [fcs_len]; unfold Tr.wide; omega)] at hu
            exact (ints_fcs D.files).plain u (List.mem_of_getElem? hu)
          · intro ρa ρb a b v' he hv
            obtain ⟨l', rfl, hl⟩ := hv.tuple_inv
            cases hl with
            | cons x y => cases y with
              | cons y1 y2 => cases y2 with
                | nil =>
                  obtain ⟨l2, rfl, hl2⟩ := x.agg_inv
                  obtain ⟨sv', rfl, hs⟩ := cat_inv hl2
                  obtain rfl := y1.bool_inv
                  exact .tuple (.cons (cat_mk (slice_move he hs)) (.cons (.flat rfl) .nil))
          · intro k
            show (s.grow _).heap.get k = _
            rw [grow_get hw]
            by_cases hk : k = s.next
            · rw [if_pos hk, if_pos (by omega)]
            · rw [if_neg hk, if_neg (by omega), if_neg (by show ¬ (s.next ≤ k ∧ k < s.next + 1); omega)]
          · intro q ρ w args' hRep hargs
            obtain rfl := (plain_list (plain_leaf d)).2 _ _ hargs
            refine ⟨[.agg ⟨d.cells⟩], inS [], renOf [], 9000, N, hN, hN2, inputs_of [] (Nat.zero_le _) (fun x hx => by cases hx), (plain_list (plain_leaf d)).1 _, Nat.zero_le _, ?_⟩
            obtain ⟨told, s2, q2, r, e1, e3, e2⟩ := h.one d D m hlen hdec hm0
            obtain ⟨c2, g1, g2, g3⟩ := obj_of e3
            refine gow_own hE hmix hT e1 e2 (Nat.le_refl 9000) ⟨r, c2, rfl, g1, fun i u hu hi => ?_⟩
            rw [get_ofList _ _ (by rw [fcs_len]; unfold Tr.wide; omega)] at hu
            have := g3 i u hu
            rwa [Nat.zero_add] at this
    · cases hr
  refine AE.told_two t0 t1 ?_
  intro args s v s' hr
  unfold getXA at hr
  split at hr
  · rename_i cells
    obtain ⟨d, hd, h2⟩ := run_opt hr
    cases hdec : decD cells with
    | none =>
      left
      refine ⟨s', ?_, Less'.refl _⟩
      rw [hdec] at h2
      unfold getX0
      dsimp only
      rw [hd, hdec]
      exact h2
    | some D =>
      rw [hdec] at h2
      dsimp only at h2
      cases hm0 : D.files.length with
      | zero =>
        left
        refine ⟨s', ?_, Less'.refl _⟩
        rw [hm0] at h2
        unfold getX0
        dsimp only
        rw [hd, hdec]
        show (match D.files.length with
          | 0 => AM.pure (isCat_ D none 0)
          | _ + 1 => AM.fail).run s = _
        rw [hm0]
        exact h2
      | succ m =>
        right
        refine ⟨s', ?_, Less'.refl _⟩
        rw [hm0] at h2
        unfold getX1
        dsimp only
        rw [hd, hdec]
        show (match D.files.length with
          | 0 => AM.fail
          | m + 1 => AM.new (.cells (Tr.ofList (fcs D.files)) (4 * (m + 1)) 41 .loose) fun r => .pure (isCat_ D (some ⟨r, 0, none⟩) (OPEN + (m + 1)))).run s = _
        rw [hm0]
        exact h2
  · cases hr
end Go.Proofs.YtgofanjbhbeniaaDoor.lf
end
end

section
/- Catalogs: any leaf read as a catalog, by the document and by the program: what the runs come to. -/
noncomputable section
namespace Go.Proofs.YtgofanjbhbeniaaDoor.lf
open AE
set_option linter.unusedSimpArgs false
set_option linter.unusedVariables false
set_option maxRecDepth 10000

theorem orW_nat (a c : Nat) (ha : a < 16777216) (hc : c < 256) : orW (Int.ofNat a) (Int.ofNat c) = Int.ofNat (a * 256 + c) := by
  unfold orW
  have e1 : Int.mul (Int.ofNat a) (pow2 8) = Int.ofNat (a * 256) := rfl
  rw [e1, wr64 (a * 256) (by omega), wr64 c (by omega), mod64 (a * 256) (by omega), mod64 c (by omega)]
  have e2 : Nat.lor (a * 256) c = a * 256 + c := by
    have := Nat.two_pow_add_eq_or_of_lt (i := 8) (by simpa using hc) a
    rw [Nat.mul_comm a 256]
    exact this.symm
  rw [e2, wr64 _ (by omega)]
theorem nb4_tk (b : Nat → Nat) (h : ByteF b) (k : Nat) : nb4 (bI b) k = tk4 (bI b) k := by
  rw [tk4_val b h]
  have h0 := h k
  have h1 := h (k + 1)
  have h2 := h (k + 2)
  have h3 := h (k + 3)
  unfold nb4 bI
  have e0 : (0 : Int) = Int.ofNat 0 := rfl
  rw [e0, orW_nat 0 _ (by omega) h3, orW_nat _ _ (by omega) h2, orW_nat _ _ (by omega) h1, orW_nat _ _ (by omega) h0]
  congr 1
  omega
theorem nb2_tk (b : Nat → Nat) (h : ByteF b) (k : Nat) : nb2 (bI b) k = tk2 (bI b) k := by
  rw [tk2_val b h]
  have h0 := h k
  have h1 := h (k + 1)
  unfold nb2 bI
  have e0 : (0 : Int) = Int.ofNat 0 := rfl
  rw [e0, orW_nat 0 _ (by omega) h1, orW_nat _ _ (by omega) h0]
  congr 1
  omega
theorem filesR_eq (b : Nat → Nat) (h : ByteF b) : ∀ (m k : Nat), filesR (bI b) m k = filesG (bI b) m k
  | 0, k => rfl
  | m + 1, k => by
    simp only [filesR, filesG]
    rw [filesR_eq b h m (k + 7)]
    congr 1
    unfold fileR fileG
    rw [nb2_tk b h, nb2_tk b h, nb2_tk b h]
theorem bT_bI (b : Nat → Nat) : bT b = bI b := rfl
theorem catR_eq (b : Nat → Nat) (h : ByteF b) (m : Nat) : catR (bT b) m = catG (bI b) m := by
  rw [bT_bI]
  unfold catR catG
  rw [nb4_tk b h, nb4_tk b h, nb4_tk b h, filesR_eq b h]
theorem bytesN_B (b : Nat → Nat) : ∀ (n k : Nat), bytesN b n k = bytesB (bI b) n k
  | 0, k => rfl
  | n + 1, k => by simp only [bytesN, bytesB, bytesN_B b n (k + 1)]; rfl
theorem cells_ltr (d : LeafD) (hl : d.load.length = 116) : leafN d.kind d.file d.place d.next d.size (ltr d) = d.cells := by
  unfold leafN LeafD.cells
  rw [bytesN_B, bytesB_load d 116 0 (by omega), List.drop_zero, List.take_of_length_le (by omega)]
theorem probGR_inv {r : Option (Value × S × List (Bool × Bool))} {v : Value} {x : Option (Nat × TypeId × Room × Option (List Value))} {qs : List (Bool × Bool)} (h : probGR r = some ((v, x), qs)) : ∃ s, r = some (v, s, qs) ∧ rowAt v s = x := by
  unfold probGR at h
  split at h
  · cases h; exact ⟨_, rfl, rfl⟩
  · cases h
theorem pick15 {P : Nat → Prop} (h0 : P 0) (h1 : ∀ m, m < 7 → P (1 + m)) (h2 : ∀ m, m < 7 → P (8 + m)) : ∀ m, m ≤ 14 → P m := by
  intro m hm
  by_cases e0 : m = 0
  · subst e0; exact h0
  by_cases e1 : m ≤ 7
  · have := h1 (m - 1) (by omega)
    rwa [show 1 + (m - 1) = m by omega] at this
  · have := h2 (m - 8) (by omega)
    rwa [show 8 + (m - 8) = m by omega] at this
theorem gr_f (k f p n : Int) (b : Nat → Nat) : ∀ m, m ≤ 14 → ∃ told qs, probGR (runGR k f p n (size7 m) b told) = some ((noCat, none), qs) ∧ ∀ x ∈ qs, x = (ltI 1 (bT b 6), true) ∨ x ∈ qR0 k f p n b m := by
  have key : ∀ (m : Nat) (x : Bool × Bool), x ∈ (ltI 1 (bT b 6), true) :: qR0 k f p n b m → x = (ltI 1 (bT b 6), true) ∨ x ∈ qR0 k f p n b m := fun m x hx => List.mem_cons.1 hx
  refine pick15 ?_ ?_ ?_
  · exact ⟨_, _, List.map_inj_left.1 (gr_f0 k f p n b) 0 (by simp), key 0⟩
  · exact fun m hm => ⟨_, _, List.map_inj_left.1 (gr_f1 k f p n b) m (List.mem_range.2 hm), key _⟩
  · exact fun m hm => ⟨_, _, List.map_inj_left.1 (gr_f2 k f p n b) m (List.mem_range.2 hm), key _⟩
theorem gr_n (k f p n : Int) (b : Nat → Nat) : ∀ m, m ≤ 14 → ∃ told qs, probGR (runGR k f p n (size7 m) b told) = some ((noCat, none), qs) ∧ ∀ x ∈ qs, x = (!qCatR b m, true) ∨ x = (true, true) ∨ x = (ltI 1 (bT b 6), false) ∨ x ∈ qR0 k f p n b m := by
  have key : ∀ (m : Nat) (x : Bool × Bool), x ∈ (!qCatR b m, true) :: (true, true) :: (ltI 1 (bT b 6), false) :: qR0 k f p n b m → x = (!qCatR b m, true) ∨ x = (true, true) ∨ x = (ltI 1 (bT b 6), false) ∨ x ∈ qR0 k f p n b m := fun m x hx => by
    rcases List.mem_cons.1 hx with h | h
    · exact .inl h
    rcases List.mem_cons.1 h with h | h
    · exact .inr (.inl h)
    rcases List.mem_cons.1 h with h | h
    · exact .inr (.inr (.inl h))
    · exact .inr (.inr (.inr h))
  refine pick15 ?_ ?_ ?_
  · refine ⟨_, _, List.map_inj_left.1 (gr_n0 k f p n b) 0 (by simp), fun x hx => key 0 x ?_⟩
    rcases List.mem_cons.1 hx with h | h
    · rw [h]; exact List.mem_cons_self
    · exact List.mem_cons_of_mem _ (List.mem_cons_of_mem _ h)
  · exact fun m hm => ⟨_, _, List.map_inj_left.1 (gr_n1 k f p n b) m (List.mem_range.2 hm), key _⟩
  · exact fun m hm => ⟨_, _, List.map_inj_left.1 (gr_n2 k f p n b) m (List.mem_range.2 hm), key _⟩
theorem gr_y (k f p n : Int) (b : Nat → Nat) : ∀ m, m ≤ 14 → ∃ told qs, probGR (runGR k f p n (size7 m) b told) = some ((isCat (catR (bT b) m) (adR m) (capG m), rowR (catR (bT b) m)), qs) ∧ ∀ x ∈ qs, x = (!qCatR b m, false) ∨ x = (true, true) ∨ x = (ltI 1 (bT b 6), false) ∨ x ∈ qR0 k f p n b m := by
  have key : ∀ (m : Nat) (x : Bool × Bool), x ∈ (!qCatR b m, false) :: (true, true) :: (ltI 1 (bT b 6), false) :: qR0 k f p n b m → x = (!qCatR b m, false) ∨ x = (true, true) ∨ x = (ltI 1 (bT b 6), false) ∨ x ∈ qR0 k f p n b m := fun m x hx => by
    rcases List.mem_cons.1 hx with h | h
    · exact .inl h
    rcases List.mem_cons.1 h with h | h
    · exact .inr (.inl h)
    rcases List.mem_cons.1 h with h | h
    · exact .inr (.inr (.inl h))
    · exact .inr (.inr (.inr h))
  refine pick15 ?_ ?_ ?_
  · refine ⟨_, _, List.map_inj_left.1 (gr_y0 k f p n b) 0 (by simp), fun x hx => key 0 x ?_⟩
    rcases List.mem_cons.1 hx with h | h
    · rw [h]; exact List.mem_cons_self
    · exact List.mem_cons_of_mem _ (List.mem_cons_of_mem _ h)
  · exact fun m hm => ⟨_, _, List.map_inj_left.1 (gr_y1 k f p n b) m (List.mem_range.2 hm), key _⟩
  · exact fun m hm => ⟨_, _, List.map_inj_left.1 (gr_y2 k f p n b) m (List.mem_range.2 hm), key _⟩
/-- a leaf's size is that of so many files -/
theorem size_of {z : Int} (h0 : 17 ≤ z) (h1 : z ≤ 116) (h2 : (wrapA IntKind.i64 (z.sub 17)).tmod 7 = 0) : ∃ m, m ≤ 14 ∧ z = size7 m := by
  obtain ⟨c, rfl⟩ := Int.eq_ofNat_of_zero_le (show 0 ≤ z by omega)
  have e1 : Int.sub (c : Int) 17 = Int.ofNat (c - 17) := by
    show (c : Int) - 17 = ((c - 17 : Nat) : Int)
    omega
  rw [e1, wr64 _ (by omega)] at h2
  have e2 : (Int.ofNat (c - 17)).tmod 7 = ((c - 17) % 7 : Nat) := rfl
  rw [e2] at h2
  have h3 : (c - 17) % 7 = 0 := by omega
  refine ⟨(c - 17) / 7, by omega, ?_⟩
  unfold size7
  show (c : Int) = ((17 + 7 * ((c - 17) / 7) : Nat) : Int)
  omega
theorem eqI_nf {a b : Int} (h : ¬ a = b) : (!eqI a b) = true := by rw [eqI_eq, decide_eq_false h]; rfl
theorem eqI_yf {a b : Int} (h : a = b) : (!eqI a b) = false := by rw [eqI_eq, decide_eq_true h]; rfl
theorem ltI_tf {a b : Int} (h : a < b) : ltI a b = true := by rw [ltI_eq, decide_eq_true h]
theorem ltI_ff {a b : Int} (h : ¬ a < b) : ltI a b = false := by rw [ltI_eq, decide_eq_false h]
theorem qLf_eq (d : LeafD) (hl : d.load.length = 116) : qLf d.kind d.file d.place d.next d.size (ltr d) = true := by
  unfold qLf; rw [cells_ltr d hl, leafOf_cells d hl]; rfl
theorem qRt_eq (d : LeafD) (hl : d.load.length = 116) : qRt d.kind d.file d.place d.next d.size (ltr d) = rightL d := by
  unfold qRt rightC; rw [cells_ltr d hl, leafOf_cells d hl]
theorem rightL_size {d : LeafD} (h : rightL d = true) : 0 ≤ d.size ∧ d.size ≤ 116 := by
  unfold rightL at h
  simp only [Bool.and_eq_true] at h
  exact wi_iff.1 h.1.2
theorem qR0_ok (d : LeafD) (hl : d.load.length = 116) (m : Nat) (hs : d.size = size7 m) (hR : rightL d = true) (hk : d.kind = 2) (hf : d.file = 0) (hp : d.place = 0) (hn : d.next = 0) : ∀ x ∈ qR0 d.kind d.file d.place d.next (ltr d) m, x.1 = x.2 := by
  have h1 := qLf_eq d hl
  have h2 := qRt_eq d hl
  rw [hs] at h1 h2
  unfold qR0
  exact qcons (eqI_yf hn) (qcons (eqI_yf hp) (qcons (eqI_yf hf) (qcons (eqI_yf hk) (qcons (by rw [h2, hR]; rfl) (qcons h1 qnil)))))
/-- a leaf that is some right catalog's -/
theorem leaf_of_dec {d : LeafD} {D : CatD} (hl : d.load.length = 116) (h : decD d.cells = some D) : D.right = true ∧ d = leafD D := by
  obtain ⟨hD, hc⟩ := decD_inv h
  refine ⟨hD, cells_inj hl (leafD_len D (right_len hD)) ?_⟩
  rw [hc, leafD_cells]
end Go.Proofs.YtgofanjbhbeniaaDoor.lf
end
end

section
/- Catalogs: any leaf read as a catalog, by the document and by the program: told. -/
noncomputable section
namespace Go.Proofs.YtgofanjbhbeniaaDoor.lf
open AE
set_option linter.unusedSimpArgs false
set_option linter.unusedVariables false
set_option maxRecDepth 10000

theorem GR_run (d : LeafD) (hl : d.load.length = 116) (told : List (Nat × Option Bool)) : ownR E fiGR 9000 10 (evO E gatesGR (sumsOf []) 3000 (.code cdGR ⟨10, Tr.ofList [.agg ⟨d.cells⟩], 127, [], none⟩) (inS []) ⟨told, []⟩) = runGR d.kind d.file d.place d.next d.size (ltr d) told := by
  unfold runGR; rw [cells_ltr d hl]
theorem G1_run (d : LeafD) (hl : d.load.length = 116) (told : List (Nat × Option Bool)) : ownR E fiGC 9000 9 (evO E gatesG1 (sumsOf []) 3000 (.code cdGC ⟨9, Tr.ofList [.agg ⟨d.cells⟩], 114, [], none⟩) (inS []) ⟨told, []⟩) = runG1 d.kind d.file d.place d.next d.size (ltr d) told := by
  unfold runG1; rw [cells_ltr d hl]
theorem dec_size {d : LeafD} {D : CatD} (h : d = leafD D) : d.kind = 2 ∧ d.file = 0 ∧ d.place = 0 ∧ d.next = 0 ∧ d.size = size7 D.files.length := by subst h; exact ⟨rfl, rfl, rfl, rfl, rfl⟩
theorem dec_cat {d : LeafD} {D : CatD} (h : d = leafD D) (hD : D.right = true) : catG (bI (ltr d)) D.files.length = D := by subst h; exact leaf_says D hD
theorem qCat_eq (d : LeafD) (m : Nat) : qCatR (ltr d) m = (catG (bI (ltr d)) m).right := by
  unfold qCatR
  rw [rightQ_eq, catR_eq _ (ltr_byte d)]
theorem lt1 (n : Nat) : ltI 1 (bT (fun _ => n) 0) = decide (1 < n) := by
  rw [ltI_eq]
  show decide ((1 : Int) < (n : Int)) = _
  congr 1
  apply propext
  omega
theorem b6_t {d : LeafD} (h : ¬ ltr d 6 ≤ 1) : ltI 1 (bT (ltr d) 6) = true := by
  have := lt1 (ltr d 6)
  rw [decide_eq_true (by omega)] at this
  exact this
theorem b6_f {d : LeafD} (h : ltr d 6 ≤ 1) : ltI 1 (bT (ltr d) 6) = false := by
  have := lt1 (ltr d 6)
  rw [decide_eq_false (by omega)] at this
  exact this

theorem runs_GR : RunsGet fun d told => ownR E fiGR 9000 10 (evO E gatesGR (sumsOf []) 3000 (.code cdGR ⟨10, Tr.ofList [.agg ⟨d.cells⟩], 127, [], none⟩) (inS []) ⟨told, []⟩) where
  no d hl hdec := by
    have fin : ∀ {told : List (Nat × Option Bool)} {qs : List (Bool × Bool)}, probGR (runGR d.kind d.file d.place d.next d.size (ltr d) told) = some ((noCat, none), qs) → (∀ p ∈ qs, p.1 = p.2) →
        ∃ told s' q, ownR E fiGR 9000 10 (evO E gatesGR (sumsOf []) 3000 (.code cdGR ⟨10, Tr.ofList [.agg ⟨d.cells⟩], 127, [], none⟩) (inS []) ⟨told, []⟩) = some (noCat_, s', q) ∧ ∀ p ∈ q, p.1 = p.2 := by
      intro told qs h hq
      obtain ⟨s, h1, _⟩ := probGR_inv h
      exact ⟨told, s, qs, (GR_run d hl told).trans h1, hq⟩
    have q0 := qLf_eq d hl
    have q1 := qRt_eq d hl
    by_cases hR : rightL d = true
    · rw [hR] at q1
      have q1' : (!qRt d.kind d.file d.place d.next d.size (ltr d)) = false := by rw [q1]; rfl
      by_cases hk : d.kind = 2
      · by_cases hf : d.file = 0
        · by_cases hp : d.place = 0
          · by_cases hn : d.next = 0
            · by_cases h17 : d.size < 17
              · exact fin (gr_e6 _ _ _ _ _ _) (qcons (ltI_tf h17) (qcons (eqI_yf hn) (qcons (eqI_yf hp) (qcons (eqI_yf hf) (qcons (eqI_yf hk) (qcons q1' (qcons q0 qnil)))))))
              · by_cases h7 : (wrapA IntKind.i64 (d.size.sub 17)).tmod 7 = 0
                · obtain ⟨m, hm, hs⟩ := size_of (by omega) (rightL_size hR).2 h7
                  have hq0 := qR0_ok d hl m hs hR hk hf hp hn
                  by_cases h6 : ltr d 6 ≤ 1
                  · cases hc : (catG (bI (ltr d)) m).right with
                    | false =>
                      obtain ⟨told, qs, h1, h2⟩ := gr_n d.kind d.file d.place d.next (ltr d) m hm
                      rw [← hs] at h1
                      refine fin h1 fun x hx => ?_
                      rcases h2 x hx with rfl | rfl | rfl | h
                      · show (!qCatR (ltr d) m) = true
                        rw [qCat_eq, hc]; rfl
                      · rfl
                      · exact b6_f h6
                      · exact hq0 x h
                    | true =>
                      have := leaf_back d hl m hm hk hf hp hn hs hR h6
                      rw [this, decD_put hc] at hdec
                      cases hdec
                  · obtain ⟨told, qs, h1, h2⟩ := gr_f d.kind d.file d.place d.next (ltr d) m hm
                    rw [← hs] at h1
                    refine fin h1 fun x hx => ?_
                    rcases h2 x hx with rfl | h
                    · exact b6_t h6
                    · exact hq0 x h
                · exact fin (gr_e7 _ _ _ _ _ _) (qcons (eqI_nf h7) (qcons (ltI_ff h17) (qcons (eqI_yf hn) (qcons (eqI_yf hp) (qcons (eqI_yf hf) (qcons (eqI_yf hk) (qcons q1' (qcons q0 qnil))))))))
            · exact fin (gr_e5 _ _ _ _ _ _) (qcons (eqI_nf hn) (qcons (eqI_yf hp) (qcons (eqI_yf hf) (qcons (eqI_yf hk) (qcons q1' (qcons q0 qnil))))))
          · exact fin (gr_e4 _ _ _ _ _ _) (qcons (eqI_nf hp) (qcons (eqI_yf hf) (qcons (eqI_yf hk) (qcons q1' (qcons q0 qnil)))))
        · exact fin (gr_e3 _ _ _ _ _ _) (qcons (eqI_nf hf) (qcons (eqI_yf hk) (qcons q1' (qcons q0 qnil))))
      · exact fin (gr_e2 _ _ _ _ _ _) (qcons (eqI_nf hk) (qcons q1' (qcons q0 qnil)))
    · have hR' : rightL d = false := by cases h : rightL d with | false => rfl | true => exact absurd h hR
      rw [hR'] at q1
      exact fin (gr_e1 _ _ _ _ _ _) (qcons (by rw [q1]; rfl) (qcons q0 qnil))
  nil d D hl hdec h0 := by
    obtain ⟨hD, he⟩ := leaf_of_dec hl hdec
    obtain ⟨hk, hf, hp, hn, hs⟩ := dec_size he
    have hc := dec_cat he hD
    have h14 := right_len hD
    have hR : rightL d = true := by rw [he]; exact leafD_right D h14
    have h6 : ltr d 6 ≤ 1 := by rw [he]; exact leaf_b6 D h14
    obtain ⟨told, qs, h1, h2⟩ := gr_y d.kind d.file d.place d.next (ltr d) D.files.length h14
    rw [← hs, catR_eq _ (ltr_byte d), hc] at h1
    obtain ⟨s, h3, _⟩ := probGR_inv h1
    have hcat : isCat D (adR D.files.length) (capG D.files.length) = isCat_ D none 0 := by rw [h0]; rfl
    rw [hcat] at h3
    refine ⟨told, s, qs, (GR_run d hl told).trans h3, fun x hx => ?_⟩
    rcases h2 x hx with rfl | rfl | rfl | h
    · show (!qCatR (ltr d) D.files.length) = false
      rw [qCat_eq, hc, hD]; rfl
    · rfl
    · exact b6_f h6
    · exact qR0_ok d hl _ hs hR hk hf hp hn x h
  one d D m hl hdec hm := by
    obtain ⟨hD, he⟩ := leaf_of_dec hl hdec
    obtain ⟨hk, hf, hp, hn, hs⟩ := dec_size he
    have hc := dec_cat he hD
    have h14 := right_len hD
    have hR : rightL d = true := by rw [he]; exact leafD_right D h14
    have h6 : ltr d 6 ≤ 1 := by rw [he]; exact leaf_b6 D h14
    obtain ⟨told, qs, h1, h2⟩ := gr_y d.kind d.file d.place d.next (ltr d) D.files.length h14
    rw [← hs, catR_eq _ (ltr_byte d), hc] at h1
    obtain ⟨s, h3, h4⟩ := probGR_inv h1
    have hcat : isCat D (adR D.files.length) (capG D.files.length) = isCat_ D (some ⟨2 + 2 * (m + 1), 0, none⟩) (OPEN + (m + 1)) := by rw [hm]; rfl
    rw [hcat] at h3 h4
    refine ⟨told, s, qs, _, (GR_run d hl told).trans h3, ?_, fun x hx => ?_⟩
    · have e1 : rowAt (isCat_ D (some ⟨2 + 2 * (m + 1), 0, none⟩) (OPEN + (m + 1))) s = cellsAt s (2 + 2 * (m + 1)) := rfl
      rw [← e1, h4]
      unfold rowR
      rw [hm]
      rfl
    rcases h2 x hx with rfl | rfl | rfl | h
    · show (!qCatR (ltr d) D.files.length) = false
      rw [qCat_eq, hc, hD]; rfl
    · rfl
    · exact b6_f h6
    · exact qR0_ok d hl _ hs hR hk hf hp hn x h
end Go.Proofs.YtgofanjbhbeniaaDoor.lf
end
end

section
/- Catalogs: any leaf read as a catalog, by the program: what the runs come to. -/
noncomputable section
namespace Go.Proofs.YtgofanjbhbeniaaDoor.lf
open AE
set_option linter.unusedSimpArgs false
set_option linter.unusedVariables false
set_option maxRecDepth 10000

def pleaf (D : CatD) : LeafD := match D.right with
  | true => leafD D
  | false => zeroL
theorem pleaf_cells (D : CatD) : putD D = (pleaf D).cells := by
  unfold putD pleaf
  cases D.right
  · rfl
  · exact (leafD_cells D).symm
theorem pleaf_len (D : CatD) : (pleaf D).load.length = 116 := by
  unfold pleaf
  cases h : D.right
  · exact zero_len
  · exact leafD_len D (right_len h)
theorem qPut_eq (d : LeafD) (hl : d.load.length = 116) (m : Nat) (hs : d.size = size7 m) : qPutG d.kind d.file d.place d.next (ltr d) m = some (decide (pleaf (catG (bI (ltr d)) m) = d)) := by
  unfold qPutG putCs
  rw [filesOf_fcs]
  show eqTop E 30 (.agg ⟨putD (catG (bI (ltr d)) m)⟩) (.agg ⟨leafN d.kind d.file d.place d.next (size7 m) (ltr d)⟩) = _
  rw [← hs, cells_ltr d hl, pleaf_cells]
  exact eqLeafV _ _ (pleaf_len _) hl
theorem g1_n (k f p n : Int) (b : Nat → Nat) : ∀ m, m ≤ 14 → ∃ told qs, probGR (runG1 k f p n (size7 m) b told) = some ((noCat, none), qs) ∧ ∀ x ∈ qs, x = (eqB false (qPutG k f p n b m), true) ∨ x = ((qPutG k f p n b m).isSome, true) ∨ x = (true, true) ∨ x = (!qRt k f p n (size7 m) b, false) ∨ x = (qLf k f p n (size7 m) b, true) := by
  refine pick15 ?_ ?_ ?_
  · refine ⟨_, _, List.map_inj_left.1 (g1_n0 k f p n b) 0 (by simp), fun x hx => ?_⟩
    simp only [List.mem_cons, List.not_mem_nil, or_false] at hx
    rcases hx with h | h | h | h
    · exact .inl h
    · exact .inr (.inl h)
    · exact .inr (.inr (.inr (.inl h)))
    · exact .inr (.inr (.inr (.inr h)))
  · refine fun m hm => ⟨_, _, List.map_inj_left.1 (g1_n1 k f p n b) m (List.mem_range.2 hm), fun x hx => ?_⟩
    simpa only [List.mem_cons, List.not_mem_nil, or_false] using hx
  · refine fun m hm => ⟨_, _, List.map_inj_left.1 (g1_n2 k f p n b) m (List.mem_range.2 hm), fun x hx => ?_⟩
    simpa only [List.mem_cons, List.not_mem_nil, or_false] using hx
theorem g1_y (k f p n : Int) (b : Nat → Nat) : ∀ m, m ≤ 14 → ∃ told qs, probGR (runG1 k f p n (size7 m) b told) = some ((isCat (catG (bT b) m) (adP m) (capG m), rowR (catG (bT b) m)), qs) ∧ ∀ x ∈ qs, x = (eqB false (qPutG k f p n b m), false) ∨ x = ((qPutG k f p n b m).isSome, true) ∨ x = (true, true) ∨ x = (!qRt k f p n (size7 m) b, false) ∨ x = (qLf k f p n (size7 m) b, true) := by
  refine pick15 ?_ ?_ ?_
  · refine ⟨_, _, List.map_inj_left.1 (g1_y0 k f p n b) 0 (by simp), fun x hx => ?_⟩
    simp only [List.mem_cons, List.not_mem_nil, or_false] at hx
    rcases hx with h | h | h | h
    · exact .inl h
    · exact .inr (.inl h)
    · exact .inr (.inr (.inr (.inl h)))
    · exact .inr (.inr (.inr (.inr h)))
  · refine fun m hm => ⟨_, _, List.map_inj_left.1 (g1_y1 k f p n b) m (List.mem_range.2 hm), fun x hx => ?_⟩
    simpa only [List.mem_cons, List.not_mem_nil, or_false] using hx
  · refine fun m hm => ⟨_, _, List.map_inj_left.1 (g1_y2 k f p n b) m (List.mem_range.2 hm), fun x hx => ?_⟩
    simpa only [List.mem_cons, List.not_mem_nil, or_false] using hx
theorem runs_G1 : RunsGet fun d told => ownR E fiGC 9000 9 (evO E gatesG1 (sumsOf []) 3000 (.code cdGC ⟨9, Tr.ofList [.agg ⟨d.cells⟩], 114, [], none⟩) (inS []) ⟨told, []⟩) where
  no d hl hdec := by
    have fin : ∀ {told : List (Nat × Option Bool)} {qs : List (Bool × Bool)}, probGR (runG1 d.kind d.file d.place d.next d.size (ltr d) told) = some ((noCat, none), qs) → (∀ p ∈ qs, p.1 = p.2) →
        ∃ told s' q, ownR E fiGC 9000 9 (evO E gatesG1 (sumsOf []) 3000 (.code cdGC ⟨9, Tr.ofList [.agg ⟨d.cells⟩], 114, [], none⟩) (inS []) ⟨told, []⟩) = some (noCat_, s', q) ∧ ∀ p ∈ q, p.1 = p.2 := by
      intro told qs h hq
      obtain ⟨s, h1, _⟩ := probGR_inv h
      exact ⟨told, s, qs, (G1_run d hl told).trans h1, hq⟩
    have q0 := qLf_eq d hl
    have q1 := qRt_eq d hl
    by_cases hR : rightL d = true
    · rw [hR] at q1
      have q1' : (!qRt d.kind d.file d.place d.next d.size (ltr d)) = false := by rw [q1]; rfl
      by_cases h17 : d.size < 17
      · exact fin (g1_e2 _ _ _ _ _ _) (qcons (ltI_tf h17) (qcons q1' (qcons q0 qnil)))
      · by_cases h7 : (wrapA IntKind.i64 (d.size.sub 17)).tmod 7 = 0
        · obtain ⟨m, hm, hs⟩ := size_of (by omega) (rightL_size hR).2 h7
          have hq := qPut_eq d hl m hs
          have hne : ¬ pleaf (catG (bI (ltr d)) m) = d := by
            intro he
            unfold pleaf at he
            cases hc : (catG (bI (ltr d)) m).right with
            | true =>
              rw [hc] at he
              have h2 : leafD (catG (bI (ltr d)) m) = d := he
              rw [← h2, leafD_cells, decD_put hc] at hdec
              cases hdec
            | false =>
              rw [hc] at he
              have h2 : zeroL = d := he
              have h3 : d.size = 0 := by rw [← h2]; rfl
              omega
          rw [decide_eq_false hne] at hq
          obtain ⟨told, qs, h1, h2⟩ := g1_n d.kind d.file d.place d.next (ltr d) m hm
          rw [← hs] at h1 h2
          refine fin h1 fun x hx => ?_
          rcases h2 x hx with rfl | rfl | rfl | rfl | rfl
          · show eqB false (qPutG d.kind d.file d.place d.next (ltr d) m) = true
            rw [hq]; rfl
          · show (qPutG d.kind d.file d.place d.next (ltr d) m).isSome = true
            rw [hq]; rfl
          · rfl
          · exact q1'
          · exact q0
        · exact fin (g1_e3 _ _ _ _ _ _) (qcons (eqI_nf h7) (qcons (ltI_ff h17) (qcons q1' (qcons q0 qnil))))
    · have hR' : rightL d = false := by cases h : rightL d with | false => rfl | true => exact absurd h hR
      rw [hR'] at q1
      exact fin (g1_e1 _ _ _ _ _ _) (qcons (by rw [q1]; rfl) (qcons q0 qnil))
  nil d D hl hdec h0 := by
    obtain ⟨hD, he⟩ := leaf_of_dec hl hdec
    obtain ⟨hk, hf, hp, hn, hs⟩ := dec_size he
    have hc := dec_cat he hD
    have h14 := right_len hD
    have hR : rightL d = true := by rw [he]; exact leafD_right D h14
    have q0 := qLf_eq d hl
    have q1 := qRt_eq d hl
    rw [hR] at q1
    have hq := qPut_eq d hl D.files.length hs
    rw [hc] at hq
    have hpl : pleaf D = d := by unfold pleaf; rw [hD]; exact he.symm
    rw [decide_eq_true hpl] at hq
    obtain ⟨told, qs, h1, h2⟩ := g1_y d.kind d.file d.place d.next (ltr d) D.files.length h14
    rw [← hs] at h1 h2
    rw [bT_bI, hc] at h1
    obtain ⟨s, h3, _⟩ := probGR_inv h1
    have hcat : isCat D (adP D.files.length) (capG D.files.length) = isCat_ D none 0 := by rw [h0]; rfl
    rw [hcat] at h3
    refine ⟨told, s, qs, (G1_run d hl told).trans h3, fun x hx => ?_⟩
    rcases h2 x hx with rfl | rfl | rfl | rfl | rfl
    · show eqB false (qPutG d.kind d.file d.place d.next (ltr d) D.files.length) = false
      rw [hq]; rfl
    · show (qPutG d.kind d.file d.place d.next (ltr d) D.files.length).isSome = true
      rw [hq]; rfl
    · rfl
    · show (!qRt d.kind d.file d.place d.next d.size (ltr d)) = false
      rw [q1]; rfl
    · exact q0
  one d D m hl hdec hm := by
    obtain ⟨hD, he⟩ := leaf_of_dec hl hdec
    obtain ⟨hk, hf, hp, hn, hs⟩ := dec_size he
    have hc := dec_cat he hD
    have h14 := right_len hD
    have hR : rightL d = true := by rw [he]; exact leafD_right D h14
    have q0 := qLf_eq d hl
    have q1 := qRt_eq d hl
    rw [hR] at q1
    have hq := qPut_eq d hl D.files.length hs
    rw [hc] at hq
    have hpl : pleaf D = d := by unfold pleaf; rw [hD]; exact he.symm
    rw [decide_eq_true hpl] at hq
    obtain ⟨told, qs, h1, h2⟩ := g1_y d.kind d.file d.place d.next (ltr d) D.files.length h14
    rw [← hs] at h1 h2
    rw [bT_bI, hc] at h1
    obtain ⟨s, h3, h4⟩ := probGR_inv h1
    have hcat : isCat D (adP D.files.length) (capG D.files.length) = isCat_ D (some ⟨2 + 3 * (m + 1), 0, none⟩) (OPEN + (m + 1)) := by rw [hm]; rfl
    rw [hcat] at h3 h4
    refine ⟨told, s, qs, _, (G1_run d hl told).trans h3, ?_, fun x hx => ?_⟩
    · have e1 : rowAt (isCat_ D (some ⟨2 + 3 * (m + 1), 0, none⟩) (OPEN + (m + 1))) s = cellsAt s (2 + 3 * (m + 1)) := rfl
      rw [← e1, h4]
      unfold rowR
      rw [hm]
      rfl
    rcases h2 x hx with rfl | rfl | rfl | rfl | rfl
    · show eqB false (qPutG d.kind d.file d.place d.next (ltr d) D.files.length) = false
      rw [hq]; rfl
    · show (qPutG d.kind d.file d.place d.next (ltr d) D.files.length).isSome = true
      rw [hq]; rfl
    · rfl
    · show (!qRt d.kind d.file d.place d.next d.size (ltr d)) = false
      rw [q1]; rfl
    · exact q0
end Go.Proofs.YtgofanjbhbeniaaDoor.lf
end
end

section
/- Catalogs: lists of files compared by the laws' own loop. -/
noncomputable section
namespace Go.Proofs.YtgofanjbhbeniaaDoor.lf
open AE
set_option linter.unusedSimpArgs false
set_option linter.unusedVariables false
set_option maxRecDepth 10000

instance : DecidableEq FileD := fun a b => if h : a.name = b.name ∧ a.file = b.file ∧ a.first = b.first ∧ a.blocks = b.blocks then isTrue (by cases a; cases b; simp_all) else isFalse (fun e => h (by subst e; exact ⟨rfl, rfl, rfl, rfl⟩))
theorem eqF (f g : FileD) : eqV E 1000 41 (.agg ⟨f.cells⟩) (.agg ⟨g.cells⟩) = some (decide (f = g)) := by
  obtain ⟨a, b, c, d⟩ := f
  obtain ⟨a', b', c', d'⟩ := g
  have hf : eqFs E 999 fsF.toList [.int .i64 a, .int .i64 b, .int .i64 c, .int .i64 d] [.int .i64 a', .int .i64 b', .int .i64 c', .int .i64 d'] = some (decide ((⟨a, b, c, d⟩ : FileD) = ⟨a', b', c', d'⟩)) := by
    rw [lsF]
    show eqFs E (998 + 1) _ _ _ = _
    simp only [eqFs, nmF0, nmF1, nmF2, nmF3, ftF0, ftF1, ftF2, ftF3, foF0, foF1, foF2, foF3, tyI, partK _ _ _ _ 0 _ rfl, partK _ _ _ _ 1 _ rfl, partK _ _ _ _ 2 _ rfl, partK _ _ _ _ 3 _ rfl, eqInt_any]
    by_cases h0 : a = a'
    · by_cases h1 : b = b'
      · by_cases h2 : c = c'
        · by_cases h3 : d = d'
          · simp [h0, h1, h2, h3]
          · simp [h0, h1, h2, h3]
        · simp [h0, h1, h2]
      · simp [h0, h1]
    · simp [h0]
  show eqV E (999 + 1) _ _ _ = _
  simp only [eqV, tyF, dsF, gdF]
  exact hf
theorem neqF (f g : FileD) : binA E .neq 41 (.agg ⟨f.cells⟩) (.agg ⟨g.cells⟩) = some (.bool (!decide (f = g))) := by
  show someB (eqV E 1000 41 (.agg ⟨f.cells⟩) (.agg ⟨g.cells⟩)) false = _
  rw [eqF]
  rfl
theorem Vx.rd {s s' : S} {a : Option Addr} {L : List Value} (h : Vx s a L) (hr : Rd s s') : Vx s' a L := h.keep (by rw [hr.next]; exact Nat.le_refl _) (fun m _ => by rw [hr.heap])
def sameFA : List Value → AM Value
  | [.slice a n c, .slice a2 n2 c2] => when (Nat.ble n 1000000) (match Nat.beq n n2 with
    | false => .pure (.bool false)
    | true => rdV a (4 * n) fun cs => rdV a2 (4 * n) fun cs2 => opt (filesOf cs) fun l => opt (filesOf cs2) fun l2 => .pure (.bool (decide (l = l2))))
  | _ => .fail
noncomputable def fiSF : FI := FI.of Tryd.f19
noncomputable def cdSF : Code := bodyOf Tryd.f19
noncomputable def cdSFl : Code := sub [1,1,0,1,0,0] cdSF
theorem resSF : fiSF.results = [.tmp 4] := rfl
theorem b_neqI {E t} (x y : Int) : binA E .neq t (.int .i64 x) (.int .i64 y) = some (.bool (not (eqI x y))) := rfl

def InvSF (a a2 : Option Addr) (c c2 : Nat) (l l2 : List FileD) (s0 : S) (k : Nat) (fr : Fr) (s : S) : Prop :=
  ∃ (i : Nat) (t : Tr Value), k = l.length - i ∧ i ≤ l.length ∧ fr = ⟨19, t, 26, [], none⟩ ∧ Rd s0 s ∧ t.get 0 = some (.slice a l.length c) ∧ t.get 1 = some (.slice a2 l.length c2) ∧ t.get 5 = some (.int .i64 (.ofNat i)) ∧
    (∀ j, j < i → l[j]? = l2[j]?)
def PostSF (l l2 : List FileD) (s0 : S) (x : Ex) (fr : Fr) (s : S) : Prop :=
  ∃ t : Tr Value, fr = ⟨19, t, 26, [], none⟩ ∧ Rd s0 s ∧ ((x = .exit 0 ∧ l = l2) ∨ (x = .ret ∧ l ≠ l2 ∧ t.get 4 = some (.bool false)))
theorem sameF_round (a a2 : Option Addr) (c c2 : Nat) (l l2 : List FileD) (s0 : S) (hl : l.length ≤ 1000000) (hl2 : l2.length = l.length) (hb : Vx s0 a (fcs l)) (hb2 : Vx s0 a2 (fcs l2)) (k : Nat) (fr : Fr) (s : S) (h : InvSF a a2 c c2 l l2 s0 k fr s) :
    GoC E (sumsOf []) cdSFl fr s (Again (InvSF a a2 c c2 l l2 s0) k (PostSF l l2 s0)) := by
  obtain ⟨i, t, rfl, hi, rfl, hr, h0, h1, h5, hz⟩ := h
  simp only [cdSFl, cdSF, Tryd.f19, bodyOf, sub]
  by_cases hlt : i < l.length
  · obtain ⟨x, hx⟩ : ∃ x, l[i]? = some x := ⟨_, List.getElem?_eq_getElem hlt⟩
    obtain ⟨y, hy⟩ : ∃ y, l2[i]? = some y := ⟨_, List.getElem?_eq_getElem (by omega)⟩
    cases a with
    | none =>
      have h9 : fcs l = [] := hb
      have := fcs_len l
      rw [h9] at this
      have h4 : (0 : Nat) = 4 * l.length := this
      omega
    | some ad =>
      cases a2 with
      | none =>
        have h9 : fcs l2 = [] := hb2
        have := fcs_len l2
        rw [h9] at this
        have h4 : (0 : Nat) = 4 * l2.length := this
        omega
      | some ad2 =>
        have hlt' : ltI (Int.ofNat i) (Int.ofNat l.length) = true := by rw [ltI_eq]; simp; omega
        have hbl : Nat.blt i l.length = true := blt_iff.2 hlt
        obtain ⟨ab, ao, asp⟩ := ad
        obtain ⟨ab2, ao2, asp2⟩ := ad2
        obtain ⟨hsp, hcl⟩ := hb
        obtain ⟨hsp2, hcl2⟩ := hb2
        simp only at hsp hcl hsp2 hcl2
        subst hsp
        subst hsp2
        obtain ⟨H, N, mk, rd, wr⟩ := s
        have B1 := (hcl.rd hr).sub (i * 4) 4 (by rw [fcs_len]; omega)
        have B2 := (hcl2.rd hr).sub (i * 4) 4 (by rw [fcs_len]; omega)
        rw [fcs_at l i x hx] at B1
        rw [fcs_at l2 i y hy] at B2
        have lx := (B1.of (s1 := ⟨H, N, N, 0, 0⟩) rfl rfl).ldA (β := ANext) tiF (by rw [dsF]; rfl) (by rw [szF]; rfl)
        have ly := (B2.of (s1 := ⟨H, N, N, 0, 0⟩) rfl rfl).ldA (β := ANext) tiF (by rw [dsF]; rfl) (by rw [szF]; rfl)
        have aa : addA ⟨ab, ao, none⟩ (Nat.mul i 4) = ⟨ab, ao + i * 4, none⟩ := addAn ab ao _
        have aa2 : addA ⟨ab2, ao2, none⟩ (Nat.mul i 4) = ⟨ab2, ao2 + i * 4, none⟩ := addAn ab2 ao2 _
        have nq := neqF x y
        have hinc := b_incr (n := i) (by omega)
        repeat apply go_seq
        apply go_region
        case h => intro m; simp (maxSteps := 2000000) (disch := decide) only [opsLoop, evOper, wantedA, nth, aop, aPick, aBin, aIndexAddr, aFieldAddr, aLoad, aStore, aExtract, aConvert, aAlloc, aBox, aIndex, callA, builtinA, Fr.evs, opt, val, when, AM.run, outV, newA, ptr, force_eq, seen_heap, seen_next, seen_mark, seen_seen, agg_cells, int_cells, Fr.ev, Fr.put, onFr, gps, gpn, bltT, still, flat, List.append_nil, List.nil_append, List.cons_append, Nat.reduceEqDiff, ne_eq, not_false_eq_true, reduceCtorEq, Bool.and_true, Bool.true_and, Bool.and_false, Bool.false_and, Bool.not_true, Bool.not_false, Bool.and_self, h0, h5, tyFs, dsFs, b_lss, hlt']; rfl
        repeat apply go_seq
        apply go_cond
        case hc => simp (disch := decide) only [opsLoop, evOper, wantedA, nth, aop, aPick, aBin, aIndexAddr, aFieldAddr, aLoad, aStore, aExtract, aConvert, aAlloc, aBox, aIndex, callA, builtinA, Fr.evs, opt, val, when, AM.run, outV, newA, ptr, force_eq, seen_heap, seen_next, seen_mark, seen_seen, agg_cells, int_cells, Fr.ev, Fr.put, onFr, gps, gpn, bltT, still, flat, List.append_nil, List.nil_append, List.cons_append, Nat.reduceEqDiff, ne_eq, not_false_eq_true, reduceCtorEq, Bool.and_true, Bool.true_and, Bool.and_false, Bool.false_and, Bool.not_true, Bool.not_false, Bool.and_self]; rfl
        case h2 => intro h; cases h
        intro _
        apply go_skip
        apply go_seq
        apply go_block
        by_cases e : x = y
        · rw [decide_eq_true e, Bool.not_true] at nq
          repeat apply go_seq
          apply go_drawn
          case hs => rfl
          case h => intro m; simp (maxSteps := 2000000) (disch := decide) only [opsLoop, evOper, wantedA, nth, aop, aPick, aBin, aIndexAddr, aFieldAddr, aLoad, aStore, aExtract, aConvert, aAlloc, aBox, aIndex, callA, Fr.evs, opt, val, when, AM.run, outV, newA, ptr, force_eq, seen_heap, seen_next, seen_mark, seen_seen, agg_cells, int_cells, Fr.ev, Fr.put, onFr, gps, gpn, bltT, still, flat, List.append_nil, List.nil_append, List.cons_append, Nat.reduceEqDiff, ne_eq, not_false_eq_true, reduceCtorEq, Bool.and_true, Bool.true_and, Bool.and_false, Bool.false_and, Bool.not_true, Bool.not_false, Bool.and_self, drawnLoop, keep_none, clash_nil, clash_reads, created_self, lor_zero, lor_zero', h0, h1, h5, tyFs, dsFs, tyF, dsF, szF, hbl, aa, aa2, lx, ly, nq, clash_bef]; rfl
          repeat apply go_seq
          apply go_cond
          case hc => simp (disch := decide) only [opsLoop, evOper, wantedA, nth, aop, aPick, aBin, aIndexAddr, aFieldAddr, aLoad, aStore, aExtract, aConvert, aAlloc, aBox, aIndex, callA, builtinA, Fr.evs, opt, val, when, AM.run, outV, newA, ptr, force_eq, seen_heap, seen_next, seen_mark, seen_seen, agg_cells, int_cells, Fr.ev, Fr.put, onFr, gps, gpn, bltT, still, flat, List.append_nil, List.nil_append, List.cons_append, Nat.reduceEqDiff, ne_eq, not_false_eq_true, reduceCtorEq, Bool.and_true, Bool.true_and, Bool.and_false, Bool.false_and, Bool.not_true, Bool.not_false, Bool.and_self]; rfl
          case h1 => intro h; cases h
          intro _
          apply go_skip
          repeat apply go_seq
          apply go_region
          case h => intro m; simp (maxSteps := 2000000) (disch := decide) only [opsLoop, evOper, wantedA, nth, aop, aPick, aBin, aIndexAddr, aFieldAddr, aLoad, aStore, aExtract, aConvert, aAlloc, aBox, aIndex, callA, builtinA, Fr.evs, opt, val, when, AM.run, outV, newA, ptr, force_eq, seen_heap, seen_next, seen_mark, seen_seen, agg_cells, int_cells, Fr.ev, Fr.put, onFr, gps, gpn, bltT, still, flat, List.append_nil, List.nil_append, List.cons_append, Nat.reduceEqDiff, ne_eq, not_false_eq_true, reduceCtorEq, Bool.and_true, Bool.true_and, Bool.and_false, Bool.false_and, Bool.not_true, Bool.not_false, Bool.and_self, h5, int1, hinc]; rfl
          refine ⟨l.length - (i + 1), by omega, i + 1, _, rfl, by omega, rfl, ⟨hr.heap, hr.next, hr.mark⟩, ?_, ?_, ?_, ?_⟩
          · simp (disch := decide) only [gps, gpn, h0]
          · simp (disch := decide) only [gps, gpn, h1]
          · simp (disch := decide) only [gps, gpn]
          · intro j hj
            by_cases e2 : j = i
            · subst e2; rw [hx, hy, e]
            · exact hz j (by omega)
        · rw [decide_eq_false e, Bool.not_false] at nq
          repeat apply go_seq
          apply go_drawn
          case hs => rfl
          case h => intro m; simp (maxSteps := 2000000) (disch := decide) only [opsLoop, evOper, wantedA, nth, aop, aPick, aBin, aIndexAddr, aFieldAddr, aLoad, aStore, aExtract, aConvert, aAlloc, aBox, aIndex, callA, Fr.evs, opt, val, when, AM.run, outV, newA, ptr, force_eq, seen_heap, seen_next, seen_mark, seen_seen, agg_cells, int_cells, Fr.ev, Fr.put, onFr, gps, gpn, bltT, still, flat, List.append_nil, List.nil_append, List.cons_append, Nat.reduceEqDiff, ne_eq, not_false_eq_true, reduceCtorEq, Bool.and_true, Bool.true_and, Bool.and_false, Bool.false_and, Bool.not_true, Bool.not_false, Bool.and_self, drawnLoop, keep_none, clash_nil, clash_reads, created_self, lor_zero, lor_zero', h0, h1, h5, tyFs, dsFs, tyF, dsF, szF, hbl, aa, aa2, lx, ly, nq, clash_bef]; rfl
          repeat apply go_seq
          apply go_cond
          case hc => simp (disch := decide) only [opsLoop, evOper, wantedA, nth, aop, aPick, aBin, aIndexAddr, aFieldAddr, aLoad, aStore, aExtract, aConvert, aAlloc, aBox, aIndex, callA, builtinA, Fr.evs, opt, val, when, AM.run, outV, newA, ptr, force_eq, seen_heap, seen_next, seen_mark, seen_seen, agg_cells, int_cells, Fr.ev, Fr.put, onFr, gps, gpn, bltT, still, flat, List.append_nil, List.nil_append, List.cons_append, Nat.reduceEqDiff, ne_eq, not_false_eq_true, reduceCtorEq, Bool.and_true, Bool.true_and, Bool.and_false, Bool.false_and, Bool.not_true, Bool.not_false, Bool.and_self]; rfl
          case h2 => intro h; cases h
          intro _
          repeat apply go_seq
          apply go_region
          case h => intro m; simp (maxSteps := 2000000) (disch := decide) only [opsLoop, evOper, wantedA, nth, aop, aPick, aBin, aIndexAddr, aFieldAddr, aLoad, aStore, aExtract, aConvert, aAlloc, aBox, aIndex, callA, builtinA, Fr.evs, opt, val, when, AM.run, outV, newA, ptr, force_eq, seen_heap, seen_next, seen_mark, seen_seen, agg_cells, int_cells, Fr.ev, Fr.put, onFr, gps, gpn, bltT, still, flat, List.append_nil, List.nil_append, List.cons_append, Nat.reduceEqDiff, ne_eq, not_false_eq_true, reduceCtorEq, Bool.and_true, Bool.true_and, Bool.and_false, Bool.false_and, Bool.not_true, Bool.not_false, Bool.and_self]; rfl
          apply go_ret
          refine ⟨_, rfl, ⟨hr.heap, hr.next, hr.mark⟩, .inr ⟨rfl, fun e2 => ?_, ?_⟩⟩
          · subst e2; rw [hx] at hy; exact e (Option.some.inj hy)
          · simp (disch := decide) only [gps, gpn]
  · obtain rfl : i = l.length := by omega
    have hlt' : ltI (Int.ofNat l.length) (Int.ofNat l.length) = false := by rw [ltI_eq]; simp
    repeat apply go_seq
    apply go_region
    case h => intro m; simp (maxSteps := 2000000) (disch := decide) only [opsLoop, evOper, wantedA, nth, aop, aPick, aBin, aIndexAddr, aFieldAddr, aLoad, aStore, aExtract, aConvert, aAlloc, aBox, aIndex, callA, builtinA, Fr.evs, opt, val, when, AM.run, outV, newA, ptr, force_eq, seen_heap, seen_next, seen_mark, seen_seen, agg_cells, int_cells, Fr.ev, Fr.put, onFr, gps, gpn, bltT, still, flat, List.append_nil, List.nil_append, List.cons_append, Nat.reduceEqDiff, ne_eq, not_false_eq_true, reduceCtorEq, Bool.and_true, Bool.true_and, Bool.and_false, Bool.false_and, Bool.not_true, Bool.not_false, Bool.and_self, h0, h5, tyFs, dsFs, b_lss, hlt']; rfl
    repeat apply go_seq
    apply go_cond
    case hc => simp (disch := decide) only [opsLoop, evOper, wantedA, nth, aop, aPick, aBin, aIndexAddr, aFieldAddr, aLoad, aStore, aExtract, aConvert, aAlloc, aBox, aIndex, callA, builtinA, Fr.evs, opt, val, when, AM.run, outV, newA, ptr, force_eq, seen_heap, seen_next, seen_mark, seen_seen, agg_cells, int_cells, Fr.ev, Fr.put, onFr, gps, gpn, bltT, still, flat, List.append_nil, List.nil_append, List.cons_append, Nat.reduceEqDiff, ne_eq, not_false_eq_true, reduceCtorEq, Bool.and_true, Bool.true_and, Bool.and_false, Bool.false_and, Bool.not_true, Bool.not_false, Bool.and_self]; rfl
    case h1 => intro h; cases h
    intro _
    apply go_exit
    refine ⟨_, rfl, hr, .inl ⟨rfl, List.ext_getElem? fun j => ?_⟩⟩
    by_cases hj : j < l.length
    · exact hz j hj
    · rw [List.getElem?_eq_none (by omega), List.getElem?_eq_none (by omega)]

theorem told_sameF : AE.Told Tryd.prog 19 sameFA := by
  refine told_go hE hmix tolds_nil ?_
  intro args s v s' h hm
  unfold sameFA at h
  split at h
  · rename_i a n c a2 n2 c2
    obtain ⟨hc, h2⟩ := run_when h
    have hn := ble_iff.1 hc
    refine go_enter (fi := fiSF) (c := cdSF) (by kernel_rfl) (by kernel_rfl) 26 rfl rfl ?_
    have hcode : cdSF = .seq (sub [0] cdSF) (.seq (sub [1,0] cdSF) (.seq (.seq (sub [1,1,0,0] cdSF) (.block 0 (.loop cdSFl))) (sub [1,1,1] cdSF))) := rfl
    rw [hcode]
    have h0 : (Tr.ofList [Value.slice a n c, .slice a2 n2 c2]).get 0 = some (.slice a n c) := rfl
    have h1 : (Tr.ofList [Value.slice a n c, .slice a2 n2 c2]).get 1 = some (.slice a2 n2 c2) := rfl
    generalize Tr.ofList [Value.slice a n c, .slice a2 n2 c2] = t at *
    simp only [cdSF, Tryd.f19, bodyOf, sub]
    cases hbq : Nat.beq n n2 with
    | false =>
      rw [hbq] at h2
      cases h2
      have hne : eqI (Int.ofNat n) (Int.ofNat n2) = false := eqI_f (fun e => by subst e; rw [beq_iff.2 rfl] at hbq; cases hbq)
      repeat apply go_seq
      apply go_region
      case h => intro m; simp (maxSteps := 2000000) (disch := decide) only [opsLoop, evOper, wantedA, nth, aop, aPick, aBin, aIndexAddr, aFieldAddr, aLoad, aStore, aExtract, aConvert, aAlloc, aBox, aIndex, callA, builtinA, Fr.evs, opt, val, when, AM.run, outV, newA, ptr, force_eq, seen_heap, seen_next, seen_mark, seen_seen, agg_cells, int_cells, Fr.ev, Fr.put, onFr, gps, gpn, bltT, still, flat, List.append_nil, List.nil_append, List.cons_append, Nat.reduceEqDiff, ne_eq, not_false_eq_true, reduceCtorEq, Bool.and_true, Bool.true_and, Bool.and_false, Bool.false_and, Bool.not_true, Bool.not_false, Bool.and_self]; rfl
      repeat apply go_seq
      apply go_region
      case h => intro m; simp (maxSteps := 2000000) (disch := decide) only [opsLoop, evOper, wantedA, nth, aop, aPick, aBin, aIndexAddr, aFieldAddr, aLoad, aStore, aExtract, aConvert, aAlloc, aBox, aIndex, callA, builtinA, Fr.evs, opt, val, when, AM.run, outV, newA, ptr, force_eq, seen_heap, seen_next, seen_mark, seen_seen, agg_cells, int_cells, Fr.ev, Fr.put, onFr, gps, gpn, bltT, still, flat, List.append_nil, List.nil_append, List.cons_append, Nat.reduceEqDiff, ne_eq, not_false_eq_true, reduceCtorEq, Bool.and_true, Bool.true_and, Bool.and_false, Bool.false_and, Bool.not_true, Bool.not_false, Bool.and_self, h0, h1, tyFs, dsFs, b_neqI, hne]; rfl
      repeat apply go_seq
      apply go_cond
      case hc => simp (disch := decide) only [opsLoop, evOper, wantedA, nth, aop, aPick, aBin, aIndexAddr, aFieldAddr, aLoad, aStore, aExtract, aConvert, aAlloc, aBox, aIndex, callA, builtinA, Fr.evs, opt, val, when, AM.run, outV, newA, ptr, force_eq, seen_heap, seen_next, seen_mark, seen_seen, agg_cells, int_cells, Fr.ev, Fr.put, onFr, gps, gpn, bltT, still, flat, List.append_nil, List.nil_append, List.cons_append, Nat.reduceEqDiff, ne_eq, not_false_eq_true, reduceCtorEq, Bool.and_true, Bool.true_and, Bool.and_false, Bool.false_and, Bool.not_true, Bool.not_false, Bool.and_self]; rfl
      case h2 => intro h; cases h
      intro _
      repeat apply go_seq
      apply go_region
      case h => intro m; simp (maxSteps := 2000000) (disch := decide) only [opsLoop, evOper, wantedA, nth, aop, aPick, aBin, aIndexAddr, aFieldAddr, aLoad, aStore, aExtract, aConvert, aAlloc, aBox, aIndex, callA, builtinA, Fr.evs, opt, val, when, AM.run, outV, newA, ptr, force_eq, seen_heap, seen_next, seen_mark, seen_seen, agg_cells, int_cells, Fr.ev, Fr.put, onFr, gps, gpn, bltT, still, flat, List.append_nil, List.nil_append, List.cons_append, Nat.reduceEqDiff, ne_eq, not_false_eq_true, reduceCtorEq, Bool.and_true, Bool.true_and, Bool.and_false, Bool.false_and, Bool.not_true, Bool.not_false, Bool.and_self]; rfl
      repeat apply go_seq
      apply go_ret
      apply ret_intro rfl rfl
      case run => simp (disch := decide) only [resultsM, resultsA, resSF, opsLoop, evOper, wantedA, nth, aop, aPick, aBin, aIndexAddr, aFieldAddr, aLoad, aStore, aExtract, aConvert, aAlloc, aBox, aIndex, callA, builtinA, Fr.evs, opt, val, when, AM.run, outV, newA, ptr, force_eq, seen_heap, seen_next, seen_mark, seen_seen, agg_cells, int_cells, Fr.ev, Fr.put, onFr, gps, gpn, bltT, still, flat, List.append_nil, List.nil_append, List.cons_append, Nat.reduceEqDiff, ne_eq, not_false_eq_true, reduceCtorEq, Bool.and_true, Bool.true_and, Bool.and_false, Bool.false_and, Bool.not_true, Bool.not_false, Bool.and_self]; rfl
      exact ⟨rfl, Less'.refl _⟩
    | true =>
      rw [hbq] at h2
      obtain rfl := beq_iff.1 hbq
      obtain ⟨L, s1, hL, hb, hr1, h3⟩ := vx_of_rd h2
      obtain ⟨L2, s2, hL2, hb2, hr2, h4⟩ := vx_of_rd h3
      obtain ⟨l, hfs, h5⟩ := run_opt h4
      obtain ⟨l2, hfs2, h6⟩ := run_opt h5
      cases h6
      obtain rfl := filesOf_inv L l hfs
      obtain rfl := filesOf_inv L2 l2 hfs2
      rw [fcs_len] at hL hL2
      have hl : l.length = n := by omega
      have hl2 : l2.length = n := by omega
      clear h4 h5 hfs hfs2
      have heq : eqI (Int.ofNat n) (Int.ofNat n) = true := eqI_t n
      repeat apply go_seq
      apply go_region
      case h => intro m; simp (maxSteps := 2000000) (disch := decide) only [opsLoop, evOper, wantedA, nth, aop, aPick, aBin, aIndexAddr, aFieldAddr, aLoad, aStore, aExtract, aConvert, aAlloc, aBox, aIndex, callA, builtinA, Fr.evs, opt, val, when, AM.run, outV, newA, ptr, force_eq, seen_heap, seen_next, seen_mark, seen_seen, agg_cells, int_cells, Fr.ev, Fr.put, onFr, gps, gpn, bltT, still, flat, List.append_nil, List.nil_append, List.cons_append, Nat.reduceEqDiff, ne_eq, not_false_eq_true, reduceCtorEq, Bool.and_true, Bool.true_and, Bool.and_false, Bool.false_and, Bool.not_true, Bool.not_false, Bool.and_self]; rfl
      repeat apply go_seq
      apply go_region
      case h => intro m; simp (maxSteps := 2000000) (disch := decide) only [opsLoop, evOper, wantedA, nth, aop, aPick, aBin, aIndexAddr, aFieldAddr, aLoad, aStore, aExtract, aConvert, aAlloc, aBox, aIndex, callA, builtinA, Fr.evs, opt, val, when, AM.run, outV, newA, ptr, force_eq, seen_heap, seen_next, seen_mark, seen_seen, agg_cells, int_cells, Fr.ev, Fr.put, onFr, gps, gpn, bltT, still, flat, List.append_nil, List.nil_append, List.cons_append, Nat.reduceEqDiff, ne_eq, not_false_eq_true, reduceCtorEq, Bool.and_true, Bool.true_and, Bool.and_false, Bool.false_and, Bool.not_true, Bool.not_false, Bool.and_self, h0, h1, tyFs, dsFs, b_neqI, heq]; rfl
      repeat apply go_seq
      apply go_cond
      case hc => simp (disch := decide) only [opsLoop, evOper, wantedA, nth, aop, aPick, aBin, aIndexAddr, aFieldAddr, aLoad, aStore, aExtract, aConvert, aAlloc, aBox, aIndex, callA, builtinA, Fr.evs, opt, val, when, AM.run, outV, newA, ptr, force_eq, seen_heap, seen_next, seen_mark, seen_seen, agg_cells, int_cells, Fr.ev, Fr.put, onFr, gps, gpn, bltT, still, flat, List.append_nil, List.nil_append, List.cons_append, Nat.reduceEqDiff, ne_eq, not_false_eq_true, reduceCtorEq, Bool.and_true, Bool.true_and, Bool.and_false, Bool.false_and, Bool.not_true, Bool.not_false, Bool.and_self]; rfl
      case h1 => intro h; cases h
      intro _
      apply go_skip
      repeat apply go_seq
      apply go_region
      case h => intro m; simp (maxSteps := 2000000) (disch := decide) only [opsLoop, evOper, wantedA, nth, aop, aPick, aBin, aIndexAddr, aFieldAddr, aLoad, aStore, aExtract, aConvert, aAlloc, aBox, aIndex, callA, builtinA, Fr.evs, opt, val, when, AM.run, outV, newA, ptr, force_eq, seen_heap, seen_next, seen_mark, seen_seen, agg_cells, int_cells, Fr.ev, Fr.put, onFr, gps, gpn, bltT, still, flat, List.append_nil, List.nil_append, List.cons_append, Nat.reduceEqDiff, ne_eq, not_false_eq_true, reduceCtorEq, Bool.and_true, Bool.true_and, Bool.and_false, Bool.false_and, Bool.not_true, Bool.not_false, Bool.and_self]; rfl
      apply go_block
      subst hl
      refine (go_loop_inv (InvSF a a2 c c2 l l2 s) (fun k fr s1 hI => sameF_round a a2 c c2 l l2 s hn hl2 hb (hb2.rd ⟨hr1.heap.symm, hr1.next.symm, hr1.mark.symm⟩) k fr s1 hI) (l.length - 0) _ _ ⟨0, _, rfl, by omega, rfl, Rd.refl s, ?_, ?_, ?_, fun j hj => by omega⟩).mono ?_
      · simp (disch := decide) only [gps, gpn, h0]
      · simp (disch := decide) only [gps, gpn, h1]
      · simp (disch := decide) only [gps, gpn, int0]
      rintro x fr s3 ⟨t1, rfl, hr3, hx⟩
      have hless : Less' s3 s' := hr3.less (hr1.trans hr2)
      rcases hx with ⟨rfl, rfl⟩ | ⟨rfl, hne, g4⟩
      · simp only [Out_, if_true]
        show GoC E _ _ _ _ _
        repeat apply go_seq
        apply go_region
        case h => intro m; simp (maxSteps := 2000000) (disch := decide) only [opsLoop, evOper, wantedA, nth, aop, aPick, aBin, aIndexAddr, aFieldAddr, aLoad, aStore, aExtract, aConvert, aAlloc, aBox, aIndex, callA, builtinA, Fr.evs, opt, val, when, AM.run, outV, newA, ptr, force_eq, seen_heap, seen_next, seen_mark, seen_seen, agg_cells, int_cells, Fr.ev, Fr.put, onFr, gps, gpn, bltT, still, flat, List.append_nil, List.nil_append, List.cons_append, Nat.reduceEqDiff, ne_eq, not_false_eq_true, reduceCtorEq, Bool.and_true, Bool.true_and, Bool.and_false, Bool.false_and, Bool.not_true, Bool.not_false, Bool.and_self]; rfl
        repeat apply go_seq
        apply go_ret
        apply ret_intro rfl rfl
        case run => simp (disch := decide) only [resultsM, resultsA, resSF, opsLoop, evOper, wantedA, nth, aop, aPick, aBin, aIndexAddr, aFieldAddr, aLoad, aStore, aExtract, aConvert, aAlloc, aBox, aIndex, callA, builtinA, Fr.evs, opt, val, when, AM.run, outV, newA, ptr, force_eq, seen_heap, seen_next, seen_mark, seen_seen, agg_cells, int_cells, Fr.ev, Fr.put, onFr, gps, gpn, bltT, still, flat, List.append_nil, List.nil_append, List.cons_append, Nat.reduceEqDiff, ne_eq, not_false_eq_true, reduceCtorEq, Bool.and_true, Bool.true_and, Bool.and_false, Bool.false_and, Bool.not_true, Bool.not_false, Bool.and_self]; rfl
        exact ⟨by simp, hless⟩
      · simp only [Out_]
        apply ret_intro rfl rfl
        case run => simp (disch := decide) only [resultsM, resultsA, resSF, opsLoop, evOper, wantedA, nth, aop, aPick, aBin, aIndexAddr, aFieldAddr, aLoad, aStore, aExtract, aConvert, aAlloc, aBox, aIndex, callA, builtinA, Fr.evs, opt, val, when, AM.run, outV, newA, ptr, force_eq, seen_heap, seen_next, seen_mark, seen_seen, agg_cells, int_cells, Fr.ev, Fr.put, onFr, gps, gpn, bltT, still, flat, List.append_nil, List.nil_append, List.cons_append, Nat.reduceEqDiff, ne_eq, not_false_eq_true, reduceCtorEq, Bool.and_true, Bool.true_and, Bool.and_false, Bool.false_and, Bool.not_true, Bool.not_false, Bool.and_self, g4]; rfl
        exact ⟨by simp [hne], hless⟩
  · cases h
end Go.Proofs.YtgofanjbhbeniaaDoor.lf
end
end

section
/- Catalogs compared: what sheafkeep.Catalogs does, told. -/
noncomputable section
namespace Go.Proofs.YtgofanjbhbeniaaDoor.lf
open AE
set_option linter.unusedSimpArgs false
set_option linter.unusedVariables false
set_option maxRecDepth 10000

instance : DecidableEq CatD := fun a b => if h : a.gen = b.gen ∧ a.step = b.step ∧ a.status = b.status ∧ a.ended = b.ended ∧ a.from_ = b.from_ ∧ a.to_ = b.to_ ∧ a.budget = b.budget ∧ a.fan = b.fan ∧ a.files = b.files then isTrue (by cases a; cases b; simp_all) else isFalse (fun e => h (by subst e; exact ⟨rfl, rfl, rfl, rfl, rfl, rfl, rfl, rfl, rfl⟩))
theorem cat_ne {a b : CatD} (h : a.gen ≠ b.gen ∨ a.step ≠ b.step ∨ a.status ≠ b.status ∨ a.ended ≠ b.ended ∨ ¬ (a.from_ = b.from_ ∧ a.to_ = b.to_ ∧ a.budget = b.budget ∧ a.fan = b.fan) ∨ a.files ≠ b.files) : decide (a = b) = false := by
  apply decide_eq_false
  intro e
  subst e
  simp at h
def catsA : List Value → AM Value
  | [.agg ⟨[.int .i64 g, .int .i64 st, .int .i64 su, .bool en, .int .i64 f, .int .i64 t, .int .i64 b, .int .i64 fa, .slice a n cap]⟩, .agg ⟨[.int .i64 g2, .int .i64 st2, .int .i64 su2, .bool en2, .int .i64 f2, .int .i64 t2, .int .i64 b2, .int .i64 fa2, .slice a2 n2 cap2]⟩] =>
    when (Nat.ble n 1000000 && Nat.ble n2 1000000) (rdV a (4 * n) fun cs => rdV a2 (4 * n2) fun cs2 => opt (filesOf cs) fun fs => opt (filesOf cs2) fun fs2 => bump 2 (.pure (.bool (decide ((⟨g, st, su, en, f, t, b, fa, fs⟩ : CatD) = ⟨g2, st2, su2, en2, f2, t2, b2, fa2, fs2⟩)))))
  | _ => .fail
theorem eqlK (a b c d a' b' c' d' : Int) : binA E .eql 24 (.agg ⟨[.int .i64 a, .int .i64 b, .int .i64 c, .int .i64 d]⟩) (.agg ⟨[.int .i64 a', .int .i64 b', .int .i64 c', .int .i64 d']⟩) = some (.bool (decide (a = a' ∧ b = b' ∧ c = c' ∧ d = d'))) := by
  show someB (eqV E 1000 24 (.agg ⟨[.int .i64 a, .int .i64 b, .int .i64 c, .int .i64 d]⟩) (.agg ⟨[.int .i64 a', .int .i64 b', .int .i64 c', .int .i64 d']⟩)) true = _
  rw [eqK]
  rfl
theorem eqI_d (a b : Int) : eqI a b = decide (a = b) := by rw [eqI_eq]
theorem eqlI (a b : Int) : ∀ t, (t = 3 ∨ t = 22) → binA E .eql t (.int .i64 a) (.int .i64 b) = some (.bool (decide (a = b))) := by
  intro t _
  show some (Value.bool (eqI a b)) = _
  rw [eqI_d]
theorem eqlBo (a b : Bool) : binA E .eql 4 (.bool a) (.bool b) = some (.bool (decide (a = b))) := by
  cases a <;> cases b <;> kernel_rfl
noncomputable def fiCs : FI := FI.of Tryd.f16
noncomputable def cdCs : Code := bodyOf Tryd.f16
theorem resCs : fiCs.results = [.tmp 4] := rfl
abbrev sigCs : List (Nat × (List Value → AM Value)) := [(19, sameFA)]
theorem tolds_Cs : Tolds Tryd.prog (sumsOf sigCs) := tolds_cons told_sameF tolds_nil
theorem csS : sumsOf sigCs 19 = some sameFA := rfl
theorem tgSF : ∀ a b, targetA E (.func 19) a b = .pure (.enter 19 (b ++ a)) := tgt (fi := fiSF) (c := cdSF) (by kernel_rfl) (by kernel_rfl)
theorem sameFA_run {s : S} {a a2 : Option Addr} {c c2 : Nat} {l l2 : List FileD} (h : l.length ≤ 1000000) (hv : Vx s a (fcs l)) (hv2 : Vx s a2 (fcs l2)) : ∃ s1, (sameFA [.slice a l.length c, .slice a2 l2.length c2]).run s = some (.bool (decide (l = l2)), s1) ∧ Rd s s1 := by
  show ∃ s1, (when (Nat.ble l.length 1000000) (match Nat.beq l.length l2.length with
    | false => AM.pure (Value.bool false)
    | true => rdV a (4 * l.length) fun cs => rdV a2 (4 * l.length) fun cs2 => opt (filesOf cs) fun l => opt (filesOf cs2) fun l2 => .pure (Value.bool (decide (l = l2))))).run s = _ ∧ _
  rw [ble_iff.2 h, show ∀ k : AM Value, when true k = k from fun _ => rfl]
  cases hb : Nat.beq l.length l2.length with
  | false =>
    refine ⟨s, ?_, Rd.refl s⟩
    have : decide (l = l2) = false := decide_eq_false (fun e => by subst e; rw [beq_iff.2 rfl] at hb; cases hb)
    rw [this]
    rfl
  | true =>
    have hl := beq_iff.1 hb
    obtain ⟨s1, e1, r1, _⟩ := rdV_run hv (fun cs => rdV a2 (4 * l.length) fun cs2 => opt (filesOf cs) fun l => opt (filesOf cs2) fun l2 => .pure (Value.bool (decide (l = l2))))
    rw [fcs_len] at e1
    obtain ⟨s2, e2, r2, _⟩ := rdV_run (hv2.rd r1) (fun cs2 => opt (filesOf (fcs l)) fun l => opt (filesOf cs2) fun l2 => .pure (Value.bool (decide (l = l2))))
    rw [fcs_len, ← hl, filesOf_fcs, filesOf_fcs] at e2
    refine ⟨s2, ?_, r1.trans r2⟩
    show (rdV a (4 * l.length) _).run s = _
    rw [e1, filesOf_fcs]
    exact e2

set_option maxHeartbeats 4000000 in
theorem told_cats : AE.Told Tryd.prog 16 catsA := by
  refine told_go hE hmix tolds_Cs ?_
  intro args s v s' h hm
  unfold catsA at h
  split at h
  · rename_i g st su en fo to bu fa a n cap g2 st2 su2 en2 fo2 to2 bu2 fa2 a2 n2 cap2
    obtain ⟨hc, h2⟩ := run_when h
    simp only [Bool.and_eq_true] at hc
    obtain ⟨L, s1, hL, hvx, hr1, h3⟩ := vx_of_rd h2
    obtain ⟨L2, s2, hL2, hvx2, hr2, h4⟩ := vx_of_rd h3
    obtain ⟨fs, hfs, h5⟩ := run_opt h4
    obtain ⟨fs2, hfs2, h6⟩ := run_opt h5
    obtain rfl := filesOf_inv L fs hfs
    obtain rfl := filesOf_inv L2 fs2 hfs2
    rw [fcs_len] at hL hL2
    obtain rfl : n = fs.length := by omega
    obtain rfl : n2 = fs2.length := by omega
    obtain ⟨s9, h7, hn9, hm9, hh9, hbl⟩ := bump_run _ _ _ _ h6
    cases h7
    have hvx2 : Vx s a2 (fcs fs2) := hvx2.rd ⟨hr1.heap.symm, hr1.next.symm, hr1.mark.symm⟩
    have hr3 := hr1.trans hr2
    clear h h2 h3 h4 h5 h6 hL hL2 hfs hfs2
    rw [hr3.next] at hn9 hh9 hbl
    simp only [hr3.heap] at hh9
    refine go_enter (fi := fiCs) (c := cdCs) (by kernel_rfl) (by kernel_rfl) 45 rfl rfl ?_
    simp only [cdCs, Tryd.f16, bodyOf]
    obtain ⟨D, hD⟩ : ∃ D : CatD, D = ⟨g, st, su, en, fo, to, bu, fa, fs⟩ := ⟨_, rfl⟩
    obtain ⟨D2, hD2⟩ : ∃ D : CatD, D = ⟨g2, st2, su2, en2, fo2, to2, bu2, fa2, fs2⟩ := ⟨_, rfl⟩
    have hcells : D.cells a cap = [.int .i64 g, .int .i64 st, .int .i64 su, .bool en, .int .i64 fo, .int .i64 to, .int .i64 bu, .int .i64 fa, .slice a fs.length cap] := by subst hD; rfl
    have hcells2 : D2.cells a2 cap2 = [.int .i64 g2, .int .i64 st2, .int .i64 su2, .bool en2, .int .i64 fo2, .int .i64 to2, .int .i64 bu2, .int .i64 fa2, .slice a2 fs2.length cap2] := by subst hD2; rfl
    have hfl : D.files = fs := by rw [hD]
    have hfl2 : D2.files = fs2 := by rw [hD2]
    rw [← hD, ← hD2, ← hcells, ← hcells2]
    have h0 : (Tr.ofList [Value.agg ⟨D.cells a cap⟩, .agg ⟨D2.cells a2 cap2⟩]).get 0 = some (.agg ⟨D.cells a cap⟩) := rfl
    have h1 : (Tr.ofList [Value.agg ⟨D.cells a cap⟩, .agg ⟨D2.cells a2 cap2⟩]).get 1 = some (.agg ⟨D2.cells a2 cap2⟩) := rfl
    generalize Tr.ofList [Value.agg ⟨D.cells a cap⟩, .agg ⟨D2.cells a2 cap2⟩] = t at *
    have hN0 : Nat.ble s.next lastName = true := hbl 0 (by omega)
    have hN1 : Nat.ble (s.next + 1) lastName = true := hbl 1 (by omega)
    have hN1' : Nat.ble (Nat.succ s.next) lastName = true := hN1
    repeat apply go_seq
    apply go_region
    case h => intro m; simp (maxSteps := 2000000) (disch := decide) only [opsLoop, evOper, wantedA, nth, aop, aPick, aBin, aIndexAddr, aFieldAddr, aLoad, aStore, aExtract, aConvert, aAlloc, aBox, aIndex, callA, builtinA, Fr.evs, opt, val, when, AM.run, outV, newA, ptr, force_eq, seen_heap, seen_next, seen_mark, seen_seen, agg_cells, int_cells, Fr.ev, Fr.put, onFr, gps, gpn, bltT, still, flat, List.append_nil, List.nil_append, List.cons_append, Nat.reduceEqDiff, ne_eq, not_false_eq_true, reduceCtorEq, Bool.and_true, Bool.true_and, Bool.and_false, Bool.false_and, Bool.not_true, Bool.not_false, Bool.and_self, h0, h1, tyC, hN0, hN1', show Nat.ble (D.cells a cap).length lastName = true from rfl, show Nat.ble (D2.cells a2 cap2).length lastName = true from rfl]; rfl
    generalize hs1 : S.mk _ _ _ _ _ = s3
    have e1 : s3.next = s.next + 2 := by rw [← hs1]
    have e1h : s3.heap = (s.heap.put s.next (some (.cells (Tr.ofList (D.cells a cap)) (D.cells a cap).length 27 .whole))).put (s.next + 1) (some (.cells (Tr.ofList (D2.cells a2 cap2)) (D2.cells a2 cap2).length 27 .whole)) := by rw [← hs1]
    clear hs1
    rw [show Nat.succ s.next = s.next + 1 from rfl]
    have C1 : Cl s3 s.next 0 (D.cells a cap) := Cl.new (by omega) (by rw [e1h, hg_far hN1 (by omega)]; exact hg_same hN0 _ _) (by rw [hcells]; simp)
    have C2 : Cl s3 (s.next + 1) 0 (D2.cells a2 cap2) := Cl.new (by omega) (by rw [e1h]; exact hg_same hN1 _ _) (by rw [hcells2]; simp)
    have g1 : ∀ m, m ≠ s.next → m ≠ s.next + 1 → s3.heap.get m = s.heap.get m := fun m q1 q2 => by rw [e1h, hg_far hN1 (by omega), hg_far hN0 (by omega)]
    clear e1h
    have hless : ∀ s4 : S, Rd s3 s4 → Less' s4 s' := fun s4 hr => less_new (s := s) (n := 2) (by rw [hr.next]; omega) hn9 hh9 (fun m hm => by rw [hr.heap]; exact g1 m (by omega) (by omega))
    have V1 : Vx s3 a (fcs D.files) := by rw [hfl]; exact hvx.keep (by omega) (fun m hm => g1 m (by omega) (by omega))
    have V2 : Vx s3 a2 (fcs D2.files) := by rw [hfl2]; exact hvx2.keep (by omega) (fun m hm => g1 m (by omega) (by omega))
    have hlen1 : D.files.length ≤ 1000000 := by rw [hfl]; exact ble_iff.1 hc.1
    clear hcells hcells2 hD hD2 hvx hvx2 hfl hfl2 hn9 hh9 hc
    obtain ⟨H, N, mk, rd, wr⟩ := s3
    simp only at e1 g1
    have x0 := C1.ld (k := 0) tiI (by rw [dsI]; rfl) rfl
    have x1 := C1.ld (k := 1) tiI (by rw [dsI]; rfl) rfl
    have x2 := C1.ld (k := 2) tiSt8 (by rw [dsSt8]; rfl) rfl
    have x3 := C1.ld (k := 3) tiBo (by rw [dsBo]; rfl) rfl
    have x8 := C1.ld (k := 8) tiFs (by rw [dsFs]; rfl) rfl
    have x4 := (C1.sub 4 4 (by show 8 ≤ 9; omega)).ldA (β := ANext) tiK (by rw [dsK]; rfl) (by rw [szK]; rfl)
    simp only [Nat.zero_add] at x0 x1 x2 x3 x4 x8
    have y0 := C2.ld (k := 0) tiI (by rw [dsI]; rfl) rfl
    have y1 := C2.ld (k := 1) tiI (by rw [dsI]; rfl) rfl
    have y2 := C2.ld (k := 2) tiSt8 (by rw [dsSt8]; rfl) rfl
    have y3 := C2.ld (k := 3) tiBo (by rw [dsBo]; rfl) rfl
    have y8 := C2.ld (k := 8) tiFs (by rw [dsFs]; rfl) rfl
    have y4 := (C2.sub 4 4 (by show 8 ≤ 9; omega)).ldA (β := ANext) tiK (by rw [dsK]; rfl) (by rw [szK]; rfl)
    simp only [Nat.zero_add] at y0 y1 y2 y3 y4 y8
    have hsub1 : ((D.cells a cap).drop 4).take 4 = [.int .i64 D.from_, .int .i64 D.to_, .int .i64 D.budget, .int .i64 D.fan] := rfl
    have hsub2 : ((D2.cells a2 cap2).drop 4).take 4 = [.int .i64 D2.from_, .int .i64 D2.to_, .int .i64 D2.budget, .int .i64 D2.fan] := rfl
    rw [hsub1] at x4
    rw [hsub2] at y4
    have ax1 : addA ⟨s.next, 0, none⟩ 1 = ⟨s.next, 1, none⟩ := rfl
    have ax2 : addA ⟨s.next, 0, none⟩ 2 = ⟨s.next, 2, none⟩ := rfl
    have ax3 : addA ⟨s.next, 0, none⟩ 3 = ⟨s.next, 3, none⟩ := rfl
    have ax4 : addA ⟨s.next, 0, none⟩ 4 = ⟨s.next, 4, none⟩ := rfl
    have ax8 : addA ⟨s.next, 0, none⟩ 8 = ⟨s.next, 8, none⟩ := rfl
    have ay1 : addA ⟨s.next + 1, 0, none⟩ 1 = ⟨s.next + 1, 1, none⟩ := rfl
    have ay2 : addA ⟨s.next + 1, 0, none⟩ 2 = ⟨s.next + 1, 2, none⟩ := rfl
    have ay3 : addA ⟨s.next + 1, 0, none⟩ 3 = ⟨s.next + 1, 3, none⟩ := rfl
    have ay4 : addA ⟨s.next + 1, 0, none⟩ 4 = ⟨s.next + 1, 4, none⟩ := rfl
    have ay8 : addA ⟨s.next + 1, 0, none⟩ 8 = ⟨s.next + 1, 8, none⟩ := rfl
    have q0 := eqlI D.gen D2.gen 3 (.inl rfl)
    have q1 := eqlI D.step D2.step 3 (.inl rfl)
    have q2 := eqlI D.status D2.status 22 (.inr rfl)
    have q3 := eqlBo D.ended D2.ended
    have q4 := eqlK D.from_ D.to_ D.budget D.fan D2.from_ D2.to_ D2.budget D2.fan
    clear C1 C2 hsub1 hsub2
    by_cases e0 : D.gen = D2.gen
    rotate_left
    · rw [decide_eq_false e0] at q0
      rw [cat_ne (.inl e0)]
      repeat apply go_seq
      apply go_region
      case h => intro m; simp (maxSteps := 2000000) (disch := decide) only [opsLoop, evOper, wantedA, nth, aop, aPick, aBin, aIndexAddr, aFieldAddr, aLoad, aStore, aExtract, aConvert, aAlloc, aBox, aIndex, callA, builtinA, Fr.evs, opt, val, when, AM.run, outV, newA, ptr, force_eq, seen_heap, seen_next, seen_mark, seen_seen, agg_cells, int_cells, Fr.ev, Fr.put, onFr, gps, gpn, bltT, still, flat, List.append_nil, List.nil_append, List.cons_append, Nat.reduceEqDiff, ne_eq, not_false_eq_true, reduceCtorEq, Bool.and_true, Bool.true_and, Bool.and_false, Bool.false_and, Bool.not_true, Bool.not_false, Bool.and_self, undef_eq, tyC, dsC, flC0, flC1, flC2, flC3, flC4, flC5, ftC0, ftC1, ftC2, ftC3, ftC4, ftC5, foC0, foC1, foC2, foC3, foC4, foC5, tyI, szI, tySt8, szSt8, tyBo, szBo, tyK, szK, tyFs, szFs, ble11, show Nat.ble 1 4 = true from rfl, ad0, ax1, ax2, ax3, ax4, ax8, ay1, ay2, ay3, ay4, ay8, x0, x1, x2, x3, x4, x8, y0, y1, y2, y3, y4, y8, q0, q1, q2, q3, q4]; rfl
      repeat apply go_seq
      apply go_ret
      apply ret_intro rfl rfl
      case run => simp (disch := decide) only [resultsM, resultsA, resCs, opsLoop, evOper, wantedA, nth, aop, aPick, aBin, aIndexAddr, aFieldAddr, aLoad, aStore, aExtract, aConvert, aAlloc, aBox, aIndex, callA, builtinA, Fr.evs, opt, val, when, AM.run, outV, newA, ptr, force_eq, seen_heap, seen_next, seen_mark, seen_seen, agg_cells, int_cells, Fr.ev, Fr.put, onFr, gps, gpn, bltT, still, flat, List.append_nil, List.nil_append, List.cons_append, Nat.reduceEqDiff, ne_eq, not_false_eq_true, reduceCtorEq, Bool.and_true, Bool.true_and, Bool.and_false, Bool.false_and, Bool.not_true, Bool.not_false, Bool.and_self]; rfl
      exact ⟨rfl, hless _ ⟨rfl, rfl, rfl⟩⟩
    rw [decide_eq_true e0] at q0
    by_cases e1 : D.step = D2.step
    rotate_left
    · rw [decide_eq_false e1] at q1
      rw [cat_ne (.inr (.inl e1))]
      repeat apply go_seq
      apply go_region
      case h => intro m; simp (maxSteps := 2000000) (disch := decide) only [opsLoop, evOper, wantedA, nth, aop, aPick, aBin, aIndexAddr, aFieldAddr, aLoad, aStore, aExtract, aConvert, aAlloc, aBox, aIndex, callA, builtinA, Fr.evs, opt, val, when, AM.run, outV, newA, ptr, force_eq, seen_heap, seen_next, seen_mark, seen_seen, agg_cells, int_cells, Fr.ev, Fr.put, onFr, gps, gpn, bltT, still, flat, List.append_nil, List.nil_append, List.cons_append, Nat.reduceEqDiff, ne_eq, not_false_eq_true, reduceCtorEq, Bool.and_true, Bool.true_and, Bool.and_false, Bool.false_and, Bool.not_true, Bool.not_false, Bool.and_self, undef_eq, tyC, dsC, flC0, flC1, flC2, flC3, flC4, flC5, ftC0, ftC1, ftC2, ftC3, ftC4, ftC5, foC0, foC1, foC2, foC3, foC4, foC5, tyI, szI, tySt8, szSt8, tyBo, szBo, tyK, szK, tyFs, szFs, ble11, show Nat.ble 1 4 = true from rfl, ad0, ax1, ax2, ax3, ax4, ax8, ay1, ay2, ay3, ay4, ay8, x0, x1, x2, x3, x4, x8, y0, y1, y2, y3, y4, y8, q0, q1, q2, q3, q4]; rfl
      repeat apply go_seq
      apply go_ret
      apply ret_intro rfl rfl
      case run => simp (disch := decide) only [resultsM, resultsA, resCs, opsLoop, evOper, wantedA, nth, aop, aPick, aBin, aIndexAddr, aFieldAddr, aLoad, aStore, aExtract, aConvert, aAlloc, aBox, aIndex, callA, builtinA, Fr.evs, opt, val, when, AM.run, outV, newA, ptr, force_eq, seen_heap, seen_next, seen_mark, seen_seen, agg_cells, int_cells, Fr.ev, Fr.put, onFr, gps, gpn, bltT, still, flat, List.append_nil, List.nil_append, List.cons_append, Nat.reduceEqDiff, ne_eq, not_false_eq_true, reduceCtorEq, Bool.and_true, Bool.true_and, Bool.and_false, Bool.false_and, Bool.not_true, Bool.not_false, Bool.and_self]; rfl
      exact ⟨rfl, hless _ ⟨rfl, rfl, rfl⟩⟩
    rw [decide_eq_true e1] at q1
    by_cases e2 : D.status = D2.status
    rotate_left
    · rw [decide_eq_false e2] at q2
      rw [cat_ne (.inr (.inr (.inl e2)))]
      repeat apply go_seq
      apply go_region
      case h => intro m; simp (maxSteps := 2000000) (disch := decide) only [opsLoop, evOper, wantedA, nth, aop, aPick, aBin, aIndexAddr, aFieldAddr, aLoad, aStore, aExtract, aConvert, aAlloc, aBox, aIndex, callA, builtinA, Fr.evs, opt, val, when, AM.run, outV, newA, ptr, force_eq, seen_heap, seen_next, seen_mark, seen_seen, agg_cells, int_cells, Fr.ev, Fr.put, onFr, gps, gpn, bltT, still, flat, List.append_nil, List.nil_append, List.cons_append, Nat.reduceEqDiff, ne_eq, not_false_eq_true, reduceCtorEq, Bool.and_true, Bool.true_and, Bool.and_false, Bool.false_and, Bool.not_true, Bool.not_false, Bool.and_self, undef_eq, tyC, dsC, flC0, flC1, flC2, flC3, flC4, flC5, ftC0, ftC1, ftC2, ftC3, ftC4, ftC5, foC0, foC1, foC2, foC3, foC4, foC5, tyI, szI, tySt8, szSt8, tyBo, szBo, tyK, szK, tyFs, szFs, ble11, show Nat.ble 1 4 = true from rfl, ad0, ax1, ax2, ax3, ax4, ax8, ay1, ay2, ay3, ay4, ay8, x0, x1, x2, x3, x4, x8, y0, y1, y2, y3, y4, y8, q0, q1, q2, q3, q4]; rfl
      repeat apply go_seq
      apply go_ret
      apply ret_intro rfl rfl
      case run => simp (disch := decide) only [resultsM, resultsA, resCs, opsLoop, evOper, wantedA, nth, aop, aPick, aBin, aIndexAddr, aFieldAddr, aLoad, aStore, aExtract, aConvert, aAlloc, aBox, aIndex, callA, builtinA, Fr.evs, opt, val, when, AM.run, outV, newA, ptr, force_eq, seen_heap, seen_next, seen_mark, seen_seen, agg_cells, int_cells, Fr.ev, Fr.put, onFr, gps, gpn, bltT, still, flat, List.append_nil, List.nil_append, List.cons_append, Nat.reduceEqDiff, ne_eq, not_false_eq_true, reduceCtorEq, Bool.and_true, Bool.true_and, Bool.and_false, Bool.false_and, Bool.not_true, Bool.not_false, Bool.and_self]; rfl
      exact ⟨rfl, hless _ ⟨rfl, rfl, rfl⟩⟩
    rw [decide_eq_true e2] at q2
    by_cases e3 : D.ended = D2.ended
    rotate_left
    · rw [decide_eq_false e3] at q3
      rw [cat_ne (.inr (.inr (.inr (.inl e3))))]
      repeat apply go_seq
      apply go_region
      case h => intro m; simp (maxSteps := 2000000) (disch := decide) only [opsLoop, evOper, wantedA, nth, aop, aPick, aBin, aIndexAddr, aFieldAddr, aLoad, aStore, aExtract, aConvert, aAlloc, aBox, aIndex, callA, builtinA, Fr.evs, opt, val, when, AM.run, outV, newA, ptr, force_eq, seen_heap, seen_next, seen_mark, seen_seen, agg_cells, int_cells, Fr.ev, Fr.put, onFr, gps, gpn, bltT, still, flat, List.append_nil, List.nil_append, List.cons_append, Nat.reduceEqDiff, ne_eq, not_false_eq_true, reduceCtorEq, Bool.and_true, Bool.true_and, Bool.and_false, Bool.false_and, Bool.not_true, Bool.not_false, Bool.and_self, undef_eq, tyC, dsC, flC0, flC1, flC2, flC3, flC4, flC5, ftC0, ftC1, ftC2, ftC3, ftC4, ftC5, foC0, foC1, foC2, foC3, foC4, foC5, tyI, szI, tySt8, szSt8, tyBo, szBo, tyK, szK, tyFs, szFs, ble11, show Nat.ble 1 4 = true from rfl, ad0, ax1, ax2, ax3, ax4, ax8, ay1, ay2, ay3, ay4, ay8, x0, x1, x2, x3, x4, x8, y0, y1, y2, y3, y4, y8, q0, q1, q2, q3, q4]; rfl
      repeat apply go_seq
      apply go_ret
      apply ret_intro rfl rfl
      case run => simp (disch := decide) only [resultsM, resultsA, resCs, opsLoop, evOper, wantedA, nth, aop, aPick, aBin, aIndexAddr, aFieldAddr, aLoad, aStore, aExtract, aConvert, aAlloc, aBox, aIndex, callA, builtinA, Fr.evs, opt, val, when, AM.run, outV, newA, ptr, force_eq, seen_heap, seen_next, seen_mark, seen_seen, agg_cells, int_cells, Fr.ev, Fr.put, onFr, gps, gpn, bltT, still, flat, List.append_nil, List.nil_append, List.cons_append, Nat.reduceEqDiff, ne_eq, not_false_eq_true, reduceCtorEq, Bool.and_true, Bool.true_and, Bool.and_false, Bool.false_and, Bool.not_true, Bool.not_false, Bool.and_self]; rfl
      exact ⟨rfl, hless _ ⟨rfl, rfl, rfl⟩⟩
    rw [decide_eq_true e3] at q3
    by_cases e4 : D.from_ = D2.from_ ∧ D.to_ = D2.to_ ∧ D.budget = D2.budget ∧ D.fan = D2.fan
    rotate_left
    · rw [decide_eq_false e4] at q4
      rw [cat_ne (.inr (.inr (.inr (.inr (.inl e4)))))]
      repeat apply go_seq
      apply go_region
      case h => intro m; simp (maxSteps := 2000000) (disch := decide) only [opsLoop, evOper, wantedA, nth, aop, aPick, aBin, aIndexAddr, aFieldAddr, aLoad, aStore, aExtract, aConvert, aAlloc, aBox, aIndex, callA, builtinA, Fr.evs, opt, val, when, AM.run, outV, newA, ptr, force_eq, seen_heap, seen_next, seen_mark, seen_seen, agg_cells, int_cells, Fr.ev, Fr.put, onFr, gps, gpn, bltT, still, flat, List.append_nil, List.nil_append, List.cons_append, Nat.reduceEqDiff, ne_eq, not_false_eq_true, reduceCtorEq, Bool.and_true, Bool.true_and, Bool.and_false, Bool.false_and, Bool.not_true, Bool.not_false, Bool.and_self, undef_eq, tyC, dsC, flC0, flC1, flC2, flC3, flC4, flC5, ftC0, ftC1, ftC2, ftC3, ftC4, ftC5, foC0, foC1, foC2, foC3, foC4, foC5, tyI, szI, tySt8, szSt8, tyBo, szBo, tyK, szK, tyFs, szFs, ble11, show Nat.ble 1 4 = true from rfl, ad0, ax1, ax2, ax3, ax4, ax8, ay1, ay2, ay3, ay4, ay8, x0, x1, x2, x3, x4, x8, y0, y1, y2, y3, y4, y8, q0, q1, q2, q3, q4]; rfl
      repeat apply go_seq
      apply go_ret
      apply ret_intro rfl rfl
      case run => simp (disch := decide) only [resultsM, resultsA, resCs, opsLoop, evOper, wantedA, nth, aop, aPick, aBin, aIndexAddr, aFieldAddr, aLoad, aStore, aExtract, aConvert, aAlloc, aBox, aIndex, callA, builtinA, Fr.evs, opt, val, when, AM.run, outV, newA, ptr, force_eq, seen_heap, seen_next, seen_mark, seen_seen, agg_cells, int_cells, Fr.ev, Fr.put, onFr, gps, gpn, bltT, still, flat, List.append_nil, List.nil_append, List.cons_append, Nat.reduceEqDiff, ne_eq, not_false_eq_true, reduceCtorEq, Bool.and_true, Bool.true_and, Bool.and_false, Bool.false_and, Bool.not_true, Bool.not_false, Bool.and_self]; rfl
      exact ⟨rfl, hless _ ⟨rfl, rfl, rfl⟩⟩
    rw [decide_eq_true e4] at q4
    have hdec : decide (D = D2) = decide (D.files = D2.files) := by
      apply decide_eq_decide.2
      constructor
      · intro e; rw [e]
      · intro e5
        obtain ⟨k1, k2, k3, k4⟩ := e4
        cases D; cases D2
        simp only at e0 e1 e2 e3 k1 k2 k3 k4 e5
        subst e0; subst e1; subst e2; subst e3; subst k1; subst k2; subst k3; subst k4; subst e5
        rfl
    have hrun : ∀ rd1, ∃ s4, (sameFA [.slice a D.files.length cap, .slice a2 D2.files.length cap2]).run ⟨H, N, mk, rd1, wr⟩ = some (.bool (decide (D.files = D2.files)), s4) ∧ Rd ⟨H, N, mk, rd1, wr⟩ s4 := fun rd1 => sameFA_run hlen1 (V1.rd ⟨rfl, rfl, rfl⟩) (V2.rd ⟨rfl, rfl, rfl⟩)
    obtain ⟨sw, hsw⟩ : ∃ sw : Nat → S, ∀ rd1, (sameFA [.slice a D.files.length cap, .slice a2 D2.files.length cap2]).run ⟨H, N, mk, rd1, wr⟩ = some (.bool (decide (D.files = D2.files)), sw rd1) ∧ Rd ⟨H, N, mk, rd1, wr⟩ (sw rd1) := ⟨fun rd1 => Classical.choose (hrun rd1), fun rd1 => Classical.choose_spec (hrun rd1)⟩
    have hsw1 := fun rd1 => (hsw rd1).1
    repeat apply go_seq
    apply go_region
    case h => intro m; simp (maxSteps := 2000000) (disch := decide) only [opsLoop, evOper, wantedA, nth, aop, aPick, aBin, aIndexAddr, aFieldAddr, aLoad, aStore, aExtract, aConvert, aAlloc, aBox, aIndex, callA, builtinA, Fr.evs, opt, val, when, AM.run, outV, newA, ptr, force_eq, seen_heap, seen_next, seen_mark, seen_seen, agg_cells, int_cells, Fr.ev, Fr.put, onFr, gps, gpn, bltT, still, flat, List.append_nil, List.nil_append, List.cons_append, Nat.reduceEqDiff, ne_eq, not_false_eq_true, reduceCtorEq, Bool.and_true, Bool.true_and, Bool.and_false, Bool.false_and, Bool.not_true, Bool.not_false, Bool.and_self, undef_eq, tyC, dsC, flC0, flC1, flC2, flC3, flC4, flC5, ftC0, ftC1, ftC2, ftC3, ftC4, ftC5, foC0, foC1, foC2, foC3, foC4, foC5, tyI, szI, tySt8, szSt8, tyBo, szBo, tyK, szK, tyFs, szFs, ble11, show Nat.ble 1 4 = true from rfl, ad0, ax1, ax2, ax3, ax4, ax8, ay1, ay2, ay3, ay4, ay8, x0, x1, x2, x3, x4, x8, y0, y1, y2, y3, y4, y8, q0, q1, q2, q3, q4, tgSF, evT_told csS, hsw1]; rfl
    repeat apply go_seq
    apply go_ret
    apply ret_intro rfl rfl
    case run => simp (disch := decide) only [resultsM, resultsA, resCs, opsLoop, evOper, wantedA, nth, aop, aPick, aBin, aIndexAddr, aFieldAddr, aLoad, aStore, aExtract, aConvert, aAlloc, aBox, aIndex, callA, builtinA, Fr.evs, opt, val, when, AM.run, outV, newA, ptr, force_eq, seen_heap, seen_next, seen_mark, seen_seen, agg_cells, int_cells, Fr.ev, Fr.put, onFr, gps, gpn, bltT, still, flat, List.append_nil, List.nil_append, List.cons_append, Nat.reduceEqDiff, ne_eq, not_false_eq_true, reduceCtorEq, Bool.and_true, Bool.true_and, Bool.and_false, Bool.false_and, Bool.not_true, Bool.not_false, Bool.and_self]; rfl
    refine ⟨by rw [hdec], hless _ ?_⟩
    exact ⟨(hsw _).2.heap, (hsw _).2.next, (hsw _).2.mark⟩
  · cases h
end Go.Proofs.YtgofanjbhbeniaaDoor.lf
end
end

section
/- Catalogs: catalog.Put and catalog.Right, told without the names that they take. -/
noncomputable section
namespace Go.Proofs.YtgofanjbhbeniaaDoor.lf
open AE
set_option linter.unusedSimpArgs false
set_option linter.unusedVariables false
set_option maxRecDepth 10000

/-- a call that looks at one catalog and tells a value -/
def lookA (F : CatD → Value) : List Value → AM Value
  | [.agg ⟨[.int .i64 g, .int .i64 st, .int .i64 su, .bool en, .int .i64 f, .int .i64 t, .int .i64 b, .int .i64 fa, .slice a n cap]⟩] =>
    when (Nat.ble n 10000) (rdV a (4 * n) fun cs => opt (filesOf cs) fun fs => .pure (F ⟨g, st, su, en, f, t, b, fa, fs⟩))
  | _ => .fail
theorem lookA_run {s : S} {a : Option Addr} {cap : Nat} (F : CatD → Value) (D : CatD) (hl : D.files.length ≤ 10000) (hv : Vx s a (fcs D.files)) : ∃ s1, (lookA F [.agg ⟨D.cells a cap⟩]).run s = some (F D, s1) ∧ Rd s s1 ∧ s1.wr = s.wr := by
  obtain ⟨s1, e1, hr, hw⟩ := rdV_run hv (fun cs => opt (filesOf cs) fun fs => .pure (F ⟨D.gen, D.step, D.status, D.ended, D.from_, D.to_, D.budget, D.fan, fs⟩))
  rw [fcs_len] at e1
  refine ⟨s1, ?_, hr, hw⟩
  show (when (Nat.ble D.files.length 10000) (rdV a (4 * D.files.length) fun cs => opt (filesOf cs) fun fs => .pure (F ⟨D.gen, D.step, D.status, D.ended, D.from_, D.to_, D.budget, D.fan, fs⟩))).run s = _
  rw [show Nat.ble D.files.length 10000 = true from ble_iff.2 hl, show ∀ k : AM Value, when true k = k from fun _ => rfl, e1, filesOf_fcs]
  rfl
theorem told_look {f : FuncId} {am : List Value → AM Value} (F : CatD → Value) (hF : ∀ D, Plain (F D)) (ht : AE.Told Tryd.prog f am)
    (hrun : ∀ (s : S) (D : CatD) (a : Option Addr) (cap : Nat), s.next ≤ 10 → D.files.length ≤ 10000 → Vx s a (fcs D.files) → ∃ s1, (am [.agg ⟨D.cells a cap⟩]).run s = some (F D, s1)) : AE.Told Tryd.prog f (lookA F) := by
  refine AE.told_nobump ht ?_
  intro args s v s' h
  unfold lookA at h
  split at h
  · rename_i g st su en fo to bu fa a n cap
    obtain ⟨hc, h2⟩ := run_when h
    obtain ⟨L, s1, hL, hvx, hr1, h3⟩ := vx_of_rd h2
    obtain ⟨fs, hfs, h4⟩ := run_opt h3
    obtain rfl := filesOf_inv L fs hfs
    rw [fcs_len] at hL
    obtain rfl : n = fs.length := by omega
    cases h4
    have hlen := ble_iff.1 hc
    refine ⟨hF _, rd_less hr1, ?_⟩
    intro q ρ w args' hRep hargs
    cases hargs with
    | cons hv hl =>
    cases hl with
    | nil =>
    rcases cat_anew hRep rfl hlen hvx hv with ⟨rfl, h0, hmk⟩ | ⟨x, hx, hin, hmk⟩
    · obtain ⟨sE, hE2⟩ := hrun (inS []) ⟨g, st, su, en, fo, to, bu, fa, fs⟩ none cap (Nat.zero_le _) hlen (by show fcs fs = []; rw [h0]; rfl)
      exact ⟨_, inS [], sE, renOf [], inputs_of [] (Nat.zero_le _) (fun x hx => by cases hx), .cons (hmk _) .nil, hE2, Nat.zero_le _⟩
    · have hV : Vx (inS [x]) (some ⟨0, 0, none⟩) (fcs fs) := by
        refine ⟨rfl, ⟨Nat.zero_lt_one, Tr.ofList (fcs fs), (fcs fs).length, .inr ⟨x.e, ?_⟩, by rw [Nat.zero_add]; exact Nat.le_refl _, row_ofList _ (by rw [fcs_len]; unfold Tr.wide; omega)⟩⟩
        show (trOf [(0, AObj.row (Tr.ofList x.L) x.L.length x.e)]).get 0 = _
        rw [hx]
        show ((Tr.nil).put 0 _).get 0 = _
        exact hg_same rfl _ _
      obtain ⟨sE, hE2⟩ := hrun (inS [x]) ⟨g, st, su, en, fo, to, bu, fa, fs⟩ (some ⟨0, 0, none⟩) cap (by show 1 ≤ 10; omega) hlen hV
      exact ⟨_, inS [x], sE, renOf [x], inputs_of [x] (by simp) (fun y hy => by simp only [List.mem_singleton] at hy; subst hy; exact hin), .cons (hmk [x] 0 rfl) .nil, hE2, Nat.zero_le _⟩
  · cases h
def rightF_ (D : CatD) : Value := .bool D.right
def putF_ (D : CatD) : Value := .agg ⟨putD D⟩
theorem told_rightE : AE.Told Tryd.prog 13 (lookA rightF_) :=
  told_look rightF_ (fun D => plain_bool _) told_rightC fun s D a cap hn hl hv => by
    obtain ⟨s1, e, _⟩ := rightCA_run (s := s) (a := a) (cap := cap) D (by omega) hv (fun i hi => bl9 (by omega))
    exact ⟨s1, e⟩
theorem ints_zeroL : Ints zeroL.cells := fun v hv => by
  unfold LeafD.cells at hv
  rcases List.mem_append.1 hv with hv | hv
  · simp only [List.mem_cons, List.not_mem_nil, or_false] at hv
    rcases hv with rfl | rfl | rfl | rfl | rfl <;> exact ⟨_, _, rfl⟩
  · obtain ⟨x, _, rfl⟩ := List.mem_map.1 hv
    exact ⟨_, _, rfl⟩
theorem told_putE : AE.Told Tryd.prog 7 (lookA putF_) :=
  told_look putF_ (fun D => by
    unfold putF_ putD
    split
    · exact plain_agg (ints_put D).plain
    · exact plain_agg ints_zeroL.plain) told_putC fun s D a cap hn hl hv => by
    obtain ⟨s1, e1, hr, _⟩ := rdV_run hv (fun cs => opt (filesOf cs) fun fs => bump (4 + 2 * D.files.length) (.pure (Value.agg ⟨putD ⟨D.gen, D.step, D.status, D.ended, D.from_, D.to_, D.budget, D.fan, fs⟩⟩)))
    rw [fcs_len, filesOf_fcs] at e1
    obtain ⟨s2, e2, _⟩ := bump_ok (4 + 2 * D.files.length) (AM.pure (Value.agg ⟨putD D⟩)) s1 (by rw [hr.next]; intro i hi; exact bl9 (by omega))
    refine ⟨s2, ?_⟩
    show (when (Nat.ble D.files.length 1000000) (rdV a (4 * D.files.length) fun cs => opt (filesOf cs) fun fs => bump (4 + 2 * D.files.length) (.pure (Value.agg ⟨putD ⟨D.gen, D.step, D.status, D.ended, D.from_, D.to_, D.budget, D.fan, fs⟩⟩)))).run s = _
    rw [show Nat.ble D.files.length 1000000 = true from ble_iff.2 (by omega), show ∀ k : AM Value, when true k = k from fun _ => rfl, e1]
    exact e2
end Go.Proofs.YtgofanjbhbeniaaDoor.lf
end
end
