/- Leaves: any leaf, any bytes: the law's middle. -/
import Derived.Test.YtdkieabjjmhdlaaDoorMRowLeafTells4
import Derived.Test.YtdkieabjjmhdlaaDoorRows
import Derived.Test.YtdkieabjjmhdlaaDoorAe29
section
/- Leaves: the document's leaf of a block: what its numbers are. -/
noncomputable section
namespace Go.Proofs.YtdkieabjjmhdlaaDoor.lf
open AE
set_option linter.unusedSimpArgs false
set_option linter.unusedVariables false
set_option maxRecDepth 10000

theorem or_low (m x : Nat) (hx : x < 256) : Nat.lor (m * 256) x = m * 256 + x := by
  have := Nat.shiftLeft_add_eq_or_of_lt (b := x) (i := 8) hx m
  rw [Nat.shiftLeft_eq] at this
  exact this.symm
theorem nst_nat {m x : Nat} (hm : m < 16777216) (hx : x < 256) : nst (.ofNat m) x = .ofNat (m * 256 + x) := by
  have e1 : wrapA .i64 (Int.mul (.ofNat m) (pow2 8)) = .ofNat (m * 256) := by
    show wrapA .i64 (.ofNat (m * 256)) = _
    exact wrap64 (by omega)
  have e2 : wrapA .i64 (.ofNat x) = .ofNat x := wrap64 (by omega)
  unfold nst
  rw [e1, e2]
  have e3 : modN (maskOf .i64) (.ofNat (m * 256)) = m * 256 := by
    show (m * 256) % 18446744073709551616 = _
    exact Nat.mod_eq_of_lt (by omega)
  have e4 : modN (maskOf .i64) (.ofNat x) = x := by
    show x % 18446744073709551616 = _
    exact Nat.mod_eq_of_lt (by omega)
  rw [e3, e4, or_low m x hx]
  exact wrap64 (by omega)
theorem nst_zero {x : Nat} (hx : x < 256) : nst 0 x = .ofNat x := by
  have := nst_nat (m := 0) (x := x) (by omega) hx
  rw [Nat.zero_mul, Nat.zero_add] at this
  exact this
theorem bN_lt (l : List UInt8) (i : Nat) : bN l i < 256 := (l.getD i 0).toNat_lt
theorem num2_nat (x y : UInt8) : num2 x y = .ofNat (y.toNat * 256 + x.toNat) := by
  have hx := x.toNat_lt
  have hy := y.toNat_lt
  unfold num2
  have e1 : x.toNat % 18446744073709551616 = x.toNat := by omega
  have e2 : y.toNat * 256 % 18446744073709551616 = y.toNat * 256 := by omega
  rw [e1, e2]
  have e3 : Nat.lor x.toNat (y.toNat * 256) = y.toNat * 256 + x.toNat := by
    rw [← or_low y.toNat x.toNat hx]
    exact Nat.or_comm _ _
  rw [e3]
  exact wrap64 (by omega)
theorem two_back (x y : UInt8) : UInt8.ofNat (num2 x y).toNat = x ∧ UInt8.ofNat ((num2 x y).toNat >>> 8) = y := by
  have hx := x.toNat_lt
  have hy := y.toNat_lt
  rw [num2_nat]
  constructor
  · apply UInt8.toNat_inj.1
    rw [UInt8.toNat_ofNat']
    show (y.toNat * 256 + x.toNat) % 2 ^ 8 = _
    omega
  · apply UInt8.toNat_inj.1
    rw [UInt8.toNat_ofNat']
    show ((y.toNat * 256 + x.toNat) >>> 8) % 2 ^ 8 = _
    rw [Nat.shiftRight_eq_div_pow]
    omega
theorem num4_nat (l : List UInt8) : num4 (bN l) = .ofNat (((bN l 127 * 256 + bN l 126) * 256 + bN l 125) * 256 + bN l 124) := by
  have h7 := bN_lt l 127
  have h6 := bN_lt l 126
  have h5 := bN_lt l 125
  have h4 := bN_lt l 124
  unfold num4
  rw [nst_zero h7, nst_nat (by omega) h6, nst_nat (by omega) h5, nst_nat (by omega) h4]
theorem leafG_say (l : List UInt8) (h : l.length = 128) : leafG (bN l) = (sayL l).cells := by
  have h2 : ∀ i j, nst (nst 0 (bN l j)) (bN l i) = num2 (l.getD i 0) (l.getD j 0) := by
    intro i j
    rw [num2_nat, nst_zero (bN_lt l j), nst_nat (by have := bN_lt l j; omega) (bN_lt l i)]
    rfl
  have hw : ∀ i, wrapA .i64 (.ofNat (bN l i)) = ((l.getD i 0).toNat : Int) := fun i => wrap64 (by have := bN_lt l i; omega)
  have hb : bytesN (bN l) 116 0 = (l.take 116).map bv := by
    rw [← bytesN_bv (l.take 116) 116 (by rw [List.length_take, h]; rfl), bytesN_map, bytesN_map]
    refine List.map_congr_left fun i hi => ?_
    have hi := List.mem_range.1 hi
    show Value.int .u8 (.ofNat (bN l (0 + i))) = Value.int .u8 (.ofNat (bN (l.take 116) (0 + i)))
    unfold bN
    rw [Nat.zero_add, List.getD_eq_getElem?_getD, List.getD_eq_getElem?_getD, List.getElem?_take_of_lt hi]
  unfold leafG LeafD.cells sayL
  rw [h2, h2, h2, hw, hw, hb]
theorem bytes124 (l : List UInt8) (h : l.length = 128) : bytesN (bN l) 124 0 = (l.take 124).map bv := by
  rw [← bytesN_bv (l.take 124) 124 (by rw [List.length_take, h]; rfl), bytesN_map, bytesN_map]
  refine List.map_congr_left fun i hi => ?_
  have hi := List.mem_range.1 hi
  show Value.int .u8 (.ofNat (bN l (0 + i))) = Value.int .u8 (.ofNat (bN (l.take 124) (0 + i)))
  unfold bN
  rw [Nat.zero_add, List.getD_eq_getElem?_getD, List.getD_eq_getElem?_getD, List.getElem?_take_of_lt hi]
/-- the four bytes of the sum, as they should be -/
def sumOK (l : List UInt8) : Bool := decide (num4 (bN l) = .ofNat (crc32 (l.take 124)))
theorem crcQ_sum (l : List UInt8) (h : l.length = 128) : crcQ (bN l) = !sumOK l ∧ gateC (bN l) = true := by
  constructor
  · unfold crcQ sumOK crcC
    rw [bytes124 l h, bytesV_map]
    have := crc32_lt (l.take 124)
    have e : wrapA .i64 (.ofNat (crc32 (l.take 124))) = .ofNat (crc32 (l.take 124)) := wrap64 (by omega)
    show (!eqI _ (wrapA .i64 (.ofNat (crc32 (l.take 124))))) = _
    rw [e, eqI_eq]
  · unfold gateC
    rw [bytes124 l h, bytes_some]
    rfl
theorem list4 {l : List UInt8} (h : l.length = 128) : l.drop 124 = [l.getD 124 0, l.getD 125 0, l.getD 126 0, l.getD 127 0] := by
  refine List.ext_getElem? fun i => ?_
  rw [List.getElem?_drop]
  match i with
  | 0 => simp [List.getD_eq_getElem?_getD, List.getElem?_eq_getElem (show 124 < l.length by omega)]
  | 1 => simp [List.getD_eq_getElem?_getD, List.getElem?_eq_getElem (show 125 < l.length by omega)]
  | 2 => simp [List.getD_eq_getElem?_getD, List.getElem?_eq_getElem (show 126 < l.length by omega)]
  | 3 => simp [List.getD_eq_getElem?_getD, List.getElem?_eq_getElem (show 127 < l.length by omega)]
  | i + 4 => rw [List.getElem?_eq_none (by omega)]; rfl
theorem list8 {l : List UInt8} (h : l.length = 128) : l.take 124 = l.take 116 ++ [l.getD 116 0, l.getD 117 0, l.getD 118 0, l.getD 119 0, l.getD 120 0, l.getD 121 0, l.getD 122 0, l.getD 123 0] := by
  refine List.ext_getElem? fun i => ?_
  by_cases hi : i < 116
  · rw [List.getElem?_append_left (by rw [List.length_take]; omega), List.getElem?_take_of_lt (by omega), List.getElem?_take_of_lt hi]
  · obtain ⟨j, rfl⟩ : ∃ j, i = 116 + j := ⟨i - 116, by omega⟩
    rw [List.getElem?_append_right (by rw [List.length_take]; omega), List.length_take, show min 116 l.length = 116 by omega, show 116 + j - 116 = j by omega]
    by_cases hj : j < 8
    · rw [List.getElem?_take_of_lt (by omega), List.getElem?_eq_getElem (by omega)]
      match j, hj with
      | 0, _ => simp [List.getD_eq_getElem?_getD, List.getElem?_eq_getElem (show 116 < l.length by omega)]
      | 1, _ => simp [List.getD_eq_getElem?_getD, List.getElem?_eq_getElem (show 117 < l.length by omega)]
      | 2, _ => simp [List.getD_eq_getElem?_getD, List.getElem?_eq_getElem (show 118 < l.length by omega)]
      | 3, _ => simp [List.getD_eq_getElem?_getD, List.getElem?_eq_getElem (show 119 < l.length by omega)]
      | 4, _ => simp [List.getD_eq_getElem?_getD, List.getElem?_eq_getElem (show 120 < l.length by omega)]
      | 5, _ => simp [List.getD_eq_getElem?_getD, List.getElem?_eq_getElem (show 121 < l.length by omega)]
      | 6, _ => simp [List.getD_eq_getElem?_getD, List.getElem?_eq_getElem (show 122 < l.length by omega)]
      | 7, _ => simp [List.getD_eq_getElem?_getD, List.getElem?_eq_getElem (show 123 < l.length by omega)]
    · rw [List.getElem?_eq_none (by rw [List.length_take]; omega), List.getElem?_eq_none (by simp; omega)]
theorem byte_back (x : UInt8) : UInt8.ofNat ((x.toNat : Int)).toNat = x := by
  apply UInt8.toNat_inj.1
  rw [UInt8.toNat_ofNat']
  have := x.toNat_lt
  show x.toNat % 2 ^ 8 = _
  omega
theorem l124_say {l : List UInt8} (h : l.length = 128) : l124 (sayL l) = l.take 124 := by
  rw [list8 h]
  unfold l124 sayL
  obtain ⟨a1, a2⟩ := two_back (l.getD 116 0) (l.getD 117 0)
  obtain ⟨b1, b2⟩ := two_back (l.getD 118 0) (l.getD 119 0)
  obtain ⟨c1, c2⟩ := two_back (l.getD 120 0) (l.getD 121 0)
  simp only [pre, three, two, List.getD_cons_zero, List.getD_cons_succ, List.nil_append, List.append_assoc, List.cons_append, a1, a2, b1, b2, c1, c2, byte_back]
/-- four bytes of a number -/
theorem sum4_iff (l : List UInt8) (c : Nat) (hc : c < 4294967296) : sum4 c = [l.getD 124 0, l.getD 125 0, l.getD 126 0, l.getD 127 0] ↔ num4 (bN l) = .ofNat c := by
  have h7 := bN_lt l 127
  have h6 := bN_lt l 126
  have h5 := bN_lt l 125
  have h4 := bN_lt l 124
  rw [num4_nat]
  have ht : ∀ (n : Nat) (x : UInt8), UInt8.ofNat n = x ↔ n % 256 = x.toNat := by
    intro n x
    constructor
    · intro e; rw [← e, UInt8.toNat_ofNat']
    · intro e
      apply UInt8.toNat_inj.1
      rw [UInt8.toNat_ofNat', ← e]
  unfold sum4
  simp only [List.cons.injEq, and_true, ht, Nat.shiftRight_eq_div_pow]
  have e4 : (l.getD 124 0).toNat = bN l 124 := rfl
  have e5 : (l.getD 125 0).toNat = bN l 125 := rfl
  have e6 : (l.getD 126 0).toNat = bN l 126 := rfl
  have e7 : (l.getD 127 0).toNat = bN l 127 := rfl
  rw [e4, e5, e6, e7]
  generalize bN l 124 = x4 at *
  generalize bN l 125 = x5 at *
  generalize bN l 126 = x6 at *
  generalize bN l 127 = x7 at *
  constructor
  · rintro ⟨a, b, c1, d⟩
    congr 1
    omega
  · intro e
    have e := Int.ofNat.inj e
    omega
/-- the two say the same -/
theorem ok_same {l : List UInt8} (h : l.length = 128) : getOK l = (sumOK l && rightL (sayL l)) := by
  unfold getOK
  have hp : eqBytes (putL (sayL l)) l = sumOK l := by
    have h1 : putL (sayL l) = l.take 124 ++ sum4 (crc32 (l.take 124)) := by
      show closeL (l124 (sayL l)) = _
      rw [l124_say h]
      rfl
    have h2 : l = l.take 124 ++ [l.getD 124 0, l.getD 125 0, l.getD 126 0, l.getD 127 0] := by
      rw [← list4 h, List.take_append_drop]
    have hs := sum4_iff l (crc32 (l.take 124)) (crc32_lt _)
    unfold sumOK
    cases he : eqBytes (putL (sayL l)) l with
    | true =>
      rw [eqBytes_iff] at he
      have := of_decide_eq_true he
      rw [h1] at this
      have h3 : l.take 124 ++ sum4 (crc32 (l.take 124)) = l.take 124 ++ [l.getD 124 0, l.getD 125 0, l.getD 126 0, l.getD 127 0] := by rw [this]; exact h2
      have := List.append_cancel_left h3
      rw [decide_eq_true (hs.1 this)]
    | false =>
      have hne : ¬ num4 (bN l) = .ofNat (crc32 (l.take 124)) := by
        intro e
        have := hs.2 e
        have h3 : eqBytes (putL (sayL l)) l = true := by
          rw [eqBytes_iff, h1, this]
          exact decide_eq_true h2.symm
        rw [h3] at he
        cases he
      rw [decide_eq_false hne]
  rw [hp, Bool.and_comm]
end Go.Proofs.YtdkieabjjmhdlaaDoor.lf
end
end

section
/- Leaves: the document's leaf of a block: told. -/
noncomputable section
namespace Go.Proofs.YtdkieabjjmhdlaaDoor.lf
open AE
set_option linter.unusedSimpArgs false
set_option linter.unusedVariables false
set_option maxRecDepth 10000

def nilOK (a : Option Addr) (cap : Nat) : Bool := match a with | some _ => true | none => Nat.beq cap 0
def getRA : List Value → AM Value
  | [.slice a n cap] => rdA a n fun l => match Nat.beq n 128 with
    | true => when (Nat.beq cap (OPEN + 128)) (.pure (.tuple ⟨[.agg ⟨(getL l).cells⟩, .bool (getOK l)]⟩))
    | false => when (nilOK a cap) (.pure noLeaf)
  | _ => .fail
theorem plain_leafB (d : LeafD) (b : Bool) : Plain (.tuple ⟨[.agg ⟨d.cells⟩, .bool b]⟩) := plain_tuple fun v hv => by
  simp only [List.mem_cons, List.not_mem_nil, or_false] at hv
  rcases hv with rfl | rfl
  · exact plain_agg (leaf_plain d)
  · exact plain_bool _
theorem sRow_in (b base ex : Nat) (L : List Value) (e : TypeId) : inS [⟨b, base, ex, L, e⟩] = sRow L L.length e := rfl
theorem bytes_len (b : Nat → Nat) : (bytesN b 128 0).length = 128 := rfl
theorem told_getR : AE.Told Tryd.prog 8 getRA := by
  refine told_own hE (fi := fiGR) (c := cdGR) (by kernel_rfl) (by kernel_rfl) ?_
  intro args s v s' h hm
  unfold getRA at h
  split at h
  · rename_i a n cap
    obtain ⟨l, s1, hl, hb, hr1, h2⟩ := bx_of_rd h
    subst hl
    have hless : ∀ s2, s2 = s1 → Less' s s2 := fun s2 e => by
      subst e
      exact ⟨by rw [hr1.next]; exact Nat.le_refl _, fun m o ho => ⟨o, by rw [hr1.heap] at ho; exact ho, .refl o⟩⟩
    cases hn : Nat.beq l.length 128 with
    | true =>
      rw [hn] at h2
      have h128 := beq_iff.1 hn
      obtain ⟨hc, h3⟩ := run_when h2
      have hc := beq_iff.1 hc
      subst hc
      cases h3
      refine ⟨plain_leafB _ _, hless _ rfl, ?_⟩
      intro q ρ w args' hRep hargs
      cases a with
      | none => obtain rfl : l = [] := hb; cases h128
      | some ad =>
        have hb : Bs s ad l := hb
        cases hargs with
        | cons ha hnil =>
          cases hnil
          obtain ⟨b, base, ex, hρ, hanew⟩ := slice_anew ha hb.spot
          have hC : Cl s ad.block ad.off (l.map bv) := by
            obtain ⟨c, m, x1, x2, x3⟩ := hb.cell
            exact ⟨hb.lt, c, m, x1, by rw [List.length_map]; exact x2, x3⟩
          obtain ⟨e, hin⟩ := inrow_of hRep hC hρ (bytes_plain l) (by rw [List.length_map, h128]; unfold Tr.wide; omega)
          have hS : inS [⟨b, base + ad.off, ex, l.map bv, e⟩] = sRow (bytesN (bN l) 128 0) 128 e := by
            rw [sRow_in, List.length_map, h128, bytesN_bv l 128 h128]
          refine ⟨[.slice (some ⟨0, 0, none⟩) l.length (OPEN + 128)], inS [⟨b, base + ad.off, ex, l.map bv, e⟩], renOf [⟨b, base + ad.off, ex, l.map bv, e⟩], 9000, 57, rfl, rfl, inputs_of _ (by simp) (fun x hx => by simp at hx; subst hx; exact hin), .cons (hanew _ 0 (l.map bv) e rfl) .nil, Nat.zero_le _, ?_⟩
          rw [hS, h128]
          have hleaf := leafG_say l h128
          have hlen : (sayL l).load.length = 116 := by show (l.take 116).length = 116; rw [List.length_take, h128]; rfl
          obtain ⟨rc1, rc2⟩ := rightC_cells (sayL l) hlen
          rw [← hleaf] at rc1 rc2
          obtain ⟨q1, q2⟩ := crcQ_sum l h128
          have hok := ok_same h128
          cases hs : sumOK l with
          | false =>
            obtain ⟨s2, hr⟩ := probGR_inv (getR_sum (bN l) e)
            have hv : Value.tuple ⟨[.agg ⟨(getL l).cells⟩, .bool (getOK l)]⟩ = noLeaf := by
              have : getOK l = false := by rw [hok, hs]; rfl
              unfold getL
              rw [this]
              rfl
            rw [hv]
            exact gow_own hE hmix tolds_B hr (qcons (by rw [q1, hs]; rfl) (qcons q2 qnil)) (Nat.le_refl _) rfl
          | true =>
            cases hR : rightL (sayL l) with
            | false =>
              obtain ⟨s2, hr⟩ := probGR_inv (getR_bad (bN l) e)
              have hv : Value.tuple ⟨[.agg ⟨(getL l).cells⟩, .bool (getOK l)]⟩ = noLeaf := by
                have : getOK l = false := by rw [hok, hs, hR]; rfl
                unfold getL
                rw [this]
                rfl
              rw [hv]
              exact gow_own hE hmix tolds_B hr (qcons (by rw [rc1, hR]; rfl) (qcons rc2 (qcons (by rw [q1, hs]; rfl) (qcons q2 qnil)))) (Nat.le_refl _) rfl
            | true =>
              obtain ⟨s2, hr⟩ := probGR_inv (getR_ok (bN l) e)
              have hv : Value.tuple ⟨[.agg ⟨(getL l).cells⟩, .bool (getOK l)]⟩ = .tuple ⟨[.agg ⟨leafG (bN l)⟩, .bool true]⟩ := by
                have : getOK l = true := by rw [hok, hs, hR]; rfl
                unfold getL
                rw [this, if_pos rfl, hleaf]
              rw [hv]
              exact gow_own hE hmix tolds_B hr (qcons (by rw [rc1, hR]; rfl) (qcons rc2 (qcons (by rw [q1, hs]; rfl) (qcons q2 qnil)))) (Nat.le_refl _) rfl
    | false =>
      rw [hn] at h2
      have hne : l.length ≠ 128 := fun e => by rw [e] at hn; cases hn
      obtain ⟨hc, h3⟩ := run_when h2
      cases h3
      refine ⟨plain_leafB zeroL false, hless _ rfl, ?_⟩
      intro q ρ w args' hRep hargs
      cases a with
      | none =>
        obtain rfl : l = [] := hb
        have hc := beq_iff.1 hc
        subst hc
        cases hargs with
        | cons ha hnil =>
          cases hnil
          obtain rfl := plain_nil.2 _ _ ha
          refine ⟨[.slice none 0 0], inS [], renOf [], 9000, 57, rfl, rfl, inputs_of [] (Nat.zero_le _) (fun x hx => by cases hx), .cons (plain_nil.1 _) .nil, Nat.zero_le _, ?_⟩
          obtain ⟨s2, hr⟩ := probGR_inv getR_nil
          exact gow_own hE hmix tolds_B hr qnil (Nat.le_refl _) rfl
      | some ad =>
        have hb : Bs s ad l := hb
        cases hargs with
        | cons ha hnil =>
          cases hnil
          obtain ⟨b, base, ex, hρ, hanew⟩ := slice_anew ha hb.spot
          have hC : Cl s ad.block ad.off [] := by
            obtain ⟨c, m, x1, x2, x3⟩ := hb.cell
            exact ⟨hb.lt, c, m, x1, by show ad.off + 0 ≤ m; omega, fun k v hk => by cases hk⟩
          obtain ⟨e, hin⟩ := inrow_of hRep hC hρ (fun v hv => by cases hv) (Nat.zero_le _)
          refine ⟨[.slice (some ⟨0, 0, none⟩) l.length cap], inS [⟨b, base + ad.off, ex, [], e⟩], renOf [⟨b, base + ad.off, ex, [], e⟩], 9000, 57, rfl, rfl, inputs_of _ (by simp) (fun x hx => by simp at hx; subst hx; exact hin), .cons (hanew _ 0 [] e rfl) .nil, Nat.zero_le _, ?_⟩
          rw [sRow_in]
          obtain ⟨s2, hr⟩ := probGR_inv (getR_len l.length cap e)
          have hq : (!eqI (.ofNat l.length) 128) = true := by
            rw [eqI_eq]
            have : ¬ (Int.ofNat l.length = 128) := fun e => hne (Int.ofNat.inj (show Int.ofNat l.length = Int.ofNat 128 from e))
            rw [decide_eq_false this]
            rfl
          exact gow_own hE hmix tolds_B hr (qcons hq qnil) (Nat.le_refl _) rfl
  · cases h
end Go.Proofs.YtdkieabjjmhdlaaDoor.lf
end
end

section
/- Leaves: bytes in a roomy list: told. -/
noncomputable section
namespace Go.Proofs.YtdkieabjjmhdlaaDoor.lf
open AE
set_option linter.unusedSimpArgs false
set_option linter.unusedVariables false
set_option maxRecDepth 10000

def room (l : List UInt8) (x : UInt8) (j : Nat) : List UInt8 := l ++ List.replicate j x ++ List.replicate (80 - j) 0
theorem room_len (l : List UInt8) (x : UInt8) (j : Nat) (h : j ≤ 80) : (room l x j).length = l.length + 80 := by
  unfold room
  simp only [List.length_append, List.length_replicate]
  omega
theorem room_set (l : List UInt8) (x : UInt8) (j : Nat) (h : j < 80) : (room l x j).set (l.length + j) x = room l x (j + 1) := by
  unfold room
  rw [List.append_assoc, List.set_append_right _ _ (by omega), show l.length + j - l.length = j by omega, List.set_append_right _ _ (by simp), List.length_replicate, Nat.sub_self]
  rw [show 80 - j = (80 - (j + 1)) + 1 by omega, List.replicate_succ]
  simp only [List.set_cons_zero]
  rw [List.append_assoc, List.replicate_succ', List.append_assoc]
  rfl
def roomyA : List Value → AM Value
  | [.slice a n cap, .int .u8 (.ofNat m)] => when (Nat.ble n 200 && Nat.blt m 256) (rdA a n fun l => newB (room l (UInt8.ofNat m) 80) fun r => .pure (.slice (some ⟨r, 0, none⟩) (n + 80) (n + 80)))
  | _ => .fail
noncomputable def fiRm : FI := FI.of Tryd.f6
noncomputable def cdRm : Code := bodyOf Tryd.f6
noncomputable def cdRml : Code := sub [1,1,1,0,1,0,0] cdRm
theorem resRm : fiRm.results = [.tmp 4] := rfl

/-- the new block N holds the bytes l, all else is as it was -/
structure Only (s0 s : S) (N : Nat) (l : List UInt8) : Prop where
  next : s.next = N + 1
  mark : s.mark = s0.mark
  cell : ∃ c, s.heap.get N = some (.cells c l.length 5 .whole) ∧ Row c 0 (l.map bv)
  far : ∀ m, m ≠ N → s.heap.get m = s0.heap.get m
theorem Only.bs {s0 s : S} {N : Nat} {l : List UInt8} (h : Only s0 s N l) : Bs s ⟨N, 0, none⟩ l := by
  obtain ⟨c, h1, h2⟩ := h.cell
  exact ⟨rfl, by rw [h.next]; exact Nat.lt_succ_self _, c, l.length, .inl ⟨_, _, h1⟩, by show 0 + l.length ≤ _; omega, h2⟩
theorem Only.of {s0 s s2 : S} {N : Nat} {l : List UInt8} (h : Only s0 s N l) (hr : Rd s s2) : Only s0 s2 N l := ⟨by rw [hr.next, h.next], by rw [hr.mark, h.mark], by rw [hr.heap]; exact h.cell, fun m hm => by rw [hr.heap]; exact h.far m hm⟩
/-- one byte is stored -/
theorem Only.store {s0 s : S} {N : Nat} {l : List UInt8} (h : Only s0 s N l) (hN : Nat.ble N lastName = true) (i : Nat) (x : UInt8) (hi : i < l.length) (hl : l.length ≤ 900) :
    ∃ s2, (storeA ⟨N, i, none⟩ [bv x] (AM.pure (ANext.value undefV))).run s = some (.value undefV, s2) ∧ Only s0 s2 N (l.set i x) := by
  obtain ⟨c, h1, h2⟩ := h.cell
  refine ⟨(s.seen N).turn N (some (.cells (wrCells c i [bv x]) l.length 5 .whole)), ?_, ?_⟩
  · rw [storeA_run _ rfl (by rw [h.next]; exact Nat.lt_succ_self _) hN h1 (by simp; omega) (by omega)]
    rfl
  · refine ⟨h.next, h.mark, ⟨_, by rw [List.length_set]; exact hg_same hN _ _, by rw [List.map_set]; exact row_set h2 (by omega)⟩, fun m hm => ?_⟩
    show (s.heap.put N _).get m = _
    rw [hg_far hN hm, h.far m hm]
def InvRm (a : Option Addr) (cap : Nat) (l : List UInt8) (x : UInt8) (N : Nat) (s0 : S) (k : Nat) (fr : Fr) (s : S) : Prop :=
  ∃ (j : Nat) (t : Tr Value), k = 80 - j ∧ j ≤ 80 ∧ fr = ⟨6, t, 27, [], none⟩ ∧ Only s0 s N (room l x j) ∧ t.get 1 = some (bv x) ∧ t.get 5 = some (.slice (some ⟨N, 0, none⟩) (l.length + 80) (l.length + 80)) ∧ t.get 6 = some (.int .i64 (.ofNat (l.length + j)))
def PostRm (l : List UInt8) (x : UInt8) (N : Nat) (s0 : S) (ex : Ex) (fr : Fr) (s : S) : Prop :=
  ∃ t : Tr Value, ex = .exit 0 ∧ fr = ⟨6, t, 27, [], none⟩ ∧ Only s0 s N (room l x 80) ∧ t.get 5 = some (.slice (some ⟨N, 0, none⟩) (l.length + 80) (l.length + 80))
theorem roomy_round (a : Option Addr) (cap : Nat) (l : List UInt8) (x : UInt8) (N : Nat) (s0 : S) (hl : l.length ≤ 200) (hN : Nat.ble N lastName = true) (k : Nat) (fr : Fr) (s : S) (h : InvRm a cap l x N s0 k fr s) :
    GoC E (sumsOf []) cdRml fr s (Again (InvRm a cap l x N s0) k (PostRm l x N s0)) := by
  obtain ⟨j, t, rfl, hj, rfl, hO, g1, g5, g6⟩ := h
  simp only [cdRml, cdRm, Tryd.f6, bodyOf, sub]
  by_cases hlt : j < 80
  · have hlt' : ltI (Int.ofNat (l.length + j)) (Int.ofNat (l.length + 80)) = true := by rw [ltI_eq]; simp; omega
    have hbl : Nat.blt (l.length + j) (l.length + 80) = true := blt_iff.2 (by omega)
    have hinc := b_incr (n := l.length + j) (by omega)
    obtain ⟨s2, st, O2⟩ := hO.store hN (l.length + j) x (by rw [room_len l x j hj]; omega) (by rw [room_len l x j hj]; omega)
    rw [room_set l x j hlt] at O2
    repeat apply go_seq
    apply go_region
    case h => intro m; simp (maxSteps := 2000000) (disch := decide) only [opsLoop, evOper, wantedA, nth, aop, aPick, aBin, aIndexAddr, aFieldAddr, aLoad, aStore, aExtract, aConvert, aAlloc, aBox, aIndex, callA, builtinA, Fr.evs, opt, val, when, AM.run, outV, newA, ptr, force_eq, seen_heap, seen_next, seen_mark, seen_seen, agg_cells, int_cells, Fr.ev, Fr.put, onFr, gps, gpn, bltT, still, flat, List.append_nil, List.nil_append, List.cons_append, Nat.reduceEqDiff, ne_eq, not_false_eq_true, reduceCtorEq, Bool.and_true, Bool.true_and, Bool.and_false, Bool.false_and, Bool.not_true, Bool.not_false, Bool.and_self, g5, g6, tyB, dsB, b_lss, hlt']; rfl
    repeat apply go_seq
    apply go_cond
    case hc => simp (disch := decide) only [opsLoop, evOper, wantedA, nth, aop, aPick, aBin, aIndexAddr, aFieldAddr, aLoad, aStore, aExtract, aConvert, aAlloc, aBox, aIndex, callA, builtinA, Fr.evs, opt, val, when, AM.run, outV, newA, ptr, force_eq, seen_heap, seen_next, seen_mark, seen_seen, agg_cells, int_cells, Fr.ev, Fr.put, onFr, gps, gpn, bltT, still, flat, List.append_nil, List.nil_append, List.cons_append, Nat.reduceEqDiff, ne_eq, not_false_eq_true, reduceCtorEq, Bool.and_true, Bool.true_and, Bool.and_false, Bool.false_and, Bool.not_true, Bool.not_false, Bool.and_self]; rfl
    case h2 => intro h; cases h
    intro _
    apply go_skip
    apply go_seq
    apply go_block
    repeat apply go_seq
    apply go_region
    case h => intro m; simp (maxSteps := 2000000) (disch := decide) only [opsLoop, evOper, wantedA, nth, aop, aPick, aBin, aIndexAddr, aFieldAddr, aLoad, aStore, aExtract, aConvert, aAlloc, aBox, aIndex, callA, builtinA, Fr.evs, opt, val, when, AM.run, outV, newA, ptr, force_eq, seen_heap, seen_next, seen_mark, seen_seen, agg_cells, int_cells, Fr.ev, Fr.put, onFr, gps, gpn, bltT, still, flat, List.append_nil, List.nil_append, List.cons_append, Nat.reduceEqDiff, ne_eq, not_false_eq_true, reduceCtorEq, Bool.and_true, Bool.true_and, Bool.and_false, Bool.false_and, Bool.not_true, Bool.not_false, Bool.and_self, g1, g5, g6, tyB, dsB, tyU8, szU8, hbl, mul1, add0, bv_cells, show Nat.beq ([bv x] : List Value).length 1 = true from rfl, st]; rfl
    repeat apply go_seq
    apply go_region
    case h => intro m; simp (maxSteps := 2000000) (disch := decide) only [opsLoop, evOper, wantedA, nth, aop, aPick, aBin, aIndexAddr, aFieldAddr, aLoad, aStore, aExtract, aConvert, aAlloc, aBox, aIndex, callA, builtinA, Fr.evs, opt, val, when, AM.run, outV, newA, ptr, force_eq, seen_heap, seen_next, seen_mark, seen_seen, agg_cells, int_cells, Fr.ev, Fr.put, onFr, gps, gpn, bltT, still, flat, List.append_nil, List.nil_append, List.cons_append, Nat.reduceEqDiff, ne_eq, not_false_eq_true, reduceCtorEq, Bool.and_true, Bool.true_and, Bool.and_false, Bool.false_and, Bool.not_true, Bool.not_false, Bool.and_self, g6, int1, hinc]; rfl
    refine ⟨80 - (j + 1), by omega, j + 1, _, rfl, by omega, rfl, O2, ?_, ?_, ?_⟩
    · simp (disch := decide) only [gps, gpn, g1]
    · simp (disch := decide) only [gps, gpn, g5]
    · simp (disch := decide) only [gps, gpn, Nat.add_assoc]
  · obtain rfl : j = 80 := by omega
    have hlt' : ltI (Int.ofNat (l.length + 80)) (Int.ofNat (l.length + 80)) = false := by rw [ltI_eq]; simp
    repeat apply go_seq
    apply go_region
    case h => intro m; simp (maxSteps := 2000000) (disch := decide) only [opsLoop, evOper, wantedA, nth, aop, aPick, aBin, aIndexAddr, aFieldAddr, aLoad, aStore, aExtract, aConvert, aAlloc, aBox, aIndex, callA, builtinA, Fr.evs, opt, val, when, AM.run, outV, newA, ptr, force_eq, seen_heap, seen_next, seen_mark, seen_seen, agg_cells, int_cells, Fr.ev, Fr.put, onFr, gps, gpn, bltT, still, flat, List.append_nil, List.nil_append, List.cons_append, Nat.reduceEqDiff, ne_eq, not_false_eq_true, reduceCtorEq, Bool.and_true, Bool.true_and, Bool.and_false, Bool.false_and, Bool.not_true, Bool.not_false, Bool.and_self, g5, g6, tyB, dsB, b_lss, hlt']; rfl
    repeat apply go_seq
    apply go_cond
    case hc => simp (disch := decide) only [opsLoop, evOper, wantedA, nth, aop, aPick, aBin, aIndexAddr, aFieldAddr, aLoad, aStore, aExtract, aConvert, aAlloc, aBox, aIndex, callA, builtinA, Fr.evs, opt, val, when, AM.run, outV, newA, ptr, force_eq, seen_heap, seen_next, seen_mark, seen_seen, agg_cells, int_cells, Fr.ev, Fr.put, onFr, gps, gpn, bltT, still, flat, List.append_nil, List.nil_append, List.cons_append, Nat.reduceEqDiff, ne_eq, not_false_eq_true, reduceCtorEq, Bool.and_true, Bool.true_and, Bool.and_false, Bool.false_and, Bool.not_true, Bool.not_false, Bool.and_self]; rfl
    case h1 => intro h; cases h
    intro _
    apply go_exit
    refine ⟨_, rfl, rfl, hO, ?_⟩
    simp (disch := decide) only [gps, gpn, g5]
theorem rep0 : ∀ k, repeatL [Value.int .u8 0] k = (List.replicate k (0 : UInt8)).map bv
  | 0 => rfl
  | k + 1 => by
    show Value.int .u8 0 :: repeatL [Value.int .u8 0] k = _
    rw [rep0 k, List.replicate_succ, List.map_cons]
    rfl
theorem Bx.far {s s2 : S} {a : Option Addr} {l : List UInt8} (h : Bx s a l) (hn : s.next ≤ s2.next) (hg : ∀ m, m < s.next → s2.heap.get m = s.heap.get m) : Bx s2 a l := by
  cases a with
  | none => exact h
  | some ad =>
    have h : Bs s ad l := h
    obtain ⟨c, m, h1, h2, h3⟩ := h.cell
    exact ⟨h.spot, Nat.lt_of_lt_of_le h.lt hn, c, m, h1.of (hg _ h.lt), h2, h3⟩
theorem copy_only {s0 s : S} {N : Nat} {l : List UInt8} {a : Option Addr} {cap : Nat} (hO : Only s0 s N (List.replicate (l.length + 80) 0)) (hN : Nat.ble N lastName = true) (hb : Bx s a l) (hl : l.length ≤ 200) :
    ∃ s2, (builtinA E .copy #[25, 25] [.slice (some ⟨N, 0, none⟩) (l.length + 80) (l.length + 80), .slice a l.length cap]).run s = some (.value (.int .i64 (.ofNat l.length)), s2) ∧ Only s0 s2 N (room l 0 80) := by
  have hroom : room l 0 80 = l ++ List.replicate 80 0 := by
    unfold room
    simp
  have e1 : builtinA E .copy #[25, 25] [.slice (some ⟨N, 0, none⟩) (l.length + 80) (l.length + 80), .slice a l.length cap] = copyA 1 (some ⟨N, 0, none⟩) (l.length + 80) (.slice a l.length cap) l.length := by
    simp only [builtinA, tyB, dsB, opt, tyU8, szU8, lenA]
  have hmin : minN l.length (l.length + 80) = l.length := by rw [minN_eq]; omega
  rw [e1]
  unfold copyA
  rw [hmin]
  cases l with
  | nil =>
    refine ⟨s, ?_, by rw [hroom]; exact hO⟩
    cases a with
    | none => rfl
    | some ad => rfl
  | cons y r =>
    cases a with
    | none => cases hb
    | some ad =>
      have hb : Bs s ad (y :: r) := hb
      obtain ⟨c, h1, h2⟩ := hO.cell
      rw [List.length_replicate] at h1
      have e2 : ∀ k : List Value → AM ANext, firstA 1 (y :: r).length (.slice (some ad) (y :: r).length cap) k = loadA ad (y :: r).length k := fun k => by
        show loadA ad (Nat.mul (y :: r).length 1) k = _
        rw [mul1]
      rw [e2, loadA_run hb]
      show ∃ s2, (storeA ⟨N, 0, none⟩ ((y :: r).map bv) (AE.val (.int .i64 (.ofNat (y :: r).length)))).run (s.seen ad.block) = some (.value (.int .i64 (.ofNat (y :: r).length)), s2) ∧ _
      have hlt : N < (s.seen ad.block).next := by show N < s.next; rw [hO.next]; exact Nat.lt_succ_self _
      rw [storeA_run (s := s.seen ad.block) _ (bvs_one _) hlt hN h1 (by rw [List.length_map]; omega) (by omega)]
      have hw : 0 + ((y :: r).map bv).length ≤ Tr.wide := by rw [List.length_map]; unfold Tr.wide; omega
      refine ⟨((s.seen ad.block).seen N).turn N (some (.cells (wrCells c 0 ((y :: r).map bv)) ((y :: r).length + 80) 5 .whole)), rfl, ⟨hO.next, hO.mark, ⟨wrCells c 0 ((y :: r).map bv), ?_, ?_⟩, ?_⟩⟩
      · rw [room_len _ _ _ (by omega)]
        exact hg_same hN _ _
      · rw [hroom, List.map_append]
        refine row_app (row_wr hw) (row_wr_far hw ?_ (.inr ?_))
        · intro k v hk
          have h3 := h2 ((y :: r).length + k) v (by
            rw [List.getElem?_map] at hk ⊢
            have hk2 : k < 80 := by
              rcases Nat.lt_or_ge k 80 with h | h
              · exact h
              · rw [List.getElem?_eq_none (by simpa using h)] at hk; cases hk
            rw [List.getElem?_replicate, if_pos hk2] at hk
            rw [List.getElem?_replicate, if_pos (by omega)]
            exact hk)
          rw [Nat.zero_add] at h3
          rw [List.length_map, Nat.zero_add]
          exact h3
        · rw [List.length_map]
          exact Nat.le_refl _
      · intro m hm
        show (s.heap.put N _).get m = _
        rw [hg_far hN hm, hO.far m hm]
theorem newA_go {β : Type} {s : S} {vs : List Value} {e : TypeId} {rm : Room} {k : Nat → AM β} (hl : vs.length ≤ 1000000) (hN : Nat.ble s.next lastName = true) : (newA e vs rm k).run s = (k s.next).run (s.grow (.cells (Tr.ofList vs) vs.length e rm)) := by
  unfold newA
  rw [show Nat.ble vs.length lastName = true from ble_iff.2 (by unfold lastName; omega)]
  simp only [when, AM.run, force_eq, hN]
  rfl
set_option maxHeartbeats 1000000 in
theorem told_roomy : AE.Told Tryd.prog 6 roomyA := by
  refine told_go hE hmix tolds_nil ?_
  intro args s v s' h hm
  unfold roomyA at h
  split at h
  · rename_i a n cap m
    obtain ⟨hc, h2⟩ := run_when h
    rw [Bool.and_eq_true] at hc
    have hn := ble_iff.1 hc.1
    have hm256 := blt_iff.1 hc.2
    obtain ⟨l, s1, hl, hb, hr1, h3⟩ := bx_of_rd h2
    subst hl
    have hx : Value.int .u8 (.ofNat m) = bv (UInt8.ofNat m) := by rw [bv_of, Nat.mod_eq_of_lt hm256]
    have hble : Nat.ble s.next lastName = true := by
      have h4 := h3
      unfold newB at h4
      simp only [AM.run, force_eq, hr1.next] at h4
      cases hh : Nat.ble s.next lastName with
      | true => rfl
      | false => rw [hh] at h4; cases h4
    obtain ⟨hw, h5⟩ := run_new h3
    cases h5
    rw [hx]
    generalize hxx : UInt8.ofNat m = x
    clear h h2 h3
    refine go_enter (fi := fiRm) (c := cdRm) (by kernel_rfl) (by kernel_rfl) 27 rfl rfl ?_
    have hcode : cdRm = .seq (sub [0] cdRm) (.seq (sub [1,0] cdRm) (.seq (sub [1,1,0] cdRm) (.seq (.seq (sub [1,1,1,0,0] cdRm) (.block 0 (.loop cdRml))) (sub [1,1,1,1] cdRm)))) := rfl
    rw [hcode]
    have h0 : (Tr.ofList [Value.slice a l.length cap, bv x]).get 0 = some (.slice a l.length cap) := rfl
    have h1 : (Tr.ofList [Value.slice a l.length cap, bv x]).get 1 = some (bv x) := rfl
    generalize Tr.ofList [Value.slice a l.length cap, bv x] = t at *
    simp only [cdRm, Tryd.f6, bodyOf, sub]
    have f80 : ∀ E t, binA E .add t (.int .i64 (.ofNat l.length)) (.int .i64 80) = some (.int .i64 (.ofNat (l.length + 80))) := b_plus (a := l.length) (b := 80) (by omega)
    have fz : [Value.int .u8 0].length = 1 := rfl
    have hrl : (repeatL [Value.int .u8 0] (l.length + 80)).length = l.length + 80 := by rw [rep0]; simp
    have nr : Nat.ble (repeatL [Value.int .u8 0] (l.length + 80)).length lastName = true := ble_iff.2 (by rw [hrl]; unfold lastName; omega)
    have b1 : Nat.ble (l.length + 80) (l.length + 80) = true := ble_iff.2 (Nat.le_refl _)
    have b2 : Nat.ble (l.length + 80) maxNeed = true := ble_iff.2 (by unfold maxNeed; omega)
    repeat apply go_seq
    apply go_region
    case h => intro m; simp (maxSteps := 2000000) (disch := decide) only [opsLoop, evOper, wantedA, nth, aop, aPick, aBin, aIndexAddr, aFieldAddr, aLoad, aStore, aExtract, aConvert, aAlloc, aBox, aIndex, callA, builtinA, Fr.evs, opt, val, when, AM.run, outV, newA, ptr, force_eq, seen_heap, seen_next, seen_mark, seen_seen, agg_cells, int_cells, Fr.ev, Fr.put, onFr, gps, gpn, bltT, still, flat, List.append_nil, List.nil_append, List.cons_append, Nat.reduceEqDiff, ne_eq, not_false_eq_true, reduceCtorEq, Bool.and_true, Bool.true_and, Bool.and_false, Bool.false_and, Bool.not_true, Bool.not_false, Bool.and_self]; rfl
    repeat apply go_seq
    apply go_region
    case h => intro m; simp (maxSteps := 2000000) (disch := decide) only [opsLoop, evOper, wantedA, nth, aop, aPick, aBin, aIndexAddr, aFieldAddr, aLoad, aStore, aExtract, aConvert, aAlloc, aBox, aIndex, callA, builtinA, Fr.evs, opt, val, when, AM.run, outV, newA, ptr, force_eq, seen_heap, seen_next, seen_mark, seen_seen, agg_cells, int_cells, Fr.ev, Fr.put, onFr, gps, gpn, bltT, still, flat, List.append_nil, List.nil_append, List.cons_append, Nat.reduceEqDiff, ne_eq, not_false_eq_true, reduceCtorEq, Bool.and_true, Bool.true_and, Bool.and_false, Bool.false_and, Bool.not_true, Bool.not_false, Bool.and_self, h0, tyB, dsB, f80, aMakeSlice, tyU8, zeU8, szU8, byU8, b1, b2, show Nat.ble 1 1024 = true from rfl, show Nat.ble 1 1 = true from rfl, show Nat.beq ([Value.int .u8 0] : List Value).length 1 = true from rfl, nr, hble]; rfl
    generalize hs1 : (S.mk (s.heap.put s.next (some (.cells (Tr.ofList (repeatL [Value.int .u8 0] (l.length + 80))) (repeatL [Value.int .u8 0] (l.length + 80)).length 5 .whole))) (Nat.succ s.next) s.mark s.rd s.wr) = sA
    have O1 : Only s sA s.next (List.replicate (l.length + 80) 0) := by
      subst hs1
      refine ⟨rfl, rfl, ⟨Tr.ofList (repeatL [Value.int .u8 0] (l.length + 80)), ?_, ?_⟩, fun m hm => ?_⟩
      · rw [List.length_replicate]
        show (s.heap.put s.next _).get s.next = _
        rw [hg_same hble, hrl]
      · rw [rep0]
        exact row_ofList _ (by rw [List.length_map, List.length_replicate]; unfold Tr.wide; omega)
      · show (s.heap.put s.next _).get m = _
        rw [hg_far hble hm]
    clear hs1
    obtain ⟨s2, hcp, O2⟩ := copy_only (cap := cap) O1 hble (hb.far (by rw [O1.next]; omega) (fun m hm => O1.far m (by omega))) hn
    repeat apply go_seq
    apply go_region
    case h => intro m; simp (disch := decide) only [opsLoop, evOper, wantedA, nth, aop, aPick, aBin, aIndexAddr, aFieldAddr, aLoad, aStore, aExtract, aConvert, aAlloc, aBox, aIndex, callA, Fr.evs, opt, val, when, AM.run, outV, newA, ptr, force_eq, seen_heap, seen_next, seen_mark, seen_seen, agg_cells, int_cells, Fr.ev, Fr.put, onFr, gps, gpn, bltT, still, flat, List.append_nil, List.nil_append, List.cons_append, Nat.reduceEqDiff, ne_eq, not_false_eq_true, reduceCtorEq, Bool.and_true, Bool.true_and, Bool.and_false, Bool.false_and, Bool.not_true, Bool.not_false, Bool.and_self, h0, hcp]; rfl
    repeat apply go_seq
    apply go_region
    case h => intro m; simp (maxSteps := 2000000) (disch := decide) only [opsLoop, evOper, wantedA, nth, aop, aPick, aBin, aIndexAddr, aFieldAddr, aLoad, aStore, aExtract, aConvert, aAlloc, aBox, aIndex, callA, builtinA, Fr.evs, opt, val, when, AM.run, outV, newA, ptr, force_eq, seen_heap, seen_next, seen_mark, seen_seen, agg_cells, int_cells, Fr.ev, Fr.put, onFr, gps, gpn, bltT, still, flat, List.append_nil, List.nil_append, List.cons_append, Nat.reduceEqDiff, ne_eq, not_false_eq_true, reduceCtorEq, Bool.and_true, Bool.true_and, Bool.and_false, Bool.false_and, Bool.not_true, Bool.not_false, Bool.and_self, h0, tyB, dsB]; rfl
    apply go_block
    refine (go_loop_inv (InvRm a cap l x s.next s) (fun k fr s1 hI => roomy_round a cap l x s.next s hn hble k fr s1 hI) (80 - 0) _ _ ⟨0, _, rfl, by omega, rfl, ?_, ?_, ?_, ?_⟩).mono ?_
    · have : room l x 0 = room l 0 80 := by unfold room; simp
      rw [this]
      exact O2
    · simp (disch := decide) only [gps, gpn, h1]
    · simp (disch := decide) only [gps, gpn]
    · simp (disch := decide) only [gps, gpn, Nat.add_zero]
    rintro ex fr s3 ⟨t3, rfl, rfl, O3, g5⟩
    simp only [Out_, if_true]
    show GoC E _ _ _ _ _
    repeat apply go_seq
    apply go_region
    case h => intro m; simp (maxSteps := 2000000) (disch := decide) only [opsLoop, evOper, wantedA, nth, aop, aPick, aBin, aIndexAddr, aFieldAddr, aLoad, aStore, aExtract, aConvert, aAlloc, aBox, aIndex, callA, builtinA, Fr.evs, opt, val, when, AM.run, outV, newA, ptr, force_eq, seen_heap, seen_next, seen_mark, seen_seen, agg_cells, int_cells, Fr.ev, Fr.put, onFr, gps, gpn, bltT, still, flat, List.append_nil, List.nil_append, List.cons_append, Nat.reduceEqDiff, ne_eq, not_false_eq_true, reduceCtorEq, Bool.and_true, Bool.true_and, Bool.and_false, Bool.false_and, Bool.not_true, Bool.not_false, Bool.and_self, g5]; rfl
    repeat apply go_seq
    apply go_ret
    apply ret_intro rfl rfl
    case run => simp (disch := decide) only [resultsM, resultsA, resRm, opsLoop, evOper, wantedA, nth, aop, aPick, aBin, aIndexAddr, aFieldAddr, aLoad, aStore, aExtract, aConvert, aAlloc, aBox, aIndex, callA, builtinA, Fr.evs, opt, val, when, AM.run, outV, newA, ptr, force_eq, seen_heap, seen_next, seen_mark, seen_seen, agg_cells, int_cells, Fr.ev, Fr.put, onFr, gps, gpn, bltT, still, flat, List.append_nil, List.nil_append, List.cons_append, Nat.reduceEqDiff, ne_eq, not_false_eq_true, reduceCtorEq, Bool.and_true, Bool.true_and, Bool.and_false, Bool.false_and, Bool.not_true, Bool.not_false, Bool.and_self]; rfl
    refine ⟨?_, ?_, ?_⟩
    · rw [hr1.next]
    · rw [O3.next]
      show s.next + 1 ≤ s1.next + 1
      rw [hr1.next]
      exact Nat.le_refl _
    · intro k o ho
      have ho : (s1.heap.put s1.next (some (.cells (Tr.ofList ((room l x 80).map bv)) (room l x 80).length 5 .whole))).get k = some o := ho
      rw [hr1.next, hr1.heap] at ho
      by_cases hk : k = s.next
      · subst hk
        rw [hg_same hble] at ho
        cases ho
        obtain ⟨c, c1, c2⟩ := O3.cell
        refine ⟨_, c1, .cells fun i v hv hi => ?_⟩
        rw [get_ofList _ _ (by rw [List.length_map, room_len _ _ _ (by omega)]; unfold Tr.wide; omega)] at hv
        have := c2 i v hv
        rwa [Nat.zero_add] at this
      · rw [hg_far hble hk] at ho
        exact ⟨o, by rw [O3.far k hk]; exact ho, .refl o⟩
  · cases h
end Go.Proofs.YtdkieabjjmhdlaaDoor.lf
end
end

section
/- Leaves: a roomy list is as it was: told. -/
noncomputable section
namespace Go.Proofs.YtdkieabjjmhdlaaDoor.lf
open AE
set_option linter.unusedSimpArgs false
set_option linter.unusedVariables false
set_option maxRecDepth 10000

/-- told where it is as it was -/
def intactA : List Value → AM Value
  | [.slice (some ad) N cap, .slice a n c, .int .u8 (.ofNat m)] => when (Nat.ble n 200 && Nat.blt m 256 && Nat.beq N (n + 80) && Nat.beq cap (n + 80)) (rdA (some ad) N fun L => rdA a n fun l => when (eqBytes L (room l (UInt8.ofNat m) 80)) (.pure (.bool true)))
  | _ => .fail
noncomputable def fiIn : FI := FI.of Tryd.f13
noncomputable def cdIn : Code := bodyOf Tryd.f13
noncomputable def cdInl : Code := sub [1,1,0,1,0,0] cdIn
theorem resIn : fiIn.results = [.tmp 6] := rfl
abbrev sigI : List (Nat × (List Value → AM Value)) := [(11, sameA)]
theorem tolds_I : Tolds Tryd.prog (sumsOf sigI) := tolds_cons told_same tolds_nil
theorem siS : sumsOf sigI 11 = some sameA := rfl
theorem tgSmI : ∀ a b, targetA E (.func 11) a b = .pure (.enter 11 (b ++ a)) := tgt (fi := fiSm) (c := cdSm) (by kernel_rfl) (by kernel_rfl)
theorem room_at (l : List UInt8) (x : UInt8) (j : Nat) (h : j < 80) : (room l x 80)[l.length + j]? = some x := by
  unfold room
  rw [List.append_assoc, List.getElem?_append_right (by omega), show l.length + j - l.length = j by omega, List.getElem?_append_left (by simpa using h), List.getElem?_replicate, if_pos h]
theorem room_take (l : List UInt8) (x : UInt8) : (room l x 80).take l.length = l := by
  unfold room
  rw [List.append_assoc, List.take_left]
def InvIn (ad : Addr) (a : Option Addr) (c : Nat) (l : List UInt8) (x : UInt8) (s0 : S) (k : Nat) (fr : Fr) (s : S) : Prop :=
  ∃ (j : Nat) (t : Tr Value), k = 80 - j ∧ j ≤ 80 ∧ fr = ⟨13, t, 37, [], none⟩ ∧ Rd s0 s ∧ t.get 0 = some (.slice (some ad) (l.length + 80) (l.length + 80)) ∧ t.get 2 = some (bv x) ∧ t.get 7 = some (.int .i64 (.ofNat (l.length + j)))
def PostIn (s0 : S) (ex : Ex) (fr : Fr) (s : S) : Prop :=
  ∃ t : Tr Value, ex = .exit 0 ∧ fr = ⟨13, t, 37, [], none⟩ ∧ Rd s0 s
theorem intact_round (ad : Addr) (a : Option Addr) (c : Nat) (l : List UInt8) (x : UInt8) (s0 : S) (hl : l.length ≤ 200) (hb : Bs s0 ad (room l x 80)) (k : Nat) (fr : Fr) (s : S) (h : InvIn ad a c l x s0 k fr s) :
    GoC E (sumsOf sigI) cdInl fr s (Again (InvIn ad a c l x s0) k (PostIn s0)) := by
  obtain ⟨j, t, rfl, hj, rfl, hr, g0, g2, g7⟩ := h
  simp only [cdInl, cdIn, Tryd.f13, bodyOf, sub]
  by_cases hlt : j < 80
  · have hlt' : ltI (Int.ofNat (l.length + j)) (Int.ofNat (l.length + 80)) = true := by rw [ltI_eq]; simp; omega
    have hbl : Nat.blt (l.length + j) (l.length + 80) = true := blt_iff.2 (by omega)
    have hinc := b_incr (n := l.length + j) (by omega)
    have lx := sum.byte_load (Bs.at (Bs.rd hb hr) (room_at l x j hlt)) tiU8 dsU8
    have hq : ∀ E t, binA E .neq t (.int .u8 (.ofNat x.toNat)) (bv x) = some (.bool false) := fun E t => by
      show some (Value.bool (not (eqI (Int.ofNat x.toNat) (Int.ofNat x.toNat)))) = _
      rw [eqI_t]; rfl
    repeat apply go_seq
    apply go_region
    case h => intro m; simp (maxSteps := 2000000) (disch := decide) only [opsLoop, evOper, wantedA, nth, aop, aPick, aBin, aIndexAddr, aFieldAddr, aLoad, aStore, aExtract, aConvert, aAlloc, aBox, aIndex, callA, builtinA, Fr.evs, opt, val, when, AM.run, outV, newA, ptr, force_eq, seen_heap, seen_next, seen_mark, seen_seen, agg_cells, int_cells, Fr.ev, Fr.put, onFr, gps, gpn, bltT, still, flat, List.append_nil, List.nil_append, List.cons_append, Nat.reduceEqDiff, ne_eq, not_false_eq_true, reduceCtorEq, Bool.and_true, Bool.true_and, Bool.and_false, Bool.false_and, Bool.not_true, Bool.not_false, Bool.and_self, g0, g7, tyB, dsB, b_lss, hlt']; rfl
    repeat apply go_seq
    apply go_cond
    case hc => simp (disch := decide) only [opsLoop, evOper, wantedA, nth, aop, aPick, aBin, aIndexAddr, aFieldAddr, aLoad, aStore, aExtract, aConvert, aAlloc, aBox, aIndex, callA, builtinA, Fr.evs, opt, val, when, AM.run, outV, newA, ptr, force_eq, seen_heap, seen_next, seen_mark, seen_seen, agg_cells, int_cells, Fr.ev, Fr.put, onFr, gps, gpn, bltT, still, flat, List.append_nil, List.nil_append, List.cons_append, Nat.reduceEqDiff, ne_eq, not_false_eq_true, reduceCtorEq, Bool.and_true, Bool.true_and, Bool.and_false, Bool.false_and, Bool.not_true, Bool.not_false, Bool.and_self]; rfl
    case h2 => intro h; cases h
    intro _
    apply go_skip
    apply go_seq
    apply go_block
    repeat apply go_seq
    apply go_region
    case h => intro m; simp (maxSteps := 2000000) (disch := decide) only [opsLoop, evOper, wantedA, nth, aop, aPick, aBin, aIndexAddr, aFieldAddr, aLoad, aStore, aExtract, aConvert, aAlloc, aBox, aIndex, callA, builtinA, Fr.evs, opt, val, when, AM.run, outV, newA, ptr, force_eq, seen_heap, seen_next, seen_mark, seen_seen, agg_cells, int_cells, Fr.ev, Fr.put, onFr, gps, gpn, bltT, still, flat, List.append_nil, List.nil_append, List.cons_append, Nat.reduceEqDiff, ne_eq, not_false_eq_true, reduceCtorEq, Bool.and_true, Bool.true_and, Bool.and_false, Bool.false_and, Bool.not_true, Bool.not_false, Bool.and_self, g0, g2, g7, tyB, dsB, tyU8, dsU8, szU8, hbl, mul1, lx, hq]; rfl
    repeat apply go_seq
    apply go_cond
    case hc => simp (disch := decide) only [opsLoop, evOper, wantedA, nth, aop, aPick, aBin, aIndexAddr, aFieldAddr, aLoad, aStore, aExtract, aConvert, aAlloc, aBox, aIndex, callA, builtinA, Fr.evs, opt, val, when, AM.run, outV, newA, ptr, force_eq, seen_heap, seen_next, seen_mark, seen_seen, agg_cells, int_cells, Fr.ev, Fr.put, onFr, gps, gpn, bltT, still, flat, List.append_nil, List.nil_append, List.cons_append, Nat.reduceEqDiff, ne_eq, not_false_eq_true, reduceCtorEq, Bool.and_true, Bool.true_and, Bool.and_false, Bool.false_and, Bool.not_true, Bool.not_false, Bool.and_self]; rfl
    case h1 => intro h; cases h
    intro _
    apply go_skip
    repeat apply go_seq
    apply go_region
    case h => intro m; simp (maxSteps := 2000000) (disch := decide) only [opsLoop, evOper, wantedA, nth, aop, aPick, aBin, aIndexAddr, aFieldAddr, aLoad, aStore, aExtract, aConvert, aAlloc, aBox, aIndex, callA, builtinA, Fr.evs, opt, val, when, AM.run, outV, newA, ptr, force_eq, seen_heap, seen_next, seen_mark, seen_seen, agg_cells, int_cells, Fr.ev, Fr.put, onFr, gps, gpn, bltT, still, flat, List.append_nil, List.nil_append, List.cons_append, Nat.reduceEqDiff, ne_eq, not_false_eq_true, reduceCtorEq, Bool.and_true, Bool.true_and, Bool.and_false, Bool.false_and, Bool.not_true, Bool.not_false, Bool.and_self, g7, int1, hinc]; rfl
    refine ⟨80 - (j + 1), by omega, j + 1, _, rfl, by omega, rfl, hr.trans (Rd.seen s _), ?_, ?_, ?_⟩
    · simp (disch := decide) only [gps, gpn, g0]
    · simp (disch := decide) only [gps, gpn, g2]
    · simp (disch := decide) only [gps, gpn, Nat.add_assoc]
  · obtain rfl : j = 80 := by omega
    have hlt' : ltI (Int.ofNat (l.length + 80)) (Int.ofNat (l.length + 80)) = false := by rw [ltI_eq]; simp
    repeat apply go_seq
    apply go_region
    case h => intro m; simp (maxSteps := 2000000) (disch := decide) only [opsLoop, evOper, wantedA, nth, aop, aPick, aBin, aIndexAddr, aFieldAddr, aLoad, aStore, aExtract, aConvert, aAlloc, aBox, aIndex, callA, builtinA, Fr.evs, opt, val, when, AM.run, outV, newA, ptr, force_eq, seen_heap, seen_next, seen_mark, seen_seen, agg_cells, int_cells, Fr.ev, Fr.put, onFr, gps, gpn, bltT, still, flat, List.append_nil, List.nil_append, List.cons_append, Nat.reduceEqDiff, ne_eq, not_false_eq_true, reduceCtorEq, Bool.and_true, Bool.true_and, Bool.and_false, Bool.false_and, Bool.not_true, Bool.not_false, Bool.and_self, g0, g7, tyB, dsB, b_lss, hlt']; rfl
    repeat apply go_seq
    apply go_cond
    case hc => simp (disch := decide) only [opsLoop, evOper, wantedA, nth, aop, aPick, aBin, aIndexAddr, aFieldAddr, aLoad, aStore, aExtract, aConvert, aAlloc, aBox, aIndex, callA, builtinA, Fr.evs, opt, val, when, AM.run, outV, newA, ptr, force_eq, seen_heap, seen_next, seen_mark, seen_seen, agg_cells, int_cells, Fr.ev, Fr.put, onFr, gps, gpn, bltT, still, flat, List.append_nil, List.nil_append, List.cons_append, Nat.reduceEqDiff, ne_eq, not_false_eq_true, reduceCtorEq, Bool.and_true, Bool.true_and, Bool.and_false, Bool.false_and, Bool.not_true, Bool.not_false, Bool.and_self]; rfl
    case h1 => intro h; cases h
    intro _
    apply go_exit
    exact ⟨_, rfl, rfl, hr⟩
theorem same_go {s : S} {a a2 : Option Addr} {l l2 : List UInt8} {n c c2 : Nat} (hb : Bx s a l) (hb2 : Bx s a2 l2) (hl : l.length = n) (hl2 : l2.length = n) (hn : n ≤ 1000000) : ∃ s1, (sameA [.slice a n c, .slice a2 n c2]).run s = some (.bool (eqBytes l l2), s1) ∧ Rd s s1 := by
  subst hl
  obtain ⟨s1, e1, r1, _⟩ := rdA_run hb (fun l' => rdA a2 l.length fun l2 => .pure (.bool (eqBytes l' l2)))
  obtain ⟨s2, e2, r2, _⟩ := rdA_run (hb2.rd r1) (fun l2 => AM.pure (Value.bool (eqBytes l l2)))
  rw [hl2] at e2
  refine ⟨s2, ?_, r1.trans r2⟩
  unfold sameA
  dsimp only
  rw [ble_iff.2 hn, beq_iff.2 rfl]
  exact e1.trans e2
set_option maxHeartbeats 1000000 in
theorem told_intact : AE.Told Tryd.prog 13 intactA := by
  refine told_go hE hmix tolds_I ?_
  intro args s v s' h hm
  unfold intactA at h
  split at h
  · rename_i ad N cap a n c m
    obtain ⟨hc, h2⟩ := run_when h
    simp only [Bool.and_eq_true] at hc
    obtain ⟨⟨⟨hn, hm2⟩, hN⟩, hcap⟩ := hc
    have hn := ble_iff.1 hn
    have hm256 := blt_iff.1 hm2
    have hN := beq_iff.1 hN
    have hcap := beq_iff.1 hcap
    subst hN hcap
    obtain ⟨L, s1, hL, hb, hr1, h3⟩ := bx_of_rd h2
    obtain ⟨l, s2, hl, hb2, hr2, h4⟩ := bx_of_rd h3
    obtain ⟨hq, h5⟩ := run_when h4
    cases h5
    rw [eqBytes_iff] at hq
    have hLe := of_decide_eq_true hq
    have hx : Value.int .u8 (.ofNat m) = bv (UInt8.ofNat m) := by rw [bv_of, Nat.mod_eq_of_lt hm256]
    rw [hx]
    generalize UInt8.ofNat m = x at *
    subst hLe
    subst hl
    have hb : Bs s ad (room l x 80) := hb
    have hb2 : Bx s a l := hb2.rd ⟨hr1.heap.symm, hr1.next.symm, hr1.mark.symm⟩
    have hrr : Rd s s' := hr1.trans hr2
    clear h h2 h3 h4
    refine go_enter (fi := fiIn) (c := cdIn) (by kernel_rfl) (by kernel_rfl) 37 rfl rfl ?_
    have hcode : cdIn = .seq (sub [0] cdIn) (.seq (sub [1,0] cdIn) (.seq (.seq (sub [1,1,0,0] cdIn) (.block 0 (.loop cdInl))) (sub [1,1,1] cdIn))) := rfl
    rw [hcode]
    have h0 : (Tr.ofList [Value.slice (some ad) (l.length + 80) (l.length + 80), .slice a l.length c, bv x]).get 0 = some (.slice (some ad) (l.length + 80) (l.length + 80)) := rfl
    have h1 : (Tr.ofList [Value.slice (some ad) (l.length + 80) (l.length + 80), .slice a l.length c, bv x]).get 1 = some (.slice a l.length c) := rfl
    have h2 : (Tr.ofList [Value.slice (some ad) (l.length + 80) (l.length + 80), .slice a l.length c, bv x]).get 2 = some (bv x) := rfl
    generalize Tr.ofList [Value.slice (some ad) (l.length + 80) (l.length + 80), .slice a l.length c, bv x] = t at *
    simp only [cdIn, Tryd.f13, bodyOf, sub]
    have f80 : ∀ E t, binA E .add t (.int .i64 (.ofNat l.length)) (.int .i64 80) = some (.int .i64 (.ofNat (l.length + 80))) := b_plus (a := l.length) (b := 80) (by omega)
    have heq : eqI (Int.ofNat (l.length + 80)) (Int.ofNat (l.length + 80)) = true := eqI_t _
    have hopen : Nat.ble OPEN (l.length + 80) = false := ble_f (by unfold OPEN; omega)
    have hble : Nat.ble l.length (l.length + 80) = true := ble_iff.2 (by omega)
    have hb0 : Nat.ble 0 l.length = true := ble_iff.2 (by omega)
    have hif : addIf ad (l.length + 80) 0 1 = ad := by
      unfold addIf
      have : Nat.beq (l.length + 80) 0 = false := by
        cases hh : Nat.beq (l.length + 80) 0 with
        | false => rfl
        | true => have := beq_iff.1 hh; omega
      rw [this]
      rfl
    have hs0 : Nat.sub l.length 0 = l.length := rfl
    have hs1 : Nat.sub (l.length + 80) 0 = l.length + 80 := rfl
    have hbt : Bs s ad l := by
      have := hb.take l.length
      rwa [room_take] at this
    obtain ⟨s5, hsm, hr5⟩ := same_go (s := s) (a := some ad) (a2 := a) (n := l.length) (c := l.length + 80) (c2 := c) hbt hb2 rfl rfl (by omega)
    have hee : eqBytes l l = true := by rw [eqBytes_iff]; exact decide_eq_true rfl
    rw [hee] at hsm
    repeat apply go_seq
    apply go_region
    case h => intro m; simp (maxSteps := 2000000) (disch := decide) only [opsLoop, evOper, wantedA, nth, aop, aPick, aBin, aIndexAddr, aFieldAddr, aLoad, aStore, aExtract, aConvert, aAlloc, aBox, aIndex, callA, builtinA, Fr.evs, opt, val, when, AM.run, outV, newA, ptr, force_eq, seen_heap, seen_next, seen_mark, seen_seen, agg_cells, int_cells, Fr.ev, Fr.put, onFr, gps, gpn, bltT, still, flat, List.append_nil, List.nil_append, List.cons_append, Nat.reduceEqDiff, ne_eq, not_false_eq_true, reduceCtorEq, Bool.and_true, Bool.true_and, Bool.and_false, Bool.false_and, Bool.not_true, Bool.not_false, Bool.and_self]; rfl
    repeat apply go_seq
    apply go_region
    case h => intro m; simp (maxSteps := 2000000) (disch := decide) only [opsLoop, evOper, wantedA, nth, aop, aPick, aBin, aIndexAddr, aFieldAddr, aLoad, aStore, aExtract, aConvert, aAlloc, aBox, aIndex, callA, builtinA, Fr.evs, opt, val, when, AM.run, outV, newA, ptr, force_eq, seen_heap, seen_next, seen_mark, seen_seen, agg_cells, int_cells, Fr.ev, Fr.put, onFr, gps, gpn, bltT, still, flat, List.append_nil, List.nil_append, List.cons_append, Nat.reduceEqDiff, ne_eq, not_false_eq_true, reduceCtorEq, Bool.and_true, Bool.true_and, Bool.and_false, Bool.false_and, Bool.not_true, Bool.not_false, Bool.and_self, h0, h1, tyB, dsB, f80, b_neqI, heq, aSlice, lowHigh, intOf?, sliceA, sliceE, tyU8, szU8, hopen, hble, hb0, hif, hs0, hs1, tgSmI, evT_told siS, hsm, u_not]; rfl
    repeat apply go_seq
    apply go_cond
    case hc => simp (disch := decide) only [opsLoop, evOper, wantedA, nth, aop, aPick, aBin, aIndexAddr, aFieldAddr, aLoad, aStore, aExtract, aConvert, aAlloc, aBox, aIndex, callA, builtinA, Fr.evs, opt, val, when, AM.run, outV, newA, ptr, force_eq, seen_heap, seen_next, seen_mark, seen_seen, agg_cells, int_cells, Fr.ev, Fr.put, onFr, gps, gpn, bltT, still, flat, List.append_nil, List.nil_append, List.cons_append, Nat.reduceEqDiff, ne_eq, not_false_eq_true, reduceCtorEq, Bool.and_true, Bool.true_and, Bool.and_false, Bool.false_and, Bool.not_true, Bool.not_false, Bool.and_self]; rfl
    case h1 => intro h; cases h
    intro _
    apply go_skip
    repeat apply go_seq
    apply go_region
    case h => intro m; simp (maxSteps := 2000000) (disch := decide) only [opsLoop, evOper, wantedA, nth, aop, aPick, aBin, aIndexAddr, aFieldAddr, aLoad, aStore, aExtract, aConvert, aAlloc, aBox, aIndex, callA, builtinA, Fr.evs, opt, val, when, AM.run, outV, newA, ptr, force_eq, seen_heap, seen_next, seen_mark, seen_seen, agg_cells, int_cells, Fr.ev, Fr.put, onFr, gps, gpn, bltT, still, flat, List.append_nil, List.nil_append, List.cons_append, Nat.reduceEqDiff, ne_eq, not_false_eq_true, reduceCtorEq, Bool.and_true, Bool.true_and, Bool.and_false, Bool.false_and, Bool.not_true, Bool.not_false, Bool.and_self, h1, tyB, dsB]; rfl
    apply go_block
    refine (go_loop_inv (InvIn ad a c l x s) (fun k fr s1 hI => intact_round ad a c l x s hn hb k fr s1 hI) (80 - 0) _ _ ⟨0, _, rfl, by omega, rfl, hr5, ?_, ?_, ?_⟩).mono ?_
    · simp (disch := decide) only [gps, gpn, h0]
    · simp (disch := decide) only [gps, gpn, h2]
    · simp (disch := decide) only [gps, gpn, Nat.add_zero]
    rintro ex fr s3 ⟨t3, rfl, rfl, hr3⟩
    simp only [Out_, if_true]
    show GoC E _ _ _ _ _
    repeat apply go_seq
    apply go_region
    case h => intro m; simp (maxSteps := 2000000) (disch := decide) only [opsLoop, evOper, wantedA, nth, aop, aPick, aBin, aIndexAddr, aFieldAddr, aLoad, aStore, aExtract, aConvert, aAlloc, aBox, aIndex, callA, builtinA, Fr.evs, opt, val, when, AM.run, outV, newA, ptr, force_eq, seen_heap, seen_next, seen_mark, seen_seen, agg_cells, int_cells, Fr.ev, Fr.put, onFr, gps, gpn, bltT, still, flat, List.append_nil, List.nil_append, List.cons_append, Nat.reduceEqDiff, ne_eq, not_false_eq_true, reduceCtorEq, Bool.and_true, Bool.true_and, Bool.and_false, Bool.false_and, Bool.not_true, Bool.not_false, Bool.and_self]; rfl
    repeat apply go_seq
    apply go_ret
    apply ret_intro rfl rfl
    case run => simp (disch := decide) only [resultsM, resultsA, resIn, opsLoop, evOper, wantedA, nth, aop, aPick, aBin, aIndexAddr, aFieldAddr, aLoad, aStore, aExtract, aConvert, aAlloc, aBox, aIndex, callA, builtinA, Fr.evs, opt, val, when, AM.run, outV, newA, ptr, force_eq, seen_heap, seen_next, seen_mark, seen_seen, agg_cells, int_cells, Fr.ev, Fr.put, onFr, gps, gpn, bltT, still, flat, List.append_nil, List.nil_append, List.cons_append, Nat.reduceEqDiff, ne_eq, not_false_eq_true, reduceCtorEq, Bool.and_true, Bool.true_and, Bool.and_false, Bool.false_and, Bool.not_true, Bool.not_false, Bool.and_self]; rfl
    exact ⟨rfl, hr3.less hrr⟩
  · cases h
end Go.Proofs.YtdkieabjjmhdlaaDoor.lf
end
end

section
/- Chapter 5's runs, evaluated over the named memory. -/
namespace Go.Proofs.YtdkieabjjmhdlaaDoor

theorem leafRuns_lawful : AE.lawful Tryd.prog = true := by kernel_rfl
set_option maxRecDepth 100000 in
set_option maxHeartbeats 100000000 in
theorem leafRuns_run : AE.isTrue (AE.evF (AE.Env.of Tryd.prog) sum.sums 100000 (.next (.enter 14 [])) AE.s0) = true := by kernel_rfl
theorem leafRuns_any (w0 : World) : Calls Tryd.prog 14 #[] w0 fun e w' => e = .returned (.bool true) ∧ Go.RowKit.Below w0.heap.size w0 w' :=
  AE.callsF_true leafRuns_lawful (Checked.mixed Tryd.checked) sum.sums_ok leafRuns_run w0
end Go.Proofs.YtdkieabjjmhdlaaDoor
end

section
/- Leaves: the law's own and the document's answers: what is told, without names that are taken and let go. -/
noncomputable section
namespace Go.Proofs.YtdkieabjjmhdlaaDoor.lf
open AE
set_option linter.unusedSimpArgs false
set_option linter.unusedVariables false
set_option maxRecDepth 10000

def gotL (l : List UInt8) : LeafD := if l.length = 128 then getL l else zeroL
def gotOK (l : List UInt8) : Bool := if l.length = 128 then getOK l else false
def gotV (l : List UInt8) : Value := .tuple ⟨[.agg ⟨(gotL l).cells⟩, .bool (gotOK l)]⟩
theorem gotL_len (l : List UInt8) : (gotL l).load.length = 116 := by
  unfold gotL
  split
  · rename_i h
    unfold getL
    split
    · show (l.take 116).length = 116; rw [List.length_take]; omega
    · exact zero_len
  · exact zero_len
def getNA : List Value → AM Value
  | [.slice (some ad) n cap] => when (Nat.ble n 200) (rdA (some ad) n fun l => .pure (gotV l))
  | _ => .fail
/-- a run of the elder telling, in memory of its own -/
theorem getA_own (l : List UInt8) (cap : Nat) (e : TypeId) (hl : l.length ≤ 200) : ∃ sE, (getA [.slice (some ⟨0, 0, none⟩) l.length cap]).run (sRow (l.map bv) l.length e) = some (gotV l, sE) := by
  have hb : Bs (sRow (l.map bv) l.length e) ⟨0, 0, none⟩ l := by
    refine ⟨rfl, Nat.zero_lt_one, Tr.ofList (l.map bv), l.length, .inr ⟨e, rfl⟩, by show 0 + l.length ≤ _; omega, row_ofList _ (by rw [List.length_map]; unfold Tr.wide; omega)⟩
  unfold gotV gotL gotOK
  by_cases h : l.length = 128
  · have hpn : putN (sayL l) ≤ 11 := by unfold putN; split <;> omega
    have hname : ∀ i, i < 3 + putN (sayL l) → Nat.ble ((sRow (l.map bv) l.length e).next + i) lastName = true := by
      intro i hi
      refine ble_iff.2 ?_
      show 1 + i ≤ lastName
      unfold lastName
      omega
    obtain ⟨s1, e1, _, _⟩ := getA_run (cap := cap) hb h hname
    rw [if_pos h, if_pos h]
    rw [h] at e1 ⊢
    exact ⟨s1, e1⟩
  · rw [if_neg h, if_neg h]
    obtain ⟨s1, e1, e2, e3, e4⟩ := bump_ok 2 (AM.pure (Value.tuple ⟨[.agg ⟨zeroL.cells⟩, .bool false]⟩)) (sRow (l.map bv) l.length e) (fun i hi => ble_iff.2 (by show 1 + i ≤ lastName; unfold lastName; omega))
    refine ⟨s1, ?_⟩
    have hk : Nat.beq l.length 128 = false := by
      cases hh : Nat.beq l.length 128 with
      | false => rfl
      | true => exact absurd (beq_iff.1 hh) h
    show (match Nat.beq l.length 128 with
      | false => bump 2 (AM.pure (Value.tuple ⟨[.agg ⟨zeroL.cells⟩, .bool false]⟩))
      | true => loadA ⟨0, 0, none⟩ 128 fun cs => opt (bytesV cs) fun l => bump (3 + putN (sayL l)) (AM.pure (Value.tuple ⟨[.agg ⟨(getL l).cells⟩, .bool (getOK l)]⟩))).run _ = _
    rw [hk]
    exact e1
theorem plain_got (l : List UInt8) : Plain (gotV l) := plain_leafB _ _
theorem told_getN : AE.Told Tryd.prog 7 getNA := by
  refine told_nobump told_get ?_
  intro args s v s' h
  unfold getNA at h
  split at h
  · rename_i ad n cap
    obtain ⟨hc, h1⟩ := run_when h
    have hn := ble_iff.1 hc
    obtain ⟨l, s1, hl, hb, hr1, h2⟩ := bx_of_rd h1
    cases h2
    subst hl
    have hb : Bs s ad l := hb
    refine ⟨plain_got l, ⟨by rw [hr1.next]; exact Nat.le_refl _, fun m o ho => ⟨o, by rw [hr1.heap] at ho; exact ho, .refl o⟩⟩, ?_⟩
    intro q ρ w args' hRep hargs
    cases hargs with
    | cons ha hnil =>
      cases hnil
      obtain ⟨b, base, ex, hρ, hanew⟩ := slice_anew ha hb.spot
      have hC : Cl s ad.block ad.off (l.map bv) := by
        obtain ⟨c, m, x1, x2, x3⟩ := hb.cell
        exact ⟨hb.lt, c, m, x1, by rw [List.length_map]; exact x2, x3⟩
      obtain ⟨e, hin⟩ := inrow_of hRep hC hρ (bytes_plain l) (by rw [List.length_map]; unfold Tr.wide; omega)
      have hS : inS [⟨b, base + ad.off, ex, l.map bv, e⟩] = sRow (l.map bv) l.length e := by rw [sRow_in, List.length_map]
      obtain ⟨sE, hE2⟩ := getA_own l cap e hn
      rw [← hS] at hE2
      exact ⟨[.slice (some ⟨0, 0, none⟩) l.length cap], inS [⟨b, base + ad.off, ex, l.map bv, e⟩], sE, renOf [⟨b, base + ad.off, ex, l.map bv, e⟩], inputs_of _ (by simp) (fun x hx => by simp at hx; subst hx; exact hin), .cons (hanew _ 0 (l.map bv) e rfl) .nil, hE2, Nat.zero_le _⟩
  · cases h
def capOK (a : Option Addr) (n cap : Nat) : Bool := (!Nat.beq n 128 || Nat.beq cap (OPEN + 128)) && nilOK a cap
def getRN : List Value → AM Value
  | [.slice a n cap] => when (capOK a n cap) (rdA a n fun l => .pure (gotV l))
  | _ => .fail
theorem told_getRN : AE.Told Tryd.prog 8 getRN := by
  refine AE.Told.mono told_getR ?_
  intro args s v s' h
  unfold getRN at h
  split at h
  · rename_i a n cap
    obtain ⟨hc, h1⟩ := run_when h
    obtain ⟨l, s1, hl, hb, hr1, h2⟩ := bx_of_rd h1
    subst hl
    have hk : ∀ (k1 k2 : List UInt8 → AM Value), (k1 l = k2 l) → (rdA a l.length k1).run s = (rdA a l.length k2).run s := by
      intro k1 k2 he
      cases a with
      | none => obtain rfl : l = [] := hb; exact congrArg (fun k => AM.run k s) he
      | some ad =>
        have hb : Bs s ad l := hb
        show (loadA ad l.length fun cs => opt (bytesV cs) k1).run s = (loadA ad l.length fun cs => opt (bytesV cs) k2).run s
        rw [loadA_run hb, loadA_run hb, bytesV_map]
        exact congrArg (fun k => AM.run k (s.seen ad.block)) he
    rw [← h1]
    show (rdA a l.length fun l' => match Nat.beq l.length 128 with
      | true => when (Nat.beq cap (OPEN + 128)) (AM.pure (Value.tuple ⟨[.agg ⟨(getL l').cells⟩, .bool (getOK l')]⟩))
      | false => when (nilOK a cap) (AM.pure noLeaf)).run s = _
    refine hk _ _ ?_
    unfold capOK at hc
    rw [Bool.and_eq_true] at hc
    obtain ⟨hc1, hc2⟩ := hc
    unfold gotV gotL gotOK
    by_cases hn : l.length = 128
    · rw [if_pos hn, if_pos hn]
      rw [hn] at hc1 ⊢
      have hc3 : Nat.beq cap (OPEN + 128) = true := hc1
      show when (Nat.beq cap (OPEN + 128)) (AM.pure (Value.tuple ⟨[.agg ⟨(getL l).cells⟩, .bool (getOK l)]⟩)) = _
      rw [hc3]
      rfl
    · rw [if_neg hn, if_neg hn]
      have hb2 : Nat.beq l.length 128 = false := by
        cases hh : Nat.beq l.length 128 with
        | false => rfl
        | true => exact absurd (beq_iff.1 hh) hn
      rw [hb2, hc2]
      rfl
  · cases h
def rightGN : List Value → AM Value
  | [.agg ⟨cs⟩] => opt (leafOf cs) fun d => .pure (.bool (rightL d))
  | _ => .fail
theorem told_rightN {f : FuncId} {am : List Value → AM Value} (ht : AE.Told Tryd.prog f am) (hrun : ∀ d : LeafD, d.load.length = 116 → ∃ sE, (am [.agg ⟨d.cells⟩]).run (inS []) = some (.bool (rightL d), sE)) : AE.Told Tryd.prog f rightGN := by
  refine told_nobump ht ?_
  intro args s v s' h
  unfold rightGN at h
  split at h
  · rename_i cs
    obtain ⟨d, hd, h2⟩ := run_opt h
    obtain ⟨rfl, hlen⟩ := leafOf_inv hd
    cases h2
    refine ⟨plain_bool _, Less'.refl _, fun q ρ w args' hR ha => ?_⟩
    obtain ⟨rfl, hany⟩ := leaf_same ha
    obtain ⟨sE, hE2⟩ := hrun d hlen
    exact ⟨[.agg ⟨d.cells⟩], inS [], sE, renOf [], inputs_of [] (Nat.zero_le _) (fun x hx => by cases hx), hany _, hE2, Nat.zero_le _⟩
  · cases h
theorem told_rightN1 : AE.Told Tryd.prog 9 rightGN := told_rightN told_right fun d hd => by
  unfold rightA
  dsimp only
  rw [leafOf_cells d hd]
  exact ⟨_, rfl⟩
theorem told_rightN2 : AE.Told Tryd.prog 10 rightGN := told_rightN told_rightR fun d hd => by
  unfold rightRA
  dsimp only
  rw [leafOf_cells d hd]
  exact ⟨_, rfl⟩
theorem told_runsT : AE.Told Tryd.prog 14 (constA (.bool true)) := told_of_calls rfl leafRuns_any
abbrev sigTe : List (Nat × (List Value → AM Value)) := [(5, withinBA), (4, putA), (7, getNA), (9, rightGN), (10, rightGN), (12, putRA),
  (8, getRN), (6, roomyA), (13, intactA), (11, sameA), (14, constA (.bool true))]
theorem tolds_Te : Tolds Tryd.prog (sumsOf sigTe) := tolds_cons told_withinB (tolds_cons told_put (tolds_cons told_getN (tolds_cons told_rightN1 (tolds_cons told_rightN2 (tolds_cons told_putR (tolds_cons told_getRN (tolds_cons told_roomy (tolds_cons told_intact (tolds_cons told_same (tolds_cons told_runsT tolds_nil))))))))))
theorem teWB : sumsOf sigTe 5 = some withinBA := rfl
theorem teP : sumsOf sigTe 4 = some putA := rfl
theorem teG : sumsOf sigTe 7 = some getNA := rfl
theorem teR : sumsOf sigTe 9 = some rightGN := rfl
theorem teR2 : sumsOf sigTe 10 = some rightGN := rfl
theorem teP2 : sumsOf sigTe 12 = some putRA := rfl
theorem teG2 : sumsOf sigTe 8 = some getRN := rfl
theorem teRm : sumsOf sigTe 6 = some roomyA := rfl
theorem teIn : sumsOf sigTe 13 = some intactA := rfl
theorem teS : sumsOf sigTe 11 = some sameA := rfl
theorem teX : sumsOf sigTe 14 = some (constA (.bool true)) := rfl
end Go.Proofs.YtdkieabjjmhdlaaDoor.lf
end
end

section
/- Leaves: any leaf, any bytes: the law's end. -/
noncomputable section
namespace Go.Proofs.YtdkieabjjmhdlaaDoor.lf
open AE
set_option linter.unusedSimpArgs false
set_option linter.unusedVariables false
set_option maxRecDepth 10000

noncomputable def fiTe : FI := FI.of Tryd.f3
noncomputable def cdTe : Code := bodyOf Tryd.f3
noncomputable def cdTe6 : Code := sub [1,1,1,1] cdTe
noncomputable def cdTe9 : Code := sub [1,1,1,1,1,1,1] cdTe
theorem resTe : fiTe.results = [.tmp 8] := rfl
abbrev Yes (v : Value) (s : S) : Prop := v = Value.bool true
theorem eqVB (b c : Bool) : eqV E 1000 4 (.bool b) (.bool c) = some (b == c) := by
  have : E.ty.get 4 = some (TI.of Tryd.prog 4) := by kernel_rfl
  have hd : (TI.of Tryd.prog 4).desc = .bool := by kernel_rfl
  show eqV E (999 + 1) _ _ _ = _
  simp only [eqV, this, hd]
  cases b <;> cases c <;> rfl
theorem eqB_tt (b c : Bool) : binA E .eql 4 (.bool b) (.bool c) = some (.bool (b == c)) := by
  show someB (eqV E 1000 4 (.bool b) (.bool c)) true = _
  rw [eqVB]
  rfl
theorem beq_self (b : Bool) : (b == b) = true := by cases b <;> rfl
theorem LfAt.keep {s s1 : S} {n : Nat} {d : LeafD} (h : LfAt s n d) (hn : s.next ≤ s1.next) (hg : s1.heap.get n = s.heap.get n) : LfAt s1 n d := ⟨by have := h.lt; omega, by rw [hg]; exact h.cell, h.len⟩
/-- a new variable of leaves -/
theorem newVar (s : S) (hN : Nat.ble s.next lastName = true) {d : LeafD} (hd : d.load.length = 116) :
    ∃ c e rm, (storeA ⟨s.next, 0, none⟩ d.cells (AM.pure (ANext.value undefV))).run ⟨s.heap.put s.next (some (.cells (Tr.ofList zeroL.cells) zeroL.cells.length 24 .whole)), Nat.succ s.next, s.mark, s.rd, s.wr⟩ =
      some (.value undefV, ⟨(s.heap.put s.next (some (.cells (Tr.ofList zeroL.cells) zeroL.cells.length 24 .whole))).put s.next (some (.cells c 121 e rm)), Nat.succ s.next, s.mark, bit s.mark s.next s.rd, bit s.mark s.next s.wr⟩) ∧ Row c 0 d.cells := by
  have L : LfAt ⟨s.heap.put s.next (some (.cells (Tr.ofList zeroL.cells) zeroL.cells.length 24 .whole)), Nat.succ s.next, s.mark, s.rd, s.wr⟩ s.next zeroL :=
    ⟨Nat.lt_succ_self _, ⟨_, _, _, by rw [zeroL.len zero_len]; exact hg_same hN _ _, row_ofList _ (by rw [zeroL.len zero_len]; unfold Tr.wide; omega)⟩, zero_len⟩
  exact L.store hN hd
theorem var_far {s : S} {c : Tr Value} {e : TypeId} {rm : Room} {o : AObj} (hN : Nat.ble s.next lastName = true) (m : Nat) (hm : m ≠ s.next) : ((s.heap.put s.next (some o)).put s.next (some (.cells c 121 e rm))).get m = s.heap.get m := by
  rw [hg_far hN hm, hg_far hN hm]
theorem tgP2 : ∀ a b, targetA E (.func 12) a b = .pure (.enter 12 (b ++ a)) := tgt (fi := fiPR) (c := cdPR) (by kernel_rfl) (by kernel_rfl)
theorem tgG2 : ∀ a b, targetA E (.func 8) a b = .pure (.enter 8 (b ++ a)) := tgt (fi := fiGR) (c := cdGR) (by kernel_rfl) (by kernel_rfl)
theorem tgR2 : ∀ a b, targetA E (.func 10) a b = .pure (.enter 10 (b ++ a)) := tgt (fi := fiRR) (c := cdRR) (by kernel_rfl) (by kernel_rfl)
theorem tgRm : ∀ a b, targetA E (.func 6) a b = .pure (.enter 6 (b ++ a)) := tgt (fi := fiRm) (c := cdRm) (by kernel_rfl) (by kernel_rfl)
theorem tgIn : ∀ a b, targetA E (.func 13) a b = .pure (.enter 13 (b ++ a)) := tgt (fi := fiIn) (c := cdIn) (by kernel_rfl) (by kernel_rfl)
noncomputable def fiXr : FI := FI.of Tryd.f14
noncomputable def cdXr : Code := bodyOf Tryd.f14
theorem tgXr : ∀ a b, targetA E (.func 14) a b = .pure (.enter 14 (b ++ a)) := tgt (fi := fiXr) (c := cdXr) (by kernel_rfl) (by kernel_rfl)

/-- the block that Put gives, or none -/
def putB (d : LeafD) : List UInt8 := if rightL d = true then putL d else []
theorem Bx.keep {s s1 : S} {a : Option Addr} {l : List UInt8} (h : Bx s a l) (hn : s.next ≤ s1.next) (hg : ∀ m, m < s.next → s1.heap.get m = s.heap.get m) : Bx s1 a l := h.far hn hg
/-! what the told calls do -/
theorem roomy_run {s : S} {a : Option Addr} {l : List UInt8} {c : Nat} (hb : Bx s a l) (hl : l.length ≤ 200) (hN : Nat.ble s.next lastName = true) :
    ∃ s1, (roomyA [.slice a l.length c, .int .u8 (.ofNat 7)]).run s = some (.slice (some ⟨s.next, 0, none⟩) (l.length + 80) (l.length + 80), s1) ∧ s1.next = s.next + 1 ∧ s1.heap = s.heap.put s.next (some (.cells (Tr.ofList ((room l 7 80).map bv)) (room l 7 80).length 5 .whole)) := by
  obtain ⟨s1, e1, r1, _⟩ := rdA_run hb (fun l' => newB (room l' (UInt8.ofNat 7) 80) fun r => .pure (.slice (some ⟨r, 0, none⟩) (l.length + 80) (l.length + 80)))
  refine ⟨⟨s1.heap.put s.next (some (.cells (Tr.ofList ((room l 7 80).map bv)) (room l 7 80).length 5 .whole)), Nat.succ s.next, s1.mark, s1.rd, s1.wr⟩, ?_, rfl, by show s1.heap.put s.next _ = _; rw [r1.heap]⟩
  unfold roomyA
  dsimp only
  rw [ble_iff.2 hl, show Nat.blt 7 256 = true from rfl]
  refine e1.trans ?_
  show (AM.new _ _).run s1 = _
  simp only [AM.run, force_eq, r1.next, hN]
  rfl
theorem getN_run {s : S} {ad : Addr} {l : List UInt8} {c : Nat} (hb : Bs s ad l) (hl : l.length ≤ 200) :
    ∃ s1, (getNA [.slice (some ad) l.length c]).run s = some (.tuple ⟨[.agg ⟨(gotL l).cells⟩, .bool (gotOK l)]⟩, s1) ∧ Rd s s1 := by
  obtain ⟨s1, e1, r1, _⟩ := rdA_run (a := some ad) hb (fun l => .pure (gotV l))
  refine ⟨s1, ?_, r1⟩
  unfold getNA
  dsimp only
  rw [ble_iff.2 hl]
  exact e1
theorem getRN_run {s : S} {a : Option Addr} {l : List UInt8} {c : Nat} (hb : Bx s a l) (hc : capOK a l.length c = true) :
    ∃ s1, (getRN [.slice a l.length c]).run s = some (.tuple ⟨[.agg ⟨(gotL l).cells⟩, .bool (gotOK l)]⟩, s1) ∧ Rd s s1 := by
  obtain ⟨s1, e1, r1, _⟩ := rdA_run hb (fun l => .pure (gotV l))
  refine ⟨s1, ?_, r1⟩
  unfold getRN
  dsimp only
  rw [hc]
  exact e1
theorem rightN_run (d : LeafD) (hlen : d.load.length = 116) (s : S) : (rightGN [.agg ⟨d.cells⟩]).run s = some (.bool (rightL d), s) := by
  unfold rightGN
  dsimp only
  rw [leafOf_cells d hlen]
  rfl
theorem intact_run {s : S} {ad : Addr} {a : Option Addr} {l : List UInt8} {c : Nat} (hb : Bs s ad (room l 7 80)) (hb2 : Bx s a l) (hl : l.length ≤ 200) (hm : s.mark ≤ s.next) :
    ∃ s1, (intactA [.slice (some ad) (l.length + 80) (l.length + 80), .slice a l.length c, .int .u8 (.ofNat 7)]).run s = some (.bool true, s1) ∧ Rd s s1 ∧ s1.wr = s.wr := by
  have hrl := room_len l 7 80 (by omega)
  obtain ⟨s1, e1, r1, w1⟩ := rdA_run (a := some ad) hb (fun L => rdA a l.length fun l' => when (eqBytes L (room l' (UInt8.ofNat 7) 80)) (.pure (.bool true)))
  obtain ⟨s2, e2, r2, w2⟩ := rdA_run (hb2.rd r1) (fun l' => when (eqBytes (room l 7 80) (room l' (UInt8.ofNat 7) 80)) (AM.pure (Value.bool true)))
  refine ⟨s2, ?_, r1.trans r2, (w2 (by rw [r1.mark, r1.next]; exact hm)).trans (w1 hm)⟩
  unfold intactA
  dsimp only
  rw [ble_iff.2 hl, show Nat.blt 7 256 = true from rfl, beq_iff.2 (rfl : l.length + 80 = l.length + 80)]
  rw [hrl] at e1
  refine e1.trans (e2.trans ?_)
  have : eqBytes (room l 7 80) (room l (UInt8.ofNat 7) 80) = true := by rw [eqBytes_iff]; exact decide_eq_true rfl
  rw [this]
  rfl
theorem same_runW {s : S} {a a2 : Option Addr} {l : List UInt8} {n c c2 : Nat} (hb : Bx s a l) (hb2 : Bx s a2 l) (hl : l.length = n) (hn : n ≤ 1000000) (hm : s.mark ≤ s.next) : ∃ s1, (sameA [.slice a n c, .slice a2 n c2]).run s = some (.bool true, s1) ∧ Rd s s1 ∧ s1.wr = s.wr := by
  subst hl
  obtain ⟨s1, e1, r1, w1⟩ := rdA_run hb (fun l' => rdA a2 l.length fun l2 => .pure (.bool (eqBytes l' l2)))
  obtain ⟨s2, e2, r2, w2⟩ := rdA_run (hb2.rd r1) (fun l2 => AM.pure (Value.bool (eqBytes l l2)))
  refine ⟨s2, ?_, r1.trans r2, (w2 (by rw [r1.mark, r1.next]; exact hm)).trans (w1 hm)⟩
  unfold sameA
  dsimp only
  rw [ble_iff.2 hn, beq_iff.2 rfl]
  have : eqBytes l l = true := by rw [eqBytes_iff]; exact decide_eq_true rfl
  rw [this] at e2
  exact e1.trans e2
/-- what the document's PutLeaf does: the state behind it -/
theorem putR_run (d : LeafD) (hlen : d.load.length = 116) {H : Tr AObj} {N : Nat} (hN : Nat.ble N lastName = true) :
    ∃ (a2 : Option Addr) (c2 : Nat) (H' : Tr AObj) (N' : Nat), (putRA [.agg ⟨d.cells⟩]).run ⟨H, N, N, 0, 0⟩ = some (.slice a2 (putB d).length c2, ⟨H', N', N, 0, 0⟩) ∧ N ≤ N' ∧ (∀ m, m < N → H'.get m = H.get m) ∧ ∀ mk rd wr, Bx ⟨H', N', mk, rd, wr⟩ a2 (putB d) := by
  unfold putRA
  dsimp only
  rw [leafOf_cells d hlen]
  unfold putB
  cases hR : rightL d with
  | true =>
    have hpl := putL_len d hlen
    refine ⟨some ⟨N, 0, none⟩, OPEN + 128, H.put N (some (.cells (Tr.ofList ((putL d).map bv)) 128 5 .loose)), Nat.succ N, ?_, Nat.le_succ _, fun m hm => hg_far hN (by omega) _ _, fun mk rd wr => ?_⟩
    · rw [if_pos rfl, hpl]
      show (match rightL d with
        | true => AM.new (.cells (Tr.ofList ((putL d).map bv)) 128 5 .loose) fun r => AM.pure (Value.slice (some ⟨r, 0, none⟩) 128 (OPEN + 128))
        | false => AM.pure (Value.slice none 0 0)).run _ = _
      rw [hR]
      simp only [AM.run, force_eq, hN]
    · rw [if_pos rfl]
      exact bs_new (Nat.lt_succ_self _) (by rw [hpl]; exact hg_same hN _ _) (by omega)
  | false =>
    refine ⟨none, 0, H, N, ?_, Nat.le_refl _, fun m hm => rfl, fun mk rd wr => ?_⟩
    · show (match rightL d with
        | true => AM.new (.cells (Tr.ofList ((putL d).map bv)) 128 5 .loose) fun r => AM.pure (Value.slice (some ⟨r, 0, none⟩) 128 (OPEN + 128))
        | false => AM.pure (Value.slice none 0 0)).run _ = _
      rw [hR]
      rfl
    · rfl
end Go.Proofs.YtdkieabjjmhdlaaDoor.lf
end
end

section
/- Leaves: any leaf, any bytes: the law's last question. -/
noncomputable section
namespace Go.Proofs.YtdkieabjjmhdlaaDoor.lf
open AE
set_option linter.unusedSimpArgs false
set_option linter.unusedVariables false
set_option maxRecDepth 10000

theorem rd_state {s s1 : S} (h : Rd s s1) : s1 = ⟨s.heap, s.next, s.mark, s1.rd, s1.wr⟩ := by
  cases s1
  obtain ⟨a, b, c⟩ := h
  simp only at a b c
  rw [a, b, c]
set_option maxHeartbeats 4000000 in
theorem te_last (d : LeafD) (hlen : d.load.length = 116) (l : List UInt8) (hl : l.length ≤ 140) (s : S) (t : Tr Value) (nl nF k12 k14 c pc : Nat) (a pa : Option Addr)
    (A : LfAt s nl d) (hO : Bx s a l) (P : Bx s pa (putB d)) (F : Bs s ⟨nF, 0, none⟩ (room l 7 80)) (Y12 : LfAt s k12 (gotL l)) (Y14 : LfAt s k14 (gotL l)) (hN : Nat.ble s.next lastName = true)
    (h4 : t.get 4 = some (.pointer (some ⟨nl, 0, none⟩))) (h9 : t.get 9 = some (.slice pa (putB d).length pc)) (h10 : t.get 10 = some (.slice a l.length c))
    (h11 : t.get 11 = some (.slice (some ⟨nF, 0, none⟩) (l.length + 80) (l.length + 80))) (h12 : t.get 12 = some (.pointer (some ⟨k12, 0, none⟩))) (h13 : t.get 13 = some (.bool (gotOK l)))
    (h14 : t.get 14 = some (.pointer (some ⟨k14, 0, none⟩))) (h15 : t.get 15 = some (.bool (gotOK l))) :
    GoC E (sumsOf sigTe) cdTe9 ⟨3, t, 86, [], none⟩ s (Ret E 3 fiTe Yes) := by
  simp only [cdTe9, cdTe, Tryd.f3, bodyOf, sub]
  have A0 : LfAt ⟨s.heap, s.next, s.next, 0, 0⟩ nl d := ⟨A.lt, A.cell, A.len⟩
  have la := A0.load
  have rr := rightN_run d hlen
  obtain ⟨a2, c2, H', N', pr, hNN, hH, hB⟩ := putR_run (H := s.heap) d hlen hN
  have far : ∀ {mk rd wr : Nat}, s.next ≤ (S.mk H' N' mk rd wr).next ∧ ∀ m, m < s.next → (S.mk H' N' mk rd wr).heap.get m = s.heap.get m := ⟨hNN, hH⟩
  have P' : Bx ⟨H', N', N', 0, 0⟩ pa (putB d) := P.keep hNN hH
  have O' : Bx ⟨H', N', N', 0, 0⟩ a l := hO.keep hNN hH
  have F' : Bs ⟨H', N', N', 0, 0⟩ ⟨nF, 0, none⟩ (room l 7 80) := Bx.keep (a := some ⟨nF, 0, none⟩) F hNN hH
  have Y12' : LfAt ⟨H', N', N', 0, 0⟩ k12 (gotL l) := Y12.keep hNN (hH _ Y12.lt)
  have Y14' : LfAt ⟨H', N', N', 0, 0⟩ k14 (gotL l) := Y14.keep hNN (hH _ Y14.lt)
  have hpb : (putB d).length ≤ 1000000 := by
    unfold putB
    split
    · rw [putL_len d hlen]; omega
    · exact Nat.zero_le _
  obtain ⟨s9, sm, r9, w9⟩ := same_runW (c := pc) (c2 := c2) P' (hB N' 0 0) rfl hpb (Nat.le_refl _)
  rw [rd_state r9, w9] at sm
  generalize s9.rd = rd9 at sm
  have l12 := Y12'.load
  have l14 := Y14'.load
  have hge := eqlLf (gotL l) (gotL l) (gotL_len l) (gotL_len l)
  rw [decide_eq_true rfl] at hge
  obtain ⟨s24, im, r24, w24⟩ := intact_run (c := c) F' O' (by omega) (Nat.le_refl _)
  rw [rd_state r24, w24] at im
  generalize s24.rd = rd24 at im
  have hx1 : ∀ s, (constA (.bool true) []).run s = some (.bool true, s) := fun s => rfl
  have i7 : (7 : Int) = Int.ofNat 7 := rfl
  simp only [S.seen] at la l12 l14
  repeat apply go_seq
  apply go_drawn
  case hs => rfl
  case h => intro m; simp (maxSteps := 2000000) (disch := decide) only [opsLoop, evOper, wantedA, nth, aop, aPick, aBin, aIndexAddr, aFieldAddr, aLoad, aStore, aExtract, aConvert, aAlloc, aBox, aIndex, callA, Fr.evs, opt, val, when, AM.run, outV, newA, ptr, force_eq, seen_heap, seen_next, seen_mark, seen_seen, agg_cells, int_cells, Fr.ev, Fr.put, onFr, gps, gpn, bltT, still, flat, List.append_nil, List.nil_append, List.cons_append, Nat.reduceEqDiff, ne_eq, not_false_eq_true, reduceCtorEq, Bool.and_true, Bool.true_and, Bool.and_false, Bool.false_and, Bool.not_true, Bool.not_false, Bool.and_self, drawnLoop, keep_none, clash_nil, clash_reads, created_self, lor_zero, lor_zero', h4, h9, h10, h11, h12, h13, h14, h15, i7, tyLf, la, tgR, evT_told teR, tgR2, evT_told teR2, rr, eqB_tt, beq_self, tgP2, evT_told teP2, pr, tgSmI, evT_told teS, sm, l12, l14, hge, tgIn, evT_told teIn, im, tgXr, evT_told teX, hx1, clash_bef]; rfl
  repeat apply go_seq
  apply go_ret
  apply ret_intro rfl rfl
  case run => simp (disch := decide) only [resultsM, resultsA, resTe, opsLoop, evOper, wantedA, nth, aop, aPick, aBin, aIndexAddr, aFieldAddr, aLoad, aStore, aExtract, aConvert, aAlloc, aBox, aIndex, callA, builtinA, Fr.evs, opt, val, when, AM.run, outV, newA, ptr, force_eq, seen_heap, seen_next, seen_mark, seen_seen, agg_cells, int_cells, Fr.ev, Fr.put, onFr, gps, gpn, bltT, still, flat, List.append_nil, List.nil_append, List.cons_append, Nat.reduceEqDiff, ne_eq, not_false_eq_true, reduceCtorEq, Bool.and_true, Bool.true_and, Bool.and_false, Bool.false_and, Bool.not_true, Bool.not_false, Bool.and_self]; rfl
  rfl
end Go.Proofs.YtdkieabjjmhdlaaDoor.lf
end
end

section
/- Leaves: any leaf, any bytes: the law's middle. -/
noncomputable section
namespace Go.Proofs.YtdkieabjjmhdlaaDoor.lf
open AE
set_option linter.unusedSimpArgs false
set_option linter.unusedVariables false
set_option maxRecDepth 10000

set_option maxHeartbeats 4000000 in
theorem te_tail (d : LeafD) (hlen : d.load.length = 116) (l : List UInt8) (hl : l.length ≤ 140) (s : S) (t : Tr Value) (nl c pc : Nat) (a pa : Option Addr) (hcap : capOK a l.length c = true)
    (A : LfAt s nl d) (hO : Bx s a l) (P : Bx s pa (putB d)) (hN : ∀ i, i < 20 → Nat.ble (s.next + i) lastName = true)
    (h4 : t.get 4 = some (.pointer (some ⟨nl, 0, none⟩))) (h9 : t.get 9 = some (.slice pa (putB d).length pc)) (h10 : t.get 10 = some (.slice a l.length c)) :
    GoC E (sumsOf sigTe) cdTe6 ⟨3, t, 86, [], none⟩ s (Ret E 3 fiTe Yes) := by
  have hcode : cdTe6 = .seq (sub [0] cdTe6) (.seq (sub [1,0] cdTe6) (.seq (sub [1,1,0] cdTe6) cdTe9)) := rfl
  rw [hcode]
  generalize hrest : cdTe9 = rest
  simp only [cdTe6, cdTe, Tryd.f3, bodyOf, sub]
  have hN0 := hN 0 (by omega)
  rw [Nat.add_zero] at hN0
  have i7 : (7 : Int) = Int.ofNat 7 := rfl
  obtain ⟨s1, rm, q1, q1h⟩ := roomy_run (c := c) hO (by omega) hN0
  have far1 : ∀ m, m < s.next → s1.heap.get m = s.heap.get m := fun m hm => by rw [q1h]; exact hg_far hN0 (by omega) _ _
  have A1 : LfAt s1 nl d := A.keep (by omega) (far1 _ A.lt)
  have O1 : Bx s1 a l := hO.keep (by omega) far1
  have P1 : Bx s1 pa (putB d) := P.keep (by omega) far1
  have F1 : Bs s1 ⟨s.next, 0, none⟩ (room l 7 80) := bs_new (by omega) (by rw [q1h]; exact hg_same hN0 _ _) (by rw [room_len _ _ _ (by omega)]; omega)
  repeat apply go_seq
  apply go_region
  case h => intro m; simp (maxSteps := 2000000) (disch := decide) only [opsLoop, evOper, wantedA, nth, aop, aPick, aBin, aIndexAddr, aFieldAddr, aLoad, aStore, aExtract, aConvert, aAlloc, aBox, aIndex, callA, builtinA, Fr.evs, opt, val, when, AM.run, outV, newA, ptr, force_eq, seen_heap, seen_next, seen_mark, seen_seen, agg_cells, int_cells, Fr.ev, Fr.put, onFr, gps, gpn, bltT, still, flat, List.append_nil, List.nil_append, List.cons_append, Nat.reduceEqDiff, ne_eq, not_false_eq_true, reduceCtorEq, Bool.and_true, Bool.true_and, Bool.and_false, Bool.false_and, Bool.not_true, Bool.not_false, Bool.and_self, h10, tgRm, evT_told teRm, i7, rm]; rfl
  -- a leaf of the roomy list
  have FT : Bs s1 ⟨s.next, 0, none⟩ l := by
    have := F1.take l.length
    rwa [room_take] at this
  obtain ⟨s2, gn, r2⟩ := getN_run (c := l.length + 80) FT (by omega)
  have hopen : Nat.ble OPEN (l.length + 80) = false := ble_f (by unfold OPEN; omega)
  have hble : Nat.ble l.length (l.length + 80) = true := ble_iff.2 (by omega)
  have hb0 : Nat.ble 0 l.length = true := ble_iff.2 (by omega)
  have hif : addIf ⟨s.next, 0, none⟩ (l.length + 80) 0 1 = ⟨s.next, 0, none⟩ := by
    unfold addIf
    have : Nat.beq (l.length + 80) 0 = false := by
      cases hh : Nat.beq (l.length + 80) 0 with
      | false => rfl
      | true => have := beq_iff.1 hh; omega
    rw [this]
    rfl
  have hs0 : Nat.sub l.length 0 = l.length := rfl
  have hs1 : Nat.sub (l.length + 80) 0 = l.length + 80 := rfl
  have q2 : s2.next = s.next + 1 := by rw [r2.next, q1]
  have hN2 : Nat.ble s2.next lastName = true := by rw [q2]; exact hN 1 (by omega)
  have hzb : Nat.ble zeroL.cells.length lastName = true := by rw [zeroL.len zero_len]; rfl
  have hgl := gotL_len l
  have hdl : Nat.beq (gotL l).cells.length 121 = true := by rw [(gotL l).len hgl]; rfl
  obtain ⟨cv, ev, rv, st2, row2⟩ := newVar s2 hN2 hgl
  repeat apply go_seq
  apply go_region
  case h => intro m; simp (maxSteps := 2000000) (disch := decide) only [opsLoop, evOper, wantedA, nth, aop, aPick, aBin, aIndexAddr, aFieldAddr, aLoad, aStore, aExtract, aConvert, aAlloc, aBox, aIndex, callA, builtinA, Fr.evs, opt, val, when, AM.run, outV, newA, ptr, force_eq, seen_heap, seen_next, seen_mark, seen_seen, agg_cells, int_cells, Fr.ev, Fr.put, onFr, gps, gpn, bltT, still, flat, List.append_nil, List.nil_append, List.cons_append, Nat.reduceEqDiff, ne_eq, not_false_eq_true, reduceCtorEq, Bool.and_true, Bool.true_and, Bool.and_false, Bool.false_and, Bool.not_true, Bool.not_false, Bool.and_self, h10, tyB, dsB, aSlice, lowHigh, intOf?, sliceA, sliceE, tyU8, szU8, hopen, hble, hb0, hif, hs0, hs1, tgG, evT_told teG, gn, dropL, tyLf, zeLf, szLf, hzb, hN2, hdl, st2]; rfl
  generalize hs3 : S.mk _ _ _ _ _ = s3
  have q3 : s3.next = s.next + 2 := by rw [← hs3]; show s2.next + 1 = _; omega
  have q3h : ∀ m, m ≠ s2.next → s3.heap.get m = s2.heap.get m := fun m hm => by rw [← hs3]; exact var_far hN2 m hm
  have q3c : s3.heap.get s2.next = some (.cells cv 121 ev rv) := by rw [← hs3]; exact hg_same hN2 _ _
  clear hs3
  have far3 : ∀ m, m < s1.next → s3.heap.get m = s1.heap.get m := fun m hm => by rw [q3h m (by rw [q2]; omega), r2.heap]
  have A3 : LfAt s3 nl d := A1.keep (by omega) (far3 _ A1.lt)
  have O3 : Bx s3 a l := O1.keep (by omega) far3
  have P3 : Bx s3 pa (putB d) := P1.keep (by omega) far3
  have F3 : Bs s3 ⟨s.next, 0, none⟩ (room l 7 80) := Bx.keep (a := some ⟨s.next, 0, none⟩) F1 (by omega) far3
  have Y3 : LfAt s3 s2.next (gotL l) := ⟨by omega, ⟨cv, ev, rv, q3c, row2⟩, hgl⟩
  clear st2 q3h q3c gn rm
  -- the document's leaf
  obtain ⟨s4, gr, r4⟩ := getRN_run (c := c) O3 hcap
  have q4 : s4.next = s.next + 2 := by rw [r4.next, q3]
  have hN4 : Nat.ble s4.next lastName = true := by rw [q4]; exact hN 2 (by omega)
  obtain ⟨cw, ew, rw', st4, row4⟩ := newVar s4 hN4 hgl
  repeat apply go_seq
  apply go_region
  case h => intro m; simp (maxSteps := 2000000) (disch := decide) only [opsLoop, evOper, wantedA, nth, aop, aPick, aBin, aIndexAddr, aFieldAddr, aLoad, aStore, aExtract, aConvert, aAlloc, aBox, aIndex, callA, builtinA, Fr.evs, opt, val, when, AM.run, outV, newA, ptr, force_eq, seen_heap, seen_next, seen_mark, seen_seen, agg_cells, int_cells, Fr.ev, Fr.put, onFr, gps, gpn, bltT, still, flat, List.append_nil, List.nil_append, List.cons_append, Nat.reduceEqDiff, ne_eq, not_false_eq_true, reduceCtorEq, Bool.and_true, Bool.true_and, Bool.and_false, Bool.false_and, Bool.not_true, Bool.not_false, Bool.and_self, h10, tgG2, evT_told teG2, gr, dropL, tyLf, zeLf, szLf, hzb, hN4, hdl, st4]; rfl
  generalize hs5 : S.mk _ _ _ _ _ = s5
  have q5 : s5.next = s.next + 3 := by rw [← hs5]; show s4.next + 1 = _; omega
  have q5h : ∀ m, m ≠ s4.next → s5.heap.get m = s4.heap.get m := fun m hm => by rw [← hs5]; exact var_far hN4 m hm
  have q5c : s5.heap.get s4.next = some (.cells cw 121 ew rw') := by rw [← hs5]; exact hg_same hN4 _ _
  clear hs5
  have far5 : ∀ m, m < s3.next → s5.heap.get m = s3.heap.get m := fun m hm => by rw [q5h m (by rw [q4]; omega), r4.heap]
  have F5 : Bs s5 ⟨s.next, 0, none⟩ (room l 7 80) := Bx.keep (a := some ⟨s.next, 0, none⟩) F3 (by omega) far5
  have Y5 : LfAt s5 s2.next (gotL l) := Y3.keep (by omega) (far5 _ Y3.lt)
  have Z5 : LfAt s5 s4.next (gotL l) := ⟨by omega, ⟨cw, ew, rw', q5c, row4⟩, hgl⟩
  subst hrest
  refine te_last d hlen l hl s5 _ nl s.next s2.next s4.next c pc a pa (A3.keep (by omega) (far5 _ A3.lt)) (O3.keep (by omega) far5) (P3.keep (by omega) far5) F5 Y5 Z5 (by rw [q5]; exact hN 3 (by omega)) ?_ ?_ ?_ ?_ ?_ ?_ ?_ ?_
  · simp (disch := decide) only [gps, gpn, h4]
  · simp (disch := decide) only [gps, gpn, h9]
  · simp (disch := decide) only [gps, gpn, h10]
  · simp (disch := decide) only [gps, gpn]
  · simp (disch := decide) only [gps, gpn]
  · simp (disch := decide) only [gps, gpn]
  · simp (disch := decide) only [gps, gpn]
  · simp (disch := decide) only [gps, gpn]
end Go.Proofs.YtdkieabjjmhdlaaDoor.lf
end
end
