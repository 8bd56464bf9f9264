/- A sum is split: products of 64 by 64 bits, and a number of 128 bits without its sign, as the code finds them. -/
import Derived.Test.YtldelmmaimbbmaaGreatRows
import Derived.Test.YtldelmmaimbbmaaGreatAe39
noncomputable section
namespace Go.Proofs.YtldelmmaimbbmaaGreat.sp
open AE
set_option linter.unusedSimpArgs false
set_option linter.unusedVariables false
set_option maxRecDepth 10000

noncomputable def E : Env := Env.of Tryz.prog
theorem hP : lawful Tryz.prog = true := by kernel_rfl
theorem hmix : Tryz.prog.follows .mixedOrders = true := Checked.mixed Tryz.checked
theorem hE : EnvOK Tryz.prog E := env_ok hP

def andU (x y : Int) : Int := wrapA .u64 (.ofNat (Nat.land (modN 18446744073709551616 x) (modN 18446744073709551616 y)))
def shrU (x : Int) (n : Nat) : Int := Int.fdiv x (pow2 n)
def mulU (x y : Int) : Int := wrapA .u64 (Int.mul x y)
def addU (x y : Int) : Int := wrapA .u64 (Int.add x y)
def hiE (x y : Int) : Int :=
  let x0 := andU x 4294967295
  let x1 := shrU x 32
  let y0 := andU y 4294967295
  let y1 := shrU y 32
  let w0 := mulU x0 y0
  let t := addU (mulU x1 y0) (shrU w0 32)
  let w1 := andU t 4294967295
  let w2 := shrU t 32
  let w1 := addU w1 (mulU x0 y1)
  addU (addU (mulU x1 y1) w2) (shrU w1 32)
def mul64A : List Value → AM Value
  | [.int .u64 x, .int .u64 y] => .pure (.tuple ⟨[.int .u64 (hiE x y), .int .u64 (mulU x y)]⟩)
  | _ => .fail
theorem mul64_ev (x y : Int) : evV E (sumsOf []) 100 62 [.int .u64 x, .int .u64 y] = some (.tuple ⟨[.int .u64 (hiE x y), .int .u64 (mulU x y)]⟩) := by kernel_rfl
theorem ints_plain {l : List Value} (h : ∀ v ∈ l, ∃ k n, v = .int k n) : ∀ v ∈ l, Plain v := fun v hv => by
  obtain ⟨k, n, rfl⟩ := h v hv
  exact plain_int k n
theorem told_mul64 : AE.Told Tryz.prog 62 mul64A := by
  refine told_pure hE hmix tolds_nil ?_
  intro args s v s' h
  unfold mul64A at h
  split at h
  · rename_i x y
    cases h
    exact ⟨plain_tuple (ints_plain (by simp)), Less'.refl _, ints_plain (by simp), 100, mul64_ev x y⟩
  · cases h

/-- a product of two numbers with signs -/
def hW (a b : Int) : Int :=
  let h := wrapA .i64 (hiE (wrapA .u64 a) (wrapA .u64 b))
  let h := match ltI a 0 with | true => wrapA .i64 (Int.sub h b) | false => h
  match ltI b 0 with | true => wrapA .i64 (Int.sub h a) | false => h
def lW (a b : Int) : Int := mulU (wrapA .u64 a) (wrapA .u64 b)
def mulWA : List Value → AM Value
  | [.int .i64 a, .int .i64 b] => .pure (.agg ⟨[.int .i64 (hW a b), .int .u64 (lW a b)]⟩)
  | _ => .fail
noncomputable def sigM : List (FuncId × (List Value → AM Value)) := [(62, mul64A)]
theorem tolds_M : Tolds Tryz.prog (sumsOf sigM) := tolds_cons told_mul64 tolds_nil
theorem mulW_ev (a b : Int) : evV E (sumsOf sigM) 100 31 [.int .i64 a, .int .i64 b] = some (.agg ⟨[.int .i64 (hW a b), .int .u64 (lW a b)]⟩) := by
  cases a with
  | ofNat a => cases b with
    | ofNat b => kernel_rfl
    | negSucc b => kernel_rfl
  | negSucc a => cases b with
    | ofNat b => kernel_rfl
    | negSucc b => kernel_rfl
theorem told_mulW : AE.Told Tryz.prog 31 mulWA := by
  refine told_pure hE hmix tolds_M ?_
  intro args s v s' h
  unfold mulWA at h
  split at h
  · rename_i x y
    cases h
    exact ⟨plain_agg (ints_plain (by simp)), Less'.refl _, ints_plain (by simp), 100, mulW_ev x y⟩
  · cases h

/-- a number of 128 bits without its sign -/
def szHi (k lo : Nat) : Nat := Nat.mod (Nat.sub (Nat.sub 18446744073709551616 (modN 18446744073709551616 (.negSucc k))) (match lo with | 0 => 0 | _ + 1 => 1)) 18446744073709551616
def szLo (lo : Nat) : Nat := Nat.mod (Nat.sub 18446744073709551616 lo) 18446744073709551616
def sizeV (h : Int) (lo : Nat) : Value := match h with
  | .ofNat k => .tuple ⟨[.int .u64 (wrapA .u64 (.ofNat k)), .int .u64 (.ofNat lo), .bool false]⟩
  | .negSucc k => .tuple ⟨[.int .u64 (.ofNat (szHi k lo)), .int .u64 (.ofNat (szLo lo)), .bool true]⟩
def sizeA : List Value → AM Value
  | [.agg ⟨[.int .i64 h, .int .u64 (.ofNat lo)]⟩] => .pure (sizeV h lo)
  | _ => .fail
theorem size_ev (h : Int) (lo : Nat) : evV E (sumsOf []) 100 60 [.agg ⟨[.int .i64 h, .int .u64 (.ofNat lo)]⟩] = some (sizeV h lo) := by
  cases h with
  | ofNat k => kernel_rfl
  | negSucc k => cases lo with
    | zero => kernel_rfl
    | succ lo => kernel_rfl
theorem plain_size (h : Int) (lo : Nat) : Plain (sizeV h lo) := by
  cases h with
  | _ => 
    refine plain_tuple fun v hv => ?_
    simp only [List.mem_cons, List.not_mem_nil, or_false] at hv
    rcases hv with rfl | rfl | rfl
    · exact plain_int _ _
    · exact plain_int _ _
    · exact plain_bool _
theorem told_size : AE.Told Tryz.prog 60 sizeA := by
  refine told_pure hE hmix tolds_nil ?_
  intro args s v s' h
  unfold sizeA at h
  split at h
  · rename_i x y
    cases h
    refine ⟨plain_size x y, Less'.refl _, fun v hv => ?_, 100, size_ev x y⟩
    simp only [List.mem_cons, List.not_mem_nil, or_false] at hv
    subst hv
    exact plain_agg (ints_plain (by simp))
  · cases h
/-- noughts ahead of ten thousand -/
def lzA : List Value → AM Value
  | [.int .u64 (.ofNat 10000)] => .pure (.int .i64 (.ofNat 50))
  | _ => .fail
theorem lz_ev : evV E (sumsOf []) 100 81 [.int .u64 (.ofNat 10000)] = some (.int .i64 (.ofNat 50)) := by kernel_rfl
theorem told_lz : AE.Told Tryz.prog 81 lzA := by
  refine told_pure hE hmix tolds_nil ?_
  intro args s v s' h
  unfold lzA at h
  split at h
  · cases h
    exact ⟨plain_int _ _, Less'.refl _, ints_plain (by simp), 100, lz_ev⟩
  · cases h
end Go.Proofs.YtldelmmaimbbmaaGreat.sp
