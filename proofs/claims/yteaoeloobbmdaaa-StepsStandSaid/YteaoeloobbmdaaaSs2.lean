/- The steps of a job: what each step does to the files that are there, evaluated. -/
import Derived.Test.YteaoeloobbmdaaaSs1
noncomputable section
namespace Go.Proofs.Yteaoeloobbmdaaa.lf
open AE
set_option linter.unusedSimpArgs false
set_option linter.unusedVariables false
set_option maxRecDepth 10000

/-- which files are there behind so many steps -/
def bsT : Nat → List Bool
  | 0 => [true, true, true, true]
  | 1 => [true, true, true, true, true]
  | 2 => [true, true, true, true, true, true]
  | 3 => [true, true, true, true, true, true, true]
  | 4 => [true, true, true, true, true, true, true, true, true]
  | 5 => [true, true, true, true, true, true, true, true, true]
  | 6 => [true, true, true, true, true, false, true, true, true]
  | 7 => [true, true, true, true, false, false, true, true, true]
  | 8 => [true, true, true, true, false, false, false, true, true]
  | 9 => [true, true, true, true, false, false, false, true, true, true]
  | 10 => [true, true, true, true, false, false, false, false, true, true]
  | 11 => [true, true, true, true, false, false, false, false, true, true]
  | _ => [true, true, true, true, false, false, false, false, false, false, true, true, true]
def itT : Nat → Nat
  | 6 => 6111
  | 7 => 7111
  | 8 => 8111
  | 10 => 10111
  | 12 => 12111
  | i => 1000 * i + 109
noncomputable def psA : List Code := [sub [0] cdY, sub [1,0] cdY, sub [1,1,0] cdY, sub [1,1,1,0] cdY]
noncomputable def cdR27 : Code := sub [1,1,1,1,0,0] cdY
noncomputable def cdB8 : Code := sub [1,1,1,1,0,1] cdY
noncomputable def cdE : Code := sub [1,1,1,1,1] cdY
noncomputable def cdR5 : Code := sub [1,1] cdX
noncomputable def cdR4 : Code := sub [0] cdX
theorem chX : cdX = .seq cdR4 (.seq (.block 1 cdY) cdR5) := by kernel_rfl
theorem chY : cdY = chainC psA (.seq (.seq cdR27 cdB8) cdE) := by kernel_rfl
theorem chB8 : cdB8 = .block 8 (.loop cdL8) := by kernel_rfl
def mapAt (s : S) (n : Nat) : Option (List MapEntry × Nat) := match s.heap.get n with
  | some (.map es ck) => some (es, ck)
  | _ => none
def iterAt (s : S) (n : Nat) : Option (Option Nat × Nat × List Nat × Nat) := match s.heap.get n with
  | some (.mapIter m a b c) => some (m, a, b, c)
  | _ => none
theorem mapAt_eq {s : S} {n ck : Nat} {es : List MapEntry} (h : mapAt s n = some (es, ck)) : s.heap.get n = some (.map es ck) := by
  unfold mapAt at h
  split at h
  · rename_i e c hg; cases h; exact hg
  · cases h
theorem iterAt_eq {s : S} {n : Nat} {m : Option Nat} {a c : Nat} {b : List Nat} (h : iterAt s n = some (m, a, b, c)) : s.heap.get n = some (.mapIter m a b c) := by
  unfold iterAt at h
  split at h
  · rename_i hg; cases h; exact hg
  · cases h
abbrev PA : Type := (FuncId × Nat × List Deferred × Option Nat) × List (Option Value) × (Nat × Nat) × Option (List MapEntry × Nat) × Option (Option Nat × Nat × List Nat × Nat)
def prob (r : Option (Fr × S)) (ts : List Nat) (it : Nat) : Option PA := match r with
  | none => none
  | some (fr, s) => some ((fr.fn, fr.n, fr.defers, fr.round), ts.map fr.tmps.get, (s.next, s.mark), mapAt s 0, iterAt s it)
def frA (a1 : Int) (n i : Nat) : Fr := ⟨3, trOf [(1, .int .i64 a1), (5, .map (some 0)), (6, .int .i64 (.ofNat n)), (7, .int .i64 (.ofNat i))], 169, [], none⟩
def sA (i : Nat) : S := ⟨trOf [(0, .map (entsFrom (bsT (i - 1)) 0) (bsT (i - 1)).length)], 1000 * i, 0, 0, 0⟩
noncomputable def runA (a1 : Int) (n i : Nat) : Option (Fr × S) := evPs E (sumsOf []) 100000 (psA ++ [cdR27]) (frA a1 n i) (sA i)
def wantA (a1 : Int) (n i : Nat) : Option PA :=
  some ((3, 169, [], none), [some (.int .i64 a1), some (.map (some 0)), some (.int .i64 (.ofNat n)), some (.int .i64 (.ofNat i)), some (.int .i64 (.ofNat 0)), some (.pointer (some ⟨itT i, 0, none⟩))], (itT i + 1, 0), some (entsFrom (bsT i) 0, (bsT i).length), some (some 0, (bsT i).length, [], (bsT i).length))
set_option maxRecDepth 100000 in
set_option maxHeartbeats 100000000 in
theorem stepA_run (a1 : Int) (n : Nat) : (List.range 12).map (fun j => prob (runA a1 n (j + 1)) [1, 5, 6, 7, 14, 70] (itT (j + 1))) = (List.range 12).map (fun j => wantA a1 n (j + 1)) := by kernel_rfl

def frE (a1 : Int) (n i : Nat) : Fr := ⟨3, trOf [(1, .int .i64 a1), (5, .map (some 0)), (6, .int .i64 (.ofNat n)), (7, .int .i64 (.ofNat i)), (14, .int .i64 (.ofNat (trues (entsFrom (bsT i) 0))))], 169, [], none⟩
def sE (i : Nat) : S := ⟨trOf [(0, .map (entsFrom (bsT i) 0) (bsT i).length)], 1000 * i + 900, 0, 0, 0⟩
noncomputable def runE (a1 : Int) (n i : Nat) : Option (Fr × S) := evPs E (sumsOf []) 100000 [cdE, cdR5] (frE a1 n i) (sE i)
def wantE (a1 : Int) (n i : Nat) : Option PA :=
  some ((3, 169, [], none), [some (.int .i64 a1), some (.map (some 0)), some (.int .i64 (.ofNat n)), some (.int .i64 (.ofNat (i + 1)))], (1000 * i + 900, 0), some (entsFrom (bsT i) 0, (bsT i).length), none)
set_option maxRecDepth 100000 in
set_option maxHeartbeats 100000000 in
theorem stepE_run (a1 : Int) (n : Nat) : (List.range 12).map (fun j => prob (runE a1 n (j + 1)) [1, 5, 6, 7] 1) = (List.range 12).map (fun j => wantE a1 n (j + 1)) := by kernel_rfl
theorem stepA (a1 : Int) (n i : Nat) (h1 : 1 ≤ i) (h2 : i ≤ 12) : prob (runA a1 n i) [1, 5, 6, 7, 14, 70] (itT i) = wantA a1 n i := by
  have := List.map_inj_left.1 (stepA_run a1 n) (i - 1) (List.mem_range.2 (by omega))
  rwa [Nat.sub_add_cancel h1] at this
theorem stepE (a1 : Int) (n i : Nat) (h1 : 1 ≤ i) (h2 : i ≤ 12) : prob (runE a1 n i) [1, 5, 6, 7] 1 = wantE a1 n i := by
  have := List.map_inj_left.1 (stepE_run a1 n) (i - 1) (List.mem_range.2 (by omega))
  rwa [Nat.sub_add_cancel h1] at this
end Go.Proofs.Yteaoeloobbmdaaa.lf
