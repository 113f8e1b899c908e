/-
  Lists of elements, bytes and numbers in cells; whole numbers that do not wrap. No conditions.
-/
import Derived.Test.YtmgheellmllfpaaFldB
namespace Go.Sx
open Go.Proofs

/-! ### numbers -/
theorem wI {n : Int} (h0 : -9223372036854775808 ≤ n) (h1 : n < 9223372036854775808) : IntKind.i64.wrap n = n := by
  rw [IntKind.wrap_i64]; omega
theorem wN {n : Nat} (h : n < 9223372036854775808) : IntKind.i64.wrap (n : Int) = (n : Int) := wI (by omega) (by omega)
theorem wS {j : Nat} (h : j < 9223372036854775807) : IntKind.i64.wrap ((j : Int) + 1) = ((j + 1 : Nat) : Int) := by rw [wI (by omega) (by omega)]; rfl
theorem wP {j : Nat} (h0 : 0 < j) (h : j < 9223372036854775808) : IntKind.i64.wrap ((j : Int) - 1) = ((j - 1 : Nat) : Int) := by rw [wI (by omega) (by omega)]; omega

/-! ### lists of elements -/
def eC (n : Nat) : List Value := [u64 (L0 n), u64 (L1 n), u64 (L2 n), u64 (L3 n)]
theorem eC_len (x : Nat) : (eC x).length = 4 := rfl
theorem eC_fold (n : Nat) : Value.agg (eC n).toArray = EN n := rfl
theorem eL_nil : LC eC [] = [] := rfl
theorem eL_len {l : List Nat} : (LC eC l).length = l.length * 4 := LC_len eC_len l
theorem eL_one {l : List Nat} : (LC eC l).all Value.oneCell' = true := LC_all (fun _ => rfl) l
theorem eL_ld {l : List Nat} {j : Nat} (h : j < l.length) : Value.agg (((LC eC l).drop (j * 4)).take 4).toArray = EN (l.getD j 0) := by
  rw [LC_at eC_len (x := l.getD j 0) (by simp [List.getD, List.getElem?_eq_getElem h])]; rfl
theorem eL_st {l : List Nat} {j : Nat} {v : Nat} (h : j < l.length) : (LC eC l).take (j * 4) ++ [u64 (L0 v), u64 (L1 v), u64 (L2 v), u64 (L3 v)] ++ (LC eC l).drop (j * 4 + 4) = LC eC (l.set j v) := LC_set eC_len v h
theorem eL_mk {n : Nat} : (madeCells [u64 0, u64 0, u64 0, u64 0].toArray (n * 4)).toList = LC eC (List.replicate n 0) := made_LC eC_len (by decide) 0 n
theorem eL_full {l : List Nat} : (LC eC l).take (l.length * 4) = LC eC l := by rw [LC_take eC_len, List.take_length]
theorem eL_take {l : List Nat} {k : Nat} : (LC eC l).take (k * 4) = LC eC (l.take k) := LC_take eC_len l k
theorem eL_drop {l : List Nat} {k : Nat} : (LC eC l).drop (k * 4) = LC eC (l.drop k) := LC_drop eC_len l k
theorem eL_pre {l r : List Nat} : (LC eC (l ++ r)).take (l.length * 4) = LC eC l := by rw [eL_take, List.take_left]
theorem eL_one1 {v : Nat} : [u64 (L0 v), u64 (L1 v), u64 (L2 v), u64 (L3 v)] = LC eC [v] := rfl
theorem eL_app1 {l : List Nat} {v : Nat} : LC eC l ++ [u64 (L0 v), u64 (L1 v), u64 (L2 v), u64 (L3 v)] = LC eC (l ++ [v]) := LC_app l [v]
theorem eL_app {l l' : List Nat} : LC eC l ++ LC eC l' = LC eC (l ++ l') := LC_app l l'

/-! ### lists of bytes and of numbers -/
def bC (n : Nat) : List Value := [.int .u8 (n : Int)]
theorem bC_len (x : Nat) : (bC x).length = 1 := rfl
def iC (n : Int) : List Value := [.int .i64 n]
theorem iC_len (x : Int) : (iC x).length = 1 := rfl
theorem LC1_at {α : Type} {f : α → List Value} (hf : ∀ x, (f x).length = 1) {l : List α} {j : Nat} {x : α} {v : Value} (h : l[j]? = some x) (hv : f x = [v]) : (LC f l).getD j undef = v := by
  have h1 := LC_at hf h
  rw [Nat.mul_one, hv] at h1
  have h2 := congrArg (fun z => z[0]?) h1
  simp only [List.getElem?_take, List.getElem?_drop, Nat.add_zero, List.getElem?_cons_zero] at h2
  rw [List.getD_eq_getElem?_getD]
  simp at h2
  rw [h2]; rfl
theorem bL_len {l : List Nat} : (LC bC l).length = l.length := by rw [LC_len bC_len, Nat.mul_one]
theorem bL_one {l : List Nat} : (LC bC l).all Value.oneCell' = true := LC_all (fun _ => rfl) l
theorem bL_ld {l : List Nat} {j : Nat} (h : j < l.length) : (LC bC l).getD j undef = .int .u8 (l.getD j 0 : Nat) := LC1_at bC_len (x := l.getD j 0) (by simp [List.getD, List.getElem?_eq_getElem h]) rfl
theorem bL_st {l : List Nat} {j v : Nat} (h : j < l.length) : (LC bC l).take j ++ [.int .u8 (v : Int)] ++ (LC bC l).drop (j + 1) = LC bC (l.set j v) := by
  have := LC_set bC_len v h
  rwa [Nat.mul_one] at this
theorem bL_mk {n : Nat} : (madeCells [Value.int .u8 0].toArray n).toList = LC bC (List.replicate n 0) := by
  have := made_LC bC_len (by decide) 0 n
  rwa [Nat.mul_one] at this
theorem bL_app1 {l : List Nat} {v : Nat} : LC bC l ++ [.int .u8 (v : Int)] = LC bC (l ++ [v]) := LC_app l [v]
theorem bL_app {l l' : List Nat} : LC bC l ++ LC bC l' = LC bC (l ++ l') := LC_app l l'
theorem bL_take {l : List Nat} {k : Nat} : (LC bC l).take k = LC bC (l.take k) := by have := LC_take bC_len l k; rwa [Nat.mul_one] at this
theorem bL_drop {l : List Nat} {k : Nat} : (LC bC l).drop k = LC bC (l.drop k) := by have := LC_drop bC_len l k; rwa [Nat.mul_one] at this
theorem iL_len {l : List Int} : (LC iC l).length = l.length := by rw [LC_len iC_len, Nat.mul_one]
theorem iL_one {l : List Int} : (LC iC l).all Value.oneCell' = true := LC_all (fun _ => rfl) l
theorem iL_ld {l : List Int} {j : Nat} (h : j < l.length) : (LC iC l).getD j undef = .int .i64 (l.getD j 0) := LC1_at iC_len (x := l.getD j 0) (by simp [List.getD, List.getElem?_eq_getElem h]) rfl
theorem iL_st {l : List Int} {j : Nat} {v : Int} (h : j < l.length) : (LC iC l).take j ++ [.int .i64 v] ++ (LC iC l).drop (j + 1) = LC iC (l.set j v) := by
  have := LC_set iC_len v h
  rwa [Nat.mul_one] at this
theorem iL_mk {n : Nat} : (madeCells [Value.int .i64 0].toArray n).toList = LC iC (List.replicate n 0) := by
  have := made_LC iC_len (by decide) 0 n
  rwa [Nat.mul_one] at this
theorem iL_app1 {l : List Int} {v : Int} : LC iC l ++ [.int .i64 v] = LC iC (l ++ [v]) := LC_app l [v]
/-- Bundles for the walks. -/
theorem EX : type_of% (And.intro (And.intro (And.intro cellsE foldE) (And.intro foldN cellsN)) (And.intro (And.intro @b_EN @eL_nil) (And.intro (And.intro @eL_len @eL_one) (And.intro (And.intro @eL_mk @eL_app1) (And.intro @eL_app (And.intro @eL_full @eL_pre)))))) :=
  And.intro (And.intro (And.intro cellsE foldE) (And.intro foldN cellsN)) (And.intro (And.intro @b_EN @eL_nil) (And.intro (And.intro @eL_len @eL_one) (And.intro (And.intro @eL_mk @eL_app1) (And.intro @eL_app (And.intro @eL_full @eL_pre)))))
end Go.Sx
