/-
  lookup.rising: residues, rising. No conditions.
-/
import Derived.Test.YtmjhaopkhceegaaZLkh
import Derived.Test.YtmjhaopkhceegaaZLkr
namespace Go.Sx
open Go.Proofs Go.Num
-- SY
-- TY: TYX, UX, IOX
set_option maxRecDepth 100000
set_option linter.unusedSimpArgs false
set_option pp.deepTerms true
set_option pp.maxSteps 100000
theorem u_rising (s : Int) (l : List Nat) (hl : ∀ x ∈ l, x < W256) (hb : l.length * 32 ≤ 140737488351232) :
    Contract Try.prog 31 [.val (.int .i64 s), .sl l.length 4 (LC eC l)] [.row 24 4 l.length (LC eC (asc (rsd s l)))] := by
  have hr : (rsd s l).length = l.length := List.length_map _
  refine contract_of (N := _) (vars := _) (c := bodyOf Try.f31) Try.func31 (body_eq rfl) rfl rfl (by rfl) mixed _ _ trivial 1000 ?_
  simp only [bodyOf, Try.f31, Option.getD_some, argA, argE, List.length_cons, List.length_nil, Nat.reduceAdd, Nat.reduceSub, List.replicate, List.cons_append, List.nil_append]
  simp only [↓PX, SX, SYX, EY, simprocAttr, TYX, UX, IOX]
  repeat (first | refine DrawVC.intro (by kernel_rfl) ?_ | refine And.intro (by omega) ?_ | exact trivial)
  refine loop_hav ?_
  simp only [↓PX, SX, SYX, EY, simprocAttr, TYX, UX, IOX]
  refine loop_go mixed (by trivial) (γ := Nat) (fun i => i ≤ l.length) (fun i => l.length - i) (fun i => [(13, iv i), (6, .o .any), (7, .o .any)]) (fun i => [(14, .row 24 4 l.length (LC eC (fil l.length (fun j => l.getD j 0 % md s) i)))]) 0 (Nat.zero_le _) (St.le_of id (by simp [-List.getD_eq_getElem?_getD, SYX, iv, Tle, AVle, A0le, Mem.get, fil_0]) (by simp [-List.getD_eq_getElem?_getD, SYX, Mle, Ele, Hle, Tle, AVle, A0le, Mem.get, fil_0]) (by simp [SYX]) (by simp [SYX])) ?_
  intro i hi
  simp only [↓PX, SX, SYX, EY, simprocAttr, TYX, UX, IOX]
  refine cond_split (fun h0 => ?_) (fun h0 => ?_)
  · have h0 : i < l.length := by simpa using h0
    have ld := eL_ld (l := l) (j := i) h0
    have hw : l.getD i 0 < W256 := by
      rw [List.getD_eq_getElem?_getD, List.getElem?_eq_getElem h0]
      exact hl _ (List.getElem_mem _)
    have w5 : IntKind.i64.wrap ((i : Int) + 1) = ((i + 1 : Nat) : Int) := wS (by omega)
    have st := eL_st (l := fil l.length (fun j => l.getD j 0 % md s) i) (j := i) (v := (l.getD i 0 + 0) % md s) (by rw [fil_len]; exact h0)
    rw [Nat.add_zero, fil_set] at st
    simp only [↓PX, SX, SYX, EY, simprocAttr, TYX, UX, IOX, ld]
    repeat (first | refine DrawVC.intro (by kernel_rfl) ?_ | refine And.intro (by omega) ?_ | exact trivial)
    refine CallVC.intro (u_Add s (l.getD i 0) 0 hw (by decide)) ⟨rfl, rfl, rfl, trivial⟩ rfl rfl ?_
    simp only [↓PX, SX, SYX, EY, simprocAttr, TYX, UX, IOX, st, Nat.add_zero, w5]
    exact ⟨⟨by omega, by omega⟩, by rw [fil_len]; omega, i + 1, by omega, by omega, (St.le_of id (by simp [-List.getD_eq_getElem?_getD, SYX, iv, Tle, AVle, A0le, Mem.get]) (by simp [-List.getD_eq_getElem?_getD, SYX, Mle, Ele, Hle, Tle, AVle, A0le, Mem.get]) (by simp [SYX]) (by simp [SYX]))⟩
  · have h0 : i = l.length := by
      have : l.length ≤ i := by simpa using h0
      omega
    subst h0
    have fn : fil l.length (fun j => l.getD j 0 % md s) l.length = rsd s l := fil_n (g := (· % md s))
    have cs := u_SortFunc (l := rsd s l) rsd_w (by rw [hr]; omega)
    rw [hr] at cs
    simp only [↓PX, SX, SYX, EY, simprocAttr, TYX, UX, IOX, fn]
    refine CallVC.give (cs) ⟨rfl, rfl, trivial⟩ rfl (by simp [refs]) ?_
    simp only [↓PX, SX, SYX, EY, simprocAttr, TYX, UX, IOX]
end Go.Sx
