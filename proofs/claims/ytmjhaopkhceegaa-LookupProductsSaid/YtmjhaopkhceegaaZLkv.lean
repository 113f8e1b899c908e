/-
  alive of layer 17; LookupPermutes. No conditions.
-/
import Derived.Test.YtmjhaopkhceegaaZLkj
import Derived.Test.YtmjhaopkhceegaaZLkt
import Derived.Test.YtmjhaopkhceegaaZLku
namespace Go.Sx
open Go.Proofs Go.Num
-- SY
-- TY: TYX, UX, guard_un
set_option maxRecDepth 100000
set_option linter.unusedSimpArgs false
set_option pp.deepTerms true
set_option pp.maxSteps 100000
theorem asc_eval {l r : List Nat} (h : insA l = r) : asc l = r := by rw [← insA_asc, h]
theorem alive17_1 : pm 0 [3, 1, 3] [1, 2, 3] = ([1, 3, 3], [1, 3, 2], 0) := by
  unfold pm
  have h1 : asc (rsd 0 [3, 1, 3]) = [1, 3, 3] := asc_eval (by decide)
  have h2 : asc (rsd 0 [1, 2, 3]) = [1, 2, 3] := asc_eval (by decide)
  rw [h1, h2]
  decide
theorem alive17_2 : cpr 0 10 [1, 2, 3] = 123 := by decide
theorem c_alive17 : Contract Try.prog 9 [] [.val (.bool true)] := by
  have c1 : Contract Try.prog 12 [.val (.int .i64 0), .sl 3 4 [u64 (L0 3), u64 (L1 3), u64 (L2 3), u64 (L3 3), u64 (L0 1), u64 (L1 1), u64 (L2 1), u64 (L3 1), u64 (L0 3), u64 (L1 3), u64 (L2 3), u64 (L3 3)], .sl 3 4 [u64 (L0 1), u64 (L1 1), u64 (L2 1), u64 (L3 1), u64 (L0 2), u64 (L1 2), u64 (L2 2), u64 (L3 2), u64 (L0 3), u64 (L1 3), u64 (L2 3), u64 (L3 3)]] [.row 24 4 3 (LC eC [1, 3, 3]), .row 24 4 3 (LC eC [1, 3, 2]), .val (.int .i64 0)] := by
    have h := u_Permute 0 [3, 1, 3] [1, 2, 3] (by decide) (by decide) (by decide) (by decide)
    rw [alive17_1] at h
    exact h
  have c2 : Contract Try.prog 15 [.val (.int .i64 0), .val (EN 10), .sl 3 4 [u64 (L0 1), u64 (L1 1), u64 (L2 1), u64 (L3 1), u64 (L0 2), u64 (L1 2), u64 (L2 2), u64 (L3 2), u64 (L0 3), u64 (L1 3), u64 (L2 3), u64 (L3 3)]] [.val (EN 123)] := by
    have h := u_Compress 0 10 [1, 2, 3] (by decide) (by decide) (by decide)
    rw [alive17_2] at h
    exact h
  have s1 : Contract Try.prog 14 [.sl 3 4 (LC eC [1, 3, 3]), .sl 3 4 [u64 (L0 1), u64 (L1 1), u64 (L2 1), u64 (L3 1), u64 (L0 3), u64 (L1 3), u64 (L2 3), u64 (L3 3), u64 (L0 3), u64 (L1 3), u64 (L2 3), u64 (L3 3)]] [.val (.bool true)] := same_big [1, 3, 3] (by decide) (by decide)
  have s2 : Contract Try.prog 14 [.sl 3 4 (LC eC [1, 3, 2]), .sl 3 4 [u64 (L0 1), u64 (L1 1), u64 (L2 1), u64 (L3 1), u64 (L0 3), u64 (L1 3), u64 (L2 3), u64 (L3 3), u64 (L0 2), u64 (L1 2), u64 (L2 2), u64 (L3 2)]] [.val (.bool true)] := same_big [1, 3, 2] (by decide) (by decide)
  refine contract_of (N := _) (vars := _) (c := bodyOf Try.f9) Try.func9 (body_eq rfl) rfl rfl (by rfl) mixed _ _ trivial 1000 ?_
  simp only [bodyOf, Try.f9, Option.getD_some, argA, argE, List.length_cons, List.length_nil, Nat.reduceAdd, Nat.reduceSub, List.replicate, List.cons_append, List.nil_append]
  simp only [↓PX, SX, SYX, EY, simprocAttr, TYX, UX, guard_un]
  refine CallVC.intro (c1) ⟨rfl, (by simp only [argMatch, SX, SYX, EY, simprocAttr, and_self, List.length_append, List.length_map, List.length_set, TYX, UX, guard_un]), (by simp only [argMatch, SX, SYX, EY, simprocAttr, and_self, List.length_append, List.length_map, List.length_set, TYX, UX, guard_un]), trivial⟩ rfl rfl ?_
  simp only [↓PX, SX, SYX, EY, simprocAttr, TYX, UX, guard_un]
  refine CallVC.intro (s1) ⟨(by simp only [argMatch, SX, SYX, EY, simprocAttr, and_self, List.length_append, List.length_map, List.length_set, TYX, UX, guard_un]), (by simp only [argMatch, SX, SYX, EY, simprocAttr, and_self, List.length_append, List.length_map, List.length_set, TYX, UX, guard_un]), trivial⟩ rfl rfl ?_
  simp only [↓PX, SX, SYX, EY, simprocAttr, TYX, UX, guard_un]
  refine CallVC.intro (s2) ⟨(by simp only [argMatch, SX, SYX, EY, simprocAttr, and_self, List.length_append, List.length_map, List.length_set, TYX, UX, guard_un]), (by simp only [argMatch, SX, SYX, EY, simprocAttr, and_self, List.length_append, List.length_map, List.length_set, TYX, UX, guard_un]), trivial⟩ rfl rfl ?_
  simp only [↓PX, SX, SYX, EY, simprocAttr, TYX, UX, guard_un]
  refine CallVC.intro (c2) ⟨rfl, rfl, (by simp only [argMatch, SX, SYX, EY, simprocAttr, and_self, List.length_append, List.length_map, List.length_set, TYX, UX, guard_un]), trivial⟩ rfl rfl ?_
  simp only [↓PX, SX, SYX, EY, simprocAttr, TYX, UX, guard_un]
end Go.Sx
