/-
  PermuteChecks. No conditions.
-/
import Derived.Test.YtndmafefpiigoaaZPee
namespace Go.Sx
open Go.Proofs Go.Num
-- SY
-- TY: TYX, UX, guard_un
set_option maxRecDepth 100000
set_option linter.unusedSimpArgs false
set_option pp.deepTerms true
set_option pp.maxSteps 100000
theorem ckL_w {s : Int} {X F L U : Nat} {cols sig : List Nat} {zs : List (Nat × Nat × Nat)} {β γ : Nat} : ∀ x ∈ ckL s X F L U cols sig zs β γ, x < W256 := by
  intro x hx
  unfold ckL at hx
  split at hx
  · rcases List.mem_append.1 hx with hx | hx
    · rcases List.mem_append.1 hx with hx | hx
      · exact tab_w (f := ckA s F zs) (fun i => by cases i <;> exact md_w s _) x hx
      · have : x = ckB s L (zAt zs (zs.length - 1)) := by simpa using hx
        rw [this]; exact md_w s _
    · exact tab_w (f := ckC s U X β γ cols sig zs) (fun i => md_w s _) x hx
  · simp at hx
theorem ckL_len {s : Int} {X F L U : Nat} {cols sig : List Nat} {zs : List (Nat × Nat × Nat)} {β γ : Nat} (h : zs.length ≤ 20) : (ckL s X F L U cols sig zs β γ).length ≤ 100 := by
  unfold ckL
  split
  · simp only [List.length_append, tab_len, List.length_cons, List.length_nil]; omega
  · simp
theorem c_PermuteChecks (s : Int) (X F L U : Nat) (cols sig : List Nat) (zs : List (Nat × Nat × Nat)) (β γ : Nat) (hX : X < W256) (hF : F < W256) (hL : L < W256) (hU : U < W256) (hc : ∀ x ∈ cols, x < W256) (hs : ∀ x ∈ sig, x < W256) (hz : zsW zs) (hβ : β < W256) (hγ : γ < W256)
    (hc2 : cols.length * 32 ≤ 140737488351232) (hs2 : sig.length * 32 ≤ 140737488351232) (hz2 : zs.length * 96 ≤ 140737488351232) :
    Contract Try.prog 14 [.val (.int .i64 s), .val (SN X F L U), .sl cols.length 4 (LC eC cols), .sl sig.length 4 (LC eC sig), .sl zs.length 12 (LC cC zs), .val (EN β), .val (EN γ)] [.val (.bool true)] := by
  unfold SN
  cases d1 : decide ((20 : Int) < (cols.length : Int)) with
  | true =>
    refine contract_of (N := _) (vars := _) (c := bodyOf Try.f14) Try.func14 (body_eq rfl) rfl rfl (by rfl) mixed _ _ trivial 1000 ?_
    simp only [bodyOf, Try.f14, Option.getD_some, argA, argE, List.length_cons, List.length_nil, Nat.reduceAdd, Nat.reduceSub, List.replicate, List.cons_append, List.nil_append]
    simp only [↓PX, SX, SYX, EY, simprocAttr, TYX, UX, guard_un]
    refine CallVC.intro (c_alive16) trivial rfl rfl ?_
    simp only [↓PX, SX, SYX, EY, simprocAttr, TYX, UX, guard_un, d1]
  | false =>
    cases d2 : decide ((20 : Int) < (sig.length : Int)) with
    | true =>
      refine contract_of (N := _) (vars := _) (c := bodyOf Try.f14) Try.func14 (body_eq rfl) rfl rfl (by rfl) mixed _ _ trivial 1000 ?_
      simp only [bodyOf, Try.f14, Option.getD_some, argA, argE, List.length_cons, List.length_nil, Nat.reduceAdd, Nat.reduceSub, List.replicate, List.cons_append, List.nil_append]
      simp only [↓PX, SX, SYX, EY, simprocAttr, TYX, UX, guard_un]
      refine CallVC.intro (c_alive16) trivial rfl rfl ?_
      simp only [↓PX, SX, SYX, EY, simprocAttr, TYX, UX, guard_un, d1, d2]
    | false =>
      cases d3 : decide ((20 : Int) < (zs.length : Int)) with
      | true =>
        refine contract_of (N := _) (vars := _) (c := bodyOf Try.f14) Try.func14 (body_eq rfl) rfl rfl (by rfl) mixed _ _ trivial 1000 ?_
        simp only [bodyOf, Try.f14, Option.getD_some, argA, argE, List.length_cons, List.length_nil, Nat.reduceAdd, Nat.reduceSub, List.replicate, List.cons_append, List.nil_append]
        simp only [↓PX, SX, SYX, EY, simprocAttr, TYX, UX, guard_un]
        refine CallVC.intro (c_alive16) trivial rfl rfl ?_
        simp only [↓PX, SX, SYX, EY, simprocAttr, TYX, UX, guard_un, d1, d2, d3]
      | false =>
        have q1 := of_decide_eq_false d1
        have q2 := of_decide_eq_false d2
        have q3 := of_decide_eq_false d3
        have l1 := ckL_len (s := s) (X := X) (F := F) (L := L) (U := U) (cols := cols) (sig := sig) (zs := zs) (β := β) (γ := γ) (by omega)
        have hlz : (LC cC zs).length = zs.length * 12 := LC_len cC_len zs
        have htz : List.take (zs.length * 12) (LC cC zs) = LC cC zs := List.take_of_length_le (by omega)
        have cu := u_Checks s X F L U cols sig zs β γ hX hF hL hU hc hs hz hβ hγ (by omega) (by omega) (by omega)
        have cv := v_Checks s X F L U cols sig zs β γ hX hF hL hU hc hs hz hβ hγ (by omega) (by omega) (by omega)
        unfold SN at cu cv
        refine contract_of (N := _) (vars := _) (c := bodyOf Try.f14) Try.func14 (body_eq rfl) rfl rfl (by rfl) mixed _ _ trivial 1000 ?_
        simp only [bodyOf, Try.f14, Option.getD_some, argA, argE, List.length_cons, List.length_nil, Nat.reduceAdd, Nat.reduceSub, List.replicate, List.cons_append, List.nil_append]
        simp only [↓PX, SX, SYX, EY, simprocAttr, TYX, UX, guard_un]
        refine CallVC.intro (c_alive16) trivial rfl rfl ?_
        simp only [↓PX, SX, SYX, EY, simprocAttr, TYX, UX, guard_un, d1, d2, d3]
        refine CallVC.intro (c_CopyElems cols (by omega)) ⟨(by simp only [argMatch, SX, SYX, EY, simprocAttr, and_self, List.length_append, List.length_map, List.length_set, TYX, UX, guard_un]), trivial⟩ rfl rfl ?_
        simp only [↓PX, SX, SYX, EY, simprocAttr, TYX, UX, guard_un]
        refine CallVC.intro (c_CopyElems sig (by omega)) ⟨(by simp only [argMatch, SX, SYX, EY, simprocAttr, and_self, List.length_append, List.length_map, List.length_set, TYX, UX, guard_un, htz, hlz]), trivial⟩ rfl rfl ?_
        simp only [↓PX, SX, SYX, EY, simprocAttr, TYX, UX, guard_un, htz, hlz]
        repeat (first | refine DrawVC.intro (by kernel_rfl) ?_ | refine And.intro (by omega) ?_ | exact trivial)
        refine CallVC.intro (cu) ⟨rfl, rfl, (by simp only [argMatch, SX, SYX, EY, simprocAttr, and_self, List.length_append, List.length_map, List.length_set, TYX, UX, guard_un, htz, hlz]), (by simp only [argMatch, SX, SYX, EY, simprocAttr, and_self, List.length_append, List.length_map, List.length_set, TYX, UX, guard_un, htz, hlz]), (by simp only [argMatch, SX, SYX, EY, simprocAttr, and_self, List.length_append, List.length_map, List.length_set, TYX, UX, guard_un, htz, hlz]), rfl, rfl, trivial⟩ rfl rfl ?_
        simp only [↓PX, SX, SYX, EY, simprocAttr, TYX, UX, guard_un, htz, hlz]
        refine CallVC.intro (cv) ⟨rfl, rfl, (by simp only [argMatch, SX, SYX, EY, simprocAttr, and_self, List.length_append, List.length_map, List.length_set, TYX, UX, guard_un, htz, hlz]), (by simp only [argMatch, SX, SYX, EY, simprocAttr, and_self, List.length_append, List.length_map, List.length_set, TYX, UX, guard_un, htz, hlz]), (by simp only [argMatch, SX, SYX, EY, simprocAttr, and_self, List.length_append, List.length_map, List.length_set, TYX, UX, guard_un, htz, hlz]), rfl, rfl, trivial⟩ rfl rfl ?_
        simp only [↓PX, SX, SYX, EY, simprocAttr, TYX, UX, guard_un, htz, hlz]
        refine CallVC.intro (same_of (ckL s X F L U cols sig zs β γ) (by omega) ckL_w) ⟨(by simp only [argMatch, SX, SYX, EY, simprocAttr, and_self, List.length_append, List.length_map, List.length_set, TYX, UX, guard_un]), (by simp only [argMatch, SX, SYX, EY, simprocAttr, and_self, List.length_append, List.length_map, List.length_set, TYX, UX, guard_un]), trivial⟩ rfl rfl ?_
        simp only [↓PX, SX, SYX, EY, simprocAttr, TYX, UX, guard_un]
        refine CallVC.intro (same_of cols (by omega) hc) ⟨(by simp only [argMatch, SX, SYX, EY, simprocAttr, and_self, List.length_append, List.length_map, List.length_set, TYX, UX, guard_un]), (by simp only [argMatch, SX, SYX, EY, simprocAttr, and_self, List.length_append, List.length_map, List.length_set, TYX, UX, guard_un]), trivial⟩ rfl rfl ?_
        simp only [↓PX, SX, SYX, EY, simprocAttr, TYX, UX, guard_un]
        refine CallVC.intro (same_of sig (by omega) hs) ⟨(by simp only [argMatch, SX, SYX, EY, simprocAttr, and_self, List.length_append, List.length_map, List.length_set, TYX, UX, guard_un]), (by simp only [argMatch, SX, SYX, EY, simprocAttr, and_self, List.length_append, List.length_map, List.length_set, TYX, UX, guard_un]), trivial⟩ rfl rfl ?_
        simp only [↓PX, SX, SYX, EY, simprocAttr, TYX, UX, guard_un]
end Go.Sx
