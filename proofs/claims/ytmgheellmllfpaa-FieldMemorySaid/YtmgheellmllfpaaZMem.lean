/-
  The law FieldMemory. No conditions.
-/
import Derived.Test.YtmgheellmllfpaaZCod
namespace Go.Sx
open Go.Proofs Go.Num
-- SY
-- TY: TYX, BY
set_option maxRecDepth 100000
set_option linter.unusedSimpArgs false
set_option pp.deepTerms true
set_option pp.maxSteps 100000
theorem c_memory (s : Int) (a : Nat) (l : List Nat) (ha : a < W256) (hl : ∀ x ∈ l, x < W256) : Contract Try.prog 7 [.val (.int .i64 s), .val (EN a), .sl l.length 4 (LC eC l)] [.val (.bool true)] := by
  by_cases h40 : 40 < l.length
  · have e : decide ((40 : Int) < (l.length : Int)) = true := by simp; omega
    refine contract_of (N := _) (vars := _) (c := bodyOf Try.f7) Try.func7 (body_eq rfl) rfl rfl (by rfl) mixed _ _ trivial 1000 ?_
    simp only [bodyOf, Try.f7, Option.getD_some, argA, argE, List.length_cons, List.length_nil, Nat.reduceAdd, Nat.reduceSub, List.replicate, List.cons_append, List.nil_append]
    simp only [↓PX, SX, SYX, EY, simprocAttr, TYX, BY]
    refine CallVC.intro (c_alive) trivial rfl rfl ?_
    simp only [↓PX, SX, SYX, EY, simprocAttr, TYX, BY, e]
  · have e : decide ((40 : Int) < (l.length : Int)) = false := by simp; omega
    have hi : (invL s l).length ≤ l.length := by unfold invL; split <;> simp
    have hw : ∀ x ∈ invL s l, x < W256 := by
      unfold invL
      split
      · intro x hx
        obtain ⟨y, _, rfl⟩ := List.mem_map.1 hx
        exact md_w2 (inv_lt _ _)
      · simp
    have he : (encL s a).length ≤ 32 := by unfold encL; split <;> simp [byL_len]
    refine contract_of (N := _) (vars := _) (c := bodyOf Try.f7) Try.func7 (body_eq rfl) rfl rfl (by rfl) mixed _ _ trivial 1000 ?_
    simp only [bodyOf, Try.f7, Option.getD_some, argA, argE, List.length_cons, List.length_nil, Nat.reduceAdd, Nat.reduceSub, List.replicate, List.cons_append, List.nil_append]
    simp only [↓PX, SX, SYX, EY, simprocAttr, TYX, BY]
    refine CallVC.intro (c_alive) trivial rfl rfl ?_
    simp only [↓PX, SX, SYX, EY, simprocAttr, TYX, BY, e]
    refine CallVC.intro (c_CopyElems l (by omega)) ⟨(by simp only [argMatch, SX, SYX, EY, simprocAttr, and_self, List.length_append, List.length_map, List.length_set, TYX, BY]), trivial⟩ rfl rfl ?_
    simp only [↓PX, SX, SYX, EY, simprocAttr, TYX, BY]
    refine CallVC.intro (u_Invert s l hl (by omega)) ⟨rfl, (by simp only [argMatch, SX, SYX, EY, simprocAttr, and_self, List.length_append, List.length_map, List.length_set, TYX, BY]), trivial⟩ rfl rfl ?_
    simp only [↓PX, SX, SYX, EY, simprocAttr, TYX, BY]
    refine CallVC.intro (u_Invert s l hl (by omega)) ⟨rfl, (by simp only [argMatch, SX, SYX, EY, simprocAttr, and_self, List.length_append, List.length_map, List.length_set, TYX, BY]), trivial⟩ rfl rfl ?_
    simp only [↓PX, SX, SYX, EY, simprocAttr, TYX, BY]
    refine CallVC.intro (v_Invert s l hl (by omega)) ⟨rfl, (by simp only [argMatch, SX, SYX, EY, simprocAttr, and_self, List.length_append, List.length_map, List.length_set, TYX, BY]), trivial⟩ rfl rfl ?_
    simp only [↓PX, SX, SYX, EY, simprocAttr, TYX, BY]
    refine CallVC.intro (u_Encode s a ha) ⟨rfl, rfl, trivial⟩ rfl rfl ?_
    simp only [↓PX, SX, SYX, EY, simprocAttr, TYX, BY]
    refine CallVC.intro (u_Encode s a ha) ⟨rfl, rfl, trivial⟩ rfl rfl ?_
    simp only [↓PX, SX, SYX, EY, simprocAttr, TYX, BY]
    refine CallVC.intro (v_Encode s a ha) ⟨rfl, rfl, trivial⟩ rfl rfl ?_
    simp only [↓PX, SX, SYX, EY, simprocAttr, TYX, BY]
    refine CallVC.intro (c_SameElems _ _ hw hw (by omega)) ⟨(by simp only [argMatch, SX, SYX, EY, simprocAttr, and_self, List.length_append, List.length_map, List.length_set, TYX, BY]), (by simp only [argMatch, SX, SYX, EY, simprocAttr, and_self, List.length_append, List.length_map, List.length_set, TYX, BY]), trivial⟩ rfl rfl ?_
    simp only [↓PX, SX, SYX, EY, simprocAttr, TYX, BY]
    refine CallVC.intro (c_SameBytes (encL s a) (encL s a) (by omega)) ⟨(by simp only [argMatch, SX, SYX, EY, simprocAttr, and_self, List.length_append, List.length_map, List.length_set, TYX, BY]), (by simp only [argMatch, SX, SYX, EY, simprocAttr, and_self, List.length_append, List.length_map, List.length_set, TYX, BY]), trivial⟩ rfl rfl ?_
    simp only [↓PX, SX, SYX, EY, simprocAttr, TYX, BY]
    refine CallVC.give (c_Marked (invL s l) (by omega)) ⟨rfl, trivial⟩ rfl (by simp [refs]) ?_
    simp only [↓PX, SX, SYX, EY, simprocAttr, TYX, BY]
    refine loop_hav ?_
    simp only [↓PX, SX, SYX, EY, simprocAttr, TYX, BY]
    refine loop_go mixed (by trivial) (γ := Nat × List Nat) (fun g => g.1 ≤ (encL s a).length ∧ g.2.length = (encL s a).length) (fun g => (encL s a).length - g.1) (fun g => [(17, iv g.1)]) (fun g => [(147, .row 5 1 (encL s a).length (LC bC g.2))]) (0, encL s a) ⟨by simp, rfl⟩
      (St.le_of id (by simp [-List.getD_eq_getElem?_getD, SYX, iv, Tle, AVle, A0le, Mem.get]) (by simp [-List.getD_eq_getElem?_getD, SYX, Mle, Ele, Mem.get]) (by simp [SYX]) (by simp [SYX])) ?_
    rintro ⟨i, m⟩ ⟨hi2, hm⟩
    dsimp only at hi2 hm
    simp only [↓PX, SX, SYX, EY, simprocAttr, TYX, BY]
    refine cond_split (fun h0 => ?_) (fun h0 => ?_)
    · have h0 : i < (encL s a).length := by simpa using h0
      have hst : List.take i (LC bC m) ++ [.int .u8 1] ++ List.drop (i + 1) (LC bC m) = LC bC (m.set i 1) := bL_st (l := m) (j := i) (v := 1) (by omega)
      simp only [↓PX, SX, SYX, EY, simprocAttr, TYX, BY, hm, hst]
      repeat (first | refine DrawVC.intro (by kernel_rfl) ?_ | refine And.intro (by omega) ?_ | exact trivial)
      exact ⟨(i + 1, m.set i 1), ⟨by dsimp only; omega, by simp [hm]⟩, by dsimp only; omega, (St.le_of id (by simp [-List.getD_eq_getElem?_getD, SYX, iv, Tle, AVle, A0le, Mem.get, wS (j := i) (by omega)]) (by simp [-List.getD_eq_getElem?_getD, SYX, Mle, Ele, Mem.get, wS (j := i) (by omega)]) (by simp [SYX]) (by simp [SYX]))⟩
    · simp only [↓PX, SX, SYX, EY, simprocAttr, TYX, BY]
      refine CallVC.intro (c_SameElems _ _ hw hw (by omega)) ⟨(by simp only [argMatch, SX, SYX, EY, simprocAttr, and_self, List.length_append, List.length_map, List.length_set, TYX, BY]), (by simp only [argMatch, SX, SYX, EY, simprocAttr, and_self, List.length_append, List.length_map, List.length_set, TYX, BY]), trivial⟩ rfl rfl ?_
      simp only [↓PX, SX, SYX, EY, simprocAttr, TYX, BY]
      refine CallVC.intro (c_SameBytes (encL s a) (encL s a) (by omega)) ⟨(by simp only [argMatch, SX, SYX, EY, simprocAttr, and_self, List.length_append, List.length_map, List.length_set, TYX, BY]), (by simp only [argMatch, SX, SYX, EY, simprocAttr, and_self, List.length_append, List.length_map, List.length_set, TYX, BY]), trivial⟩ rfl rfl ?_
      simp only [↓PX, SX, SYX, EY, simprocAttr, TYX, BY]
      refine CallVC.intro (c_SameElems l l hl hl (by omega)) ⟨(by simp only [argMatch, SX, SYX, EY, simprocAttr, and_self, List.length_append, List.length_map, List.length_set, TYX, BY]), (by simp only [argMatch, SX, SYX, EY, simprocAttr, and_self, List.length_append, List.length_map, List.length_set, TYX, BY]), trivial⟩ rfl rfl ?_
      simp only [↓PX, SX, SYX, EY, simprocAttr, TYX, BY]
end Go.Sx
