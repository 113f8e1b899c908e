/-
  PolyProducts. No conditions.
-/
import Derived.Test.YtndmafefpiigoaaZPor
import Derived.Test.YtndmafefpiigoaaZPow
namespace Go.Sx
open Go.Proofs Go.Num
-- SY
-- TY: TYX, UX
set_option maxRecDepth 100000
set_option linter.unusedSimpArgs false
set_option pp.deepTerms true
set_option pp.maxSteps 100000
theorem pM_len {s : Int} {a b : List Nat} : (pM s a b).length ≤ a.length + b.length := by
  unfold pM
  split
  · have h1 := tp_len (md s) a
    have h2 := tp_len (md s) b
    have h3 := tp_len (md s) (pMul (tp (md s) a) (tp (md s) b))
    rw [pMul_len] at h3
    omega
  · simp
theorem pM_w {s : Int} {a b : List Nat} : ∀ x ∈ pM s a b, x < W256 := by
  unfold pM
  split
  · exact tpW s _
  · simp
theorem dvQ_len {s : Int} {a b : List Nat} : (dvQ s a b).length ≤ a.length + 1 := by
  unfold dvQ
  split
  · have h1 := tp_len (md s) a
    rw [tab_len]
    unfold nD
    omega
  · simp
theorem dvQ_w {s : Int} {a b : List Nat} : ∀ x ∈ dvQ s a b, x < W256 := by
  unfold dvQ
  split
  · exact tabW' fun i => md_w2 (dQ_lt _ _ _ _ _ _ _)
  · simp
theorem dvR_len {s : Int} {a b : List Nat} : (dvR s a b).length ≤ a.length := by
  unfold dvR
  split
  · have h1 := tp_len (md s) a
    have h3 := tp_len (md s) (tab (tp (md s) a).length (dRs s a b (nD s a b)))
    rw [tab_len] at h3
    omega
  · simp
theorem dvR_w {s : Int} {a b : List Nat} : ∀ x ∈ dvR s a b, x < W256 := by
  unfold dvR
  split
  · exact tpW s _
  · simp
theorem same_of (l : List Nat) (h1 : l.length ≤ 2000) (h2 : ∀ y ∈ l, y < W256) : Contract Try.prog 23 [.sl l.length 4 (LC eC l), .sl l.length 4 (LC eC l)] [.val (.bool true)] := by
  have := c_SameElems l l h2 h2 (by omega)
  rwa [beq_self_eq_true] at this
/-- What a spare list begins with. -/
theorem spare_take (a t : List Nat) : List.take (a.length * 4) (LC eC (a ++ t)) = LC eC a := by
  rw [LC_take eC_len, List.take_left]
theorem c_PolyProducts (s : Int) (a b : List Nat) (ha : ∀ y ∈ a, y < W256) (hb : ∀ y ∈ b, y < W256) (ha2 : a.length * 32 ≤ 140737488351232) (hb2 : b.length * 32 ≤ 140737488351232) :
    Contract Try.prog 4 [.val (.int .i64 s), .sl a.length 4 (LC eC a), .sl b.length 4 (LC eC b)] [.val (.bool true)] := by
  cases hg : (decide (60 < a.length) || decide (60 < b.length)) with
  | true =>
    refine contract_of (N := _) (vars := _) (c := bodyOf Try.f4) Try.func4 (body_eq rfl) rfl rfl (by rfl) mixed _ _ trivial 1000 ?_
    simp only [bodyOf, Try.f4, Option.getD_some, argA, argE, List.length_cons, List.length_nil, Nat.reduceAdd, Nat.reduceSub, List.replicate, List.cons_append, List.nil_append]
    simp only [↓PX, SX, SYX, EY, simprocAttr, TYX, UX]
    refine CallVC.intro (c_alive7) trivial rfl rfl ?_
    simp only [↓PX, SX, SYX, EY, simprocAttr, TYX, UX]
    refine CallVC.intro (c_great7 a b) ⟨(by simp only [argMatch, SX, SYX, EY, simprocAttr, and_self, List.length_append, List.length_map, List.length_set, TYX, UX, hg]), (by simp only [argMatch, SX, SYX, EY, simprocAttr, and_self, List.length_append, List.length_map, List.length_set, TYX, UX, hg]), trivial⟩ rfl rfl ?_
    simp only [↓PX, SX, SYX, EY, simprocAttr, TYX, UX, hg]
  | false =>
    have hg' : a.length ≤ 60 ∧ b.length ≤ 60 := by simpa using hg
    have q1 := pM_len (s := s) (a := a) (b := b)
    have q2 := dvQ_len (s := s) (a := a) (b := b)
    have q3 := dvR_len (s := s) (a := a) (b := b)
    have hs := same_of (a ++ [901, 902, 903, 904]) (by simp; omega) (spareW ha)
    have hlen : (a ++ [901, 902, 903, 904]).length = a.length + 4 := by simp
    rw [hlen] at hs
    have hw1 : IntKind.i64.wrap (a.length : Int) = a.length := wI (by omega) (by omega)
    refine contract_of (N := _) (vars := _) (c := bodyOf Try.f4) Try.func4 (body_eq rfl) rfl rfl (by rfl) mixed _ _ trivial 1000 ?_
    simp only [bodyOf, Try.f4, Option.getD_some, argA, argE, List.length_cons, List.length_nil, Nat.reduceAdd, Nat.reduceSub, List.replicate, List.cons_append, List.nil_append]
    simp only [↓PX, SX, SYX, EY, simprocAttr, TYX, UX]
    refine CallVC.intro (c_alive7) trivial rfl rfl ?_
    simp only [↓PX, SX, SYX, EY, simprocAttr, TYX, UX]
    refine CallVC.intro (c_great7 a b) ⟨(by simp only [argMatch, SX, SYX, EY, simprocAttr, and_self, List.length_append, List.length_map, List.length_set, TYX, UX, hg]), (by simp only [argMatch, SX, SYX, EY, simprocAttr, and_self, List.length_append, List.length_map, List.length_set, TYX, UX, hg]), trivial⟩ rfl rfl ?_
    simp only [↓PX, SX, SYX, EY, simprocAttr, TYX, UX, hg]
    refine CallVC.intro (c_SpareElems a (by omega)) ⟨(by simp only [argMatch, SX, SYX, EY, simprocAttr, and_self, List.length_append, List.length_map, List.length_set, TYX, UX]), trivial⟩ rfl rfl ?_
    simp only [↓PX, SX, SYX, EY, simprocAttr, TYX, UX]
    refine CallVC.intro (c_CopyElems b (by omega)) ⟨(by simp only [argMatch, SX, SYX, EY, simprocAttr, and_self, List.length_append, List.length_map, List.length_set, TYX, UX]), trivial⟩ rfl rfl ?_
    simp only [↓PX, SX, SYX, EY, simprocAttr, TYX, UX]
    repeat (first | refine DrawVC.intro (by kernel_rfl) ?_ | refine And.intro (by omega) ?_ | exact trivial)
    refine CallVC.intro (u_PMul s a b ha hb (by omega) (by omega)) ⟨rfl, (by simp only [argMatch, SX, SYX, EY, simprocAttr, and_self, List.length_append, List.length_map, List.length_set, TYX, UX, spare_take]), (by simp only [argMatch, SX, SYX, EY, simprocAttr, and_self, List.length_append, List.length_map, List.length_set, TYX, UX, spare_take]), trivial⟩ rfl rfl ?_
    simp only [↓PX, SX, SYX, EY, simprocAttr, TYX, UX, spare_take]
    refine CallVC.intro (v_PMul s a b ha hb (by omega) (by omega)) ⟨rfl, (by simp only [argMatch, SX, SYX, EY, simprocAttr, and_self, List.length_append, List.length_map, List.length_set, TYX, UX]), (by simp only [argMatch, SX, SYX, EY, simprocAttr, and_self, List.length_append, List.length_map, List.length_set, TYX, UX]), trivial⟩ rfl rfl ?_
    simp only [↓PX, SX, SYX, EY, simprocAttr, TYX, UX]
    refine CallVC.intro (same_of (pM s a b) (by omega) pM_w) ⟨(by simp only [argMatch, SX, SYX, EY, simprocAttr, and_self, List.length_append, List.length_map, List.length_set, TYX, UX]), (by simp only [argMatch, SX, SYX, EY, simprocAttr, and_self, List.length_append, List.length_map, List.length_set, TYX, UX]), trivial⟩ rfl rfl ?_
    simp only [↓PX, SX, SYX, EY, simprocAttr, TYX, UX]
    repeat (first | refine DrawVC.intro (by kernel_rfl) ?_ | refine And.intro (by omega) ?_ | exact trivial)
    refine CallVC.intro (u_Divide s a b ha hb (by omega) (by omega)) ⟨rfl, (by simp only [argMatch, SX, SYX, EY, simprocAttr, and_self, List.length_append, List.length_map, List.length_set, TYX, UX, spare_take]), (by simp only [argMatch, SX, SYX, EY, simprocAttr, and_self, List.length_append, List.length_map, List.length_set, TYX, UX, spare_take]), trivial⟩ rfl rfl ?_
    simp only [↓PX, SX, SYX, EY, simprocAttr, TYX, UX, spare_take]
    refine CallVC.intro (v_Divide s a b ha hb (by omega) (by omega)) ⟨rfl, (by simp only [argMatch, SX, SYX, EY, simprocAttr, and_self, List.length_append, List.length_map, List.length_set, TYX, UX]), (by simp only [argMatch, SX, SYX, EY, simprocAttr, and_self, List.length_append, List.length_map, List.length_set, TYX, UX]), trivial⟩ rfl rfl ?_
    simp only [↓PX, SX, SYX, EY, simprocAttr, TYX, UX]
    refine CallVC.intro (same_of (dvQ s a b) (by omega) dvQ_w) ⟨(by simp only [argMatch, SX, SYX, EY, simprocAttr, and_self, List.length_append, List.length_map, List.length_set, TYX, UX]), (by simp only [argMatch, SX, SYX, EY, simprocAttr, and_self, List.length_append, List.length_map, List.length_set, TYX, UX]), trivial⟩ rfl rfl ?_
    simp only [↓PX, SX, SYX, EY, simprocAttr, TYX, UX]
    refine CallVC.intro (same_of (dvR s a b) (by omega) dvR_w) ⟨(by simp only [argMatch, SX, SYX, EY, simprocAttr, and_self, List.length_append, List.length_map, List.length_set, TYX, UX]), (by simp only [argMatch, SX, SYX, EY, simprocAttr, and_self, List.length_append, List.length_map, List.length_set, TYX, UX]), trivial⟩ rfl rfl ?_
    simp only [↓PX, SX, SYX, EY, simprocAttr, TYX, UX]
    refine CallVC.intro (c_SpareElems a (by omega)) ⟨(by simp only [argMatch, SX, SYX, EY, simprocAttr, and_self, List.length_append, List.length_map, List.length_set, TYX, UX]), trivial⟩ rfl rfl ?_
    simp only [↓PX, SX, SYX, EY, simprocAttr, TYX, UX]
    refine CallVC.intro (hs) ⟨(by simp only [argMatch, SX, SYX, EY, simprocAttr, and_self, List.length_append, List.length_map, List.length_set, TYX, UX]), (by simp only [argMatch, SX, SYX, EY, simprocAttr, and_self, List.length_append, List.length_map, List.length_set, TYX, UX]), trivial⟩ rfl rfl ?_
    simp only [↓PX, SX, SYX, EY, simprocAttr, TYX, UX]
    refine CallVC.intro (same_of b (by omega) hb) ⟨(by simp only [argMatch, SX, SYX, EY, simprocAttr, and_self, List.length_append, List.length_map, List.length_set, TYX, UX]), (by simp only [argMatch, SX, SYX, EY, simprocAttr, and_self, List.length_append, List.length_map, List.length_set, TYX, UX]), trivial⟩ rfl rfl ?_
    simp only [↓PX, SX, SYX, EY, simprocAttr, TYX, UX]
end Go.Sx
