/-
  What the laws of layer 7 begin with; PolySums, PolyProducts' first half. No conditions.
-/
import Derived.Test.YtndmafefpiigoaaZPoq
namespace Go.Sx
open Go.Proofs Go.Num
-- SY
-- TY: TYX, UX
set_option maxRecDepth 100000
set_option linter.unusedSimpArgs false
set_option pp.deepTerms true
set_option pp.maxSteps 100000
theorem alive7_m : pM 0 [1, 1] [1, 1] = [1, 2, 1] ∧ eM 0 [1, 1] [1, 1] = 0 := by decide +kernel
theorem c_alive7 : Contract Try.prog 19 [] [.val (.bool true)] := by
  have hc : Contract Try.prog 32 [.val (.int .i64 0), .sl 2 4 [u64 (L0 1), u64 (L1 1), u64 (L2 1), u64 (L3 1), u64 (L0 1), u64 (L1 1), u64 (L2 1), u64 (L3 1)], .sl 2 4 [u64 (L0 1), u64 (L1 1), u64 (L2 1), u64 (L3 1), u64 (L0 1), u64 (L1 1), u64 (L2 1), u64 (L3 1)]] [.row 25 4 3 (LC eC [1, 2, 1]), .val (.int .i64 0)] := by
    have h := u_PMul 0 [1, 1] [1, 1] (by decide) (by decide) (by decide) (by decide)
    rw [alive7_m.1, alive7_m.2] at h
    exact h
  have hs : Contract Try.prog 23 [.sl 3 4 (LC eC [1, 2, 1]), .sl 3 4 [u64 (L0 1), u64 (L1 1), u64 (L2 1), u64 (L3 1), u64 (L0 2), u64 (L1 2), u64 (L2 2), u64 (L3 2), u64 (L0 1), u64 (L1 1), u64 (L2 1), u64 (L3 1)]] [.val (.bool true)] :=
    c_SameElems [1, 2, 1] [1, 2, 1] (by decide) (by decide) (by decide)
  refine contract_of (N := _) (vars := _) (c := bodyOf Try.f19) Try.func19 (body_eq rfl) rfl rfl (by rfl) mixed _ _ trivial 1000 ?_
  simp only [bodyOf, Try.f19, Option.getD_some, argA, argE, List.length_cons, List.length_nil, Nat.reduceAdd, Nat.reduceSub, List.replicate, List.cons_append, List.nil_append]
  simp only [↓PX, SX, SYX, EY, simprocAttr, TYX, UX]
  refine CallVC.intro (hc) ⟨rfl, (by simp only [argMatch, SX, SYX, EY, simprocAttr, and_self, List.length_append, List.length_map, List.length_set, TYX, UX]), (by simp only [argMatch, SX, SYX, EY, simprocAttr, and_self, List.length_append, List.length_map, List.length_set, TYX, UX]), trivial⟩ rfl rfl ?_
  simp only [↓PX, SX, SYX, EY, simprocAttr, TYX, UX]
  refine CallVC.intro (hs) ⟨(by simp only [argMatch, SX, SYX, EY, simprocAttr, and_self, List.length_append, List.length_map, List.length_set, TYX, UX]), (by simp only [argMatch, SX, SYX, EY, simprocAttr, and_self, List.length_append, List.length_map, List.length_set, TYX, UX]), trivial⟩ rfl rfl ?_
  simp only [↓PX, SX, SYX, EY, simprocAttr, TYX, UX]
theorem c_great7 (a b : List Nat) : Contract Try.prog 20 [.sl a.length 4 (LC eC a), .sl b.length 4 (LC eC b)] [.val (.bool (decide (60 < a.length) || decide (60 < b.length)))] := by
  by_cases h : 60 < a.length
  · have d : decide ((60 : Int) < (a.length : Int)) = true := by simp; omega
    refine contract_of (N := _) (vars := _) (c := bodyOf Try.f20) Try.func20 (body_eq rfl) rfl rfl (by rfl) mixed _ _ trivial 1000 ?_
    simp only [bodyOf, Try.f20, Option.getD_some, argA, argE, List.length_cons, List.length_nil, Nat.reduceAdd, Nat.reduceSub, List.replicate, List.cons_append, List.nil_append]
    simp only [↓PX, SX, SYX, EY, simprocAttr, TYX, UX]
    simp only [↓PX, SX, SYX, EY, simprocAttr, TYX, UX, d]
    simp [h]
  · have d : decide ((60 : Int) < (a.length : Int)) = false := by simp; omega
    refine contract_of (N := _) (vars := _) (c := bodyOf Try.f20) Try.func20 (body_eq rfl) rfl rfl (by rfl) mixed _ _ trivial 1000 ?_
    simp only [bodyOf, Try.f20, Option.getD_some, argA, argE, List.length_cons, List.length_nil, Nat.reduceAdd, Nat.reduceSub, List.replicate, List.cons_append, List.nil_append]
    simp only [↓PX, SX, SYX, EY, simprocAttr, TYX, UX]
    simp only [↓PX, SX, SYX, EY, simprocAttr, TYX, UX, d]
    have e : decide ((60 : Int) < (b.length : Int)) = decide (60 < b.length) := by rw [Bool.eq_iff_iff]; simp; omega
    simp [h, e]
def spare (l : List Nat) : List Nat := l ++ [901, 902, 903, 904]
theorem spareW {l : List Nat} (hl : ∀ x ∈ l, x < W256) : ∀ x ∈ l ++ [901, 902, 903, 904], x < W256 := by
  intro x hx
  rcases List.mem_append.1 hx with h | h
  · exact hl x h
  · have : x < 905 := by simp at h; omega
    unfold W256; omega
theorem c_PolySums (s : Int) (a b : List Nat) (x : Nat) (ha : ∀ y ∈ a, y < W256) (hb : ∀ y ∈ b, y < W256) (hx : x < W256) (ha2 : a.length * 32 ≤ 140737488351232) (hb2 : b.length * 32 ≤ 140737488351232) :
    Contract Try.prog 3 [.val (.int .i64 s), .sl a.length 4 (LC eC a), .sl b.length 4 (LC eC b), .val (EN x)] [.val (.bool true)] := by
  cases hg : (decide (60 < a.length) || decide (60 < b.length)) with
  | true =>
    refine contract_of (N := _) (vars := _) (c := bodyOf Try.f3) Try.func3 (body_eq rfl) rfl rfl (by rfl) mixed _ _ trivial 1000 ?_
    simp only [bodyOf, Try.f3, Option.getD_some, argA, argE, List.length_cons, List.length_nil, Nat.reduceAdd, Nat.reduceSub, List.replicate, List.cons_append, List.nil_append]
    simp only [↓PX, SX, SYX, EY, simprocAttr, TYX, UX]
    refine CallVC.intro (c_alive7) trivial rfl rfl ?_
    simp only [↓PX, SX, SYX, EY, simprocAttr, TYX, UX]
    refine CallVC.intro (c_great7 a b) ⟨(by simp only [argMatch, SX, SYX, EY, simprocAttr, and_self, List.length_append, List.length_map, List.length_set, TYX, UX, hg]), (by simp only [argMatch, SX, SYX, EY, simprocAttr, and_self, List.length_append, List.length_map, List.length_set, TYX, UX, hg]), trivial⟩ rfl rfl ?_
    simp only [↓PX, SX, SYX, EY, simprocAttr, TYX, UX, hg]
  | false =>
    have hg' : a.length ≤ 60 ∧ b.length ≤ 60 := by simpa using hg
    refine contract_of (N := _) (vars := _) (c := bodyOf Try.f3) Try.func3 (body_eq rfl) rfl rfl (by rfl) mixed _ _ trivial 1000 ?_
    simp only [bodyOf, Try.f3, Option.getD_some, argA, argE, List.length_cons, List.length_nil, Nat.reduceAdd, Nat.reduceSub, List.replicate, List.cons_append, List.nil_append]
    simp only [↓PX, SX, SYX, EY, simprocAttr, TYX, UX]
    refine CallVC.intro (c_alive7) trivial rfl rfl ?_
    simp only [↓PX, SX, SYX, EY, simprocAttr, TYX, UX]
    refine CallVC.intro (c_great7 a b) ⟨(by simp only [argMatch, SX, SYX, EY, simprocAttr, and_self, List.length_append, List.length_map, List.length_set, TYX, UX, hg]), (by simp only [argMatch, SX, SYX, EY, simprocAttr, and_self, List.length_append, List.length_map, List.length_set, TYX, UX, hg]), trivial⟩ rfl rfl ?_
    simp only [↓PX, SX, SYX, EY, simprocAttr, TYX, UX, hg]
    refine CallVC.intro (c_SpareElems a (by omega)) ⟨(by simp only [argMatch, SX, SYX, EY, simprocAttr, and_self, List.length_append, List.length_map, List.length_set, TYX, UX]), trivial⟩ rfl rfl ?_
    simp only [↓PX, SX, SYX, EY, simprocAttr, TYX, UX]
    refine CallVC.intro (c_CopyElems b (by omega)) ⟨(by simp only [argMatch, SX, SYX, EY, simprocAttr, and_self, List.length_append, List.length_map, List.length_set, TYX, UX]), trivial⟩ rfl rfl ?_
    simp only [↓PX, SX, SYX, EY, simprocAttr, TYX, UX]
    repeat (first | refine DrawVC.intro (by kernel_rfl) ?_ | refine And.intro (by omega) ?_ | exact trivial)
    have l1 := tp_len (md s) a
    have l2 := tp_len (md s) (pAdd a b)
    have l3 := tp_len (md s) (pScale a x)
    have l4 : (pAdd a b).length = max a.length b.length := by unfold pAdd; exact tab_len
    have l5 : (pScale a x).length = a.length := by unfold pScale; simp
    have same : ∀ l : List Nat, l.length ≤ 100 → (∀ y ∈ l, y < W256) → Contract Try.prog 23 [.sl l.length 4 (LC eC l), .sl l.length 4 (LC eC l)] [.val (.bool true)] := fun l h1 h2 => by
      have := c_SameElems l l h2 h2 (by omega)
      rwa [beq_self_eq_true] at this
    refine CallVC.intro (u_Trim s a ha (by omega)) ⟨rfl, (by simp only [argMatch, SX, SYX, EY, simprocAttr, and_self, List.length_append, List.length_map, List.length_set, TYX, UX]), trivial⟩ rfl rfl ?_
    simp only [↓PX, SX, SYX, EY, simprocAttr, TYX, UX]
    refine CallVC.intro (v_Trim s a ha (by omega)) ⟨rfl, (by simp only [argMatch, SX, SYX, EY, simprocAttr, and_self, List.length_append, List.length_map, List.length_set, TYX, UX]), trivial⟩ rfl rfl ?_
    simp only [↓PX, SX, SYX, EY, simprocAttr, TYX, UX]
    refine CallVC.intro (same _ (by omega) (tpW s a)) ⟨(by simp only [argMatch, SX, SYX, EY, simprocAttr, and_self, List.length_append, List.length_map, List.length_set, TYX, UX]), (by simp only [argMatch, SX, SYX, EY, simprocAttr, and_self, List.length_append, List.length_map, List.length_set, TYX, UX]), trivial⟩ rfl rfl ?_
    simp only [↓PX, SX, SYX, EY, simprocAttr, TYX, UX]
    repeat (first | refine DrawVC.intro (by kernel_rfl) ?_ | refine And.intro (by omega) ?_ | exact trivial)
    refine CallVC.intro (u_PAdd s a b ha hb (by omega) (by omega)) ⟨rfl, (by simp only [argMatch, SX, SYX, EY, simprocAttr, and_self, List.length_append, List.length_map, List.length_set, TYX, UX]), (by simp only [argMatch, SX, SYX, EY, simprocAttr, and_self, List.length_append, List.length_map, List.length_set, TYX, UX]), trivial⟩ rfl rfl ?_
    simp only [↓PX, SX, SYX, EY, simprocAttr, TYX, UX]
    refine CallVC.intro (v_PAdd s a b ha hb (by omega) (by omega)) ⟨rfl, (by simp only [argMatch, SX, SYX, EY, simprocAttr, and_self, List.length_append, List.length_map, List.length_set, TYX, UX]), (by simp only [argMatch, SX, SYX, EY, simprocAttr, and_self, List.length_append, List.length_map, List.length_set, TYX, UX]), trivial⟩ rfl rfl ?_
    simp only [↓PX, SX, SYX, EY, simprocAttr, TYX, UX]
    refine CallVC.intro (same _ (by omega) (tpW s (pAdd a b))) ⟨(by simp only [argMatch, SX, SYX, EY, simprocAttr, and_self, List.length_append, List.length_map, List.length_set, TYX, UX]), (by simp only [argMatch, SX, SYX, EY, simprocAttr, and_self, List.length_append, List.length_map, List.length_set, TYX, UX]), trivial⟩ rfl rfl ?_
    simp only [↓PX, SX, SYX, EY, simprocAttr, TYX, UX]
    repeat (first | refine DrawVC.intro (by kernel_rfl) ?_ | refine And.intro (by omega) ?_ | exact trivial)
    refine CallVC.intro (u_PScale s a x ha hx (by omega)) ⟨rfl, (by simp only [argMatch, SX, SYX, EY, simprocAttr, and_self, List.length_append, List.length_map, List.length_set, TYX, UX]), rfl, trivial⟩ rfl rfl ?_
    simp only [↓PX, SX, SYX, EY, simprocAttr, TYX, UX]
    refine CallVC.intro (v_PScale s a x ha hx (by omega)) ⟨rfl, (by simp only [argMatch, SX, SYX, EY, simprocAttr, and_self, List.length_append, List.length_map, List.length_set, TYX, UX]), rfl, trivial⟩ rfl rfl ?_
    simp only [↓PX, SX, SYX, EY, simprocAttr, TYX, UX]
    refine CallVC.intro (same _ (by omega) (tpW s (pScale a x))) ⟨(by simp only [argMatch, SX, SYX, EY, simprocAttr, and_self, List.length_append, List.length_map, List.length_set, TYX, UX]), (by simp only [argMatch, SX, SYX, EY, simprocAttr, and_self, List.length_append, List.length_map, List.length_set, TYX, UX]), trivial⟩ rfl rfl ?_
    simp only [↓PX, SX, SYX, EY, simprocAttr, TYX, UX]
    repeat (first | refine DrawVC.intro (by kernel_rfl) ?_ | refine And.intro (by omega) ?_ | exact trivial)
    refine CallVC.intro (u_Eval s a x ha hx (by omega)) ⟨rfl, (by simp only [argMatch, SX, SYX, EY, simprocAttr, and_self, List.length_append, List.length_map, List.length_set, TYX, UX]), rfl, trivial⟩ rfl rfl ?_
    simp only [↓PX, SX, SYX, EY, simprocAttr, TYX, UX]
    refine CallVC.intro (v_Eval s a x ha hx (by omega)) ⟨rfl, (by simp only [argMatch, SX, SYX, EY, simprocAttr, and_self, List.length_append, List.length_map, List.length_set, TYX, UX]), rfl, trivial⟩ rfl rfl ?_
    simp only [↓PX, SX, SYX, EY, simprocAttr, TYX, UX]
    repeat (first | refine DrawVC.intro (by kernel_rfl) ?_ | refine And.intro (by omega) ?_ | exact trivial)
    refine CallVC.intro (c_SpareElems a (by omega)) ⟨(by simp only [argMatch, SX, SYX, EY, simprocAttr, and_self, List.length_append, List.length_map, List.length_set, TYX, UX]), trivial⟩ rfl rfl ?_
    simp only [↓PX, SX, SYX, EY, simprocAttr, TYX, UX]
    have hs := same (a ++ [901, 902, 903, 904]) (by simp; omega) (spareW ha)
    have hlen : (a ++ [901, 902, 903, 904]).length = a.length + 4 := by simp
    rw [hlen] at hs
    refine CallVC.intro (hs) ⟨(by simp only [argMatch, SX, SYX, EY, simprocAttr, and_self, List.length_append, List.length_map, List.length_set, TYX, UX]), (by simp only [argMatch, SX, SYX, EY, simprocAttr, and_self, List.length_append, List.length_map, List.length_set, TYX, UX]), trivial⟩ rfl rfl ?_
    simp only [↓PX, SX, SYX, EY, simprocAttr, TYX, UX]
    refine CallVC.intro (same b (by omega) hb) ⟨(by simp only [argMatch, SX, SYX, EY, simprocAttr, and_self, List.length_append, List.length_map, List.length_set, TYX, UX]), (by simp only [argMatch, SX, SYX, EY, simprocAttr, and_self, List.length_append, List.length_map, List.length_set, TYX, UX]), trivial⟩ rfl rfl ?_
    simp only [↓PX, SX, SYX, EY, simprocAttr, TYX, UX]
end Go.Sx
