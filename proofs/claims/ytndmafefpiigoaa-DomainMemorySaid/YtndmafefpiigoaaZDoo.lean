/-
  DomainValues. No conditions.
-/
import Derived.Test.YtndmafefpiigoaaZDon
namespace Go.Sx
open Go.Proofs Go.Num
-- SY
-- TY: TYX, UX
set_option maxRecDepth 100000
set_option linter.unusedSimpArgs false
set_option pp.deepTerms true
set_option pp.maxSteps 100000
theorem tab_w {n : Nat} {f : Nat → Nat} (h : ∀ i, f i < W256) : ∀ x ∈ tab n f, x < W256 := by
  intro x hx
  simp only [tab, List.mem_map, List.mem_range] at hx
  obtain ⟨i, _, rfl⟩ := hx
  exact h i
theorem vaL_w {s k : Int} {sh : Nat} {l : List Nat} : ∀ x ∈ vaL s k sh l, x < W256 := by
  unfold vaL
  split
  · exact tab_w fun i => evp_lt _ _ _
  · simp
theorem vaL_len {s k : Int} {sh : Nat} {l : List Nat} : (vaL s k sh l).length ≤ 512 := by
  unfold vaL
  cases h : vaO s k sh l with
  | true =>
    rw [if_pos rfl, tab_len]
    simp only [vaO, Bool.and_eq_true] at h
    exact pow_le9 (by have := ptO_iff.1 h.1.1; omega)
  | false => simp
theorem coL_len {s k : Int} {sh : Nat} {l : List Nat} : (coL s k sh l).length ≤ 512 := by
  unfold coL
  cases h : coO s k sh l with
  | true =>
    rw [if_pos rfl, tab_len]
    simp only [coO, Bool.and_eq_true] at h
    exact pow_le9 (by have := ptO_iff.1 h.1.1; omega)
  | false => simp
theorem c_DomainMemory (s k : Int) (l : List Nat) (hl : ∀ x ∈ l, x < W256) (hb : l.length * 32 ≤ 140737488351232) : Contract Try.prog 17 [.val (.int .i64 s), .val (.int .i64 k), .sl l.length 4 (LC eC l)] [.val (.bool true)] := by
  cases hg : gr6 s k with
  | true =>
    refine contract_of (N := _) (vars := _) (c := bodyOf Try.f17) Try.func17 (body_eq rfl) rfl rfl (by rfl) mixed _ _ trivial 1000 ?_
    simp only [bodyOf, Try.f17, Option.getD_some, argA, argE, List.length_cons, List.length_nil, Nat.reduceAdd, Nat.reduceSub, List.replicate, List.cons_append, List.nil_append]
    simp only [↓PX, SX, SYX, EY, simprocAttr, TYX, UX]
    refine CallVC.intro (c_alive6) trivial rfl rfl ?_
    simp only [↓PX, SX, SYX, EY, simprocAttr, TYX, UX]
    refine CallVC.intro (c_great6 s k) ⟨rfl, rfl, trivial⟩ rfl rfl ?_
    simp only [↓PX, SX, SYX, EY, simprocAttr, TYX, UX, hg]
  | false =>
    cases d0 : decide ((64 : Int) < (l.length : Int)) with
    | true =>
      refine contract_of (N := _) (vars := _) (c := bodyOf Try.f17) Try.func17 (body_eq rfl) rfl rfl (by rfl) mixed _ _ trivial 1000 ?_
      simp only [bodyOf, Try.f17, Option.getD_some, argA, argE, List.length_cons, List.length_nil, Nat.reduceAdd, Nat.reduceSub, List.replicate, List.cons_append, List.nil_append]
      simp only [↓PX, SX, SYX, EY, simprocAttr, TYX, UX]
      refine CallVC.intro (c_alive6) trivial rfl rfl ?_
      simp only [↓PX, SX, SYX, EY, simprocAttr, TYX, UX]
      refine CallVC.intro (c_great6 s k) ⟨rfl, rfl, trivial⟩ rfl rfl ?_
      simp only [↓PX, SX, SYX, EY, simprocAttr, TYX, UX, hg, d0]
    | false =>
      have q := of_decide_eq_false d0
      have l1 := vaL_len (s := s) (k := k) (sh := 1) (l := l)
      have l2 := coL_len (s := s) (k := k) (sh := 1) (l := l)
      have l3 := ptL_len2 (s := s) (k := k)
      have h1 : 1 < W256 := by decide
      refine contract_of (N := _) (vars := _) (c := bodyOf Try.f17) Try.func17 (body_eq rfl) rfl rfl (by rfl) mixed _ _ trivial 1000 ?_
      simp only [bodyOf, Try.f17, Option.getD_some, argA, argE, List.length_cons, List.length_nil, Nat.reduceAdd, Nat.reduceSub, List.replicate, List.cons_append, List.nil_append]
      simp only [↓PX, SX, SYX, EY, simprocAttr, TYX, UX]
      refine CallVC.intro (c_alive6) trivial rfl rfl ?_
      simp only [↓PX, SX, SYX, EY, simprocAttr, TYX, UX]
      refine CallVC.intro (c_great6 s k) ⟨rfl, rfl, trivial⟩ rfl rfl ?_
      simp only [↓PX, SX, SYX, EY, simprocAttr, TYX, UX, hg, d0]
      refine CallVC.intro (c_CopyElems l (by omega)) ⟨(by simp only [argMatch, SX, SYX, EY, simprocAttr, and_self, List.length_append, List.length_map, List.length_set, TYX, UX]), trivial⟩ rfl rfl ?_
      simp only [↓PX, SX, SYX, EY, simprocAttr, TYX, UX]
      refine CallVC.intro (u_Values s k 1 l h1 hl (by omega)) ⟨rfl, rfl, rfl, (by simp only [argMatch, SX, SYX, EY, simprocAttr, and_self, List.length_append, List.length_map, List.length_set, TYX, UX]), trivial⟩ rfl rfl ?_
      simp only [↓PX, SX, SYX, EY, simprocAttr, TYX, UX]
      refine CallVC.intro (u_Values s k 1 l h1 hl (by omega)) ⟨rfl, rfl, rfl, (by simp only [argMatch, SX, SYX, EY, simprocAttr, and_self, List.length_append, List.length_map, List.length_set, TYX, UX]), trivial⟩ rfl rfl ?_
      simp only [↓PX, SX, SYX, EY, simprocAttr, TYX, UX]
      refine CallVC.intro (u_Coeffs s k 1 l h1 hl (by omega)) ⟨rfl, rfl, rfl, (by simp only [argMatch, SX, SYX, EY, simprocAttr, and_self, List.length_append, List.length_map, List.length_set, TYX, UX]), trivial⟩ rfl rfl ?_
      simp only [↓PX, SX, SYX, EY, simprocAttr, TYX, UX]
      refine CallVC.intro (u_Points s k) ⟨rfl, rfl, trivial⟩ rfl rfl ?_
      simp only [↓PX, SX, SYX, EY, simprocAttr, TYX, UX]
      refine CallVC.intro (u_Points s k) ⟨rfl, rfl, trivial⟩ rfl rfl ?_
      simp only [↓PX, SX, SYX, EY, simprocAttr, TYX, UX]
      refine CallVC.intro (v_Values s k 1 l h1 hl (by omega)) ⟨rfl, rfl, rfl, (by simp only [argMatch, SX, SYX, EY, simprocAttr, and_self, List.length_append, List.length_map, List.length_set, TYX, UX]), trivial⟩ rfl rfl ?_
      simp only [↓PX, SX, SYX, EY, simprocAttr, TYX, UX]
      refine CallVC.intro (v_Points s k) ⟨rfl, rfl, trivial⟩ rfl rfl ?_
      simp only [↓PX, SX, SYX, EY, simprocAttr, TYX, UX]
      refine CallVC.intro (same_of (vaL s k 1 l) (by omega) vaL_w) ⟨(by simp only [argMatch, SX, SYX, EY, simprocAttr, and_self, List.length_append, List.length_map, List.length_set, TYX, UX]), (by simp only [argMatch, SX, SYX, EY, simprocAttr, and_self, List.length_append, List.length_map, List.length_set, TYX, UX]), trivial⟩ rfl rfl ?_
      simp only [↓PX, SX, SYX, EY, simprocAttr, TYX, UX]
      refine CallVC.give (c_Marked (vaL s k 1 l) (by omega)) ⟨rfl, trivial⟩ rfl (by simp [refs]) ?_
      simp only [↓PX, SX, SYX, EY, simprocAttr, TYX, UX]
      refine CallVC.give (c_Marked (coL s k 1 l) (by omega)) ⟨rfl, trivial⟩ rfl (by simp [refs]) ?_
      simp only [↓PX, SX, SYX, EY, simprocAttr, TYX, UX]
      refine CallVC.give (c_Marked (ptL s k) (by omega)) ⟨rfl, trivial⟩ rfl (by simp [refs]) ?_
      simp only [↓PX, SX, SYX, EY, simprocAttr, TYX, UX]
      refine CallVC.intro (same_of (vaL s k 1 l) (by omega) vaL_w) ⟨(by simp only [argMatch, SX, SYX, EY, simprocAttr, and_self, List.length_append, List.length_map, List.length_set, TYX, UX]), (by simp only [argMatch, SX, SYX, EY, simprocAttr, and_self, List.length_append, List.length_map, List.length_set, TYX, UX]), trivial⟩ rfl rfl ?_
      simp only [↓PX, SX, SYX, EY, simprocAttr, TYX, UX]
      refine CallVC.intro (same_of (ptL s k) (by omega) ptL_w) ⟨(by simp only [argMatch, SX, SYX, EY, simprocAttr, and_self, List.length_append, List.length_map, List.length_set, TYX, UX]), (by simp only [argMatch, SX, SYX, EY, simprocAttr, and_self, List.length_append, List.length_map, List.length_set, TYX, UX]), trivial⟩ rfl rfl ?_
      simp only [↓PX, SX, SYX, EY, simprocAttr, TYX, UX]
      refine CallVC.intro (same_of l (by omega) hl) ⟨(by simp only [argMatch, SX, SYX, EY, simprocAttr, and_self, List.length_append, List.length_map, List.length_set, TYX, UX]), (by simp only [argMatch, SX, SYX, EY, simprocAttr, and_self, List.length_append, List.length_map, List.length_set, TYX, UX]), trivial⟩ rfl rfl ?_
      simp only [↓PX, SX, SYX, EY, simprocAttr, TYX, UX]
end Go.Sx
