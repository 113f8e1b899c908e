/-
  DomainValues. No conditions.
-/
import Derived.Test.YtndmafefpiigoaaZDon
namespace Go.Sx
open Go.Proofs Go.Num
-- SY
-- TY: TYX, UX
set_option maxRecDepth 100000
set_option linter.unusedSimpArgs false
set_option pp.deepTerms true
set_option pp.maxSteps 100000
theorem tab_w {n : Nat} {f : Nat → Nat} (h : ∀ i, f i < W256) : ∀ x ∈ tab n f, x < W256 := by
  intro x hx
  simp only [tab, List.mem_map, List.mem_range] at hx
  obtain ⟨i, _, rfl⟩ := hx
  exact h i
theorem vaL_w {s k : Int} {sh : Nat} {l : List Nat} : ∀ x ∈ vaL s k sh l, x < W256 := by
  unfold vaL
  split
  · exact tab_w fun i => evp_lt _ _ _
  · simp
theorem coL_w {s k : Int} {sh : Nat} {l : List Nat} : ∀ x ∈ coL s k sh l, x < W256 := by
  unfold coL
  split
  · exact tab_w fun i => md_w s _
  · simp
theorem vaL_len {s k : Int} {sh : Nat} {l : List Nat} : (vaL s k sh l).length ≤ 512 := by
  unfold vaL
  cases h : vaO s k sh l with
  | true =>
    rw [if_pos rfl, tab_len]
    simp only [vaO, Bool.and_eq_true] at h
    exact pow_le9 (by have := ptO_iff.1 h.1.1; omega)
  | false => simp
theorem coL_len {s k : Int} {sh : Nat} {l : List Nat} : (coL s k sh l).length ≤ 512 := by
  unfold coL
  cases h : coO s k sh l with
  | true =>
    rw [if_pos rfl, tab_len]
    simp only [coO, Bool.and_eq_true] at h
    exact pow_le9 (by have := ptO_iff.1 h.1.1; omega)
  | false => simp
theorem c_DomainValues (s k : Int) (sh : Nat) (l : List Nat) (hs : sh < W256) (hl : ∀ x ∈ l, x < W256) (hb : l.length * 32 ≤ 140737488351232) : Contract Try.prog 15 [.val (.int .i64 s), .val (.int .i64 k), .val (EN sh), .sl l.length 4 (LC eC l)] [.val (.bool true)] := by
  cases hg : gr6 s k with
  | true =>
    refine contract_of (N := _) (vars := _) (c := bodyOf Try.f15) Try.func15 (body_eq rfl) rfl rfl (by rfl) mixed _ _ trivial 1000 ?_
    simp only [bodyOf, Try.f15, Option.getD_some, argA, argE, List.length_cons, List.length_nil, Nat.reduceAdd, Nat.reduceSub, List.replicate, List.cons_append, List.nil_append]
    simp only [↓PX, SX, SYX, EY, simprocAttr, TYX, UX]
    refine CallVC.intro (c_alive6) trivial rfl rfl ?_
    simp only [↓PX, SX, SYX, EY, simprocAttr, TYX, UX]
    refine CallVC.intro (c_great6 s k) ⟨rfl, rfl, trivial⟩ rfl rfl ?_
    simp only [↓PX, SX, SYX, EY, simprocAttr, TYX, UX, hg]
  | false =>
    cases d0 : decide ((600 : Int) < (l.length : Int)) with
    | true =>
      refine contract_of (N := _) (vars := _) (c := bodyOf Try.f15) Try.func15 (body_eq rfl) rfl rfl (by rfl) mixed _ _ trivial 1000 ?_
      simp only [bodyOf, Try.f15, Option.getD_some, argA, argE, List.length_cons, List.length_nil, Nat.reduceAdd, Nat.reduceSub, List.replicate, List.cons_append, List.nil_append]
      simp only [↓PX, SX, SYX, EY, simprocAttr, TYX, UX]
      refine CallVC.intro (c_alive6) trivial rfl rfl ?_
      simp only [↓PX, SX, SYX, EY, simprocAttr, TYX, UX]
      refine CallVC.intro (c_great6 s k) ⟨rfl, rfl, trivial⟩ rfl rfl ?_
      simp only [↓PX, SX, SYX, EY, simprocAttr, TYX, UX, hg, d0]
    | false =>
      have q := of_decide_eq_false d0
      have l1 := vaL_len (s := s) (k := k) (sh := sh) (l := l)
      have l2 := coL_len (s := s) (k := k) (sh := sh) (l := l)
      refine contract_of (N := _) (vars := _) (c := bodyOf Try.f15) Try.func15 (body_eq rfl) rfl rfl (by rfl) mixed _ _ trivial 1000 ?_
      simp only [bodyOf, Try.f15, Option.getD_some, argA, argE, List.length_cons, List.length_nil, Nat.reduceAdd, Nat.reduceSub, List.replicate, List.cons_append, List.nil_append]
      simp only [↓PX, SX, SYX, EY, simprocAttr, TYX, UX]
      refine CallVC.intro (c_alive6) trivial rfl rfl ?_
      simp only [↓PX, SX, SYX, EY, simprocAttr, TYX, UX]
      refine CallVC.intro (c_great6 s k) ⟨rfl, rfl, trivial⟩ rfl rfl ?_
      simp only [↓PX, SX, SYX, EY, simprocAttr, TYX, UX, hg, d0]
      have ht : List.take (l.length * 4) (LC eC (l ++ [901, 902, 903, 904])) = LC eC l := by rw [LC_take eC_len, List.take_left]
      have hsp := same_of (l ++ [901, 902, 903, 904]) (by simp; omega) (spareW hl)
      have hlen : (l ++ [901, 902, 903, 904]).length = l.length + 4 := by simp
      rw [hlen] at hsp
      refine CallVC.intro (c_SpareElems l (by omega)) ⟨(by simp only [argMatch, SX, SYX, EY, simprocAttr, and_self, List.length_append, List.length_map, List.length_set, TYX, UX]), trivial⟩ rfl rfl ?_
      simp only [↓PX, SX, SYX, EY, simprocAttr, TYX, UX]
      repeat (first | refine DrawVC.intro (by kernel_rfl) ?_ | refine And.intro (by omega) ?_ | exact trivial)
      refine CallVC.intro (u_Values s k sh l hs hl (by omega)) ⟨rfl, rfl, rfl, (by simp only [argMatch, SX, SYX, EY, simprocAttr, and_self, List.length_append, List.length_map, List.length_set, TYX, UX, ht]), trivial⟩ rfl rfl ?_
      simp only [↓PX, SX, SYX, EY, simprocAttr, TYX, UX, ht]
      refine CallVC.intro (v_Values s k sh l hs hl (by omega)) ⟨rfl, rfl, rfl, (by simp only [argMatch, SX, SYX, EY, simprocAttr, and_self, List.length_append, List.length_map, List.length_set, TYX, UX]), trivial⟩ rfl rfl ?_
      simp only [↓PX, SX, SYX, EY, simprocAttr, TYX, UX]
      refine CallVC.intro (same_of (vaL s k sh l) (by omega) vaL_w) ⟨(by simp only [argMatch, SX, SYX, EY, simprocAttr, and_self, List.length_append, List.length_map, List.length_set, TYX, UX, bne_self_eq_false]), (by simp only [argMatch, SX, SYX, EY, simprocAttr, and_self, List.length_append, List.length_map, List.length_set, TYX, UX, bne_self_eq_false]), trivial⟩ rfl rfl ?_
      simp only [↓PX, SX, SYX, EY, simprocAttr, TYX, UX, bne_self_eq_false]
      repeat (first | refine DrawVC.intro (by kernel_rfl) ?_ | refine And.intro (by omega) ?_ | exact trivial)
      refine CallVC.intro (u_Coeffs s k sh l hs hl (by omega)) ⟨rfl, rfl, rfl, (by simp only [argMatch, SX, SYX, EY, simprocAttr, and_self, List.length_append, List.length_map, List.length_set, TYX, UX, ht]), trivial⟩ rfl rfl ?_
      simp only [↓PX, SX, SYX, EY, simprocAttr, TYX, UX, ht]
      refine CallVC.intro (v_Coeffs s k sh l hs hl (by omega)) ⟨rfl, rfl, rfl, (by simp only [argMatch, SX, SYX, EY, simprocAttr, and_self, List.length_append, List.length_map, List.length_set, TYX, UX]), trivial⟩ rfl rfl ?_
      simp only [↓PX, SX, SYX, EY, simprocAttr, TYX, UX]
      refine CallVC.intro (same_of (coL s k sh l) (by omega) coL_w) ⟨(by simp only [argMatch, SX, SYX, EY, simprocAttr, and_self, List.length_append, List.length_map, List.length_set, TYX, UX, beq_self_eq_true]), (by simp only [argMatch, SX, SYX, EY, simprocAttr, and_self, List.length_append, List.length_map, List.length_set, TYX, UX, beq_self_eq_true]), trivial⟩ rfl rfl ?_
      simp only [↓PX, SX, SYX, EY, simprocAttr, TYX, UX, beq_self_eq_true]
      refine CallVC.intro (c_SpareElems l (by omega)) ⟨(by simp only [argMatch, SX, SYX, EY, simprocAttr, and_self, List.length_append, List.length_map, List.length_set, TYX, UX]), trivial⟩ rfl rfl ?_
      simp only [↓PX, SX, SYX, EY, simprocAttr, TYX, UX]
      refine CallVC.intro (hsp) ⟨(by simp only [argMatch, SX, SYX, EY, simprocAttr, and_self, List.length_append, List.length_map, List.length_set, TYX, UX]), (by simp only [argMatch, SX, SYX, EY, simprocAttr, and_self, List.length_append, List.length_map, List.length_set, TYX, UX]), trivial⟩ rfl rfl ?_
      simp only [↓PX, SX, SYX, EY, simprocAttr, TYX, UX]
end Go.Sx
