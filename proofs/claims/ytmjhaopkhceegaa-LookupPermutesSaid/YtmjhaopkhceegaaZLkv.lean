/-
  alive of layer 17; LookupPermutes. No conditions.
-/
import Derived.Test.YtmjhaopkhceegaaZLkj
import Derived.Test.YtmjhaopkhceegaaZLkt
import Derived.Test.YtmjhaopkhceegaaZLku
namespace Go.Sx
open Go.Proofs Go.Num
-- SY
-- TY: TYX, UX, guard_un
set_option maxRecDepth 100000
set_option linter.unusedSimpArgs false
set_option pp.deepTerms true
set_option pp.maxSteps 100000
theorem asc_eval {l r : List Nat} (h : insA l = r) : asc l = r := by rw [← insA_asc, h]
theorem alive17_1 : pm 0 [3, 1, 3] [1, 2, 3] = ([1, 3, 3], [1, 3, 2], 0) := by
  unfold pm
  have h1 : asc (rsd 0 [3, 1, 3]) = [1, 3, 3] := asc_eval (by decide)
  have h2 : asc (rsd 0 [1, 2, 3]) = [1, 2, 3] := asc_eval (by decide)
  rw [h1, h2]
  decide
theorem alive17_2 : cpr 0 10 [1, 2, 3] = 123 := by decide
theorem c_alive17 : Contract Try.prog 9 [] [.val (.bool true)] := by
  have c1 : Contract Try.prog 12 [.val (.int .i64 0), .sl 3 4 [u64 (L0 3), u64 (L1 3), u64 (L2 3), u64 (L3 3), u64 (L0 1), u64 (L1 1), u64 (L2 1), u64 (L3 1), u64 (L0 3), u64 (L1 3), u64 (L2 3), u64 (L3 3)], .sl 3 4 [u64 (L0 1), u64 (L1 1), u64 (L2 1), u64 (L3 1), u64 (L0 2), u64 (L1 2), u64 (L2 2), u64 (L3 2), u64 (L0 3), u64 (L1 3), u64 (L2 3), u64 (L3 3)]] [.row 24 4 3 (LC eC [1, 3, 3]), .row 24 4 3 (LC eC [1, 3, 2]), .val (.int .i64 0)] := by
    have h := u_Permute 0 [3, 1, 3] [1, 2, 3] (by decide) (by decide) (by decide) (by decide)
    rw [alive17_1] at h
    exact h
  have c2 : Contract Try.prog 15 [.val (.int .i64 0), .val (EN 10), .sl 3 4 [u64 (L0 1), u64 (L1 1), u64 (L2 1), u64 (L3 1), u64 (L0 2), u64 (L1 2), u64 (L2 2), u64 (L3 2), u64 (L0 3), u64 (L1 3), u64 (L2 3), u64 (L3 3)]] [.val (EN 123)] := by
    have h := u_Compress 0 10 [1, 2, 3] (by decide) (by decide) (by decide)
    rw [alive17_2] at h
    exact h
  have s1 : Contract Try.prog 14 [.sl 3 4 (LC eC [1, 3, 3]), .sl 3 4 [u64 (L0 1), u64 (L1 1), u64 (L2 1), u64 (L3 1), u64 (L0 3), u64 (L1 3), u64 (L2 3), u64 (L3 3), u64 (L0 3), u64 (L1 3), u64 (L2 3), u64 (L3 3)]] [.val (.bool true)] := same_big [1, 3, 3] (by decide) (by decide)
  have s2 : Contract Try.prog 14 [.sl 3 4 (LC eC [1, 3, 2]), .sl 3 4 [u64 (L0 1), u64 (L1 1), u64 (L2 1), u64 (L3 1), u64 (L0 3), u64 (L1 3), u64 (L2 3), u64 (L3 3), u64 (L0 2), u64 (L1 2), u64 (L2 2), u64 (L3 2)]] [.val (.bool true)] := same_big [1, 3, 2] (by decide) (by decide)
  refine contract_of (N := _) (vars := _) (c := bodyOf Try.f9) Try.func9 (body_eq rfl) rfl rfl (by rfl) mixed _ _ trivial 1000 ?_
  simp only [bodyOf, Try.f9, Option.getD_some, argA, argE, List.length_cons, List.length_nil, Nat.reduceAdd, Nat.reduceSub, List.replicate, List.cons_append, List.nil_append]
  simp only [↓PX, SX, SYX, EY, simprocAttr, TYX, UX, guard_un]
  refine CallVC.intro (c1) ⟨rfl, (by simp only [argMatch, SX, SYX, EY, simprocAttr, and_self, List.length_append, List.length_map, List.length_set, TYX, UX, guard_un]), (by simp only [argMatch, SX, SYX, EY, simprocAttr, and_self, List.length_append, List.length_map, List.length_set, TYX, UX, guard_un]), trivial⟩ rfl rfl ?_
  simp only [↓PX, SX, SYX, EY, simprocAttr, TYX, UX, guard_un]
  refine CallVC.intro (s1) ⟨(by simp only [argMatch, SX, SYX, EY, simprocAttr, and_self, List.length_append, List.length_map, List.length_set, TYX, UX, guard_un]), (by simp only [argMatch, SX, SYX, EY, simprocAttr, and_self, List.length_append, List.length_map, List.length_set, TYX, UX, guard_un]), trivial⟩ rfl rfl ?_
  simp only [↓PX, SX, SYX, EY, simprocAttr, TYX, UX, guard_un]
  refine CallVC.intro (s2) ⟨(by simp only [argMatch, SX, SYX, EY, simprocAttr, and_self, List.length_append, List.length_map, List.length_set, TYX, UX, guard_un]), (by simp only [argMatch, SX, SYX, EY, simprocAttr, and_self, List.length_append, List.length_map, List.length_set, TYX, UX, guard_un]), trivial⟩ rfl rfl ?_
  simp only [↓PX, SX, SYX, EY, simprocAttr, TYX, UX, guard_un]
  refine CallVC.intro (c2) ⟨rfl, rfl, (by simp only [argMatch, SX, SYX, EY, simprocAttr, and_self, List.length_append, List.length_map, List.length_set, TYX, UX, guard_un]), trivial⟩ rfl rfl ?_
  simp only [↓PX, SX, SYX, EY, simprocAttr, TYX, UX, guard_un]
theorem asc_rw {s : Int} {l : List Nat} : ∀ z ∈ asc (rsd s l), z < W256 := fun z hz => rsd_w (s := s) z (asc_mem.1 hz)
theorem mtc_mem : ∀ {a : List Nat} {p : Option Nat} {l : List Nat} {B : Nat}, 0 < B → (∀ z ∈ a, z < B) → (∀ z ∈ l, z < B) → ∀ z ∈ mtc p a l, z < B
  | [], _, _, _, _, _, _, z, h => by simp [mtc] at h
  | v :: a, p, l, B, h0, ha, hl, z, h => by
    unfold mtc at h
    have ha' : ∀ z ∈ a, z < B := fun z hz => ha z (List.mem_cons_of_mem _ hz)
    split at h
    · rcases List.mem_cons.1 h with rfl | h
      · cases l with
        | nil => exact h0
        | cons x l => exact hl _ (by simp)
      · exact mtc_mem h0 ha' (fun z hz => hl z (List.mem_of_mem_tail hz)) z h
    · rcases List.mem_cons.1 h with rfl | h
      · exact ha _ (by simp)
      · exact mtc_mem h0 ha' hl z h
theorem lft_mem {a : List Nat} {p : Option Nat} {l r : List Nat} (h : lft p a l = some r) : ∀ z ∈ r, z ∈ l := fun z hz => (lft_perm h).mem_iff.2 (List.mem_append_right _ hz)
theorem pm_w {s : Int} {x y : List Nat} : (∀ z ∈ (pm s x y).1, z < W256) ∧ (∀ z ∈ (pm s x y).2.1, z < W256) := by
  unfold pm
  split
  · split
    · cases h : lft none (asc (rsd s x)) (asc (rsd s y)) with
      | none => simp
      | some l => exact ⟨asc_rw, mtc_mem (by decide) asc_rw (fun z hz => asc_rw z (lft_mem h z hz))⟩
    · simp
  · simp
theorem pm_len {s : Int} {x y : List Nat} : (pm s x y).1.length ≤ 64 ∧ (pm s x y).2.1.length ≤ 64 := by
  unfold pm
  split
  · split
    · rename_i h
      cases h : lft none (asc (rsd s x)) (asc (rsd s y)) with
      | none => simp
      | some l =>
        have h1 : (asc (rsd s x)).length = x.length := (asc_len _).trans (List.length_map _)
        have h2 : (mtc none (asc (rsd s x)) l).length = x.length := by rw [mtc_len, h1]
        exact ⟨by show (asc (rsd s x)).length ≤ 64; omega, by show (mtc none (asc (rsd s x)) l).length ≤ 64; omega⟩
    · simp
  · simp
theorem c_LookupPermutes (s : Int) (θ : Nat) (x y : List Nat) (hθ : θ < W256) (hx : ∀ z ∈ x, z < W256) (hy : ∀ z ∈ y, z < W256) (hbx : x.length * 32 ≤ 140737488351232) (hby : y.length * 32 ≤ 140737488351232) :
    Contract Try.prog 3 [.val (.int .i64 s), .val (EN θ), .sl x.length 4 (LC eC x), .sl y.length 4 (LC eC y)] [.val (.bool true)] := by
  cases d0 : decide ((100 : Int) < (x.length : Int)) with
  | true =>
    refine contract_of (N := _) (vars := _) (c := bodyOf Try.f3) Try.func3 (body_eq rfl) rfl rfl (by rfl) mixed _ _ trivial 1000 ?_
    simp only [bodyOf, Try.f3, Option.getD_some, argA, argE, List.length_cons, List.length_nil, Nat.reduceAdd, Nat.reduceSub, List.replicate, List.cons_append, List.nil_append]
    simp only [↓PX, SX, SYX, EY, simprocAttr, TYX, UX, guard_un]
    refine CallVC.intro (c_alive17) trivial rfl rfl ?_
    simp only [↓PX, SX, SYX, EY, simprocAttr, TYX, UX, guard_un, d0]
  | false =>
    cases d1 : decide ((100 : Int) < (y.length : Int)) with
    | true =>
      refine contract_of (N := _) (vars := _) (c := bodyOf Try.f3) Try.func3 (body_eq rfl) rfl rfl (by rfl) mixed _ _ trivial 1000 ?_
      simp only [bodyOf, Try.f3, Option.getD_some, argA, argE, List.length_cons, List.length_nil, Nat.reduceAdd, Nat.reduceSub, List.replicate, List.cons_append, List.nil_append]
      simp only [↓PX, SX, SYX, EY, simprocAttr, TYX, UX, guard_un]
      refine CallVC.intro (c_alive17) trivial rfl rfl ?_
      simp only [↓PX, SX, SYX, EY, simprocAttr, TYX, UX, guard_un, d0, d1]
    | false =>
      have q := of_decide_eq_false d0
      have q2 := of_decide_eq_false d1
      have ht : List.take (x.length * 4) (LC eC (x ++ [901, 902, 903, 904])) = LC eC x := by rw [LC_take eC_len, List.take_left]
      have hsp := same_of (x ++ [901, 902, 903, 904]) (by simp; omega) (spareW hx)
      have hlen : (x ++ [901, 902, 903, 904]).length = x.length + 4 := by simp
      rw [hlen] at hsp
      obtain ⟨p1, p2⟩ := pm_w (s := s) (x := x) (y := y)
      obtain ⟨l1, l2⟩ := pm_len (s := s) (x := x) (y := y)
      have cu := u_Permute s x y hx hy hbx hby
      have cv := v_Permute s x y hx hy hbx hby
      have cc := u_Compress s θ x hθ hx hbx
      have cd := v_Compress s θ x hθ hx hbx
      have he : eqN (cpr s θ x) (cpr s θ x) = true := by rw [eqN_eq (cpr_w s θ x) (cpr_w s θ x)]; exact beq_self_eq_true _
      refine contract_of (N := _) (vars := _) (c := bodyOf Try.f3) Try.func3 (body_eq rfl) rfl rfl (by rfl) mixed _ _ trivial 1000 ?_
      simp only [bodyOf, Try.f3, Option.getD_some, argA, argE, List.length_cons, List.length_nil, Nat.reduceAdd, Nat.reduceSub, List.replicate, List.cons_append, List.nil_append]
      simp only [↓PX, SX, SYX, EY, simprocAttr, TYX, UX, guard_un]
      refine CallVC.intro (c_alive17) trivial rfl rfl ?_
      simp only [↓PX, SX, SYX, EY, simprocAttr, TYX, UX, guard_un, d0, d1]
      refine CallVC.intro (c_SpareElems x (by omega)) ⟨(by simp only [argMatch, SX, SYX, EY, simprocAttr, and_self, List.length_append, List.length_map, List.length_set, TYX, UX, guard_un]), trivial⟩ rfl rfl ?_
      simp only [↓PX, SX, SYX, EY, simprocAttr, TYX, UX, guard_un]
      refine CallVC.intro (c_CopyElems y (by omega)) ⟨(by simp only [argMatch, SX, SYX, EY, simprocAttr, and_self, List.length_append, List.length_map, List.length_set, TYX, UX, guard_un]), trivial⟩ rfl rfl ?_
      simp only [↓PX, SX, SYX, EY, simprocAttr, TYX, UX, guard_un]
      repeat (first | refine DrawVC.intro (by kernel_rfl) ?_ | refine And.intro (by omega) ?_ | exact trivial)
      refine CallVC.intro (cu) ⟨rfl, (by simp only [argMatch, SX, SYX, EY, simprocAttr, and_self, List.length_append, List.length_map, List.length_set, TYX, UX, guard_un, ht]), (by simp only [argMatch, SX, SYX, EY, simprocAttr, and_self, List.length_append, List.length_map, List.length_set, TYX, UX, guard_un, ht]), trivial⟩ rfl rfl ?_
      simp only [↓PX, SX, SYX, EY, simprocAttr, TYX, UX, guard_un, ht]
      refine CallVC.intro (cv) ⟨rfl, (by simp only [argMatch, SX, SYX, EY, simprocAttr, and_self, List.length_append, List.length_map, List.length_set, TYX, UX, guard_un]), (by simp only [argMatch, SX, SYX, EY, simprocAttr, and_self, List.length_append, List.length_map, List.length_set, TYX, UX, guard_un]), trivial⟩ rfl rfl ?_
      simp only [↓PX, SX, SYX, EY, simprocAttr, TYX, UX, guard_un]
      repeat (first | refine DrawVC.intro (by kernel_rfl) ?_ | refine And.intro (by omega) ?_ | exact trivial | simp only [↓PX, SX, SYX, EY, simprocAttr, TYX, UX, guard_un])
      refine CallVC.intro (same_of (pm s x y).1 (by omega) p1) ⟨(by simp only [argMatch, SX, SYX, EY, simprocAttr, and_self, List.length_append, List.length_map, List.length_set, TYX, UX, guard_un, bne_self_eq_false]), (by simp only [argMatch, SX, SYX, EY, simprocAttr, and_self, List.length_append, List.length_map, List.length_set, TYX, UX, guard_un, bne_self_eq_false]), trivial⟩ rfl rfl ?_
      simp only [↓PX, SX, SYX, EY, simprocAttr, TYX, UX, guard_un, bne_self_eq_false]
      refine CallVC.intro (same_of (pm s x y).2.1 (by omega) p2) ⟨(by simp only [argMatch, SX, SYX, EY, simprocAttr, and_self, List.length_append, List.length_map, List.length_set, TYX, UX, guard_un, beq_self_eq_true]), (by simp only [argMatch, SX, SYX, EY, simprocAttr, and_self, List.length_append, List.length_map, List.length_set, TYX, UX, guard_un, beq_self_eq_true]), trivial⟩ rfl rfl ?_
      simp only [↓PX, SX, SYX, EY, simprocAttr, TYX, UX, guard_un, beq_self_eq_true]
      repeat (first | refine DrawVC.intro (by kernel_rfl) ?_ | refine And.intro (by omega) ?_ | exact trivial)
      refine CallVC.intro (cc) ⟨rfl, rfl, (by simp only [argMatch, SX, SYX, EY, simprocAttr, and_self, List.length_append, List.length_map, List.length_set, TYX, UX, guard_un, ht]), trivial⟩ rfl rfl ?_
      simp only [↓PX, SX, SYX, EY, simprocAttr, TYX, UX, guard_un, ht]
      refine CallVC.intro (cd) ⟨rfl, rfl, (by simp only [argMatch, SX, SYX, EY, simprocAttr, and_self, List.length_append, List.length_map, List.length_set, TYX, UX, guard_un, he]), trivial⟩ rfl rfl ?_
      simp only [↓PX, SX, SYX, EY, simprocAttr, TYX, UX, guard_un, he]
      refine CallVC.intro (c_SpareElems x (by omega)) ⟨(by simp only [argMatch, SX, SYX, EY, simprocAttr, and_self, List.length_append, List.length_map, List.length_set, TYX, UX, guard_un]), trivial⟩ rfl rfl ?_
      simp only [↓PX, SX, SYX, EY, simprocAttr, TYX, UX, guard_un]
      refine CallVC.intro (hsp) ⟨(by simp only [argMatch, SX, SYX, EY, simprocAttr, and_self, List.length_append, List.length_map, List.length_set, TYX, UX, guard_un]), (by simp only [argMatch, SX, SYX, EY, simprocAttr, and_self, List.length_append, List.length_map, List.length_set, TYX, UX, guard_un]), trivial⟩ rfl rfl ?_
      simp only [↓PX, SX, SYX, EY, simprocAttr, TYX, UX, guard_un]
      refine CallVC.intro (same_of y (by omega) hy) ⟨(by simp only [argMatch, SX, SYX, EY, simprocAttr, and_self, List.length_append, List.length_map, List.length_set, TYX, UX, guard_un]), (by simp only [argMatch, SX, SYX, EY, simprocAttr, and_self, List.length_append, List.length_map, List.length_set, TYX, UX, guard_un]), trivial⟩ rfl rfl ?_
      simp only [↓PX, SX, SYX, EY, simprocAttr, TYX, UX, guard_un]
end Go.Sx
