/-
  The references' helpers over lists of elements: CopyElems, SpareElems, SameElems; the reference's Inv. No conditions.
-/
import Derived.Test.YtmjhaopkhceegaaZFieldD
namespace Go.Sx
open Go.Proofs
-- SY
-- TY: TYX
set_option maxRecDepth 100000
set_option linter.unusedSimpArgs false
set_option pp.deepTerms true
set_option pp.maxSteps 100000
theorem v_Inv (s : Int) (a : Nat) (ha : a < W256) : Contract Try.prog 72 [.val (.int .i64 s), .val (EN a)] [.val (EN (inv s a)), .val (.int .i64 (eI s a))] := by
  cases srt s with
  | no hk he hm =>
    have e1 : eI s a = 20 := by simp [eI, hk]
    have e2 : inv s a = 0 := by unfold inv; rw [hm, Nat.mod_one]
    rw [e1, e2]
    refine contract_of (N := _) (vars := _) (c := bodyOf Try.f72) Try.func72 (body_eq rfl) rfl rfl (by rfl) mixed _ _ trivial 1000 ?_
    simp only [bodyOf, Try.f72, Option.getD_some, argA, argE, List.length_cons, List.length_nil, Nat.reduceAdd, Nat.reduceSub, List.replicate, List.cons_append, List.nil_append]
    simp only [↓PX, SX, SYX, EY, simprocAttr, TYX]
    repeat (first
      | (refine DrawVC.intro (by kernel_rfl) ?_)
      | exact trivial
      | (refine CallVC.intro (v_Modulus _) ⟨rfl, trivial⟩ rfl rfl ?_; simp only [↓PX, SX, SYX, EY, simprocAttr, TYX, he]))
  | yes hk he _ _ _ F R P h2 =>
    have e0 : mN s = md s := by simp [mN, hk]
    by_cases h : a % md s = 0
    · have e1 : eI s a = 10 := by simp [eI, hk, h]
      have e2 : inv s a = 0 := by unfold inv; rw [Nat.pow_mod, h, Nat.zero_pow (by omega), Nat.zero_mod]
      rw [e1, e2]
      refine contract_of (N := _) (vars := _) (c := bodyOf Try.f72) Try.func72 (body_eq rfl) rfl rfl (by rfl) mixed _ _ trivial 1000 ?_
      simp only [bodyOf, Try.f72, Option.getD_some, argA, argE, List.length_cons, List.length_nil, Nat.reduceAdd, Nat.reduceSub, List.replicate, List.cons_append, List.nil_append]
      simp only [↓PX, SX, SYX, EY, simprocAttr, TYX]
      repeat (first
        | (refine DrawVC.intro (by kernel_rfl) ?_)
        | exact trivial
        | (refine CallVC.intro (v_Modulus _) ⟨rfl, trivial⟩ rfl rfl ?_; simp only [↓PX, SX, SYX, EY, simprocAttr, TYX, he, h])
        | (refine CallVC.intro (v_Of _ _ (by first | assumption | exact md_w _ _ | exact md_w2 (inv_lt _ _) | decide | omega)) ⟨rfl, rfl, trivial⟩ rfl rfl ?_; simp only [↓PX, SX, SYX, EY, simprocAttr, TYX, he, h]))
    · have e1 : eI s a = 0 := by simp [eI, hk, h]
      have e3 : eqN (a % md s) 0 = false := by rw [eqN_eq (md_w s a) (by decide)]; simpa using h
      have e4 : (md s + W256 - 2) % W256 = md s - 2 := sub_of (by have := md_lt s; omega) (by omega)
      have hw : md s < W256 := by have := md_lt s; omega
      have hw2 : md s - 2 < W256 := by omega
      rw [e1]
      unfold inv
      refine contract_of (N := _) (vars := _) (c := bodyOf Try.f72) Try.func72 (body_eq rfl) rfl rfl (by rfl) mixed _ _ trivial 1000 ?_
      simp only [bodyOf, Try.f72, Option.getD_some, argA, argE, List.length_cons, List.length_nil, Nat.reduceAdd, Nat.reduceSub, List.replicate, List.cons_append, List.nil_append]
      simp only [↓PX, SX, SYX, EY, simprocAttr, TYX]
      repeat (first
        | (refine DrawVC.intro (by kernel_rfl) ?_)
        | exact trivial
        | (refine CallVC.intro (v_Modulus _) ⟨rfl, trivial⟩ rfl rfl ?_; simp only [↓PX, SX, SYX, EY, simprocAttr, TYX, he, e3, e0, e4])
        | (refine CallVC.intro (v_Of _ _ (by first | assumption | exact md_w _ _ | exact md_w2 (inv_lt _ _) | decide | omega)) ⟨rfl, rfl, trivial⟩ rfl rfl ?_; simp only [↓PX, SX, SYX, EY, simprocAttr, TYX, he, e3, e0, e4])
        | (refine CallVC.intro (v_Exp _ _ _ (by first | assumption | exact md_w _ _ | exact md_w2 (inv_lt _ _) | decide | omega) (by first | assumption | exact md_w _ _ | exact md_w2 (inv_lt _ _) | decide | omega)) ⟨rfl, rfl, rfl, trivial⟩ rfl rfl ?_; simp only [↓PX, SX, SYX, EY, simprocAttr, TYX, he, e3, e0, e4])
        | (refine CallVC.intro (c_minus _ _ (by first | assumption | exact md_w _ _ | exact md_w2 (inv_lt _ _) | decide | omega) (by first | assumption | exact md_w _ _ | exact md_w2 (inv_lt _ _) | decide | omega)) ⟨rfl, rfl, trivial⟩ rfl rfl ?_; simp only [↓PX, SX, SYX, EY, simprocAttr, TYX, he, e3, e0, e4]))
theorem getD_lt {l : List Nat} {B : Nat} (h : ∀ x ∈ l, x < B) {i : Nat} (hi : i < l.length) : l.getD i 0 < B := by
  have : l.getD i 0 = l[i] := by simp [List.getD, hi]
  rw [this]
  exact h _ (List.getElem_mem hi)
theorem c_CopyElems (l : List Nat) (h : l.length * 32 ≤ 140737488355328) : Contract Try.prog 11 [.sl l.length 4 (LC eC l)] [.row 24 4 l.length (LC eC l)] := by
  refine contract_of (N := _) (vars := _) (c := bodyOf Try.f11) Try.func11 (body_eq rfl) rfl rfl (by rfl) mixed _ _ trivial 1000 ?_
  simp only [bodyOf, Try.f11, Option.getD_some, argA, argE, List.length_cons, List.length_nil, Nat.reduceAdd, Nat.reduceSub, List.replicate, List.cons_append, List.nil_append]
  simp only [↓PX, SX, SYX, EY, simprocAttr, TYX]
  exact ⟨⟨h, by omega⟩, by simp⟩
theorem c_SameElems (l l' : List Nat) (h : ∀ x ∈ l, x < W256) (h' : ∀ x ∈ l', x < W256) (hb : l.length < 9223372036854775807) : Contract Try.prog 14 [.sl l.length 4 (LC eC l), .sl l'.length 4 (LC eC l')] [.val (.bool (l == l'))] := by
  by_cases hl : l.length = l'.length
  · have e : (((l.length : Int) != (l'.length : Int)) = false) := by simp [hl]
    refine contract_of (N := _) (vars := _) (c := bodyOf Try.f14) Try.func14 (body_eq rfl) rfl rfl (by rfl) mixed _ _ trivial 1000 ?_
    simp only [bodyOf, Try.f14, Option.getD_some, argA, argE, List.length_cons, List.length_nil, Nat.reduceAdd, Nat.reduceSub, List.replicate, List.cons_append, List.nil_append]
    simp only [↓PX, SX, SYX, EY, simprocAttr, TYX]
    simp only [↓PX, SX, SYX, EY, simprocAttr, TYX, e]
    refine loop_hav ?_
    simp only [↓PX, SX, SYX, EY, simprocAttr, TYX]
    refine loop_go mixed (by trivial) (γ := Nat) (fun i => i ≤ l.length ∧ ∀ j, j < i → l.getD j 0 = l'.getD j 0) (fun i => l.length - i) (fun i => [(5, iv i)]) (fun _ => []) 0 ⟨by omega, by omega⟩ (St.le_of id (by simp [-List.getD_eq_getElem?_getD, SYX, iv, Tle, AVle, A0le, Mem.get]) (by simp [-List.getD_eq_getElem?_getD, SYX, Mle, Ele, Hle, Tle, AVle, A0le, Mem.get]) (by simp [SYX]) (by simp [SYX])) ?_
    intro i ⟨hi, hj⟩
    simp only [↓PX, SX, SYX, EY, simprocAttr, TYX]
    refine cond_split (fun h0 => ?_) (fun h0 => ?_)
    · have h0 : i < l.length := by simpa using h0
      simp only [↓PX, SX, SYX, EY, simprocAttr, TYX, eL_ld h0, eL_ld (l := l') (j := i) (by omega), wS (j := i) (by omega)]
      repeat (first | refine DrawVC.intro (by kernel_rfl) ?_ | refine And.intro (by omega) ?_ | exact trivial)
      have hx : l.getD i 0 < W256 := getD_lt h h0
      have hy : l'.getD i 0 < W256 := getD_lt h' (by omega)
      refine cond_split (fun h1 => ?_) (fun h1 => ?_)
      · rw [eqN_eq hx hy] at h1
        have h1 : ¬ l.getD i 0 = l'.getD i 0 := by simpa using h1
        have e2 : (l == l') = false := by simp; intro h; exact h1 (by rw [h])
        simp only [↓PX, SX, SYX, EY, simprocAttr, TYX, e2]
      · rw [eqN_eq hx hy] at h1
        have h1 : l.getD i 0 = l'.getD i 0 := by simpa using h1
        simp only [↓PX, SX, SYX, EY, simprocAttr, TYX, wS (j := i) (by omega)]
        refine ⟨i + 1, ⟨by omega, fun j h2 => ?_⟩, by omega, (St.le_of id (by simp [-List.getD_eq_getElem?_getD, SYX, iv, Tle, AVle, A0le, Mem.get]) (by simp [-List.getD_eq_getElem?_getD, SYX, Mle, Ele, Hle, Tle, AVle, A0le, Mem.get]) (by simp [SYX]) (by simp [SYX]))⟩
        by_cases h3 : j = i
        · rw [h3]; exact h1
        · exact hj j (by omega)
    · have h0 : l.length ≤ i := by simpa using h0
      simp only [↓PX, SX, SYX, EY, simprocAttr, TYX]
      have e2 : l = l' := by
        apply List.ext_getElem hl
        intro j h1 h2
        have := hj j (by omega)
        simpa [List.getD, h1, h2] using this
      simp [e2]
  · have e : (((l.length : Int) != (l'.length : Int)) = true) := by simp; omega
    have e2 : (l == l') = false := by simp; intro h; exact hl (congrArg _ h)
    rw [e2]
    refine contract_of (N := _) (vars := _) (c := bodyOf Try.f14) Try.func14 (body_eq rfl) rfl rfl (by rfl) mixed _ _ trivial 1000 ?_
    simp only [bodyOf, Try.f14, Option.getD_some, argA, argE, List.length_cons, List.length_nil, Nat.reduceAdd, Nat.reduceSub, List.replicate, List.cons_append, List.nil_append]
    simp only [↓PX, SX, SYX, EY, simprocAttr, TYX]
    simp only [↓PX, SX, SYX, EY, simprocAttr, TYX, e]
end Go.Sx
