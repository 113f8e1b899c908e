/-
  Bytes: copies, comparisons, Encode of both. No conditions.
-/
import Derived.Test.YtmgheellmllfpaaZByt
namespace Go.Sx
open Go.Proofs Go.Num
-- SY
-- TY: TYX, cellsNV, foldNV, BY
set_option maxRecDepth 100000
set_option linter.unusedSimpArgs false
set_option pp.deepTerms true
set_option pp.maxSteps 100000
theorem c_CopyBytes (l : List Nat) (h : l.length ≤ 140737488355328) : Contract Try.prog 42 [.sl l.length 1 (LC bC l)] [.row 5 1 l.length (LC bC l)] := by
  refine contract_of (N := _) (vars := _) (c := bodyOf Try.f42) Try.func42 (body_eq rfl) rfl rfl (by rfl) mixed _ _ trivial 1000 ?_
  simp only [bodyOf, Try.f42, Option.getD_some, argA, argE, List.length_cons, List.length_nil, Nat.reduceAdd, Nat.reduceSub, List.replicate, List.cons_append, List.nil_append]
  simp only [↓PX, SX, SYX, EY, simprocAttr, TYX, cellsNV, foldNV, BY]
  exact ⟨⟨h, by omega⟩, by simp⟩
theorem c_SameBytes (l l' : List Nat) (hb : l.length < 9223372036854775807) : Contract Try.prog 38 [.sl l.length 1 (LC bC l), .sl l'.length 1 (LC bC l')] [.val (.bool (l == l'))] := by
  by_cases hl : l.length = l'.length
  · have e : (((l.length : Int) != (l'.length : Int)) = false) := by simp [hl]
    refine contract_of (N := _) (vars := _) (c := bodyOf Try.f38) Try.func38 (body_eq rfl) rfl rfl (by rfl) mixed _ _ trivial 1000 ?_
    simp only [bodyOf, Try.f38, Option.getD_some, argA, argE, List.length_cons, List.length_nil, Nat.reduceAdd, Nat.reduceSub, List.replicate, List.cons_append, List.nil_append]
    simp only [↓PX, SX, SYX, EY, simprocAttr, TYX, cellsNV, foldNV, BY]
    simp only [↓PX, SX, SYX, EY, simprocAttr, TYX, cellsNV, foldNV, BY, e]
    refine loop_hav ?_
    simp only [↓PX, SX, SYX, EY, simprocAttr, TYX, cellsNV, foldNV, BY]
    refine loop_go mixed (by trivial) (γ := Nat) (fun i => i ≤ l.length ∧ ∀ j, j < i → l.getD j 0 = l'.getD j 0) (fun i => l.length - i) (fun i => [(5, iv i)]) (fun _ => []) 0 ⟨by omega, by omega⟩ (St.le_of id (by simp [-List.getD_eq_getElem?_getD, SYX, iv, Tle, AVle, A0le, Mem.get]) (by simp [-List.getD_eq_getElem?_getD, SYX, Mle, Ele, Mem.get]) (by simp [SYX]) (by simp [SYX])) ?_
    intro i ⟨hi, hj⟩
    simp only [↓PX, SX, SYX, EY, simprocAttr, TYX, cellsNV, foldNV, BY]
    refine cond_split (fun h0 => ?_) (fun h0 => ?_)
    · have h0 : i < l.length := by simpa using h0
      simp only [↓PX, SX, SYX, EY, simprocAttr, TYX, cellsNV, foldNV, BY, bL_ld h0, bL_ld (l := l') (j := i) (by omega)]
      repeat (first | refine DrawVC.intro (by kernel_rfl) ?_ | refine And.intro (by omega) ?_ | exact trivial)
      refine cond_split (fun h1 => ?_) (fun h1 => ?_)
      · have h1 : ¬ l.getD i 0 = l'.getD i 0 := by
          intro h2
          rw [h2] at h1
          simp at h1
        have e2 : (l == l') = false := by simp; intro h; exact h1 (by rw [h])
        simp only [↓PX, SX, SYX, EY, simprocAttr, TYX, cellsNV, foldNV, BY, e2]
      · have h1 : l.getD i 0 = l'.getD i 0 := by
          simp only [bne_eq_false_iff_eq] at h1
          omega
        simp only [↓PX, SX, SYX, EY, simprocAttr, TYX, cellsNV, foldNV, BY, wS (j := i) (by omega)]
        refine ⟨i + 1, ⟨by omega, fun j h2 => ?_⟩, by omega, (St.le_of id (by simp [-List.getD_eq_getElem?_getD, SYX, iv, Tle, AVle, A0le, Mem.get]) (by simp [-List.getD_eq_getElem?_getD, SYX, Mle, Ele, Mem.get]) (by simp [SYX]) (by simp [SYX]))⟩
        by_cases h3 : j = i
        · rw [h3]; exact h1
        · exact hj j (by omega)
    · have h0 : l.length ≤ i := by simpa using h0
      simp only [↓PX, SX, SYX, EY, simprocAttr, TYX, cellsNV, foldNV, BY]
      have e2 : l = l' := by
        apply List.ext_getElem hl
        intro j h1 h2
        have := hj j (by omega)
        simpa [List.getD, h1, h2] using this
      simp [e2]
  · have e : (((l.length : Int) != (l'.length : Int)) = true) := by simp; omega
    have e2 : (l == l') = false := by simp; intro h; exact hl (congrArg _ h)
    rw [e2]
    refine contract_of (N := _) (vars := _) (c := bodyOf Try.f38) Try.func38 (body_eq rfl) rfl rfl (by rfl) mixed _ _ trivial 1000 ?_
    simp only [bodyOf, Try.f38, Option.getD_some, argA, argE, List.length_cons, List.length_nil, Nat.reduceAdd, Nat.reduceSub, List.replicate, List.cons_append, List.nil_append]
    simp only [↓PX, SX, SYX, EY, simprocAttr, TYX, cellsNV, foldNV, BY]
    simp only [↓PX, SX, SYX, EY, simprocAttr, TYX, cellsNV, foldNV, BY, e]
/-- What Encode answers. -/
def encL (s : Int) (a : Nat) : List Nat := if kn s then byL (a % md s) else []
theorem byL_rep : tab 32 (fun _ => 0) = [0, 0, 0, 0, 0, 0, 0, 0, 0, 0, 0, 0, 0, 0, 0, 0, 0, 0, 0, 0, 0, 0, 0, 0, 0, 0, 0, 0, 0, 0, 0, 0] := rfl
theorem tab_step {n i : Nat} {f : Nat → Nat} : tab n (fun j => if j = i then f i else if j < i then f j else 0) = tab n (fun j => if j < i + 1 then f j else 0) := by
  refine tab_congr fun j _ => ?_
  by_cases h1 : j = i
  · simp [h1]
  · have h2 : (j < i + 1) = (j < i) := by simp; omega
    simp [h1, h2]
theorem tab_all {n i : Nat} {f : Nat → Nat} (h : n ≤ i) : tab n (fun j => if j < i then f j else 0) = tab n f := tab_congr fun j hj => by rw [if_pos (by omega)]
theorem u_Encode (s : Int) (a : Nat) (ha : a < W256) : Contract Try.prog 36 [.val (.int .i64 s), .val (EN a)] [.row 5 1 (encL s a).length (LC bC (encL s a))] := by
  cases srt s with
  | no hk he hm F =>
    have e1 : encL s a = [] := by simp [encL, hk]
    rw [e1]
    refine contract_of (N := _) (vars := _) (c := bodyOf Try.f36) Try.func36 (body_eq rfl) rfl rfl (by rfl) mixed _ _ trivial 1000 ?_
    simp only [bodyOf, Try.f36, Option.getD_some, argA, argE, List.length_cons, List.length_nil, Nat.reduceAdd, Nat.reduceSub, List.replicate, List.cons_append, List.nil_append]
    simp only [↓PX, SX, SYX, EY, simprocAttr, TYX, cellsNV, foldNV, BY]
    refine CallVC.intro (F.of) ⟨rfl, trivial⟩ rfl rfl ?_
    simp only [↓PX, SX, SYX, EY, simprocAttr, TYX, cellsNV, foldNV, BY, he]
  | yes hk he sm ng sq F R P h2 =>
    have e1 : encL s a = byL (a % md s) := by simp [encL, hk]
    rw [e1, byL_len]
    refine contract_of (N := _) (vars := _) (c := bodyOf Try.f36) Try.func36 (body_eq rfl) rfl rfl (by rfl) mixed _ _ trivial 1000 ?_
    simp only [bodyOf, Try.f36, Option.getD_some, argA, argE, List.length_cons, List.length_nil, Nat.reduceAdd, Nat.reduceSub, List.replicate, List.cons_append, List.nil_append]
    simp only [↓PX, SX, SYX, EY, simprocAttr, TYX, cellsNV, foldNV, BY]
    refine CallVC.intro (F.of) ⟨rfl, trivial⟩ rfl rfl ?_
    simp only [↓PX, SX, SYX, EY, simprocAttr, TYX, cellsNV, foldNV, BY, he]
    refine CallVC.intro (F.reduce a ha) ⟨rfl, rfl, trivial⟩ rfl rfl ?_
    simp only [↓PX, SX, SYX, EY, simprocAttr, TYX, cellsNV, foldNV, BY]
    refine loop_hav ?_
    simp only [↓PX, SX, SYX, EY, simprocAttr, TYX, cellsNV, foldNV, BY]
    refine loop_go mixed (by trivial) (γ := Nat) (fun i => i ≤ 32) (fun i => 32 - i) (fun i => [(22, iv i)]) (fun i => [(66, .row 5 1 32 (LC bC (tab 32 (fun j => if j < i then by8 (a % md s) j else 0))))]) 0 (by omega)
      (St.le_of id (by simp [-List.getD_eq_getElem?_getD, SYX, iv, Tle, AVle, A0le, Mem.get, byL_rep]) (by simp [-List.getD_eq_getElem?_getD, SYX, Mle, Ele, Mem.get, byL_rep]) (by simp [SYX]) (by simp [SYX])) ?_
    intro i hi
    simp only [↓PX, SX, SYX, EY, simprocAttr, TYX, cellsNV, foldNV, BY]
    refine cond_split (fun h0 => ?_) (fun h0 => ?_)
    · have h0 : i < 32 := by
        have : (i : Int) < 32 := by simpa using h0
        omega
      have h1 : i / 8 < 4 := by omega
      simp only [↓PX, SX, SYX, EY, simprocAttr, TYX, cellsNV, foldNV, BY, q8 (i := i) (by omega), r8 (i := i), m8 (i := i), lb_at h1, c8, byte_of, bL_st, tab_len, h0, tab_set]
      repeat (first | refine DrawVC.intro (by kernel_rfl) ?_ | refine And.intro (by omega) ?_ | exact trivial)
      exact ⟨i + 1, by omega, by omega, (St.le_of id (by simp [-List.getD_eq_getElem?_getD, SYX, iv, Tle, AVle, A0le, Mem.get, wS (j := i) (by omega), tab_step]) (by simp [-List.getD_eq_getElem?_getD, SYX, Mle, Ele, Mem.get, wS (j := i) (by omega), tab_step]) (by simp [SYX]) (by simp [SYX]))⟩
    · have h0 : 32 ≤ i := by
        have : (32 : Int) ≤ (i : Int) := by simpa using h0
        omega
      rw [tab_all h0]
      simp only [↓PX, SX, SYX, EY, simprocAttr, TYX, cellsNV, foldNV, BY]
      exact ⟨rfl, by simp⟩
theorem v_Encode (s : Int) (a : Nat) (ha : a < W256) : Contract Try.prog 37 [.val (.int .i64 s), .val (EN a)] [.row 5 1 (encL s a).length (LC bC (encL s a))] := by
  cases srt s with
  | no hk he hm F =>
    have e1 : encL s a = [] := by simp [encL, hk]
    rw [e1]
    refine contract_of (N := _) (vars := _) (c := bodyOf Try.f37) Try.func37 (body_eq rfl) rfl rfl (by rfl) mixed _ _ trivial 1000 ?_
    simp only [bodyOf, Try.f37, Option.getD_some, argA, argE, List.length_cons, List.length_nil, Nat.reduceAdd, Nat.reduceSub, List.replicate, List.cons_append, List.nil_append]
    simp only [↓PX, SX, SYX, EY, simprocAttr, TYX, cellsNV, foldNV, BY]
    refine CallVC.intro (v_Modulus s) ⟨rfl, trivial⟩ rfl rfl ?_
    simp only [↓PX, SX, SYX, EY, simprocAttr, TYX, cellsNV, foldNV, BY, he]
  | yes hk he sm ng sq F R P h2 =>
    have e1 : encL s a = byL (a % md s) := by simp [encL, hk]
    rw [e1, byL_len]
    refine contract_of (N := _) (vars := _) (c := bodyOf Try.f37) Try.func37 (body_eq rfl) rfl rfl (by rfl) mixed _ _ trivial 1000 ?_
    simp only [bodyOf, Try.f37, Option.getD_some, argA, argE, List.length_cons, List.length_nil, Nat.reduceAdd, Nat.reduceSub, List.replicate, List.cons_append, List.nil_append]
    simp only [↓PX, SX, SYX, EY, simprocAttr, TYX, cellsNV, foldNV, BY]
    refine CallVC.intro (v_Modulus s) ⟨rfl, trivial⟩ rfl rfl ?_
    simp only [↓PX, SX, SYX, EY, simprocAttr, TYX, cellsNV, foldNV, BY, he]
    refine CallVC.intro (v_Of s a ha) ⟨rfl, rfl, trivial⟩ rfl rfl ?_
    simp only [↓PX, SX, SYX, EY, simprocAttr, TYX, cellsNV, foldNV, BY]
    refine loop_hav ?_
    simp only [↓PX, SX, SYX, EY, simprocAttr, TYX, cellsNV, foldNV, BY]
    refine loop_go mixed (by trivial) (γ := Nat) (fun i => i ≤ 32) (fun i => 32 - i) (fun i => [(7, .o (.r 66 i)), (8, iv i), (19, .o .any)]) (fun i => [(66, .row 5 1 i (LC bC (tab i (by8 (a % md s)))))]) 0 (by omega)
      (St.le_of id (by simp [-List.getD_eq_getElem?_getD, SYX, iv, Tle, AVle, A0le, Mem.get, bL_nil, tab]) (by simp [-List.getD_eq_getElem?_getD, SYX, Mle, Ele, Mem.get, bL_nil, tab]) (by simp [SYX]) (by simp [SYX])) ?_
    intro i hi
    simp only [↓PX, SX, SYX, EY, simprocAttr, TYX, cellsNV, foldNV, BY]
    refine cond_split (fun h0 => ?_) (fun h0 => ?_)
    · have h0 : i < 32 := by
        have : (i : Int) < 32 := by simpa using h0
        omega
      have h1 : i / 8 < 4 := by omega
      have h2 : 8 * (i % 8) < 18446744073709551616 := by omega
      simp only [↓PX, SX, SYX, EY, simprocAttr, TYX, cellsNV, foldNV, BY, q8 (i := i) (by omega), r8 (i := i), m8 (i := i), lb_at h1, c8, uN h2, byte_of, wS (j := i) (by omega)]
      repeat (first | refine DrawVC.intro (by kernel_rfl) ?_ | refine And.intro (by omega) ?_ | exact trivial)
      have ht : tab i (by8 (a % md s)) ++ [by8 (a % md s) i] = tab (i + 1) (by8 (a % md s)) := by simp [tab, List.range_succ]
      exact ⟨i + 1, by omega, by omega, (St.le_of (ren [(66, 134)]) (by simp [-List.getD_eq_getElem?_getD, SYX, iv, ren, Tle, AVle, A0le, Mem.get, ht]) (by simp [-List.getD_eq_getElem?_getD, SYX, ren, Mle, Ele, Mem.get, ht]) (by simp [SYX, ren]) (by simp [SYX]))⟩
    · have h0 : i = 32 := by
        have : (32 : Int) ≤ (i : Int) := by simpa using h0
        omega
      subst h0
      simp only [↓PX, SX, SYX, EY, simprocAttr, TYX, cellsNV, foldNV, BY]
      exact ⟨rfl, by simp⟩
def n77 : Nat := 483336833624774418841557527839902575727981613289652445249613
theorem c_Marked (l : List Nat) (hb : (l.length + 9) * 32 ≤ 140737488355328) : Contract Try.prog 39 [.mv 24 4 l.length (LC eC l)] [.val (.bool true)] := by
  refine contract_of (N := _) (vars := _) (c := bodyOf Try.f39) Try.func39 (body_eq rfl) rfl rfl (by rfl) mixed _ _ trivial 1000 ?_
  simp only [bodyOf, Try.f39, Option.getD_some, argA, argE, List.length_cons, List.length_nil, Nat.reduceAdd, Nat.reduceSub, List.replicate, List.cons_append, List.nil_append]
  simp only [↓PX, SX, SYX, EY, simprocAttr, TYX, cellsNV, foldNV, BY]
  refine loop_hav ?_
  simp only [↓PX, SX, SYX, EY, simprocAttr, TYX, cellsNV, foldNV, BY]
  refine loop_go mixed (by trivial) (γ := Nat × List Nat) (fun g => g.1 ≤ l.length ∧ g.2.length = l.length) (fun g => l.length - g.1) (fun g => [(3, iv g.1)]) (fun g => [(0, .row 24 4 l.length (LC eC g.2))]) (0, l) ⟨by simp, rfl⟩
    (St.le_of id (by simp [-List.getD_eq_getElem?_getD, SYX, iv, Tle, AVle, A0le, Mem.get]) (by simp [-List.getD_eq_getElem?_getD, SYX, Mle, Ele, Mem.get]) (by simp [SYX]) (by simp [SYX])) ?_
  rintro ⟨i, m⟩ ⟨hi, hm⟩
  dsimp only at hi hm
  simp only [↓PX, SX, SYX, EY, simprocAttr, TYX, cellsNV, foldNV, BY]
  refine cond_split (fun h0 => ?_) (fun h0 => ?_)
  · have h0 : i < l.length := by simpa using h0
    simp only [↓PX, SX, SYX, EY, simprocAttr, TYX, cellsNV, foldNV, BY, hm]
    repeat (first | refine DrawVC.intro (by kernel_rfl) ?_ | refine And.intro (by omega) ?_ | exact trivial)
    have hs : List.take (i * 4) (LC eC m) ++ [u64 77, u64 77, u64 77, u64 77] ++ List.drop (i * 4 + 4) (LC eC m) = LC eC (m.set i n77) := by
      have h := eL_st (l := m) (j := i) (v := n77) (by omega)
      rw [show L0 n77 = 77 by rfl, show L1 n77 = 77 by rfl, show L2 n77 = 77 by rfl, show L3 n77 = 77 by rfl] at h
      exact h
    rw [hs]
    exact ⟨(i + 1, m.set i n77), ⟨by dsimp only; omega, by simp [hm]⟩, by dsimp only; omega, (St.le_of id (by simp [-List.getD_eq_getElem?_getD, SYX, iv, Tle, AVle, A0le, Mem.get, wS (j := i) (by omega)]) (by simp [-List.getD_eq_getElem?_getD, SYX, Mle, Ele, Mem.get, wS (j := i) (by omega)]) (by simp [SYX]) (by simp [SYX]))⟩
  · simp only [↓PX, SX, SYX, EY, simprocAttr, TYX, cellsNV, foldNV, BY]
    refine loop_rounds 10 ?_
    refine RoundsVC.step mixed trivial 1000 ?_
    simp only [↓PX, SX, SYX, EY, simprocAttr, TYX, cellsNV, foldNV, BY]
    repeat (first | refine DrawVC.intro (by kernel_rfl) ?_ | refine And.intro (by omega) ?_ | exact trivial)
    refine RoundsVC.step mixed trivial 1000 ?_
    simp only [↓PX, SX, SYX, EY, simprocAttr, TYX, cellsNV, foldNV, BY]
    repeat (first | refine DrawVC.intro (by kernel_rfl) ?_ | refine And.intro (by omega) ?_ | exact trivial)
    refine RoundsVC.step mixed trivial 1000 ?_
    simp only [↓PX, SX, SYX, EY, simprocAttr, TYX, cellsNV, foldNV, BY]
    repeat (first | refine DrawVC.intro (by kernel_rfl) ?_ | refine And.intro (by omega) ?_ | exact trivial)
    refine RoundsVC.step mixed trivial 1000 ?_
    simp only [↓PX, SX, SYX, EY, simprocAttr, TYX, cellsNV, foldNV, BY]
    repeat (first | refine DrawVC.intro (by kernel_rfl) ?_ | refine And.intro (by omega) ?_ | exact trivial)
    refine RoundsVC.step mixed trivial 1000 ?_
    simp only [↓PX, SX, SYX, EY, simprocAttr, TYX, cellsNV, foldNV, BY]
    repeat (first | refine DrawVC.intro (by kernel_rfl) ?_ | refine And.intro (by omega) ?_ | exact trivial)
    refine RoundsVC.step mixed trivial 1000 ?_
    simp only [↓PX, SX, SYX, EY, simprocAttr, TYX, cellsNV, foldNV, BY]
    repeat (first | refine DrawVC.intro (by kernel_rfl) ?_ | refine And.intro (by omega) ?_ | exact trivial)
    refine RoundsVC.step mixed trivial 1000 ?_
    simp only [↓PX, SX, SYX, EY, simprocAttr, TYX, cellsNV, foldNV, BY]
    repeat (first | refine DrawVC.intro (by kernel_rfl) ?_ | refine And.intro (by omega) ?_ | exact trivial)
    refine RoundsVC.step mixed trivial 1000 ?_
    simp only [↓PX, SX, SYX, EY, simprocAttr, TYX, cellsNV, foldNV, BY]
    repeat (first | refine DrawVC.intro (by kernel_rfl) ?_ | refine And.intro (by omega) ?_ | exact trivial)
    refine RoundsVC.step mixed trivial 1000 ?_
    simp only [↓PX, SX, SYX, EY, simprocAttr, TYX, cellsNV, foldNV, BY]
    repeat (first | refine DrawVC.intro (by kernel_rfl) ?_ | refine And.intro (by omega) ?_ | exact trivial)
    refine RoundsVC.step mixed trivial 1000 ?_
    simp only [↓PX, SX, SYX, EY, simprocAttr, TYX, cellsNV, foldNV, BY]
    refine congrArg Value.bool ?_
    simp only [decide_eq_true_eq]
    omega
end Go.Sx
