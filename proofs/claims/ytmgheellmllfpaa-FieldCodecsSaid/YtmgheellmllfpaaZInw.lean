/-
  The reference's Invert; the law FieldInverses. No conditions.
-/
import Derived.Test.YtmgheellmllfpaaZInv
namespace Go.Sx
open Go.Proofs Go.Num
-- SY
-- TY: TYX, cellsNV, foldNV
set_option maxRecDepth 100000
set_option linter.unusedSimpArgs false
set_option pp.deepTerms true
set_option pp.maxSteps 100000
theorem v_Invert (s : Int) (l : List Nat) (hl : ∀ x ∈ l, x < W256) (hb : l.length * 32 ≤ 140737488355328) :
    Contract Try.prog 23 [.val (.int .i64 s), .sl l.length 4 (LC eC l)] [.row 24 4 (invL s l).length (LC eC (invL s l)), .val (.int .i64 (eL s l))] := by
  cases hk : kn s with
  | false =>
    have he : eS s = 20 := by simp [eS, hk]
    have e1 : invL s l = [] := by simp [invL, okL, hk]
    have e2 : eL s l = 20 := by simp [eL, hk]
    rw [e1, e2]
    refine contract_of (N := _) (vars := _) (c := bodyOf Try.f23) Try.func23 (body_eq rfl) rfl rfl (by rfl) mixed _ _ trivial 1000 ?_
    simp only [bodyOf, Try.f23, Option.getD_some, argA, argE, List.length_cons, List.length_nil, Nat.reduceAdd, Nat.reduceSub, List.replicate, List.cons_append, List.nil_append]
    simp only [↓PX, SX, SYX, EY, simprocAttr, TYX, cellsNV, foldNV]
    refine CallVC.intro (v_Modulus s) ⟨rfl, trivial⟩ rfl rfl ?_
    simp only [↓PX, SX, SYX, EY, simprocAttr, TYX, cellsNV, foldNV, he]
  | true =>
    have he : eS s = 0 := by simp [eS, hk]
    refine contract_of (N := _) (vars := _) (c := bodyOf Try.f23) Try.func23 (body_eq rfl) rfl rfl (by rfl) mixed _ _ trivial 1000 ?_
    simp only [bodyOf, Try.f23, Option.getD_some, argA, argE, List.length_cons, List.length_nil, Nat.reduceAdd, Nat.reduceSub, List.replicate, List.cons_append, List.nil_append]
    simp only [↓PX, SX, SYX, EY, simprocAttr, TYX, cellsNV, foldNV]
    refine CallVC.intro (v_Modulus s) ⟨rfl, trivial⟩ rfl rfl ?_
    simp only [↓PX, SX, SYX, EY, simprocAttr, TYX, cellsNV, foldNV, he]
    repeat (first | refine DrawVC.intro (by kernel_rfl) ?_ | refine And.intro (by omega) ?_ | exact trivial)
    refine loop_hav ?_
    simp only [↓PX, SX, SYX, EY, simprocAttr, TYX, cellsNV, foldNV]
    refine loop_go mixed (by trivial) (γ := Nat) (fun i => i ≤ l.length ∧ ∀ j, j < i → l.getD j 0 % md s ≠ 0) (fun i => l.length - i) (fun i => [(8, .o (.r 50 i)), (9, iv i), (20, .o .any)]) (fun i => [(50, .row 24 4 i (LC eC ((l.take i).map (inv s))))]) 0 ⟨by omega, by omega⟩
      (St.le_of id (by simp [-List.getD_eq_getElem?_getD, SYX, iv, Tle, AVle, A0le, Mem.get, eL_nil]) (by simp [-List.getD_eq_getElem?_getD, SYX, Mle, Ele, Mem.get, eL_nil]) (by simp [SYX]) (by simp [SYX])) ?_
    intro i ⟨hi, hj⟩
    simp only [↓PX, SX, SYX, EY, simprocAttr, TYX, cellsNV, foldNV]
    refine cond_split (fun h0 => ?_) (fun h0 => ?_)
    · have h0 : i < l.length := by simpa using h0
      have hx := getD_lt hl h0
      simp only [↓PX, SX, SYX, EY, simprocAttr, TYX, cellsNV, foldNV, eL_ld h0]
      repeat (first | refine DrawVC.intro (by kernel_rfl) ?_ | refine And.intro (by omega) ?_ | exact trivial)
      by_cases hz : l.getD i 0 % md s = 0
      · have e4 : eI s (l.getD i 0) = 10 := by simp only [eI, hk, hz, if_true]
        have hok : okL s l = false := by
          simp only [okL, hk, Bool.true_and, List.all_eq_false]
          refine ⟨l[i], List.getElem_mem h0, ?_⟩
          have : l.getD i 0 = l[i] := by simp [List.getD, h0]
          rw [← this]; simpa using hz
        have e5 : invL s l = [] := by simp [invL, hok]
        have e6 : eL s l = 10 := by simp [eL, hk, hok]
        rw [e5, e6]
        refine CallVC.intro (v_Inv s _ hx) ⟨rfl, rfl, trivial⟩ rfl rfl ?_
        simp only [↓PX, SX, SYX, EY, simprocAttr, TYX, cellsNV, foldNV, e4]
      · have e4 : eI s (l.getD i 0) = 0 := by simp only [eI, hk, hz, if_true, if_false]
        refine CallVC.intro (v_Inv s _ hx) ⟨rfl, rfl, trivial⟩ rfl rfl ?_
        simp only [↓PX, SX, SYX, EY, simprocAttr, TYX, cellsNV, foldNV, e4, wS (j := i) (by omega)]
        repeat (first | refine DrawVC.intro (by kernel_rfl) ?_ | refine And.intro (by omega) ?_ | exact trivial)
        have ht : List.take i (List.map (inv s) l) ++ [inv s (l.getD i 0)] = List.take (i + 1) (List.map (inv s) l) := by
          rw [List.take_succ_eq_append_getElem (by simpa using h0)]
          simp [List.getD, h0]
        refine ⟨i + 1, ⟨by omega, fun j h1 => ?_⟩, by omega, (St.le_of (ren [(50, 146)]) (by simp [-List.getD_eq_getElem?_getD, SYX, iv, ren, Tle, AVle, A0le, Mem.get, ht]) (by simp [-List.getD_eq_getElem?_getD, SYX, ren, Mle, Ele, Mem.get, ht]) (by simp [SYX, ren]) (by simp [SYX]))⟩
        by_cases h2 : j = i
        · subst h2; exact hz
        · exact hj j (by omega)
    · have h0 : i = l.length := by
        have : l.length ≤ i := by simpa using h0
        omega
      subst h0
      have hok : okL s l = true := by
        simp only [okL, hk, Bool.true_and, List.all_eq_true, bne_iff_ne, ne_eq]
        intro x hx
        obtain ⟨j, hj2, rfl⟩ := List.mem_iff_getElem.1 hx
        have := hj j hj2
        simpa [List.getD, hj2] using this
      have e5 : invL s l = l.map (inv s) := by simp [invL, hok]
      have e6 : eL s l = 0 := by simp [eL, hk, hok]
      rw [e5, e6]
      simp only [↓PX, SX, SYX, EY, simprocAttr, TYX, cellsNV, foldNV]
      simp
theorem c_inverses (s : Int) (l : List Nat) (hl : ∀ x ∈ l, x < W256) : Contract Try.prog 5 [.val (.int .i64 s), .sl l.length 4 (LC eC l)] [.val (.bool true)] := by
  by_cases h40 : 40 < l.length
  · have e : decide ((40 : Int) < (l.length : Int)) = true := by simp; omega
    refine contract_of (N := _) (vars := _) (c := bodyOf Try.f5) Try.func5 (body_eq rfl) rfl rfl (by rfl) mixed _ _ trivial 1000 ?_
    simp only [bodyOf, Try.f5, Option.getD_some, argA, argE, List.length_cons, List.length_nil, Nat.reduceAdd, Nat.reduceSub, List.replicate, List.cons_append, List.nil_append]
    simp only [↓PX, SX, SYX, EY, simprocAttr, TYX, cellsNV, foldNV]
    refine CallVC.intro (c_alive) trivial rfl rfl ?_
    simp only [↓PX, SX, SYX, EY, simprocAttr, TYX, cellsNV, foldNV, e]
  · have e : decide ((40 : Int) < (l.length : Int)) = false := by simp; omega
    refine contract_of (N := _) (vars := _) (c := bodyOf Try.f5) Try.func5 (body_eq rfl) rfl rfl (by rfl) mixed _ _ trivial 1000 ?_
    simp only [bodyOf, Try.f5, Option.getD_some, argA, argE, List.length_cons, List.length_nil, Nat.reduceAdd, Nat.reduceSub, List.replicate, List.cons_append, List.nil_append]
    simp only [↓PX, SX, SYX, EY, simprocAttr, TYX, cellsNV, foldNV]
    refine CallVC.intro (c_alive) trivial rfl rfl ?_
    simp only [↓PX, SX, SYX, EY, simprocAttr, TYX, cellsNV, foldNV, e]
    refine CallVC.intro (c_SpareElems l (by omega)) ⟨(by simp only [argMatch, SX, SYX, EY, simprocAttr, and_self, List.length_append, List.length_map, List.length_set, TYX, cellsNV, foldNV]), trivial⟩ rfl rfl ?_
    simp only [↓PX, SX, SYX, EY, simprocAttr, TYX, cellsNV, foldNV]
    repeat (first | refine DrawVC.intro (by kernel_rfl) ?_ | refine And.intro (by omega) ?_ | exact trivial)
    refine CallVC.intro (u_Invert s l hl (by omega)) ⟨rfl, (by simp only [argMatch, SX, SYX, EY, simprocAttr, and_self, List.length_append, List.length_map, List.length_set, TYX, cellsNV, foldNV]), trivial⟩ rfl rfl ?_
    simp only [↓PX, SX, SYX, EY, simprocAttr, TYX, cellsNV, foldNV]
    refine CallVC.intro (v_Invert s l hl (by omega)) ⟨rfl, (by simp only [argMatch, SX, SYX, EY, simprocAttr, and_self, List.length_append, List.length_map, List.length_set, TYX, cellsNV, foldNV]), trivial⟩ rfl rfl ?_
    simp only [↓PX, SX, SYX, EY, simprocAttr, TYX, cellsNV, foldNV]
    have hi : (invL s l).length ≤ l.length := by unfold invL; split <;> simp
    have hw : ∀ x ∈ invL s l, x < W256 := by
      unfold invL
      split
      · intro x hx
        obtain ⟨y, _, rfl⟩ := List.mem_map.1 hx
        exact md_w2 (inv_lt _ _)
      · simp
    refine CallVC.intro (c_SameElems _ _ hw hw (by omega)) ⟨(by simp only [argMatch, SX, SYX, EY, simprocAttr, and_self, List.length_append, List.length_map, List.length_set, TYX, cellsNV, foldNV]), (by simp only [argMatch, SX, SYX, EY, simprocAttr, and_self, List.length_append, List.length_map, List.length_set, TYX, cellsNV, foldNV]), trivial⟩ rfl rfl ?_
    simp only [↓PX, SX, SYX, EY, simprocAttr, TYX, cellsNV, foldNV]
    refine CallVC.intro (c_SpareElems l (by omega)) ⟨(by simp only [argMatch, SX, SYX, EY, simprocAttr, and_self, List.length_append, List.length_map, List.length_set, TYX, cellsNV, foldNV]), trivial⟩ rfl rfl ?_
    simp only [↓PX, SX, SYX, EY, simprocAttr, TYX, cellsNV, foldNV]
    repeat (first | refine DrawVC.intro (by kernel_rfl) ?_ | refine And.intro (by omega) ?_ | exact trivial)
    have hw2 : ∀ x ∈ l ++ [901, 902, 903, 904], x < W256 := by
      intro x hx
      rcases List.mem_append.1 hx with h | h
      · exact hl x h
      · have : x < 905 := by simp at h; omega
        unfold W256; omega
    have hc := c_SameElems _ _ hw2 hw2 (by simp; omega)
    have hlen : (l ++ [901, 902, 903, 904]).length = l.length + 4 := by simp
    rw [hlen] at hc
    refine CallVC.intro (hc) ⟨(by simp only [argMatch, SX, SYX, EY, simprocAttr, and_self, List.length_append, List.length_map, List.length_set, TYX, cellsNV, foldNV]), (by simp only [argMatch, SX, SYX, EY, simprocAttr, and_self, List.length_append, List.length_map, List.length_set, TYX, cellsNV, foldNV]), trivial⟩ rfl rfl ?_
    simp only [↓PX, SX, SYX, EY, simprocAttr, TYX, cellsNV, foldNV]
    refine loop_hav ?_
    simp only [↓PX, SX, SYX, EY, simprocAttr, TYX, cellsNV, foldNV]
    refine loop_go mixed (by trivial) (γ := Nat) (fun i => i ≤ l.length) (fun i => l.length - i) (fun i => [(10, iv i)]) (fun _ => []) 0 (by omega) (St.le_of id (by simp [-List.getD_eq_getElem?_getD, SYX, iv, Tle, AVle, A0le, Mem.get]) (by simp [-List.getD_eq_getElem?_getD, SYX, Mle, Ele, Mem.get]) (by simp [SYX]) (by simp [SYX])) ?_
    intro i hi
    simp only [↓PX, SX, SYX, EY, simprocAttr, TYX, cellsNV, foldNV]
    refine cond_split (fun h0 => ?_) (fun h0 => ?_)
    · have h0 : i < l.length := by simpa using h0
      have hx := getD_lt hl h0
      simp only [↓PX, SX, SYX, EY, simprocAttr, TYX, cellsNV, foldNV, eL_ld h0]
      repeat (first | refine DrawVC.intro (by kernel_rfl) ?_ | refine And.intro (by omega) ?_ | exact trivial)
      refine CallVC.intro (u_Inv s _ hx) ⟨rfl, rfl, trivial⟩ rfl rfl ?_
      simp only [↓PX, SX, SYX, EY, simprocAttr, TYX, cellsNV, foldNV, eL_ld h0]
      repeat (first | refine DrawVC.intro (by kernel_rfl) ?_ | refine And.intro (by omega) ?_ | exact trivial)
      refine CallVC.intro (v_Inv s _ hx) ⟨rfl, rfl, trivial⟩ rfl rfl ?_
      simp only [↓PX, SX, SYX, EY, simprocAttr, TYX, cellsNV, foldNV, eL_ld h0, wS (j := i) (by omega)]
      repeat (first | refine DrawVC.intro (by kernel_rfl) ?_ | refine And.intro (by omega) ?_ | exact trivial)
      exact ⟨i + 1, by omega, by omega, (St.le_of id (by simp [-List.getD_eq_getElem?_getD, SYX, iv, Tle, AVle, A0le, Mem.get]) (by simp [-List.getD_eq_getElem?_getD, SYX, Mle, Ele, Mem.get]) (by simp [SYX]) (by simp [SYX]))⟩
    · simp only [↓PX, SX, SYX, EY, simprocAttr, TYX, cellsNV, foldNV]
end Go.Sx
