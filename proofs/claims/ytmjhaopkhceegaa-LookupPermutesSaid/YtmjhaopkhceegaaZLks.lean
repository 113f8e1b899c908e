/-
  rising of the reference. No conditions.
-/
import Derived.Test.YtmjhaopkhceegaaZLkr
namespace Go.Sx
open Go.Proofs Go.Num
-- SY
-- TY: TYX, UX, IOX, cellsE, foldE, foldN, cellsN, b_EN
set_option maxRecDepth 100000
set_option linter.unusedSimpArgs false
set_option pp.deepTerms true
set_option pp.maxSteps 100000
/-- Was v put already? -/
def npP (v : Nat) (l : List Nat) : Bool := l.any fun x => decide (v < x)
/-- The list so far. -/
def npL (v : Nat) (l : List Nat) : List Nat := if npP v l then insU v l else l
theorem insU_end {v : Nat} : ∀ {l : List Nat}, npP v l = false → insU v l = l ++ [v]
  | [], _ => rfl
  | x :: l, h => by
    simp only [npP, List.any_cons, Bool.or_eq_false_iff, decide_eq_false_iff_not] at h
    unfold insU
    rw [if_neg h.1, insU_end (l := l) h.2]; rfl
theorem insU_app {v x : Nat} : ∀ {l : List Nat}, npP v l = true → insU v (l ++ [x]) = insU v l ++ [x]
  | [], h => by simp [npP] at h
  | y :: l, h => by
    show insU v (y :: (l ++ [x])) = _
    unfold insU
    by_cases hy : v < y
    · rw [if_pos hy, if_pos hy]; rfl
    · rw [if_neg hy, if_neg hy]
      have : npP v l = true := by simpa [npP, hy] using h
      rw [insU_app this]; rfl
theorem insU_app2 {v x : Nat} (hx : v < x) : ∀ {l : List Nat}, npP v l = false → insU v (l ++ [x]) = l ++ [v, x]
  | [], _ => by simp [insU, hx]
  | y :: l, h => by
    simp only [npP, List.any_cons, Bool.or_eq_false_iff, decide_eq_false_iff_not] at h
    show insU v (y :: (l ++ [x])) = _
    unfold insU
    rw [if_neg h.1, insU_app2 hx (l := l) h.2]; rfl
theorem npP_app {v x : Nat} {l : List Nat} : npP v (l ++ [x]) = (npP v l || decide (v < x)) := by simp [npP]
theorem npL_app {v x : Nat} {l : List Nat} : npL v (l ++ [x]) = (if (!npP v l && decide (v < x)) = true then npL v l ++ [v] else npL v l) ++ [x] := by
  unfold npL
  rw [npP_app]
  cases h : npP v l with
  | true => simp [insU_app h]
  | false =>
    by_cases hx : v < x
    · simp [hx, insU_app2 hx h]
    · simp [hx]
theorem npL_end {v : Nat} {l : List Nat} : (if (!npP v l) = true then npL v l ++ [v] else npL v l) = insU v l := by
  unfold npL
  cases h : npP v l with
  | true => simp
  | false => simp [insU_end h]
theorem insU_len {v : Nat} {l : List Nat} : (insU v l).length = l.length + 1 := (insU_perm v l).length_eq
theorem npL_len {v : Nat} {l : List Nat} : (npL v l).length ≤ l.length + 1 := by
  unfold npL; split
  · rw [insU_len]; omega
  · omega
theorem insA_snoc {l : List Nat} {v : Nat} : insA (l ++ [v]) = insU v (insA l) := by simp [insA]
theorem insA_len : ∀ l : List Nat, (insA l).length = l.length := fun l => by rw [insA_asc, asc_len]
theorem insA_mem {l : List Nat} {x : Nat} : x ∈ insA l ↔ x ∈ l := by rw [insA_asc, asc_mem]
theorem v_below (a b : Nat) (ha : a < W256) (hb : b < W256) : Contract Try.prog 59 [.val (EN a), .val (EN b)] [.val (.bool (decide (a < b)))] := by
  obtain ⟨a0, a1, a2, a3, ha0, ha1, ha2, ha3, rfl⟩ := EN_ex ha
  obtain ⟨b0, b1, b2, b3, hb0, hb1, hb2, hb3, rfl⟩ := EN_ex hb
  rw [EN_of ha0 ha1 ha2 ha3 rfl, EN_of hb0 hb1 hb2 hb3 rfl]
  clear ha hb
  obtain ⟨R, hR⟩ : ∃ R : Bool, decide (a0 + 18446744073709551616 * a1 + 340282366920938463463374607431768211456 * a2 + 6277101735386680763835789423207666416102355444464034512896 * a3 < b0 + 18446744073709551616 * b1 + 340282366920938463463374607431768211456 * b2 + 6277101735386680763835789423207666416102355444464034512896 * b3) = R := ⟨_, rfl⟩
  rw [hR]
  refine contract_of (N := _) (vars := _) (c := bodyOf Try.f59) Try.func59 (body_eq rfl) rfl rfl (by rfl) mixed _ _ trivial 1000 ?_
  simp only [bodyOf, Try.f59, Option.getD_some, argA, argE, List.length_cons, List.length_nil, Nat.reduceAdd, Nat.reduceSub, List.replicate, List.cons_append, List.nil_append]
  simp only [↓PX, SX, SYX, EY, simprocAttr, TYX, UX, IOX, cellsE, foldE, foldN, cellsN, b_EN]
  refine loop_rounds 5 ?_
  refine RoundsVC.step mixed trivial 1000 ?_
  simp only [↓PX, SX, SYX, EY, simprocAttr, TYX, UX, IOX, cellsE, foldE, foldN, cellsN, b_EN]
  refine DrawVC.intro (by kernel_rfl) ?_
  refine cond_split (fun h3 => ?_) (fun h3 => ?_)
  · have h3 : a3 ≠ b3 := by simpa using h3
    simp only [↓PX, SX, SYX, EY, simprocAttr, TYX, UX, IOX, cellsE, foldE, foldN, cellsN, b_EN]
    refine DrawVC.intro (by kernel_rfl) ?_
    refine congrArg Value.bool ?_
    rw [← hR, Bool.eq_iff_iff]; simp only [decide_eq_true_eq]; omega
  have h3 : a3 = b3 := by simpa using h3
  subst h3
  simp only [↓PX, SX, SYX, EY, simprocAttr, TYX, UX, IOX, cellsE, foldE, foldN, cellsN, b_EN]
  refine RoundsVC.step mixed trivial 1000 ?_
  simp only [↓PX, SX, SYX, EY, simprocAttr, TYX, UX, IOX, cellsE, foldE, foldN, cellsN, b_EN]
  refine DrawVC.intro (by kernel_rfl) ?_
  refine cond_split (fun h2 => ?_) (fun h2 => ?_)
  · have h2 : a2 ≠ b2 := by simpa using h2
    simp only [↓PX, SX, SYX, EY, simprocAttr, TYX, UX, IOX, cellsE, foldE, foldN, cellsN, b_EN]
    refine DrawVC.intro (by kernel_rfl) ?_
    refine congrArg Value.bool ?_
    rw [← hR, Bool.eq_iff_iff]; simp only [decide_eq_true_eq]; omega
  have h2 : a2 = b2 := by simpa using h2
  subst h2
  simp only [↓PX, SX, SYX, EY, simprocAttr, TYX, UX, IOX, cellsE, foldE, foldN, cellsN, b_EN]
  refine RoundsVC.step mixed trivial 1000 ?_
  simp only [↓PX, SX, SYX, EY, simprocAttr, TYX, UX, IOX, cellsE, foldE, foldN, cellsN, b_EN]
  refine DrawVC.intro (by kernel_rfl) ?_
  refine cond_split (fun h1 => ?_) (fun h1 => ?_)
  · have h1 : a1 ≠ b1 := by simpa using h1
    simp only [↓PX, SX, SYX, EY, simprocAttr, TYX, UX, IOX, cellsE, foldE, foldN, cellsN, b_EN]
    refine DrawVC.intro (by kernel_rfl) ?_
    refine congrArg Value.bool ?_
    rw [← hR, Bool.eq_iff_iff]; simp only [decide_eq_true_eq]; omega
  have h1 : a1 = b1 := by simpa using h1
  subst h1
  simp only [↓PX, SX, SYX, EY, simprocAttr, TYX, UX, IOX, cellsE, foldE, foldN, cellsN, b_EN]
  refine RoundsVC.step mixed trivial 1000 ?_
  simp only [↓PX, SX, SYX, EY, simprocAttr, TYX, UX, IOX, cellsE, foldE, foldN, cellsN, b_EN]
  refine DrawVC.intro (by kernel_rfl) ?_
  refine cond_split (fun h0 => ?_) (fun h0 => ?_)
  · have h0 : a0 ≠ b0 := by simpa using h0
    simp only [↓PX, SX, SYX, EY, simprocAttr, TYX, UX, IOX, cellsE, foldE, foldN, cellsN, b_EN]
    refine DrawVC.intro (by kernel_rfl) ?_
    refine congrArg Value.bool ?_
    rw [← hR, Bool.eq_iff_iff]; simp only [decide_eq_true_eq]; omega
  have h0 : a0 = b0 := by simpa using h0
  subst h0
  simp only [↓PX, SX, SYX, EY, simprocAttr, TYX, UX, IOX, cellsE, foldE, foldN, cellsN, b_EN]
  refine RoundsVC.step mixed trivial 1000 ?_
  simp only [↓PX, SX, SYX, EY, simprocAttr, TYX, UX, IOX, cellsE, foldE, foldN, cellsN, b_EN]
  rw [← hR]
  simp
theorem v_rising (s : Int) (l : List Nat) (hl : ∀ x ∈ l, x < W256) (hb : l.length * 32 ≤ 140737488351232) :
    Contract Try.prog 36 [.val (.int .i64 s), .sl l.length 4 (LC eC l)] [.row 24 4 l.length (LC eC (asc (rsd s l)))] := by
  rw [← insA_asc]
  have hrl : (rsd s l).length = l.length := List.length_map _
  refine contract_of (N := _) (vars := _) (c := bodyOf Try.f36) Try.func36 (body_eq rfl) rfl rfl (by rfl) mixed _ _ trivial 1000 ?_
  simp only [bodyOf, Try.f36, Option.getD_some, argA, argE, List.length_cons, List.length_nil, Nat.reduceAdd, Nat.reduceSub, List.replicate, List.cons_append, List.nil_append]
  simp only [↓PX, SX, SYX, EY, simprocAttr, TYX, UX, IOX, cellsE, foldE, foldN, cellsN, b_EN]
  refine loop_hav ?_
  simp only [↓PX, SX, SYX, EY, simprocAttr, TYX, UX, IOX, cellsE, foldE, foldN, cellsN, b_EN]
  refine loop_go mixed (by trivial) (γ := Nat) (fun i => i ≤ l.length) (fun i => l.length - i) (fun i => [(6, iv i), (5, .o (.r 6 (insA ((rsd s l).take i)).length)), (8, .o .any), (9, .o .any), (10, .o .any), (7, .o .any), (11, .o .any)]) (fun i => [(6, .row 24 4 (insA ((rsd s l).take i)).length (LC eC (insA ((rsd s l).take i))))]) 0 (Nat.zero_le _) (St.le_of id (by simp [-List.getD_eq_getElem?_getD, SYX, iv, Tle, AVle, A0le, Mem.get, insA, LC]) (by simp [-List.getD_eq_getElem?_getD, SYX, Mle, Ele, Hle, Tle, AVle, A0le, Mem.get, insA, LC]) (by simp [SYX]) (by simp [SYX])) ?_
  intro i hi
  simp only [↓PX, SX, SYX, EY, simprocAttr, TYX, UX, IOX, cellsE, foldE, foldN, cellsN, b_EN]
  refine cond_split (fun h0 => ?_) (fun h0 => ?_)
  · have h0 : i < l.length := by simpa using h0
    have ld := eL_ld (l := l) (j := i) h0
    have hw : l.getD i 0 < W256 := by
      rw [List.getD_eq_getElem?_getD, List.getElem?_eq_getElem h0]
      exact hl _ (List.getElem_mem _)
    have w5 : IntKind.i64.wrap ((i : Int) + 1) = ((i + 1 : Nat) : Int) := wS (by omega)
    have hr : (rsd s l).getD i 0 = l.getD i 0 % md s := by
      unfold rsd
      rw [List.getD_eq_getElem?_getD, List.getElem?_map, List.getElem?_eq_getElem h0, List.getD_eq_getElem?_getD, List.getElem?_eq_getElem h0]; rfl
    have tk : (rsd s l).take (i + 1) = (rsd s l).take i ++ [l.getD i 0 % md s] := by rw [take_snoc (by omega), hr]
    have hvw : l.getD i 0 % md s < W256 := md_w s _
    have hIw : ∀ z ∈ insA ((rsd s l).take i), z < W256 := fun z hz => rsd_w z (List.mem_of_mem_take (insA_mem.1 hz))
    have hIl : (insA ((rsd s l).take i)).length = i := by rw [insA_len, List.length_take]; omega
    simp only [↓PX, SX, SYX, EY, simprocAttr, TYX, UX, IOX, cellsE, foldE, foldN, cellsN, b_EN, ld]
    repeat (first | refine DrawVC.intro (by kernel_rfl) ?_ | refine And.intro (by omega) ?_ | exact trivial)
    refine CallVC.intro (v_Of s _ hw) ⟨rfl, rfl, trivial⟩ rfl rfl ?_
    simp only [↓PX, SX, SYX, EY, simprocAttr, TYX, UX, IOX, cellsE, foldE, foldN, cellsN, b_EN]
    refine loop_hav ?_
    simp only [↓PX, SX, SYX, EY, simprocAttr, TYX, UX, IOX, cellsE, foldE, foldN, cellsN, b_EN]
    have hlen : (insA ((rsd s l).take (i + 1))).length = i + 1 := by rw [insA_len, List.length_take]; omega
    generalize hO : insA ((rsd s l).take i) = O at hIw hIl ⊢
    have eO : insA ((rsd s l).take (i + 1)) = insU (l.getD i 0 % md s) O := by rw [tk, insA_snoc, hO]
    generalize l.getD i 0 % md s = v at hvw eO ⊢
    refine loop_go mixed (by trivial) (γ := Nat) (fun j => j ≤ O.length) (fun j => O.length - j) (fun j => [(10, iv j), (8, .o (.r 66 (npL v (O.take j)).length)), (9, .o (.v (.bool (npP v (O.take j))))), (24, .o .any)]) (fun j => [(66, .row 24 4 (npL v (O.take j)).length (LC eC (npL v (O.take j))))]) 0 (Nat.zero_le _) (St.le_of id (by simp [-List.getD_eq_getElem?_getD, SYX, iv, Tle, AVle, A0le, Mem.get, npL, npP, LC]) (by simp [-List.getD_eq_getElem?_getD, SYX, Mle, Ele, Hle, Tle, AVle, A0le, Mem.get, npL, npP, LC]) (by simp [SYX]) (by simp [SYX])) ?_
    intro j hj
    simp only [↓PX, SX, SYX, EY, simprocAttr, TYX, UX, IOX, cellsE, foldE, foldN, cellsN, b_EN]
    refine cond_split (fun h1 => ?_) (fun h1 => ?_)
    · have h1 : j < O.length := by simpa using h1
      have ld2 := eL_ld (l := O) (j := j) h1
      have hw2 : O.getD j 0 < W256 := by
        rw [List.getD_eq_getElem?_getD, List.getElem?_eq_getElem h1]
        exact hIw _ (List.getElem_mem _)
      have w6 : IntKind.i64.wrap ((j : Int) + 1) = ((j + 1 : Nat) : Int) := wS (by omega)
      have tk2 := take_snoc h1
      have eP : npP v (O.take (j + 1)) = (npP v (O.take j) || decide (v < O.getD j 0)) := by rw [tk2, npP_app]
      have eL := npL_app (v := v) (x := O.getD j 0) (l := O.take j)
      rw [← tk2] at eL
      have hnl := npL_len (v := v) (l := O.take j)
      rw [List.length_take] at hnl
      cases hp : npP v (O.take j) with
      | true =>
        rw [hp] at eP eL
        simp only [Bool.true_or, Bool.not_true, Bool.false_and, Bool.false_eq_true, if_false] at eP eL
        simp only [↓PX, SX, SYX, EY, simprocAttr, TYX, UX, IOX, cellsE, foldE, foldN, cellsN, b_EN, hp, ld2]
        repeat (first | refine DrawVC.intro (by kernel_rfl) ?_ | refine And.intro (by omega) ?_ | exact trivial)
        simp only [↓PX, SX, SYX, EY, simprocAttr, TYX, UX, IOX, cellsE, foldE, foldN, cellsN, b_EN, w6]
        exact ⟨j + 1, by omega, by omega, (St.le_of (ren [(66, 162)]) (by simp [-List.getD_eq_getElem?_getD, SYX, iv, ren, Tle, AVle, A0le, Mem.get, eL, eP]) (by simp [-List.getD_eq_getElem?_getD, SYX, ren, Mle, Ele, Mem.get, eL, eP]) (by simp [SYX, ren]) (by simp [SYX]))⟩
      | false =>
        rw [hp] at eP eL
        simp only [Bool.false_or, Bool.not_false, Bool.true_and] at eP eL
        simp only [↓PX, SX, SYX, EY, simprocAttr, TYX, UX, IOX, cellsE, foldE, foldN, cellsN, b_EN, hp, ld2]
        repeat (first | refine DrawVC.intro (by kernel_rfl) ?_ | refine And.intro (by omega) ?_ | exact trivial)
        refine CallVC.intro (v_below v (O.getD j 0) hvw hw2) ⟨rfl, rfl, trivial⟩ rfl rfl ?_
        simp only [↓PX, SX, SYX, EY, simprocAttr, TYX, UX, IOX, cellsE, foldE, foldN, cellsN, b_EN]
        refine cond_split (fun h2 => ?_) (fun h2 => ?_)
        · rw [if_pos h2] at eL
          rw [h2] at eP
          repeat (first | refine DrawVC.intro (by kernel_rfl) ?_ | refine And.intro (by omega) ?_ | exact trivial | simp only [↓PX, SX, SYX, EY, simprocAttr, TYX, UX, IOX, cellsE, foldE, foldN, cellsN, b_EN, ld2, w6])
          exact ⟨j + 1, by omega, by omega, (St.le_of (ren [(66, 186)]) (by simp [-List.getD_eq_getElem?_getD, SYX, iv, ren, Tle, AVle, A0le, Mem.get, eL, eP]) (by simp [-List.getD_eq_getElem?_getD, SYX, ren, Mle, Ele, Mem.get, eL, eP]) (by simp [SYX, ren]) (by simp [SYX]))⟩
        · rw [if_neg (by rw [h2]; decide)] at eL
          rw [h2] at eP
          simp only [↓PX, SX, SYX, EY, simprocAttr, TYX, UX, IOX, cellsE, foldE, foldN, cellsN, b_EN, ld2, w6]
          repeat (first | refine DrawVC.intro (by kernel_rfl) ?_ | refine And.intro (by omega) ?_ | exact trivial)
          exact ⟨j + 1, by omega, by omega, (St.le_of (ren [(66, 162)]) (by simp [-List.getD_eq_getElem?_getD, SYX, iv, ren, Tle, AVle, A0le, Mem.get, eL, eP]) (by simp [-List.getD_eq_getElem?_getD, SYX, ren, Mle, Ele, Mem.get, eL, eP]) (by simp [SYX, ren]) (by simp [SYX]))⟩
    · have h1 : j = O.length := by
        have : O.length ≤ j := by simpa using h1
        omega
      subst h1
      have eL := npL_end (v := v) (l := O)
      have hnl := npL_len (v := v) (l := O)
      have ef : List.take O.length O = O := List.take_length
      cases hp : npP v O with
      | true =>
        rw [hp] at eL
        simp only [Bool.not_true, Bool.false_eq_true, if_false] at eL
        simp only [↓PX, SX, SYX, EY, simprocAttr, TYX, UX, IOX, cellsE, foldE, foldN, cellsN, b_EN, ef, hp, w5]
        exact ⟨i + 1, by omega, by omega, (St.le_of (ren [(6, 66)]) (by simp [-List.getD_eq_getElem?_getD, SYX, iv, ren, Tle, AVle, A0le, Mem.get, eO, eL, insU_len]) (by simp [-List.getD_eq_getElem?_getD, SYX, ren, Mle, Ele, Mem.get, eO, eL, insU_len]) (by simp [SYX, ren]) (by simp [SYX]))⟩
      | false =>
        rw [hp] at eL
        simp only [Bool.not_false, if_true] at eL
        have e3 : npL v O = O := by unfold npL; rw [hp]; rfl
        rw [e3] at eL
        simp only [↓PX, SX, SYX, EY, simprocAttr, TYX, UX, IOX, cellsE, foldE, foldN, cellsN, b_EN, ef, hp, e3]
        repeat (first | refine DrawVC.intro (by kernel_rfl) ?_ | refine And.intro (by omega) ?_ | exact trivial)
        simp only [↓PX, SX, SYX, EY, simprocAttr, TYX, UX, IOX, cellsE, foldE, foldN, cellsN, b_EN, w5]
        exact ⟨i + 1, by omega, by omega, (St.le_of (ren [(6, 118)]) (by simp [-List.getD_eq_getElem?_getD, SYX, iv, ren, Tle, AVle, A0le, Mem.get, eO, eL, insU_len]) (by simp [-List.getD_eq_getElem?_getD, SYX, ren, Mle, Ele, Mem.get, eO, eL, insU_len]) (by simp [SYX, ren]) (by simp [SYX]))⟩
  · have h0 : i = l.length := by
      have : l.length ≤ i := by simpa using h0
      omega
    subst h0
    have ef : List.take l.length (rsd s l) = rsd s l := by rw [← hrl]; exact List.take_length
    have el : (insA (rsd s l)).length = l.length := by rw [insA_len, hrl]
    simp only [↓PX, SX, SYX, EY, simprocAttr, TYX, UX, IOX, cellsE, foldE, foldN, cellsN, b_EN, ef, el]
end Go.Sx
