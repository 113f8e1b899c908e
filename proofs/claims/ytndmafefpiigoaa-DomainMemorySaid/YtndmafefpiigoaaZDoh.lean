/-
  Values of the reference; what is asked before a transform. No conditions.
-/
import Derived.Test.YtndmafefpiigoaaZDog
namespace Go.Sx
open Go.Proofs Go.Num
-- SY
-- TY: TYX, UX
set_option maxRecDepth 100000
set_option linter.unusedSimpArgs false
set_option pp.deepTerms true
set_option pp.maxSteps 100000
def rdE (s k : Int) (sh : Nat) : Int := if ptO s k then (if sh % md s = 0 then 10 else 0) else eK s k
theorem u_ready (s k : Int) (sh : Nat) (hs : sh < W256) : Contract Try.prog 94 [.val (.int .i64 s), .val (.int .i64 k), .val (EN sh)] [.val (.int .i64 (rdE s k sh))] := by
  cases h : ptO s k with
  | false =>
    have e2 : rdE s k sh = eK s k := by simp [rdE, h]
    have e3 : eK s k ≠ 0 := fun e => by rw [eK_0.1 e] at h; cases h
    have e4 : (eK s k != 0) = true := by simp [e3]
    rw [e2]
    refine contract_of (N := _) (vars := _) (c := bodyOf Try.f94) Try.func94 (body_eq rfl) rfl rfl (by rfl) mixed _ _ trivial 1000 ?_
    simp only [bodyOf, Try.f94, Option.getD_some, argA, argE, List.length_cons, List.length_nil, Nat.reduceAdd, Nat.reduceSub, List.replicate, List.cons_append, List.nil_append]
    simp only [↓PX, SX, SYX, EY, simprocAttr, TYX, UX]
    refine CallVC.intro (u_check s k) ⟨rfl, rfl, trivial⟩ rfl rfl ?_
    simp only [↓PX, SX, SYX, EY, simprocAttr, TYX, UX, e4]
  | true =>
    have e2 : eK s k = 0 := eK_0.2 h
    have c1 := u_Add s sh 0 hs (by decide)
    rw [Nat.add_zero] at c1
    have e5 : eqN (sh % md s) 0 = (sh % md s == 0) := eqN_eq (md_w s _) (by decide)
    by_cases hz : sh % md s = 0
    · have e6 : (sh % md s == 0) = true := beq_iff_eq.2 hz
      have e7 : rdE s k sh = 10 := by simp [rdE, h, hz]
      rw [e7]
      refine contract_of (N := _) (vars := _) (c := bodyOf Try.f94) Try.func94 (body_eq rfl) rfl rfl (by rfl) mixed _ _ trivial 1000 ?_
      simp only [bodyOf, Try.f94, Option.getD_some, argA, argE, List.length_cons, List.length_nil, Nat.reduceAdd, Nat.reduceSub, List.replicate, List.cons_append, List.nil_append]
      simp only [↓PX, SX, SYX, EY, simprocAttr, TYX, UX]
      refine CallVC.intro (u_check s k) ⟨rfl, rfl, trivial⟩ rfl rfl ?_
      simp only [↓PX, SX, SYX, EY, simprocAttr, TYX, UX, e2]
      refine CallVC.intro (c1) ⟨rfl, rfl, rfl, trivial⟩ rfl rfl ?_
      simp only [↓PX, SX, SYX, EY, simprocAttr, TYX, UX, e5, e6]
    · have e6 : (sh % md s == 0) = false := beq_eq_false_iff_ne.2 hz
      have e7 : rdE s k sh = 0 := by simp [rdE, h, hz]
      rw [e7]
      refine contract_of (N := _) (vars := _) (c := bodyOf Try.f94) Try.func94 (body_eq rfl) rfl rfl (by rfl) mixed _ _ trivial 1000 ?_
      simp only [bodyOf, Try.f94, Option.getD_some, argA, argE, List.length_cons, List.length_nil, Nat.reduceAdd, Nat.reduceSub, List.replicate, List.cons_append, List.nil_append]
      simp only [↓PX, SX, SYX, EY, simprocAttr, TYX, UX]
      refine CallVC.intro (u_check s k) ⟨rfl, rfl, trivial⟩ rfl rfl ?_
      simp only [↓PX, SX, SYX, EY, simprocAttr, TYX, UX, e2]
      refine CallVC.intro (c1) ⟨rfl, rfl, rfl, trivial⟩ rfl rfl ?_
      simp only [↓PX, SX, SYX, EY, simprocAttr, TYX, UX, e5, e6]
/-- The values of a polynomial over a shift. -/
def vaO (s k : Int) (sh : Nat) (l : List Nat) : Bool := ptO s k && decide (sh % md s ≠ 0) && decide (l.length ≤ 2 ^ k.toNat)
def vaF (s k : Int) (sh : Nat) (l : List Nat) (i : Nat) : Nat := evp (md s) (sh * pt s k i % md s) l
def vaL (s k : Int) (sh : Nat) (l : List Nat) : List Nat := if vaO s k sh l then tab (2 ^ k.toNat) (vaF s k sh l) else []
def vaE (s k : Int) (sh : Nat) (l : List Nat) : Int := if ptO s k then (if sh % md s = 0 then 10 else if l.length ≤ 2 ^ k.toNat then 0 else 50) else eK s k
theorem v_Values (s k : Int) (sh : Nat) (l : List Nat) (hs : sh < W256) (hl : ∀ x ∈ l, x < W256) (hb : l.length * 32 ≤ 140737488355328) : Contract Try.prog 57 [.val (.int .i64 s), .val (.int .i64 k), .val (EN sh), .sl l.length 4 (LC eC l)] [.row 25 4 (vaL s k sh l).length (LC eC (vaL s k sh l)), .val (.int .i64 (vaE s k sh l))] := by
  cases h : ptO s k with
  | false =>
    have e1 : vaL s k sh l = [] := by simp [vaL, vaO, h]
    have e2 : vaE s k sh l = eK s k := by simp [vaE, h]
    have e3 : eK s k ≠ 0 := fun e => by rw [eK_0.1 e] at h; cases h
    have e4 : (eK s k != 0) = true := by simp [e3]
    rw [e1, e2]
    refine contract_of (N := _) (vars := _) (c := bodyOf Try.f57) Try.func57 (body_eq rfl) rfl rfl (by rfl) mixed _ _ trivial 1000 ?_
    simp only [bodyOf, Try.f57, Option.getD_some, argA, argE, List.length_cons, List.length_nil, Nat.reduceAdd, Nat.reduceSub, List.replicate, List.cons_append, List.nil_append]
    simp only [↓PX, SX, SYX, EY, simprocAttr, TYX, UX]
    refine CallVC.intro (v_Points s k) ⟨rfl, rfl, trivial⟩ rfl rfl ?_
    simp only [↓PX, SX, SYX, EY, simprocAttr, TYX, UX, e4]
  | true =>
    have e2 : eK s k = 0 := eK_0.2 h
    have hp := pow_le9 (k := k.toNat) (by have := ptO_iff.1 h; omega)
    have hlen := ptL_len h
    have c1 := v_Points s k
    rw [e2, hlen] at c1
    have e5 : eqN (sh % md s) 0 = (sh % md s == 0) := eqN_eq (md_w s _) (by decide)
    by_cases hz : sh % md s = 0
    · have e6 : (sh % md s == 0) = true := beq_iff_eq.2 hz
      have e7 : vaE s k sh l = 10 := by simp [vaE, h, hz]
      have e8 : vaL s k sh l = [] := by simp [vaL, vaO, hz]
      rw [e7, e8]
      refine contract_of (N := _) (vars := _) (c := bodyOf Try.f57) Try.func57 (body_eq rfl) rfl rfl (by rfl) mixed _ _ trivial 1000 ?_
      simp only [bodyOf, Try.f57, Option.getD_some, argA, argE, List.length_cons, List.length_nil, Nat.reduceAdd, Nat.reduceSub, List.replicate, List.cons_append, List.nil_append]
      simp only [↓PX, SX, SYX, EY, simprocAttr, TYX, UX]
      refine CallVC.intro (c1) ⟨rfl, rfl, trivial⟩ rfl rfl ?_
      simp only [↓PX, SX, SYX, EY, simprocAttr, TYX, UX]
      repeat (first | refine DrawVC.intro (by kernel_rfl) ?_ | refine And.intro (by omega) ?_ | exact trivial)
      refine CallVC.intro (v_Of s sh hs) ⟨rfl, rfl, trivial⟩ rfl rfl ?_
      simp only [↓PX, SX, SYX, EY, simprocAttr, TYX, UX, e5, e6]
    · have e6 : (sh % md s == 0) = false := beq_eq_false_iff_ne.2 hz
      obtain ⟨N, hN⟩ : ∃ N, 2 ^ k.toNat = N := ⟨_, rfl⟩
      rw [hN] at hp hlen c1
      by_cases hln : l.length ≤ N
      · have d1 : decide ((N : Int) < (l.length : Int)) = false := by simp; omega
        have e7 : vaE s k sh l = 0 := by simp [vaE, h, hz, hN, hln]
        have e8 : vaL s k sh l = tab N (vaF s k sh l) := by simp [vaL, vaO, h, hz, hN, hln]
        rw [e7, e8, tab_len]
        refine contract_of (N := _) (vars := _) (c := bodyOf Try.f57) Try.func57 (body_eq rfl) rfl rfl (by rfl) mixed _ _ trivial 1000 ?_
        simp only [bodyOf, Try.f57, Option.getD_some, argA, argE, List.length_cons, List.length_nil, Nat.reduceAdd, Nat.reduceSub, List.replicate, List.cons_append, List.nil_append]
        simp only [↓PX, SX, SYX, EY, simprocAttr, TYX, UX]
        refine CallVC.intro (c1) ⟨rfl, rfl, trivial⟩ rfl rfl ?_
        simp only [↓PX, SX, SYX, EY, simprocAttr, TYX, UX]
        repeat (first | refine DrawVC.intro (by kernel_rfl) ?_ | refine And.intro (by omega) ?_ | exact trivial)
        refine CallVC.intro (v_Of s sh hs) ⟨rfl, rfl, trivial⟩ rfl rfl ?_
        simp only [↓PX, SX, SYX, EY, simprocAttr, TYX, UX, e5, e6, d1]
        refine loop_hav ?_
        simp only [↓PX, SX, SYX, EY, simprocAttr, TYX, UX]
        refine loop_go mixed (by trivial) (γ := Nat) (fun i => i ≤ N) (fun i => N - i) (fun i => [(14, iv i), (35, .o .any), (13, .o (.r 108 i))]) (fun i => [(108, .row 25 4 i (LC eC (tab i (vaF s k sh l))))]) 0 (by omega)
          (St.le_of id (by simp [-List.getD_eq_getElem?_getD, SYX, iv, Tle, AVle, A0le, Mem.get, tab_0, eL_nil]) (by simp [-List.getD_eq_getElem?_getD, SYX, Mle, Ele, Hle, Tle, AVle, A0le, Mem.get, tab_0, eL_nil]) (by simp [SYX]) (by simp [SYX])) ?_
        intro i hi
        simp only [↓PX, SX, SYX, EY, simprocAttr, TYX, UX]
        refine cond_split (fun h0 => ?_) (fun h0 => ?_)
        · have h0 : i < N := by simpa using h0
          have hip : i < (ptL s k).length := by omega
          have hld := eL_ld hip
          rw [ptL_at h (by omega)] at hld
          have cv := v_Eval6 s l (sh * pt s k i % md s) hl (md_w s _) hb
          rw [show evp (md s) (sh * pt s k i % md s) l = vaF s k sh l i from rfl] at cv
          simp only [↓PX, SX, SYX, EY, simprocAttr, TYX, UX, hlen, hld]
          repeat (first | refine DrawVC.intro (by kernel_rfl) ?_ | refine And.intro (by omega) ?_ | exact trivial)
          refine CallVC.intro (v_Mul s sh _ hs (pt_w s k i)) ⟨rfl, rfl, rfl, trivial⟩ rfl rfl ?_
          simp only [↓PX, SX, SYX, EY, simprocAttr, TYX, UX]
          refine CallVC.intro (cv) ⟨rfl, (by simp only [argMatch, SX, SYX, EY, simprocAttr, and_self, List.length_append, List.length_map, List.length_set, TYX, UX, tab_snoc, wS (j := i) (by omega)]), rfl, trivial⟩ rfl rfl ?_
          simp only [↓PX, SX, SYX, EY, simprocAttr, TYX, UX, tab_snoc, wS (j := i) (by omega)]
          repeat (first | refine DrawVC.intro (by kernel_rfl) ?_ | refine And.intro (by omega) ?_ | exact trivial)
          exact ⟨i + 1, by omega, by omega, (St.le_of (ren [(108, 184)]) (by simp [-List.getD_eq_getElem?_getD, SYX, iv, ren, Tle, AVle, A0le, Mem.get, Nat.add_assoc]) (by simp [-List.getD_eq_getElem?_getD, SYX, ren, Mle, Ele, Mem.get, Nat.add_assoc]) (by simp [SYX, ren]) (by simp [SYX]))⟩
        · have h0 : i = N := by
            have : N ≤ i := by simpa using h0
            omega
          subst h0
          simp only [↓PX, SX, SYX, EY, simprocAttr, TYX, UX]
      · have d1 : decide ((N : Int) < (l.length : Int)) = true := by simp; omega
        have e7 : vaE s k sh l = 50 := by simp [vaE, h, hz, hN, hln]
        have e8 : vaL s k sh l = [] := by simp [vaL, vaO, hN, hln]
        rw [e7, e8]
        refine contract_of (N := _) (vars := _) (c := bodyOf Try.f57) Try.func57 (body_eq rfl) rfl rfl (by rfl) mixed _ _ trivial 1000 ?_
        simp only [bodyOf, Try.f57, Option.getD_some, argA, argE, List.length_cons, List.length_nil, Nat.reduceAdd, Nat.reduceSub, List.replicate, List.cons_append, List.nil_append]
        simp only [↓PX, SX, SYX, EY, simprocAttr, TYX, UX]
        refine CallVC.intro (c1) ⟨rfl, rfl, trivial⟩ rfl rfl ?_
        simp only [↓PX, SX, SYX, EY, simprocAttr, TYX, UX]
        repeat (first | refine DrawVC.intro (by kernel_rfl) ?_ | refine And.intro (by omega) ?_ | exact trivial)
        refine CallVC.intro (v_Of s sh hs) ⟨rfl, rfl, trivial⟩ rfl rfl ?_
        simp only [↓PX, SX, SYX, EY, simprocAttr, TYX, UX, e5, e6, d1]
/-- The polynomial of values, over a shift. -/
def coO (s k : Int) (sh : Nat) (l : List Nat) : Bool := ptO s k && decide (sh % md s ≠ 0) && decide (l.length = 2 ^ k.toNat)
def coB (s k : Int) (sh : Nat) : Nat → Nat := pw s (inv s (iN s ((2 ^ k.toNat : Nat) : Int))) (inv s sh)
def coF (s k : Int) (sh : Nat) (l : List Nat) (j : Nat) : Nat := evp (md s) (pt s k ((2 ^ k.toNat - j) % 2 ^ k.toNat)) l * coB s k sh j % md s
def coL (s k : Int) (sh : Nat) (l : List Nat) : List Nat := if coO s k sh l then tab (2 ^ k.toNat) (coF s k sh l) else []
def coE (s k : Int) (sh : Nat) (l : List Nat) : Int := if ptO s k then (if sh % md s = 0 then 10 else if l.length = 2 ^ k.toNat then 0 else 50) else eK s k
end Go.Sx
