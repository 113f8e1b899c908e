/-
  PermuteTells walked. No conditions.
-/
import Derived.Test.YtgeliidjmefkgaaZPtc
namespace Go.Sx
open Go.Proofs Go.Num
-- SY
-- TY: TYX, UX, guard_un, IOX, mv_fa, plain_s, plain_r, plain_p, sx_cons, sx_nil, addTk, ldsOK, ldOK, sv_dead, sv_outE
set_option maxRecDepth 100000
set_option linter.unusedSimpArgs false
set_option pp.deepTerms true
set_option pp.maxSteps 100000
/-- The columns made so far: none at first. -/
def outA (K j : Nat) : A0 := match j with | 0 => .v (.slice none 0 0) | j + 1 => .r K (j + 1)
def outE (e j : Nat) (ys : List Value) : Ent := match j with | 0 => .dead | j + 1 => .row e 1 (j + 1) ys
theorem outE_le {σ : Nat → Nat} {M' : MemF} {e j : Nat} {ys : List Value} : Ele σ M' (outE e j ys) (outE e j ys) = True := by
  cases j with
  | zero => simp [outE, Ele]
  | succ j => simp [outE, Ele]
def coN (s : Int) (cs : List Nat) (j t : Nat) : List Nat := ((cs.drop (3 * j)).take t).map (· % md s)
theorem coN_0 {s : Int} {cs : List Nat} {j : Nat} : coN s cs j 0 = [] := by simp [coN]
theorem X_beqB {P : Program} {T : Nat → AV} {x y : Operand} {ty ty' : TypeId} {a b : Bool} (hty : P.underlying ty = some .bool) (hx : ev T x = .o (.v (.bool a))) (hy : ev T y = .o (.v (.bool b))) :
    pureOp P T (.binOp .eql ty x y ty') (.bool (a == b)) := by
  intro o f w ho hf _
  have e1 := hf x (by simp [Op.operands]) _ hx
  have e2 := hf y (by simp [Op.operands]) _ hy
  have h3 := run_equal_bool (P := P) w ty a b hty
  simp [execOp, ho, e1, e2, resolve, eqGuard, binOp, h3]
theorem sv_outE {e j : Nat} {ys : List Value} : savOf (outE e j ys) = none := by cases j <;> rfl
theorem outA_le {σ : Nat → Nat} {M' : MemF} {K j : Nat} (h : (M' K).isSome = true) (h2 : σ K = K) : AVle σ M' (.o (outA K j)) (.o (outA K j)) = True := by
  cases j with
  | zero => simp [outA, AVle, A0le]
  | succ j => simp [outA, AVle, A0le, h, h2]
set_option maxHeartbeats 4000000 in
theorem c_PermuteTells (s k : Int) (C S : List (List Nat)) (β γ : Nat) (cs : List Nat) (cy sy : List Value) (hβ : β < W256) (hγ : γ < W256) (hC : tbW C) (hS : tbW S) (hcs : ∀ z ∈ cs, z < W256)
    (hbC : ∀ l ∈ C, l.length * 32 ≤ 140737488351232) (hbS : ∀ l ∈ S, l.length * 32 ≤ 140737488351232) (hbc : cs.length * 32 ≤ 140737488351232) (hy : ∃ w, TB cy C w ∧ TB sy S w) :
    Contract Try.prog 18 [.fa (.int .i64 s) (fun w => TB cy C w ∧ TB sy S w), .val (.int .i64 k), .sl C.length 1 cy, .sl S.length 1 sy, .val (EN β), .val (EN γ), .sl cs.length 4 (LC eC cs)] [.val (.bool true)] := by
  obtain ⟨w9, hy9⟩ := hy
  have hcl : cy.length = C.length := hy9.1.1
  have hsl : sy.length = S.length := hy9.2.1
  have tkc : List.take C.length cy = cy := by rw [← hcl, List.take_length]
  have tks : List.take S.length sy = sy := by rw [← hsl, List.take_length]
  cases d0 : decide ((20 : Int) < (C.length : Int)) with
  | true =>
    have g1 := u_great16 C.length cy
    rw [d0] at g1
    refine contract_of (N := _) (vars := _) (c := bodyOf Try.f18) Try.func18 (body_eq rfl) rfl rfl (by rfl) mixed _ _ trivial 1000 ?_
    simp only [bodyOf, Try.f18, Option.getD_some, argA, argE, List.length_cons, List.length_nil, Nat.reduceAdd, Nat.reduceSub, List.replicate, List.cons_append, List.nil_append]
    simp only [↓PX, SX, SYX, EY, simprocAttr, TYX, UX, guard_un, IOX, mv_fa, plain_s, plain_r, plain_p, sx_cons, sx_nil, addTk, ldsOK, ldOK, sv_dead, sv_outE]
    repeat (first | refine DrawVC.intro (by kernel_rfl) ?_ | refine And.intro (by omega) ?_ | exact trivial | simp only [↓PX, SX, SYX, EY, simprocAttr, TYX, UX, guard_un, IOX, mv_fa, plain_s, plain_r, plain_p, sx_cons, sx_nil, addTk, ldsOK, ldOK, sv_dead, sv_outE])
    refine CallVC.intro (c_alive16) trivial rfl rfl ?_
    simp only [↓PX, SX, SYX, EY, simprocAttr, TYX, UX, guard_un, IOX, mv_fa, plain_s, plain_r, plain_p, sx_cons, sx_nil, addTk, ldsOK, ldOK, sv_dead, sv_outE]
    repeat (first | refine DrawVC.intro (by kernel_rfl) ?_ | refine And.intro (by omega) ?_ | exact trivial | simp only [↓PX, SX, SYX, EY, simprocAttr, TYX, UX, guard_un, IOX, mv_fa, plain_s, plain_r, plain_p, sx_cons, sx_nil, addTk, ldsOK, ldOK, sv_dead, sv_outE])
    refine CallVC.intro (g1) ⟨(by simp only [argMatch, SX, SYX, EY, simprocAttr, and_self, List.length_append, List.length_map, List.length_set, TYX, UX, guard_un, IOX, mv_fa, plain_s, plain_r, plain_p, sx_cons, sx_nil, addTk, ldsOK, ldOK, sv_dead, sv_outE, tkc, hcl]), trivial⟩ rfl rfl ?_
    simp only [↓PX, SX, SYX, EY, simprocAttr, TYX, UX, guard_un, IOX, mv_fa, plain_s, plain_r, plain_p, sx_cons, sx_nil, addTk, ldsOK, ldOK, sv_dead, sv_outE, tkc, hcl]
    repeat (first | refine DrawVC.intro (by kernel_rfl) ?_ | refine And.intro (by omega) ?_ | exact trivial | simp only [↓PX, SX, SYX, EY, simprocAttr, TYX, UX, guard_un, IOX, mv_fa, plain_s, plain_r, plain_p, sx_cons, sx_nil, addTk, ldsOK, ldOK, sv_dead, sv_outE])
  | false =>
  have g1 := u_great16 C.length cy
  rw [d0] at g1
  cases d1 : decide ((20 : Int) < (S.length : Int)) with
  | true =>
    have g2 := u_great16 S.length sy
    rw [d1] at g2
    refine contract_of (N := _) (vars := _) (c := bodyOf Try.f18) Try.func18 (body_eq rfl) rfl rfl (by rfl) mixed _ _ trivial 1000 ?_
    simp only [bodyOf, Try.f18, Option.getD_some, argA, argE, List.length_cons, List.length_nil, Nat.reduceAdd, Nat.reduceSub, List.replicate, List.cons_append, List.nil_append]
    simp only [↓PX, SX, SYX, EY, simprocAttr, TYX, UX, guard_un, IOX, mv_fa, plain_s, plain_r, plain_p, sx_cons, sx_nil, addTk, ldsOK, ldOK, sv_dead, sv_outE]
    repeat (first | refine DrawVC.intro (by kernel_rfl) ?_ | refine And.intro (by omega) ?_ | exact trivial | simp only [↓PX, SX, SYX, EY, simprocAttr, TYX, UX, guard_un, IOX, mv_fa, plain_s, plain_r, plain_p, sx_cons, sx_nil, addTk, ldsOK, ldOK, sv_dead, sv_outE])
    refine CallVC.intro (c_alive16) trivial rfl rfl ?_
    simp only [↓PX, SX, SYX, EY, simprocAttr, TYX, UX, guard_un, IOX, mv_fa, plain_s, plain_r, plain_p, sx_cons, sx_nil, addTk, ldsOK, ldOK, sv_dead, sv_outE]
    repeat (first | refine DrawVC.intro (by kernel_rfl) ?_ | refine And.intro (by omega) ?_ | exact trivial | simp only [↓PX, SX, SYX, EY, simprocAttr, TYX, UX, guard_un, IOX, mv_fa, plain_s, plain_r, plain_p, sx_cons, sx_nil, addTk, ldsOK, ldOK, sv_dead, sv_outE])
    refine CallVC.intro (g1) ⟨(by simp only [argMatch, SX, SYX, EY, simprocAttr, and_self, List.length_append, List.length_map, List.length_set, TYX, UX, guard_un, IOX, mv_fa, plain_s, plain_r, plain_p, sx_cons, sx_nil, addTk, ldsOK, ldOK, sv_dead, sv_outE, tkc, hcl]), trivial⟩ rfl rfl ?_
    simp only [↓PX, SX, SYX, EY, simprocAttr, TYX, UX, guard_un, IOX, mv_fa, plain_s, plain_r, plain_p, sx_cons, sx_nil, addTk, ldsOK, ldOK, sv_dead, sv_outE, tkc, hcl]
    repeat (first | refine DrawVC.intro (by kernel_rfl) ?_ | refine And.intro (by omega) ?_ | exact trivial | simp only [↓PX, SX, SYX, EY, simprocAttr, TYX, UX, guard_un, IOX, mv_fa, plain_s, plain_r, plain_p, sx_cons, sx_nil, addTk, ldsOK, ldOK, sv_dead, sv_outE])
    refine CallVC.intro (g2) ⟨(by simp only [argMatch, SX, SYX, EY, simprocAttr, and_self, List.length_append, List.length_map, List.length_set, TYX, UX, guard_un, IOX, mv_fa, plain_s, plain_r, plain_p, sx_cons, sx_nil, addTk, ldsOK, ldOK, sv_dead, sv_outE, tks, hsl]), trivial⟩ rfl rfl ?_
    simp only [↓PX, SX, SYX, EY, simprocAttr, TYX, UX, guard_un, IOX, mv_fa, plain_s, plain_r, plain_p, sx_cons, sx_nil, addTk, ldsOK, ldOK, sv_dead, sv_outE, tks, hsl]
    repeat (first | refine DrawVC.intro (by kernel_rfl) ?_ | refine And.intro (by omega) ?_ | exact trivial | simp only [↓PX, SX, SYX, EY, simprocAttr, TYX, UX, guard_un, IOX, mv_fa, plain_s, plain_r, plain_p, sx_cons, sx_nil, addTk, ldsOK, ldOK, sv_dead, sv_outE])
  | false =>
  have g2 := u_great16 S.length sy
  rw [d1] at g2
  cases d2 : decide (s < 0) with
  | true =>
    refine contract_of (N := _) (vars := _) (c := bodyOf Try.f18) Try.func18 (body_eq rfl) rfl rfl (by rfl) mixed _ _ trivial 1000 ?_
    simp only [bodyOf, Try.f18, Option.getD_some, argA, argE, List.length_cons, List.length_nil, Nat.reduceAdd, Nat.reduceSub, List.replicate, List.cons_append, List.nil_append]
    simp only [↓PX, SX, SYX, EY, simprocAttr, TYX, UX, guard_un, IOX, mv_fa, plain_s, plain_r, plain_p, sx_cons, sx_nil, addTk, ldsOK, ldOK, sv_dead, sv_outE]
    repeat (first | refine DrawVC.intro (by kernel_rfl) ?_ | refine And.intro (by omega) ?_ | exact trivial | simp only [↓PX, SX, SYX, EY, simprocAttr, TYX, UX, guard_un, IOX, mv_fa, plain_s, plain_r, plain_p, sx_cons, sx_nil, addTk, ldsOK, ldOK, sv_dead, sv_outE])
    refine CallVC.intro (c_alive16) trivial rfl rfl ?_
    simp only [↓PX, SX, SYX, EY, simprocAttr, TYX, UX, guard_un, IOX, mv_fa, plain_s, plain_r, plain_p, sx_cons, sx_nil, addTk, ldsOK, ldOK, sv_dead, sv_outE]
    repeat (first | refine DrawVC.intro (by kernel_rfl) ?_ | refine And.intro (by omega) ?_ | exact trivial | simp only [↓PX, SX, SYX, EY, simprocAttr, TYX, UX, guard_un, IOX, mv_fa, plain_s, plain_r, plain_p, sx_cons, sx_nil, addTk, ldsOK, ldOK, sv_dead, sv_outE])
    refine CallVC.intro (g1) ⟨(by simp only [argMatch, SX, SYX, EY, simprocAttr, and_self, List.length_append, List.length_map, List.length_set, TYX, UX, guard_un, IOX, mv_fa, plain_s, plain_r, plain_p, sx_cons, sx_nil, addTk, ldsOK, ldOK, sv_dead, sv_outE, tkc, hcl]), trivial⟩ rfl rfl ?_
    simp only [↓PX, SX, SYX, EY, simprocAttr, TYX, UX, guard_un, IOX, mv_fa, plain_s, plain_r, plain_p, sx_cons, sx_nil, addTk, ldsOK, ldOK, sv_dead, sv_outE, tkc, hcl]
    repeat (first | refine DrawVC.intro (by kernel_rfl) ?_ | refine And.intro (by omega) ?_ | exact trivial | simp only [↓PX, SX, SYX, EY, simprocAttr, TYX, UX, guard_un, IOX, mv_fa, plain_s, plain_r, plain_p, sx_cons, sx_nil, addTk, ldsOK, ldOK, sv_dead, sv_outE])
    refine CallVC.intro (g2) ⟨(by simp only [argMatch, SX, SYX, EY, simprocAttr, and_self, List.length_append, List.length_map, List.length_set, TYX, UX, guard_un, IOX, mv_fa, plain_s, plain_r, plain_p, sx_cons, sx_nil, addTk, ldsOK, ldOK, sv_dead, sv_outE, tks, hsl]), trivial⟩ rfl rfl ?_
    simp only [↓PX, SX, SYX, EY, simprocAttr, TYX, UX, guard_un, IOX, mv_fa, plain_s, plain_r, plain_p, sx_cons, sx_nil, addTk, ldsOK, ldOK, sv_dead, sv_outE, tks, hsl]
    repeat (first | refine DrawVC.intro (by kernel_rfl) ?_ | refine And.intro (by omega) ?_ | exact trivial | simp only [↓PX, SX, SYX, EY, simprocAttr, TYX, UX, guard_un, IOX, mv_fa, plain_s, plain_r, plain_p, sx_cons, sx_nil, addTk, ldsOK, ldOK, sv_dead, sv_outE, d2])
  | false =>
  cases d3 : decide (1 < s) with
  | true =>
    refine contract_of (N := _) (vars := _) (c := bodyOf Try.f18) Try.func18 (body_eq rfl) rfl rfl (by rfl) mixed _ _ trivial 1000 ?_
    simp only [bodyOf, Try.f18, Option.getD_some, argA, argE, List.length_cons, List.length_nil, Nat.reduceAdd, Nat.reduceSub, List.replicate, List.cons_append, List.nil_append]
    simp only [↓PX, SX, SYX, EY, simprocAttr, TYX, UX, guard_un, IOX, mv_fa, plain_s, plain_r, plain_p, sx_cons, sx_nil, addTk, ldsOK, ldOK, sv_dead, sv_outE]
    repeat (first | refine DrawVC.intro (by kernel_rfl) ?_ | refine And.intro (by omega) ?_ | exact trivial | simp only [↓PX, SX, SYX, EY, simprocAttr, TYX, UX, guard_un, IOX, mv_fa, plain_s, plain_r, plain_p, sx_cons, sx_nil, addTk, ldsOK, ldOK, sv_dead, sv_outE])
    refine CallVC.intro (c_alive16) trivial rfl rfl ?_
    simp only [↓PX, SX, SYX, EY, simprocAttr, TYX, UX, guard_un, IOX, mv_fa, plain_s, plain_r, plain_p, sx_cons, sx_nil, addTk, ldsOK, ldOK, sv_dead, sv_outE]
    repeat (first | refine DrawVC.intro (by kernel_rfl) ?_ | refine And.intro (by omega) ?_ | exact trivial | simp only [↓PX, SX, SYX, EY, simprocAttr, TYX, UX, guard_un, IOX, mv_fa, plain_s, plain_r, plain_p, sx_cons, sx_nil, addTk, ldsOK, ldOK, sv_dead, sv_outE])
    refine CallVC.intro (g1) ⟨(by simp only [argMatch, SX, SYX, EY, simprocAttr, and_self, List.length_append, List.length_map, List.length_set, TYX, UX, guard_un, IOX, mv_fa, plain_s, plain_r, plain_p, sx_cons, sx_nil, addTk, ldsOK, ldOK, sv_dead, sv_outE, tkc, hcl]), trivial⟩ rfl rfl ?_
    simp only [↓PX, SX, SYX, EY, simprocAttr, TYX, UX, guard_un, IOX, mv_fa, plain_s, plain_r, plain_p, sx_cons, sx_nil, addTk, ldsOK, ldOK, sv_dead, sv_outE, tkc, hcl]
    repeat (first | refine DrawVC.intro (by kernel_rfl) ?_ | refine And.intro (by omega) ?_ | exact trivial | simp only [↓PX, SX, SYX, EY, simprocAttr, TYX, UX, guard_un, IOX, mv_fa, plain_s, plain_r, plain_p, sx_cons, sx_nil, addTk, ldsOK, ldOK, sv_dead, sv_outE])
    refine CallVC.intro (g2) ⟨(by simp only [argMatch, SX, SYX, EY, simprocAttr, and_self, List.length_append, List.length_map, List.length_set, TYX, UX, guard_un, IOX, mv_fa, plain_s, plain_r, plain_p, sx_cons, sx_nil, addTk, ldsOK, ldOK, sv_dead, sv_outE, tks, hsl]), trivial⟩ rfl rfl ?_
    simp only [↓PX, SX, SYX, EY, simprocAttr, TYX, UX, guard_un, IOX, mv_fa, plain_s, plain_r, plain_p, sx_cons, sx_nil, addTk, ldsOK, ldOK, sv_dead, sv_outE, tks, hsl]
    repeat (first | refine DrawVC.intro (by kernel_rfl) ?_ | refine And.intro (by omega) ?_ | exact trivial | simp only [↓PX, SX, SYX, EY, simprocAttr, TYX, UX, guard_un, IOX, mv_fa, plain_s, plain_r, plain_p, sx_cons, sx_nil, addTk, ldsOK, ldOK, sv_dead, sv_outE, d2, d3])
  | false =>
    have q0 := of_decide_eq_false d0
    have q1 := of_decide_eq_false d1
    have q2 := of_decide_eq_false d2
    have q3 := of_decide_eq_false d3
    have hs : s = 0 ∨ s = 1 := by omega
    have hk : kn s = true := by rcases hs with rfl | rfl <;> rfl
    refine contract_of (N := _) (vars := _) (c := bodyOf Try.f18) Try.func18 (body_eq rfl) rfl rfl (by rfl) mixed _ _ trivial 1000 ?_
    simp only [bodyOf, Try.f18, Option.getD_some, argA, argE, List.length_cons, List.length_nil, Nat.reduceAdd, Nat.reduceSub, List.replicate, List.cons_append, List.nil_append]
    simp only [↓PX, SX, SYX, EY, simprocAttr, TYX, UX, guard_un, IOX, mv_fa, plain_s, plain_r, plain_p, sx_cons, sx_nil, addTk, ldsOK, ldOK, sv_dead, sv_outE]
    repeat (first | refine DrawVC.intro (by kernel_rfl) ?_ | refine And.intro (by omega) ?_ | exact trivial | simp only [↓PX, SX, SYX, EY, simprocAttr, TYX, UX, guard_un, IOX, mv_fa, plain_s, plain_r, plain_p, sx_cons, sx_nil, addTk, ldsOK, ldOK, sv_dead, sv_outE])
    refine CallVC.intro (c_alive16) trivial rfl rfl ?_
    simp only [↓PX, SX, SYX, EY, simprocAttr, TYX, UX, guard_un, IOX, mv_fa, plain_s, plain_r, plain_p, sx_cons, sx_nil, addTk, ldsOK, ldOK, sv_dead, sv_outE]
    repeat (first | refine DrawVC.intro (by kernel_rfl) ?_ | refine And.intro (by omega) ?_ | exact trivial | simp only [↓PX, SX, SYX, EY, simprocAttr, TYX, UX, guard_un, IOX, mv_fa, plain_s, plain_r, plain_p, sx_cons, sx_nil, addTk, ldsOK, ldOK, sv_dead, sv_outE])
    refine CallVC.intro (g1) ⟨(by simp only [argMatch, SX, SYX, EY, simprocAttr, and_self, List.length_append, List.length_map, List.length_set, TYX, UX, guard_un, IOX, mv_fa, plain_s, plain_r, plain_p, sx_cons, sx_nil, addTk, ldsOK, ldOK, sv_dead, sv_outE, tkc, hcl]), trivial⟩ rfl rfl ?_
    simp only [↓PX, SX, SYX, EY, simprocAttr, TYX, UX, guard_un, IOX, mv_fa, plain_s, plain_r, plain_p, sx_cons, sx_nil, addTk, ldsOK, ldOK, sv_dead, sv_outE, tkc, hcl]
    repeat (first | refine DrawVC.intro (by kernel_rfl) ?_ | refine And.intro (by omega) ?_ | exact trivial | simp only [↓PX, SX, SYX, EY, simprocAttr, TYX, UX, guard_un, IOX, mv_fa, plain_s, plain_r, plain_p, sx_cons, sx_nil, addTk, ldsOK, ldOK, sv_dead, sv_outE])
    refine CallVC.intro (g2) ⟨(by simp only [argMatch, SX, SYX, EY, simprocAttr, and_self, List.length_append, List.length_map, List.length_set, TYX, UX, guard_un, IOX, mv_fa, plain_s, plain_r, plain_p, sx_cons, sx_nil, addTk, ldsOK, ldOK, sv_dead, sv_outE, tks, hsl]), trivial⟩ rfl rfl ?_
    simp only [↓PX, SX, SYX, EY, simprocAttr, TYX, UX, guard_un, IOX, mv_fa, plain_s, plain_r, plain_p, sx_cons, sx_nil, addTk, ldsOK, ldOK, sv_dead, sv_outE, tks, hsl]
    simp only [↓PX, SX, SYX, EY, simprocAttr, TYX, UX, guard_un, IOX, mv_fa, plain_s, plain_r, plain_p, sx_cons, sx_nil, addTk, ldsOK, ldOK, sv_dead, sv_outE, d2, d3]
    refine DrawVC.sched [(0, none), (1, none), (2, none), (4, none), (8, none), (6, some (Value.agg [u64 (L0 β), u64 (L1 β), u64 (L2 β), u64 (L3 β)].toArray)), (7, some (Value.agg [u64 (L0 γ), u64 (L1 γ), u64 (L2 γ), u64 (L3 γ)].toArray)), (3, none), (5, none), (9, none), (10, none), (11, none), (12, none), (13, none), (14, none), (15, none), (16, none)] mixed (by trivial) (by kernel_rfl) ?_
    simp only [mkS, List.map_cons, List.map_nil, List.getElem?_cons_zero, List.getElem?_cons_succ, Option.getD_some]
    simp only [↓PX, SX, SYX, EY, simprocAttr, TYX, UX, guard_un, IOX, mv_fa, plain_s, plain_r, plain_p, sx_cons, sx_nil, addTk, ldsOK, ldOK, sv_dead, sv_outE]
    refine CallVC.inline (N := _) (vars := _) (c := bodyOf Try.f63) Try.func63 (body_eq rfl) rfl rfl (by rfl) mixed (by rfl) 1 (by first | rfl | simp [noSav, ↓sv_outE, savOf]) ?_
    simp only [bodyOf, Try.f63, Option.getD_some, List.length_cons, List.length_nil, Nat.reduceAdd, Nat.reduceSub, List.replicate, List.cons_append, List.nil_append]
    simp only [↓PX, SX, SYX, EY, simprocAttr, TYX, UX, guard_un, IOX, mv_fa, plain_s, plain_r, plain_p, sx_cons, sx_nil, addTk, ldsOK, ldOK, sv_dead, sv_outE]
    refine loop_hav ?_
    simp only [↓PX, SX, SYX, EY, simprocAttr, TYX, UX, guard_un, IOX, mv_fa, plain_s, plain_r, plain_p, sx_cons, sx_nil, addTk, ldsOK, ldOK, sv_dead, sv_outE]
    refine loop_go mixed (by trivial) (γ := Nat × List Value) (fun p => p.1 ≤ C.length ∧ XB p.2 (C.take p.1)) (fun p => C.length - p.1) (fun p => [(4, iv p.1), (3, .o (.r 119 p.1)), (5, .o .any)]) (fun p => [(119, .row 22 1 p.1 p.2), (0, .fact true fun w => (TB cy C w ∧ TB sy S w) ∧ TB p.2 (C.take p.1) w)]) (0, []) ⟨Nat.zero_le _, XB_nil⟩
      (St.le_trans (St.fuse (rt := true) (F := fun w => (TB cy C w ∧ TB sy S w) ∧ TB [] (C.take 0) w) 0 rfl (ents_of 0 rfl (fun _ => rfl) (fun w h => ⟨h, TB_nil w⟩))) (St.le_of id (by simp [-List.getD_eq_getElem?_getD, SYX, iv, Tle, AVle, A0le, Mem.get]) (by simp [-List.getD_eq_getElem?_getD, SYX, Mle, Ele, Hle, Tle, AVle, A0le, Mem.get]) (by simp [SYX]) (by simp [SYX]))) ?_
    rintro ⟨i, ys⟩ ⟨hi, hyl⟩
    by_cases him : i < C.length
    · have b1 : decide ((i : Int) < (C.length : Int)) = true := decide_eq_true (by omega)
      have hcy : i < cy.length := by rw [hcl]; exact him
      have w1 := wS (j := i) (by omega)
      have lw : (C.getD i []).length * 32 ≤ 140737488351232 := by
        rw [List.getD_eq_getElem?_getD, List.getElem?_eq_getElem him]; exact hbC _ (List.getElem_mem him)
      have cp := Contract.fas (c_CopyElems (C.getD i []) (by omega)) (.cons (.slice (cy.getD i undef) _ _ _) .nil) trivial
      obtain ⟨o5, k5⟩ := reads_one (TB_at hy9.1 him)
      have j5 : (cy.getD i undef).cells.toList = [cy.getD i undef] := by rw [k5]
      repeat (first | refine DrawVC.intro (by kernel_rfl) ?_ | refine And.intro (by omega) ?_ | exact trivial | simp only [↓PX, SX, SYX, EY, simprocAttr, TYX, UX, guard_un, IOX, mv_fa, plain_s, plain_r, plain_p, sx_cons, sx_nil, addTk, ldsOK, ldOK, sv_dead, sv_outE, b1, hcy])
      refine CallVC.intro cp ⟨⟨rfl, ents_of 0 rfl (fun h => by cases h) (fun w h => TB_at h.1.1 him)⟩, trivial⟩ rfl rfl ?_
      repeat (first | refine DrawVC.intro (by kernel_rfl) ?_ | refine And.intro (by omega) ?_ | exact trivial | simp only [↓PX, SX, SYX, EY, simprocAttr, TYX, UX, guard_un, IOX, mv_fa, plain_s, plain_r, plain_p, sx_cons, sx_nil, addTk, ldsOK, ldOK, sv_dead, sv_outE, o5, k5, j5])
      refine RawVC.name 17 167 rfl rfl fun y hyy => ?_
      obtain ⟨w8, hy8⟩ := hyy
      obtain ⟨o6, k6⟩ := reads_one hy8
      have j6 : y.cells.toList = [y] := by rw [k6]
      repeat (first | refine DrawVC.intro (by kernel_rfl) ?_ | refine And.intro (by omega) ?_ | exact trivial | simp only [↓PX, SX, SYX, EY, simprocAttr, TYX, UX, guard_un, IOX, mv_fa, plain_s, plain_r, plain_p, sx_cons, sx_nil, addTk, ldsOK, ldOK, sv_dead, sv_outE, o6, k6, j6, w1])
      exact ⟨(i + 1, ys ++ [y]), ⟨by omega, by rw [← tk_tab him]; exact XB_snoc hyl ⟨w8, hy8⟩⟩, by simp only []; omega, St.le_trans (St.fuse (rt := true) (F := fun w => (TB cy C w ∧ TB sy S w) ∧ TB (ys ++ [y]) (C.take (i + 1)) w) 0 rfl
        (((ents_of 0 rfl (fun _ => rfl) fun _ h => h).and (ents_of 167 rfl (fun _ => rfl) fun _ h => h)).mono fun w h => ⟨h.1.1, by rw [← tk_tab him]; exact TB_snoc h.1.2 h.2⟩)) (St.le_at [(119, 3)] (by simp [-List.getD_eq_getElem?_getD, SYX, iv, Tle, AVle, A0le, Mem.get, ren, idAt, idO, idA, List.map, ]) (by simp [-List.getD_eq_getElem?_getD, SYX, Mle, Ele, Hle, Tle, AVle, A0le, Mem.get, ren, idAt, idO, idA, List.map, ]) (by simp [SYX, ren, idAt, idO, idA, List.map, ]) (by simp [SYX]))⟩
    · have b1 : decide ((i : Int) < (C.length : Int)) = false := decide_eq_false (by omega)
      have hi : i = C.length := by omega
      subst hi
      have tkC : C.take C.length = C := List.take_length
      repeat (first | refine DrawVC.intro (by kernel_rfl) ?_ | refine And.intro (by omega) ?_ | exact trivial | simp only [↓PX, SX, SYX, EY, simprocAttr, TYX, UX, guard_un, IOX, mv_fa, plain_s, plain_r, plain_p, sx_cons, sx_nil, addTk, ldsOK, ldOK, sv_dead, sv_outE, b1, tkC])
      obtain ⟨cz, hcz0⟩ : ∃ cz, ys = cz := ⟨_, rfl⟩
      rw [hcz0] at hyl
      rw [hcz0]
      clear hcz0
      have hcz : XB cz C := by rw [← tkC]; exact hyl
      clear hyl
      refine CallVC.inline (N := _) (vars := _) (c := bodyOf Try.f63) Try.func63 (body_eq rfl) rfl rfl (by rfl) mixed (by rfl) 1 (by first | rfl | simp [noSav, ↓sv_outE, savOf]) ?_
      simp only [bodyOf, Try.f63, Option.getD_some, List.length_cons, List.length_nil, Nat.reduceAdd, Nat.reduceSub, List.replicate, List.cons_append, List.nil_append]
      simp only [↓PX, SX, SYX, EY, simprocAttr, TYX, UX, guard_un, IOX, mv_fa, plain_s, plain_r, plain_p, sx_cons, sx_nil, addTk, ldsOK, ldOK, sv_dead, sv_outE]
      refine loop_hav ?_
      simp only [↓PX, SX, SYX, EY, simprocAttr, TYX, UX, guard_un, IOX, mv_fa, plain_s, plain_r, plain_p, sx_cons, sx_nil, addTk, ldsOK, ldOK, sv_dead, sv_outE]
      refine loop_go mixed (by trivial) (γ := Nat × List Value) (fun p => p.1 ≤ S.length ∧ XB p.2 (S.take p.1)) (fun p => S.length - p.1) (fun p => [(4, iv p.1), (3, .o (.r 163 p.1)), (5, .o .any)]) (fun p => [(163, .row 22 1 p.1 p.2), (0, .fact true fun w => ((TB cy C w ∧ TB sy S w) ∧ TB cz C w) ∧ TB p.2 (S.take p.1) w)]) (0, []) ⟨Nat.zero_le _, XB_nil⟩
        (St.le_trans (St.fuse (rt := true) (F := fun w => ((TB cy C w ∧ TB sy S w) ∧ TB cz C w) ∧ TB [] (S.take 0) w) 0 rfl (ents_of 0 rfl (fun _ => rfl) (fun w h => ⟨h, TB_nil w⟩))) (St.le_of id (by simp [-List.getD_eq_getElem?_getD, SYX, iv, Tle, AVle, A0le, Mem.get]) (by simp [-List.getD_eq_getElem?_getD, SYX, Mle, Ele, Hle, Tle, AVle, A0le, Mem.get]) (by simp [SYX]) (by simp [SYX]))) ?_
      rintro ⟨i, zs⟩ ⟨hi, hzl⟩
      by_cases him : i < S.length
      · have b1 : decide ((i : Int) < (S.length : Int)) = true := decide_eq_true (by omega)
        have hsy : i < sy.length := by rw [hsl]; exact him
        have w1 := wS (j := i) (by omega)
        have lw : (S.getD i []).length * 32 ≤ 140737488351232 := by
          rw [List.getD_eq_getElem?_getD, List.getElem?_eq_getElem him]; exact hbS _ (List.getElem_mem him)
        have cp := Contract.fas (c_CopyElems (S.getD i []) (by omega)) (.cons (.slice (sy.getD i undef) _ _ _) .nil) trivial
        obtain ⟨o5, k5⟩ := reads_one (TB_at hy9.2 him)
        have j5 : (sy.getD i undef).cells.toList = [sy.getD i undef] := by rw [k5]
        repeat (first | refine DrawVC.intro (by kernel_rfl) ?_ | refine And.intro (by omega) ?_ | exact trivial | simp only [↓PX, SX, SYX, EY, simprocAttr, TYX, UX, guard_un, IOX, mv_fa, plain_s, plain_r, plain_p, sx_cons, sx_nil, addTk, ldsOK, ldOK, sv_dead, sv_outE, b1, hsy])
        refine CallVC.intro cp ⟨⟨rfl, ents_of 0 rfl (fun h => by cases h) (fun w h => TB_at h.1.1.2 him)⟩, trivial⟩ rfl rfl ?_
        repeat (first | refine DrawVC.intro (by kernel_rfl) ?_ | refine And.intro (by omega) ?_ | exact trivial | simp only [↓PX, SX, SYX, EY, simprocAttr, TYX, UX, guard_un, IOX, mv_fa, plain_s, plain_r, plain_p, sx_cons, sx_nil, addTk, ldsOK, ldOK, sv_dead, sv_outE, o5, k5, j5])
        refine RawVC.name 17 211 rfl rfl fun y hyy => ?_
        obtain ⟨w8, hy8⟩ := hyy
        obtain ⟨o6, k6⟩ := reads_one hy8
        have j6 : y.cells.toList = [y] := by rw [k6]
        repeat (first | refine DrawVC.intro (by kernel_rfl) ?_ | refine And.intro (by omega) ?_ | exact trivial | simp only [↓PX, SX, SYX, EY, simprocAttr, TYX, UX, guard_un, IOX, mv_fa, plain_s, plain_r, plain_p, sx_cons, sx_nil, addTk, ldsOK, ldOK, sv_dead, sv_outE, o6, k6, j6, w1])
        exact ⟨(i + 1, zs ++ [y]), ⟨by omega, by rw [← tk_tab him]; exact XB_snoc hzl ⟨w8, hy8⟩⟩, by simp only []; omega, St.le_trans (St.fuse (rt := true) (F := fun w => ((TB cy C w ∧ TB sy S w) ∧ TB cz C w) ∧ TB (zs ++ [y]) (S.take (i + 1)) w) 0 rfl
          (((ents_of 0 rfl (fun _ => rfl) fun _ h => h).and (ents_of 211 rfl (fun _ => rfl) fun _ h => h)).mono fun w h => ⟨h.1.1, by rw [← tk_tab him]; exact TB_snoc h.1.2 h.2⟩)) (St.le_at [(163, 3)] (by simp [-List.getD_eq_getElem?_getD, SYX, iv, Tle, AVle, A0le, Mem.get, ren, idAt, idO, idA, List.map, ]) (by simp [-List.getD_eq_getElem?_getD, SYX, Mle, Ele, Hle, Tle, AVle, A0le, Mem.get, ren, idAt, idO, idA, List.map, ]) (by simp [SYX, ren, idAt, idO, idA, List.map, ]) (by simp [SYX]))⟩
      · have b1 : decide ((i : Int) < (S.length : Int)) = false := decide_eq_false (by omega)
        have hi : i = S.length := by omega
        subst hi
        have tkS : S.take S.length = S := List.take_length
        repeat (first | refine DrawVC.intro (by kernel_rfl) ?_ | refine And.intro (by omega) ?_ | exact trivial | simp only [↓PX, SX, SYX, EY, simprocAttr, TYX, UX, guard_un, IOX, mv_fa, plain_s, plain_r, plain_p, sx_cons, sx_nil, addTk, ldsOK, ldOK, sv_dead, sv_outE, b1, tkS])
        obtain ⟨sz, hsz0⟩ : ∃ sz, zs = sz := ⟨_, rfl⟩
        rw [hsz0] at hzl
        rw [hsz0]
        clear hsz0
        have hsz : XB sz S := by rw [← tkS]; exact hzl
        refine CallVC.intro (c_CopyElems cs (by omega)) ⟨(by simp only [argMatch, SX, SYX, EY, simprocAttr, and_self, List.length_append, List.length_map, List.length_set, TYX, UX, guard_un, IOX, mv_fa, plain_s, plain_r, plain_p, sx_cons, sx_nil, addTk, ldsOK, ldOK, sv_dead, sv_outE]), trivial⟩ rfl rfl ?_
        simp only [↓PX, SX, SYX, EY, simprocAttr, TYX, UX, guard_un, IOX, mv_fa, plain_s, plain_r, plain_p, sx_cons, sx_nil, addTk, ldsOK, ldOK, sv_dead, sv_outE]
        refine CallVC.inline (N := _) (vars := _) (c := bodyOf Try.f64) Try.func64 (body_eq rfl) rfl rfl (by rfl) mixed (by rfl) 1 (by first | rfl | simp [noSav, ↓sv_outE, savOf]) ?_
        simp only [bodyOf, Try.f64, Option.getD_some, List.length_cons, List.length_nil, Nat.reduceAdd, Nat.reduceSub, List.replicate, List.cons_append, List.nil_append]
        simp only [↓PX, SX, SYX, EY, simprocAttr, TYX, UX, guard_un, IOX, mv_fa, plain_s, plain_r, plain_p, sx_cons, sx_nil, addTk, ldsOK, ldOK, sv_dead, sv_outE]
        refine CallVC.intro (u_Clone cs (by omega)) ⟨(by simp only [argMatch, SX, SYX, EY, simprocAttr, and_self, List.length_append, List.length_map, List.length_set, TYX, UX, guard_un, IOX, mv_fa, plain_s, plain_r, plain_p, sx_cons, sx_nil, addTk, ldsOK, ldOK, sv_dead, sv_outE]), trivial⟩ rfl rfl ?_
        simp only [↓PX, SX, SYX, EY, simprocAttr, TYX, UX, guard_un, IOX, mv_fa, plain_s, plain_r, plain_p, sx_cons, sx_nil, addTk, ldsOK, ldOK, sv_dead, sv_outE]
        refine RawVC.name 4 215 rfl rfl fun y hy => ?_
        obtain ⟨w7, hy7⟩ := hy
        obtain ⟨o7, k7⟩ := reads_one hy7
        have k8 : y.cells.toList = [y] := by rw [k7]
        repeat (first | refine DrawVC.intro (by kernel_rfl) ?_ | refine And.intro (by omega) ?_ | exact trivial | simp only [↓PX, SX, SYX, EY, simprocAttr, TYX, UX, guard_un, IOX, mv_fa, plain_s, plain_r, plain_p, sx_cons, sx_nil, addTk, ldsOK, ldOK, sv_dead, sv_outE, o7, k7, k8])
        refine CallVC.inline (N := _) (vars := _) (c := bodyOf Try.f62) Try.func62 (body_eq rfl) rfl rfl (by rfl) mixed (by rfl) 1 (by first | rfl | simp [noSav, ↓sv_outE, savOf]) ?_
        simp only [bodyOf, Try.f62, Option.getD_some, List.length_cons, List.length_nil, Nat.reduceAdd, Nat.reduceSub, List.replicate, List.cons_append, List.nil_append]
        simp only [↓PX, SX, SYX, EY, simprocAttr, TYX, UX, guard_un, IOX, mv_fa, plain_s, plain_r, plain_p, sx_cons, sx_nil, addTk, ldsOK, ldOK, sv_dead, sv_outE]
        refine CallVC.intro (u_size s k) ⟨rfl, rfl, trivial⟩ rfl rfl ?_
        simp only [↓PX, SX, SYX, EY, simprocAttr, TYX, UX, guard_un, IOX, mv_fa, plain_s, plain_r, plain_p, sx_cons, sx_nil, addTk, ldsOK, ldOK, sv_dead, sv_outE]
        by_cases hE : plE s k = 0
        rotate_left
        · have b3 : (plE s k != 0) = true := bne_iff_ne.2 hE
          repeat (first | refine DrawVC.intro (by kernel_rfl) ?_ | refine And.intro (by omega) ?_ | exact trivial | simp only [↓PX, SX, SYX, EY, simprocAttr, TYX, UX, guard_un, IOX, mv_fa, plain_s, plain_r, plain_p, sx_cons, sx_nil, addTk, ldsOK, ldOK, sv_dead, sv_outE, b3])
        · have b3 : (plE s k != 0) = false := by rw [hE]; rfl
          repeat (first | refine DrawVC.intro (by kernel_rfl) ?_ | refine And.intro (by omega) ?_ | exact trivial | simp only [↓PX, SX, SYX, EY, simprocAttr, TYX, UX, guard_un, IOX, mv_fa, plain_s, plain_r, plain_p, sx_cons, sx_nil, addTk, ldsOK, ldOK, sv_dead, sv_outE, b3])
          obtain ⟨_, hk3, hk5⟩ := plE_0.1 hE
          obtain ⟨q, hkq⟩ : ∃ q : Nat, k = (q : Int) := ⟨k.toNat, by omega⟩
          have hq : 3 ≤ q ∧ q ≤ 5 := by omega
          rw [hkq]
          have hczl : cz.length = C.length := hcz.1
          have hszl : sz.length = S.length := hsz.1
          have tkcz : List.take C.length cz = cz := by rw [← hczl, List.take_length]
          have tksz : List.take S.length sz = sz := by rw [← hszl, List.take_length]
          have cf := u_fits q C S cz sz hq (by omega) (by omega) hbC hbS ⟨hcz, hsz⟩
          cases hf : ftB q C S with
          | false =>
            rw [hf] at cf
            refine CallVC.intro cf ⟨⟨rfl, ents_of 0 rfl (fun h => by cases h) (fun w h => ⟨h.1.2, h.2⟩)⟩, (by simp only [argMatch, SX, SYX, EY, simprocAttr, and_self, TYX, UX, guard_un, IOX, tkcz, hczl]), (by simp only [argMatch, SX, SYX, EY, simprocAttr, and_self, TYX, UX, guard_un, IOX, tksz, hszl]), trivial⟩ rfl rfl ?_
            repeat (first | refine DrawVC.intro (by kernel_rfl) ?_ | refine And.intro (by omega) ?_ | exact trivial | simp only [↓PX, SX, SYX, EY, simprocAttr, TYX, UX, guard_un, IOX, mv_fa, plain_s, plain_r, plain_p, sx_cons, sx_nil, addTk, ldsOK, ldOK, sv_dead, sv_outE])
          | true =>
            rw [hf] at cf
            refine CallVC.intro cf ⟨⟨rfl, ents_of 0 rfl (fun h => by cases h) (fun w h => ⟨h.1.2, h.2⟩)⟩, (by simp only [argMatch, SX, SYX, EY, simprocAttr, and_self, TYX, UX, guard_un, IOX, tkcz, hczl]), (by simp only [argMatch, SX, SYX, EY, simprocAttr, and_self, TYX, UX, guard_un, IOX, tksz, hszl]), trivial⟩ rfl rfl ?_
            obtain ⟨hCS, hm8, hlen⟩ := ftB_1.1 hf
            have hpt : ptO s q = true := by
              rw [ptO_iff]
              exact ⟨hk, by rcases hs with rfl | rfl <;> omega, by omega⟩
            have cpt := u_Points s q
            have ept : ptL s q = tab (2 ^ q) (pt s q) := by unfold ptL; rw [if_pos hpt, Int.toNat_natCast]; rfl
            rw [ept, tab_len] at cpt
            have hn8 : 8 ≤ 2 ^ q ∧ 2 ^ q ≤ 32 := by
              obtain ⟨h1, h2⟩ := hq
              have : q = 3 ∨ q = 4 ∨ q = 5 := by omega
              rcases this with rfl | rfl | rfl <;> decide
            obtain ⟨n, hn⟩ : ∃ n, 2 ^ q = n := ⟨_, rfl⟩
            rw [hn] at cpt hn8 hlen
            obtain ⟨M, hM⟩ : ∃ M, max C.length 1 = M := ⟨_, rfl⟩
            have csh := u_shifts s C.length hk (by omega)
            rw [hM] at csh
            have w4 : IntKind.i64.wrap ((n : Int) - 4) = ((n - 4 : Nat) : Int) := by rw [wI (by omega) (by omega)]; omega
            repeat (first | refine DrawVC.intro (by kernel_rfl) ?_ | refine And.intro (by omega) ?_ | exact trivial | simp only [↓PX, SX, SYX, EY, simprocAttr, TYX, UX, guard_un, IOX, mv_fa, plain_s, plain_r, plain_p, sx_cons, sx_nil, addTk, ldsOK, ldOK, sv_dead, sv_outE])
            refine CallVC.intro (cpt) ⟨rfl, rfl, trivial⟩ rfl rfl ?_
            simp only [↓PX, SX, SYX, EY, simprocAttr, TYX, UX, guard_un, IOX, mv_fa, plain_s, plain_r, plain_p, sx_cons, sx_nil, addTk, ldsOK, ldOK, sv_dead, sv_outE]
            repeat (first | refine DrawVC.intro (by kernel_rfl) ?_ | refine And.intro (by omega) ?_ | exact trivial | simp only [↓PX, SX, SYX, EY, simprocAttr, TYX, UX, guard_un, IOX, mv_fa, plain_s, plain_r, plain_p, sx_cons, sx_nil, addTk, ldsOK, ldOK, sv_dead, sv_outE])
            refine CallVC.intro (csh) ⟨rfl, rfl, trivial⟩ rfl rfl ?_
            simp only [↓PX, SX, SYX, EY, simprocAttr, TYX, UX, guard_un, IOX, mv_fa, plain_s, plain_r, plain_p, sx_cons, sx_nil, addTk, ldsOK, ldOK, sv_dead, sv_outE, w4]
            repeat (first | refine DrawVC.intro (by kernel_rfl) ?_ | refine And.intro (by omega) ?_ | exact trivial | simp only [↓PX, SX, SYX, EY, simprocAttr, TYX, UX, guard_un, IOX, mv_fa, plain_s, plain_r, plain_p, sx_cons, sx_nil, addTk, ldsOK, ldOK, sv_dead, sv_outE, w4])
            refine loop_hav ?_
            simp only [↓PX, SX, SYX, EY, simprocAttr, TYX, UX, guard_un, IOX, mv_fa, plain_s, plain_r, plain_p, sx_cons, sx_nil, addTk, ldsOK, ldOK, sv_dead, sv_outE]
            obtain ⟨J, hJ⟩ : ∃ J, (C.length + 1) / 2 = J := ⟨_, rfl⟩
            obtain ⟨u, hu⟩ : ∃ u, n - 4 = u := ⟨_, rfl⟩
            have hun : n = u + 4 := by omega
            have hlP : (tab n (pt s q)).length = n := tab_len
            have hlD : (tab M (pw s 1 (dlN s))).length = M := tab_len
            have hst0 : ∀ j, stN s q β γ C S j < W256 := fun j => stN_w j
            have hstS : ∀ j, zvN s q β γ C S j (stN s q β γ C S j) u = stN s q β γ C S (j + 1) := fun j => by rw [← hu, ← hn]; rfl
            have hzl : ∀ j, zlN s q β γ C S cs j = tab (u + 1) (zvN s q β γ C S j (stN s q β γ C S j)) ++ ((cs.drop (3 * j)).take 3).map (· % md s) := fun j => by unfold zlN; rw [hn, show n - 3 = u + 1 by omega]
            rw [hu] at w4
            rw [hu]
            refine loop_go mixed (by trivial) (γ := Nat × List Value) (fun p => p.1 ≤ J ∧ 3 * p.1 ≤ cs.length ∧ XB p.2 (tbl p.1 (zlN s q β γ C S cs)) ∧ ∀ j', j' < p.1 → ∀ r, r < u → dnN s β γ C S j' r ≠ 0) (fun p => J - p.1)
              (fun p => [(24, iv (2 * p.1 : Nat)), (22, .o (outA 155 p.1))])
              (fun p => [(395, .box (eC (stN s q β γ C S p.1))), (155, outE 22 p.1 p.2), (223, .box [sufs 4 (3 * p.1) y]), (0, .fact true fun w => (((TB cy C w ∧ TB sy S w) ∧ TB cz C w) ∧ TB sz S w) ∧ TB p.2 (tbl p.1 (zlN s q β γ C S cs)) w)]) (0, []) ⟨Nat.zero_le _, Nat.zero_le _, XB_nil, fun _ h => by omega⟩
              (St.le_trans (St.fuse (rt := true) (F := fun w => (((TB cy C w ∧ TB sy S w) ∧ TB cz C w) ∧ TB sz S w) ∧ TB [] (tbl 0 (zlN s q β γ C S cs)) w) 0 rfl (ents_of 0 rfl (fun _ => rfl) (fun w h => ⟨h, TB_nil w⟩))) (St.le_of id (by simp [-List.getD_eq_getElem?_getD, SYX, iv, Tle, AVle, A0le, Mem.get, outA, outE, stN, eC, sufs]) (by simp [-List.getD_eq_getElem?_getD, SYX, Mle, Ele, Hle, Tle, AVle, A0le, Mem.get, outA, outE, stN, eC, sufs]) (by simp [SYX]) (by simp [SYX]))) ?_
            rintro ⟨j, ys⟩ ⟨hj, hjc, hys, hdn⟩
            by_cases hjm : 2 * j < C.length
            · have b1 : decide (((2 * j : Nat) : Int) < (C.length : Int)) = true := decide_eq_true (by omega)
              obtain ⟨st, hst⟩ : ∃ st, stN s q β γ C S j = st := ⟨_, rfl⟩
              have hstw : st < W256 := by rw [← hst]; exact hst0 j
              rw [hst]
              have ldst : Value.agg ((eC st).take 4).toArray = EN st := rfl
              repeat (first | refine DrawVC.intro (by kernel_rfl) ?_ | refine And.intro (by omega) ?_ | exact trivial | simp only [↓PX, SX, SYX, EY, simprocAttr, TYX, UX, guard_un, IOX, mv_fa, plain_s, plain_r, plain_p, sx_cons, sx_nil, addTk, ldsOK, ldOK, sv_dead, sv_outE, b1])
              refine loop_hav ?_
              simp only [↓PX, SX, SYX, EY, simprocAttr, TYX, UX, guard_un, IOX, mv_fa, plain_s, plain_r, plain_p, sx_cons, sx_nil, addTk, ldsOK, ldOK, sv_dead, sv_outE]
              have eA : [u64 (L0 st), u64 (L1 st), u64 (L2 st), u64 (L3 st)] = LC eC (tab 1 (zvN s q β γ C S j st)) := rfl
              refine loop_go mixed (by trivial) (γ := Nat) (fun r => r ≤ u ∧ ∀ r', r' < r → dnN s β γ C S j r' ≠ 0) (fun r => u - r) (fun r => [(72, iv r), (25, .o (.r 427 (r + 1))), (70, .o .any)]) (fun r => [(427, .row 25 4 (r + 1) (LC eC (tab (r + 1) (zvN s q β γ C S j st))))]) 0 ⟨Nat.zero_le _, fun _ h => by omega⟩ (St.le_of id (by simp [-List.getD_eq_getElem?_getD, SYX, iv, Tle, AVle, A0le, Mem.get, eA, ↓outE_le, ↓outA_le]) (by simp [-List.getD_eq_getElem?_getD, SYX, Mle, Ele, Hle, Tle, AVle, A0le, Mem.get, eA, ↓outE_le, ↓outA_le]) (by simp [SYX]) (by simp [SYX])) ?_
              rintro r ⟨hr, hrd⟩
              have hlz : (tab (r + 1) (zvN s q β γ C S j st)).length = r + 1 := tab_len
              by_cases hru : r < u
              · have b2 : decide ((r : Int) < (u : Int)) = true := decide_eq_true (by omega)
                have ldz := eL_ld (l := tab (r + 1) (zvN s q β γ C S j st)) (j := r) (by omega)
                rw [tab_at (by omega)] at ldz
                have hzw : zvN s q β γ C S j st r < W256 := zvN_w hstw r
                obtain ⟨z, hz⟩ : ∃ z, zvN s q β γ C S j st r = z := ⟨_, rfl⟩
                rw [hz] at ldz hzw
                obtain ⟨R, hR⟩ : ∃ R, rdN C.length j = R := ⟨_, rfl⟩
                have hrdm : 2 * j + R = min (2 * j + 2) C.length := by rw [← hR]; unfold rdN; omega
                repeat (first | refine DrawVC.intro (by kernel_rfl) ?_ | refine And.intro (by omega) ?_ | exact trivial | simp only [↓PX, SX, SYX, EY, simprocAttr, TYX, UX, guard_un, IOX, mv_fa, plain_s, plain_r, plain_p, sx_cons, sx_nil, addTk, ldsOK, ldOK, sv_dead, sv_outE, b2, ldz, hlz])
                refine loop_hav ?_
                simp only [↓PX, SX, SYX, EY, simprocAttr, TYX, UX, guard_un, IOX, mv_fa, plain_s, plain_r, plain_p, sx_cons, sx_nil, addTk, ldsOK, ldOK, sv_dead, sv_outE]
                refine loop_go mixed (by trivial) (γ := Nat) (fun t => t ≤ R) (fun t => R - t) (fun t => [(29, iv (2 * j + t : Nat))]) (fun t => [(475, .box (eC (rpN s (rwT C r) (pt s q r) β γ (2 * j) z t))), (479, .box (eC (lpN s (rwT C r) (rwT S r) β γ (2 * j) 1 t)))]) 0 (Nat.zero_le _)
                  (St.le_of id (by simp [-List.getD_eq_getElem?_getD, SYX, iv, Tle, AVle, A0le, Mem.get, rpN, lpN, eC, Nat.add_zero, ↓outE_le, ↓outA_le]) (by simp [-List.getD_eq_getElem?_getD, SYX, Mle, Ele, Hle, Tle, AVle, A0le, Mem.get, rpN, lpN, eC, Nat.add_zero, ↓outE_le, ↓outA_le]) (by simp [SYX]) (by simp [SYX])) ?_
                intro t ht
                have w6 : IntKind.i64.wrap (((2 * j : Nat) : Int) + 2) = ((2 * j + 2 : Nat) : Int) := by rw [wI (by omega) (by omega)]; omega
                have wm : min ((2 * j + 2 : Nat) : Int) (C.length : Int) = ((min (2 * j + 2) C.length : Nat) : Int) := by omega
                have hrw : rpN s (rwT C r) (pt s q r) β γ (2 * j) z t < W256 := by
                  cases t with
                  | zero => exact hzw
                  | succ t => exact md_w s _
                have hlw : lpN s (rwT C r) (rwT S r) β γ (2 * j) 1 t < W256 := by
                  cases t with
                  | zero => exact (by decide : (1 : Nat) < W256)
                  | succ t => exact md_w s _
                simp only [↓PX, SX, SYX, EY, simprocAttr, TYX, UX, guard_un, IOX, mv_fa, plain_s, plain_r, plain_p, sx_cons, sx_nil, addTk, ldsOK, ldOK, sv_dead, sv_outE, w6]
                refine ExVC.intro _ (X_min rfl rfl) ?_
                rw [wm, ← hrdm]
                by_cases htR : t < R
                · have b3 : decide (((2 * j + t : Nat) : Int) < ((2 * j + R : Nat) : Int)) = true := decide_eq_true (by omega)
                  have hic : 2 * j + t < C.length := by omega
                  have hicz : 2 * j + t < cz.length := by omega
                  have hisz : 2 * j + t < sz.length := by omega
                  have fC : ∀ w, ((((TB cy C w ∧ TB sy S w) ∧ TB cz C w) ∧ TB sz S w) ∧ TB ys (tbl j (zlN s q β γ C S cs)) w) → ReadsSlice w (cz.getD (2 * j + t) undef) n 4 (LC eC (C.getD (2 * j + t) [])) := fun w h => by have := TB_at h.1.1.2 hic; rwa [(hlen _ hic).1] at this
                  have fS : ∀ w, ((((TB cy C w ∧ TB sy S w) ∧ TB cz C w) ∧ TB sz S w) ∧ TB ys (tbl j (zlN s q β γ C S cs)) w) → ReadsSlice w (sz.getD (2 * j + t) undef) n 4 (LC eC (S.getD (2 * j + t) [])) := fun w h => by have := TB_at h.1.2 (show 2 * j + t < S.length by omega); rwa [(hlen _ hic).2] at this
                  obtain ⟨wc, rc⟩ := hcz.2 _ hic
                  rw [(hlen _ hic).1] at rc
                  obtain ⟨ws, rs⟩ := hsz.2 _ (show 2 * j + t < S.length by omega)
                  rw [(hlen _ hic).2] at rs
                  have hrn : r < n := by omega
                  have hids : 2 * j + t < (tab M (pw s 1 (dlN s))).length := by rw [hlD]; omega
                  have ldD := eL_ld hids
                  rw [tab_at (by omega)] at ldD
                  have ldP := eL_ld (l := tab n (pt s q)) (j := r) (by rw [hlP]; exact hrn)
                  rw [tab_at hrn] at ldP
                  have hvw : (C.getD (2 * j + t) []).getD r 0 < W256 := by rw [← rwT_at]; exact getD_lt (rwT_w hC r) (by rw [rwT_len]; exact hic)
                  have hgw : (S.getD (2 * j + t) []).getD r 0 < W256 := by rw [← rwT_at]; exact getD_lt (rwT_w hS r) (by rw [rwT_len]; omega)
                  obtain ⟨v, hv⟩ : ∃ v, (C.getD (2 * j + t) []).getD r 0 = v := ⟨_, rfl⟩
                  obtain ⟨sg, hsg⟩ : ∃ sg, (S.getD (2 * j + t) []).getD r 0 = sg := ⟨_, rfl⟩
                  have hvr : (rwT C r).getD (2 * j + t) 0 = v := by rw [rwT_at]; exact hv
                  have hsr : (rwT S r).getD (2 * j + t) 0 = sg := by rw [rwT_at]; exact hsg
                  rw [hv] at hvw
                  rw [hsg] at hgw
                  have w7 := wS (j := 2 * j + t) (by omega)
                  have cdl := u_Mul s (pw s 1 (dlN s) (2 * j + t)) (pt s q r) (pw_w (by decide) _) (pw_w (by decide) _)
                  have ct1 := u_tmof s β γ v (pw s 1 (dlN s) (2 * j + t) * pt s q r % md s) hβ hγ hvw (md_w s _)
                  have ct2 := u_tmof s β γ v sg hβ hγ hvw hgw
                  unfold TN at ct1 ct2
                  have cm1 := u_Mul s _ _ hrw (tmN_w s v β (pw s 1 (dlN s) (2 * j + t) * pt s q r % md s) γ)
                  have cm2 := u_Mul s _ _ hlw (tmN_w s v β sg γ)
                  have em1 : rpN s (rwT C r) (pt s q r) β γ (2 * j) z t * tmN s v β (pw s 1 (dlN s) (2 * j + t) * pt s q r % md s) γ % md s = rpN s (rwT C r) (pt s q r) β γ (2 * j) z (t + 1) := by rw [← hvr]; rfl
                  have em2 : lpN s (rwT C r) (rwT S r) β γ (2 * j) 1 t * tmN s v β sg γ % md s = lpN s (rwT C r) (rwT S r) β γ (2 * j) 1 (t + 1) := by rw [← hvr, ← hsr]; rfl
                  rw [em1] at cm1
                  rw [em2] at cm2
                  repeat (first | refine DrawVC.intro (by kernel_rfl) ?_ | refine And.intro (by omega) ?_ | exact trivial | simp only [↓PX, SX, SYX, EY, simprocAttr, TYX, UX, guard_un, IOX, mv_fa, plain_s, plain_r, plain_p, sx_cons, sx_nil, addTk, ldsOK, ldOK, sv_dead, sv_outE, b3, hicz])
                  refine RawVC.idx rc hrn rfl rfl (by rfl) ?_
                  simp only [↓PX, SX, SYX, EY, simprocAttr, TYX, UX, guard_un, IOX, mv_fa, plain_s, plain_r, plain_p, sx_cons, sx_nil, addTk, ldsOK, ldOK, sv_dead, sv_outE]
                  refine RawVC.ldE (ents_of 0 rfl (fun h => by cases h) fC) (hlen _ hic).1 hrn rfl (by rfl) (by rfl) ?_
                  rw [hv]
                  repeat (first | refine DrawVC.intro (by kernel_rfl) ?_ | refine And.intro (by omega) ?_ | exact trivial | simp only [↓PX, SX, SYX, EY, simprocAttr, TYX, UX, guard_un, IOX, mv_fa, plain_s, plain_r, plain_p, sx_cons, sx_nil, addTk, ldsOK, ldOK, sv_dead, sv_outE, ldD, ldP, hlD, hlP])
                  refine CallVC.intro (cdl) ⟨rfl, rfl, rfl, trivial⟩ rfl rfl ?_
                  simp only [↓PX, SX, SYX, EY, simprocAttr, TYX, UX, guard_un, IOX, mv_fa, plain_s, plain_r, plain_p, sx_cons, sx_nil, addTk, ldsOK, ldOK, sv_dead, sv_outE]
                  refine CallVC.intro (ct1) ⟨rfl, rfl, rfl, trivial⟩ rfl rfl ?_
                  simp only [↓PX, SX, SYX, EY, simprocAttr, TYX, UX, guard_un, IOX, mv_fa, plain_s, plain_r, plain_p, sx_cons, sx_nil, addTk, ldsOK, ldOK, sv_dead, sv_outE, b_agg]
                  refine CallVC.intro (cm1) ⟨rfl, rfl, rfl, trivial⟩ rfl rfl ?_
                  simp only [↓PX, SX, SYX, EY, simprocAttr, TYX, UX, guard_un, IOX, mv_fa, plain_s, plain_r, plain_p, sx_cons, sx_nil, addTk, ldsOK, ldOK, sv_dead, sv_outE]
                  repeat (first | refine DrawVC.intro (by kernel_rfl) ?_ | refine And.intro (by omega) ?_ | exact trivial | simp only [↓PX, SX, SYX, EY, simprocAttr, TYX, UX, guard_un, IOX, mv_fa, plain_s, plain_r, plain_p, sx_cons, sx_nil, addTk, ldsOK, ldOK, sv_dead, sv_outE, hicz])
                  refine RawVC.idx rc hrn rfl rfl (by rfl) ?_
                  simp only [↓PX, SX, SYX, EY, simprocAttr, TYX, UX, guard_un, IOX, mv_fa, plain_s, plain_r, plain_p, sx_cons, sx_nil, addTk, ldsOK, ldOK, sv_dead, sv_outE]
                  refine RawVC.ldE (ents_of 0 rfl (fun h => by cases h) fC) (hlen _ hic).1 hrn rfl (by rfl) (by rfl) ?_
                  rw [hv]
                  repeat (first | refine DrawVC.intro (by kernel_rfl) ?_ | refine And.intro (by omega) ?_ | exact trivial | simp only [↓PX, SX, SYX, EY, simprocAttr, TYX, UX, guard_un, IOX, mv_fa, plain_s, plain_r, plain_p, sx_cons, sx_nil, addTk, ldsOK, ldOK, sv_dead, sv_outE, hisz])
                  refine RawVC.idx rs hrn rfl rfl (by rfl) ?_
                  simp only [↓PX, SX, SYX, EY, simprocAttr, TYX, UX, guard_un, IOX, mv_fa, plain_s, plain_r, plain_p, sx_cons, sx_nil, addTk, ldsOK, ldOK, sv_dead, sv_outE]
                  refine RawVC.ldE (ents_of 0 rfl (fun h => by cases h) fS) (hlen _ hic).2 hrn rfl (by rfl) (by rfl) ?_
                  rw [hsg]
                  repeat (first | refine DrawVC.intro (by kernel_rfl) ?_ | refine And.intro (by omega) ?_ | exact trivial | simp only [↓PX, SX, SYX, EY, simprocAttr, TYX, UX, guard_un, IOX, mv_fa, plain_s, plain_r, plain_p, sx_cons, sx_nil, addTk, ldsOK, ldOK, sv_dead, sv_outE])
                  refine CallVC.intro (ct2) ⟨rfl, rfl, rfl, trivial⟩ rfl rfl ?_
                  simp only [↓PX, SX, SYX, EY, simprocAttr, TYX, UX, guard_un, IOX, mv_fa, plain_s, plain_r, plain_p, sx_cons, sx_nil, addTk, ldsOK, ldOK, sv_dead, sv_outE, b_agg]
                  refine CallVC.intro (cm2) ⟨rfl, rfl, rfl, trivial⟩ rfl rfl ?_
                  simp only [↓PX, SX, SYX, EY, simprocAttr, TYX, UX, guard_un, IOX, mv_fa, plain_s, plain_r, plain_p, sx_cons, sx_nil, addTk, ldsOK, ldOK, sv_dead, sv_outE, w7]
                  repeat (first | refine DrawVC.intro (by kernel_rfl) ?_ | refine And.intro (by omega) ?_ | exact trivial | simp only [↓PX, SX, SYX, EY, simprocAttr, TYX, UX, guard_un, IOX, mv_fa, plain_s, plain_r, plain_p, sx_cons, sx_nil, addTk, ldsOK, ldOK, sv_dead, sv_outE, w7])
                  exact ⟨t + 1, by omega, by omega, (St.le_of id (by simp [-List.getD_eq_getElem?_getD, SYX, iv, Tle, AVle, A0le, Mem.get, eC, Nat.add_assoc, ↓outE_le, ↓outA_le]) (by simp [-List.getD_eq_getElem?_getD, SYX, Mle, Ele, Hle, Tle, AVle, A0le, Mem.get, eC, Nat.add_assoc, ↓outE_le, ↓outA_le]) (by simp [SYX]) (by simp [SYX]))⟩
                · have b3 : decide (((2 * j + t : Nat) : Int) < ((2 * j + R : Nat) : Int)) = false := decide_eq_false (by omega)
                  have htR : t = R := by omega
                  subst htR
                  have eD : lpN s (rwT C r) (rwT S r) β γ (2 * j) 1 t = dnN s β γ C S j r := by unfold dnN; rw [hR]
                  have eU : rpN s (rwT C r) (pt s q r) β γ (2 * j) z t = upN s q β γ C j r z := by unfold upN; rw [hR]
                  rw [eD] at hlw
                  rw [eU] at hrw
                  rw [eD, eU]
                  have hDm : dnN s β γ C S j r < md s := by
                    rw [← eD]
                    cases t with
                    | zero => exact (pr_of hk).1
                    | succ t => exact md_mod s _
                  have hEI : eI s (dnN s β γ C S j r) = if dnN s β γ C S j r = 0 then 10 else 0 := by unfold eI; rw [hk, if_pos rfl, Nat.mod_eq_of_lt hDm]
                  by_cases hD0 : dnN s β γ C S j r = 0
                  · rw [if_pos hD0] at hEI
                    repeat (first | refine DrawVC.intro (by kernel_rfl) ?_ | refine And.intro (by omega) ?_ | exact trivial | simp only [↓PX, SX, SYX, EY, simprocAttr, TYX, UX, guard_un, IOX, mv_fa, plain_s, plain_r, plain_p, sx_cons, sx_nil, addTk, ldsOK, ldOK, sv_dead, sv_outE, b3])
                    refine CallVC.intro (u_Inv s _ hlw) ⟨rfl, rfl, trivial⟩ rfl rfl ?_
                    simp only [↓PX, SX, SYX, EY, simprocAttr, TYX, UX, guard_un, IOX, mv_fa, plain_s, plain_r, plain_p, sx_cons, sx_nil, addTk, ldsOK, ldOK, sv_dead, sv_outE, hEI]
                    repeat (first | refine DrawVC.intro (by kernel_rfl) ?_ | refine And.intro (by omega) ?_ | exact trivial | simp only [↓PX, SX, SYX, EY, simprocAttr, TYX, UX, guard_un, IOX, mv_fa, plain_s, plain_r, plain_p, sx_cons, sx_nil, addTk, ldsOK, ldOK, sv_dead, sv_outE])
                  · rw [if_neg hD0] at hEI
                    have c1 := u_Mul s (upN s q β γ C j r z) (inv s (dnN s β γ C S j r)) hrw (md_w2 (inv_lt s _))
                    have ezs : upN s q β γ C j r z * inv s (dnN s β γ C S j r) % md s = zvN s q β γ C S j st (r + 1) := by rw [← hz]; rfl
                    rw [ezs] at c1
                    have w8 := wS (j := r) (by omega)
                    repeat (first | refine DrawVC.intro (by kernel_rfl) ?_ | refine And.intro (by omega) ?_ | exact trivial | simp only [↓PX, SX, SYX, EY, simprocAttr, TYX, UX, guard_un, IOX, mv_fa, plain_s, plain_r, plain_p, sx_cons, sx_nil, addTk, ldsOK, ldOK, sv_dead, sv_outE, b3])
                    refine CallVC.intro (u_Inv s _ hlw) ⟨rfl, rfl, trivial⟩ rfl rfl ?_
                    simp only [↓PX, SX, SYX, EY, simprocAttr, TYX, UX, guard_un, IOX, mv_fa, plain_s, plain_r, plain_p, sx_cons, sx_nil, addTk, ldsOK, ldOK, sv_dead, sv_outE, hEI]
                    repeat (first | refine DrawVC.intro (by kernel_rfl) ?_ | refine And.intro (by omega) ?_ | exact trivial | simp only [↓PX, SX, SYX, EY, simprocAttr, TYX, UX, guard_un, IOX, mv_fa, plain_s, plain_r, plain_p, sx_cons, sx_nil, addTk, ldsOK, ldOK, sv_dead, sv_outE])
                    refine CallVC.intro (c1) ⟨rfl, rfl, rfl, trivial⟩ rfl rfl ?_
                    simp only [↓PX, SX, SYX, EY, simprocAttr, TYX, UX, guard_un, IOX, mv_fa, plain_s, plain_r, plain_p, sx_cons, sx_nil, addTk, ldsOK, ldOK, sv_dead, sv_outE, tab_snoc, w8]
                    repeat (first | refine DrawVC.intro (by kernel_rfl) ?_ | refine And.intro (by omega) ?_ | exact trivial | simp only [↓PX, SX, SYX, EY, simprocAttr, TYX, UX, guard_un, IOX, mv_fa, plain_s, plain_r, plain_p, sx_cons, sx_nil, addTk, ldsOK, ldOK, sv_dead, sv_outE, tab_snoc, w8])
                    exact ⟨r + 1, ⟨by omega, fun r' h' => by
                      rcases Nat.lt_or_ge r' r with h | h
                      · exact hrd r' h
                      · have : r' = r := by omega
                        rw [this]; exact hD0⟩, by omega, (St.le_at [(427, 25)] (by simp [-List.getD_eq_getElem?_getD, SYX, iv, Tle, AVle, A0le, Mem.get, ren, idAt, idO, idA, List.map, Nat.add_assoc, ↓outE_le, ↓outA_le]) (by simp [-List.getD_eq_getElem?_getD, SYX, Mle, Ele, Hle, Tle, AVle, A0le, Mem.get, ren, idAt, idO, idA, List.map, Nat.add_assoc, ↓outE_le, ↓outA_le]) (by simp [SYX, ren, idAt, idO, idA, List.map, Nat.add_assoc, ↓outE_le, ↓outA_le]) (by simp [SYX]))⟩
              · have b2 : decide ((r : Int) < (u : Int)) = false := decide_eq_false (by omega)
                have hru : r = u := by omega
                subst hru
                have ldz := eL_ld (l := tab (r + 1) (zvN s q β γ C S j st)) (j := r) (by omega)
                rw [tab_at (by omega), ← hst, hstS, hst] at ldz
                repeat (first | refine DrawVC.intro (by kernel_rfl) ?_ | refine And.intro (by omega) ?_ | exact trivial | simp only [↓PX, SX, SYX, EY, simprocAttr, TYX, UX, guard_un, IOX, mv_fa, plain_s, plain_r, plain_p, sx_cons, sx_nil, addTk, ldsOK, ldOK, sv_dead, sv_outE, b2, hlz, ldz])
                refine loop_hav ?_
                simp only [↓PX, SX, SYX, EY, simprocAttr, TYX, UX, guard_un, IOX, mv_fa, plain_s, plain_r, plain_p, sx_cons, sx_nil, addTk, ldsOK, ldOK, sv_dead, sv_outE]
                refine loop_go mixed (by trivial) (γ := Nat) (fun t => t ≤ 3 ∧ 3 * j + t ≤ cs.length) (fun t => 3 - t) (fun t => [(25, .o (.r 427 (r + 1 + t))), (147, .o .any), (149, .o .any)]) (fun t => [(427, .row 25 4 (r + 1 + t) (LC eC (tab (r + 1) (zvN s q β γ C S j st) ++ coN s cs j t))), (223, .box [sufs 4 (3 * j + t) y])]) 0 ⟨Nat.zero_le _, by omega⟩
                  (St.le_of id (by simp [-List.getD_eq_getElem?_getD, SYX, iv, Tle, AVle, A0le, Mem.get, coN_0, List.append_nil, Nat.add_zero, ↓outE_le, ↓outA_le]) (by simp [-List.getD_eq_getElem?_getD, SYX, Mle, Ele, Hle, Tle, AVle, A0le, Mem.get, coN_0, List.append_nil, Nat.add_zero, ↓outE_le, ↓outA_le]) (by simp [SYX]) (by simp [SYX])) ?_
                rintro t ⟨ht3, htc⟩
                have hyj : ∀ w, ReadsSlice w y cs.length 4 (LC eC cs) → ReadsSlice w (sufs 4 (3 * j + t) y) (cs.length - (3 * j + t)) 4 ((LC eC cs).drop ((3 * j + t) * 4)) := fun w h => reads_sufs (3 * j + t) (by rw [Nat.sub_add_cancel htc]; exact h)
                obtain ⟨o9, k9⟩ := reads_one (hyj w7 hy7)
                have k6 : (sufs 4 (3 * j + t) y).cells.toList = [sufs 4 (3 * j + t) y] := by rw [k9]
                by_cases t3 : t < 3
                · have c1 : decide (((r + 1 + t : Nat) : Int) < (n : Int)) = true := decide_eq_true (by omega)
                  repeat (first | refine DrawVC.intro (by kernel_rfl) ?_ | refine And.intro (by omega) ?_ | exact trivial | simp only [↓PX, SX, SYX, EY, simprocAttr, TYX, UX, guard_un, IOX, mv_fa, plain_s, plain_r, plain_p, sx_cons, sx_nil, addTk, ldsOK, ldOK, sv_dead, sv_outE, c1])
                  refine CallVC.inline (N := _) (vars := _) (c := bodyOf Try.f109) Try.func109 (body_eq rfl) rfl rfl (by rfl) mixed (by rfl) 2 (by first | rfl | simp [noSav, ↓sv_outE, savOf]) ?_
                  simp only [bodyOf, Try.f109, Option.getD_some, List.length_cons, List.length_nil, Nat.reduceAdd, Nat.reduceSub, List.replicate, List.cons_append, List.nil_append]
                  simp only [↓PX, SX, SYX, EY, simprocAttr, TYX, UX, guard_un, IOX, mv_fa, plain_s, plain_r, plain_p, sx_cons, sx_nil, addTk, ldsOK, ldOK, sv_dead, sv_outE]
                  repeat (first | refine DrawVC.intro (by kernel_rfl) ?_ | refine And.intro (by omega) ?_ | exact trivial | simp only [↓PX, SX, SYX, EY, simprocAttr, TYX, UX, guard_un, IOX, mv_fa, plain_s, plain_r, plain_p, sx_cons, sx_nil, addTk, ldsOK, ldOK, sv_dead, sv_outE, o9, k6, k9])
                  obtain ⟨o1, c9, hsh⟩ := reads_len (hyj w7 hy7)
                  refine ExVC.intro _ (X_lenV rfl ⟨_, Try.underlying22⟩ rfl ⟨o1, c9, hsh⟩) ?_
                  by_cases hjn : 3 * j + t = cs.length
                  · have c2 : (((cs.length - (3 * j + t) : Nat) : Int) == 0) = true := by rw [beq_iff_eq]; omega
                    repeat (first | refine DrawVC.intro (by kernel_rfl) ?_ | refine And.intro (by omega) ?_ | exact trivial | simp only [↓PX, SX, SYX, EY, simprocAttr, TYX, UX, guard_un, IOX, mv_fa, plain_s, plain_r, plain_p, sx_cons, sx_nil, addTk, ldsOK, ldOK, sv_dead, sv_outE, c2])
                  · have c2 : (((cs.length - (3 * j + t) : Nat) : Int) == 0) = false := by rw [beq_eq_false_iff_ne]; omega
                    have w9 : IntKind.i64.wrap (((3 * j + t : Nat) : Int) + 1) = ((3 * j + t + 1 : Nat) : Int) := wS (by omega)
                    repeat (first | refine DrawVC.intro (by kernel_rfl) ?_ | refine And.intro (by omega) ?_ | exact trivial | simp only [↓PX, SX, SYX, EY, simprocAttr, TYX, UX, guard_un, IOX, mv_fa, plain_s, plain_r, plain_p, sx_cons, sx_nil, addTk, ldsOK, ldOK, sv_dead, sv_outE, c2])
                    refine RawVC.le (St.see_slot (i := 15) (k := 215) rfl rfl hyj) ?_
                    have ldc := eL_ld (l := cs) (j := 3 * j + t) (by omega)
                    repeat (first | refine DrawVC.intro (by kernel_rfl) ?_ | refine And.intro (by omega) ?_ | exact trivial | simp only [↓PX, SX, SYX, EY, simprocAttr, TYX, UX, guard_un, IOX, mv_fa, plain_s, plain_r, plain_p, sx_cons, sx_nil, addTk, ldsOK, ldOK, sv_dead, sv_outE, ldc])
                    obtain ⟨a9, d9, hya, hyc⟩ := reads_addr (hyj w7 hy7) (by omega)
                    refine ⟨by rw [List.length_drop, eL_len]; omega, RawVC.ex (suf 4 (sufs 4 (3 * j + t) y)) (X_suf (by rfl) rfl hya (by omega) hyc) (.inl ⟨_, _, _, _, _, rfl⟩) ?_⟩
                    have hy1 : ReadsSlice w7 (suf 4 (sufs 4 (3 * j + t) y)) (cs.length - (3 * j + t + 1)) 4 (((LC eC cs).drop ((3 * j + t) * 4)).drop 4) := reads_suf (by rw [show cs.length - (3 * j + t + 1) + 1 = cs.length - (3 * j + t) by omega]; exact hyj w7 hy7)
                    obtain ⟨o4, k4⟩ := reads_one hy1
                    have j4 : (suf 4 (sufs 4 (3 * j + t) y)).cells.toList = [suf 4 (sufs 4 (3 * j + t) y)] := by rw [k4]
                    have hcw : cs.getD (3 * j + t) 0 < W256 := getD_lt hcs (by omega)
                    repeat (first | refine DrawVC.intro (by kernel_rfl) ?_ | refine And.intro (by omega) ?_ | exact trivial | simp only [↓PX, SX, SYX, EY, simprocAttr, TYX, UX, guard_un, IOX, mv_fa, plain_s, plain_r, plain_p, sx_cons, sx_nil, addTk, ldsOK, ldOK, sv_dead, sv_outE, o4, k4, j4])
                    refine CallVC.intro (u_Add s (cs.getD (3 * j + t) 0) 0 hcw (by decide)) ⟨rfl, rfl, rfl, trivial⟩ rfl rfl ?_
                    simp only [↓PX, SX, SYX, EY, simprocAttr, TYX, UX, guard_un, IOX, mv_fa, plain_s, plain_r, plain_p, sx_cons, sx_nil, addTk, ldsOK, ldOK, sv_dead, sv_outE]
                    have etk : coN s cs j t ++ [cs.getD (3 * j + t) 0 % md s] = coN s cs j (t + 1) := by
                      unfold coN
                      rw [List.take_add_one, List.getElem?_drop, List.getElem?_eq_getElem (show 3 * j + t < cs.length by omega), List.map_append, List.getD_eq_getElem?_getD, List.getElem?_eq_getElem (show 3 * j + t < cs.length by omega)]; rfl
                    exact ⟨⟨by omega, by omega⟩, t + 1, ⟨by omega, by omega⟩, by omega, (St.le_at [(427, 25)] (by simp [-List.getD_eq_getElem?_getD, SYX, iv, Tle, AVle, A0le, Mem.get, ren, idAt, idO, idA, List.map, etk, sufs, Nat.add_assoc, List.append_assoc, ↓outE_le, ↓outA_le]) (by simp [-List.getD_eq_getElem?_getD, SYX, Mle, Ele, Hle, Tle, AVle, A0le, Mem.get, ren, idAt, idO, idA, List.map, etk, sufs, Nat.add_assoc, List.append_assoc, ↓outE_le, ↓outA_le]) (by simp [SYX, ren, idAt, idO, idA, List.map, etk, sufs, Nat.add_assoc, List.append_assoc, ↓outE_le, ↓outA_le]) (by simp [SYX]))⟩
                · have c1 : decide (((r + 1 + t : Nat) : Int) < (n : Int)) = false := decide_eq_false (by omega)
                  have ht3 : t = 3 := by omega
                  subst ht3
                  repeat (first | refine DrawVC.intro (by kernel_rfl) ?_ | refine And.intro (by omega) ?_ | exact trivial | simp only [↓PX, SX, SYX, EY, simprocAttr, TYX, UX, guard_un, IOX, mv_fa, plain_s, plain_r, plain_p, sx_cons, sx_nil, addTk, ldsOK, ldOK, sv_dead, sv_outE, c1])
                  refine RawVC.name 172 427 rfl rfl fun y5 hyy => ?_
                  obtain ⟨w5, hy5⟩ := hyy
                  obtain ⟨o8, k8⟩ := reads_one hy5
                  have j8 : y5.cells.toList = [y5] := by rw [k8]
                  have ezl : tab (r + 1) (zvN s q β γ C S j st) ++ coN s cs j 3 = zlN s q β γ C S cs j := by rw [hzl j, hst]; rfl
                  have ell : (zlN s q β γ C S cs j).length = r + 1 + 3 := by
                    rw [← ezl, List.length_append, tab_len]; unfold coN; rw [List.length_map, List.length_take, List.length_drop]; omega
                  rw [ezl, ← ell] at hy5 ⊢
                  have w10 : IntKind.i64.wrap (((2 * j : Nat) : Int) + 2) = ((2 * (j + 1) : Nat) : Int) := by rw [wI (by omega) (by omega)]; omega
                  have hXB : XB (ys ++ [y5]) (tbl (j + 1) (zlN s q β γ C S cs)) := by rw [← tbl_snoc]; exact XB_snoc hys ⟨w5, hy5⟩
                  have hdn2 : ∀ j', j' < j + 1 → ∀ r', r' < r → dnN s β γ C S j' r' ≠ 0 := fun j' h' r' hr' => by
                    rcases Nat.lt_or_ge j' j with h | h
                    · exact hdn j' h r' hr'
                    · have : j' = j := by omega
                      rw [this]; exact hrd r' hr'
                  rcases j with _ | j
                  · have hy0 : ys = [] := List.eq_nil_of_length_eq_zero (by rw [hys.1, tbl_len])
                    subst hy0
                    repeat (first | refine DrawVC.intro (by kernel_rfl) ?_ | refine And.intro (by omega) ?_ | exact trivial | simp only [↓PX, SX, SYX, EY, simprocAttr, TYX, UX, guard_un, IOX, mv_fa, plain_s, plain_r, plain_p, sx_cons, sx_nil, addTk, ldsOK, ldOK, sv_dead, sv_outE, outA, outE, o8, k8, j8, w10])
                    exact ⟨(0 + 1, [] ++ [y5]), ⟨by omega, by simp only []; omega, hXB, hdn2⟩, by simp only []; omega, St.le_trans (St.fuse (rt := true) (F := fun w => (((TB cy C w ∧ TB sy S w) ∧ TB cz C w) ∧ TB sz S w) ∧ TB ([] ++ [y5]) (tbl (0 + 1) (zlN s q β γ C S cs)) w) 0 rfl
                      (((ents_of 0 rfl (fun _ => rfl) fun _ h => h).and (ents_of 427 rfl (fun _ => rfl) fun _ h => h)).mono fun w h => ⟨h.1.1, by rw [← tbl_snoc]; exact TB_snoc h.1.2 h.2⟩)) (St.le_at [(155, 22)] (by simp [-List.getD_eq_getElem?_getD, SYX, iv, Tle, AVle, A0le, Mem.get, ren, idAt, idO, idA, List.map, outA, outE, eC]) (by simp [-List.getD_eq_getElem?_getD, SYX, Mle, Ele, Hle, Tle, AVle, A0le, Mem.get, ren, idAt, idO, idA, List.map, outA, outE, eC]) (by simp [SYX, ren, idAt, idO, idA, List.map, outA, outE, eC]) (by simp [SYX]))⟩
                  · repeat (first | refine DrawVC.intro (by kernel_rfl) ?_ | refine And.intro (by omega) ?_ | exact trivial | simp only [↓PX, SX, SYX, EY, simprocAttr, TYX, UX, guard_un, IOX, mv_fa, plain_s, plain_r, plain_p, sx_cons, sx_nil, addTk, ldsOK, ldOK, sv_dead, sv_outE, outA, outE, o8, k8, j8, w10])
                    have e33 : 3 * (j + 1) + 3 = 3 * (j + 1 + 1) := by omega
                    exact ⟨(j + 1 + 1, ys ++ [y5]), ⟨by omega, by simp only []; omega, hXB, hdn2⟩, by simp only []; omega, St.le_trans (St.fuse (rt := true) (F := fun w => (((TB cy C w ∧ TB sy S w) ∧ TB cz C w) ∧ TB sz S w) ∧ TB (ys ++ [y5]) (tbl (j + 1 + 1) (zlN s q β γ C S cs)) w) 0 rfl
                      (((ents_of 0 rfl (fun _ => rfl) fun _ h => h).and (ents_of 427 rfl (fun _ => rfl) fun _ h => h)).mono fun w h => ⟨h.1.1, by rw [← tbl_snoc]; exact TB_snoc h.1.2 h.2⟩)) (St.le_at [(155, 22)] (by simp [-List.getD_eq_getElem?_getD, SYX, iv, Tle, AVle, A0le, Mem.get, ren, idAt, idO, idA, List.map, outA, outE, eC, e33]) (by simp [-List.getD_eq_getElem?_getD, SYX, Mle, Ele, Hle, Tle, AVle, A0le, Mem.get, ren, idAt, idO, idA, List.map, outA, outE, eC, e33]) (by simp [SYX, ren, idAt, idO, idA, List.map, outA, outE, eC, e33]) (by simp [SYX]))⟩
            · have b1 : decide (((2 * j : Nat) : Int) < (C.length : Int)) = false := decide_eq_false (by omega)
              have hjJ : j = J := by omega
              clear b1
              rcases j with _ | j
              · have b1 : decide ((0 : Int) < (C.length : Int)) = false := decide_eq_false (by omega)
                repeat (first | refine DrawVC.intro (by kernel_rfl) ?_ | refine And.intro (by omega) ?_ | exact trivial | simp only [↓PX, SX, SYX, EY, simprocAttr, TYX, UX, guard_un, IOX, mv_fa, plain_s, plain_r, plain_p, sx_cons, sx_nil, addTk, ldsOK, ldOK, sv_dead, sv_outE, b1, outA, outE])
                refine ExVC.intro _ (X_lenV rfl ⟨_, Try.underlying65⟩ rfl ⟨none, 0, rfl⟩) ?_
                repeat (first | refine DrawVC.intro (by kernel_rfl) ?_ | refine And.intro (by omega) ?_ | exact trivial | simp only [↓PX, SX, SYX, EY, simprocAttr, TYX, UX, guard_un, IOX, mv_fa, plain_s, plain_r, plain_p, sx_cons, sx_nil, addTk, ldsOK, ldOK, sv_dead, sv_outE])
              · have b1 : decide (((2 * (j + 1) : Nat) : Int) < (C.length : Int)) = false := decide_eq_false (by omega)
                have b4 : (((j + 1 : Nat) : Int) == 0) = false := by rw [beq_eq_false_iff_ne]; omega
                have w11 : IntKind.i64.wrap (((j + 1 : Nat) : Int) - 1) = (j : Int) := by rw [wI (by omega) (by omega)]; omega
                have hyl : j < ys.length := by rw [hys.1, tbl_len]; omega
                have hsh := shl_i (k := q) (by omega)
                have hqm : ((q : Int) % 18446744073709551616).toNat = q := by omega
                rw [hn] at hsh
                have h8 : 8 ≤ 2 ^ q := by rw [hn]; omega
                have hjJ2 : j + 1 = (C.length + 1) / 2 := by omega
                have hm0 : C.length ≠ 0 := by omega
                have hdd : ∀ j', j' < j + 1 → ∀ r, r < 2 ^ q - 4 → dnN s β γ C S j' r ≠ 0 := fun j' h' r hr => hdn j' h' r (by rw [hn] at hr; omega)
                have hzll : ∀ j', j' < j + 1 → (zlN s q β γ C S cs j').length = n := fun j' h' => by rw [zlN_len h8 (by omega), hn]
                obtain ⟨wz, rz⟩ := hys.2 j (by rw [tbl_len]; omega)
                rw [tbl_at (by omega), hzll j (by omega)] at rz
                have fZ : ∀ w, ((((TB cy C w ∧ TB sy S w) ∧ TB cz C w) ∧ TB sz S w) ∧ TB ys (tbl (j + 1) (zlN s q β γ C S cs)) w) → ReadsSlice w (ys.getD j undef) n 4 (LC eC (zlN s q β γ C S cs j)) := fun w h => by
                  have := TB_at h.2 (i := j) (by rw [tbl_len]; omega)
                  rwa [tbl_at (by omega), hzll j (by omega)] at this
                have hlast : (zlN s q β γ C S cs j).getD u 0 = stN s q β γ C S (j + 1) := by
                  rw [zlN_at h8 (by rw [hn]; omega), hstS]
                obtain ⟨L, hL⟩ : ∃ L, stN s q β γ C S (j + 1) = L := ⟨_, rfl⟩
                have hLw : L < W256 := by rw [← hL]; exact hst0 _
                have hlaw := hoB_law (s := s) (q := q) (β := β) (γ := γ) (C := C) (S := S) (cs := cs) (J := j + 1) hk h8 hjJ2 hm0 hCS hdd
                have ch := u_holds s q β γ C S (tbl (j + 1) (zlN s q β γ C S cs)) cy sy ys hs hq hβ hγ hC hS (tbl_w fun j => zlN_w)
                  (fun l hl => by
                    obtain ⟨i, hi, rfl⟩ := List.mem_iff_getElem.1 hl
                    have := (hlen i hi).1
                    rw [List.getD_eq_getElem?_getD, List.getElem?_eq_getElem hi] at this
                    rw [hn]; exact this)
                  (fun l hl => by
                    obtain ⟨i, hi, rfl⟩ := List.mem_iff_getElem.1 hl
                    have := (hlen i (by omega)).2
                    rw [List.getD_eq_getElem?_getD, List.getElem?_eq_getElem hi] at this
                    rw [hn]; exact this)
                  (fun l hl => by
                    obtain ⟨j', hj', rfl⟩ := List.mem_map.1 hl
                    rw [hzll j' (List.mem_range.1 hj'), hn])
                  hCS (by omega) (by rw [tbl_len]; omega) (fun r hr => ckT_pos hk h8 hjJ2 hm0 hCS hdd hr) ⟨hy9.1.xb, hy9.2.xb, hys⟩
                rw [hlaw, hL, tbl_len] at ch
                have tky : List.take (j + 1) ys = ys := by
                  have : ys.length = j + 1 := by rw [hys.1, tbl_len]
                  rw [← this, List.take_length]
                have hyl2 : ys.length = j + 1 := by rw [hys.1, tbl_len]
                repeat (first | refine DrawVC.intro (by kernel_rfl) ?_ | refine And.intro (by omega) ?_ | exact trivial | simp only [↓PX, SX, SYX, EY, simprocAttr, TYX, UX, guard_un, IOX, mv_fa, plain_s, plain_r, plain_p, sx_cons, sx_nil, addTk, ldsOK, ldOK, sv_dead, sv_outE, b1, outA, outE, b4, w11, hyl, hqm, b_shl_iu, hsh, w4])
                refine RawVC.idx rz (show u < n by omega) rfl rfl (by rfl) ?_
                simp only [↓PX, SX, SYX, EY, simprocAttr, TYX, UX, guard_un, IOX, mv_fa, plain_s, plain_r, plain_p, sx_cons, sx_nil, addTk, ldsOK, ldOK, sv_dead, sv_outE]
                refine RawVC.ldE (ents_of 0 rfl (fun h => by cases h) fZ) (hzll j (by omega)) (show u < n by omega) rfl (by rfl) (by rfl) ?_
                rw [hlast, hL]
                repeat (first | refine DrawVC.intro (by kernel_rfl) ?_ | refine And.intro (by omega) ?_ | exact trivial | simp only [↓PX, SX, SYX, EY, simprocAttr, TYX, UX, guard_un, IOX, mv_fa, plain_s, plain_r, plain_p, sx_cons, sx_nil, addTk, ldsOK, ldOK, sv_dead, sv_outE])
                by_cases hL0 : L = 0
                · have h1 : (L == 0 || L == 1) = true := by rw [hL0]; rfl
                  rw [h1] at ch
                  have e0 : eqN L 0 = true := by rw [hL0]; exact eqN_self
                  refine CallVC.intro ch ⟨⟨rfl, ents_of 0 rfl (fun h => by cases h) (fun w h => ⟨h.1.1.1.1, h.1.1.1.2, h.2⟩)⟩, rfl, (by simp only [argMatch, SX, SYX, EY, simprocAttr, and_self, TYX, UX, guard_un, IOX, tkc, hcl]), (by simp only [argMatch, SX, SYX, EY, simprocAttr, and_self, TYX, UX, guard_un, IOX, tks, hsl]), (by simp only [argMatch, SX, SYX, EY, simprocAttr, and_self, TYX, UX, guard_un, IOX, tky, hyl2]), rfl, rfl, trivial⟩ rfl rfl ?_
                  repeat (first | refine DrawVC.intro (by kernel_rfl) ?_ | refine And.intro (by omega) ?_ | exact trivial | simp only [↓PX, SX, SYX, EY, simprocAttr, TYX, UX, guard_un, IOX, mv_fa, plain_s, plain_r, plain_p, sx_cons, sx_nil, addTk, ldsOK, ldOK, sv_dead, sv_outE, e0])
                  refine ExVC.intro _ (X_beqB Try.underlying4 rfl rfl) ?_
                  repeat (first | refine DrawVC.intro (by kernel_rfl) ?_ | refine And.intro (by omega) ?_ | exact trivial | simp only [↓PX, SX, SYX, EY, simprocAttr, TYX, UX, guard_un, IOX, mv_fa, plain_s, plain_r, plain_p, sx_cons, sx_nil, addTk, ldsOK, ldOK, sv_dead, sv_outE])
                  rfl
                · have e0 : eqN L 0 = false := by rw [eqN_eq hLw (by decide), beq_eq_false_iff_ne]; exact hL0
                  by_cases hL1 : L = 1
                  · have h1 : (L == 0 || L == 1) = true := by rw [hL1]; rfl
                    rw [h1] at ch
                    have e1 : eqN L 1 = true := by rw [hL1]; exact eqN_self
                    refine CallVC.intro ch ⟨⟨rfl, ents_of 0 rfl (fun h => by cases h) (fun w h => ⟨h.1.1.1.1, h.1.1.1.2, h.2⟩)⟩, rfl, (by simp only [argMatch, SX, SYX, EY, simprocAttr, and_self, TYX, UX, guard_un, IOX, tkc, hcl]), (by simp only [argMatch, SX, SYX, EY, simprocAttr, and_self, TYX, UX, guard_un, IOX, tks, hsl]), (by simp only [argMatch, SX, SYX, EY, simprocAttr, and_self, TYX, UX, guard_un, IOX, tky, hyl2]), rfl, rfl, trivial⟩ rfl rfl ?_
                    repeat (first | refine DrawVC.intro (by kernel_rfl) ?_ | refine And.intro (by omega) ?_ | exact trivial | simp only [↓PX, SX, SYX, EY, simprocAttr, TYX, UX, guard_un, IOX, mv_fa, plain_s, plain_r, plain_p, sx_cons, sx_nil, addTk, ldsOK, ldOK, sv_dead, sv_outE, e0, e1])
                    refine ExVC.intro _ (X_beqB Try.underlying4 rfl rfl) ?_
                    repeat (first | refine DrawVC.intro (by kernel_rfl) ?_ | refine And.intro (by omega) ?_ | exact trivial | simp only [↓PX, SX, SYX, EY, simprocAttr, TYX, UX, guard_un, IOX, mv_fa, plain_s, plain_r, plain_p, sx_cons, sx_nil, addTk, ldsOK, ldOK, sv_dead, sv_outE])
                    rfl
                  · have h1 : (L == 0 || L == 1) = false := by
                      rw [Bool.or_eq_false_iff, beq_eq_false_iff_ne, beq_eq_false_iff_ne]; exact ⟨hL0, hL1⟩
                    rw [h1] at ch
                    have e1 : eqN L 1 = false := by rw [eqN_eq hLw (by decide), beq_eq_false_iff_ne]; exact hL1
                    refine CallVC.intro ch ⟨⟨rfl, ents_of 0 rfl (fun h => by cases h) (fun w h => ⟨h.1.1.1.1, h.1.1.1.2, h.2⟩)⟩, rfl, (by simp only [argMatch, SX, SYX, EY, simprocAttr, and_self, TYX, UX, guard_un, IOX, tkc, hcl]), (by simp only [argMatch, SX, SYX, EY, simprocAttr, and_self, TYX, UX, guard_un, IOX, tks, hsl]), (by simp only [argMatch, SX, SYX, EY, simprocAttr, and_self, TYX, UX, guard_un, IOX, tky, hyl2]), rfl, rfl, trivial⟩ rfl rfl ?_
                    repeat (first | refine DrawVC.intro (by kernel_rfl) ?_ | refine And.intro (by omega) ?_ | exact trivial | simp only [↓PX, SX, SYX, EY, simprocAttr, TYX, UX, guard_un, IOX, mv_fa, plain_s, plain_r, plain_p, sx_cons, sx_nil, addTk, ldsOK, ldOK, sv_dead, sv_outE, e0, e1])
                    refine ExVC.intro _ (X_beqB Try.underlying4 rfl rfl) ?_
                    repeat (first | refine DrawVC.intro (by kernel_rfl) ?_ | refine And.intro (by omega) ?_ | exact trivial | simp only [↓PX, SX, SYX, EY, simprocAttr, TYX, UX, guard_un, IOX, mv_fa, plain_s, plain_r, plain_p, sx_cons, sx_nil, addTk, ldsOK, ldOK, sv_dead, sv_outE])
                    rfl
end Go.Sx
