/-
  Divide, of poly and of the reference. No conditions.
-/
import Derived.Test.YtndmafefpiigoaaZPoq
namespace Go.Sx
open Go.Proofs Go.Num
-- SY
-- TY: TYX, UX
set_option maxRecDepth 100000
set_option linter.unusedSimpArgs false
set_option pp.deepTerms true
set_option pp.maxSteps 100000
theorem X_max {P : Program} {T : Nat → AV} {x y : Operand} {tys : Array TypeId} {a b : Int} (hx : ev T x = .o (.v (.int .i64 a))) (hy : ev T y = .o (.v (.int .i64 b))) :
    pureOp P T (.call { callee := .builtin .max, args := #[x, y], argTypes := tys }) (.int .i64 (max a b)) := by
  intro o f w ho hf _
  have e1 := hf x (by simp [Op.operands, Go.Call.operands]) _ hx
  have e2 := hf y (by simp [Op.operands, Go.Call.operands]) _ hy
  simp [execOp, ho, resolve, invoke, builtin, Builtin.max_, e1, e2, Builtin.max2]
  split <;> omega
theorem tab_some {n : Nat} {f : Nat → Nat} {i : Nat} (h : i < n) : (tab n f)[i]? = some (f i) := by simp [tab, h]
/-! ### the steps of a division -/
/-- A difference. -/
def sb (m x y : Nat) : Nat := (x + (m - y % m) % m) % m
theorem sb_w (s : Int) (x y : Nat) : sb (md s) x y < W256 := md_w s _
theorem u_Sub' (s : Int) (a b : Nat) (ha : a < W256) (hb : b < W256) : Contract Try.prog 77 [.val (.int .i64 s), .val (EN a), .val (EN b)] [.val (EN (sb (md s) a b))] := u_Sub s a b ha hb
/-- The rest, when t coefficients of the quotient are had. -/
def dR (m : Nat) (b : List Nat) (lead la : Nat) (f0 : Nat → Nat) : Nat → Nat → Nat
  | 0 => f0
  | t + 1 => fun k => if la - b.length - t ≤ k ∧ k < la - b.length - t + b.length then sb m (dR m b lead la f0 t k) (dR m b lead la f0 t (la - 1 - t) * lead % m * b.getD (k - (la - b.length - t)) 0 % m) else dR m b lead la f0 t k
/-- The quotient's coefficient of that step. -/
def dq (m : Nat) (b : List Nat) (lead la : Nat) (f0 : Nat → Nat) (t : Nat) : Nat := dR m b lead la f0 t (la - 1 - t) * lead % m
/-- Within a step, when j of the divisor's coefficients are through. -/
def dI (m : Nat) (b : List Nat) (kq low : Nat) (f : Nat → Nat) (j k : Nat) : Nat := if low ≤ k ∧ k < low + j then sb m (f k) (kq * b.getD (k - low) 0 % m) else f k
theorem dI_0 {m : Nat} {b : List Nat} {kq low : Nat} {f : Nat → Nat} : dI m b kq low f 0 = f := by
  funext k; unfold dI; rw [if_neg (by omega)]
theorem dI_step {m : Nat} {b : List Nat} {kq low j N : Nat} {f : Nat → Nat} : (tab N (dI m b kq low f j)).set (low + j) (sb m (dI m b kq low f j (low + j)) (kq * b.getD j 0 % m)) = tab N (dI m b kq low f (j + 1)) := by
  rw [tab_set]
  refine tab_congr fun k _ => ?_
  unfold dI
  by_cases hk : k = low + j
  · subst hk
    rw [if_pos rfl, if_neg (by omega), if_pos (by omega), Nat.add_sub_cancel_left]
  · rw [if_neg hk]
    have : (low ≤ k ∧ k < low + (j + 1)) = (low ≤ k ∧ k < low + j) := by rw [eq_iff_iff]; omega
    simp [this]
theorem dI_full {m : Nat} {b : List Nat} {lead la t : Nat} {f0 : Nat → Nat} : dI m b (dq m b lead la f0 t) (la - b.length - t) (dR m b lead la f0 t) b.length = dR m b lead la f0 (t + 1) := rfl
theorem dR_w {s : Int} {b : List Nat} {lead la : Nat} {f0 : Nat → Nat} (h : ∀ k, f0 k < W256) : ∀ t k, dR (md s) b lead la f0 t k < W256
  | 0, k => h k
  | t + 1, k => by
    unfold dR
    split
    · exact sb_w _ _ _
    · exact dR_w h t k
theorem dI_w {s : Int} {b : List Nat} {kq low : Nat} {f : Nat → Nat} (h : ∀ k, f k < W256) (j k : Nat) : dI (md s) b kq low f j k < W256 := by
  unfold dI
  split
  · exact sb_w _ _ _
  · exact h k
/-- The quotient so far. -/
def dQ (m : Nat) (b : List Nat) (lead la : Nat) (f0 : Nat → Nat) (t i : Nat) : Nat := if la - b.length < i + t then dq m b lead la f0 (la - b.length - i) else 0
theorem dQ_0 {m : Nat} {b : List Nat} {lead la N : Nat} {f0 : Nat → Nat} (h : N ≤ la + 1 - b.length) : tab N (dQ m b lead la f0 0) = List.replicate N 0 := by
  rw [tab_rep]
  refine tab_congr fun i hi => ?_
  unfold dQ
  rw [if_neg (by omega)]
theorem dQ_step {m : Nat} {b : List Nat} {lead la N t : Nat} {f0 : Nat → Nat} (ht : t ≤ la - b.length) (hN : N ≤ la - b.length + 1) :
    (tab N (dQ m b lead la f0 t)).set (la - b.length - t) (dq m b lead la f0 t) = tab N (dQ m b lead la f0 (t + 1)) := by
  rw [tab_set]
  refine tab_congr fun i hi => ?_
  unfold dQ
  by_cases h : i = la - b.length - t
  · subst h
    rw [if_pos rfl, if_pos (by omega)]
    congr 1
    omega
  · rw [if_neg h]
    have : (la - b.length < i + (t + 1)) = (la - b.length < i + t) := by rw [eq_iff_iff]; omega
    simp [this]
/-! ### what is answered -/
def okD (s : Int) (a b : List Nat) : Bool := kn s && decide ((tp (md s) b).length ≠ 0) && decide ((tp (md s) a).length ≤ 1024)
def eDv (s : Int) (a b : List Nat) : Int := if kn s then (if (tp (md s) b).length = 0 then 10 else if (tp (md s) a).length ≤ 1024 then 0 else 70) else 20
def ldD (s : Int) (b : List Nat) : Nat := inv s ((tp (md s) b).getD ((tp (md s) b).length - 1) 0)
def nD (s : Int) (a b : List Nat) : Nat := (tp (md s) a).length + 1 - (tp (md s) b).length
def dRs (s : Int) (a b : List Nat) : Nat → Nat → Nat := dR (md s) (tp (md s) b) (ldD s b) (tp (md s) a).length (fun k => (tp (md s) a).getD k 0)
def dQs (s : Int) (a b : List Nat) : Nat → Nat → Nat := dQ (md s) (tp (md s) b) (ldD s b) (tp (md s) a).length (fun k => (tp (md s) a).getD k 0)
def dvQ (s : Int) (a b : List Nat) : List Nat := if okD s a b then tab (nD s a b) (dQs s a b (nD s a b)) else []
def dvR (s : Int) (a b : List Nat) : List Nat := if okD s a b then tp (md s) (tab (tp (md s) a).length (dRs s a b (nD s a b))) else []
theorem u_Divide (s : Int) (a b : List Nat) (ha : ∀ x ∈ a, x < W256) (hb : ∀ x ∈ b, x < W256) (hl : a.length * 32 ≤ 140737488355328) (hl2 : b.length * 32 ≤ 140737488355328) :
    Contract Try.prog 34 [.val (.int .i64 s), .sl a.length 4 (LC eC a), .sl b.length 4 (LC eC b)] [.row 25 4 (dvQ s a b).length (LC eC (dvQ s a b)), .part (dvR s a b).length 4 (LC eC (dvR s a b)), .val (.int .i64 (eDv s a b))] := by
  cases hk : kn s with
  | false =>
    have he : eS s = 20 := by simp [eS, hk]
    have e1 : dvQ s a b = [] := by simp [dvQ, okD, hk]
    have e2 : dvR s a b = [] := by simp [dvR, okD, hk]
    have e3 : eDv s a b = 20 := by simp [eDv, hk]
    rw [e1, e2, e3]
    refine contract_of (N := _) (vars := _) (c := bodyOf Try.f34) Try.func34 (body_eq rfl) rfl rfl (by rfl) mixed _ _ trivial 1000 ?_
    simp only [bodyOf, Try.f34, Option.getD_some, argA, argE, List.length_cons, List.length_nil, Nat.reduceAdd, Nat.reduceSub, List.replicate, List.cons_append, List.nil_append]
    simp only [↓PX, SX, SYX, EY, simprocAttr, TYX, UX]
    refine CallVC.intro (u_known s) ⟨rfl, trivial⟩ rfl rfl ?_
    simp only [↓PX, SX, SYX, EY, simprocAttr, TYX, UX, he]
  | true =>
    have he : eS s = 0 := by simp [eS, hk]
    by_cases h0 : (tp (md s) b).length = 0
    · have e1 : dvQ s a b = [] := by simp [dvQ, okD, h0]
      have e2 : dvR s a b = [] := by simp [dvR, okD, h0]
      have e3 : eDv s a b = 10 := by simp [eDv, hk, h0]
      have d0 : (((tp (md s) b).length : Int) == 0) = true := by simp [h0]
      rw [e1, e2, e3]
      refine contract_of (N := _) (vars := _) (c := bodyOf Try.f34) Try.func34 (body_eq rfl) rfl rfl (by rfl) mixed _ _ trivial 1000 ?_
      simp only [bodyOf, Try.f34, Option.getD_some, argA, argE, List.length_cons, List.length_nil, Nat.reduceAdd, Nat.reduceSub, List.replicate, List.cons_append, List.nil_append]
      simp only [↓PX, SX, SYX, EY, simprocAttr, TYX, UX]
      refine CallVC.intro (u_known s) ⟨rfl, trivial⟩ rfl rfl ?_
      simp only [↓PX, SX, SYX, EY, simprocAttr, TYX, UX, he]
      repeat (first | refine DrawVC.intro (by kernel_rfl) ?_ | refine And.intro (by omega) ?_ | exact trivial)
      refine CallVC.intro (u_Trim s a ha hl) ⟨rfl, (by simp only [argMatch, SX, SYX, EY, simprocAttr, and_self, List.length_append, List.length_map, List.length_set, TYX, UX]), trivial⟩ rfl rfl ?_
      simp only [↓PX, SX, SYX, EY, simprocAttr, TYX, UX]
      refine CallVC.intro (u_Trim s b hb hl2) ⟨rfl, (by simp only [argMatch, SX, SYX, EY, simprocAttr, and_self, List.length_append, List.length_map, List.length_set, TYX, UX, d0]), trivial⟩ rfl rfl ?_
      simp only [↓PX, SX, SYX, EY, simprocAttr, TYX, UX, d0]
    · have d0 : (((tp (md s) b).length : Int) == 0) = false := by simp [h0]
      by_cases h1 : (tp (md s) a).length ≤ 1024
      · have d1 : decide ((1024 : Int) < ((tp (md s) a).length : Int)) = false := by simp; omega
        have eQ : dvQ s a b = tab (nD s a b) (dQs s a b (nD s a b)) := by simp [dvQ, okD, hk, h0, h1]
        have eR : dvR s a b = tp (md s) (tab (tp (md s) a).length (dRs s a b (nD s a b))) := by simp [dvR, okD, hk, h0, h1]
        have eE : eDv s a b = 0 := by simp [eDv, hk, h0, h1]
        rw [eQ, eR, eE, tab_len]
        refine contract_of0 (N := _) (vars := _) (c := bodyOf Try.f34) Try.func34 (body_eq rfl) rfl rfl (by rfl) _ _ ?_
        simp only [bodyOf, Try.f34, Option.getD_some, argA, argE, List.length_cons, List.length_nil, Nat.reduceAdd, Nat.reduceSub, List.replicate, List.cons_append, List.nil_append]
        refine sv0_seq mixed (by trivial) 1000 ?_
        simp only [↓PX, SX, SYX, EY, simprocAttr, TYX, UX]
        refine sv0_seq mixed (by trivial) 1000 ?_
        simp only [↓PX, SX, SYX, EY, simprocAttr, TYX, UX]
        refine CallVC.intro (u_known s) ⟨rfl, trivial⟩ rfl rfl ?_
        simp only [↓PX, SX, SYX, EY, simprocAttr, TYX, UX, he]
        refine sv0_seq mixed (by trivial) 1000 ?_
        simp only [↓PX, SX, SYX, EY, simprocAttr, TYX, UX]
        repeat (first | refine DrawVC.intro (by kernel_rfl) ?_ | refine And.intro (by omega) ?_ | exact trivial)
        refine CallVC.intro (u_Trim s a ha hl) ⟨rfl, (by simp only [argMatch, SX, SYX, EY, simprocAttr, and_self, List.length_append, List.length_map, List.length_set, TYX, UX]), trivial⟩ rfl rfl ?_
        simp only [↓PX, SX, SYX, EY, simprocAttr, TYX, UX]
        refine CallVC.intro (u_Trim s b hb hl2) ⟨rfl, (by simp only [argMatch, SX, SYX, EY, simprocAttr, and_self, List.length_append, List.length_map, List.length_set, TYX, UX]), trivial⟩ rfl rfl ?_
        simp only [↓PX, SX, SYX, EY, simprocAttr, TYX, UX]
        have hnA := nrm_tp (md_pos s) a
        have hnB := nrm_tp (md_pos s) b
        have hlA := tp_len (md s) a
        have hlB := tp_len (md s) b
        have w1 : IntKind.i64.wrap (((tp (md s) b).length : Int) - 1) = (((tp (md s) b).length - 1 : Nat) : Int) := wP (by omega) (by omega)
        have hbl : (tp (md s) b).getD ((tp (md s) b).length - 1) 0 < W256 := getD_lt hnB.w (by omega)
        have w2 : max 0 (IntKind.i64.wrap (IntKind.i64.wrap (((tp (md s) a).length : Int) - ((tp (md s) b).length : Int)) + 1)) = ((nD s a b : Nat) : Int) := by
          unfold nD
          rw [wI (n := ((tp (md s) a).length : Int) - ((tp (md s) b).length : Int)) (by omega) (by omega), wI (by omega) (by omega)]
          omega
        have hnD : nD s a b ≤ 1024 := by unfold nD; omega
        refine sv0_seq mixed (by trivial) 1000 ?_
        simp only [↓PX, SX, SYX, EY, simprocAttr, TYX, UX, d0, d1]
        refine sv0_seq mixed (by trivial) 1000 ?_
        simp only [↓PX, SX, SYX, EY, simprocAttr, TYX, UX, w1, eL_ld (l := tp (md s) b) (j := (tp (md s) b).length - 1) (by omega)]
        repeat (first | refine DrawVC.intro (by kernel_rfl) ?_ | refine And.intro (by omega) ?_ | exact trivial)
        refine CallVC.intro (u_Inv s _ hbl) ⟨rfl, rfl, trivial⟩ rfl rfl ?_
        simp only [↓PX, SX, SYX, EY, simprocAttr, TYX, UX]
        refine sv0_seq mixed (by trivial) 1000 ?_
        simp only [↓PX, SX, SYX, EY, simprocAttr, TYX, UX]
        refine ExVC.intro _ (X_max rfl rfl) ?_
        rw [w2]
        simp only [↓PX, SX, SYX, EY, simprocAttr, TYX, UX]
        repeat (first | refine DrawVC.intro (by kernel_rfl) ?_ | refine And.intro (by omega) ?_ | exact trivial)
        refine sv0_seq' ?_
        refine sv0_seq mixed (by trivial) 1000 ?_
        simp only [↓PX, SX, SYX, EY, simprocAttr, TYX, UX]
        refine CallVC.inline (N := _) (vars := _) (c := bodyOf Try.f73) Try.func73 (body_eq rfl) rfl rfl (by rfl) mixed (by rfl) 0 (by rfl) ?_
        simp only [bodyOf, Try.f73, Option.getD_some, List.length_cons, List.length_nil, Nat.reduceAdd, Nat.reduceSub, List.replicate, List.cons_append, List.nil_append]
        simp only [↓PX, SX, SYX, EY, simprocAttr, TYX, UX]
        refine sv0_block ?_
        have hRw : ∀ t k, dRs s a b t k < W256 := dR_w (fun k => by
          by_cases h : k < (tp (md s) a).length
          · exact getD_lt hnA.w h
          · rw [getD_out (by omega)]; decide)
        have hlR : ∀ t, (tab (tp (md s) a).length (dRs s a b t)).length = (tp (md s) a).length := fun _ => tab_len
        have hlQ : ∀ t, (tab (nD s a b) (dQs s a b t)).length = nD s a b := fun _ => tab_len
        have hT4 : List.take ((tp (md s) a).length * 4) (LC eC (tab (tp (md s) a).length (dRs s a b (nD s a b)))) = LC eC (tab (tp (md s) a).length (dRs s a b (nD s a b))) := List.take_of_length_le (by rw [LC_len eC_len, hlR]; omega)
        have eR0 : tab (tp (md s) a).length (dRs s a b 0) = tp (md s) a := by
          unfold dRs dR
          exact tab_self.symm
        have eQ0 : tab (nD s a b) (dQs s a b 0) = List.replicate (nD s a b) 0 := by
          unfold dQs
          exact dQ_0 (by unfold nD; omega)
        refine range_go mixed 0 1 (tp (md s) a).length (fun q => [(51, .box (LC eC (tab (tp (md s) a).length (dRs s a b (min q (nD s a b)))))), (195, .row 25 4 (nD s a b) (LC eC (tab (nD s a b) (dQs s a b (min q (nD s a b))))))]) (fun q => dRs s a b (min q (nD s a b)) ((tp (md s) a).length - 1 - q)) 51 0 (by rfl) (by omega) rfl ?_ (fun q => .inl (by rfl)) ?_ ?_ ?_
        · exact (MLe_of id (by simp [-List.getD_eq_getElem?_getD, SYX, iv, Mle, Ele, Hle, Tle, AVle, A0le, Mem.get, Nat.zero_min, eR0, eQ0]) (by simp [SYX]) (by simp [SYX]))
        · intro q hq
          refine ⟨_, _, rfl, rfl, ?_⟩
          rw [Nat.zero_add]
          refine LC_at eC_len ?_
          exact tab_some (by omega)
        · intro q hq
          by_cases hqn : q < nD s a b
          · have em : min q (nD s a b) = q := by omega
            have hq2 : q + (tp (md s) b).length ≤ (tp (md s) a).length := by unfold nD at hqn; omega
            have em' : min (q + 1) (nD s a b) = q + 1 := Nat.min_eq_left hqn
            have d2 : decide ((((tp (md s) a).length - 1 - q : Nat) : Int) < (((tp (md s) b).length - 1 : Nat) : Int)) = false := by
              simp only [decide_eq_false_iff_not]; unfold nD at hqn; omega
            have hai : (tp (md s) a).length - 1 - q < (tab (tp (md s) a).length (dRs s a b q)).length := by rw [hlR]; omega
            have e4 : List.take 4 (List.drop (((tp (md s) a).length - 1 - q) * 4) (LC eC (tab (tp (md s) a).length (dRs s a b q)))) = eC (dRs s a b q ((tp (md s) a).length - 1 - q)) := LC_at eC_len (tab_some (by omega))
            have w3 : IntKind.i64.wrap (IntKind.i64.wrap ((((tp (md s) a).length - 1 - q : Nat) : Int) - ((tp (md s) b).length : Int)) + 1) = (((tp (md s) a).length - (tp (md s) b).length - q : Nat) : Int) := by
              rw [wI (n := (((tp (md s) a).length - 1 - q : Nat) : Int) - ((tp (md s) b).length : Int)) (by omega) (by omega), wI (by omega) (by omega)]; omega
            have hlow : (tp (md s) a).length - (tp (md s) b).length - q < (tab (nD s a b) (dQs s a b q)).length := by rw [hlQ]; unfold nD; omega
            have hkW : dRs s a b q ((tp (md s) a).length - 1 - q) * ldD s b % md s < W256 := md_w s _
            have e5 := eL_st (v := dRs s a b q ((tp (md s) a).length - 1 - q) * ldD s b % md s) hlow
            have e6 : (tab (nD s a b) (dQs s a b q)).set ((tp (md s) a).length - (tp (md s) b).length - q) (dRs s a b q ((tp (md s) a).length - 1 - q) * ldD s b % md s) = tab (nD s a b) (dQs s a b (q + 1)) :=
              dQ_step (by omega) (by unfold nD; omega)
            rw [e6] at e5
            have hld : ldD s b < W256 := md_w2 (inv_lt _ _)
            simp only [↓PX, SX, SYX, EY, simprocAttr, TYX, UX, em, w1, d2]
            simp only [↓PX, SX, SYX, EY, simprocAttr, TYX, UX, e4, hlR, eC]
            repeat (first | refine DrawVC.intro (by kernel_rfl) ?_ | refine And.intro (by omega) ?_ | exact trivial)
            skip
            refine CallVC.intro (u_Mul s _ _ (hRw q ((tp (md s) a).length - 1 - q)) hld) ⟨rfl, rfl, rfl, trivial⟩ rfl rfl ?_
            simp only [↓PX, SX, SYX, EY, simprocAttr, TYX, UX, w3]
            simp only [↓PX, SX, SYX, EY, simprocAttr, TYX, UX, hlQ]
            repeat (first | refine DrawVC.intro (by kernel_rfl) ?_ | refine And.intro (by omega) ?_ | exact trivial)
            simp only [↓PX, SX, SYX, EY, simprocAttr, TYX, UX, e5]
            have hn3 : (tp (md s) a).length - (tp (md s) b).length - q < nD s a b := by unfold nD; omega
            repeat (first | refine DrawVC.intro (by kernel_rfl) ?_ | refine And.intro (by omega) ?_ | exact trivial)
            refine loop_hav ?_
            simp only [↓PX, SX, SYX, EY, simprocAttr, TYX, UX]
            have hlI : ∀ j, (tab (tp (md s) a).length (dI (md s) (tp (md s) b) (dRs s a b q ((tp (md s) a).length - 1 - q) * ldD s b % md s) ((tp (md s) a).length - (tp (md s) b).length - q) (dRs s a b q) j)).length = (tp (md s) a).length := fun _ => tab_len
            refine loop_go mixed (by trivial) (γ := Nat) (fun j => j ≤ (tp (md s) b).length) (fun j => (tp (md s) b).length - j) (fun j => [(86, iv j)]) (fun j => [(51, .box (LC eC (tab (tp (md s) a).length (dI (md s) (tp (md s) b) (dRs s a b q ((tp (md s) a).length - 1 - q) * ldD s b % md s) ((tp (md s) a).length - (tp (md s) b).length - q) (dRs s a b q) j))))]) 0 (by omega)
              (St.le_of id (by simp [-List.getD_eq_getElem?_getD, SYX, iv, Tle, AVle, A0le, Mem.get, dI_0]) (by simp [-List.getD_eq_getElem?_getD, SYX, Mle, Ele, Hle, Tle, AVle, A0le, Mem.get, dI_0]) (by simp [SYX]) (by simp [SYX])) ?_
            intro j hj
            simp only [↓PX, SX, SYX, EY, simprocAttr, TYX, UX]
            refine cond_split (fun h3 => ?_) (fun h3 => ?_)
            · have h3 : j < (tp (md s) b).length := by simpa using h3
              have hy := getD_lt hnB.w h3
              have hij : (tp (md s) a).length - (tp (md s) b).length - q + j < (tab (tp (md s) a).length (dI (md s) (tp (md s) b) (dRs s a b q ((tp (md s) a).length - 1 - q) * ldD s b % md s) ((tp (md s) a).length - (tp (md s) b).length - q) (dRs s a b q) j)).length := by rw [hlI]; omega
              have e7 : IntKind.i64.wrap ((((tp (md s) a).length - (tp (md s) b).length - q : Nat) : Int) + (j : Int)) = (((tp (md s) a).length - (tp (md s) b).length - q + j : Nat) : Int) := by rw [wI (by omega) (by omega)]; rfl
              have e8 := eL_ld hij
              rw [tab_at (by rw [hlI] at hij; exact hij)] at e8
              have e9 := eL_st (v := sb (md s) (dI (md s) (tp (md s) b) (dRs s a b q ((tp (md s) a).length - 1 - q) * ldD s b % md s) ((tp (md s) a).length - (tp (md s) b).length - q) (dRs s a b q) j ((tp (md s) a).length - (tp (md s) b).length - q + j)) (dRs s a b q ((tp (md s) a).length - 1 - q) * ldD s b % md s * (tp (md s) b).getD j 0 % md s)) hij
              rw [dI_step] at e9
              simp only [↓PX, SX, SYX, EY, simprocAttr, TYX, UX, eL_ld h3, e7]
              repeat (first | refine DrawVC.intro (by kernel_rfl) ?_ | refine And.intro (by omega) ?_ | exact trivial)
              simp only [↓PX, SX, SYX, EY, simprocAttr, TYX, UX, e8, hlI]
              refine CallVC.intro (u_Mul s _ _ hkW hy) ⟨rfl, rfl, rfl, trivial⟩ rfl rfl ?_
              simp only [↓PX, SX, SYX, EY, simprocAttr, TYX, UX, hlI]
              refine CallVC.intro (u_Sub' s _ _ (dI_w (hRw q) _ _) (md_w s _)) ⟨rfl, rfl, rfl, trivial⟩ rfl rfl ?_
              simp only [↓PX, SX, SYX, EY, simprocAttr, TYX, UX, hlI, e9, wS (j := j) (by omega)]
              repeat (first | refine DrawVC.intro (by kernel_rfl) ?_ | refine And.intro (by omega) ?_ | exact trivial)
              exact ⟨j + 1, by omega, by omega, (St.le_of id (by simp [-List.getD_eq_getElem?_getD, SYX, iv, Tle, AVle, A0le, Mem.get]) (by simp [-List.getD_eq_getElem?_getD, SYX, Mle, Ele, Hle, Tle, AVle, A0le, Mem.get]) (by simp [SYX]) (by simp [SYX]))⟩
            · have h3 : j = (tp (md s) b).length := by
                have : (tp (md s) b).length ≤ j := by simpa using h3
                omega
              subst h3
              have e10 : dI (md s) (tp (md s) b) (dRs s a b q ((tp (md s) a).length - 1 - q) * ldD s b % md s) ((tp (md s) a).length - (tp (md s) b).length - q) (dRs s a b q) (tp (md s) b).length = dRs s a b (q + 1) := dI_full
              rw [e10]
              simp only [↓PX, SX, SYX, EY, simprocAttr, TYX, UX]
              rw [em']
              exact (MLe_of id (by simp [-List.getD_eq_getElem?_getD, SYX, iv, Mle, Ele, Hle, Tle, AVle, A0le, Mem.get]) (by simp [SYX]) (by simp [SYX]))
          · have em : min q (nD s a b) = nD s a b := by omega
            have d2 : decide ((((tp (md s) a).length - 1 - q : Nat) : Int) < (((tp (md s) b).length - 1 : Nat) : Int)) = true := by
              simp only [decide_eq_true_eq]; unfold nD at hqn; omega
            simp only [↓PX, SX, SYX, EY, simprocAttr, TYX, UX, em, w1, d2]
            show SV0 _ _ _ _ _
            refine sv0_run mixed (by trivial) 1000 ?_
            simp only [↓PX, SX, SYX, EY, simprocAttr, TYX, UX]
            repeat (first | refine DrawVC.intro (by kernel_rfl) ?_ | refine And.intro (by omega) ?_ | exact trivial)
            refine CallVC.intro (u_Trim s (tab (tp (md s) a).length (dRs s a b (nD s a b))) (tabW' (hRw _)) (by rw [tab_len]; omega)) ⟨rfl, (by simp only [argMatch, SX, SYX, EY, simprocAttr, and_self, List.length_append, List.length_map, List.length_set, TYX, UX, hlR, hT4]), trivial⟩ rfl rfl ?_
            simp only [↓PX, SX, SYX, EY, simprocAttr, TYX, UX, hlR, hT4]
        · have em : min (tp (md s) a).length (nD s a b) = nD s a b := by unfold nD; omega
          show SV0 _ _ _ _ _
          refine sv0_run mixed (by trivial) 1000 ?_
          simp only [↓PX, SX, SYX, EY, simprocAttr, TYX, UX, em]
          repeat (first | refine DrawVC.intro (by kernel_rfl) ?_ | refine And.intro (by omega) ?_ | exact trivial)
          refine CallVC.intro (u_Trim s (tab (tp (md s) a).length (dRs s a b (nD s a b))) (tabW' (hRw _)) (by rw [tab_len]; omega)) ⟨rfl, (by simp only [argMatch, SX, SYX, EY, simprocAttr, and_self, List.length_append, List.length_map, List.length_set, TYX, UX, hlR, hT4]), trivial⟩ rfl rfl ?_
          simp only [↓PX, SX, SYX, EY, simprocAttr, TYX, UX, hlR, hT4]
      · have e1 : dvQ s a b = [] := by simp [dvQ, okD, h1]
        have e2 : dvR s a b = [] := by simp [dvR, okD, h1]
        have e3 : eDv s a b = 70 := by simp [eDv, hk, h0, h1]
        have d1 : decide ((1024 : Int) < ((tp (md s) a).length : Int)) = true := by simp; omega
        rw [e1, e2, e3]
        refine contract_of (N := _) (vars := _) (c := bodyOf Try.f34) Try.func34 (body_eq rfl) rfl rfl (by rfl) mixed _ _ trivial 1000 ?_
        simp only [bodyOf, Try.f34, Option.getD_some, argA, argE, List.length_cons, List.length_nil, Nat.reduceAdd, Nat.reduceSub, List.replicate, List.cons_append, List.nil_append]
        simp only [↓PX, SX, SYX, EY, simprocAttr, TYX, UX]
        refine CallVC.intro (u_known s) ⟨rfl, trivial⟩ rfl rfl ?_
        simp only [↓PX, SX, SYX, EY, simprocAttr, TYX, UX, he]
        repeat (first | refine DrawVC.intro (by kernel_rfl) ?_ | refine And.intro (by omega) ?_ | exact trivial)
        refine CallVC.intro (u_Trim s a ha hl) ⟨rfl, (by simp only [argMatch, SX, SYX, EY, simprocAttr, and_self, List.length_append, List.length_map, List.length_set, TYX, UX]), trivial⟩ rfl rfl ?_
        simp only [↓PX, SX, SYX, EY, simprocAttr, TYX, UX]
        refine CallVC.intro (u_Trim s b hb hl2) ⟨rfl, (by simp only [argMatch, SX, SYX, EY, simprocAttr, and_self, List.length_append, List.length_map, List.length_set, TYX, UX, d0, d1]), trivial⟩ rfl rfl ?_
        simp only [↓PX, SX, SYX, EY, simprocAttr, TYX, UX, d0, d1]
end Go.Sx
