/-
  Divide of the reference. No conditions.
-/
import Derived.Test.YtndmafefpiigoaaZPov
namespace Go.Sx
open Go.Proofs Go.Num
-- SY
-- TY: TYX, UX
set_option maxRecDepth 100000
set_option linter.unusedSimpArgs false
set_option pp.deepTerms true
set_option pp.maxSteps 100000
/-- The quotient so far, in a row as long as the dividend. -/
def dQ2 (m : Nat) (b : List Nat) (lead la : Nat) (f0 : Nat → Nat) (t i : Nat) : Nat := if i ≤ la - b.length then dQ m b lead la f0 t i else 0
theorem dQ2_0 {m : Nat} {b : List Nat} {lead la N : Nat} {f0 : Nat → Nat} : tab N (dQ2 m b lead la f0 0) = List.replicate N 0 := by
  rw [tab_rep]
  refine tab_congr fun i hi => ?_
  unfold dQ2 dQ
  split
  · rw [if_neg (by omega)]
  · rfl
theorem dQ2_step {m : Nat} {b : List Nat} {lead la N t : Nat} {f0 : Nat → Nat} (ht : t ≤ la - b.length) :
    (tab N (dQ2 m b lead la f0 t)).set (la - b.length - t) (dq m b lead la f0 t) = tab N (dQ2 m b lead la f0 (t + 1)) := by
  rw [tab_set]
  refine tab_congr fun i hi => ?_
  unfold dQ2 dQ
  by_cases h : i = la - b.length - t
  · subst h
    rw [if_pos rfl, if_pos (by omega), if_pos (by omega)]
    congr 1
    omega
  · rw [if_neg h]
    have : (la - b.length < i + (t + 1)) = (la - b.length < i + t) := by rw [eq_iff_iff]; omega
    simp [this]
theorem dQ2_at {m : Nat} {b : List Nat} {lead la t : Nat} {f0 : Nat → Nat} (ht : t ≤ la - b.length) : dQ2 m b lead la f0 (t + 1) (la - b.length - t) = dq m b lead la f0 t := by
  unfold dQ2 dQ
  rw [if_pos (by omega), if_pos (by omega)]
  congr 1
  omega
def dQs2 (s : Int) (a b : List Nat) : Nat → Nat → Nat := dQ2 (md s) (tp (md s) b) (ldD s b) (tp (md s) a).length (fun k => (tp (md s) a).getD k 0)
theorem dq_lt (s : Int) (b : List Nat) (lead la : Nat) (f0 : Nat → Nat) (t : Nat) : dq (md s) b lead la f0 t < md s := Nat.mod_lt _ (md_pos s)
theorem dQ_lt (s : Int) (b : List Nat) (lead la : Nat) (f0 : Nat → Nat) (t i : Nat) : dQ (md s) b lead la f0 t i < md s := by
  unfold dQ
  split
  · exact dq_lt _ _ _ _ _ _
  · exact md_pos s
theorem ldD_ne {s : Int} (P : PR (md s)) {b : List Nat} (h : (tp (md s) b).length ≠ 0) : ldD s b ≠ 0 := by
  intro h0
  have hB := nrm_tp (md_pos s) b
  have hne := hB.last.resolve_left (by intro e; rw [e] at h; exact h rfl)
  have hlt : (tp (md s) b).getD ((tp (md s) b).length - 1) 0 < md s := getD_lt hB.lt (by omega)
  have e : κ (md s) ((tp (md s) b).getD ((tp (md s) b).length - 1) 0) ≠ 0 := by
    rw [Ne, κ_eq0, Nat.mod_eq_of_lt hlt]; exact hne
  have h1 := congrArg (κ (md s)) h0
  unfold ldD at h1
  rw [κ_inv, κ_zero] at h1
  exact ι_ne P e h1
/-- The quotient of the reference, trimmed, is the other's. -/
theorem dQ_tp {s : Int} (P : PR (md s)) {a b : List Nat} (h : (tp (md s) b).length ≠ 0) : tp (md s) (tab (tp (md s) a).length (dQs2 s a b (nD s a b))) = tab (nD s a b) (dQs s a b (nD s a b)) := by
  have hA := nrm_tp (md_pos s) a
  have hz : ∀ i, nD s a b ≤ i → (tab (tp (md s) a).length (dQs2 s a b (nD s a b))).getD i 0 = 0 := by
    intro i hi
    by_cases h1 : i < (tp (md s) a).length
    · rw [tab_at h1]
      unfold dQs2 dQ2
      by_cases h2 : i ≤ (tp (md s) a).length - (tp (md s) b).length
      · have : nD s a b = 0 := by unfold nD at hi ⊢; omega
        rw [if_pos h2]
        unfold dQ
        rw [if_neg (by rw [this]; unfold nD at this; omega)]
      · rw [if_neg h2]
    · exact tab_out (by omega)
  have hl : (tp (md s) (tab (tp (md s) a).length (dQs2 s a b (nD s a b)))).length = nD s a b := by
    refine tp_len_eq (fun i hi => by rw [hz i hi, Nat.zero_mod]) ?_
    by_cases h0 : nD s a b = 0
    · exact .inl h0
    · refine .inr ?_
      have hn : nD s a b = (tp (md s) a).length - (tp (md s) b).length + 1 := by unfold nD at h0 ⊢; omega
      have hn' : (tp (md s) b).length ≤ (tp (md s) a).length := by unfold nD at h0; omega
      rw [tab_at (by omega)]
      unfold dQs2 dQ2 dQ
      rw [if_pos (by omega), if_pos (by omega), Nat.mod_eq_of_lt (dq_lt _ _ _ _ _ _), hn]
      have e : (tp (md s) a).length - (tp (md s) b).length - ((tp (md s) a).length - (tp (md s) b).length + 1 - 1) = 0 := by omega
      rw [e]
      unfold dq dR
      refine nzd P (getD_lt hA.lt (by omega)) (inv_lt _ _) ?_ (ldD_ne P h)
      exact hA.last.resolve_left (by intro e2; rw [e2] at hn'; simp at hn'; exact h (by rw [hn']; rfl))
  refine getD_ext (by rw [hl, tab_len]) fun i => ?_
  rw [tp_getD]
  by_cases hi : i < nD s a b
  · have hi' : i < (tp (md s) a).length := by unfold nD at hi; omega
    rw [tab_at hi', tab_at hi]
    unfold dQs2 dQ2
    rw [if_pos (by unfold nD at hi; omega)]
    exact Nat.mod_eq_of_lt (dQ_lt _ _ _ _ _ _ _)
  · rw [hz i (by omega), tab_out (by omega), Nat.zero_mod]
theorem v_Sub' (s : Int) (a b : Nat) (ha : a < W256) (hb : b < W256) : Contract Try.prog 84 [.val (.int .i64 s), .val (EN a), .val (EN b)] [.val (EN (sb (md s) a b))] := v_Sub s a b ha hb
theorem v_Over (s : Int) (P : PR (md s)) (a b : List Nat) (hk : kn s = true) (h0 : (tp (md s) b).length ≠ 0) (ha : ∀ x ∈ a, x < W256) (hb : ∀ x ∈ b, x < W256) (hl : a.length * 32 ≤ 140737488355328) (hl2 : b.length * 32 ≤ 140737488355328) :
    Contract Try.prog 78 [.val (.int .i64 s), .sl a.length 4 (LC eC a), .sl b.length 4 (LC eC b)] [.part (nD s a b) 4 (LC eC (tab (nD s a b) (dQs s a b (nD s a b)))), .part (tp (md s) (tab (tp (md s) a).length (dRs s a b (nD s a b)))).length 4 (LC eC (tp (md s) (tab (tp (md s) a).length (dRs s a b (nD s a b)))))] := by
  have hnA := nrm_tp (md_pos s) a
  have hnB := nrm_tp (md_pos s) b
  have hlA := tp_len (md s) a
  have hlB := tp_len (md s) b
  have w1 : IntKind.i64.wrap (((tp (md s) b).length : Int) - 1) = (((tp (md s) b).length - 1 : Nat) : Int) := wP (by omega) (by omega)
  have hbl : (tp (md s) b).getD ((tp (md s) b).length - 1) 0 < W256 := getD_lt hnB.w (by omega)
  refine contract_of (N := _) (vars := _) (c := bodyOf Try.f78) Try.func78 (body_eq rfl) rfl rfl (by rfl) mixed _ _ trivial 1000 ?_
  simp only [bodyOf, Try.f78, Option.getD_some, argA, argE, List.length_cons, List.length_nil, Nat.reduceAdd, Nat.reduceSub, List.replicate, List.cons_append, List.nil_append]
  simp only [↓PX, SX, SYX, EY, simprocAttr, TYX, UX]
  refine CallVC.intro (v_Trim s a ha hl) ⟨rfl, (by simp only [argMatch, SX, SYX, EY, simprocAttr, and_self, List.length_append, List.length_map, List.length_set, TYX, UX]), trivial⟩ rfl rfl ?_
  simp only [↓PX, SX, SYX, EY, simprocAttr, TYX, UX]
  refine CallVC.intro (v_Trim s b hb hl2) ⟨rfl, (by simp only [argMatch, SX, SYX, EY, simprocAttr, and_self, List.length_append, List.length_map, List.length_set, TYX, UX, w1]), trivial⟩ rfl rfl ?_
  simp only [↓PX, SX, SYX, EY, simprocAttr, TYX, UX, w1]
  repeat (first | refine DrawVC.intro (by kernel_rfl) ?_ | refine And.intro (by omega) ?_ | exact trivial)
  simp only [↓PX, SX, SYX, EY, simprocAttr, TYX, UX, w1, eL_ld (l := tp (md s) b) (j := (tp (md s) b).length - 1) (by omega)]
  refine CallVC.intro (v_Inv s _ hbl) ⟨rfl, rfl, trivial⟩ rfl rfl ?_
  simp only [↓PX, SX, SYX, EY, simprocAttr, TYX, UX]
  repeat (first | refine DrawVC.intro (by kernel_rfl) ?_ | refine And.intro (by omega) ?_ | exact trivial)
  refine loop_hav ?_
  simp only [↓PX, SX, SYX, EY, simprocAttr, TYX, UX]
  have w2 : IntKind.i64.wrap (((tp (md s) a).length : Int) - ((tp (md s) b).length : Int)) = ((tp (md s) a).length : Int) - ((tp (md s) b).length : Int) := wI (by omega) (by omega)
  have hRw : ∀ t k, dRs s a b t k < W256 := dR_w (fun k => by
    by_cases h : k < (tp (md s) a).length
    · exact getD_lt hnA.w h
    · rw [getD_out (by omega)]; decide)
  have hlR : ∀ t, (tab (tp (md s) a).length (dRs s a b t)).length = (tp (md s) a).length := fun _ => tab_len
  have hlQ : ∀ t, (tab (tp (md s) a).length (dQs2 s a b t)).length = (tp (md s) a).length := fun _ => tab_len
  have eR0 : tab (tp (md s) a).length (dRs s a b 0) = tp (md s) a := by
    unfold dRs dR
    exact tab_self.symm
  have eQ0 : List.replicate (tp (md s) a).length 0 = tab (tp (md s) a).length (dQs2 s a b 0) := dQ2_0.symm
  refine loop_go mixed (by trivial) (γ := Nat) (fun q => q ≤ nD s a b) (fun q => nD s a b - q) (fun q => [(12, .o (.v (.int .i64 (((tp (md s) a).length : Int) - ((tp (md s) b).length : Int) - q))))]) (fun q => [(59, .row 25 4 (tp (md s) a).length (LC eC (tab (tp (md s) a).length (dRs s a b q)))), (131, .row 25 4 (tp (md s) a).length (LC eC (tab (tp (md s) a).length (dQs2 s a b q))))]) 0 (by omega)
    (St.le_of id (by simp [-List.getD_eq_getElem?_getD, SYX, iv, Tle, AVle, A0le, Mem.get, eR0, eQ0, w2]) (by simp [-List.getD_eq_getElem?_getD, SYX, Mle, Ele, Hle, Tle, AVle, A0le, Mem.get, eR0, eQ0, w2]) (by simp [SYX]) (by simp [SYX])) ?_
  intro q hq
  simp only [↓PX, SX, SYX, EY, simprocAttr, TYX, UX]
  refine cond_split (fun h2 => ?_) (fun h2 => ?_)
  · have h2 := of_decide_eq_true h2
    have hq2 : q + (tp (md s) b).length ≤ (tp (md s) a).length := by omega
    have hqn : q < nD s a b := by unfold nD; omega
    have ei : ((tp (md s) a).length : Int) - ((tp (md s) b).length : Int) - q = (((tp (md s) a).length - (tp (md s) b).length - q : Nat) : Int) := by omega
    rw [ei]
    have hai : (tp (md s) a).length - 1 - q < (tab (tp (md s) a).length (dRs s a b q)).length := by rw [hlR]; omega
    have e4 := eL_ld hai
    rw [tab_at (by rw [hlR] at hai; exact hai)] at e4
    have w3 : IntKind.i64.wrap (IntKind.i64.wrap ((((tp (md s) a).length - (tp (md s) b).length - q : Nat) : Int) + ((tp (md s) b).length : Int)) - 1) = (((tp (md s) a).length - 1 - q : Nat) : Int) := by
      rw [wI (n := (((tp (md s) a).length - (tp (md s) b).length - q : Nat) : Int) + ((tp (md s) b).length : Int)) (by omega) (by omega), wI (by omega) (by omega)]; omega
    have hlow : (tp (md s) a).length - (tp (md s) b).length - q < (tab (tp (md s) a).length (dQs2 s a b q)).length := by rw [hlQ]; omega
    have hkW : dRs s a b q ((tp (md s) a).length - 1 - q) * ldD s b % md s < W256 := md_w s _
    have e5 := eL_st (v := dRs s a b q ((tp (md s) a).length - 1 - q) * ldD s b % md s) hlow
    have e6 : (tab (tp (md s) a).length (dQs2 s a b q)).set ((tp (md s) a).length - (tp (md s) b).length - q) (dRs s a b q ((tp (md s) a).length - 1 - q) * ldD s b % md s) = tab (tp (md s) a).length (dQs2 s a b (q + 1)) :=
      dQ2_step (by omega)
    rw [e6] at e5
    have hld : ldD s b < W256 := md_w2 (inv_lt _ _)
    have hlow' : (tp (md s) a).length - (tp (md s) b).length - q < (tab (tp (md s) a).length (dQs2 s a b (q + 1))).length := by rw [hlQ]; omega
    have e11 := eL_ld hlow'
    rw [tab_at (by omega), show dQs2 s a b (q + 1) ((tp (md s) a).length - (tp (md s) b).length - q) = dRs s a b q ((tp (md s) a).length - 1 - q) * ldD s b % md s from dQ2_at (by omega)] at e11
    simp only [↓PX, SX, SYX, EY, simprocAttr, TYX, UX, w3]
    repeat (first | refine DrawVC.intro (by kernel_rfl) ?_ | refine And.intro (by omega) ?_ | exact trivial)
    simp only [↓PX, SX, SYX, EY, simprocAttr, TYX, UX, e4, hlR]
    refine CallVC.intro (v_Mul s _ _ (hRw q ((tp (md s) a).length - 1 - q)) hld) ⟨rfl, rfl, rfl, trivial⟩ rfl rfl ?_
    simp only [↓PX, SX, SYX, EY, simprocAttr, TYX, UX, e5, hlQ]
    repeat (first | refine DrawVC.intro (by kernel_rfl) ?_ | refine And.intro (by omega) ?_ | exact trivial)
    refine loop_hav ?_
    simp only [↓PX, SX, SYX, EY, simprocAttr, TYX, UX]
    have hlI : ∀ j, (tab (tp (md s) a).length (dI (md s) (tp (md s) b) (dRs s a b q ((tp (md s) a).length - 1 - q) * ldD s b % md s) ((tp (md s) a).length - (tp (md s) b).length - q) (dRs s a b q) j)).length = (tp (md s) a).length := fun _ => tab_len
    refine loop_go mixed (by trivial) (γ := Nat) (fun j => j ≤ (tp (md s) b).length) (fun j => (tp (md s) b).length - j) (fun j => [(13, iv j)]) (fun j => [(59, .row 25 4 (tp (md s) a).length (LC eC (tab (tp (md s) a).length (dI (md s) (tp (md s) b) (dRs s a b q ((tp (md s) a).length - 1 - q) * ldD s b % md s) ((tp (md s) a).length - (tp (md s) b).length - q) (dRs s a b q) j))))]) 0 (by omega)
      (St.le_of id (by simp [-List.getD_eq_getElem?_getD, SYX, iv, Tle, AVle, A0le, Mem.get, dI_0]) (by simp [-List.getD_eq_getElem?_getD, SYX, Mle, Ele, Hle, Tle, AVle, A0le, Mem.get, dI_0]) (by simp [SYX]) (by simp [SYX])) ?_
    intro j hj
    simp only [↓PX, SX, SYX, EY, simprocAttr, TYX, UX]
    refine cond_split (fun h3 => ?_) (fun h3 => ?_)
    · have h3 : j < (tp (md s) b).length := by simpa using h3
      have hy := getD_lt hnB.w h3
      have hij : (tp (md s) a).length - (tp (md s) b).length - q + j < (tab (tp (md s) a).length (dI (md s) (tp (md s) b) (dRs s a b q ((tp (md s) a).length - 1 - q) * ldD s b % md s) ((tp (md s) a).length - (tp (md s) b).length - q) (dRs s a b q) j)).length := by rw [hlI]; omega
      have e7 : IntKind.i64.wrap ((((tp (md s) a).length - (tp (md s) b).length - q : Nat) : Int) + (j : Int)) = (((tp (md s) a).length - (tp (md s) b).length - q + j : Nat) : Int) := by rw [wI (by omega) (by omega)]; rfl
      have e8 := eL_ld hij
      rw [tab_at (by rw [hlI] at hij; exact hij)] at e8
      have e9 := eL_st (v := sb (md s) (dI (md s) (tp (md s) b) (dRs s a b q ((tp (md s) a).length - 1 - q) * ldD s b % md s) ((tp (md s) a).length - (tp (md s) b).length - q) (dRs s a b q) j ((tp (md s) a).length - (tp (md s) b).length - q + j)) (dRs s a b q ((tp (md s) a).length - 1 - q) * ldD s b % md s * (tp (md s) b).getD j 0 % md s)) hij
      rw [dI_step] at e9
      simp only [↓PX, SX, SYX, EY, simprocAttr, TYX, UX, eL_ld h3, e7, hlQ, hlI, e8, e11]
      repeat (first | refine DrawVC.intro (by kernel_rfl) ?_ | refine And.intro (by omega) ?_ | exact trivial)
      refine CallVC.intro (v_Mul s _ _ hkW hy) ⟨rfl, rfl, rfl, trivial⟩ rfl rfl ?_
      simp only [↓PX, SX, SYX, EY, simprocAttr, TYX, UX, hlI]
      refine CallVC.intro (v_Sub' s _ _ (dI_w (hRw q) _ _) (md_w s _)) ⟨rfl, rfl, rfl, trivial⟩ rfl rfl ?_
      simp only [↓PX, SX, SYX, EY, simprocAttr, TYX, UX, hlI, e9, wS (j := j) (by omega)]
      repeat (first | refine DrawVC.intro (by kernel_rfl) ?_ | refine And.intro (by omega) ?_ | exact trivial)
      exact ⟨j + 1, by omega, by omega, (St.le_of id (by simp [-List.getD_eq_getElem?_getD, SYX, iv, Tle, AVle, A0le, Mem.get]) (by simp [-List.getD_eq_getElem?_getD, SYX, Mle, Ele, Hle, Tle, AVle, A0le, Mem.get]) (by simp [SYX]) (by simp [SYX]))⟩
    · have h3 : j = (tp (md s) b).length := by
        have : (tp (md s) b).length ≤ j := by simpa using h3
        omega
      subst h3
      have e10 : dI (md s) (tp (md s) b) (dRs s a b q ((tp (md s) a).length - 1 - q) * ldD s b % md s) ((tp (md s) a).length - (tp (md s) b).length - q) (dRs s a b q) (tp (md s) b).length = dRs s a b (q + 1) := dI_full
      have e12 : IntKind.i64.wrap ((((tp (md s) a).length - (tp (md s) b).length - q : Nat) : Int) - 1) = ((tp (md s) a).length : Int) - ((tp (md s) b).length : Int) - ((q + 1 : Nat) : Int) := by rw [wI (by omega) (by omega)]; omega
      rw [e10]
      simp only [↓PX, SX, SYX, EY, simprocAttr, TYX, UX, e12]
      exact ⟨q + 1, by omega, by omega, (St.le_of id (by simp [-List.getD_eq_getElem?_getD, SYX, iv, Tle, AVle, A0le, Mem.get]) (by simp [-List.getD_eq_getElem?_getD, SYX, Mle, Ele, Hle, Tle, AVle, A0le, Mem.get]) (by simp [SYX]) (by simp [SYX]))⟩
  · have h2 := of_decide_eq_false h2
    have hqn : q = nD s a b := by unfold nD at hq ⊢; omega
    subst hqn
    have hT1 := dQ_tp P (a := a) h0
    have c1 := v_Trim s (tab (tp (md s) a).length (dQs2 s a b (nD s a b))) (tabW' fun i => ?hw) (by rw [tab_len]; omega)
    rw [hT1, tab_len, tab_len] at c1
    have c2 := v_Trim s (tab (tp (md s) a).length (dRs s a b (nD s a b))) (tabW' (hRw _)) (by rw [tab_len]; omega)
    rw [tab_len] at c2
    · simp only [↓PX, SX, SYX, EY, simprocAttr, TYX, UX]
      refine CallVC.intro (c1) ⟨rfl, (by simp only [argMatch, SX, SYX, EY, simprocAttr, and_self, List.length_append, List.length_map, List.length_set, TYX, UX, hlQ]), trivial⟩ rfl rfl ?_
      simp only [↓PX, SX, SYX, EY, simprocAttr, TYX, UX, hlQ]
      have hlN : (tab (nD s a b) (dQs s a b (nD s a b))).length = nD s a b := tab_len
      have hTN : List.take (nD s a b * 4) (LC eC (tab (nD s a b) (dQs s a b (nD s a b)))) = LC eC (tab (nD s a b) (dQs s a b (nD s a b))) := List.take_of_length_le (by rw [LC_len eC_len, hlN]; omega)
      refine CallVC.intro (c2) ⟨rfl, (by simp only [argMatch, SX, SYX, EY, simprocAttr, and_self, List.length_append, List.length_map, List.length_set, TYX, UX, hlR, hlN, hTN]), trivial⟩ rfl rfl ?_
      simp only [↓PX, SX, SYX, EY, simprocAttr, TYX, UX, hlR, hlN, hTN]
    · unfold dQs2 dQ2
      split
      · exact md_w2 (dQ_lt _ _ _ _ _ _ _)
      · decide
theorem pr_of {s : Int} (hk : kn s = true) : PR (md s) := by
  cases srt s with
  | yes _ _ _ _ _ _ _ P => exact P
  | no h => rw [hk] at h; cases h
theorem v_Divide (s : Int) (a b : List Nat) (ha : ∀ x ∈ a, x < W256) (hb : ∀ x ∈ b, x < W256) (hl : a.length * 32 ≤ 140737488355328) (hl2 : b.length * 32 ≤ 140737488355328) :
    Contract Try.prog 35 [.val (.int .i64 s), .sl a.length 4 (LC eC a), .sl b.length 4 (LC eC b)] [.part (dvQ s a b).length 4 (LC eC (dvQ s a b)), .part (dvR s a b).length 4 (LC eC (dvR s a b)), .val (.int .i64 (eDv s a b))] := by
  cases hk : kn s with
  | false =>
    have e1 : dvQ s a b = [] := by simp [dvQ, okD, hk]
    have e2 : dvR s a b = [] := by simp [dvR, okD, hk]
    have e3 : eDv s a b = 20 := by simp [eDv, hk]
    rw [e1, e2, e3]
    refine contract_of (N := _) (vars := _) (c := bodyOf Try.f35) Try.func35 (body_eq rfl) rfl rfl (by rfl) mixed _ _ trivial 1000 ?_
    simp only [bodyOf, Try.f35, Option.getD_some, argA, argE, List.length_cons, List.length_nil, Nat.reduceAdd, Nat.reduceSub, List.replicate, List.cons_append, List.nil_append]
    simp only [↓PX, SX, SYX, EY, simprocAttr, TYX, UX]
    refine CallVC.intro (v_known s) ⟨rfl, trivial⟩ rfl rfl ?_
    simp only [↓PX, SX, SYX, EY, simprocAttr, TYX, UX, hk]
  | true =>
    have P : PR (md s) := pr_of hk
    by_cases h0 : (tp (md s) b).length = 0
    · have e1 : dvQ s a b = [] := by simp [dvQ, okD, h0]
      have e2 : dvR s a b = [] := by simp [dvR, okD, h0]
      have e3 : eDv s a b = 10 := by simp [eDv, hk, h0]
      have d0 : (((tp (md s) b).length : Int) == 0) = true := by simp [h0]
      rw [e1, e2, e3]
      refine contract_of (N := _) (vars := _) (c := bodyOf Try.f35) Try.func35 (body_eq rfl) rfl rfl (by rfl) mixed _ _ trivial 1000 ?_
      simp only [bodyOf, Try.f35, Option.getD_some, argA, argE, List.length_cons, List.length_nil, Nat.reduceAdd, Nat.reduceSub, List.replicate, List.cons_append, List.nil_append]
      simp only [↓PX, SX, SYX, EY, simprocAttr, TYX, UX]
      refine CallVC.intro (v_known s) ⟨rfl, trivial⟩ rfl rfl ?_
      simp only [↓PX, SX, SYX, EY, simprocAttr, TYX, UX, hk]
      refine CallVC.intro (v_Trim s b hb hl2) ⟨rfl, (by simp only [argMatch, SX, SYX, EY, simprocAttr, and_self, List.length_append, List.length_map, List.length_set, TYX, UX, d0]), trivial⟩ rfl rfl ?_
      simp only [↓PX, SX, SYX, EY, simprocAttr, TYX, UX, d0]
    · have d0 : (((tp (md s) b).length : Int) == 0) = false := by simp [h0]
      by_cases h1 : (tp (md s) a).length ≤ 1024
      · have d1 : decide ((1024 : Int) < ((tp (md s) a).length : Int)) = false := by simp; omega
        have eQ : dvQ s a b = tab (nD s a b) (dQs s a b (nD s a b)) := by simp [dvQ, okD, hk, h0, h1]
        have eR : dvR s a b = tp (md s) (tab (tp (md s) a).length (dRs s a b (nD s a b))) := by simp [dvR, okD, hk, h0, h1]
        have eE : eDv s a b = 0 := by simp [eDv, hk, h0, h1]
        rw [eQ, eR, eE, tab_len]
        refine contract_of (N := _) (vars := _) (c := bodyOf Try.f35) Try.func35 (body_eq rfl) rfl rfl (by rfl) mixed _ _ trivial 1000 ?_
        simp only [bodyOf, Try.f35, Option.getD_some, argA, argE, List.length_cons, List.length_nil, Nat.reduceAdd, Nat.reduceSub, List.replicate, List.cons_append, List.nil_append]
        simp only [↓PX, SX, SYX, EY, simprocAttr, TYX, UX]
        refine CallVC.intro (v_known s) ⟨rfl, trivial⟩ rfl rfl ?_
        simp only [↓PX, SX, SYX, EY, simprocAttr, TYX, UX, hk]
        refine CallVC.intro (v_Trim s b hb hl2) ⟨rfl, (by simp only [argMatch, SX, SYX, EY, simprocAttr, and_self, List.length_append, List.length_map, List.length_set, TYX, UX, d0]), trivial⟩ rfl rfl ?_
        simp only [↓PX, SX, SYX, EY, simprocAttr, TYX, UX, d0]
        refine CallVC.intro (v_Trim s a ha hl) ⟨rfl, (by simp only [argMatch, SX, SYX, EY, simprocAttr, and_self, List.length_append, List.length_map, List.length_set, TYX, UX, d1]), trivial⟩ rfl rfl ?_
        simp only [↓PX, SX, SYX, EY, simprocAttr, TYX, UX, d1]
        have hlN : (tab (nD s a b) (dQs s a b (nD s a b))).length = nD s a b := tab_len
        have hTN : List.take (nD s a b * 4) (LC eC (tab (nD s a b) (dQs s a b (nD s a b)))) = LC eC (tab (nD s a b) (dQs s a b (nD s a b))) := List.take_of_length_le (by rw [LC_len eC_len, hlN]; omega)
        refine CallVC.intro (v_Over s P a b hk h0 ha hb hl hl2) ⟨rfl, (by simp only [argMatch, SX, SYX, EY, simprocAttr, and_self, List.length_append, List.length_map, List.length_set, TYX, UX, hlN, hTN]), (by simp only [argMatch, SX, SYX, EY, simprocAttr, and_self, List.length_append, List.length_map, List.length_set, TYX, UX, hlN, hTN]), trivial⟩ rfl rfl ?_
        simp only [↓PX, SX, SYX, EY, simprocAttr, TYX, UX, hlN, hTN]
      · have e1 : dvQ s a b = [] := by simp [dvQ, okD, h1]
        have e2 : dvR s a b = [] := by simp [dvR, okD, h1]
        have e3 : eDv s a b = 70 := by simp [eDv, hk, h0, h1]
        have d1 : decide ((1024 : Int) < ((tp (md s) a).length : Int)) = true := by simp; omega
        rw [e1, e2, e3]
        refine contract_of (N := _) (vars := _) (c := bodyOf Try.f35) Try.func35 (body_eq rfl) rfl rfl (by rfl) mixed _ _ trivial 1000 ?_
        simp only [bodyOf, Try.f35, Option.getD_some, argA, argE, List.length_cons, List.length_nil, Nat.reduceAdd, Nat.reduceSub, List.replicate, List.cons_append, List.nil_append]
        simp only [↓PX, SX, SYX, EY, simprocAttr, TYX, UX]
        refine CallVC.intro (v_known s) ⟨rfl, trivial⟩ rfl rfl ?_
        simp only [↓PX, SX, SYX, EY, simprocAttr, TYX, UX, hk]
        refine CallVC.intro (v_Trim s b hb hl2) ⟨rfl, (by simp only [argMatch, SX, SYX, EY, simprocAttr, and_self, List.length_append, List.length_map, List.length_set, TYX, UX, d0]), trivial⟩ rfl rfl ?_
        simp only [↓PX, SX, SYX, EY, simprocAttr, TYX, UX, d0]
        refine CallVC.intro (v_Trim s a ha hl) ⟨rfl, (by simp only [argMatch, SX, SYX, EY, simprocAttr, and_self, List.length_append, List.length_map, List.length_set, TYX, UX, d1]), trivial⟩ rfl rfl ?_
        simp only [↓PX, SX, SYX, EY, simprocAttr, TYX, UX, d1]
end Go.Sx
