/-
  Products, of poly and of the reference. No conditions.
-/
import Derived.Test.YtndmafefpiigoaaZPolyA
namespace Go.Sx
open Go.Proofs Go.Num
-- SY
-- TY: TYX, UX
set_option maxRecDepth 100000
set_option linter.unusedSimpArgs false
set_option pp.deepTerms true
set_option pp.maxSteps 100000
/-- A product's coefficient, of the first n of a. -/
def cS (a b : List Nat) : Nat → Nat → Nat
  | 0, _ => 0
  | n + 1, k => cS a b n k + (if n ≤ k then a.getD n 0 * b.getD (k - n) 0 else 0)
def pMul (a b : List Nat) : List Nat := tab (a.length + b.length) (cS a b a.length)
/-- What the loops have made when i rows and j columns are through. -/
def cv (m : Nat) (a b : List Nat) (i j k : Nat) : Nat := (cS a b i k + (if i ≤ k ∧ k < i + j then a.getD i 0 * b.getD (k - i) 0 else 0)) % m
theorem cS_out {a b : List Nat} : ∀ {n k : Nat}, n + b.length ≤ k + 1 → b.length ≠ 0 → cS a b n k = 0
  | 0, _, _, _ => rfl
  | n + 1, k, h, h0 => by
    rw [cS, cS_out (n := n) (by omega) h0, if_pos (by omega), getD_out (l := b) (i := k - n) (by omega), Nat.mul_zero]
theorem cS_nil {a : List Nat} : ∀ {n k : Nat}, cS a [] n k = 0
  | 0, _ => rfl
  | n + 1, k => by rw [cS, cS_nil]; simp
theorem cv_0 (m : Nat) (a b : List Nat) (k : Nat) : cv m a b 0 0 k = 0 := by simp [cv, cS]
theorem cv_next {m : Nat} {a b : List Nat} {i : Nat} : cv m a b i b.length = cv m a b (i + 1) 0 := by
  funext k
  unfold cv
  have h2 : ¬ (i + 1 ≤ k ∧ k < i + 1 + 0) := by omega
  rw [if_neg h2, cS]
  by_cases h : i ≤ k
  · by_cases h1 : k < i + b.length
    · rw [if_pos ⟨h, h1⟩, if_pos h, Nat.add_zero]
    · rw [if_neg (by omega), if_pos h, getD_out (l := b) (by omega), Nat.mul_zero]
  · rw [if_neg (by omega), if_neg h]
theorem cv_lt (s : Int) (a b : List Nat) (i j k : Nat) : cv (md s) a b i j k < W256 := md_w s _
theorem cv_step {m : Nat} {a b : List Nat} {i j N : Nat} (h : i + j < N) : (tab N (cv m a b i j)).set (i + j) ((cv m a b i j (i + j) + a.getD i 0 * b.getD j 0 % m) % m) = tab N (cv m a b i (j + 1)) := by
  rw [tab_set]
  refine tab_congr fun k _ => ?_
  by_cases hk : k = i + j
  · subst hk
    rw [if_pos rfl]
    unfold cv
    rw [if_neg (by omega), if_pos (by omega), Nat.add_sub_cancel_left, Nat.add_zero, ← Nat.add_mod]
  · rw [if_neg hk]
    unfold cv
    have : (i ≤ k ∧ k < i + (j + 1)) = (i ≤ k ∧ k < i + j) := by rw [eq_iff_iff]; omega
    simp [this]
def mulR (m : Nat) (a b : List Nat) : List Nat := if a.length = 0 ∨ b.length = 0 then [] else tab (a.length + b.length - 1) (cv m a b a.length 0)
theorem u_multiply (s : Int) (a b : List Nat) (ha : ∀ x ∈ a, x < W256) (hb : ∀ x ∈ b, x < W256) (hl : (a.length + b.length) * 32 ≤ 140737488355328) :
    Contract Try.prog 74 [.val (.int .i64 s), .sl a.length 4 (LC eC a), .sl b.length 4 (LC eC b)] [.row 25 4 (mulR (md s) a b).length (LC eC (mulR (md s) a b))] := by
  by_cases h0 : a.length = 0
  · have d0 : ((a.length : Int) == 0) = true := by simp [h0]
    have e0 : mulR (md s) a b = [] := by simp [mulR, h0]
    rw [e0]
    refine contract_of (N := _) (vars := _) (c := bodyOf Try.f74) Try.func74 (body_eq rfl) rfl rfl (by rfl) mixed _ _ trivial 1000 ?_
    simp only [bodyOf, Try.f74, Option.getD_some, argA, argE, List.length_cons, List.length_nil, Nat.reduceAdd, Nat.reduceSub, List.replicate, List.cons_append, List.nil_append]
    simp only [↓PX, SX, SYX, EY, simprocAttr, TYX, UX]
    simp only [↓PX, SX, SYX, EY, simprocAttr, TYX, UX, d0]
  · have d0 : ((a.length : Int) == 0) = false := by simp [h0]
    by_cases h1 : b.length = 0
    · have d1 : ((b.length : Int) == 0) = true := by simp [h1]
      have e0 : mulR (md s) a b = [] := by simp [mulR, h1]
      rw [e0]
      refine contract_of (N := _) (vars := _) (c := bodyOf Try.f74) Try.func74 (body_eq rfl) rfl rfl (by rfl) mixed _ _ trivial 1000 ?_
      simp only [bodyOf, Try.f74, Option.getD_some, argA, argE, List.length_cons, List.length_nil, Nat.reduceAdd, Nat.reduceSub, List.replicate, List.cons_append, List.nil_append]
      simp only [↓PX, SX, SYX, EY, simprocAttr, TYX, UX]
      simp only [↓PX, SX, SYX, EY, simprocAttr, TYX, UX, d0, d1]
    · have d1 : ((b.length : Int) == 0) = false := by simp [h1]
      have e0 : mulR (md s) a b = tab (a.length + b.length - 1) (cv (md s) a b a.length 0) := by simp [mulR, h0, h1]
      have e1 : IntKind.i64.wrap (IntKind.i64.wrap ((a.length : Int) + (b.length : Int)) - 1) = ((a.length + b.length - 1 : Nat) : Int) := by
        rw [wI (n := (a.length : Int) + (b.length : Int)) (by omega) (by omega), wI (by omega) (by omega)]; omega
      rw [e0, tab_len]
      refine contract_of (N := _) (vars := _) (c := bodyOf Try.f74) Try.func74 (body_eq rfl) rfl rfl (by rfl) mixed _ _ trivial 1000 ?_
      simp only [bodyOf, Try.f74, Option.getD_some, argA, argE, List.length_cons, List.length_nil, Nat.reduceAdd, Nat.reduceSub, List.replicate, List.cons_append, List.nil_append]
      simp only [↓PX, SX, SYX, EY, simprocAttr, TYX, UX]
      simp only [↓PX, SX, SYX, EY, simprocAttr, TYX, UX, d0, d1, e1]
      repeat (first | refine DrawVC.intro (by kernel_rfl) ?_ | refine And.intro (by omega) ?_ | exact trivial)
      refine loop_hav ?_
      simp only [↓PX, SX, SYX, EY, simprocAttr, TYX, UX]
      have hN : ∀ i j, (tab (a.length + b.length - 1) (cv (md s) a b i j)).length = a.length + b.length - 1 := fun _ _ => tab_len
      have e2 : List.replicate (a.length + b.length - 1) 0 = tab (a.length + b.length - 1) (cv (md s) a b 0 0) := by
        rw [tab_rep]; exact tab_congr fun k _ => (cv_0 _ _ _ _).symm
      refine loop_go mixed (by trivial) (γ := Nat) (fun i => i ≤ a.length) (fun i => a.length - i) (fun i => [(29, iv i)]) (fun i => [(63, .row 25 4 (a.length + b.length - 1) (LC eC (tab (a.length + b.length - 1) (cv (md s) a b i 0))))]) 0 (by omega)
        (St.le_of id (by simp [-List.getD_eq_getElem?_getD, SYX, iv, Tle, AVle, A0le, Mem.get, e2]) (by simp [-List.getD_eq_getElem?_getD, SYX, Mle, Ele, Hle, Tle, AVle, A0le, Mem.get, e2]) (by simp [SYX]) (by simp [SYX])) ?_
      intro i hi
      simp only [↓PX, SX, SYX, EY, simprocAttr, TYX, UX]
      refine cond_split (fun h2 => ?_) (fun h2 => ?_)
      · have h2 : i < a.length := by simpa using h2
        have hx := getD_lt ha h2
        simp only [↓PX, SX, SYX, EY, simprocAttr, TYX, UX, eL_ld h2]
        repeat (first | refine DrawVC.intro (by kernel_rfl) ?_ | refine And.intro (by omega) ?_ | exact trivial)
        refine loop_hav ?_
        simp only [↓PX, SX, SYX, EY, simprocAttr, TYX, UX]
        refine loop_go mixed (by trivial) (γ := Nat) (fun j => j ≤ b.length) (fun j => b.length - j) (fun j => [(36, iv j)]) (fun j => [(63, .row 25 4 (a.length + b.length - 1) (LC eC (tab (a.length + b.length - 1) (cv (md s) a b i j))))]) 0 (by omega)
          (St.le_of id (by simp [-List.getD_eq_getElem?_getD, SYX, iv, Tle, AVle, A0le, Mem.get]) (by simp [-List.getD_eq_getElem?_getD, SYX, Mle, Ele, Hle, Tle, AVle, A0le, Mem.get]) (by simp [SYX]) (by simp [SYX])) ?_
        intro j hj
        simp only [↓PX, SX, SYX, EY, simprocAttr, TYX, UX]
        refine cond_split (fun h3 => ?_) (fun h3 => ?_)
        · have h3 : j < b.length := by simpa using h3
          have hy := getD_lt hb h3
          have hij : i + j < (tab (a.length + b.length - 1) (cv (md s) a b i j)).length := by rw [hN]; omega
          have e3 : IntKind.i64.wrap ((i : Int) + (j : Int)) = ((i + j : Nat) : Int) := by rw [wI (by omega) (by omega)]; rfl
          have e4 := eL_ld hij
          rw [tab_at (by rw [hN] at hij; exact hij)] at e4
          have e5 := eL_st (v := (cv (md s) a b i j (i + j) + a.getD i 0 * b.getD j 0 % md s) % md s) hij
          rw [cv_step (by rw [hN] at hij; exact hij)] at e5
          simp only [↓PX, SX, SYX, EY, simprocAttr, TYX, UX, eL_ld h3, e3]
          repeat (first | refine DrawVC.intro (by kernel_rfl) ?_ | refine And.intro (by omega) ?_ | exact trivial)
          simp only [↓PX, SX, SYX, EY, simprocAttr, TYX, UX, e4, hN]
          refine CallVC.intro (u_Mul s _ _ hx hy) ⟨rfl, rfl, rfl, trivial⟩ rfl rfl ?_
          simp only [↓PX, SX, SYX, EY, simprocAttr, TYX, UX, hN]
          refine CallVC.intro (u_Add s _ _ (cv_lt s a b i j (i + j)) (md_w s _)) ⟨rfl, rfl, rfl, trivial⟩ rfl rfl ?_
          simp only [↓PX, SX, SYX, EY, simprocAttr, TYX, UX, hN, e5, wS (j := j) (by omega)]
          repeat (first | refine DrawVC.intro (by kernel_rfl) ?_ | refine And.intro (by omega) ?_ | exact trivial)
          exact ⟨j + 1, by omega, by omega, (St.le_of id (by simp [-List.getD_eq_getElem?_getD, SYX, iv, Tle, AVle, A0le, Mem.get]) (by simp [-List.getD_eq_getElem?_getD, SYX, Mle, Ele, Hle, Tle, AVle, A0le, Mem.get]) (by simp [SYX]) (by simp [SYX]))⟩
        · have h3 : j = b.length := by
            have : b.length ≤ j := by simpa using h3
            omega
          subst h3
          simp only [↓PX, SX, SYX, EY, simprocAttr, TYX, UX, wS (j := i) (by omega)]
          exact ⟨i + 1, by omega, by omega, (St.le_of id (by simp [-List.getD_eq_getElem?_getD, SYX, iv, Tle, AVle, A0le, Mem.get, cv_next]) (by simp [-List.getD_eq_getElem?_getD, SYX, Mle, Ele, Hle, Tle, AVle, A0le, Mem.get, cv_next]) (by simp [SYX]) (by simp [SYX]))⟩
      · have h2 : i = a.length := by
          have : a.length ≤ i := by simpa using h2
          omega
        subst h2
        simp only [↓PX, SX, SYX, EY, simprocAttr, TYX, UX]
theorem pMul_len (a b : List Nat) : (pMul a b).length = a.length + b.length := tab_len
theorem pMul_getD (a b : List Nat) (k : Nat) : (pMul a b).getD k 0 = cS a b a.length k := by
  unfold pMul
  by_cases h : k < a.length + b.length
  · rw [tab_at h]
  · rw [tab_out (by omega)]
    by_cases h0 : b.length = 0
    · rw [List.eq_nil_of_length_eq_zero h0, cS_nil]
    · rw [cS_out (by omega) h0]
theorem v_Times (s : Int) (a b : List Nat) (ha : ∀ x ∈ a, x < W256) (hb : ∀ x ∈ b, x < W256) (hl : (a.length + b.length) * 32 ≤ 140737488355328) :
    Contract Try.prog 75 [.val (.int .i64 s), .sl a.length 4 (LC eC a), .sl b.length 4 (LC eC b)] [.part (tp (md s) (pMul a b)).length 4 (LC eC (tp (md s) (pMul a b)))] := by
  have e1 : IntKind.i64.wrap ((a.length : Int) + (b.length : Int)) = ((a.length + b.length : Nat) : Int) := by
    rw [wI (by omega) (by omega)]; rfl
  refine contract_of (N := _) (vars := _) (c := bodyOf Try.f75) Try.func75 (body_eq rfl) rfl rfl (by rfl) mixed _ _ trivial 1000 ?_
  simp only [bodyOf, Try.f75, Option.getD_some, argA, argE, List.length_cons, List.length_nil, Nat.reduceAdd, Nat.reduceSub, List.replicate, List.cons_append, List.nil_append]
  simp only [↓PX, SX, SYX, EY, simprocAttr, TYX, UX]
  simp only [↓PX, SX, SYX, EY, simprocAttr, TYX, UX, e1]
  repeat (first | refine DrawVC.intro (by kernel_rfl) ?_ | refine And.intro (by omega) ?_ | exact trivial)
  refine loop_hav ?_
  simp only [↓PX, SX, SYX, EY, simprocAttr, TYX, UX]
  have hN : ∀ i j, (tab (a.length + b.length) (cv (md s) a b i j)).length = a.length + b.length := fun _ _ => tab_len
  have e2 : List.replicate (a.length + b.length) 0 = tab (a.length + b.length) (cv (md s) a b 0 0) := by
    rw [tab_rep]; exact tab_congr fun k _ => (cv_0 _ _ _ _).symm
  refine loop_go mixed (by trivial) (γ := Nat) (fun i => i ≤ a.length) (fun i => a.length - i) (fun i => [(8, iv i)]) (fun i => [(27, .row 25 4 (a.length + b.length) (LC eC (tab (a.length + b.length) (cv (md s) a b i 0))))]) 0 (by omega)
    (St.le_of id (by simp [-List.getD_eq_getElem?_getD, SYX, iv, Tle, AVle, A0le, Mem.get, e2]) (by simp [-List.getD_eq_getElem?_getD, SYX, Mle, Ele, Hle, Tle, AVle, A0le, Mem.get, e2]) (by simp [SYX]) (by simp [SYX])) ?_
  intro i hi
  simp only [↓PX, SX, SYX, EY, simprocAttr, TYX, UX]
  refine cond_split (fun h2 => ?_) (fun h2 => ?_)
  · have h2 : i < a.length := by simpa using h2
    have hx := getD_lt ha h2
    simp only [↓PX, SX, SYX, EY, simprocAttr, TYX, UX]
    refine loop_hav ?_
    simp only [↓PX, SX, SYX, EY, simprocAttr, TYX, UX]
    refine loop_go mixed (by trivial) (γ := Nat) (fun j => j ≤ b.length) (fun j => b.length - j) (fun j => [(9, iv j)]) (fun j => [(27, .row 25 4 (a.length + b.length) (LC eC (tab (a.length + b.length) (cv (md s) a b i j))))]) 0 (by omega)
      (St.le_of id (by simp [-List.getD_eq_getElem?_getD, SYX, iv, Tle, AVle, A0le, Mem.get]) (by simp [-List.getD_eq_getElem?_getD, SYX, Mle, Ele, Hle, Tle, AVle, A0le, Mem.get]) (by simp [SYX]) (by simp [SYX])) ?_
    intro j hj
    simp only [↓PX, SX, SYX, EY, simprocAttr, TYX, UX]
    refine cond_split (fun h3 => ?_) (fun h3 => ?_)
    · have h3 : j < b.length := by simpa using h3
      have hy := getD_lt hb h3
      have hij : i + j < (tab (a.length + b.length) (cv (md s) a b i j)).length := by rw [hN]; omega
      have e3 : IntKind.i64.wrap ((i : Int) + (j : Int)) = ((i + j : Nat) : Int) := by rw [wI (by omega) (by omega)]; rfl
      have e4 := eL_ld hij
      rw [tab_at (by rw [hN] at hij; exact hij)] at e4
      have e5 := eL_st (v := (cv (md s) a b i j (i + j) + a.getD i 0 * b.getD j 0 % md s) % md s) hij
      rw [cv_step (by rw [hN] at hij; exact hij)] at e5
      simp only [↓PX, SX, SYX, EY, simprocAttr, TYX, UX, eL_ld h2, eL_ld h3, e3, e4, hN]
      repeat (first | refine DrawVC.intro (by kernel_rfl) ?_ | refine And.intro (by omega) ?_ | exact trivial)
      refine CallVC.intro (v_Mul s _ _ hx hy) ⟨rfl, rfl, rfl, trivial⟩ rfl rfl ?_
      simp only [↓PX, SX, SYX, EY, simprocAttr, TYX, UX, hN]
      refine CallVC.intro (v_Add s _ _ (cv_lt s a b i j (i + j)) (md_w s _)) ⟨rfl, rfl, rfl, trivial⟩ rfl rfl ?_
      simp only [↓PX, SX, SYX, EY, simprocAttr, TYX, UX, hN, e5, wS (j := j) (by omega)]
      repeat (first | refine DrawVC.intro (by kernel_rfl) ?_ | refine And.intro (by omega) ?_ | exact trivial)
      exact ⟨j + 1, by omega, by omega, (St.le_of id (by simp [-List.getD_eq_getElem?_getD, SYX, iv, Tle, AVle, A0le, Mem.get]) (by simp [-List.getD_eq_getElem?_getD, SYX, Mle, Ele, Hle, Tle, AVle, A0le, Mem.get]) (by simp [SYX]) (by simp [SYX]))⟩
    · have h3 : j = b.length := by
        have : b.length ≤ j := by simpa using h3
        omega
      subst h3
      simp only [↓PX, SX, SYX, EY, simprocAttr, TYX, UX, wS (j := i) (by omega)]
      exact ⟨i + 1, by omega, by omega, (St.le_of id (by simp [-List.getD_eq_getElem?_getD, SYX, iv, Tle, AVle, A0le, Mem.get, cv_next]) (by simp [-List.getD_eq_getElem?_getD, SYX, Mle, Ele, Hle, Tle, AVle, A0le, Mem.get, cv_next]) (by simp [SYX]) (by simp [SYX]))⟩
  · have h2 : i = a.length := by
      have : a.length ≤ i := by simpa using h2
      omega
    subst h2
    have hlen := hN a.length 0
    have hc := v_Trim s (tab (a.length + b.length) (cv (md s) a b a.length 0)) (tabW' (cv_lt s a b a.length 0)) (by rw [hlen]; exact hl)
    rw [show tp (md s) (tab (a.length + b.length) (cv (md s) a b a.length 0)) = tp (md s) (pMul a b) from tp_congr fun k => ?_, hlen] at hc
    · simp only [↓PX, SX, SYX, EY, simprocAttr, TYX, UX]
      refine CallVC.intro (hc) ⟨rfl, (by simp only [argMatch, SX, SYX, EY, simprocAttr, and_self, List.length_append, List.length_map, List.length_set, TYX, UX, hlen]), trivial⟩ rfl rfl ?_
      simp only [↓PX, SX, SYX, EY, simprocAttr, TYX, UX, hlen]
    · unfold pMul
      by_cases h : k < a.length + b.length
      · rw [tab_at h, tab_at h]
        unfold cv
        rw [if_neg (by omega), Nat.add_zero, Nat.mod_mod]
      · rw [tab_out (by omega), tab_out (by omega)]
/-! ### what is trimmed already -/
/-- A polynomial over m. -/
structure Nrm (m : Nat) (l : List Nat) : Prop where
  lt : ∀ x ∈ l, x < m
  last : l = [] ∨ l.getD (l.length - 1) 0 ≠ 0
theorem Nrm.tp {m : Nat} {l : List Nat} (h : Nrm m l) : tp m l = l := tp_norm h.lt h.last
theorem nrm_tp {m : Nat} (hm : 0 < m) (l : List Nat) : Nrm m (Sx.tp m l) := by
  refine ⟨tp_lt hm l, ?_⟩
  by_cases h : Sx.tp m l = []
  · exact .inl h
  · refine .inr ?_
    rw [tp_getD]
    exact tp_last h
theorem Nrm.w {s : Int} {l : List Nat} (h : Nrm (md s) l) : ∀ x ∈ l, x < W256 := fun x hx => md_w2 (h.lt x hx)
theorem cS_top {a b : List Nat} (ha : a.length ≠ 0) (hb : b.length ≠ 0) : cS a b a.length (a.length + b.length - 2) = a.getD (a.length - 1) 0 * b.getD (b.length - 1) 0 := by
  obtain ⟨n, hn⟩ : ∃ n, a.length = n + 1 := ⟨a.length - 1, by omega⟩
  rw [hn, cS, cS_out (by omega) hb, if_pos (by omega)]
  have e1 : n + 1 + b.length - 2 - n = b.length - 1 := by omega
  rw [e1]; simp
theorem nzd {s : Int} (P : PR (md s)) {x y : Nat} (hx : x < md s) (hy : y < md s) (h : x ≠ 0) (h' : y ≠ 0) : x * y % md s ≠ 0 := by
  intro h0
  rw [← κ_eq0, κ_mul] at h0
  rcases f_nzd P h0 with h1 | h1
  · rw [κ_eq0, Nat.mod_eq_of_lt hx] at h1; exact h h1
  · rw [κ_eq0, Nat.mod_eq_of_lt hy] at h1; exact h' h1
theorem mulR_tp {s : Int} (P : PR (md s)) {a b : List Nat} (ha : Nrm (md s) a) (hb : Nrm (md s) b) : mulR (md s) a b = tp (md s) (pMul a b) := by
  by_cases h0 : a.length = 0
  · have : a = [] := List.eq_nil_of_length_eq_zero h0
    subst this
    have e : tp (md s) (pMul [] b) = [] := List.eq_nil_of_length_eq_zero (Nat.le_zero.1 (tp_len_le (n := 0) fun i _ => by rw [pMul_getD]; exact Nat.zero_mod _))
    rw [e]; simp [mulR]
  · by_cases h1 : b.length = 0
    · have : b = [] := List.eq_nil_of_length_eq_zero h1
      subst this
      have e : tp (md s) (pMul a []) = [] := List.eq_nil_of_length_eq_zero (Nat.le_zero.1 (tp_len_le (n := 0) fun i _ => by rw [pMul_getD, cS_nil]; exact Nat.zero_mod _))
      rw [e]; simp [mulR]
    · have hlast : cS a b a.length (a.length + b.length - 2) % md s ≠ 0 := by
        rw [cS_top h0 h1]
        refine nzd P ?_ ?_ (ha.last.resolve_left (by intro e; subst e; simp at h0)) (hb.last.resolve_left (by intro e; subst e; simp at h1))
        · exact getD_lt ha.lt (by omega)
        · exact getD_lt hb.lt (by omega)
      have hl : (tp (md s) (pMul a b)).length = a.length + b.length - 1 := by
        refine tp_len_eq (fun i hi => ?_) (.inr ?_)
        · rw [pMul_getD, cS_out (by omega) h1, Nat.zero_mod]
        · rw [pMul_getD, show a.length + b.length - 1 - 1 = a.length + b.length - 2 by omega]
          exact hlast
      unfold mulR
      rw [if_neg (by omega)]
      refine getD_ext (by rw [tab_len, hl]) fun i => ?_
      rw [tp_getD, pMul_getD]
      by_cases hi : i < a.length + b.length - 1
      · rw [tab_at hi]
        unfold cv
        rw [if_neg (by omega), Nat.add_zero]
      · rw [tab_out (by omega), cS_out (by omega) h1, Nat.zero_mod]
end Go.Sx
