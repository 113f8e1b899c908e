/-
  Invert, of the field and of the reference. No conditions.
-/
import Derived.Test.YtndmafefpiigoaaZHel
import Derived.Test.YtndmafefpiigoaaZFieldD
namespace Go.Sx
open Go.Proofs Go.Num
-- SY
-- TY: TYX, cellsNV, foldNV
set_option maxRecDepth 100000
set_option linter.unusedSimpArgs false
set_option pp.deepTerms true
set_option pp.maxSteps 100000
instance mdNe (s : Int) : NeZero (md s) := ⟨by have := md_pos s; omega⟩
/-! ### lists by their places -/
def tab (n : Nat) (f : Nat → Nat) : List Nat := (List.range n).map f
theorem tab_len {n : Nat} {f : Nat → Nat} : (tab n f).length = n := by simp [tab]
theorem tab_at {n : Nat} {f : Nat → Nat} {j : Nat} (h : j < n) : (tab n f).getD j 0 = f j := by simp [tab, List.getD, h]
theorem tab_set {n : Nat} {f : Nat → Nat} {i v : Nat} : (tab n f).set i v = tab n (fun j => if j = i then v else f j) := by
  apply List.ext_getElem
  · simp [tab]
  · intro j h1 h2
    simp only [tab, List.length_map, List.length_range, List.length_set] at h1
    simp only [tab, List.getElem_set, List.getElem_map, List.getElem_range]
    by_cases h : i = j
    · simp [h]
    · have : ¬ j = i := fun e => h e.symm
      simp [h, this]
theorem tab_congr {n : Nat} {f g : Nat → Nat} (h : ∀ j, j < n → f j = g j) : tab n f = tab n g := by
  unfold tab
  apply List.map_congr_left
  intro j hj
  exact h j (by simpa using hj)
theorem tab_rep {n z : Nat} : List.replicate n z = tab n (fun _ => z) := by
  unfold tab
  apply List.ext_getElem <;> simp
theorem tab_map {l : List Nat} {f : Nat → Nat} : l.map f = tab l.length (fun j => f (l.getD j 0)) := by
  apply List.ext_getElem
  · simp [tab]
  · intro j h1 h2
    simp only [List.length_map] at h1
    simp [tab, List.getD, h1]
theorem tab_self {l : List Nat} : l = tab l.length (fun j => l.getD j 0) := by
  have := tab_map (l := l) (f := id)
  simpa using this
/-! ### inverses -/
theorem κ_inv {s : Int} {a : Nat} : κ (md s) (inv s a) = ι (κ (md s) a) := by unfold inv ι; rw [κ_mod, κ_pow]
theorem inv_of {s : Int} (P : PR (md s)) {x y : Nat} (hx : x < md s) (h : κ (md s) y * κ (md s) x = 1) : x = inv s y := by
  have := ι_uniq P h
  rw [← κ_inv, κ_inj, Nat.mod_eq_of_lt hx, Nat.mod_eq_of_lt (inv_lt s y)] at this
  exact this
/-- The product of the first i. -/
def pr (s : Int) (l : List Nat) : Nat → Nat
  | 0 => 1
  | i + 1 => pr s l i * l.getD i 0 % md s
theorem pr_w (s : Int) (l : List Nat) : ∀ i, pr s l i < W256
  | 0 => by unfold pr; decide
  | i + 1 => md_w s _
theorem pr_ne {s : Int} (P : PR (md s)) {l : List Nat} : ∀ i, (∀ j, j < i → l.getD j 0 % md s ≠ 0) → κ (md s) (pr s l i) ≠ 0
  | 0, _ => by unfold pr; rw [κ_one]; exact f_one_ne P
  | i + 1, h => by
    unfold pr
    rw [κ_mod, κ_mul]
    intro h0
    rcases f_nzd P h0 with h1 | h1
    · exact pr_ne P i (fun j hj => h j (by omega)) h1
    · exact h i (by omega) (κ_eq0.1 h1)
theorem pr_zero {s : Int} {l : List Nat} {j : Nat} (h : l.getD j 0 % md s = 0) : ∀ i, j < i → pr s l i % md s = 0
  | 0, h => by omega
  | i + 1, hj => by
    unfold pr
    rw [Nat.mod_mod]
    by_cases e : j = i
    · subst e; rw [Nat.mul_mod, h, Nat.mul_zero, Nat.zero_mod]
    · rw [Nat.mul_mod, pr_zero h i (by omega), Nat.zero_mul, Nat.zero_mod]
/-- What Invert answers. -/
def okL (s : Int) (l : List Nat) : Bool := kn s && l.all (fun x => x % md s != 0)
def invL (s : Int) (l : List Nat) : List Nat := if okL s l then l.map (inv s) else []
def eL (s : Int) (l : List Nat) : Int := if kn s then (if okL s l then 0 else 10) else 20
theorem u_Invert (s : Int) (l : List Nat) (hl : ∀ x ∈ l, x < W256) (hb : l.length * 32 ≤ 140737488355328) :
    Contract Try.prog 105 [.val (.int .i64 s), .sl l.length 4 (LC eC l)] [.row 25 4 (invL s l).length (LC eC (invL s l)), .val (.int .i64 (eL s l))] := by
  cases srt s with
  | no hk he hm F R =>
    have e1 : invL s l = [] := by simp [invL, okL, hk]
    have e2 : eL s l = 20 := by simp [eL, hk]
    rw [e1, e2]
    refine contract_of (N := _) (vars := _) (c := bodyOf Try.f105) Try.func105 (body_eq rfl) rfl rfl (by rfl) mixed _ _ trivial 1000 ?_
    simp only [bodyOf, Try.f105, Option.getD_some, argA, argE, List.length_cons, List.length_nil, Nat.reduceAdd, Nat.reduceSub, List.replicate, List.cons_append, List.nil_append]
    simp only [↓PX, SX, SYX, EY, simprocAttr, TYX, cellsNV, foldNV]
    refine CallVC.intro (F.of) ⟨rfl, trivial⟩ rfl rfl ?_
    simp only [↓PX, SX, SYX, EY, simprocAttr, TYX, cellsNV, foldNV, he]
  | yes hk he sm ng sq F R P h2 =>
    have e3 : md s * 2 ≤ W256 := md_lt s
    refine contract_of (N := _) (vars := _) (c := bodyOf Try.f105) Try.func105 (body_eq rfl) rfl rfl (by rfl) mixed _ _ trivial 1000 ?_
    simp only [bodyOf, Try.f105, Option.getD_some, argA, argE, List.length_cons, List.length_nil, Nat.reduceAdd, Nat.reduceSub, List.replicate, List.cons_append, List.nil_append]
    simp only [↓PX, SX, SYX, EY, simprocAttr, TYX, cellsNV, foldNV]
    refine CallVC.intro (F.of) ⟨rfl, trivial⟩ rfl rfl ?_
    simp only [↓PX, SX, SYX, EY, simprocAttr, TYX, cellsNV, foldNV, he]
    repeat (first | refine DrawVC.intro (by kernel_rfl) ?_ | refine And.intro (by omega) ?_ | exact trivial)
    refine loop_hav ?_
    simp only [↓PX, SX, SYX, EY, simprocAttr, TYX, cellsNV, foldNV]
    refine loop_go mixed (by trivial) (γ := Nat) (fun i => i ≤ l.length) (fun i => l.length - i) (fun i => [(27, iv i)]) (fun i => [(70, .box (eC (pr s l i))), (58, .row 25 4 l.length (LC eC (tab l.length (fun j => if j < i then pr s l j else 0))))]) 0 (by omega)
      (St.le_of id (by simp [-List.getD_eq_getElem?_getD, SYX, iv, Tle, AVle, A0le, Mem.get, eC, pr, tab_rep]) (by simp [-List.getD_eq_getElem?_getD, SYX, Mle, Ele, Hle, Tle, AVle, A0le, Mem.get, eC, pr, tab_rep]) (by simp [SYX]) (by simp [SYX])) ?_
    intro i hi
    simp only [↓PX, SX, SYX, EY, simprocAttr, TYX, cellsNV, foldNV]
    refine cond_split (fun h0 => ?_) (fun h0 => ?_)
    · have h0 : i < l.length := by simpa using h0
      have hx := getD_lt hl h0
      simp only [↓PX, SX, SYX, EY, simprocAttr, TYX, cellsNV, foldNV, eL_ld h0, eL_st, tab_len, h0, tab_set]
      repeat (first | refine DrawVC.intro (by kernel_rfl) ?_ | refine And.intro (by omega) ?_ | exact trivial)
      refine CallVC.intro (F.mul (pr s l i) (l.getD i 0) (pr_w s l i) hx) ⟨rfl, rfl, rfl, trivial⟩ rfl rfl ?_
      simp only [↓PX, SX, SYX, EY, simprocAttr, TYX, cellsNV, foldNV]
      have hw := wS (j := i) (by omega)
      have ht : tab l.length (fun j => if j = i then pr s l i else if j < i then pr s l j else 0) = tab l.length (fun j => if j < i + 1 then pr s l j else 0) := by
        refine tab_congr fun j _ => ?_
        by_cases h1 : j = i
        · simp [h1]
        · have h2 : (j < i + 1) = (j < i) := by simp; omega
          simp [h1, h2]
      exact ⟨i + 1, by omega, by omega, (St.le_of id (by simp [-List.getD_eq_getElem?_getD, SYX, iv, Tle, AVle, A0le, Mem.get, hw, ht, pr]) (by simp [-List.getD_eq_getElem?_getD, SYX, Mle, Ele, Hle, Tle, AVle, A0le, Mem.get, hw, ht, pr]) (by simp [SYX]) (by simp [SYX]))⟩
    · have h0 : i = l.length := by have : l.length ≤ i := by (simpa using h0)
                                   omega
      subst h0
      by_cases hz : okL s l = true
      · have hnz : ∀ j, j < l.length → l.getD j 0 % md s ≠ 0 := by
          intro j hj
          simp only [okL, hk, Bool.true_and, List.all_eq_true, bne_iff_ne, ne_eq] at hz
          have : l.getD j 0 = l[j] := by simp [List.getD, hj]
          rw [this]
          exact hz _ (List.getElem_mem hj)
        have e4 : eI s (pr s l l.length) = 0 := by
          have := pr_ne P (l := l) l.length hnz
          rw [ne_eq, κ_eq0] at this
          simp [eI, hk, this]
        have e5 : invL s l = l.map (inv s) := by simp [invL, hz]
        have e6 : eL s l = 0 := by simp [eL, hk, hz]
        rw [e5, e6]
        simp only [↓PX, SX, SYX, EY, simprocAttr, TYX, cellsNV, foldNV]
        refine CallVC.intro (u_Inv s _ (pr_w s l l.length)) ⟨rfl, rfl, trivial⟩ rfl rfl ?_
        simp only [↓PX, SX, SYX, EY, simprocAttr, TYX, cellsNV, foldNV, e4]
        refine loop_hav ?_
        simp only [↓PX, SX, SYX, EY, simprocAttr, TYX, cellsNV, foldNV]
        have hw := wI (n := (l.length : Int) - 1) (by omega) (by omega)
        have hne : ∀ k, k ≤ l.length → κ (md s) (pr s l k) ≠ 0 := fun k h1 => pr_ne P k fun j h2 => hnz j (by omega)
        have ht0 : tab l.length (fun j => if j < l.length then pr s l j else 0) = tab l.length (fun j => if j < l.length then pr s l j else inv s (l.getD j 0)) := tab_congr fun j hj => by simp [hj]
        refine loop_go mixed (by trivial) (γ := Nat) (fun k => k ≤ l.length) (fun k => k) (fun k => [(12, .o (.v (.int .i64 ((k : Int) - 1))))]) (fun k => [(70, .box (eC (inv s (pr s l k)))), (58, .row 25 4 l.length (LC eC (tab l.length (fun j => if j < k then pr s l j else inv s (l.getD j 0)))))]) l.length (by omega)
          (St.le_of id (by simp [-List.getD_eq_getElem?_getD, SYX, iv, Tle, AVle, A0le, Mem.get, eC, hw, ht0]) (by simp [-List.getD_eq_getElem?_getD, SYX, Mle, Ele, Hle, Tle, AVle, A0le, Mem.get, eC, hw, ht0]) (by simp [SYX]) (by simp [SYX])) ?_
        intro k hk1
        cases k with
        | zero =>
          simp only [↓PX, SX, SYX, EY, simprocAttr, TYX, cellsNV, foldNV]
          rw [tab_map (l := l) (f := inv s), tab_len]
          exact ⟨rfl, by simp⟩
        | succ j =>
          have e7 : (((j + 1 : Nat) : Int) - 1) = (j : Int) := by omega
          have hj : j < l.length := by omega
          have hx := getD_lt hl hj
          have e8 : decide ((0 : Int) ≤ (j : Int)) = true := by simp
          have e9 : (tab l.length (fun q => if q < j + 1 then pr s l q else inv s (l.getD q 0))).getD j 0 = pr s l j := by rw [tab_at hj]; simp
          have e10 := wI (n := (j : Int) - 1) (by omega) (by omega)
          simp only [↓PX, SX, SYX, EY, simprocAttr, TYX, cellsNV, foldNV, e7, e8, eL_ld, eL_st, tab_len, hj, tab_set, e9]
          repeat (first | refine DrawVC.intro (by kernel_rfl) ?_ | refine And.intro (by omega) ?_ | exact trivial)
          refine CallVC.intro (F.mul (pr s l j) (inv s (pr s l (j + 1))) (pr_w s l j) (md_w2 (inv_lt _ _))) ⟨rfl, rfl, rfl, trivial⟩ rfl rfl ?_
          simp only [↓PX, SX, SYX, EY, simprocAttr, TYX, cellsNV, foldNV, eL_ld, eL_st, tab_len, hj, tab_set, e9, e7, e10]
          repeat (first | refine DrawVC.intro (by kernel_rfl) ?_ | refine And.intro (by omega) ?_ | exact trivial)
          refine CallVC.intro (F.mul (inv s (pr s l (j + 1))) (l.getD j 0) (md_w2 (inv_lt _ _)) hx) ⟨rfl, rfl, rfl, trivial⟩ rfl rfl ?_
          simp only [↓PX, SX, SYX, EY, simprocAttr, TYX, cellsNV, foldNV, e7]
          have k1 : κ (md s) (pr s l (j + 1)) = κ (md s) (pr s l j) * κ (md s) (l.getD j 0) := by
            show κ (md s) (pr s l j * l.getD j 0 % md s) = _
            rw [κ_mod, κ_mul]
          have k2 := ι_mul P (hne (j + 1) (by omega))
          rw [k1] at k2
          have e11 : pr s l j * inv s (pr s l (j + 1)) % md s = inv s (l.getD j 0) := by
            refine inv_of P (md_mod _ _) ?_
            rw [κ_mod, κ_mul, κ_inv, k1]
            grind
          have e12 : inv s (pr s l (j + 1)) * l.getD j 0 % md s = inv s (pr s l j) := by
            refine inv_of P (md_mod _ _) ?_
            rw [κ_mod, κ_mul, κ_inv, k1]
            grind
          have ht : tab l.length (fun q => if q = j then inv s (l.getD j 0) else if q < j + 1 then pr s l q else inv s (l.getD q 0)) = tab l.length (fun q => if q < j then pr s l q else inv s (l.getD q 0)) := by
            refine tab_congr fun q _ => ?_
            by_cases h1 : q = j
            · simp [h1]
            · have h2 : (q < j + 1) = (q < j) := by simp; omega
              simp [h1, h2]
          exact ⟨j, by omega, by omega, (St.le_of id (by simp [-List.getD_eq_getElem?_getD, SYX, iv, Tle, AVle, A0le, Mem.get, e10, e11, e12, ht]) (by simp [-List.getD_eq_getElem?_getD, SYX, Mle, Ele, Hle, Tle, AVle, A0le, Mem.get, e10, e11, e12, ht]) (by simp [SYX]) (by simp [SYX]))⟩
      · have e4 : eI s (pr s l l.length) = 10 := by
          simp only [okL, hk, Bool.true_and, List.all_eq_true, bne_iff_ne, ne_eq] at hz
          obtain ⟨x, hx, hx0⟩ : ∃ x, x ∈ l ∧ x % md s = 0 := by
            apply Classical.byContradiction
            intro hc
            exact hz fun x hx h0 => hc ⟨x, hx, h0⟩
          obtain ⟨j, hj, rfl⟩ := List.mem_iff_getElem.1 hx
          have : l.getD j 0 % md s = 0 := by simpa [List.getD, hj] using hx0
          have := pr_zero this l.length hj
          simp [eI, hk, this]
        have e5 : invL s l = [] := by simp [invL, hz]
        have e6 : eL s l = 10 := by simp [eL, hk, hz]
        rw [e5, e6]
        simp only [↓PX, SX, SYX, EY, simprocAttr, TYX, cellsNV, foldNV]
        refine CallVC.intro (u_Inv s _ (pr_w s l l.length)) ⟨rfl, rfl, trivial⟩ rfl rfl ?_
        simp only [↓PX, SX, SYX, EY, simprocAttr, TYX, cellsNV, foldNV, e4]
end Go.Sx
