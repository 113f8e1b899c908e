/-
  Helpers of the products: what is too great; what fits. No conditions.
-/
import Derived.Test.YtgeliidjmefkgaaZPtb
import Derived.Test.YtgeliidjmefkgaaZFlo
namespace Go.Sx
open Go.Proofs Go.Num
-- SY
-- TY: TYX, UX, guard_un, IOX, mv_fa, plain_s, plain_r, plain_p
set_option maxRecDepth 100000
set_option linter.unusedSimpArgs false
set_option pp.deepTerms true
set_option pp.maxSteps 100000
theorem u_great16 (n : Nat) (ys : List Value) : Contract Try.prog 61 [.sl n 1 ys] [.val (.bool (decide ((20 : Int) < (n : Int))))] := by
  refine contract_of (N := _) (vars := _) (c := bodyOf Try.f61) Try.func61 (body_eq rfl) rfl rfl (by rfl) mixed _ _ trivial 1000 ?_
  simp only [bodyOf, Try.f61, Option.getD_some, argA, argE, List.length_cons, List.length_nil, Nat.reduceAdd, Nat.reduceSub, List.replicate, List.cons_append, List.nil_append]
  simp only [↓PX, SX, SYX, EY, simprocAttr, TYX, UX, guard_un, IOX, mv_fa, plain_s, plain_r, plain_p]
  repeat (first | refine DrawVC.intro (by kernel_rfl) ?_ | refine And.intro (by omega) ?_ | exact trivial | simp only [↓PX, SX, SYX, EY, simprocAttr, TYX, UX, guard_un, IOX, mv_fa, plain_s, plain_r, plain_p])
/-- Do the tables fit? -/
def ftB (q : Nat) (C S : List (List Nat)) : Bool := decide (C.length = S.length ∧ C.length ≤ 8 ∧ ∀ i, i < C.length → (C.getD i []).length = 2 ^ q ∧ (S.getD i []).length = 2 ^ q)
theorem ftB_1 {q : Nat} {C S : List (List Nat)} : ftB q C S = true ↔ C.length = S.length ∧ C.length ≤ 8 ∧ ∀ i, i < C.length → (C.getD i []).length = 2 ^ q ∧ (S.getD i []).length = 2 ^ q := by
  unfold ftB; rw [decide_eq_true_iff]
theorem ftB_0 {q : Nat} {C S : List (List Nat)} (h : ¬ (C.length = S.length ∧ C.length ≤ 8 ∧ ∀ i, i < C.length → (C.getD i []).length = 2 ^ q ∧ (S.getD i []).length = 2 ^ q)) : ftB q C S = false := by
  unfold ftB; rw [decide_eq_false_iff_not]; exact h
set_option maxHeartbeats 1600000 in
theorem u_fits (q : Nat) (C S : List (List Nat)) (cy sy : List Value) (hq : 3 ≤ q ∧ q ≤ 5) (hm : C.length ≤ 20) (hm2 : S.length ≤ 20) (hb : ∀ l ∈ C, l.length * 32 ≤ 140737488351232) (hb2 : ∀ l ∈ S, l.length * 32 ≤ 140737488351232) (hy9 : XB cy C ∧ XB sy S) :
    Contract Try.prog 108 [.fa (.int .i64 (q : Int)) (fun w => TB cy C w ∧ TB sy S w), .sl C.length 1 cy, .sl S.length 1 sy] [.val (.bool (ftB q C S))] := by
  have hsh := shl_i (k := q) (by omega)
  have hn8 : 8 ≤ 2 ^ q ∧ 2 ^ q ≤ 32 := by
    obtain ⟨h1, h2⟩ := hq
    have : q = 3 ∨ q = 4 ∨ q = 5 := by omega
    rcases this with rfl | rfl | rfl <;> decide
  cases d1 : ((C.length : Int) != (S.length : Int)) with
  | true =>
    have e1 : ftB q C S = false := ftB_0 fun h => by
      have := bne_iff_ne.1 d1; omega
    rw [e1]
    refine contract_of (N := _) (vars := _) (c := bodyOf Try.f108) Try.func108 (body_eq rfl) rfl rfl (by rfl) mixed _ _ trivial 1000 ?_
    simp only [bodyOf, Try.f108, Option.getD_some, argA, argE, List.length_cons, List.length_nil, Nat.reduceAdd, Nat.reduceSub, List.replicate, List.cons_append, List.nil_append]
    simp only [↓PX, SX, SYX, EY, simprocAttr, TYX, UX, guard_un, IOX, mv_fa, plain_s, plain_r, plain_p]
    repeat (first | refine DrawVC.intro (by kernel_rfl) ?_ | refine And.intro (by omega) ?_ | exact trivial | simp only [↓PX, SX, SYX, EY, simprocAttr, TYX, UX, guard_un, IOX, mv_fa, plain_s, plain_r, plain_p, d1])
  | false =>
    have q1 : C.length = S.length := by
      have : (C.length : Int) = (S.length : Int) := by simpa using d1
      omega
    cases d2 : decide ((8 : Int) < (C.length : Int)) with
    | true =>
      have e1 : ftB q C S = false := ftB_0 fun h => by
        have := of_decide_eq_true d2; omega
      rw [e1]
      refine contract_of (N := _) (vars := _) (c := bodyOf Try.f108) Try.func108 (body_eq rfl) rfl rfl (by rfl) mixed _ _ trivial 1000 ?_
      simp only [bodyOf, Try.f108, Option.getD_some, argA, argE, List.length_cons, List.length_nil, Nat.reduceAdd, Nat.reduceSub, List.replicate, List.cons_append, List.nil_append]
      simp only [↓PX, SX, SYX, EY, simprocAttr, TYX, UX, guard_un, IOX, mv_fa, plain_s, plain_r, plain_p]
      repeat (first | refine DrawVC.intro (by kernel_rfl) ?_ | refine And.intro (by omega) ?_ | exact trivial | simp only [↓PX, SX, SYX, EY, simprocAttr, TYX, UX, guard_un, IOX, mv_fa, plain_s, plain_r, plain_p, d1, d2])
    | false =>
      have q2 := of_decide_eq_false d2
      obtain ⟨B, hB⟩ : ∃ B, ftB q C S = B := ⟨_, rfl⟩
      have hBt : (∀ i, i < C.length → (C.getD i []).length = 2 ^ q ∧ (S.getD i []).length = 2 ^ q) → B = true := fun h => by rw [← hB]; exact ftB_1.2 ⟨q1, by omega, h⟩
      have hBf : ∀ i, i < C.length → ¬ ((C.getD i []).length = 2 ^ q ∧ (S.getD i []).length = 2 ^ q) → B = false := fun i hi h => by rw [← hB]; exact ftB_0 fun h2 => h (h2.2.2 i hi)
      rw [hB]
      obtain ⟨n, hn⟩ : ∃ n, 2 ^ q = n := ⟨_, rfl⟩
      rw [hn] at hsh hn8 hBt hBf
      refine contract_of (N := _) (vars := _) (c := bodyOf Try.f108) Try.func108 (body_eq rfl) rfl rfl (by rfl) mixed _ _ trivial 1000 ?_
      simp only [bodyOf, Try.f108, Option.getD_some, argA, argE, List.length_cons, List.length_nil, Nat.reduceAdd, Nat.reduceSub, List.replicate, List.cons_append, List.nil_append]
      simp only [↓PX, SX, SYX, EY, simprocAttr, TYX, UX, guard_un, IOX, mv_fa, plain_s, plain_r, plain_p]
      repeat (first | refine DrawVC.intro (by kernel_rfl) ?_ | refine And.intro (by omega) ?_ | exact trivial | simp only [↓PX, SX, SYX, EY, simprocAttr, TYX, UX, guard_un, IOX, mv_fa, plain_s, plain_r, plain_p, d1, d2])
      refine loop_hav ?_
      simp only [↓PX, SX, SYX, EY, simprocAttr, TYX, UX, guard_un, IOX, mv_fa, plain_s, plain_r, plain_p]
      refine loop_go mixed (by trivial) (γ := Nat) (fun i => i ≤ C.length ∧ ∀ i', i' < i → (C.getD i' []).length = n ∧ (S.getD i' []).length = n) (fun i => C.length - i) (fun i => [(20, iv i)]) (fun i => []) 0 ⟨Nat.zero_le _, fun _ h => by omega⟩ (St.le_of id (by simp [-List.getD_eq_getElem?_getD, SYX, iv, Tle, AVle, A0le, Mem.get]) (by simp [-List.getD_eq_getElem?_getD, SYX, Mle, Ele, Hle, Tle, AVle, A0le, Mem.get]) (by simp [SYX]) (by simp [SYX])) ?_
      rintro i ⟨hi, hz⟩
      by_cases him : i < C.length
      · have b1 : decide ((i : Int) < (C.length : Int)) = true := decide_eq_true (by omega)
        have hcy : i < cy.length := by rw [hy9.1.1]; exact him
        have hsy : i < sy.length := by rw [hy9.2.1]; omega
        have w1 := wS (j := i) (by omega)
        obtain ⟨wc, r1⟩ := hy9.1.2 i him
        obtain ⟨ws, r2⟩ := hy9.2.2 i (by omega)
        have hq0 : (0 : Int) ≤ (q : Int) := by omega
        have hqm : ((q : Int) % 18446744073709551616).toNat = q := by omega
        repeat (first | refine DrawVC.intro (by kernel_rfl) ?_ | refine And.intro (by omega) ?_ | exact trivial | simp only [↓PX, SX, SYX, EY, simprocAttr, TYX, UX, guard_un, IOX, mv_fa, plain_s, plain_r, plain_p, b1, hcy, hsy])
        refine ExVC.intro _ (X_lenV rfl ⟨_, Try.underlying22⟩ rfl (reads_len r1)) ?_
        by_cases l1 : (C.getD i []).length = n
        · have b2 : (((C.getD i []).length : Int) != (n : Int)) = false := by rw [l1]; simp
          by_cases l2 : (S.getD i []).length = n
          · have b3 : (((S.getD i []).length : Int) != (n : Int)) = false := by rw [l2]; simp
            repeat (first | refine DrawVC.intro (by kernel_rfl) ?_ | refine And.intro (by omega) ?_ | exact trivial | simp only [↓PX, SX, SYX, EY, simprocAttr, TYX, UX, guard_un, IOX, mv_fa, plain_s, plain_r, plain_p, b2, hq0, hqm, hsh, b_shl_iu, hsy])
            refine ExVC.intro _ (X_lenV rfl ⟨_, Try.underlying22⟩ rfl (reads_len r2)) ?_
            repeat (first | refine DrawVC.intro (by kernel_rfl) ?_ | refine And.intro (by omega) ?_ | exact trivial | simp only [↓PX, SX, SYX, EY, simprocAttr, TYX, UX, guard_un, IOX, mv_fa, plain_s, plain_r, plain_p, b2, b3, hq0, hqm, hsh, b_shl_iu, hsy, w1])
            exact ⟨i + 1, ⟨by omega, fun i' h' => by
              rcases Nat.lt_or_ge i' i with h | h
              · exact hz i' h
              · have : i' = i := by omega
                rw [this]; exact ⟨l1, l2⟩⟩, by omega, (St.le_of id (by simp [-List.getD_eq_getElem?_getD, SYX, iv, Tle, AVle, A0le, Mem.get]) (by simp [-List.getD_eq_getElem?_getD, SYX, Mle, Ele, Hle, Tle, AVle, A0le, Mem.get]) (by simp [SYX]) (by simp [SYX]))⟩
          · have b3 : (((S.getD i []).length : Int) != (n : Int)) = true := by rw [bne_iff_ne]; omega
            have hBF := hBf i him fun h => l2 h.2
            repeat (first | refine DrawVC.intro (by kernel_rfl) ?_ | refine And.intro (by omega) ?_ | exact trivial | simp only [↓PX, SX, SYX, EY, simprocAttr, TYX, UX, guard_un, IOX, mv_fa, plain_s, plain_r, plain_p, b2, hq0, hqm, hsh, b_shl_iu, hsy])
            refine ExVC.intro _ (X_lenV rfl ⟨_, Try.underlying22⟩ rfl (reads_len r2)) ?_
            repeat (first | refine DrawVC.intro (by kernel_rfl) ?_ | refine And.intro (by omega) ?_ | exact trivial | simp only [↓PX, SX, SYX, EY, simprocAttr, TYX, UX, guard_un, IOX, mv_fa, plain_s, plain_r, plain_p, b2, b3, hq0, hqm, hsh, b_shl_iu, hsy, hBF])
        · have b2 : (((C.getD i []).length : Int) != (n : Int)) = true := by rw [bne_iff_ne]; omega
          have hBF := hBf i him fun h => l1 h.1
          repeat (first | refine DrawVC.intro (by kernel_rfl) ?_ | refine And.intro (by omega) ?_ | exact trivial | simp only [↓PX, SX, SYX, EY, simprocAttr, TYX, UX, guard_un, IOX, mv_fa, plain_s, plain_r, plain_p, b2, hq0, hqm, hsh, b_shl_iu, hsy, hBF])
      · have b1 : decide ((i : Int) < (C.length : Int)) = false := decide_eq_false (by omega)
        have hi : i = C.length := by omega
        have hBT := hBt fun i' h' => hz i' (by omega)
        repeat (first | refine DrawVC.intro (by kernel_rfl) ?_ | refine And.intro (by omega) ?_ | exact trivial | simp only [↓PX, SX, SYX, EY, simprocAttr, TYX, UX, guard_un, IOX, mv_fa, plain_s, plain_r, plain_p, b1, hBT])
/-- What the law compares. -/
theorem hoB_law {s : Int} {q β γ : Nat} {C S : List (List Nat)} {cs : List Nat} {J : Nat} (hk : kn s = true) (h8 : 8 ≤ 2 ^ q) (hJ : J = (C.length + 1) / 2) (hm : C.length ≠ 0) (hCS : C.length = S.length)
    (hd : ∀ j, j < J → ∀ r, r < 2 ^ q - 4 → dnN s β γ C S j r ≠ 0) : hoB s q β γ C S (tbl J (zlN s q β γ C S cs)) = (stN s q β γ C S J == 0 || stN s q β γ C S J == 1) := by
  have key := fun r (hr : r < 2 ^ q) => ck_rows (s := s) (q := q) (β := β) (γ := γ) (C := C) (S := S) (cs := cs) (J := J) (r := r) hk h8 hJ hm hCS hr hd
  cases hb : (stN s q β γ C S J == 0 || stN s q β γ C S J == 1) with
  | true =>
    refine hoB_yes fun r hr i hi => ?_
    obtain ⟨A, B, _, hA, hB, e, he, h1, h2⟩ := key r hr
    have h0 : e = 0 := by
      by_cases hru : r = 2 ^ q - 4
      · refine (h2 hru).2 ?_
        simpa using hb
      · exact h1 hru
    have hall : ∀ x ∈ ckT s q β γ C S (tbl J (zlN s q β γ C S cs)) r, x = 0 := by
      rw [he]
      intro x hx
      simp only [List.mem_append, List.mem_singleton] at hx
      rcases hx with (hx | hx) | hx
      · exact hA x hx
      · rw [hx]; exact h0
      · exact hB x hx
    rw [List.getD_eq_getElem?_getD, List.getElem?_eq_getElem hi]
    exact hall _ (List.getElem_mem hi)
  | false =>
    obtain ⟨A, B, hl, hA, hB, e, he, h1, h2⟩ := key (2 ^ q - 4) (by omega)
    refine hoB_no (r := 2 ^ q - 4) (i := A.length) (by omega) ?_ ?_
    · rw [he]; simp
    · rw [he]
      have h3 : (A ++ [e] ++ B).getD A.length 0 = e := by
        rw [List.getD_eq_getElem?_getD, List.append_assoc, List.getElem?_append_right (Nat.le_refl _), Nat.sub_self]; rfl
      rw [h3]
      intro h0
      have h4 := (h2 rfl).1 h0
      have : (stN s q β γ C S J == 0 || stN s q β γ C S J == 1) = true := by simpa using h4
      rw [hb] at this; cases this
theorem ckT_pos {s : Int} {q β γ : Nat} {C S : List (List Nat)} {cs : List Nat} {J r : Nat} (hk : kn s = true) (h8 : 8 ≤ 2 ^ q) (hJ : J = (C.length + 1) / 2) (hm : C.length ≠ 0) (hCS : C.length = S.length)
    (hd : ∀ j, j < J → ∀ r, r < 2 ^ q - 4 → dnN s β γ C S j r ≠ 0) (hr : r < 2 ^ q) : 0 < (ckT s q β γ C S (tbl J (zlN s q β γ C S cs)) r).length := by
  obtain ⟨A, B, _, _, _, e, he, _⟩ := ck_rows (s := s) (q := q) (β := β) (γ := γ) (C := C) (S := S) (cs := cs) (J := J) (r := r) hk h8 hJ hm hCS hr hd
  rw [he]; simp; omega
theorem tbl_w {J : Nat} {f : Nat → List Nat} (h : ∀ j, ∀ x ∈ f j, x < W256) : tbW (tbl J f) := by
  intro l hl
  obtain ⟨j, _, rfl⟩ := List.mem_map.1 hl
  exact h j
end Go.Sx
