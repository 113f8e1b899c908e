/-
  The reference's product of a lookup. No conditions.
-/
import Derived.Test.YtmjhaopkhceegaaZLlb
namespace Go.Sx
open Go.Proofs Go.Num
-- SY
-- TY: TYX, UX, guard_un, IOX, mv_fa, plain_s, plain_r, plain_p
set_option maxRecDepth 100000
set_option linter.unusedSimpArgs false
set_option pp.deepTerms true
set_option pp.maxSteps 100000
set_option maxHeartbeats 1600000 in
theorem v_Product (s k : Int) (β γ : Nat) (i t so ma cs : List Nat) (y : Value) (hβ : β < W256) (hγ : γ < W256) (hi : ∀ z ∈ i, z < W256) (ht : ∀ z ∈ t, z < W256) (hso : ∀ z ∈ so, z < W256) (hma : ∀ z ∈ ma, z < W256) (hcs : ∀ z ∈ cs, z < W256)
    (hbi : i.length ≤ 1000) (hbt : t.length ≤ 1000) (hbs : so.length ≤ 1000) (hbm : ma.length ≤ 1000) (hbc : cs.length * 32 ≤ 140737488351232) (hy : ∃ w, ReadsSlice w y cs.length 4 (LC eC cs)) :
    Contract Try.prog 24 [.val (.int .i64 s), .val (.int .i64 k), .sl i.length 4 (LC eC i), .sl t.length 4 (LC eC t), .sl so.length 4 (LC eC so), .sl ma.length 4 (LC eC ma), .val (EN β), .val (EN γ), .fa (CN y 0) (fun w => ReadsSlice w y cs.length 4 (LC eC cs))]
      [.val (CN y (pdJ s k β γ i t so ma cs)), .row 24 4 (pdL s k β γ i t so ma cs).length (LC eC (pdL s k β γ i t so ma cs)), .val (.int .i64 (pdE s k β γ i t so ma cs))] := by
  have cn := fun j (hj : j < cs.length) => v_Next cs j y hj hbc hy
  have cno := v_Next_no cs y hbc hy
  obtain ⟨w9, hy9⟩ := hy
  obtain ⟨o7, k7⟩ := reads_one hy9
  have k8 : y.cells.toList = [y] := by rw [k7]
  unfold CN at *
  cases hk : kn s with
  | false =>
    have e1 : pdE s k β γ i t so ma cs = 20 := by unfold pdE; rw [if_neg (by rw [hk]; decide)]
    have e2 : pdL s k β γ i t so ma cs = [] := by unfold pdL; rw [e1]; rfl
    have e3 : pdJ s k β γ i t so ma cs = 0 := by unfold pdJ; rw [e1]; rfl
    rw [e1, e2, e3]
    cases d0 : decide (s < 0) with
    | true =>
      refine contract_of (N := _) (vars := _) (c := bodyOf Try.f24) Try.func24 (body_eq rfl) rfl rfl (by rfl) mixed _ _ trivial 1000 ?_
      simp only [bodyOf, Try.f24, Option.getD_some, argA, argE, List.length_cons, List.length_nil, Nat.reduceAdd, Nat.reduceSub, List.replicate, List.cons_append, List.nil_append]
      simp only [↓PX, SX, SYX, EY, simprocAttr, TYX, UX, guard_un, IOX, mv_fa, plain_s, plain_r, plain_p]
      repeat (first | refine DrawVC.intro (by kernel_rfl) ?_ | refine And.intro (by omega) ?_ | exact trivial | simp only [↓PX, SX, SYX, EY, simprocAttr, TYX, UX, guard_un, IOX, mv_fa, plain_s, plain_r, plain_p, d0, o7, k7, k8])
    | false =>
      have dd : decide (3 < s) = true := by
        have q0 := of_decide_eq_false d0
        refine decide_eq_true ?_
        rcases sort_cases s with rfl | rfl | rfl | rfl | ⟨h0, h1, h2, h3⟩
        · simp [kn] at hk
        · simp [kn] at hk
        · simp [kn] at hk
        · simp [kn] at hk
        · simp at h0 h1 h2 h3; omega
      refine contract_of (N := _) (vars := _) (c := bodyOf Try.f24) Try.func24 (body_eq rfl) rfl rfl (by rfl) mixed _ _ trivial 1000 ?_
      simp only [bodyOf, Try.f24, Option.getD_some, argA, argE, List.length_cons, List.length_nil, Nat.reduceAdd, Nat.reduceSub, List.replicate, List.cons_append, List.nil_append]
      simp only [↓PX, SX, SYX, EY, simprocAttr, TYX, UX, guard_un, IOX, mv_fa, plain_s, plain_r, plain_p]
      repeat (first | refine DrawVC.intro (by kernel_rfl) ?_ | refine And.intro (by omega) ?_ | exact trivial | simp only [↓PX, SX, SYX, EY, simprocAttr, TYX, UX, guard_un, IOX, mv_fa, plain_s, plain_r, plain_p, d0, dd, o7, k7, k8])
  | true =>
    have d0 : decide (s < 0) = false := by
      rcases sort_cases s with rfl | rfl | rfl | rfl | ⟨h0, h1, h2, h3⟩
      · rfl
      · rfl
      · rfl
      · rfl
      · simp [kn] at hk; simp at h0 h1 h2 h3; omega
    have dd : decide (3 < s) = false := by
      rcases sort_cases s with rfl | rfl | rfl | rfl | ⟨h0, h1, h2, h3⟩
      · rfl
      · rfl
      · rfl
      · rfl
      · simp [kn] at hk; simp at h0 h1 h2 h3; omega
    cases d3 : decide (k < 3) with
    | true =>
      have hk3 := of_decide_eq_true d3
      have e1 : pdE s k β γ i t so ma cs = 60 := by unfold pdE; rw [if_pos hk, if_neg (by omega)]
      have e2 : pdL s k β γ i t so ma cs = [] := by unfold pdL; rw [e1]; rfl
      have e3 : pdJ s k β γ i t so ma cs = 0 := by unfold pdJ; rw [e1]; rfl
      rw [e1, e2, e3]
      refine contract_of (N := _) (vars := _) (c := bodyOf Try.f24) Try.func24 (body_eq rfl) rfl rfl (by rfl) mixed _ _ trivial 1000 ?_
      simp only [bodyOf, Try.f24, Option.getD_some, argA, argE, List.length_cons, List.length_nil, Nat.reduceAdd, Nat.reduceSub, List.replicate, List.cons_append, List.nil_append]
      simp only [↓PX, SX, SYX, EY, simprocAttr, TYX, UX, guard_un, IOX, mv_fa, plain_s, plain_r, plain_p]
      repeat (first | refine DrawVC.intro (by kernel_rfl) ?_ | refine And.intro (by omega) ?_ | exact trivial | simp only [↓PX, SX, SYX, EY, simprocAttr, TYX, UX, guard_un, IOX, mv_fa, plain_s, plain_r, plain_p, d0, dd, d3, o7, k7, k8])
    | false =>
    cases d5 : decide (5 < k) with
    | true =>
      have hk5 := of_decide_eq_true d5
      have e1 : pdE s k β γ i t so ma cs = 60 := by unfold pdE; rw [if_pos hk, if_neg (by omega)]
      have e2 : pdL s k β γ i t so ma cs = [] := by unfold pdL; rw [e1]; rfl
      have e3 : pdJ s k β γ i t so ma cs = 0 := by unfold pdJ; rw [e1]; rfl
      rw [e1, e2, e3]
      refine contract_of (N := _) (vars := _) (c := bodyOf Try.f24) Try.func24 (body_eq rfl) rfl rfl (by rfl) mixed _ _ trivial 1000 ?_
      simp only [bodyOf, Try.f24, Option.getD_some, argA, argE, List.length_cons, List.length_nil, Nat.reduceAdd, Nat.reduceSub, List.replicate, List.cons_append, List.nil_append]
      simp only [↓PX, SX, SYX, EY, simprocAttr, TYX, UX, guard_un, IOX, mv_fa, plain_s, plain_r, plain_p]
      repeat (first | refine DrawVC.intro (by kernel_rfl) ?_ | refine And.intro (by omega) ?_ | exact trivial | simp only [↓PX, SX, SYX, EY, simprocAttr, TYX, UX, guard_un, IOX, mv_fa, plain_s, plain_r, plain_p, d0, dd, d3, d5, o7, k7, k8])
    | false =>
      have hk3 := of_decide_eq_false d3
      have hk5 := of_decide_eq_false d5
      obtain ⟨q, rfl⟩ : ∃ q : Nat, k = (q : Int) := ⟨k.toNat, by omega⟩
      have hN : pdN q = 2 ^ q := by simp [pdN]
      have hq : 3 ≤ q ∧ q ≤ 5 := by omega
      have hn8 : 8 ≤ 2 ^ q ∧ 2 ^ q ≤ 32 := by
        obtain ⟨h1, h2⟩ := hq
        have : q = 3 ∨ q = 4 ∨ q = 5 := by omega
        rcases this with rfl | rfl | rfl <;> decide
      have hsh := shl_i (k := q) (by omega)
      have hq0 : (0 : Int) ≤ (q : Int) := by omega
      have hqm : ((q : Int) % 18446744073709551616).toNat = q := by omega
      obtain ⟨n, hn⟩ : ∃ n, 2 ^ q = n := ⟨_, rfl⟩
      rw [hn] at hN hn8 hsh
      have w4 : IntKind.i64.wrap ((n : Int) - 4) = ((n - 4 : Nat) : Int) := by rw [wI (by omega) (by omega)]; omega
      have e50 : ¬ (i.length = pdN q - 4 ∧ t.length = pdN q - 4 ∧ so.length = pdN q - 4 ∧ ma.length = pdN q - 4) → pdE s q β γ i t so ma cs = 50 ∧ pdL s q β γ i t so ma cs = [] ∧ pdJ s q β γ i t so ma cs = 0 := by
        intro hno
        have e1 : pdE s q β γ i t so ma cs = 50 := by unfold pdE; rw [if_pos hk, if_pos (by omega), if_neg hno]
        exact ⟨e1, by unfold pdL; rw [e1]; rfl, by unfold pdJ; rw [e1]; rfl⟩
      by_cases l0 : i.length = n - 4
      rotate_left
      · obtain ⟨e1, e2, e3⟩ := e50 (by rw [hN]; omega)
        have b0 : ((i.length : Int) != ((n - 4 : Nat) : Int)) = true := by rw [bne_iff_ne]; omega
        rw [e1, e2, e3]
        refine contract_of (N := _) (vars := _) (c := bodyOf Try.f24) Try.func24 (body_eq rfl) rfl rfl (by rfl) mixed _ _ trivial 1000 ?_
        simp only [bodyOf, Try.f24, Option.getD_some, argA, argE, List.length_cons, List.length_nil, Nat.reduceAdd, Nat.reduceSub, List.replicate, List.cons_append, List.nil_append]
        simp only [↓PX, SX, SYX, EY, simprocAttr, TYX, UX, guard_un, IOX, mv_fa, plain_s, plain_r, plain_p]
        repeat (first | refine DrawVC.intro (by kernel_rfl) ?_ | refine And.intro (by omega) ?_ | exact trivial | simp only [↓PX, SX, SYX, EY, simprocAttr, TYX, UX, guard_un, IOX, mv_fa, plain_s, plain_r, plain_p, d0, dd, d3, d5, hqm, hq0, b_shl_iu, hsh, w4, b0, o7, k7, k8])
      by_cases l1 : t.length = n - 4
      rotate_left
      · obtain ⟨e1, e2, e3⟩ := e50 (by rw [hN]; omega)
        have b0 : ((i.length : Int) != ((n - 4 : Nat) : Int)) = false := by rw [l0]; simp
        have b1 : ((t.length : Int) != ((n - 4 : Nat) : Int)) = true := by rw [bne_iff_ne]; omega
        rw [e1, e2, e3]
        refine contract_of (N := _) (vars := _) (c := bodyOf Try.f24) Try.func24 (body_eq rfl) rfl rfl (by rfl) mixed _ _ trivial 1000 ?_
        simp only [bodyOf, Try.f24, Option.getD_some, argA, argE, List.length_cons, List.length_nil, Nat.reduceAdd, Nat.reduceSub, List.replicate, List.cons_append, List.nil_append]
        simp only [↓PX, SX, SYX, EY, simprocAttr, TYX, UX, guard_un, IOX, mv_fa, plain_s, plain_r, plain_p]
        repeat (first | refine DrawVC.intro (by kernel_rfl) ?_ | refine And.intro (by omega) ?_ | exact trivial | simp only [↓PX, SX, SYX, EY, simprocAttr, TYX, UX, guard_un, IOX, mv_fa, plain_s, plain_r, plain_p, d0, dd, d3, d5, hqm, hq0, b_shl_iu, hsh, w4, b0, b1, o7, k7, k8])
      by_cases l2 : so.length = n - 4
      rotate_left
      · obtain ⟨e1, e2, e3⟩ := e50 (by rw [hN]; omega)
        have b0 : ((i.length : Int) != ((n - 4 : Nat) : Int)) = false := by rw [l0]; simp
        have b1 : ((t.length : Int) != ((n - 4 : Nat) : Int)) = false := by rw [l1]; simp
        have b2 : ((so.length : Int) != ((n - 4 : Nat) : Int)) = true := by rw [bne_iff_ne]; omega
        rw [e1, e2, e3]
        refine contract_of (N := _) (vars := _) (c := bodyOf Try.f24) Try.func24 (body_eq rfl) rfl rfl (by rfl) mixed _ _ trivial 1000 ?_
        simp only [bodyOf, Try.f24, Option.getD_some, argA, argE, List.length_cons, List.length_nil, Nat.reduceAdd, Nat.reduceSub, List.replicate, List.cons_append, List.nil_append]
        simp only [↓PX, SX, SYX, EY, simprocAttr, TYX, UX, guard_un, IOX, mv_fa, plain_s, plain_r, plain_p]
        repeat (first | refine DrawVC.intro (by kernel_rfl) ?_ | refine And.intro (by omega) ?_ | exact trivial | simp only [↓PX, SX, SYX, EY, simprocAttr, TYX, UX, guard_un, IOX, mv_fa, plain_s, plain_r, plain_p, d0, dd, d3, d5, hqm, hq0, b_shl_iu, hsh, w4, b0, b1, b2, o7, k7, k8])
      by_cases l3 : ma.length = n - 4
      rotate_left
      · obtain ⟨e1, e2, e3⟩ := e50 (by rw [hN]; omega)
        have b0 : ((i.length : Int) != ((n - 4 : Nat) : Int)) = false := by rw [l0]; simp
        have b1 : ((t.length : Int) != ((n - 4 : Nat) : Int)) = false := by rw [l1]; simp
        have b2 : ((so.length : Int) != ((n - 4 : Nat) : Int)) = false := by rw [l2]; simp
        have b3 : ((ma.length : Int) != ((n - 4 : Nat) : Int)) = true := by rw [bne_iff_ne]; omega
        rw [e1, e2, e3]
        refine contract_of (N := _) (vars := _) (c := bodyOf Try.f24) Try.func24 (body_eq rfl) rfl rfl (by rfl) mixed _ _ trivial 1000 ?_
        simp only [bodyOf, Try.f24, Option.getD_some, argA, argE, List.length_cons, List.length_nil, Nat.reduceAdd, Nat.reduceSub, List.replicate, List.cons_append, List.nil_append]
        simp only [↓PX, SX, SYX, EY, simprocAttr, TYX, UX, guard_un, IOX, mv_fa, plain_s, plain_r, plain_p]
        repeat (first | refine DrawVC.intro (by kernel_rfl) ?_ | refine And.intro (by omega) ?_ | exact trivial | simp only [↓PX, SX, SYX, EY, simprocAttr, TYX, UX, guard_un, IOX, mv_fa, plain_s, plain_r, plain_p, d0, dd, d3, d5, hqm, hq0, b_shl_iu, hsh, w4, b0, b1, b2, b3, o7, k7, k8])
      have b0 : ((i.length : Int) != ((n - 4 : Nat) : Int)) = false := by rw [l0]; simp
      have b1 : ((t.length : Int) != ((n - 4 : Nat) : Int)) = false := by rw [l1]; simp
      have b2 : ((so.length : Int) != ((n - 4 : Nat) : Int)) = false := by rw [l2]; simp
      have b3 : ((ma.length : Int) != ((n - 4 : Nat) : Int)) = false := by rw [l3]; simp
      refine contract_of (N := _) (vars := _) (c := bodyOf Try.f24) Try.func24 (body_eq rfl) rfl rfl (by rfl) mixed _ _ trivial 1000 ?_
      simp only [bodyOf, Try.f24, Option.getD_some, argA, argE, List.length_cons, List.length_nil, Nat.reduceAdd, Nat.reduceSub, List.replicate, List.cons_append, List.nil_append]
      simp only [↓PX, SX, SYX, EY, simprocAttr, TYX, UX, guard_un, IOX, mv_fa, plain_s, plain_r, plain_p]
      repeat (first | refine DrawVC.intro (by kernel_rfl) ?_ | refine And.intro (by omega) ?_ | exact trivial | simp only [↓PX, SX, SYX, EY, simprocAttr, TYX, UX, guard_un, IOX, mv_fa, plain_s, plain_r, plain_p, d0, dd, d3, d5, hqm, hq0, b_shl_iu, hsh, w4, b0, b1, b2, b3, o7, k7, k8])
      have hdw : ∀ r, pdD s β γ so ma r < md s := fun r => md_mod s _
      have e100 : (∃ r, r < n - 4 ∧ pdD s β γ so ma r = 0) → pdE s q β γ i t so ma cs = 100 ∧ pdL s q β γ i t so ma cs = [] ∧ pdJ s q β γ i t so ma cs = 0 := by
        rintro ⟨r, hr, h0⟩
        have hb : pdBad s β γ so ma (pdN q - 4) = true := by
          unfold pdBad; rw [List.any_eq_true]; exact ⟨r, List.mem_range.2 (by rw [hN]; exact hr), by rw [h0]; rfl⟩
        have e1 : pdE s q β γ i t so ma cs = 100 := by unfold pdE; rw [if_pos hk, if_pos (by omega), if_pos (by rw [hN]; exact ⟨l0, l1, l2, l3⟩), if_pos hb]
        exact ⟨e1, by unfold pdL; rw [e1]; rfl, by unfold pdJ; rw [e1]; rfl⟩
      have eok : (∀ r, r < n - 4 → pdD s β γ so ma r ≠ 0) → pdE s q β γ i t so ma cs = if cs.length < 3 then 81 else 0 := by
        intro h0
        have hb : pdBad s β γ so ma (pdN q - 4) = false := by
          unfold pdBad; rw [List.any_eq_false]; intro r hr; rw [beq_iff_eq]; exact h0 r (by rw [← hN]; exact List.mem_range.1 hr)
        unfold pdE; rw [if_pos hk, if_pos (by omega), if_pos (by rw [hN]; exact ⟨l0, l1, l2, l3⟩), hb]; rfl
      have wof : ∀ {l : List Nat} {r : Nat}, (∀ z ∈ l, z < W256) → l.getD r 0 < W256 := fun {l r} h => by
        rw [List.getD_eq_getElem?_getD]
        cases h0 : l[r]? with
        | none => exact (by decide : (0 : Nat) < W256)
        | some z => exact h z (List.mem_of_getElem? h0)
      refine loop_hav ?_
      simp only [↓PX, SX, SYX, EY, simprocAttr, TYX, UX, guard_un, IOX, mv_fa, plain_s, plain_r, plain_p]
      refine loop_go mixed (by trivial) (γ := Nat) (fun r => r ≤ n - 4 ∧ ∀ j, j < r → pdD s β γ so ma j ≠ 0) (fun r => n - 4 - r) (fun r => [(25, iv r), (23, .o (.r 201 (r + 1))), (73, .o .any)]) (fun r => [(201, .row 24 4 (r + 1) (LC eC (tab (r + 1) (pdZ s β γ i t so ma))))]) 0 ⟨Nat.zero_le _, fun j hj => absurd hj (Nat.not_lt_zero _)⟩ (St.le_of id (by simp [-List.getD_eq_getElem?_getD, SYX, iv, Tle, AVle, A0le, Mem.get, LC, tab, List.range_succ, pdZ, eC]) (by simp [-List.getD_eq_getElem?_getD, SYX, Mle, Ele, Hle, Tle, AVle, A0le, Mem.get, LC, tab, List.range_succ, pdZ, eC]) (by simp [SYX]) (by simp [SYX])) ?_
      rintro r ⟨hr, hnz⟩
      by_cases h0 : r < n - 4
      · have c0 : decide ((r : Int) < ((n - 4 : Nat) : Int)) = true := decide_eq_true (by omega)
        have ldi := eL_ld (l := i) (j := r) (by omega)
        have ldt := eL_ld (l := t) (j := r) (by omega)
        have lds := eL_ld (l := so) (j := r) (by omega)
        have ldm := eL_ld (l := ma) (j := r) (by omega)
        have hlz : (tab (r + 1) (pdZ s β γ i t so ma)).length = r + 1 := tab_len
        have ldz := eL_ld (l := tab (r + 1) (pdZ s β γ i t so ma)) (j := r) (by omega)
        rw [tab_at (by omega)] at ldz
        have w5 : IntKind.i64.wrap ((r : Int) + 1) = ((r + 1 : Nat) : Int) := wS (by omega)
        have cd := v_two s β γ (so.getD r 0) (ma.getD r 0) hβ hγ (wof hso) (wof hma)
        have cu := v_two s β γ (i.getD r 0) (t.getD r 0) hβ hγ (wof hi) (wof ht)
        have edd : prN s β γ (so.getD r 0) (ma.getD r 0) = pdD s β γ so ma r := rfl
        rw [edd] at cd
        have hdww : pdD s β γ so ma r < W256 := md_w2 (hdw r)
        have hlx : (r : Int) < ((n - 4 : Nat) : Int) := by omega
        have hly : (0 : Int) ≤ (r : Int) := by omega
        repeat (first | refine DrawVC.intro (by kernel_rfl) ?_ | refine And.intro (by omega) ?_ | exact trivial | simp only [↓PX, SX, SYX, EY, simprocAttr, TYX, UX, guard_un, IOX, mv_fa, plain_s, plain_r, plain_p, c0, lds, ldm, l0, l1, l2, l3])
        refine CallVC.intro (cd) ⟨rfl, rfl, rfl, rfl, rfl, trivial⟩ rfl rfl ?_
        simp only [↓PX, SX, SYX, EY, simprocAttr, TYX, UX, guard_un, IOX, mv_fa, plain_s, plain_r, plain_p]
        by_cases hz0 : pdD s β γ so ma r = 0
        · obtain ⟨e1, e2, e3⟩ := e100 ⟨r, h0, hz0⟩
          rw [e1, e2, e3]
          have e4 : eqN (pdD s β γ so ma r) 0 = true := by rw [hz0]; exact eqN_self
          repeat (first | refine DrawVC.intro (by kernel_rfl) ?_ | refine And.intro (by omega) ?_ | exact trivial | simp only [↓PX, SX, SYX, EY, simprocAttr, TYX, UX, guard_un, IOX, mv_fa, plain_s, plain_r, plain_p, e4, o7, k7, k8])
        · have e4 : eqN (pdD s β γ so ma r) 0 = false := by rw [eqN_eq hdww (by decide)]; exact beq_eq_false_iff_ne.2 hz0
          have cb := v_By s (prN s β γ (i.getD r 0) (t.getD r 0)) (pdD s β γ so ma r) (prN_w s β γ _ _) hdww
          have c2 := v_Mul s (pdZ s β γ i t so ma r) (prN s β γ (i.getD r 0) (t.getD r 0) * inv s (pdD s β γ so ma r) % md s) (pdZ_w s β γ i t so ma r) (md_w s _)
          have ezs : pdZ s β γ i t so ma r * (prN s β γ (i.getD r 0) (t.getD r 0) * inv s (pdD s β γ so ma r) % md s) % md s = pdZ s β γ i t so ma (r + 1) := by
            simp only [pdZ]
            rw [Nat.mul_mod, Nat.mod_mod, ← Nat.mul_mod, Nat.mod_mul_mod, Nat.mul_comm (prN s β γ (i.getD r 0) (t.getD r 0)), Nat.mul_assoc]
          rw [ezs] at c2
          repeat (first | refine DrawVC.intro (by kernel_rfl) ?_ | refine And.intro (by omega) ?_ | exact trivial | simp only [↓PX, SX, SYX, EY, simprocAttr, TYX, UX, guard_un, IOX, mv_fa, plain_s, plain_r, plain_p, e4, ldi, ldt, ldz, hlz])
          refine CallVC.intro (cu) ⟨rfl, rfl, rfl, rfl, rfl, trivial⟩ rfl rfl ?_
          simp only [↓PX, SX, SYX, EY, simprocAttr, TYX, UX, guard_un, IOX, mv_fa, plain_s, plain_r, plain_p]
          refine CallVC.intro (cb) ⟨rfl, rfl, rfl, trivial⟩ rfl rfl ?_
          simp only [↓PX, SX, SYX, EY, simprocAttr, TYX, UX, guard_un, IOX, mv_fa, plain_s, plain_r, plain_p]
          refine CallVC.intro (c2) ⟨rfl, rfl, rfl, trivial⟩ rfl rfl ?_
          simp only [↓PX, SX, SYX, EY, simprocAttr, TYX, UX, guard_un, IOX, mv_fa, plain_s, plain_r, plain_p, tab_snoc, w5]
          exact ⟨⟨by omega, by omega⟩, r + 1, ⟨by omega, fun j hj => by
            rcases Nat.lt_or_ge j r with h | h
            · exact hnz j h
            · have : j = r := by omega
              rw [this]; exact hz0⟩, by omega, (St.le_at [(201, 23)] (by simp [-List.getD_eq_getElem?_getD, SYX, iv, Tle, AVle, A0le, Mem.get, ren, idAt, idO, idA, List.map, Nat.add_assoc]) (by simp [-List.getD_eq_getElem?_getD, SYX, Mle, Ele, Hle, Tle, AVle, A0le, Mem.get, ren, idAt, idO, idA, List.map, Nat.add_assoc]) (by simp [SYX, ren, idAt, idO, idA, List.map, Nat.add_assoc]) (by simp [SYX]))⟩
      · have hrn : r = n - 4 := by omega
        have c0 : decide ((r : Int) < ((n - 4 : Nat) : Int)) = false := decide_eq_false (by omega)
        have e81 := eok (fun j hj => hnz j (by omega))
        have hr1 : r + 1 = n - 3 := by omega
        repeat (first | refine DrawVC.intro (by kernel_rfl) ?_ | refine And.intro (by omega) ?_ | exact trivial | simp only [↓PX, SX, SYX, EY, simprocAttr, TYX, UX, guard_un, IOX, mv_fa, plain_s, plain_r, plain_p, c0])
        rw [hr1]
        refine loop_hav ?_
        simp only [↓PX, SX, SYX, EY, simprocAttr, TYX, UX, guard_un, IOX, mv_fa, plain_s, plain_r, plain_p]
        refine loop_go mixed (by trivial) (γ := Nat) (fun j => j ≤ 3 ∧ j ≤ cs.length) (fun j => 3 - j) (fun j => [(23, .o (.r 201 (n - 3 + j)))]) (fun j => [(201, .row 24 4 (n - 3 + j) (LC eC (tab (n - 3) (pdZ s β γ i t so ma) ++ (cs.take j).map (· % md s)))), (17, .box [y, .int .i64 (j : Int)])]) 0 ⟨Nat.zero_le _, Nat.zero_le _⟩ (St.le_of id (by simp [-List.getD_eq_getElem?_getD, SYX, iv, Tle, AVle, A0le, Mem.get]) (by simp [-List.getD_eq_getElem?_getD, SYX, Mle, Ele, Hle, Tle, AVle, A0le, Mem.get]) (by simp [SYX]) (by simp [SYX])) ?_
        rintro j ⟨hj3, hjc⟩
        have hlz : (tab (n - 3) (pdZ s β γ i t so ma)).length = n - 3 := tab_len
        by_cases j3 : j < 3
        · have c1 : decide (((n - 3 + j : Nat) : Int) < (n : Int)) = true := decide_eq_true (by omega)
          repeat (first | refine DrawVC.intro (by kernel_rfl) ?_ | refine And.intro (by omega) ?_ | exact trivial | simp only [↓PX, SX, SYX, EY, simprocAttr, TYX, UX, guard_un, IOX, mv_fa, plain_s, plain_r, plain_p, c1, o7, k7, k8])
          by_cases hjn : j = cs.length
          · rw [if_pos (by omega)] at e81
            have e2 : pdL s q β γ i t so ma cs = [] := by unfold pdL; rw [e81]; rfl
            have e3 : pdJ s q β γ i t so ma cs = cs.length := by unfold pdJ; rw [e81]; rfl
            rw [e81, e2, e3, hjn]
            refine CallVC.intro cno ⟨⟨rfl, ents_of 8 rfl (fun h => by cases h) (fun _ h => h)⟩, trivial⟩ rfl rfl ?_
            repeat (first | refine DrawVC.intro (by kernel_rfl) ?_ | refine And.intro (by omega) ?_ | exact trivial | simp only [↓PX, SX, SYX, EY, simprocAttr, TYX, UX, guard_un, IOX, mv_fa, plain_s, plain_r, plain_p, o7, k7, k8])
          · refine CallVC.intro (cn j (by omega)) ⟨⟨rfl, ents_of 8 rfl (fun h => by cases h) (fun _ h => h)⟩, trivial⟩ rfl rfl ?_
            have hcw : cs.getD j 0 < W256 := wof hcs
            repeat (first | refine DrawVC.intro (by kernel_rfl) ?_ | refine And.intro (by omega) ?_ | exact trivial | simp only [↓PX, SX, SYX, EY, simprocAttr, TYX, UX, guard_un, IOX, mv_fa, plain_s, plain_r, plain_p, o7, k7, k8])
            refine CallVC.intro (v_Of s (cs.getD j 0) hcw) ⟨rfl, rfl, trivial⟩ rfl rfl ?_
            simp only [↓PX, SX, SYX, EY, simprocAttr, TYX, UX, guard_un, IOX, mv_fa, plain_s, plain_r, plain_p]
            have etk : (cs.take (j + 1)).map (· % md s) = (cs.take j).map (· % md s) ++ [cs.getD j 0 % md s] := by rw [take_snoc (by omega), List.map_append]; rfl
            exact ⟨⟨by omega, by omega⟩, j + 1, ⟨by omega, by omega⟩, by omega, (St.le_at [(201, 23)] (by simp [-List.getD_eq_getElem?_getD, SYX, iv, Tle, AVle, A0le, Mem.get, ren, idAt, idO, idA, List.map, etk, Nat.add_assoc, List.append_assoc]) (by simp [-List.getD_eq_getElem?_getD, SYX, Mle, Ele, Hle, Tle, AVle, A0le, Mem.get, ren, idAt, idO, idA, List.map, etk, Nat.add_assoc, List.append_assoc]) (by simp [SYX, ren, idAt, idO, idA, List.map, etk, Nat.add_assoc, List.append_assoc]) (by simp [SYX]))⟩
        · have c1 : decide (((n - 3 + j : Nat) : Int) < (n : Int)) = false := decide_eq_false (by omega)
          have hj : j = 3 := by omega
          subst hj
          rw [if_neg (by omega)] at e81
          have e2 : pdL s q β γ i t so ma cs = tab (n - 3) (pdZ s β γ i t so ma) ++ (cs.take 3).map (· % md s) := by unfold pdL; rw [e81, hN]; rfl
          have e3 : pdJ s q β γ i t so ma cs = 3 := by unfold pdJ; rw [e81]; rfl
          have el : (tab (n - 3) (pdZ s β γ i t so ma) ++ (cs.take 3).map (· % md s)).length = n - 3 + 3 := by
            rw [List.length_append, hlz, List.length_map, List.length_take]; omega
          rw [e81, e2, e3, el]
          repeat (first | refine DrawVC.intro (by kernel_rfl) ?_ | refine And.intro (by omega) ?_ | exact trivial | simp only [↓PX, SX, SYX, EY, simprocAttr, TYX, UX, guard_un, IOX, mv_fa, plain_s, plain_r, plain_p, c1, o7, k7, k8])
end Go.Sx
