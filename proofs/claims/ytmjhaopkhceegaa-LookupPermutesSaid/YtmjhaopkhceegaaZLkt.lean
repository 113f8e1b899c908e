/-
  Permute of the reference. No conditions.
-/
import Derived.Test.YtmjhaopkhceegaaZLks
namespace Go.Sx
open Go.Proofs Go.Num
-- SY
-- TY: TYX, UX, guard_un, IOX
set_option maxRecDepth 100000
set_option linter.unusedSimpArgs false
set_option pp.deepTerms true
set_option pp.maxSteps 100000
/-- What the first loop keeps. -/
structure VmI (n : Nat) (a b : List Nat) (p : Nat × List Nat) : Prop where
  i : p.1 ≤ n
  l : lft (ahd a p.1) (a.drop p.1) p.2 = lft none a b
  w : ∀ z ∈ p.2, z < W256
  n : p.2.length ≤ b.length
/-- What the second loop keeps. -/
structure VbI (n : Nat) (a L : List Nat) (p : Nat × Nat × List Nat) : Prop where
  i : p.1 ≤ n
  l : p.2.2 ++ mtc (ahd a p.1) (a.drop p.1) (L.drop p.2.1) = mtc none a L
  r : p.2.1 + (rps (ahd a p.1) (a.drop p.1) p.1).length = L.length
  n : p.2.2.length = p.1
theorem mtc_cons {p : Option Nat} {v : Nat} {a l : List Nat} : mtc p (v :: a) l = if p = some v then l.headD 0 :: mtc (some v) a l.tail else v :: mtc (some v) a l := rfl
theorem rps_cons' {p : Option Nat} {v k : Nat} {a : List Nat} : rps p (v :: a) k = if p = some v then k :: rps (some v) a (k + 1) else rps (some v) a (k + 1) := rfl
theorem VbI.rep {n i t : Nat} {a L out : List Nat} (h : VbI n a L (i, t, out)) (hi : i < n) (hn : a.length = n) (hrep : ahd a i = some (a.getD i 0)) : t < L.length ∧ VbI n a L (i + 1, t + 1, out ++ [L.getD t 0]) := by
  have hl := h.l
  have hr := h.r
  have hz := h.n
  simp only at hl hr hz
  rw [drop_at (by omega)] at hl hr
  rw [mtc_cons, if_pos hrep] at hl
  rw [rps_cons', if_pos hrep, List.length_cons] at hr
  have ht : t < L.length := by omega
  refine ⟨ht, hi, ?_, ?_, ?_⟩
  · show (out ++ [L.getD t 0]) ++ mtc (ahd a (i + 1)) _ (L.drop (t + 1)) = _
    rw [ahd_succ, List.append_assoc]
    rw [drop_at ht, List.headD_cons, List.tail_cons] at hl
    exact hl
  · show t + 1 + (rps (ahd a (i + 1)) (a.drop (i + 1)) (i + 1)).length = L.length
    rw [ahd_succ]; omega
  · show (out ++ [_]).length = i + 1
    rw [List.length_append, hz]; rfl
theorem VbI.new {n i t : Nat} {a L out : List Nat} (h : VbI n a L (i, t, out)) (hi : i < n) (hn : a.length = n) (hrep : ¬ ahd a i = some (a.getD i 0)) : VbI n a L (i + 1, t, out ++ [a.getD i 0]) := by
  have hl := h.l
  have hr := h.r
  have hz := h.n
  simp only at hl hr hz
  rw [drop_at (by omega)] at hl hr
  rw [mtc_cons, if_neg hrep] at hl
  rw [rps_cons', if_neg hrep] at hr
  refine ⟨hi, ?_, ?_, ?_⟩
  · show (out ++ [a.getD i 0]) ++ mtc (ahd a (i + 1)) _ (L.drop t) = _
    rw [ahd_succ, List.append_assoc]
    exact hl
  · show t + (rps (ahd a (i + 1)) (a.drop (i + 1)) (i + 1)).length = L.length
    rw [ahd_succ]; omega
  · show (out ++ [_]).length = i + 1
    rw [List.length_append, hz]; rfl
set_option maxHeartbeats 1600000 in
theorem v_Permute (s : Int) (x y : List Nat) (hx : ∀ z ∈ x, z < W256) (hy : ∀ z ∈ y, z < W256) (hbx : x.length * 32 ≤ 140737488351232) (hby : y.length * 32 ≤ 140737488351232) :
    Contract Try.prog 13 [.val (.int .i64 s), .sl x.length 4 (LC eC x), .sl y.length 4 (LC eC y)] [.row 24 4 (pm s x y).1.length (LC eC (pm s x y).1), .row 24 4 (pm s x y).2.1.length (LC eC (pm s x y).2.1), .val (.int .i64 (pm s x y).2.2)] := by
  cases hk : kn s with
  | false =>
    have e : pm s x y = ([], [], 20) := by unfold pm; rw [if_neg (by rw [hk]; decide)]
    rw [e]
    cases d0 : decide (s < 0) with
    | true =>
      refine contract_of (N := _) (vars := _) (c := bodyOf Try.f13) Try.func13 (body_eq rfl) rfl rfl (by rfl) mixed _ _ trivial 1000 ?_
      simp only [bodyOf, Try.f13, Option.getD_some, argA, argE, List.length_cons, List.length_nil, Nat.reduceAdd, Nat.reduceSub, List.replicate, List.cons_append, List.nil_append]
      simp only [↓PX, SX, SYX, EY, simprocAttr, TYX, UX, guard_un, IOX]
      simp only [↓PX, SX, SYX, EY, simprocAttr, TYX, UX, guard_un, IOX, d0]
    | false =>
      have dd : decide (3 < s) = true := by
        have q0 := of_decide_eq_false d0
        refine decide_eq_true ?_
        rcases sort_cases s with rfl | rfl | rfl | rfl | ⟨h0, h1, h2, h3⟩
        · simp [kn] at hk
        · simp [kn] at hk
        · simp [kn] at hk
        · simp [kn] at hk
        · simp at h0 h1 h2 h3; omega
      refine contract_of (N := _) (vars := _) (c := bodyOf Try.f13) Try.func13 (body_eq rfl) rfl rfl (by rfl) mixed _ _ trivial 1000 ?_
      simp only [bodyOf, Try.f13, Option.getD_some, argA, argE, List.length_cons, List.length_nil, Nat.reduceAdd, Nat.reduceSub, List.replicate, List.cons_append, List.nil_append]
      simp only [↓PX, SX, SYX, EY, simprocAttr, TYX, UX, guard_un, IOX]
      simp only [↓PX, SX, SYX, EY, simprocAttr, TYX, UX, guard_un, IOX, d0, dd]
  | true =>
    have hs4 : 0 ≤ s ∧ s ≤ 3 := by
      rcases kn_or s hk with rfl | rfl | rfl | rfl <;> decide
    have d0 : decide (s < 0) = false := decide_eq_false (by omega)
    have dd : decide (3 < s) = false := decide_eq_false (by omega)
    by_cases h1 : x.length = y.length
    · have b1 : ((x.length : Int) != (y.length : Int)) = false := by simp [h1]
      by_cases h64 : x.length ≤ 64
      · have b2 : decide ((64 : Int) < (x.length : Int)) = false := decide_eq_false (by omega)
        have ax := v_rising s x hx hbx
        have ay := v_rising s y hy hby
        have hla : (asc (rsd s x)).length = x.length := (asc_len _).trans (List.length_map _)
        have hlb : (asc (rsd s y)).length = y.length := (asc_len _).trans (List.length_map _)
        have haw : ∀ z ∈ asc (rsd s x), z < W256 := fun z hz => rsd_w (s := s) z (asc_mem.1 hz)
        have hbw : ∀ z ∈ asc (rsd s y), z < W256 := fun z hz => rsd_w (s := s) z (asc_mem.1 hz)
        have e0 : pm s x y = (match lft none (asc (rsd s x)) (asc (rsd s y)) with | some l => (asc (rsd s x), mtc none (asc (rsd s x)) l, 0) | none => ([], [], 200)) := by
          unfold pm
          rw [if_pos hk, if_pos ⟨h1, h64⟩]
          cases lft none (asc (rsd s x)) (asc (rsd s y)) <;> rfl
        refine contract_of (N := _) (vars := _) (c := bodyOf Try.f13) Try.func13 (body_eq rfl) rfl rfl (by rfl) mixed _ _ trivial 1000 ?_
        simp only [bodyOf, Try.f13, Option.getD_some, argA, argE, List.length_cons, List.length_nil, Nat.reduceAdd, Nat.reduceSub, List.replicate, List.cons_append, List.nil_append]
        simp only [↓PX, SX, SYX, EY, simprocAttr, TYX, UX, guard_un, IOX]
        simp only [↓PX, SX, SYX, EY, simprocAttr, TYX, UX, guard_un, IOX, d0, dd, b1, b2]
        refine CallVC.intro (ax) ⟨rfl, (by simp only [argMatch, SX, SYX, EY, simprocAttr, and_self, List.length_append, List.length_map, List.length_set, TYX, UX, guard_un, IOX]), trivial⟩ rfl rfl ?_
        simp only [↓PX, SX, SYX, EY, simprocAttr, TYX, UX, guard_un, IOX]
        refine CallVC.intro (ay) ⟨rfl, (by simp only [argMatch, SX, SYX, EY, simprocAttr, and_self, List.length_append, List.length_map, List.length_set, TYX, UX, guard_un, IOX]), trivial⟩ rfl rfl ?_
        simp only [↓PX, SX, SYX, EY, simprocAttr, TYX, UX, guard_un, IOX]
        generalize asc (rsd s x) = a at *
        generalize asc (rsd s y) = b at *
        refine loop_hav ?_
        simp only [↓PX, SX, SYX, EY, simprocAttr, TYX, UX, guard_un, IOX]
        refine loop_go mixed (by trivial) (γ := Nat × List Nat) (VmI x.length a b) (fun p => x.length - p.1) (fun p => [(11, iv p.1), (10, .o (.r 103 p.2.length)), (38, .o .any), (13, .o .any), (12, .o .any)]) (fun p => [(103, .row 24 4 p.2.length (LC eC p.2))]) (0, b) ⟨Nat.zero_le _, rfl, hbw, Nat.le_refl _⟩ (St.le_of id (by simp [-List.getD_eq_getElem?_getD, SYX, iv, Tle, AVle, A0le, Mem.get, hlb]) (by simp [-List.getD_eq_getElem?_getD, SYX, Mle, Ele, Hle, Tle, AVle, A0le, Mem.get, hlb]) (by simp [SYX]) (by simp [SYX])) ?_
        intro p hp
        obtain ⟨i, L⟩ := p
        have hi : i ≤ x.length := hp.i
        have hw : ∀ z ∈ L, z < W256 := hp.w
        have hLb : L.length ≤ b.length := hp.n
        by_cases h0 : i < x.length
        · have b0 : decide ((i : Int) < (x.length : Int)) = true := decide_eq_true (by omega)
          have ld := eL_ld (l := a) (j := i) (by omega)
          have w5 : IntKind.i64.wrap ((i : Int) + 1) = ((i + 1 : Nat) : Int) := wS (by omega)
          have hv : a.getD i 0 < W256 := by
            rw [List.getD_eq_getElem?_getD, List.getElem?_eq_getElem (show i < a.length by omega)]
            exact haw _ (List.getElem_mem _)
          cases hrep : decide (ahd a i = some (a.getD i 0)) with
          | true =>
            have hrep := of_decide_eq_true hrep
            have hi0 : 0 < i := by
              rcases Nat.eq_zero_or_pos i with h | h
              · subst h; cases hrep
              · exact h
            have g0 : decide ((0 : Int) < (i : Int)) = true := decide_eq_true (by omega)
            have w6 : IntKind.i64.wrap ((i : Int) - 1) = ((i - 1 : Nat) : Int) := wP hi0 (by omega)
            have ld2 := eL_ld (l := a) (j := i - 1) (by omega)
            have heq : a.getD (i - 1) 0 = a.getD i 0 := by
              unfold ahd at hrep
              rw [if_neg (by omega)] at hrep
              exact Option.some.inj hrep
            rw [heq] at ld2
            repeat (first | refine DrawVC.intro (by kernel_rfl) ?_ | refine And.intro (by omega) ?_ | exact trivial | simp only [↓PX, SX, SYX, EY, simprocAttr, TYX, UX, guard_un, IOX, b0, ld, hla, g0, w6, ld2, w5])
            exact ⟨(i + 1, L), ⟨h0, (by show lft (ahd a (i + 1)) _ L = _; have hl := hp.l; simp only at hl; rw [drop_at (by omega), lft_cons, if_pos hrep] at hl; rw [ahd_succ]; exact hl), hw, hLb⟩, (by show x.length - (i + 1) < x.length - i; omega), (St.le_of id (by simp [-List.getD_eq_getElem?_getD, SYX, iv, Tle, AVle, A0le, Mem.get]) (by simp [-List.getD_eq_getElem?_getD, SYX, Mle, Ele, Hle, Tle, AVle, A0le, Mem.get]) (by simp [SYX]) (by simp [SYX]))⟩
          | false =>
            have hrep := of_decide_eq_false hrep
            cases g0 : decide ((0 : Int) < (i : Int)) with
            | false =>
              repeat (first | refine DrawVC.intro (by kernel_rfl) ?_ | refine And.intro (by omega) ?_ | exact trivial | simp only [↓PX, SX, SYX, EY, simprocAttr, TYX, UX, guard_un, IOX, b0, g0])
              refine loop_hav ?_
              simp only [↓PX, SX, SYX, EY, simprocAttr, TYX, UX, guard_un, IOX]
              refine loop_go mixed (by trivial) (γ := Nat) (fun k => k ≤ L.length ∧ ∀ j, j < k → L.getD j 0 ≠ a.getD i 0) (fun k => L.length - k) (fun k => [(12, iv k)]) (fun k => []) 0 ⟨Nat.zero_le _, fun j hj => absurd hj (Nat.not_lt_zero _)⟩ (St.le_of id (by simp [-List.getD_eq_getElem?_getD, SYX, iv, Tle, AVle, A0le, Mem.get]) (by simp [-List.getD_eq_getElem?_getD, SYX, Mle, Ele, Hle, Tle, AVle, A0le, Mem.get]) (by simp [SYX]) (by simp [SYX])) ?_
              intro k hk2
              obtain ⟨hkL, hkn⟩ := hk2
              simp only [↓PX, SX, SYX, EY, simprocAttr, TYX, UX, guard_un, IOX]
              cases d1 : decide ((k : Int) < (L.length : Int)) with
              | true =>
                have h1 := of_decide_eq_true d1
                have ld3 := eL_ld (l := L) (j := k) (by omega)
                have hv3 : L.getD k 0 < W256 := by
                  rw [List.getD_eq_getElem?_getD, List.getElem?_eq_getElem (show k < L.length by omega)]
                  exact hw _ (List.getElem_mem _)
                have w7 : IntKind.i64.wrap ((k : Int) + 1) = ((k + 1 : Nat) : Int) := wS (by omega)
                cases d2 : eqN (L.getD k 0) (a.getD i 0) with
                | true =>
                  have heq : L.getD k 0 = a.getD i 0 := by rw [eqN_eq hv3 hv] at d2; exact beq_iff_eq.1 d2
                  have d3 : ((k : Int) == (L.length : Int)) = false := by rw [beq_eq_false_iff_ne]; omega
                  have hm : a.getD i 0 ∈ L := by
                    rw [← heq, List.getD_eq_getElem?_getD, List.getElem?_eq_getElem (show k < L.length by omega)]; exact List.getElem_mem _
                  have hkp : k = plc (a.getD i 0) L := plc_uniq hkn hkL (fun _ => heq)
                  have hE : L.take k ++ L.drop (k + 1) = L.erase (a.getD i 0) := by rw [← List.eraseIdx_eq_take_drop_succ, hkp, plc_erase]
                  have hEl : (L.erase (a.getD i 0)).length = L.length - 1 := List.length_erase_of_mem hm
                  have t1 : List.take (k * 4) (LC eC L) = LC eC (L.take k) := LC_take eC_len L k
                  have t2 : List.take ((L.length - (k + 1)) * 4) (List.drop ((k + 1) * 4) (LC eC L)) = LC eC (L.drop (k + 1)) := by
                    rw [LC_drop eC_len, LC_take eC_len, List.take_of_length_le (by rw [List.length_drop]; exact Nat.le_refl _)]
                  have t3 : LC eC (L.take k) ++ LC eC (L.drop (k + 1)) = LC eC (L.erase (a.getD i 0)) := by rw [LC_app, hE]
                  have q1 : (LC eC (L.take k)).length = k * 4 := by rw [LC_len eC_len, List.length_take, Nat.min_eq_left hkL]
                  have q2 : (LC eC (L.drop (k + 1))).length = (L.length - (k + 1)) * 4 := by rw [LC_len eC_len, List.length_drop]
                  have q3 : k + (L.length - (k + 1)) = (L.erase (a.getD i 0)).length := by rw [hEl]; omega
                  repeat (first | refine DrawVC.intro (by kernel_rfl) ?_ | refine And.intro (by omega) ?_ | exact trivial | simp only [↓PX, SX, SYX, EY, simprocAttr, TYX, UX, guard_un, IOX, d1, ld3, ld, d2, d3, w7, t1, t2, t3, q1, q2, q3, w5])
                  exact ⟨(i + 1, L.erase (a.getD i 0)), ⟨h0, (by show lft (ahd a (i + 1)) _ (L.erase _) = _; have hl := hp.l; simp only at hl; rw [drop_at (by omega), lft_cons, if_neg hrep, if_pos hm] at hl; rw [ahd_succ]; exact hl), fun z hz => hw z (List.mem_of_mem_erase hz), (by rw [hEl]; omega)⟩, (by show x.length - (i + 1) < x.length - i; omega), (St.le_at [(103, 10)] (by simp [-List.getD_eq_getElem?_getD, SYX, iv, Tle, AVle, A0le, Mem.get, ren, idAt, idO, idA, List.map, b1]) (by simp [-List.getD_eq_getElem?_getD, SYX, Mle, Ele, Hle, Mem.get, ren, idAt, idO, idA, List.map, b1]) (by simp [SYX, ren, idAt, idO, idA, List.map, b1]) (by simp [SYX]))⟩
                | false =>
                  have hne : L.getD k 0 ≠ a.getD i 0 := by rw [eqN_eq hv3 hv] at d2; exact beq_eq_false_iff_ne.1 d2
                  repeat (first | refine DrawVC.intro (by kernel_rfl) ?_ | refine And.intro (by omega) ?_ | exact trivial | simp only [↓PX, SX, SYX, EY, simprocAttr, TYX, UX, guard_un, IOX, d1, ld3, ld, d2, w7])
                  exact ⟨k + 1, ⟨by omega, fun j hj => by
                    rcases Nat.lt_or_ge j k with h | h
                    · exact hkn j h
                    · have : j = k := by omega
                      rw [this]; exact hne⟩, by omega, (St.le_of id (by simp [-List.getD_eq_getElem?_getD, SYX, iv, Tle, AVle, A0le, Mem.get]) (by simp [-List.getD_eq_getElem?_getD, SYX, Mle, Ele, Hle, Tle, AVle, A0le, Mem.get]) (by simp [SYX]) (by simp [SYX]))⟩
              | false =>
                have h1 : k = L.length := by have := of_decide_eq_false d1; omega
                have d3 : ((k : Int) == (L.length : Int)) = true := by rw [beq_iff_eq]; omega
                have hm : ¬ a.getD i 0 ∈ L := fun hm => by
                  obtain ⟨j, hj, e⟩ := List.getElem_of_mem hm
                  refine hkn j (by omega) ?_
                  rw [List.getD_eq_getElem?_getD, List.getElem?_eq_getElem hj]; exact e
                have hn : lft none a b = none := by
                  have hl := hp.l
                  simp only at hl
                  rw [drop_at (by omega), lft_cons, if_neg hrep, if_neg hm] at hl
                  exact hl.symm
                rw [hn] at e0
                rw [e0]
                repeat (first | refine DrawVC.intro (by kernel_rfl) ?_ | refine And.intro (by omega) ?_ | exact trivial | simp only [↓PX, SX, SYX, EY, simprocAttr, TYX, UX, guard_un, IOX, d1, d3])
            | true =>
              have hi0 : 0 < i := by have := of_decide_eq_true g0; omega
              have w6 : IntKind.i64.wrap ((i : Int) - 1) = ((i - 1 : Nat) : Int) := wP hi0 (by omega)
              have ld2 := eL_ld (l := a) (j := i - 1) (by omega)
              have hne0 : ¬ a.getD i 0 = a.getD (i - 1) 0 := by
                intro e; apply hrep; unfold ahd; rw [if_neg (by omega), e]
              have hv2 : a.getD (i - 1) 0 < W256 := by
                rw [List.getD_eq_getElem?_getD, List.getElem?_eq_getElem (show i - 1 < a.length by omega)]
                exact haw _ (List.getElem_mem _)
              have e6 : eqN (a.getD i 0) (a.getD (i - 1) 0) = false := by
                rw [eqN_eq hv hv2]; exact beq_eq_false_iff_ne.2 hne0
              repeat (first | refine DrawVC.intro (by kernel_rfl) ?_ | refine And.intro (by omega) ?_ | exact trivial | simp only [↓PX, SX, SYX, EY, simprocAttr, TYX, UX, guard_un, IOX, b0, g0, ld, ld2, w6, e6])
              refine loop_hav ?_
              simp only [↓PX, SX, SYX, EY, simprocAttr, TYX, UX, guard_un, IOX]
              refine loop_go mixed (by trivial) (γ := Nat) (fun k => k ≤ L.length ∧ ∀ j, j < k → L.getD j 0 ≠ a.getD i 0) (fun k => L.length - k) (fun k => [(12, iv k)]) (fun k => []) 0 ⟨Nat.zero_le _, fun j hj => absurd hj (Nat.not_lt_zero _)⟩ (St.le_of id (by simp [-List.getD_eq_getElem?_getD, SYX, iv, Tle, AVle, A0le, Mem.get]) (by simp [-List.getD_eq_getElem?_getD, SYX, Mle, Ele, Hle, Tle, AVle, A0le, Mem.get]) (by simp [SYX]) (by simp [SYX])) ?_
              intro k hk2
              obtain ⟨hkL, hkn⟩ := hk2
              simp only [↓PX, SX, SYX, EY, simprocAttr, TYX, UX, guard_un, IOX]
              cases d1 : decide ((k : Int) < (L.length : Int)) with
              | true =>
                have h1 := of_decide_eq_true d1
                have ld3 := eL_ld (l := L) (j := k) (by omega)
                have hv3 : L.getD k 0 < W256 := by
                  rw [List.getD_eq_getElem?_getD, List.getElem?_eq_getElem (show k < L.length by omega)]
                  exact hw _ (List.getElem_mem _)
                have w7 : IntKind.i64.wrap ((k : Int) + 1) = ((k + 1 : Nat) : Int) := wS (by omega)
                cases d2 : eqN (L.getD k 0) (a.getD i 0) with
                | true =>
                  have heq : L.getD k 0 = a.getD i 0 := by rw [eqN_eq hv3 hv] at d2; exact beq_iff_eq.1 d2
                  have d3 : ((k : Int) == (L.length : Int)) = false := by rw [beq_eq_false_iff_ne]; omega
                  have hm : a.getD i 0 ∈ L := by
                    rw [← heq, List.getD_eq_getElem?_getD, List.getElem?_eq_getElem (show k < L.length by omega)]; exact List.getElem_mem _
                  have hkp : k = plc (a.getD i 0) L := plc_uniq hkn hkL (fun _ => heq)
                  have hE : L.take k ++ L.drop (k + 1) = L.erase (a.getD i 0) := by rw [← List.eraseIdx_eq_take_drop_succ, hkp, plc_erase]
                  have hEl : (L.erase (a.getD i 0)).length = L.length - 1 := List.length_erase_of_mem hm
                  have t1 : List.take (k * 4) (LC eC L) = LC eC (L.take k) := LC_take eC_len L k
                  have t2 : List.take ((L.length - (k + 1)) * 4) (List.drop ((k + 1) * 4) (LC eC L)) = LC eC (L.drop (k + 1)) := by
                    rw [LC_drop eC_len, LC_take eC_len, List.take_of_length_le (by rw [List.length_drop]; exact Nat.le_refl _)]
                  have t3 : LC eC (L.take k) ++ LC eC (L.drop (k + 1)) = LC eC (L.erase (a.getD i 0)) := by rw [LC_app, hE]
                  have q1 : (LC eC (L.take k)).length = k * 4 := by rw [LC_len eC_len, List.length_take, Nat.min_eq_left hkL]
                  have q2 : (LC eC (L.drop (k + 1))).length = (L.length - (k + 1)) * 4 := by rw [LC_len eC_len, List.length_drop]
                  have q3 : k + (L.length - (k + 1)) = (L.erase (a.getD i 0)).length := by rw [hEl]; omega
                  repeat (first | refine DrawVC.intro (by kernel_rfl) ?_ | refine And.intro (by omega) ?_ | exact trivial | simp only [↓PX, SX, SYX, EY, simprocAttr, TYX, UX, guard_un, IOX, d1, ld3, ld, d2, d3, w7, t1, t2, t3, q1, q2, q3, w5])
                  exact ⟨(i + 1, L.erase (a.getD i 0)), ⟨h0, (by show lft (ahd a (i + 1)) _ (L.erase _) = _; have hl := hp.l; simp only at hl; rw [drop_at (by omega), lft_cons, if_neg hrep, if_pos hm] at hl; rw [ahd_succ]; exact hl), fun z hz => hw z (List.mem_of_mem_erase hz), (by rw [hEl]; omega)⟩, (by show x.length - (i + 1) < x.length - i; omega), (St.le_at [(103, 10)] (by simp [-List.getD_eq_getElem?_getD, SYX, iv, Tle, AVle, A0le, Mem.get, ren, idAt, idO, idA, List.map, b1]) (by simp [-List.getD_eq_getElem?_getD, SYX, Mle, Ele, Hle, Mem.get, ren, idAt, idO, idA, List.map, b1]) (by simp [SYX, ren, idAt, idO, idA, List.map, b1]) (by simp [SYX]))⟩
                | false =>
                  have hne : L.getD k 0 ≠ a.getD i 0 := by rw [eqN_eq hv3 hv] at d2; exact beq_eq_false_iff_ne.1 d2
                  repeat (first | refine DrawVC.intro (by kernel_rfl) ?_ | refine And.intro (by omega) ?_ | exact trivial | simp only [↓PX, SX, SYX, EY, simprocAttr, TYX, UX, guard_un, IOX, d1, ld3, ld, d2, w7])
                  exact ⟨k + 1, ⟨by omega, fun j hj => by
                    rcases Nat.lt_or_ge j k with h | h
                    · exact hkn j h
                    · have : j = k := by omega
                      rw [this]; exact hne⟩, by omega, (St.le_of id (by simp [-List.getD_eq_getElem?_getD, SYX, iv, Tle, AVle, A0le, Mem.get]) (by simp [-List.getD_eq_getElem?_getD, SYX, Mle, Ele, Hle, Tle, AVle, A0le, Mem.get]) (by simp [SYX]) (by simp [SYX]))⟩
              | false =>
                have h1 : k = L.length := by have := of_decide_eq_false d1; omega
                have d3 : ((k : Int) == (L.length : Int)) = true := by rw [beq_iff_eq]; omega
                have hm : ¬ a.getD i 0 ∈ L := fun hm => by
                  obtain ⟨j, hj, e⟩ := List.getElem_of_mem hm
                  refine hkn j (by omega) ?_
                  rw [List.getD_eq_getElem?_getD, List.getElem?_eq_getElem hj]; exact e
                have hn : lft none a b = none := by
                  have hl := hp.l
                  simp only at hl
                  rw [drop_at (by omega), lft_cons, if_neg hrep, if_neg hm] at hl
                  exact hl.symm
                rw [hn] at e0
                rw [e0]
                repeat (first | refine DrawVC.intro (by kernel_rfl) ?_ | refine And.intro (by omega) ?_ | exact trivial | simp only [↓PX, SX, SYX, EY, simprocAttr, TYX, UX, guard_un, IOX, d1, d3])
        · have b0 : decide ((i : Int) < (x.length : Int)) = false := decide_eq_false (by omega)
          have hin : i = a.length := by omega
          have hf : lft none a b = some L := by
            have := hp.l
            simp only [hin] at this
            rw [List.drop_length] at this
            exact this.symm
          have hpl := (lft_perm hf).length_eq
          rw [List.length_append] at hpl
          have hrl := rps_len a none 0
          rw [hf] at e0
          have e0 : pm s x y = (a, mtc none a L, 0) := e0
          rw [e0]
          repeat (first | refine DrawVC.intro (by kernel_rfl) ?_ | refine And.intro (by omega) ?_ | exact trivial | simp only [↓PX, SX, SYX, EY, simprocAttr, TYX, UX, guard_un, IOX, b0])
          refine loop_hav ?_
          simp only [↓PX, SX, SYX, EY, simprocAttr, TYX, UX, guard_un, IOX]
          refine loop_go mixed (by trivial) (γ := Nat × Nat × List Nat) (VbI x.length a L) (fun p => x.length - p.1) (fun p => [(16, iv p.1), (15, iv p.2.1), (14, .o (.r 131 p.2.2.length)), (92, .o .any)]) (fun p => [(131, .row 24 4 p.2.2.length (LC eC p.2.2))]) (0, 0, []) ⟨Nat.zero_le _, rfl, by show 0 + (rps none a 0).length = L.length; omega, rfl⟩ (St.le_of id (by simp [-List.getD_eq_getElem?_getD, SYX, iv, Tle, AVle, A0le, Mem.get, LC]) (by simp [-List.getD_eq_getElem?_getD, SYX, Mle, Ele, Hle, Tle, AVle, A0le, Mem.get, LC]) (by simp [SYX]) (by simp [SYX])) ?_
          intro q hq
          obtain ⟨j, t, out⟩ := q
          have hj : j ≤ x.length := hq.i
          by_cases h0 : j < x.length
          · have b0 : decide ((j : Int) < (x.length : Int)) = true := decide_eq_true (by omega)
            have ld := eL_ld (l := a) (j := j) (by omega)
            have w5 : IntKind.i64.wrap ((j : Int) + 1) = ((j + 1 : Nat) : Int) := wS (by omega)
            have hv : a.getD j 0 < W256 := by
              rw [List.getD_eq_getElem?_getD, List.getElem?_eq_getElem (show j < a.length by omega)]
              exact haw _ (List.getElem_mem _)
            have hol : out.length = j := hq.n
            cases hrep : decide (ahd a j = some (a.getD j 0)) with
            | true =>
              have hrep := of_decide_eq_true hrep
              have hj0 : 0 < j := by
                rcases Nat.eq_zero_or_pos j with h | h
                · rw [h] at hrep; cases hrep
                · exact h
              have g0 : decide ((0 : Int) < (j : Int)) = true := decide_eq_true (by omega)
              have w6 : IntKind.i64.wrap ((j : Int) - 1) = ((j - 1 : Nat) : Int) := wP hj0 (by omega)
              have ld2 := eL_ld (l := a) (j := j - 1) (by omega)
              have heq : a.getD (j - 1) 0 = a.getD j 0 := by
                unfold ahd at hrep
                rw [if_neg (by omega)] at hrep
                exact Option.some.inj hrep
              rw [heq] at ld2
              obtain ⟨htl, hq2⟩ := hq.rep h0 hla hrep
              have ld3 := eL_ld (l := L) (j := t) htl
              have w7 : IntKind.i64.wrap ((t : Int) + 1) = ((t + 1 : Nat) : Int) := wS (by omega)
              repeat (first | refine DrawVC.intro (by kernel_rfl) ?_ | refine And.intro (by omega) ?_ | exact trivial | simp only [↓PX, SX, SYX, EY, simprocAttr, TYX, UX, guard_un, IOX, b0, ld, hla, g0, w6, ld2, ld3, w5, w7])
              exact ⟨(j + 1, t + 1, out ++ [L.getD t 0]), hq2, (by show x.length - (j + 1) < x.length - j; omega), (St.le_at [(131, 14)] (by simp [-List.getD_eq_getElem?_getD, SYX, iv, Tle, AVle, A0le, Mem.get, ren, idAt, idO, idA, List.map, b1]) (by simp [-List.getD_eq_getElem?_getD, SYX, Mle, Ele, Hle, Mem.get, ren, idAt, idO, idA, List.map, b1]) (by simp [SYX, ren, idAt, idO, idA, List.map, b1]) (by simp [SYX]))⟩
            | false =>
              have hrep := of_decide_eq_false hrep
              have hq2 := hq.new h0 hla hrep
              cases g0 : decide ((0 : Int) < (j : Int)) with
              | false =>
                repeat (first | refine DrawVC.intro (by kernel_rfl) ?_ | refine And.intro (by omega) ?_ | exact trivial | simp only [↓PX, SX, SYX, EY, simprocAttr, TYX, UX, guard_un, IOX, b0, g0, ld, w5])
                exact ⟨(j + 1, t, out ++ [a.getD j 0]), hq2, (by show x.length - (j + 1) < x.length - j; omega), (St.le_at [(131, 14)] (by simp [-List.getD_eq_getElem?_getD, SYX, iv, Tle, AVle, A0le, Mem.get, ren, idAt, idO, idA, List.map, b1]) (by simp [-List.getD_eq_getElem?_getD, SYX, Mle, Ele, Hle, Mem.get, ren, idAt, idO, idA, List.map, b1]) (by simp [SYX, ren, idAt, idO, idA, List.map, b1]) (by simp [SYX]))⟩
              | true =>
                have hj0 : 0 < j := by have := of_decide_eq_true g0; omega
                have w6 : IntKind.i64.wrap ((j : Int) - 1) = ((j - 1 : Nat) : Int) := wP hj0 (by omega)
                have ld2 := eL_ld (l := a) (j := j - 1) (by omega)
                have hne0 : ¬ a.getD j 0 = a.getD (j - 1) 0 := by
                  intro e; apply hrep; unfold ahd; rw [if_neg (by omega), e]
                have hv2 : a.getD (j - 1) 0 < W256 := by
                  rw [List.getD_eq_getElem?_getD, List.getElem?_eq_getElem (show j - 1 < a.length by omega)]
                  exact haw _ (List.getElem_mem _)
                have e6 : eqN (a.getD j 0) (a.getD (j - 1) 0) = false := by
                  rw [eqN_eq hv hv2]; exact beq_eq_false_iff_ne.2 hne0
                repeat (first | refine DrawVC.intro (by kernel_rfl) ?_ | refine And.intro (by omega) ?_ | exact trivial | simp only [↓PX, SX, SYX, EY, simprocAttr, TYX, UX, guard_un, IOX, b0, g0, ld, ld2, w6, e6, w5])
                exact ⟨(j + 1, t, out ++ [a.getD j 0]), hq2, (by show x.length - (j + 1) < x.length - j; omega), (St.le_at [(131, 14)] (by simp [-List.getD_eq_getElem?_getD, SYX, iv, Tle, AVle, A0le, Mem.get, ren, idAt, idO, idA, List.map, b1]) (by simp [-List.getD_eq_getElem?_getD, SYX, Mle, Ele, Hle, Mem.get, ren, idAt, idO, idA, List.map, b1]) (by simp [SYX, ren, idAt, idO, idA, List.map, b1]) (by simp [SYX]))⟩
          · have b0 : decide ((j : Int) < (x.length : Int)) = false := decide_eq_false (by omega)
            have hjn : j = a.length := by omega
            have ho : out = mtc none a L := by
              have := hq.l
              simp only [hjn] at this
              rw [List.drop_length] at this
              simpa [mtc] using this
            rw [← ho, hla]
            repeat (first | refine DrawVC.intro (by kernel_rfl) ?_ | refine And.intro (by omega) ?_ | exact trivial | simp only [↓PX, SX, SYX, EY, simprocAttr, TYX, UX, guard_un, IOX, b0])
      · have b2 : decide ((64 : Int) < (x.length : Int)) = true := decide_eq_true (by omega)
        have e : pm s x y = ([], [], 50) := by unfold pm; rw [if_pos hk, if_neg (by omega)]
        rw [e]
        refine contract_of (N := _) (vars := _) (c := bodyOf Try.f13) Try.func13 (body_eq rfl) rfl rfl (by rfl) mixed _ _ trivial 1000 ?_
        simp only [bodyOf, Try.f13, Option.getD_some, argA, argE, List.length_cons, List.length_nil, Nat.reduceAdd, Nat.reduceSub, List.replicate, List.cons_append, List.nil_append]
        simp only [↓PX, SX, SYX, EY, simprocAttr, TYX, UX, guard_un, IOX]
        simp only [↓PX, SX, SYX, EY, simprocAttr, TYX, UX, guard_un, IOX, d0, dd, b1, b2]
    · have b1 : ((x.length : Int) != (y.length : Int)) = true := by simp; omega
      have e : pm s x y = ([], [], 50) := by unfold pm; rw [if_pos hk, if_neg (by omega)]
      rw [e]
      refine contract_of (N := _) (vars := _) (c := bodyOf Try.f13) Try.func13 (body_eq rfl) rfl rfl (by rfl) mixed _ _ trivial 1000 ?_
      simp only [bodyOf, Try.f13, Option.getD_some, argA, argE, List.length_cons, List.length_nil, Nat.reduceAdd, Nat.reduceSub, List.replicate, List.cons_append, List.nil_append]
      simp only [↓PX, SX, SYX, EY, simprocAttr, TYX, UX, guard_un, IOX]
      simp only [↓PX, SX, SYX, EY, simprocAttr, TYX, UX, guard_un, IOX, d0, dd, b1]
end Go.Sx
