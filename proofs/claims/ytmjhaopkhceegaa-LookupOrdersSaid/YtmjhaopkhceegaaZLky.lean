/-
  LookupOrders. No conditions.
-/
import Derived.Test.YtmjhaopkhceegaaZLkv
import Derived.Test.YtmjhaopkhceegaaZLkr
namespace Go.Sx
open Go.Proofs Go.Num
-- SY
-- TY: TYX, UX, guard_un
set_option maxRecDepth 100000
set_option linter.unusedSimpArgs false
set_option pp.deepTerms true
set_option pp.maxSteps 100000
/-- How often an element is in a list. -/
def cnt (s : Int) (l : List Nat) (v : Nat) : Nat := l.countP fun x => x % md s == v % md s
theorem cnt_snoc {s : Int} {l : List Nat} {x v : Nat} : cnt s (l ++ [x]) v = cnt s l v + if (x % md s == v % md s) = true then 1 else 0 := by
  simp [cnt, List.countP_append, List.countP_cons]
theorem cnt_le {s : Int} {l : List Nat} {v : Nat} : cnt s l v ≤ l.length := List.countP_le_length
theorem cnt_perm {s : Int} {l r : List Nat} {v : Nat} (h : l.Perm r) : cnt s l v = cnt s r v := h.countP_eq _
theorem cnt_rsd {s : Int} {l : List Nat} {v : Nat} : cnt s (rsd s l) v = cnt s l v := by
  unfold cnt rsd
  rw [List.countP_map]
  congr 1
  funext x
  simp
theorem sb_eq0 {s : Int} {x y : Nat} : eqN (sb (md s) x y) 0 = (x % md s == y % md s) := by
  rw [eqN_eq (sb_w s _ _) (by decide), Bool.eq_iff_iff, beq_iff_eq, beq_iff_eq, ← κ_inj, ← Nat.mod_eq_of_lt (show sb (md s) x y < md s from md_mod s _), ← κ_eq0, κ_sb]
  constructor
  · intro h; grind
  · intro h; rw [h]; grind
theorem c_count (s : Int) (l : List Nat) (v : Nat) (hl : ∀ x ∈ l, x < W256) (hv : v < W256) (hb : l.length ≤ 1000) :
    Contract Try.prog 17 [.val (.int .i64 s), .sl l.length 4 (LC eC l), .val (EN v)] [.val (.int .i64 (cnt s l v : Nat))] := by
  refine contract_of (N := _) (vars := _) (c := bodyOf Try.f17) Try.func17 (body_eq rfl) rfl rfl (by rfl) mixed _ _ trivial 1000 ?_
  simp only [bodyOf, Try.f17, Option.getD_some, argA, argE, List.length_cons, List.length_nil, Nat.reduceAdd, Nat.reduceSub, List.replicate, List.cons_append, List.nil_append]
  simp only [↓PX, SX, SYX, EY, simprocAttr, TYX, UX, guard_un]
  refine loop_hav ?_
  simp only [↓PX, SX, SYX, EY, simprocAttr, TYX, UX, guard_un]
  refine loop_go mixed (by trivial) (γ := Nat) (fun i => i ≤ l.length) (fun i => l.length - i) (fun i => [(9, iv i), (7, iv (cnt s (l.take i) v))]) (fun i => []) 0 (Nat.zero_le _) (St.le_of id (by simp [-List.getD_eq_getElem?_getD, SYX, iv, Tle, AVle, A0le, Mem.get, cnt]) (by simp [-List.getD_eq_getElem?_getD, SYX, Mle, Ele, Hle, Tle, AVle, A0le, Mem.get, cnt]) (by simp [SYX]) (by simp [SYX])) ?_
  intro i hi
  by_cases h0 : i < l.length
  · have b0 : decide ((i : Int) < (l.length : Int)) = true := decide_eq_true (by omega)
    have ld := eL_ld (l := l) (j := i) h0
    have w5 : IntKind.i64.wrap ((i : Int) + 1) = ((i + 1 : Nat) : Int) := wS (by omega)
    have hx : l.getD i 0 < W256 := by
      rw [List.getD_eq_getElem?_getD, List.getElem?_eq_getElem h0]
      exact hl _ (List.getElem_mem _)
    have cl := cnt_le (s := s) (l := l.take i) (v := v)
    rw [List.length_take] at cl
    have w6 : IntKind.i64.wrap ((cnt s (l.take i) v : Nat) + 1 : Int) = ((cnt s (l.take i) v + 1 : Nat) : Int) := wS (by omega)
    have es := cnt_snoc (s := s) (l := l.take i) (x := l.getD i 0) (v := v)
    rw [← take_snoc h0] at es
    have e1 := sb_eq0 (s := s) (x := l.getD i 0) (y := v)
    repeat (first | refine DrawVC.intro (by kernel_rfl) ?_ | refine And.intro (by omega) ?_ | exact trivial | simp only [↓PX, SX, SYX, EY, simprocAttr, TYX, UX, guard_un, b0, ld])
    refine CallVC.intro (u_Sub' s (l.getD i 0) v hx hv) ⟨rfl, rfl, rfl, trivial⟩ rfl rfl ?_
    simp only [↓PX, SX, SYX, EY, simprocAttr, TYX, UX, guard_un, e1]
    cases e2 : (l.getD i 0 % md s == v % md s) with
    | true =>
      rw [e2, if_pos rfl] at es
      repeat (first | refine DrawVC.intro (by kernel_rfl) ?_ | refine And.intro (by omega) ?_ | exact trivial | simp only [↓PX, SX, SYX, EY, simprocAttr, TYX, UX, guard_un, e2, w5, w6])
      exact ⟨i + 1, h0, by omega, (St.le_of id (by simp [-List.getD_eq_getElem?_getD, SYX, iv, Tle, AVle, A0le, Mem.get, es]) (by simp [-List.getD_eq_getElem?_getD, SYX, Mle, Ele, Hle, Tle, AVle, A0le, Mem.get, es]) (by simp [SYX]) (by simp [SYX]))⟩
    | false =>
      rw [e2, if_neg (by decide), Nat.add_zero] at es
      repeat (first | refine DrawVC.intro (by kernel_rfl) ?_ | refine And.intro (by omega) ?_ | exact trivial | simp only [↓PX, SX, SYX, EY, simprocAttr, TYX, UX, guard_un, e2, w5])
      exact ⟨i + 1, h0, by omega, (St.le_of id (by simp [-List.getD_eq_getElem?_getD, SYX, iv, Tle, AVle, A0le, Mem.get, es]) (by simp [-List.getD_eq_getElem?_getD, SYX, Mle, Ele, Hle, Tle, AVle, A0le, Mem.get, es]) (by simp [SYX]) (by simp [SYX]))⟩
  · have b0 : decide ((i : Int) < (l.length : Int)) = false := decide_eq_false (by omega)
    have hin : i = l.length := by omega
    subst hin
    have ef : List.take l.length l = l := List.take_length
    repeat (first | refine DrawVC.intro (by kernel_rfl) ?_ | refine And.intro (by omega) ?_ | exact trivial | simp only [↓PX, SX, SYX, EY, simprocAttr, TYX, UX, guard_un, b0, ef])
/-! ### the order -/
theorem pm_ok {s : Int} {x y : List Nat} (h : (pm s x y).2.2 = 0) : ∃ L, x.length = y.length ∧ lft none (asc (rsd s x)) (asc (rsd s y)) = some L ∧ pm s x y = (asc (rsd s x), mtc none (asc (rsd s x)) L, 0) ∧ x.length ≤ 64 := by
  unfold pm at h ⊢
  split at h
  · split at h
    · rename_i h1 h2
      cases hf : lft none (asc (rsd s x)) (asc (rsd s y)) with
      | none => rw [hf] at h; cases h
      | some L => exact ⟨L, h2.1, rfl, by rw [if_pos h1, if_pos h2], h2.2⟩
    · cases h
  · cases h
theorem rsd_len {s : Int} {l : List Nat} : (rsd s l).length = l.length := List.length_map _
theorem pm_perm {s : Int} {x y L : List Nat} (hxy : x.length = y.length) (h : lft none (asc (rsd s x)) (asc (rsd s y)) = some L) : (mtc none (asc (rsd s x)) L).Perm (rsd s y) := by
  have h1 := lft_perm h
  have h2 := h1.length_eq
  rw [List.length_append, asc_len, rsd_len] at h2
  have h3 := mtc_perm (a := asc (rsd s x)) (p := none) (l := L) (by rw [asc_len, rsd_len]; omega)
  exact h3.trans (h1.symm.trans (asc_perm _))
theorem pm_bad {s : Int} {x y : List Nat} (h : (pm s x y).2.2 = 200) : ∃ i, i < x.length ∧ cnt s y (x.getD i 0) = 0 := by
  unfold pm at h
  split at h
  · split at h
    · cases hf : lft none (asc (rsd s x)) (asc (rsd s y)) with
      | some L => rw [hf] at h; cases h
      | none =>
        obtain ⟨w, h1, _, h3⟩ := lft_none (asc_pw _) (fun v hv => by cases hv) hf
        rw [asc_mem] at h1 h3
        obtain ⟨z, hz, rfl⟩ := List.mem_map.1 h1
        obtain ⟨i, hi, rfl⟩ := List.getElem_of_mem hz
        refine ⟨i, hi, ?_⟩
        rw [List.getD_eq_getElem?_getD, List.getElem?_eq_getElem hi]
        unfold cnt
        rw [List.countP_eq_zero]
        intro t ht
        rw [beq_iff_eq]
        intro e
        exact h3 (List.mem_map.2 ⟨t, ht, e⟩)
    · cases h
  · cases h
theorem pm_e {s : Int} {x y : List Nat} : (pm s x y).2.2 = 0 ∨ (pm s x y).2.2 = 200 ∨ ((pm s x y).1 = [] ∧ (pm s x y).2.1 = [] ∧ (pm s x y).2.2 ≠ 0 ∧ (pm s x y).2.2 ≠ 200) := by
  unfold pm
  split
  · split
    · cases hf : lft none (asc (rsd s x)) (asc (rsd s y)) with
      | some L => exact .inl rfl
      | none => exact .inr (.inl rfl)
    · exact .inr (.inr ⟨rfl, rfl, by decide, by decide⟩)
  · exact .inr (.inr ⟨rfl, rfl, by decide, by decide⟩)
set_option maxHeartbeats 1600000 in
theorem c_LookupOrders (s : Int) (x y : List Nat) (hx : ∀ z ∈ x, z < W256) (hy : ∀ z ∈ y, z < W256) (hbx : x.length * 32 ≤ 140737488351232) (hby : y.length * 32 ≤ 140737488351232) :
    Contract Try.prog 4 [.val (.int .i64 s), .sl x.length 4 (LC eC x), .sl y.length 4 (LC eC y)] [.val (.bool true)] := by
  cases d0 : decide ((64 : Int) < (x.length : Int)) with
  | true =>
    refine contract_of (N := _) (vars := _) (c := bodyOf Try.f4) Try.func4 (body_eq rfl) rfl rfl (by rfl) mixed _ _ trivial 1000 ?_
    simp only [bodyOf, Try.f4, Option.getD_some, argA, argE, List.length_cons, List.length_nil, Nat.reduceAdd, Nat.reduceSub, List.replicate, List.cons_append, List.nil_append]
    simp only [↓PX, SX, SYX, EY, simprocAttr, TYX, UX, guard_un]
    refine CallVC.intro (c_alive17) trivial rfl rfl ?_
    simp only [↓PX, SX, SYX, EY, simprocAttr, TYX, UX, guard_un, d0]
  | false =>
  cases d1 : decide ((64 : Int) < (y.length : Int)) with
  | true =>
    refine contract_of (N := _) (vars := _) (c := bodyOf Try.f4) Try.func4 (body_eq rfl) rfl rfl (by rfl) mixed _ _ trivial 1000 ?_
    simp only [bodyOf, Try.f4, Option.getD_some, argA, argE, List.length_cons, List.length_nil, Nat.reduceAdd, Nat.reduceSub, List.replicate, List.cons_append, List.nil_append]
    simp only [↓PX, SX, SYX, EY, simprocAttr, TYX, UX, guard_un]
    refine CallVC.intro (c_alive17) trivial rfl rfl ?_
    simp only [↓PX, SX, SYX, EY, simprocAttr, TYX, UX, guard_un, d0, d1]
  | false =>
    have q := of_decide_eq_false d0
    have q2 := of_decide_eq_false d1
    obtain ⟨p1, p2⟩ := pm_w (s := s) (x := x) (y := y)
    obtain ⟨l1, l2⟩ := pm_len (s := s) (x := x) (y := y)
    have cu := u_Permute s x y hx hy hbx hby
    rcases pm_e (s := s) (x := x) (y := y) with h | h | ⟨h1, h2, h3, h4⟩
    · obtain ⟨L, hxy, hf, e, _⟩ := pm_ok h
      have hperm := pm_perm hxy hf
      have hal : (asc (rsd s x)).length = x.length := by rw [asc_len, rsd_len]
      have hml : (mtc none (asc (rsd s x)) L).length = x.length := by rw [mtc_len, hal]
      rw [e] at cu
      have cu : Contract Try.prog 12 [.val (.int .i64 s), .sl x.length 4 (LC eC x), .sl y.length 4 (LC eC y)] [.row 24 4 (asc (rsd s x)).length (LC eC (asc (rsd s x))), .row 24 4 (mtc none (asc (rsd s x)) L).length (LC eC (mtc none (asc (rsd s x)) L)), .val (.int .i64 0)] := cu
      rw [hal, hml] at cu
      refine contract_of (N := _) (vars := _) (c := bodyOf Try.f4) Try.func4 (body_eq rfl) rfl rfl (by rfl) mixed _ _ trivial 1000 ?_
      simp only [bodyOf, Try.f4, Option.getD_some, argA, argE, List.length_cons, List.length_nil, Nat.reduceAdd, Nat.reduceSub, List.replicate, List.cons_append, List.nil_append]
      simp only [↓PX, SX, SYX, EY, simprocAttr, TYX, UX, guard_un]
      refine CallVC.intro (c_alive17) trivial rfl rfl ?_
      simp only [↓PX, SX, SYX, EY, simprocAttr, TYX, UX, guard_un, d0, d1]
      refine CallVC.intro (c_CopyElems x (by omega)) ⟨(by simp only [argMatch, SX, SYX, EY, simprocAttr, and_self, List.length_append, List.length_map, List.length_set, TYX, UX, guard_un]), trivial⟩ rfl rfl ?_
      simp only [↓PX, SX, SYX, EY, simprocAttr, TYX, UX, guard_un]
      refine CallVC.intro (c_CopyElems y (by omega)) ⟨(by simp only [argMatch, SX, SYX, EY, simprocAttr, and_self, List.length_append, List.length_map, List.length_set, TYX, UX, guard_un]), trivial⟩ rfl rfl ?_
      simp only [↓PX, SX, SYX, EY, simprocAttr, TYX, UX, guard_un]
      refine CallVC.intro (cu) ⟨rfl, (by simp only [argMatch, SX, SYX, EY, simprocAttr, and_self, List.length_append, List.length_map, List.length_set, TYX, UX, guard_un]), (by simp only [argMatch, SX, SYX, EY, simprocAttr, and_self, List.length_append, List.length_map, List.length_set, TYX, UX, guard_un]), trivial⟩ rfl rfl ?_
      simp only [↓PX, SX, SYX, EY, simprocAttr, TYX, UX, guard_un]
      refine loop_hav ?_
      simp only [↓PX, SX, SYX, EY, simprocAttr, TYX, UX, guard_un]
      refine loop_go mixed (by trivial) (γ := Nat) (fun i => i ≤ x.length) (fun i => x.length - i) (fun i => [(11, iv i)]) (fun i => []) 0 (Nat.zero_le _) (St.le_of id (by simp [-List.getD_eq_getElem?_getD, SYX, iv, Tle, AVle, A0le, Mem.get]) (by simp [-List.getD_eq_getElem?_getD, SYX, Mle, Ele, Hle, Tle, AVle, A0le, Mem.get]) (by simp [SYX]) (by simp [SYX])) ?_
      intro i hi
      have haw := asc_rw (s := s) (l := x)
      rw [e] at p2
      have hmw : ∀ z ∈ mtc none (asc (rsd s x)) L, z < W256 := p2
      have hat := mtc_at (a := asc (rsd s x)) (p := none) (l := L) (i := i)
      have ca : ∀ v, cnt s (asc (rsd s x)) v = cnt s x v := fun v => by rw [cnt_perm (asc_perm _), cnt_rsd]
      have cb : ∀ v, cnt s (mtc none (asc (rsd s x)) L) v = cnt s y v := fun v => by rw [cnt_perm hperm, cnt_rsd]
      rw [hal] at hat
      generalize asc (rsd s x) = A at *
      generalize mtc none A L = B at *
      by_cases h0 : i < x.length
      · have b0 : decide ((i : Int) < (x.length : Int)) = true := decide_eq_true (by omega)
        have ldA := eL_ld (l := A) (j := i) (by omega)
        have ldB := eL_ld (l := B) (j := i) (by omega)
        have hA : A.getD i 0 < W256 := by
          rw [List.getD_eq_getElem?_getD, List.getElem?_eq_getElem (show i < A.length by omega)]
          exact haw _ (List.getElem_mem _)
        have hB : B.getD i 0 < W256 := by
          rw [List.getD_eq_getElem?_getD, List.getElem?_eq_getElem (show i < B.length by omega)]
          exact hmw _ (List.getElem_mem _)
        have w5 : IntKind.i64.wrap ((i : Int) + 1) = ((i + 1 : Nat) : Int) := wS (by omega)
        have c1 := c_count s x (A.getD i 0) hx hA (by omega)
        have c2 := c_count s A (A.getD i 0) haw hA (by omega)
        have c3 := c_count s y (B.getD i 0) hy hB (by omega)
        have c4 := c_count s B (B.getD i 0) hmw hB (by omega)
        rw [ca, hal] at c2
        rw [cb, hml] at c4
        have hAt := hat (by omega)
        cases eR : eqN (A.getD i 0) (B.getD i 0) with
        | true =>
          repeat (first | refine DrawVC.intro (by kernel_rfl) ?_ | refine And.intro (by omega) ?_ | exact trivial | simp only [↓PX, SX, SYX, EY, simprocAttr, TYX, UX, guard_un, b0, ldA, ldB])
          refine CallVC.intro (c1) ⟨rfl, (by simp only [argMatch, SX, SYX, EY, simprocAttr, and_self, List.length_append, List.length_map, List.length_set, TYX, UX, guard_un, hal]), rfl, trivial⟩ rfl rfl ?_
          simp only [↓PX, SX, SYX, EY, simprocAttr, TYX, UX, guard_un, hal]
          repeat (first | refine DrawVC.intro (by kernel_rfl) ?_ | refine And.intro (by omega) ?_ | exact trivial | simp only [↓PX, SX, SYX, EY, simprocAttr, TYX, UX, guard_un, ldA, hal])
          refine CallVC.intro (c2) ⟨rfl, (by simp only [argMatch, SX, SYX, EY, simprocAttr, and_self, List.length_append, List.length_map, List.length_set, TYX, UX, guard_un, bne_self_eq_false, hal]), rfl, trivial⟩ rfl rfl ?_
          simp only [↓PX, SX, SYX, EY, simprocAttr, TYX, UX, guard_un, bne_self_eq_false, hal]
          repeat (first | refine DrawVC.intro (by kernel_rfl) ?_ | refine And.intro (by omega) ?_ | exact trivial | simp only [↓PX, SX, SYX, EY, simprocAttr, TYX, UX, guard_un, ldB, hml])
          refine CallVC.intro (c3) ⟨rfl, (by simp only [argMatch, SX, SYX, EY, simprocAttr, and_self, List.length_append, List.length_map, List.length_set, TYX, UX, guard_un]), rfl, trivial⟩ rfl rfl ?_
          simp only [↓PX, SX, SYX, EY, simprocAttr, TYX, UX, guard_un]
          repeat (first | refine DrawVC.intro (by kernel_rfl) ?_ | refine And.intro (by omega) ?_ | exact trivial | simp only [↓PX, SX, SYX, EY, simprocAttr, TYX, UX, guard_un, ldB, hml])
          refine CallVC.intro (c4) ⟨rfl, (by simp only [argMatch, SX, SYX, EY, simprocAttr, and_self, List.length_append, List.length_map, List.length_set, TYX, UX, guard_un, bne_self_eq_false, ldA, ldB, hal, hml, eR]), rfl, trivial⟩ rfl rfl ?_
          simp only [↓PX, SX, SYX, EY, simprocAttr, TYX, UX, guard_un, bne_self_eq_false, ldA, ldB, hal, hml, eR]
          repeat (first | refine DrawVC.intro (by kernel_rfl) ?_ | refine And.intro (by omega) ?_ | exact trivial | simp only [↓PX, SX, SYX, EY, simprocAttr, TYX, UX, guard_un, ldA, ldB, hal, hml, eR, w5])
          exact ⟨i + 1, h0, by omega, (St.le_of id (by simp [-List.getD_eq_getElem?_getD, SYX, iv, Tle, AVle, A0le, Mem.get]) (by simp [-List.getD_eq_getElem?_getD, SYX, Mle, Ele, Hle, Tle, AVle, A0le, Mem.get]) (by simp [SYX]) (by simp [SYX]))⟩
        | false =>
          have hne : B.getD i 0 ≠ A.getD i 0 := by
            rw [eqN_eq hA hB] at eR; exact fun e => beq_eq_false_iff_ne.1 eR e.symm
          have h6 := hAt.resolve_left hne
          have hi0 : i ≠ 0 := by
            intro e; rw [if_pos e] at h6; cases h6
          rw [if_neg hi0] at h6
          have g0 : ((i : Int) == 0) = false := by rw [beq_eq_false_iff_ne]; omega
          have w6 : IntKind.i64.wrap ((i : Int) - 1) = ((i - 1 : Nat) : Int) := wP (by omega) (by omega)
          have ld2 := eL_ld (l := A) (j := i - 1) (by omega)
          rw [h6] at ld2
          have e7 := eqN_self (a := A.getD i 0)
          repeat (first | refine DrawVC.intro (by kernel_rfl) ?_ | refine And.intro (by omega) ?_ | exact trivial | simp only [↓PX, SX, SYX, EY, simprocAttr, TYX, UX, guard_un, b0, ldA, ldB])
          refine CallVC.intro (c1) ⟨rfl, (by simp only [argMatch, SX, SYX, EY, simprocAttr, and_self, List.length_append, List.length_map, List.length_set, TYX, UX, guard_un, hal]), rfl, trivial⟩ rfl rfl ?_
          simp only [↓PX, SX, SYX, EY, simprocAttr, TYX, UX, guard_un, hal]
          repeat (first | refine DrawVC.intro (by kernel_rfl) ?_ | refine And.intro (by omega) ?_ | exact trivial | simp only [↓PX, SX, SYX, EY, simprocAttr, TYX, UX, guard_un, ldA, hal])
          refine CallVC.intro (c2) ⟨rfl, (by simp only [argMatch, SX, SYX, EY, simprocAttr, and_self, List.length_append, List.length_map, List.length_set, TYX, UX, guard_un, bne_self_eq_false, hal]), rfl, trivial⟩ rfl rfl ?_
          simp only [↓PX, SX, SYX, EY, simprocAttr, TYX, UX, guard_un, bne_self_eq_false, hal]
          repeat (first | refine DrawVC.intro (by kernel_rfl) ?_ | refine And.intro (by omega) ?_ | exact trivial | simp only [↓PX, SX, SYX, EY, simprocAttr, TYX, UX, guard_un, ldB, hml])
          refine CallVC.intro (c3) ⟨rfl, (by simp only [argMatch, SX, SYX, EY, simprocAttr, and_self, List.length_append, List.length_map, List.length_set, TYX, UX, guard_un]), rfl, trivial⟩ rfl rfl ?_
          simp only [↓PX, SX, SYX, EY, simprocAttr, TYX, UX, guard_un]
          repeat (first | refine DrawVC.intro (by kernel_rfl) ?_ | refine And.intro (by omega) ?_ | exact trivial | simp only [↓PX, SX, SYX, EY, simprocAttr, TYX, UX, guard_un, ldB, hml])
          refine CallVC.intro (c4) ⟨rfl, (by simp only [argMatch, SX, SYX, EY, simprocAttr, and_self, List.length_append, List.length_map, List.length_set, TYX, UX, guard_un, bne_self_eq_false, ldA, ldB, hal, hml, eR, g0, w6, ld2, e7]), rfl, trivial⟩ rfl rfl ?_
          simp only [↓PX, SX, SYX, EY, simprocAttr, TYX, UX, guard_un, bne_self_eq_false, ldA, ldB, hal, hml, eR, g0, w6, ld2, e7]
          repeat (first | refine DrawVC.intro (by kernel_rfl) ?_ | refine And.intro (by omega) ?_ | exact trivial | simp only [↓PX, SX, SYX, EY, simprocAttr, TYX, UX, guard_un, ldA, ldB, hal, hml, eR, w5, g0, w6, ld2, e7])
          exact ⟨i + 1, h0, by omega, (St.le_of id (by simp [-List.getD_eq_getElem?_getD, SYX, iv, Tle, AVle, A0le, Mem.get]) (by simp [-List.getD_eq_getElem?_getD, SYX, Mle, Ele, Hle, Tle, AVle, A0le, Mem.get]) (by simp [SYX]) (by simp [SYX]))⟩
      · have b0 : decide ((i : Int) < (x.length : Int)) = false := decide_eq_false (by omega)
        repeat (first | refine DrawVC.intro (by kernel_rfl) ?_ | refine And.intro (by omega) ?_ | exact trivial | simp only [↓PX, SX, SYX, EY, simprocAttr, TYX, UX, guard_un, b0])
    · obtain ⟨i0, hi0, hc0⟩ := pm_bad h
      rw [h] at cu
      refine contract_of (N := _) (vars := _) (c := bodyOf Try.f4) Try.func4 (body_eq rfl) rfl rfl (by rfl) mixed _ _ trivial 1000 ?_
      simp only [bodyOf, Try.f4, Option.getD_some, argA, argE, List.length_cons, List.length_nil, Nat.reduceAdd, Nat.reduceSub, List.replicate, List.cons_append, List.nil_append]
      simp only [↓PX, SX, SYX, EY, simprocAttr, TYX, UX, guard_un]
      refine CallVC.intro (c_alive17) trivial rfl rfl ?_
      simp only [↓PX, SX, SYX, EY, simprocAttr, TYX, UX, guard_un, d0, d1]
      refine CallVC.intro (c_CopyElems x (by omega)) ⟨(by simp only [argMatch, SX, SYX, EY, simprocAttr, and_self, List.length_append, List.length_map, List.length_set, TYX, UX, guard_un]), trivial⟩ rfl rfl ?_
      simp only [↓PX, SX, SYX, EY, simprocAttr, TYX, UX, guard_un]
      refine CallVC.intro (c_CopyElems y (by omega)) ⟨(by simp only [argMatch, SX, SYX, EY, simprocAttr, and_self, List.length_append, List.length_map, List.length_set, TYX, UX, guard_un]), trivial⟩ rfl rfl ?_
      simp only [↓PX, SX, SYX, EY, simprocAttr, TYX, UX, guard_un]
      refine CallVC.intro (cu) ⟨rfl, (by simp only [argMatch, SX, SYX, EY, simprocAttr, and_self, List.length_append, List.length_map, List.length_set, TYX, UX, guard_un]), (by simp only [argMatch, SX, SYX, EY, simprocAttr, and_self, List.length_append, List.length_map, List.length_set, TYX, UX, guard_un]), trivial⟩ rfl rfl ?_
      simp only [↓PX, SX, SYX, EY, simprocAttr, TYX, UX, guard_un]
      refine loop_hav ?_
      simp only [↓PX, SX, SYX, EY, simprocAttr, TYX, UX, guard_un]
      refine loop_go mixed (by trivial) (γ := Nat) (fun i => i ≤ i0) (fun i => x.length - i) (fun i => [(10, iv i)]) (fun i => []) 0 (Nat.zero_le _) (St.le_of id (by simp [-List.getD_eq_getElem?_getD, SYX, iv, Tle, AVle, A0le, Mem.get]) (by simp [-List.getD_eq_getElem?_getD, SYX, Mle, Ele, Hle, Tle, AVle, A0le, Mem.get]) (by simp [SYX]) (by simp [SYX])) ?_
      intro i hi
      have b0 : decide ((i : Int) < (x.length : Int)) = true := decide_eq_true (by omega)
      have ld := eL_ld (l := x) (j := i) (by omega)
      have hv : x.getD i 0 < W256 := by
        rw [List.getD_eq_getElem?_getD, List.getElem?_eq_getElem (show i < x.length by omega)]
        exact hx _ (List.getElem_mem _)
      have w5 : IntKind.i64.wrap ((i : Int) + 1) = ((i + 1 : Nat) : Int) := wS (by omega)
      repeat (first | refine DrawVC.intro (by kernel_rfl) ?_ | refine And.intro (by omega) ?_ | exact trivial | simp only [↓PX, SX, SYX, EY, simprocAttr, TYX, UX, guard_un, b0, ld])
      refine CallVC.intro (c_count s y (x.getD i 0) hy hv (by omega)) ⟨rfl, (by simp only [argMatch, SX, SYX, EY, simprocAttr, and_self, List.length_append, List.length_map, List.length_set, TYX, UX, guard_un]), rfl, trivial⟩ rfl rfl ?_
      simp only [↓PX, SX, SYX, EY, simprocAttr, TYX, UX, guard_un]
      refine cond_split (fun h5 => ?_) (fun h5 => ?_)
      · simp only [↓PX, SX, SYX, EY, simprocAttr, TYX, UX, guard_un]
      · have h5 : cnt s y (x.getD i 0) ≠ 0 := by
          have := beq_eq_false_iff_ne.1 h5
          omega
        repeat (first | refine DrawVC.intro (by kernel_rfl) ?_ | refine And.intro (by omega) ?_ | exact trivial | simp only [↓PX, SX, SYX, EY, simprocAttr, TYX, UX, guard_un, w5])
        exact ⟨i + 1, by
          rcases Nat.lt_or_ge i i0 with h6 | h6
          · exact h6
          · have : i = i0 := by omega
            rw [this] at h5; exact absurd hc0 h5, by omega, (St.le_of id (by simp [-List.getD_eq_getElem?_getD, SYX, iv, Tle, AVle, A0le, Mem.get]) (by simp [-List.getD_eq_getElem?_getD, SYX, Mle, Ele, Hle, Tle, AVle, A0le, Mem.get]) (by simp [SYX]) (by simp [SYX]))⟩
    · rw [h1, h2] at cu
      have b3 : ((pm s x y).2.2 != 0) = true := bne_iff_ne.2 h3
      have b4 : ((pm s x y).2.2 != 200) = true := bne_iff_ne.2 h4
      refine contract_of (N := _) (vars := _) (c := bodyOf Try.f4) Try.func4 (body_eq rfl) rfl rfl (by rfl) mixed _ _ trivial 1000 ?_
      simp only [bodyOf, Try.f4, Option.getD_some, argA, argE, List.length_cons, List.length_nil, Nat.reduceAdd, Nat.reduceSub, List.replicate, List.cons_append, List.nil_append]
      simp only [↓PX, SX, SYX, EY, simprocAttr, TYX, UX, guard_un]
      refine CallVC.intro (c_alive17) trivial rfl rfl ?_
      simp only [↓PX, SX, SYX, EY, simprocAttr, TYX, UX, guard_un, d0, d1]
      refine CallVC.intro (c_CopyElems x (by omega)) ⟨(by simp only [argMatch, SX, SYX, EY, simprocAttr, and_self, List.length_append, List.length_map, List.length_set, TYX, UX, guard_un]), trivial⟩ rfl rfl ?_
      simp only [↓PX, SX, SYX, EY, simprocAttr, TYX, UX, guard_un]
      refine CallVC.intro (c_CopyElems y (by omega)) ⟨(by simp only [argMatch, SX, SYX, EY, simprocAttr, and_self, List.length_append, List.length_map, List.length_set, TYX, UX, guard_un]), trivial⟩ rfl rfl ?_
      simp only [↓PX, SX, SYX, EY, simprocAttr, TYX, UX, guard_un]
      refine CallVC.intro (cu) ⟨rfl, (by simp only [argMatch, SX, SYX, EY, simprocAttr, and_self, List.length_append, List.length_map, List.length_set, TYX, UX, guard_un, b3, b4]), (by simp only [argMatch, SX, SYX, EY, simprocAttr, and_self, List.length_append, List.length_map, List.length_set, TYX, UX, guard_un, b3, b4]), trivial⟩ rfl rfl ?_
      simp only [↓PX, SX, SYX, EY, simprocAttr, TYX, UX, guard_un, b3, b4]
      trace_state
end Go.Sx
